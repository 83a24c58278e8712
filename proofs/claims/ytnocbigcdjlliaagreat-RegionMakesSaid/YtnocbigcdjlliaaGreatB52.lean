/-
  Texts of this proof, one behind the other: FAll, Sets4, GCells2, OpenRow.
-/
import Derived.Deep.Cut
import Derived.Test.YtnocbigcdjlliaaGreatB39
import Derived.Test.YtnocbigcdjlliaaGreatB45
import Derived.Test.YtnocbigcdjlliaaGreatB47
import Derived.Test.YtnocbigcdjlliaaGreatB48
import Derived.Test.YtnocbigcdjlliaaGreatB46
import Derived.Test.YtnocbigcdjlliaaGreatB25
set_option linter.unusedVariables false
/-
  The reference's All.
-/
namespace Go.Proofs.YtnocbigcdjlliaaGreat
open Go.RowKit
set_option maxRecDepth 100000
open Rg

set_option maxHeartbeats 2000000 in
theorem fAll_any (x : Int) (w : World) : Calls Tryz.prog 51 #[.int .i64 x] w fun e w' => RgRes w (allRes x) (allErr x) e w' := by
  have HT := Lib.hid (Blk.new w 28 #[.int .i64 0, .bool false, .slice none 0 0])
  have HB0 := Lib.hid ((Below.refl w.heap.size w).alloc (Nat.le_refl _) (.cells #[.int .i64 0, .bool false, .slice none 0 0] 28))
  obtain ⟨W0, HW0⟩ : ∃ W : World, Hid (w.alloc (.cells #[.int .i64 0, .bool false, .slice none 0 0] 28) = W) := ⟨_, rfl⟩
  rw [HW0.out] at HT HB0
  rcases Int.lt_or_le x 0 with h0 | h0
  · have g1 : decide (x < 0) = true := by simp; omega
    rw [allRes, allErr, if_neg (by omega), if_neg (by omega)]
    go_enter Tryz.func51, Tryz.ntmps51
    go_wp2
    refine bodyPost_ret (v := .tuple #[.agg #[.int .i64 0, .bool false, .slice none 0 0], .int .i64 1]) (by simp [results, Tryz.results51, go_sem]) rfl ⟨0, false, none, 0, 0, rfl, RgS.nil _ _, ?_⟩
    repeat (first | exact Below.refl _ _ | refine Below.setCell ?_ (by simp) _ | refine Below.alloc ?_ (by simp) _)
  · have g1 : decide (x < 0) = false := by simp; omega
    rcases Int.lt_or_le 12 x with h1 | h1
    · have g2 : decide (12 < x) = true := by simp; omega
      rw [allRes, allErr, if_neg (by omega), if_neg (by omega)]
      go_enter Tryz.func51, Tryz.ntmps51
      go_wp2
      refine bodyPost_ret (v := .tuple #[.agg #[.int .i64 0, .bool false, .slice none 0 0], .int .i64 1]) (by simp [results, Tryz.results51, go_sem]) rfl ⟨0, false, none, 0, 0, rfl, RgS.nil _ _, ?_⟩
      repeat (first | exact Below.refl _ _ | refine Below.setCell ?_ (by simp) _ | refine Below.alloc ?_ (by simp) _)
    · have g2 : decide (12 < x) = false := by simp; omega
      rw [allRes, allErr, if_pos ⟨h0, h1⟩, if_pos ⟨h0, h1⟩]
      obtain ⟨n, rfl⟩ := Int.eq_ofNat_of_zero_le h0
      have hn : n ≤ 12 := by omega
      rw [Int.toNat_natCast]
      clear h0 h1
      go_enter Tryz.func51, Tryz.ntmps51
      go_upto_region 3 with fail
      rw [HW0.out]
      go_wp2_with fail
      refine (fall_any n hn _).mono ?_
      rintro e w1 ⟨A1, c1, rfl, ⟨ps, hps, hpm⟩, hb1⟩
      have HPS := Lib.hid hps
      have HPM := Lib.hid hpm
      have HB1 := Lib.hid (Below.next HB0.out hb1)
      have HT1 := Lib.hid (HT.out.below hb1)
      clear hps hpm hb1 HB0 HT
      go_wp2_with fail
      refine (fbox_any A1 n c1 ps _ HPS.out hn).mono ?_
      rintro e w3 ⟨x3, f3, A3, n3, c3, rfl, hR3, hb3⟩
      rw [HPM.out] at hR3
      have hR3' : RgS w3 x3 f3 A3 n3 c3 (allR n) := hR3
      have HT3 := Lib.hid (HT1.out.below hb3)
      have HB3 := Lib.hid (Below.next HB1.out hb3)
      have HRr := Lib.hid (RgS.off HT3.out (put3R_but _ w.heap.size (.int .i64 x3) (.bool f3) (.slice A3 n3 c3)) hR3')
      clear hR3 hR3' hb3
      have zr := HT3.out.cell
      obtain ⟨ff1, ff2, ff3⟩ := put3R_free HT3.out (.int .i64 x3) (.bool f3)
      have y3 := (put3R_blk (a' := .int .i64 x3) (b' := .bool f3) (c' := .slice A3 n3 c3) HT3.out).cell
      have y1 := (HT3.out.set_ 0 (.int .i64 x3)).cell
      have y2 := ((HT3.out.set_ 0 (.int .i64 x3)).set_ 1 (.bool f3)).cell
      have HBr := Lib.hid (put3R_below HB3.out (Nat.le_refl _) (.int .i64 x3) (.bool f3) (.slice A3 n3 c3))
      unfold put3R at y3
      go_wp2
      exact bodyPost_ret (v := .tuple #[.agg #[.int .i64 x3, .bool f3, .slice A3 n3 c3], .int .i64 0]) (by simp [results, Tryz.results51, go_sem, y3]) rfl ⟨x3, f3, A3, n3, c3, rfl, HRr.out, HBr.out⟩
end Go.Proofs.YtnocbigcdjlliaaGreat

/-
  Lists of sets that a law builds: each a row of intervals of the call's own.
-/
namespace Go.Proofs.YtnocbigcdjlliaaGreat
open Go.RowKit
set_option maxRecDepth 100000
open Rg

/-- a set of the list under way -/
def SetQ (w : World) (p : SetP) : Prop := p.2.length ≤ 7 ∧ p.1.2.1 = p.2.length ∧ OwnI7 w p.1.1 p.2 p.1.2.2
theorem SetQ.but {w w' : World} {p : SetP} {S : Nat → Prop} (h : SetQ w p) (hb : But S w w') (hs : ∀ q, (Value.slice p.1.1 p.2.length p.1.2.2).ownBlock = some q → ¬ S q) : SetQ w' p := ⟨h.1, h.2.1, h.2.2.but hb hs⟩
theorem SetQ.case {w w' : World} {g : Nat} {p : SetP} (h : SetQ w p) (hc : CaseAt w g) (hb : But (· = g) w w') : SetQ w' p := ⟨h.1, h.2.1, h.2.2.case hc hb⟩
theorem SetQ.below {w w' : World} {p : SetP} (h : SetQ w p) (hb : Below w.heap.size w w') : SetQ w' p := h.but (S := fun _ => False) (But.of_below hb) (fun _ _ h => h)
theorem setq_of {w : World} {A : Option Addr} {n c B : Nat} {ps : List SetP} (hown : w.ownsRow B 64 1 (.slice A n c) n (ps.flatMap setc)) (hl : ps.length = n) (hp : ∀ p ∈ ps, SetQ w p) : SetsS w A n ps := by
  refine ⟨Sl.of_own setc_len hl hown, fun p h => ?_⟩
  obtain ⟨h1, h2, h3⟩ := hp p h
  rw [h2]
  exact ⟨h3.ok, by omega, h3.s⟩
theorem own_iv1 {w : World} {g : Nat} {x : Iv} (h : Blk w g 70 (ivC x)) : OwnI7 w (some ⟨g, 0, none⟩) [x] 1 := ⟨0, rfl, .inr ⟨g, 1, _, rfl, Nat.zero_le _, h, Nat.le_refl 1, Nat.le_of_ble_eq_true rfl, rfl, rfl⟩⟩
/-- the list of sets, between two statements -/
structure SetsAt (W : World) (g B : Nat) (t : Nat) (A : Option Addr) (c : Nat) (ps : List SetP) (w : World) : Prop where
  own : w.ownsRow B 64 1 (.slice A t c) t (ps.flatMap setc)
  len : ps.length = t
  set : ∀ p ∈ ps, SetQ w p
  cs : CaseAt w g
  bu : But (· = g) W w
  lo : B ≤ W.heap.size
  hg : g < B
theorem SetsAt.notg {W : World} {g B t : Nat} {A : Option Addr} {c : Nat} {ps : List SetP} {w : World} (h : SetsAt W g B t A c ps w) : ∀ q, (Value.slice A t c).ownBlock = some q → ¬ q = g := fun q hq e => by
  have := (own_lt h.own hq).1
  have := h.hg
  omega
theorem SetsAt.case {W : World} {g B t : Nat} {A : Option Addr} {c : Nat} {ps : List SetP} {w w' : World} (h : SetsAt W g B t A c ps w) (hb : But (· = g) w w') (hc : CaseAt w' g) : SetsAt W g B t A c ps w' :=
  ⟨own_but h.own hb h.notg, h.len, fun p hp => (h.set p hp).case h.cs hb, hc, h.bu.trans hb, h.lo, h.hg⟩
theorem SetsAt.below {W : World} {g B t : Nat} {A : Option Addr} {c : Nat} {ps : List SetP} {w w' : World} (h : SetsAt W g B t A c ps w) (hb : Below w.heap.size w w') : SetsAt W g B t A c ps w' := h.case (But.of_below hb) (h.cs.below hb)
/-- one set more -/
theorem SetsAt.more {W : World} {g B t : Nat} {A : Option Addr} {c : Nat} {ps : List SetP} {w w' : World} (h : SetsAt W g B t A c ps w) {p : SetP} (hp : SetQ w p) {A' : Option Addr} {c' : Nat} (hown : w'.ownsRow B 64 1 (.slice A' (t + 1) c') (t + 1) (ps.flatMap setc ++ setc p)) (hb : But (fun q => (Value.slice A t c).ownBlock = some q) w w') (hWB : W.heap.size ≤ B) : SetsAt W g B (t + 1) A' c' (ps ++ [p]) w' := by
  have hne : ∀ q ∈ ps ++ [p], SetQ w q := fun q hq => by
    rcases List.mem_append.1 hq with hq | hq
    · exact h.set q hq
    · rw [List.mem_singleton.1 hq]
      exact hp
  refine ⟨by rw [List.flatMap_append]; simpa using hown, by simp [h.len], fun q hq => (hne q hq).but hb (fun z hz hz2 => ?_), h.cs.far hb (fun z hz => by have := (own_lt h.own hz).1; have := h.hg; omega), h.bu.then hb (fun z hz => Nat.le_trans hWB (own_lt h.own hz).1), h.lo, h.hg⟩
  obtain ⟨_, _, cs', h1⟩ := own_lt h.own hz2
  exact absurd ((hne q hq).2.2.ne hz (T := 64) (cs := cs') h1) (by decide)
end Go.Proofs.YtnocbigcdjlliaaGreat

/-
  Case.Cells: a row of valid values, their numbers in the range, of the length that is asked for.
-/
namespace Go.Proofs.YtnocbigcdjlliaaGreat
open Go.RowKit
set_option maxRecDepth 100000

def GCRel2 (m : Nat) (w : World) (g : Nat) (x i : Value) (wr : World) : Prop := ∃ (k : Nat) (l : List Vl) (A : Option Addr) (c : Nat), i = .int .i64 (k : Int) ∧ x = .slice A l.length c ∧ l.length + k = m ∧ (∀ v ∈ l, validV v = true ∧ rngV v) ∧ wr.ownsRow w.heap.size 67 3 (.slice A l.length c) l.length (l.flatMap Vl.cs) ∧ CaseAt wr g ∧ But (· = g) w wr
/-- a row was drawn -/
def RowP2 (m : Nat) (w : World) (g : Nat) (e : Ending) (w' : World) : Prop := ∃ (A : Option Addr) (n c : Nat) (l : List Vl), e = .returned (.slice A n c) ∧ n = l.length ∧ n = m ∧ (∀ v ∈ l, validV v = true ∧ rngV v) ∧ w'.ownsRow w.heap.size 67 3 (.slice A n c) n (l.flatMap Vl.cs) ∧ VlS w' A n l ∧ CaseAt w' g ∧ But (· = g) w w'
set_option maxRecDepth 100000 in
set_option maxHeartbeats 4000000 in
theorem gcells2_any (g : Nat) (m : Nat) (hm : m ≤ 12) (w : World) (hc : CaseAt w g) : Calls Tryz.prog 46 #[.pointer (some ⟨g, 0, none⟩), .int .i64 (m : Int)] w fun e w' => RowP2 m w g e w' := by
  obtain ⟨i0, hi, hz0, hz1, hz2⟩ := info_parts info_vl
  have hgl := hc.lt
  go_enter Tryz.func46, Tryz.ntmps46
  go_wp2_with fail
  go_loopw [5, 1] (fun x i wr => GCRel2 m w g x i wr) (fun _ i _ => (intOf i).toNat)
  case atStart => exact ⟨m, [], none, 0, rfl, rfl, by simp, by simp, ⟨by simp, .inl ⟨rfl, rfl⟩⟩, hc, But.refl _ _⟩
  case round =>
    obtain ⟨k, l, A, c, rfl, rfl, hl, hvl, hown, hcr, hbr⟩ := hrel
    have HO := Lib.hid hown
    have HVL := Lib.hid hvl
    clear hown hvl
    by_cases hlt : 0 < k
    · go_wp2_with fail
      refine (any2_any g _ hcr).mono ?_
      rintro e w2 ⟨⟨⟨ak, ai, ab⟩, hav, har, rfl⟩, hc2, hb2⟩
      have HO2 := gown_but HO.out hb2 hgl
      have hsz : w.heap.size ≤ w2.heap.size := (hbr.trans hb2).size
      have HAV := Lib.hid (And.intro hav har)
      clear hav har
      go_wp2_with (at_builtin; refine wpList_append_one2 (by rfl) (.tmp 10) (.tmp 13) _ (by rfl) w.heap.size 67 i0 _ 3 32 Tryz.underlying46 hi hz0 hz1 hz2 (by rfl) (by omega) (.slice A l.length c) l.length _ (by rfl) w2 _ HO2 w2.heap.size (by rfl) (by rfl) (by rfl) (one_vl ⟨ak, ai, ab⟩) (by simp only [maxLen]; omega) (by omega) hsz ?_; intro g6 cap6 w6 hown6 hg6 hB6 hat6 hlt6)
      go_roundw
      case rel =>
        refine ⟨k - 1, l ++ [⟨ak, ai, ab⟩], some ⟨g6, 0, none⟩, cap6, congrArg (Value.int .i64) (by omega), by simp, by simp; omega, ?_, ?_, gcase_belowB hc2 hB6 hgl, gbut_belowB (hbr.trans hb2) hB6 (Nat.le_refl _)⟩
        · intro v hv
          rcases List.mem_append.1 hv with h | h
          · exact HVL.out v h
          · simp at h
            subst h
            exact HAV.out
        · rw [List.flatMap_append]
          simpa [Vl.cs] using hown6
      case measure => simp [intOf]; omega
    · go_wp2
      go_ret
      exact ⟨A, l.length, c, l, rfl, rfl, by omega, HVL.out, HO.out, Sl.of_own (fun _ => rfl) rfl HO.out, hcr, hbr⟩
end Go.Proofs.YtnocbigcdjlliaaGreat

namespace Go.Proofs.YtnocbigcdjlliaaGreat
open Go.ChangeShapes Go.WideShapes Go.ChangeAt Go.RowKit
set_option maxRecDepth 100000

/-- a row as argument -/
theorem open_row {H : Type} {enc : TypeId × Value → H} {W : World} {base : Nat} {r : Reach} {b0 : Nat} {v : Value} {d : DataW H} {p : List MemPlace} (hv : Value.okWide Tryz.prog W r b0 46 v) (h : DataW.Trod enc Tryz.prog W base (fun _ => true) true 46 v d p) :
    ∃ (A : Option Addr) (n c : Nat) (l : List Vl), v = .slice A n c ∧ VlS W A n l ∧ (A = none → n = 0 ∧ c = 0) ∧ (∀ ad, A = some ad → ad.spot = none) ∧ n ≤ c ∧ c ≤ 9223372036854775807 := by
  obtain ⟨A, n, c, rfl⟩ := okWide_slice Tryz.underlying46 hv
  obtain ⟨f1, f2, f3, f4⟩ := okWide_slice_form Tryz.underlying46 hv
  obtain ⟨fuel, hf⟩ := h
  have hf' : DataW.trod enc Tryz.prog W base (fun _ => true) true fuel 46 [.slice A n c] = some (d, p) := hf
  rcases Go.Deep.open_slice Tryz.underlying46 hf' with ⟨h0, _⟩ | ⟨a, len, cap, m, q, D, Pl, h0, hb, hl, hm, hmm, _, hc⟩
  · injection h0 with h0
    injection h0 with e1 e2 e3
    subst e1 e2 e3
    exact ⟨none, 0, 0, [], rfl, Sl.nil, fun _ => ⟨rfl, rfl⟩, fun ad e => (by cases e), Nat.le_refl _, by omega⟩
  · injection h0 with h0
    injection h0 with e1 e2 e3
    subst e1 e2 e3
    have c3 : Tryz.prog.cellsOf 67 = 3 := by kernel_rfl
    rw [c3] at hc
    have hcell : ∀ i, i < n → ∃ y : Vl, ∀ (j : Nat) (u : Value), y.cs[j]? = some u → W.cell? ((a.add (i * 3)).add j) = some u := by
      intro i hi
      obtain ⟨cs', h1, h2⟩ := hc i (by rw [hmm]; simp; omega)
      obtain ⟨y, rfl, _⟩ := trod_vl h2
      obtain ⟨_, hcl, hat⟩ := World.cells?_some h1
      refine ⟨y, fun j u hu => ?_⟩
      have hj : j < 3 := by have := (List.getElem?_eq_some_iff.1 hu).1; simpa [Vl.cs] using this
      rw [hat j hj, hu]
    have hall := choose_list n hcell
    obtain ⟨l, hll, hli⟩ := hall
    refine ⟨some a, n, c, l, rfl, ⟨hll, fun hn => ?_⟩, f1, f2, f3, f4⟩
    obtain ⟨b, o, sp⟩ := a
    obtain rfl : sp = none := f2 _ rfl
    refine ⟨b, o, rfl, fun k x hx j u hu => ?_⟩
    have := hli k x hx j u hu
    rw [add_at, add_at] at this
    exact this
/-- the reading of a row that lies in memory -/
theorem trod_row {H : Type} {enc : TypeId × Value → H} {W : World} {base : Nat} {fuel : Nat} {v : Value} {x : DataW H × List MemPlace} (h : DataW.trod enc Tryz.prog W base (fun _ => true) true fuel 46 [v] = some x) :
    ∃ p : RowP, v = .slice p.1.1 p.1.2.1 p.1.2.2 ∧ RowOk W p ∧ 32 * p.1.2.2 ≤ 9223372036854775807 * 32 := by
  rcases Go.Deep.open_slice Tryz.underlying46 h with ⟨h0, _⟩ | ⟨a, len, cap, m, q, D, Pl, h0, hb, hl, hm, hmm, _, hc⟩
  · injection h0 with h0
    exact ⟨((none, 0, 0), []), h0, ⟨Sl.nil, fun _ => ⟨rfl, rfl⟩, Nat.le_refl _, by simp⟩, by simp⟩
  · injection h0 with h0
    have c3 : Tryz.prog.cellsOf 67 = 3 := by kernel_rfl
    rw [c3] at hc
    have hcell : ∀ i, i < len → ∃ y : Vl, ∀ (j : Nat) (u : Value), y.cs[j]? = some u → W.cell? ((a.add (i * 3)).add j) = some u := by
      intro i hi
      obtain ⟨cs', h1, h2⟩ := hc i (by rw [hmm]; simp; omega)
      obtain ⟨y, rfl, _⟩ := trod_vl h2
      obtain ⟨_, hcl, hat⟩ := World.cells?_some h1
      refine ⟨y, fun j u hu => ?_⟩
      have hj : j < 3 := by have := (List.getElem?_eq_some_iff.1 hu).1; simpa [Vl.cs] using this
      rw [hat j hj, hu]
    obtain ⟨l, hll, hli⟩ := choose_list len hcell
    have hmx : cap ≤ 9223372036854775807 := by simpa [maxLen] using hm
    refine ⟨((some a, len, cap), l), h0, ⟨⟨hll, fun hn => ?_⟩, fun h => (by cases h), hl, hmx⟩, by simp only; omega⟩
    obtain ⟨b, o, sp⟩ := a
    have hn' : 0 < len := hn
    have h0l : 0 < l.length := by omega
    have g0 := hli 0 _ (List.getElem?_eq_getElem h0l) 0 _ rfl
    have hsp : sp = none := by
      have := World.cell?_spot g0
      simpa [Addr.add] using this
    subst hsp
    refine ⟨b, o, rfl, fun k x hx j u hu => ?_⟩
    have := hli k x hx j u hu
    rw [add_at, add_at] at this
    exact this
/-- a list of rows as argument -/
theorem open_rows {H : Type} {enc : TypeId × Value → H} {W : World} {base : Nat} {r : Reach} {b0 : Nat} {v : Value} {d : DataW H} {p : List MemPlace} (hv : Value.okWide Tryz.prog W r b0 54 v) (h : DataW.Trod enc Tryz.prog W base (fun _ => true) true 54 v d p) :
    ∃ (A : Option Addr) (n c : Nat) (l : List RowP), v = .slice A n c ∧ RowsS W A n l ∧ (A = none → n = 0 ∧ c = 0) ∧ (∀ ad, A = some ad → ad.spot = none) ∧ n ≤ c ∧ c ≤ 9223372036854775807 := by
  obtain ⟨A, n, c, rfl⟩ := okWide_slice Tryz.underlying54 hv
  obtain ⟨f1, f2, f3, f4⟩ := okWide_slice_form Tryz.underlying54 hv
  obtain ⟨fuel, hf⟩ := h
  have hf' : DataW.trod enc Tryz.prog W base (fun _ => true) true fuel 54 [.slice A n c] = some (d, p) := hf
  rcases Go.Deep.open_slice Tryz.underlying54 hf' with ⟨h0, _⟩ | ⟨a, len, cap, m, q, D, Pl, h0, hb, hl, hm, hmm, _, hc⟩
  · injection h0 with h0
    injection h0 with e1 e2 e3
    subst e1 e2 e3
    exact ⟨none, 0, 0, [], rfl, ⟨Sl.nil, fun p hp => (by cases hp)⟩, fun _ => ⟨rfl, rfl⟩, fun ad e => (by cases e), Nat.le_refl _, by omega⟩
  · injection h0 with h0
    injection h0 with e1 e2 e3
    subst e1 e2 e3
    have c1 : Tryz.prog.cellsOf 46 = 1 := by kernel_rfl
    rw [c1] at hc
    have hcell : ∀ i, i < n → ∃ y : RowP, RowOk W y ∧ W.cell? (a.add i) = some (.slice y.1.1 y.1.2.1 y.1.2.2) := by
      intro i hi
      obtain ⟨cs', h1, h2⟩ := hc i (by rw [hmm]; simp; omega)
      obtain ⟨_, hcl, hat⟩ := World.cells?_some h1
      match cs', hcl with
      | [v0], _ =>
        obtain ⟨y, rfl, hy, _⟩ := trod_row h2
        refine ⟨y, hy, ?_⟩
        have := hat 0 (by omega)
        rw [Go.Deep.add_add] at this
        simpa using this
    obtain ⟨l, hll, hli⟩ := choose_list n hcell
    refine ⟨some a, n, c, l, rfl, ⟨⟨hll, fun hn => ?_⟩, fun p hp => ?_⟩, f1, f2, f3, f4⟩
    · obtain ⟨b, o, sp⟩ := a
      obtain rfl : sp = none := f2 _ rfl
      refine ⟨b, o, rfl, fun k x hx j u hu => ?_⟩
      rcases j with _ | j
      · simp only [rowc, List.getElem?_cons_zero, Option.some.injEq] at hu
        subst hu
        have := (hli k x hx).2
        rw [add_at] at this
        rw [Nat.mul_one, Nat.add_zero]
        exact this
      · simp [rowc] at hu
    · obtain ⟨k, hk⟩ := List.getElem?_of_mem hp
      exact (hli k p hk).1
end Go.Proofs.YtnocbigcdjlliaaGreat
