/-
  Texts: Case2, RowCmp.
-/
import Derived.Test.YtmnmckblmoalkaaGreatB23
set_option linter.unusedVariables false
namespace Go.Proofs.YtmnmckblmoalkaaGreat
open Go.RowKit
set_option maxRecDepth 100000
set_option linter.unusedVariables false

/-- the number of a value is an int64 -/
def rngV (v : Vl) : Prop := minI ≤ v.i ∧ v.i ≤ 9223372036854775807
def SomeInt2 (w : World) (g : Nat) (e : Ending) (w' : World) : Prop := (∃ x : Int, (minI ≤ x ∧ x ≤ 9223372036854775807) ∧ e = .returned (.int .i64 x)) ∧ CaseAt w' g ∧ But (· = g) w w'
theorem number2_any (g : Nat) (w : World) (hc : CaseAt w g) :
    Calls Tryz.prog 125 #[.pointer (some ⟨g, 0, none⟩)] w fun e w' => SomeInt2 w g e w' := by
  go_enter Tryz.func125, Tryz.ntmps125
  go_wp2_with fail
  refine (int_any g 12 _ hc (by omega) (by omega)).mono ?_
  rintro e w1 ⟨⟨x, hx1, hx2, rfl⟩, hc1, hb1⟩
  go_wp2
  all_goals
    go_ret
    refine ⟨⟨_, ?_, rfl⟩, hc1, hb1⟩
    unfold minI
    constructor <;> omega
def SomeW (w : World) (g : Nat) (e : Ending) (w' : World) : Prop := (∃ v : Vl, validV v = true ∧ rngV v ∧ e = .returned (.agg #[.int .i64 v.k, .int .i64 v.i, .string v.t])) ∧ CaseAt w' g ∧ But (· = g) w w'
set_option maxHeartbeats 1000000 in
theorem value2_any (g : Nat) (k : Int) (w : World) (hc : CaseAt w g) (hk : k = 3 ∨ k = 4 ∨ k = 5) :
    Calls Tryz.prog 83 #[.pointer (some ⟨g, 0, none⟩), .int .i64 k] w fun e w' => SomeW w g e w' := by
  have hlt := hc.lt
  have hc0 := hc.below ((Below.refl _ _).alloc (Nat.le_refl _) (.cells #[.int .i64 0, .int .i64 0, .string ⟨#[]⟩] 49))
  have hX := Blk.new w 49 #[.int .i64 0, .int .i64 0, .string ⟨#[]⟩]
  have hB0 : But (· = g) w (w.alloc (.cells #[.int .i64 0, .int .i64 0, .string ⟨#[]⟩] 49)) := But.alloc _ _
  rcases hk with rfl | rfl | rfl
  · go_enter Tryz.func83, Tryz.ntmps83
    go_wp2_with fail
    refine (int_any g 2 _ hc0 (by omega) (by omega)).mono ?_
    rintro e w1 ⟨⟨x, hx1, hx2, rfl⟩, hc1, hb1⟩
    have hX1 := hX.but hb1 (by omega)
    have hXc := hX1.cell
    have hXf := hX1.free
    go_wp2
    refine bodyPost_ret (v := .agg #[.int .i64 3, .int .i64 x, .string ⟨#[]⟩]) (by simp [results, Tryz.results83, go_sem, hXc]) rfl ⟨⟨⟨3, x, ⟨#[]⟩⟩, ?_, ⟨by unfold minI; simp; omega, by simp; omega⟩, rfl⟩, ?_, ?_⟩
    · have : x = 0 ∨ x = 1 := by omega
      rcases this with rfl | rfl <;> decide +kernel
    · exact case_box hc1 hX1 (by omega) _ _ _
    · exact (((hB0.trans hb1).setNew (p := ⟨w.heap.size, 0, none⟩) (by simp) _).setNew (p := ⟨w.heap.size, 1, none⟩) (by simp) _).setNew (p := ⟨w.heap.size, 2, none⟩) (by simp) _
  · go_enter Tryz.func83, Tryz.ntmps83
    go_wp2_with fail
    refine (number2_any g _ hc0).mono ?_
    rintro e w1 ⟨⟨x, hxr, rfl⟩, hc1, hb1⟩
    have HXR := Lib.hid hxr
    clear hxr
    have hX1 := hX.but hb1 (by omega)
    have hXc := hX1.cell
    have hXf := hX1.free
    go_wp2
    refine bodyPost_ret (v := .agg #[.int .i64 4, .int .i64 x, .string ⟨#[]⟩]) (by simp [results, Tryz.results83, go_sem, hXc]) rfl ⟨⟨⟨4, x, ⟨#[]⟩⟩, ?_, HXR.out, rfl⟩, ?_, ?_⟩
    · simp [validV, ByteArray.toList_eq]
    · exact case_box hc1 hX1 (by omega) _ _ _
    · exact (((hB0.trans hb1).setNew (p := ⟨w.heap.size, 0, none⟩) (by simp) _).setNew (p := ⟨w.heap.size, 1, none⟩) (by simp) _).setNew (p := ⟨w.heap.size, 2, none⟩) (by simp) _
  · go_enter Tryz.func83, Tryz.ntmps83
    go_wp2_with fail
    refine (text_any g _ hc0).mono ?_
    rintro e w1 ⟨⟨x, hx, rfl⟩, hc1, hb1⟩
    have hX1 := hX.but hb1 (by omega)
    have hXc := hX1.cell
    have hXf := hX1.free
    go_wp2
    refine bodyPost_ret (v := .agg #[.int .i64 5, .int .i64 0, .string x]) (by simp [results, Tryz.results83, go_sem, hXc]) rfl ⟨⟨⟨5, 0, x⟩, ?_, ⟨by unfold minI; simp, by simp⟩, rfl⟩, ?_, ?_⟩
    · simp [validV]; omega
    · exact case_box hc1 hX1 (by omega) _ _ _
    · exact (((hB0.trans hb1).setNew (p := ⟨w.heap.size, 0, none⟩) (by simp) _).setNew (p := ⟨w.heap.size, 1, none⟩) (by simp) _).setNew (p := ⟨w.heap.size, 2, none⟩) (by simp) _

set_option maxHeartbeats 1000000 in
theorem any2_any (g : Nat) (w : World) (hc : CaseAt w g) :
    Calls Tryz.prog 68 #[.pointer (some ⟨g, 0, none⟩)] w fun e w' => SomeW w g e w' := by
  have hlt := hc.lt
  have hc0 := hc.below ((Below.refl _ _).alloc (Nat.le_refl _) (.cells #[.int .i64 0, .int .i64 0, .string ⟨#[]⟩] 49))
  have hX := Blk.new w 49 #[.int .i64 0, .int .i64 0, .string ⟨#[]⟩]
  have hB0 : But (· = g) w (w.alloc (.cells #[.int .i64 0, .int .i64 0, .string ⟨#[]⟩] 49)) := But.alloc _ _
  go_enter Tryz.func68, Tryz.ntmps68
  go_wp2_with fail
  refine (int_any g 5 _ hc0 (by omega) (by omega)).mono ?_
  rintro e w1 ⟨⟨x, hx1, hx2, rfl⟩, hc1, hb1⟩
  have hX1 := hX.but hb1 (by omega)
  have hXc := hX1.cell
  have hXf := hX1.free
  by_cases h3 : 1 + x < 3
  · go_wp2
    refine bodyPost_ret (v := .agg #[.int .i64 (1 + x), .int .i64 0, .string ⟨#[]⟩]) (by simp [results, Tryz.results68, go_sem, hXc]) rfl ⟨⟨⟨1 + x, 0, ⟨#[]⟩⟩, ?_, ⟨by unfold minI; simp, by simp⟩, rfl⟩, ?_, ?_⟩
    · have : x = 0 ∨ x = 1 := by omega
      rcases this with rfl | rfl <;> decide +kernel
    · exact case_box hc1 hX1 (by omega) _ _ _
    · exact (((hB0.trans hb1).setNew (p := ⟨w.heap.size, 0, none⟩) (by simp) _).setNew (p := ⟨w.heap.size, 1, none⟩) (by simp) _).setNew (p := ⟨w.heap.size, 2, none⟩) (by simp) _
  · clear hXc hXf
    go_wp2_with fail
    refine (value2_any g (1 + x) _ hc1 (by omega)).mono ?_
    rintro e w2 ⟨⟨v, hv, hr, rfl⟩, hc2, hb2⟩
    have HR := Lib.hid hr
    have HV := Lib.hid hv
    clear hr hv
    have hX2 := hX1.but hb2 (by omega)
    have hXc := hX2.cell
    have hXf := hX2.free
    go_wp2
    refine bodyPost_ret (v := .agg #[.int .i64 v.k, .int .i64 v.i, .string v.t]) (by simp [results, Tryz.results68, go_sem, hXc]) rfl ⟨⟨v, HV.out, HR.out, rfl⟩, ?_, ?_⟩
    · exact case_box hc2 hX2 (by omega) _ _ _
    · exact ((((hB0.trans hb1).trans hb2).setNew (p := ⟨w.heap.size, 0, none⟩) (by simp) _).setNew (p := ⟨w.heap.size, 1, none⟩) (by simp) _).setNew (p := ⟨w.heap.size, 2, none⟩) (by simp) _
end Go.Proofs.YtmnmckblmoalkaaGreat

namespace Go.Proofs.YtmnmckblmoalkaaGreat
open Go.RowKit
set_option maxRecDepth 100000

def cmpR : List Vl → List Vl → Int
  | [], [] => 0
  | [], _ :: _ => -1
  | _ :: _, [] => 1
  | x :: xs, y :: ys => if cmpV x y ≠ 0 then cmpV x y else cmpR xs ys

set_option maxHeartbeats 1000000 in
theorem rcomprows_any (A B : Option Addr) (n m ca cb : Nat) (a b : List Vl) (w : World) (hA : VlS w A n a) (hB : VlS w B m b) (hn : n ≤ 9223372036854775807) (hm : m ≤ 9223372036854775807) :
    Calls Tryz.prog 187 #[.slice A n ca, .slice B m cb] w fun e w' => e = .returned (.int .i64 (cmpR a b)) ∧ Below w.heap.size w w' := by
  have HA := Lib.hid hA
  have HB := Lib.hid hB
  have Hla := Lib.hid hA.len
  have Hlb := Lib.hid hB.len
  clear hA hB
  generalize hr : cmpR a b = r
  have HR : Hid (cmpR (a.drop 0) (b.drop 0) = r) := by show _ = _; simpa using hr
  clear hr
  go_enter Tryz.func187, Tryz.ntmps187
  go_wp2
  go_loopw [5] (fun i wr => ∃ k : Nat, k ≤ n ∧ k ≤ m ∧ i = .int .i64 (k : Int) ∧ Hid (cmpR (a.drop k) (b.drop k) = r) ∧ Below w.heap.size w wr) (fun i _ => n - (intOf i).toNat)
  case atStart => exact ⟨0, by omega, by omega, rfl, HR, Below.refl _ _⟩
  case round =>
    obtain ⟨k, hk, hk', rfl, hinv, hb⟩ := hrel
    by_cases hlt : k < n ∧ k < m
    · obtain ⟨hlt1, hlt2⟩ := hlt
      have g1 : decide (k < n) = true := by simp [hlt1]
      have g2 : decide (k < m) = true := by simp [hlt2]
      obtain ⟨b1, o1, x, rfl, hx, hxc⟩ := (HA.out.keep (keeps_of hb)).at hlt1
      obtain ⟨b2, o2, y, rfl, hy, hyc⟩ := (HB.out.keep (keeps_of hb)).at hlt2
      have Hst : Hid (r = if cmpV x y ≠ 0 then cmpV x y else cmpR (a.drop (k + 1)) (b.drop (k + 1))) := by
        show _ = _
        rw [← hinv.out, drop_at hx, drop_at hy]; rfl
      obtain ⟨xk, xi, xt⟩ := x
      obtain ⟨yk, yi, yt⟩ := y
      obtain ⟨c0, c1, c2⟩ := VlAt.of hxc
      obtain ⟨d0, d1, d2⟩ := VlAt.of hyc
      dsimp only at c0 c1 c2 d0 d1 d2
      clear hx hy hxc hyc
      obtain ⟨v, Hv⟩ : ∃ v, Hid (cmpV ⟨xk, xi, xt⟩ ⟨yk, yi, yt⟩ = v) := ⟨_, rfl⟩
      go_wp2
      have hca := @cell_after wr.drew
      refine wp_region_seg [([0, 1, 2, 3, 4, 5, 6, 7], 8)] [9] (by kernel_rfl) (by kernel_rfl) (fun _ _ d _ _ h => by cases d <;> exact h) ?_
      simp only [pickSegs, pickOps, opAt, List.map_cons, List.map_nil, List.getElem?_toArray, List.getElem?_cons_zero, List.getElem?_cons_succ, Option.getD_some]
      unfold wpBlocks
      repeat (go_big_quiet_step (fail))
      refine wpQuiet_nil ?_
      clear hca
      go_wp2_with (first | (go_at_call 93; refine (rcompare_any ⟨_, _, _⟩ ⟨_, _, _⟩ _).mono ?_; rintro e w1 ⟨rfl, hb1⟩; rw [Hv.out]))
      refine ⟨hb1, ?_⟩
      have hB1 := Below.next hb.drew hb1
      unfold wpBlocks
      repeat (go_big_quiet_step (fail))
      refine wpQuiet_nil ?_
      by_cases hv : v = 0
      · have gv : (v != 0) = false := by simp [hv]
        have HV := Lib.hid hv
        clear hv
        go_wp2
        go_roundw
        case rel => exact ⟨k + 1, by omega, by omega, by go_num, (by show _ = _; have := Hst.out; rw [Hv.out, if_neg (by simp [HV.out])] at this; exact this.symm), hB1⟩
        case measure => simp [intOf]; omega
      · have gv : (v != 0) = true := by simp [hv]
        go_wp2
        go_ret
        exact ⟨ret_i64 (by rw [Hst.out, Hv.out, if_pos hv]), hB1⟩
    · have hend : (k = n ∧ k = m) ∨ (k = n ∧ k < m) ∨ (k < n ∧ k = m) := by omega
      have hla := Hla.out
      have hlb := Hlb.out
      rcases hend with ⟨h1, h2⟩ | ⟨h1, h2⟩ | ⟨h1, h2⟩
      · have g1 : decide (k < n) = false := by simp; omega
        have Hr : Hid (r = 0) := by
          show _ = _
          rw [← hinv.out, List.drop_eq_nil_of_le (by omega), List.drop_eq_nil_of_le (by omega)]; rfl
        obtain rfl : n = m := by omega
        have H1 := Lib.hid h1
        clear h1 h2 hla hlb hlt
        go_wp2
        go_ret
        exact ⟨ret_i64 Hr.out.symm, hb⟩
      · have g1 : decide (k < n) = false := by simp; omega
        have Hr : Hid (r = -1) := by
          show _ = _
          have e1 : a.drop k = [] := List.drop_eq_nil_of_le (by omega)
          rw [← hinv.out, e1, List.drop_eq_getElem_cons (l := b) (i := k) (by omega)]; rfl
        have hnm : n < m := by omega
        clear h1 h2 hla hlb hlt
        go_wp2
        go_ret
        exact ⟨ret_i64 Hr.out.symm, hb⟩
      · have g1 : decide (k < n) = true := by simp; omega
        have g2 : decide (k < m) = false := by simp; omega
        have Hr : Hid (r = 1) := by
          show _ = _
          have e1 : b.drop k = [] := List.drop_eq_nil_of_le (by omega)
          rw [← hinv.out, e1, List.drop_eq_getElem_cons (l := a) (i := k) (by omega)]; rfl
        have hnm : m < n := by omega
        clear h1 h2 hla hlb hlt
        go_wp2
        go_ret
        exact ⟨ret_i64 Hr.out.symm, hb⟩

/-- a row in memory: address, length, capacity -/
abbrev Hd := Option Addr × Nat × Nat
abbrev RowP := Hd × List Vl
def rowc (p : RowP) : List Value := [.slice p.1.1 p.1.2.1 p.1.2.2]
structure RowOk (w : World) (p : RowP) : Prop where
  rd : VlS w p.1.1 p.1.2.1 p.2
  nl : p.1.1 = none → p.1.2.1 = 0 ∧ p.1.2.2 = 0
  le : p.1.2.1 ≤ p.1.2.2
  mx : p.1.2.2 ≤ 9223372036854775807
theorem RowOk.keep {w w' : World} {p : RowP} (h : RowOk w p) (hk : Keeps w w') : RowOk w' p := ⟨h.rd.keep hk, h.nl, h.le, h.mx⟩
/-- a slice of rows -/
structure RowsS (w : World) (A : Option Addr) (n : Nat) (ps : List RowP) : Prop where
  sl : Sl 1 rowc w A n ps
  ok : ∀ p ∈ ps, RowOk w p
theorem RowsS.keep {w w' : World} {A : Option Addr} {n : Nat} {ps : List RowP} (h : RowsS w A n ps) (hk : Keeps w w') : RowsS w' A n ps := ⟨h.sl.keep hk, fun p hp => (h.ok p hp).keep hk⟩
theorem own_forms {w : World} {base : Nat} {e : TypeId} {size n : Nat} {A : Option Addr} {c : Nat} {xs : List Value} (h : w.ownsRow base e size (.slice A n c) n xs) : (A = none → n = 0 ∧ c = 0) ∧ (∀ ad, A = some ad → ad.spot = none) ∧ n ≤ c := by
  rcases h.2 with ⟨hv, hn⟩ | ⟨g, cap, cur, hv, _, _, hnc, _⟩
  · injection hv with h1 h2 h3
    subst h1 h3
    exact ⟨fun _ => ⟨hn, rfl⟩, fun ad h => (by cases h), by omega⟩
  · injection hv with h1 h2 h3
    subst h1 h3
    exact ⟨fun h => (by cases h), fun ad h => (by injection h with h; rw [← h]), hnc⟩

set_option maxHeartbeats 400000 in
theorem copy_any (p : RowP) (w : World) (hp : RowOk w p) (hn : p.1.2.1 ≤ 4398046511104) :
    Calls Tryz.prog 188 #[.slice p.1.1 p.1.2.1 p.1.2.2] w fun e w' => ∃ (A' : Option Addr) (c' : Nat), e = .returned (.slice A' p.1.2.1 c') ∧ w'.ownsRow w.heap.size 49 3 (.slice A' p.1.2.1 c') p.1.2.1 (p.2.flatMap Vl.cs) ∧ Below w.heap.size w w' := by
  obtain ⟨⟨A, n, c⟩, r⟩ := p
  obtain ⟨i0, hi, hz0, hz1, hz2⟩ := info_parts info_vl
  have HP := Lib.hid hp
  clear hp
  dsimp only at hn ⊢
  go_enter Tryz.func188, Tryz.ntmps188
  go_wp2_with (at_builtin; refine wpList_append_sf (cs := Vl.cs) w (by rfl) _ (.tmp 3) _ (by rfl) w.heap.size 49 i0 _ 3 32 Tryz.underlying44 hi hz0 hz1 hz2 (by rfl) (by omega) (.slice none 0 0) 0 [] (by rfl) ⟨by simp, .inl ⟨rfl, rfl⟩⟩ A n c r (by rfl) HP.out.rd HP.out.nl Vl.cs_len one_vl (by simp only [maxLen]; omega) (by omega) (Nat.le_refl _) ?_; intro A1 c1 w1 hown1 hg1 hB1 hat1 hn1; simp only [Nat.zero_add, List.nil_append] at hown1)
  go_ret
  exact ⟨A1, c1, rfl, hown1, hB1⟩
end Go.Proofs.YtmnmckblmoalkaaGreat
