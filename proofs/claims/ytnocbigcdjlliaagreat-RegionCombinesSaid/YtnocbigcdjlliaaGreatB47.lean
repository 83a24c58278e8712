/-
  Texts of this proof, one behind the other: GOne, OnePlain, SameR.
-/
import Derived.Deep.Cut
import Derived.Test.YtnocbigcdjlliaaGreatB42
import Derived.Test.YtnocbigcdjlliaaGreatB39
import Derived.Test.YtnocbigcdjlliaaGreatB46
import Derived.Test.YtnocbigcdjlliaaGreatB1
import Derived.Test.YtnocbigcdjlliaaGreatB24
import Derived.Test.YtnocbigcdjlliaaGreatB45
set_option linter.unusedVariables false
/-
  One of a row: the reference's and the program's.
-/
namespace Go.Proofs.YtnocbigcdjlliaaGreat
open Go.RowKit
set_option maxRecDepth 100000
open Rg

/-- the interval of one value, and its cells -/
def oneIv (v : Vl) : Iv := ⟨v, (nextV v).1, !(nextV v).2⟩
def ivC (x : Iv) : Array Value := #[.int .i64 x.f.k, .int .i64 x.f.i, .string x.f.t, .int .i64 x.t.k, .int .i64 x.t.i, .string x.t.t, .bool x.o]
def One1 (v : Vl) (w : World) (e : Ending) (w' : World) : Prop :=
  (validV v = true ∧ ∃ g, e = .returned (.tuple #[.slice (some ⟨g, 0, none⟩) 1 1, .int .i64 0]) ∧ Blk w' g 70 (ivC (oneIv v)) ∧ Below w.heap.size w w') ∨ (validV v = false ∧ e = .returned (.tuple #[.slice none 0 0, .int .i64 10]) ∧ Below w.heap.size w w')
set_option maxHeartbeats 1000000 in
theorem one2_any (v : Vl) (w : World) : Calls Tryz.prog 108 #[.agg #[.int .i64 v.k, .int .i64 v.i, .string v.t]] w fun e w' => One1 v w e w' := by
  obtain ⟨fk, fi, ft⟩ := v
  obtain ⟨v1, H1⟩ : ∃ v, Hid (validV ⟨fk, fi, ft⟩ = v) := ⟨_, rfl⟩
  obtain ⟨⟨⟨nk, ni, nt⟩, nb⟩, Hn⟩ : ∃ q, Hid (nextV ⟨fk, fi, ft⟩ = q) := ⟨_, rfl⟩
  go_enter Tryz.func108, Tryz.ntmps108
  go_wp2_with fail
  refine (valid_any ⟨fk, fi, ft⟩ _).mono ?_
  rintro e w1 ⟨rfl, hb1⟩
  rw [H1.out]
  have y1 := ((Blk.new w 67 #[.int .i64 fk, .int .i64 fi, .string ft]).below hb1)
  have y1c := y1.cell
  have hB1 : Below w.heap.size w w1 := Below.next ((Below.refl _ _).alloc (Nat.le_refl _) _) hb1
  have hs1 := y1.lt
  cases v1
  · go_wp2
    go_ret2
    exact .inr ⟨H1.out, rfl, hB1⟩
  · go_wp2_with fail
    refine (next_any ⟨fk, fi, ft⟩ _).mono ?_
    rintro e w2 ⟨rfl, hb2⟩
    rw [Hn.out]
    have y2 := y1.below hb2
    have y2c := y2.cell
    have hB2 := Below.next hB1 hb2
    have hs2 := y2.lt
    clear y1c
    go_wp2
    go_ret2
    have hx : oneIv ⟨fk, fi, ft⟩ = ⟨⟨fk, fi, ft⟩, ⟨nk, ni, nt⟩, !nb⟩ := by simp [oneIv, Hn.out]
    refine .inl ⟨H1.out, _, rfl, ?_, (hB2.alloc hB2.size _).alloc (by have := hB2.size; simp; omega) _⟩
    rw [hx]
    exact Blk.newAt (by simp)
set_option maxHeartbeats 1000000 in
theorem rone2_any (v : Vl) (w : World) : Calls Tryz.prog 102 #[.agg #[.int .i64 v.k, .int .i64 v.i, .string v.t]] w fun e w' => One1 v w e w' := by
  obtain ⟨fk, fi, ft⟩ := v
  obtain ⟨v1, H1⟩ : ∃ v, Hid (validV ⟨fk, fi, ft⟩ = v) := ⟨_, rfl⟩
  obtain ⟨⟨⟨nk, ni, nt⟩, nb⟩, Hn⟩ : ∃ q, Hid (nextV ⟨fk, fi, ft⟩ = q) := ⟨_, rfl⟩
  go_enter Tryz.func102, Tryz.ntmps102
  go_wp2_with fail
  refine (rvalid_any ⟨fk, fi, ft⟩ _).mono ?_
  rintro e w1 ⟨rfl, hb1⟩
  rw [H1.out]
  have y1 := ((Blk.new w 67 #[.int .i64 fk, .int .i64 fi, .string ft]).below hb1)
  have y1c := y1.cell
  have hB1 : Below w.heap.size w w1 := Below.next ((Below.refl _ _).alloc (Nat.le_refl _) _) hb1
  have hs1 := y1.lt
  cases v1
  · go_wp2
    go_ret2
    exact .inr ⟨H1.out, rfl, hB1⟩
  · go_wp2_with fail
    refine (rnext_any ⟨fk, fi, ft⟩ _).mono ?_
    rintro e w2 ⟨rfl, hb2⟩
    rw [Hn.out]
    have y2 := y1.below hb2
    have y2c := y2.cell
    have hB2 := Below.next hB1 hb2
    have hs2 := y2.lt
    clear y1c
    go_wp2
    go_ret2
    have hx : oneIv ⟨fk, fi, ft⟩ = ⟨⟨fk, fi, ft⟩, ⟨nk, ni, nt⟩, !nb⟩ := by simp [oneIv, Hn.out]
    refine .inl ⟨H1.out, _, rfl, ?_, (hB2.alloc hB2.size _).alloc (by have := hB2.size; simp; omega) _⟩
    rw [hx]
    exact Blk.newAt (by simp)
def oneSet (g : Nat) (v : Vl) : SetP := (((some ⟨g, 0, none⟩ : Option Addr), 1, 1), [oneIv v])
/-- a set of one interval that lies by itself -/
def OneQ (w : World) (p : SetP) : Prop := ∃ g x, p = ((some ⟨g, 0, none⟩, 1, 1), [x]) ∧ Blk w g 70 (ivC x)
theorem OneQ.but {w w' : World} {S : Nat → Prop} {p : SetP} (h : OneQ w p) (hb : But S w w') (hS : ∀ q, S q → ∀ cs, ¬ Blk w q 70 cs) : OneQ w' p := by
  obtain ⟨g, x, e, h1⟩ := h
  exact ⟨g, x, e, h1.but hb (fun hs => hS g hs _ h1)⟩
theorem OneQ.below {w w' : World} {p : SetP} (h : OneQ w p) (hb : Below w.heap.size w w') : OneQ w' p := h.but (S := fun _ => False) (But.of_below hb) (fun _ h => h.elim)
theorem ones_of {w : World} {A : Option Addr} {n c B : Nat} {ps : List SetP} (hown : w.ownsRow B 64 1 (.slice A n c) n (ps.flatMap setc)) (hl : ps.length = n) (hp : ∀ p ∈ ps, OneQ w p) : SetsS w A n ps := by
  refine ⟨Sl.of_own setc_len hl hown, fun p h => ?_⟩
  obtain ⟨g, x, rfl, h1⟩ := hp p h
  exact ⟨⟨Nat.le_refl _, fun h => by cases h⟩, by show 1 ≤ 1000000; omega, iv_one (T := 70) (x := x) h1⟩
def oneErr (l : List Vl) : Int := if 12 < l.length then 1 else if l.all validV then 0 else 10
def oneRes (l : List Vl) : Rg := if oneErr l = 0 then boxR (l.map fun v => [oneIv v]) else zeroR
theorem all_take {l : List Vl} {k : Nat} (h : l.all validV = true) : (l.take k).all validV = true := by
  rw [List.all_eq_true] at h ⊢
  exact fun v hv => h v (List.mem_of_mem_take hv)
theorem take_snoc {l : List Vl} {k : Nat} {v : Vl} (h : l[k]? = some v) : l.take (k + 1) = l.take k ++ [v] := by
  rw [List.take_add_one, h]
  rfl
theorem one_bad {l : List Vl} {k : Nat} {v : Vl} (hl : l.length ≤ 12) (h : l[k]? = some v) (hv : validV v = false) : oneErr l = 10 ∧ oneRes l = zeroR := by
  have h1 : oneErr l = 10 := by
    rw [oneErr, if_neg (by omega), if_neg]
    intro h2
    rw [List.all_eq_true] at h2
    have := h2 v (List.mem_of_getElem? h)
    rw [hv] at this
    cases this
  exact ⟨h1, by rw [oneRes, h1, if_neg (by decide)]⟩
theorem one_good {l : List Vl} (hl : l.length ≤ 12) (h : l.all validV = true) : oneErr l = 0 ∧ oneRes l = boxR (l.map fun v => [oneIv v]) := by
  have h1 : oneErr l = 0 := by rw [oneErr, if_neg (by omega), if_pos h]
  exact ⟨h1, by rw [oneRes, if_pos h1]⟩
set_option maxHeartbeats 4000000 in
theorem fOne_any (l : List Vl) (B : Option Addr) (m cb : Nat) (w : World) (hV : VlS w B m l) :
    Calls Tryz.prog 68 #[.slice B m cb] w fun e w' => RgRes w (oneRes l) (oneErr l) e w' := by
  obtain ⟨il, hil, hl0, hl1, hl2⟩ := info_parts info_lst
  have HV := Lib.hid hV
  have Hlm := Lib.hid hV.1
  clear hV
  have HT := Lib.hid (Blk.new w 28 #[.int .i64 0, .bool false, .slice none 0 0])
  have HB0 := Lib.hid ((Below.refl w.heap.size w).alloc (Nat.le_refl _) (.cells #[.int .i64 0, .bool false, .slice none 0 0] 28))
  obtain ⟨W0, HW0⟩ : ∃ W : World, Hid (w.alloc (.cells #[.int .i64 0, .bool false, .slice none 0 0] 28) = W) := ⟨_, rfl⟩
  rw [HW0.out] at HT HB0
  obtain ⟨er, Her⟩ : ∃ z, Hid (oneErr l = z) := ⟨_, rfl⟩
  obtain ⟨rr, Hrr⟩ : ∃ z, Hid (oneRes l = z) := ⟨_, rfl⟩
  rw [Her.out, Hrr.out]
  rcases Nat.lt_or_ge 12 m with h12 | hm
  · have e1 : er = 1 := by rw [← Her.out, oneErr, if_pos (by have := Hlm.out; omega)]
    have e2 : rr = zeroR := by rw [← Hrr.out, oneRes, Her.out, e1, if_neg (by decide)]
    subst e1 e2
    have g1 : decide (12 < m) = true := by simp; omega
    go_enter Tryz.func68, Tryz.ntmps68
    go_upto_region 2 with fail
    rw [HW0.out]
    have zr := HT.out.cell
    obtain ⟨ff1, ff2, ff3⟩ := put3R_free HT.out (.int .i64 0) (.bool false)
    have y3 := (put3R_blk (a' := .int .i64 0) (b' := .bool false) (c' := .slice none 0 0) HT.out).cell
    have y1 := (HT.out.set_ 0 (.int .i64 0)).cell
    have y2 := ((HT.out.set_ 0 (.int .i64 0)).set_ 1 (.bool false)).cell
    have HBr := Lib.hid (put3R_below HB0.out (Nat.le_refl _) (.int .i64 0) (.bool false) (.slice none 0 0))
    unfold put3R at y3
    go_wp2
    exact bodyPost_ret (v := .tuple #[.agg #[.int .i64 0, .bool false, .slice none 0 0], .int .i64 1]) (by simp [results, Tryz.results68, go_sem, y3]) rfl ⟨0, false, none, 0, 0, rfl, RgS.nil _ _, HBr.out⟩
  · have g1 : decide (12 < m) = false := by simp; omega
    go_enter Tryz.func68, Tryz.ntmps68
    go_upto_region 3 with fail
    rw [HW0.out]
    go_wp2_with fail
    go_loopw [4, 15] (fun v i wr => ∃ (k : Nat) (A' : Option Addr) (c' : Nat) (ps : List SetP), k ≤ m ∧ i = .int .i64 (k : Int) ∧ v = .slice A' k c' ∧ wr.ownsRow (w.heap.size + 1) 64 1 (.slice A' k c') k (ps.flatMap setc) ∧ Hid (ps.length = k ∧ (∀ p ∈ ps, OneQ wr p) ∧ ps.map (·.2) = (l.take k).map (fun v => [oneIv v]) ∧ (l.take k).all validV = true) ∧ Hid (Blk wr w.heap.size 28 #[.int .i64 0, .bool false, .slice none 0 0]) ∧ Hid (Below w.heap.size w wr) ∧ w.heap.size + 1 ≤ wr.heap.size) (fun _ i _ => m - (intOf i).toNat)
    case atStart => exact ⟨0, none, 0, [], by omega, rfl, rfl, ⟨by simp, .inl ⟨rfl, rfl⟩⟩, Lib.hid ⟨rfl, by simp, by simp, by simp⟩, HT, HB0, by rw [← HW0.out]; simp⟩
    case round =>
      clear HT HB0
      obtain ⟨k, A', c', ps, hk, rfl, rfl, hown, HQ, HT, HB, hsz⟩ := hrel
      have HOW := Lib.hid hown
      clear hown
      by_cases hlt : k < m
      · obtain ⟨b, o, ⟨vk, vi, vt⟩, rfl, hv, hc⟩ := (HV.out.keep (keeps_of HB.out)).at hlt
        have c0 : wr.cell? ⟨b, o + k * 3, none⟩ = some (.int .i64 vk) := hc 0 (.int .i64 vk) rfl
        have c1 : wr.cell? ⟨b, o + k * 3 + 1, none⟩ = some (.int .i64 vi) := hc 1 (.int .i64 vi) rfl
        have c2 : wr.cell? ⟨b, o + k * 3 + 2, none⟩ = some (.string vt) := hc 2 (.string vt) rfl
        have Hv := Lib.hid hv
        clear hv hc
        have hbx : Below wr.heap.size wr (wr.alloc (.cells #[.int .i64 vk, .int .i64 vi, .string vt] 67)) := (Below.refl _ _).alloc (Nat.le_refl _) _
        have HTx := Lib.hid (HT.out.below hbx)
        have HBx := Lib.hid (Below.next HB.out hbx)
        have HOWx := Lib.hid (own_at HOW.out (fun q _ hl _ => hbx.block q hl))
        have HQx : Hid (∀ p ∈ ps, OneQ (wr.alloc (.cells #[.int .i64 vk, .int .i64 vi, .string vt] 67)) p) := Lib.hid fun p hp => (HQ.out.2.1 p hp).below hbx
        have hsx := hbx.size
        go_upto_region 7 with fail
        have zx := (Blk.new wr 67 #[.int .i64 vk, .int .i64 vi, .string vt]).cell
        obtain ⟨X, HXe⟩ : ∃ z, Hid (wr.heap.size = z) := ⟨_, rfl⟩
        rw [HXe.out] at zx ⊢
        generalize hW2 : wr.alloc (.cells #[.int .i64 vk, .int .i64 vi, .string vt] 67) = w2 at *
        clear hW2 hbx c0 c1 c2 HT HB HOW
        go_wp2_with fail
        refine (rone2_any ⟨vk, vi, vt⟩ _).mono ?_
        clear zx
        rintro e w4 (⟨hval, g, rfl, hS, hb4⟩ | ⟨hval, rfl, hb4⟩)
        · have HOW4 := Lib.hid (own_at HOWx.out (fun q _ hl _ => hb4.block q hl))
          have HB4 := Lib.hid (Below.next HBx.out hb4)
          have HT4 := Lib.hid (HTx.out.below hb4)
          have HP4 : Hid (∀ p ∈ ps ++ [oneSet g ⟨vk, vi, vt⟩], OneQ w4 p) := Lib.hid fun p hp => by
            rcases List.mem_append.1 hp with hp | hp
            · exact (HQx.out p hp).below hb4
            · exact ⟨g, _, List.mem_singleton.1 hp, hS⟩
          have HL4 : Hid (ps.length = k ∧ (ps ++ [oneSet g ⟨vk, vi, vt⟩]).map (·.2) = (l.take (k + 1)).map (fun v => [oneIv v]) ∧ (l.take (k + 1)).all validV = true) := by
            refine Lib.hid ⟨HQ.out.1, ?_, ?_⟩
            · rw [take_snoc Hv.out, List.map_append, List.map_append, HQ.out.2.2.1]
              rfl
            · rw [take_snoc Hv.out, List.all_append, HQ.out.2.2.2]
              simp [hval]
          have hs4 : w.heap.size + 1 ≤ w4.heap.size := by have := hb4.size; omega
          clear hS hb4 hval HQx HQ HTx HBx HOWx hsx hsz
          go_wp2_with (at_builtin; refine wpList_append_one2 (by rfl) (.tmp 27) (.tmp 29) _ (by rfl) (w.heap.size + 1) 64 il _ 1 24 Tryz.underlying63 hil hl0 hl1 hl2 (by rfl) (by omega) (.slice A' k c') k _ (by rfl) w4 #[.slice (some ⟨g, 0, none⟩) 1 1] HOW4.out w4.heap.size (by rfl) (by rfl) (by rfl) (one_set (oneSet g ⟨vk, vi, vt⟩)) (by simp only [maxLen]; omega) (by omega) hs4 ?_; intro g6 cap6 w6 hown6 hg6 hB6 hat6 hlt6)
          go_roundw
          case rel =>
            have hbu := (But.alloc (S := fun q => (Value.slice A' k c').ownBlock = some q) w4 (.cells #[.slice (some ⟨g, 0, none⟩) 1 1] 64)).trans (But.of_grown hg6 (fun q hq => hq))
            refine ⟨k + 1, _, cap6, ps ++ [oneSet g ⟨vk, vi, vt⟩], by omega, by go_num, rfl, ?_, Lib.hid ⟨by simp [HL4.out.1], fun p hp => (HP4.out p hp).but hbu (fun q hq cs => own_notI HOW4.out hq cs), HL4.out.2.1, HL4.out.2.2⟩, Lib.hid (HT4.out.but hbu (fun hq => by have := (own_lt HOW4.out hq).1; omega)), Lib.hid (HB4.out.trans (hB6.mono (by omega))), by have := hbu.size; omega⟩
            rw [List.flatMap_append]
            simpa [setc, oneSet] using hown6
          case measure => simp [intOf]; omega
        · obtain ⟨e1, e2⟩ := one_bad (by rw [Hlm.out]; exact hm) Hv.out hval
          rw [Her.out] at e1
          rw [Hrr.out] at e2
          subst e1 e2
          have HB4 := Lib.hid (Below.next HBx.out hb4)
          have HT4 := Lib.hid (HTx.out.below hb4)
          clear hb4
          have zr := HT4.out.cell
          obtain ⟨ff1, ff2, ff3⟩ := put3R_free HT4.out (.int .i64 0) (.bool false)
          have y3 := (put3R_blk (a' := .int .i64 0) (b' := .bool false) (c' := .slice none 0 0) HT4.out).cell
          have y1 := (HT4.out.set_ 0 (.int .i64 0)).cell
          have y2 := ((HT4.out.set_ 0 (.int .i64 0)).set_ 1 (.bool false)).cell
          have HBr := Lib.hid (put3R_below HB4.out (Nat.le_refl _) (.int .i64 0) (.bool false) (.slice none 0 0))
          unfold put3R at y3
          go_wp2
          exact bodyPost_ret (v := .tuple #[.agg #[.int .i64 0, .bool false, .slice none 0 0], .int .i64 10]) (by simp [results, Tryz.results68, go_sem, y3]) rfl ⟨0, false, none, 0, 0, rfl, RgS.nil _ _, HBr.out⟩
      · obtain rfl : k = m := by omega
        have htk : l.take k = l := by rw [List.take_of_length_le]; rw [Hlm.out]; exact Nat.le_refl _
        have HSS := Lib.hid (ones_of HOW.out HQ.out.1 HQ.out.2.1)
        have h1 := HQ.out.2.2.1
        have h2 := HQ.out.2.2.2
        rw [htk] at h1 h2
        obtain ⟨e1, HRR0⟩ := one_good (by rw [Hlm.out]; exact hm) h2
        have HM := Lib.hid h1
        have HRR := Lib.hid (Hrr.out.symm.trans HRR0)
        rw [Her.out] at e1
        subst e1
        clear h1 h2 htk HQ HOW hsz HRR0
        go_wp2_with fail
        refine (fbox_any _ _ _ ps _ HSS.out hm).mono ?_
        rintro e w3 ⟨x3, f3, A3, n3, c3, rfl, hR3, hb3⟩
        rw [HM.out, ← HRR.out] at hR3
        have HT3 := Lib.hid (HT.out.below hb3)
        have HB3 := Lib.hid (Below.next HB.out hb3)
        have HRr := Lib.hid (RgS.off HT3.out (put3R_but _ w.heap.size (.int .i64 x3) (.bool f3) (.slice A3 n3 c3)) hR3)
        clear hR3 hb3
        have zr := HT3.out.cell
        obtain ⟨ff1, ff2, ff3⟩ := put3R_free HT3.out (.int .i64 x3) (.bool f3)
        have y3 := (put3R_blk (a' := .int .i64 x3) (b' := .bool f3) (c' := .slice A3 n3 c3) HT3.out).cell
        have y1 := (HT3.out.set_ 0 (.int .i64 x3)).cell
        have y2 := ((HT3.out.set_ 0 (.int .i64 x3)).set_ 1 (.bool f3)).cell
        have HBr := Lib.hid (put3R_below HB3.out (Nat.le_refl _) (.int .i64 x3) (.bool f3) (.slice A3 n3 c3))
        unfold put3R at y3
        go_wp2
        exact bodyPost_ret (v := .tuple #[.agg #[.int .i64 x3, .bool f3, .slice A3 n3 c3], .int .i64 0]) (by simp [results, Tryz.results68, go_sem, y3]) rfl ⟨x3, f3, A3, n3, c3, rfl, HRr.out, HBr.out⟩
set_option maxHeartbeats 4000000 in
theorem gOne_any (l : List Vl) (B : Option Addr) (m cb : Nat) (w : World) (hV : VlS w B m l) :
    Calls Tryz.prog 67 #[.slice B m cb] w fun e w' => RgRes w (oneRes l) (oneErr l) e w' := by
  obtain ⟨il, hil, hl0, hl1, hl2⟩ := info_parts info_lst
  have HV := Lib.hid hV
  have Hlm := Lib.hid hV.1
  clear hV
  have HT := Lib.hid (Blk.new w 28 #[.int .i64 0, .bool false, .slice none 0 0])
  have HB0 := Lib.hid ((Below.refl w.heap.size w).alloc (Nat.le_refl _) (.cells #[.int .i64 0, .bool false, .slice none 0 0] 28))
  obtain ⟨W0, HW0⟩ : ∃ W : World, Hid (w.alloc (.cells #[.int .i64 0, .bool false, .slice none 0 0] 28) = W) := ⟨_, rfl⟩
  rw [HW0.out] at HT HB0
  have hs0 : W0.heap.size = w.heap.size + 1 := by rw [← HW0.out]; simp
  obtain ⟨er, Her⟩ : ∃ z, Hid (oneErr l = z) := ⟨_, rfl⟩
  obtain ⟨rr, Hrr⟩ : ∃ z, Hid (oneRes l = z) := ⟨_, rfl⟩
  rw [Her.out, Hrr.out]
  rcases Nat.lt_or_ge 12 m with h12 | hm
  · have e1 : er = 1 := by rw [← Her.out, oneErr, if_pos (by have := Hlm.out; omega)]
    have e2 : rr = zeroR := by rw [← Hrr.out, oneRes, Her.out, e1, if_neg (by decide)]
    subst e1 e2
    have g1 : decide (12 < m) = true := by simp; omega
    clear hs0
    go_enter Tryz.func67, Tryz.ntmps67
    go_upto_region 2 with fail
    rw [HW0.out]
    have zr := HT.out.cell
    obtain ⟨ff1, ff2, ff3⟩ := put3R_free HT.out (.int .i64 0) (.bool false)
    have y3 := (put3R_blk (a' := .int .i64 0) (b' := .bool false) (c' := .slice none 0 0) HT.out).cell
    have y1 := (HT.out.set_ 0 (.int .i64 0)).cell
    have y2 := ((HT.out.set_ 0 (.int .i64 0)).set_ 1 (.bool false)).cell
    have HBr := Lib.hid (put3R_below HB0.out (Nat.le_refl _) (.int .i64 0) (.bool false) (.slice none 0 0))
    unfold put3R at y3
    go_wp2
    exact bodyPost_ret (v := .tuple #[.agg #[.int .i64 0, .bool false, .slice none 0 0], .int .i64 1]) (by simp [results, Tryz.results67, go_sem, y3]) rfl ⟨0, false, none, 0, 0, rfl, RgS.nil _ _, HBr.out⟩
  · have g1 : decide (12 < m) = false := by simp; omega
    go_enter Tryz.func67, Tryz.ntmps67
    go_upto_region 3 with fail
    rw [HW0.out]
    go_wp2_with (at_make; refine wpList_make_full _ rfl _ _ 63 rfl (w.heap.size + 1) 64 il (.slice none 0 0) 1 Tryz.underlying63 hil hl0 hl1 .i64 .i64 _ _ m rfl rfl rfl rfl (by rw [hl2]; omega) (by unfold maxLen; omega) (by omega) ?_; intro w1 hown1 hgrow1)
    rw [hs0] at hown1
    have hmk : (madeCells (Value.slice none 0 0).cells (m * 1)).toList = List.replicate m (Value.slice none 0 0) := by
      have h1 : ∀ i : Nat, (Value.slice none 0 0).cells[i % (Value.slice none 0 0).cells.size]! = Value.slice none 0 0 := fun i => by
        show (#[Value.slice none 0 0] : Array Value)[i % 1]! = _
        rw [Nat.mod_one]
        rfl
      unfold madeCells
      rw [Nat.mul_one, Array.toList_map, List.eq_replicate_iff]
      exact ⟨by simp, fun b hb => by
        obtain ⟨i, _, rfl⟩ := List.mem_map.1 hb
        exact h1 i⟩
    have hb01 : Below W0.heap.size W0 w1 := fresh_none hgrow1
    have HT1 := Lib.hid (HT.out.below hb01)
    have HB1 := Lib.hid (Below.next HB0.out hb01)
    have HOW1 := Lib.hid hown1
    rw [hmk] at HOW1
    have hs1 : w.heap.size + 1 ≤ w1.heap.size := by have := hb01.size; omega
    clear hown1 hgrow1 hmk hb01 HT HB0 hs0
    go_wp2_with fail
    go_loopw [18] (fun i wr => ∃ (k : Nat) (ps : List SetP), k ≤ m ∧ i = .int .i64 (k : Int) ∧ wr.ownsRow (w.heap.size + 1) 64 1 (.slice (some ⟨w.heap.size + 1, 0, none⟩) m m) m (ps.flatMap setc ++ List.replicate (m - k) (Value.slice none 0 0)) ∧ Hid (ps.length = k ∧ (∀ p ∈ ps, OneQ wr p) ∧ ps.map (·.2) = (l.take k).map (fun v => [oneIv v]) ∧ (l.take k).all validV = true) ∧ Hid (Blk wr w.heap.size 28 #[.int .i64 0, .bool false, .slice none 0 0]) ∧ Hid (Below w.heap.size w wr) ∧ w.heap.size + 1 ≤ wr.heap.size) (fun i _ => m - (intOf i).toNat)
    case atStart => exact ⟨0, [], by omega, rfl, by simpa using HOW1.out, Lib.hid ⟨rfl, by simp, by simp, by simp⟩, HT1, HB1, hs1⟩
    case round =>
      clear HOW1 HT1 HB1 hs1
      obtain ⟨k, ps, hk, rfl, hown, HQ, HT, HB, hsz⟩ := hrel
      have HOW := Lib.hid hown
      clear hown
      by_cases hlt : k < m
      · obtain ⟨b, o, ⟨vk, vi, vt⟩, rfl, hv, hc⟩ := (HV.out.keep (keeps_of HB.out)).at hlt
        have c0 : wr.cell? ⟨b, o + k * 3, none⟩ = some (.int .i64 vk) := hc 0 (.int .i64 vk) rfl
        have c1 : wr.cell? ⟨b, o + k * 3 + 1, none⟩ = some (.int .i64 vi) := hc 1 (.int .i64 vi) rfl
        have c2 : wr.cell? ⟨b, o + k * 3 + 2, none⟩ = some (.string vt) := hc 2 (.string vt) rfl
        have Hv := Lib.hid hv
        clear hv hc
        have hbx : Below wr.heap.size wr (wr.alloc (.cells #[.int .i64 vk, .int .i64 vi, .string vt] 67)) := (Below.refl _ _).alloc (Nat.le_refl _) _
        have HTx := Lib.hid (HT.out.below hbx)
        have HBx := Lib.hid (Below.next HB.out hbx)
        have HOWx := Lib.hid (own_at HOW.out (fun q _ hl _ => hbx.block q hl))
        have HQx : Hid (∀ p ∈ ps, OneQ (wr.alloc (.cells #[.int .i64 vk, .int .i64 vi, .string vt] 67)) p) := Lib.hid fun p hp => (HQ.out.2.1 p hp).below hbx
        have hsx := hbx.size
        go_upto_region 7 with fail
        have zx := (Blk.new wr 67 #[.int .i64 vk, .int .i64 vi, .string vt]).cell
        obtain ⟨X, HXe⟩ : ∃ z, Hid (wr.heap.size = z) := ⟨_, rfl⟩
        rw [HXe.out] at zx ⊢
        generalize hW2 : wr.alloc (.cells #[.int .i64 vk, .int .i64 vi, .string vt] 67) = w2 at *
        clear hW2 hbx c0 c1 c2 HT HB HOW
        go_wp2_with fail
        refine (one2_any ⟨vk, vi, vt⟩ _).mono ?_
        clear zx
        rintro e w4 (⟨hval, g, rfl, hS, hb4⟩ | ⟨hval, rfl, hb4⟩)
        · have HOW4 := Lib.hid (own_at HOWx.out (fun q _ hl _ => hb4.block q hl))
          have HB4 := Lib.hid (Below.next HBx.out hb4)
          have HT4 := Lib.hid (HTx.out.below hb4)
          have HP4 : Hid (∀ p ∈ ps ++ [oneSet g ⟨vk, vi, vt⟩], OneQ w4 p) := Lib.hid fun p hp => by
            rcases List.mem_append.1 hp with hp | hp
            · exact (HQx.out p hp).below hb4
            · exact ⟨g, _, List.mem_singleton.1 hp, hS⟩
          have HL4 : Hid (ps.length = k ∧ (ps ++ [oneSet g ⟨vk, vi, vt⟩]).map (·.2) = (l.take (k + 1)).map (fun v => [oneIv v]) ∧ (l.take (k + 1)).all validV = true) := by
            refine Lib.hid ⟨HQ.out.1, ?_, ?_⟩
            · rw [take_snoc Hv.out, List.map_append, List.map_append, HQ.out.2.2.1]
              rfl
            · rw [take_snoc Hv.out, List.all_append, HQ.out.2.2.2]
              simp [hval]
          have hs4 : w.heap.size + 1 ≤ w4.heap.size := by have := hb4.size; omega
          clear hS hb4 hval HQx HQ HTx HBx HOWx hsx hsz
          have hfl : (ps.flatMap setc).length = k := by rw [flat_len setc_len, HL4.out.1, Nat.mul_one]
          have hc := HOW4.out.cells (g := w.heap.size + 1) rfl k (.slice none 0 0) (by rw [List.getElem?_append_right (by omega), hfl, Nat.sub_self, show m - k = (m - k - 1) + 1 by omega, List.replicate_succ]; rfl)
          rw [add_at, Nat.zero_add] at hc
          have hfz := fun z => HOW4.out.frozenAt z
          have HFL := Lib.hid hfl
          clear hfl
          go_wp2
          go_roundw
          case rel =>
            have hbz : But (fun q => (Value.slice (some ⟨w.heap.size + 1, 0, none⟩) m m).ownBlock = some q) w4 (w4.setCell ⟨w.heap.size + 1, k, none⟩ (.slice (some ⟨g, 0, none⟩) 1 1)) := But.set (S := fun q => (Value.slice (some ⟨w.heap.size + 1, 0, none⟩) m m).ownBlock = some q) _ (p := ⟨w.heap.size + 1, k, none⟩) rfl _
            refine ⟨k + 1, ps ++ [oneSet g ⟨vk, vi, vt⟩], by omega, by go_num, ?_, Lib.hid ⟨by simp [HL4.out.1], fun p hp => (HP4.out p hp).but hbz (fun q hq cs => own_notI HOW4.out hq cs), HL4.out.2.1, HL4.out.2.2⟩, Lib.hid (HT4.out.but hbz (fun hq => by simp only [Value.ownBlock, Option.some.injEq] at hq; omega)), Lib.hid (HB4.out.setCell (p := ⟨w.heap.size + 1, k, none⟩) (by dsimp only; omega) _), by have := hbz.size; omega⟩
            have h1 := (HOW4.out.stored k (.slice (some ⟨g, 0, none⟩) 1 1)).1
            rw [set_rep HFL.out hlt] at h1
            rw [List.flatMap_append]
            exact h1
          case measure => simp [intOf]; omega
        · obtain ⟨e1, e2⟩ := one_bad (by rw [Hlm.out]; exact hm) Hv.out hval
          rw [Her.out] at e1
          rw [Hrr.out] at e2
          subst e1 e2
          have HB4 := Lib.hid (Below.next HBx.out hb4)
          have HT4 := Lib.hid (HTx.out.below hb4)
          clear hb4
          have zr := HT4.out.cell
          obtain ⟨ff1, ff2, ff3⟩ := put3R_free HT4.out (.int .i64 0) (.bool false)
          have y3 := (put3R_blk (a' := .int .i64 0) (b' := .bool false) (c' := .slice none 0 0) HT4.out).cell
          have y1 := (HT4.out.set_ 0 (.int .i64 0)).cell
          have y2 := ((HT4.out.set_ 0 (.int .i64 0)).set_ 1 (.bool false)).cell
          have HBr := Lib.hid (put3R_below HB4.out (Nat.le_refl _) (.int .i64 0) (.bool false) (.slice none 0 0))
          unfold put3R at y3
          go_wp2
          exact bodyPost_ret (v := .tuple #[.agg #[.int .i64 0, .bool false, .slice none 0 0], .int .i64 10]) (by simp [results, Tryz.results67, go_sem, y3]) rfl ⟨0, false, none, 0, 0, rfl, RgS.nil _ _, HBr.out⟩
      · obtain rfl : k = m := by omega
        have hown := HOW.out
        rw [Nat.sub_self, List.replicate_zero, List.append_nil] at hown
        have htk : l.take k = l := by rw [List.take_of_length_le]; rw [Hlm.out]; exact Nat.le_refl _
        have HSS := Lib.hid (ones_of hown HQ.out.1 HQ.out.2.1)
        have h1 := HQ.out.2.2.1
        have h2 := HQ.out.2.2.2
        rw [htk] at h1 h2
        obtain ⟨e1, HRR0⟩ := one_good (by rw [Hlm.out]; exact hm) h2
        have HM := Lib.hid h1
        have HRR := Lib.hid (Hrr.out.symm.trans HRR0)
        rw [Her.out] at e1
        subst e1
        clear h1 h2 htk HQ HOW hsz HRR0 hown
        go_wp2_with fail
        refine (box_any _ _ _ ps _ HSS.out hm).mono ?_
        rintro e w3 ⟨x3, f3, A3, n3, c3, rfl, hR3, hb3⟩
        rw [HM.out, ← HRR.out] at hR3
        have HT3 := Lib.hid (HT.out.below hb3)
        have HB3 := Lib.hid (Below.next HB.out hb3)
        have HRr := Lib.hid (RgS.off HT3.out (put3R_but _ w.heap.size (.int .i64 x3) (.bool f3) (.slice A3 n3 c3)) hR3)
        clear hR3 hb3
        have zr := HT3.out.cell
        obtain ⟨ff1, ff2, ff3⟩ := put3R_free HT3.out (.int .i64 x3) (.bool f3)
        have y3 := (put3R_blk (a' := .int .i64 x3) (b' := .bool f3) (c' := .slice A3 n3 c3) HT3.out).cell
        have y1 := (HT3.out.set_ 0 (.int .i64 x3)).cell
        have y2 := ((HT3.out.set_ 0 (.int .i64 x3)).set_ 1 (.bool f3)).cell
        have HBr := Lib.hid (put3R_below HB3.out (Nat.le_refl _) (.int .i64 x3) (.bool f3) (.slice A3 n3 c3))
        unfold put3R at y3
        go_wp2
        exact bodyPost_ret (v := .tuple #[.agg #[.int .i64 x3, .bool f3, .slice A3 n3 c3], .int .i64 0]) (by simp [results, Tryz.results67, go_sem, y3]) rfl ⟨x3, f3, A3, n3, c3, rfl, HRr.out, HBr.out⟩
end Go.Proofs.YtnocbigcdjlliaaGreat

/-
  Plain: the region of one row holds that row. And: which regions the reference's Same may be asked about.
-/
namespace Go.Proofs.YtnocbigcdjlliaaGreat
open Go.RowKit
set_option maxRecDepth 100000
open Rg

theorem oneIv_good {v : Vl} (hv : validV v = true) (hr : rngV v) : validL [oneIv v] = true ∧ inL [oneIv v] v = true := by
  have e : (oneL v).1 = [oneIv v] := by unfold oneL; rw [if_pos hv]; rfl
  have hg := good_one hv hr
  rw [e] at hg
  refine ⟨hg.valid (by omega), ?_⟩
  obtain ⟨h1, _⟩ := nextV_good hv hr
  simp only [inL, List.any_cons, List.any_nil, Bool.or_false, inI, oneIv, cmpV_self, Int.le_refl, decide_true, Bool.true_and]
  cases hb : (nextV v).2
  · rfl
  · obtain ⟨_, _, g3, _⟩ := h1 hb
    simp [g3]
theorem one_has {l : List Vl} (hl : l.length ≤ 12) (h : ∀ v ∈ l, validV v = true ∧ rngV v) : oneErr l = 0 ∧ hasR (oneRes l) l = true := by
  have hall : l.all validV = true := by rw [List.all_eq_true]; exact fun v hv => (h v hv).1
  obtain ⟨h1, h2⟩ := one_good hl hall
  refine ⟨h1, ?_⟩
  rw [h2]
  obtain ⟨f1, f2, f3⟩ := box_ok (l.map fun v => [oneIv v]) (fun s hs => by
    obtain ⟨v, hv, rfl⟩ := List.mem_map.1 hs
    exact (oneIv_good (h v hv).1 (h v hv).2).1)
  rw [List.length_map] at f1 f3
  have hw := box_w (l.map fun v => [oneIv v])
  rw [List.length_map] at hw
  have hok : OkR (boxR (l.map fun v => [oneIv v])) := ⟨by rw [hw]; omega, by rw [hw]; omega, by omega, by rw [hw, Int.toNat_natCast]; exact ⟨f1, f2⟩⟩
  rw [hasR_den hok hw ⟨rfl, fun v hv => (h v hv).1⟩, den_box _ _ (by rw [List.length_map])]
  rw [List.all_eq_true]
  intro p hp
  obtain ⟨i, hi⟩ := List.getElem?_of_mem hp
  rw [List.getElem?_zip_eq_some, List.getElem?_map] at hi
  obtain ⟨g1, g2⟩ := hi
  rw [g2] at g1
  simp only [Option.map_some, Option.some.injEq] at g1
  rw [← g1]
  exact (oneIv_good (h _ (List.mem_of_getElem? g2)).1 (h _ (List.mem_of_getElem? g2)).2).2
end Go.Proofs.YtnocbigcdjlliaaGreat

/-
  Which regions the reference's Same may be asked about: the results of operations are canonical or the zero region. No walk here.
-/
namespace Go.Proofs.YtnocbigcdjlliaaGreat
open Go.RowKit
set_option maxRecDepth 100000
open Rg

theorem sm_ok {r : Rg} (h : OkR r) : Sm r := sm_within (ok_form h).2
theorem sm_nil (x : Int) (f : Bool) : Sm (.nil x f) := ⟨Nat.zero_le _, trivial⟩
theorem sm_op (op : Bool → Bool → Bool) (a b : Rg) : Sm (opRes op a b) := by
  by_cases h : opErr op a b = 0
  · exact sm_ok (op_ok h).1
  · unfold opRes
    rw [if_neg h]
    exact sm_nil _ _
theorem sm_cp (a : Rg) : Sm (cpRes a) := by
  unfold cpRes
  split
  · exact sm_op _ _ _
  · exact sm_nil _ _
theorem sm_all (x : Int) : Sm (allRes x) := by
  unfold allRes
  split
  · exact sm_ok (all_ok (by omega))
  · exact sm_nil _ _
theorem sm_box (l : List (List Iv)) : Sm (boxRes l) := by
  unfold boxRes
  split
  · exact sm_ok (box_OkR ‹_›)
  · exact sm_nil _ _
theorem sm_empty (x : Int) : Sm (if 0 ≤ x ∧ x ≤ 12 then .nil x false else zeroR) := by
  split <;> exact sm_nil _ _
theorem smR_box : ∀ L : List (List Iv), (∀ s ∈ L, s.length ≤ 100000) → (boxR L).len ≤ 1 ∧ SmR (boxR L)
  | [], _ => ⟨by simp [boxR, Rg.len], trivial⟩
  | s :: l, h => by
    have ih := smR_box l fun q hq => h q (List.mem_cons_of_mem _ hq)
    unfold boxR
    split
    · exact ⟨by simp [Rg.len], h s List.mem_cons_self, by omega, ih.2, trivial⟩
    · exact ⟨by simp [Rg.len], trivial⟩
theorem sm_one (l : List Vl) : Sm (oneRes l) := by
  unfold oneRes
  split
  · have h := smR_box (l.map fun v => [oneIv v]) fun s hs => by
      obtain ⟨v, _, rfl⟩ := List.mem_map.1 hs
      simp
    exact ⟨by have := h.1; omega, h.2⟩
  · exact sm_nil _ _
end Go.Proofs.YtnocbigcdjlliaaGreat
