/-
  Texts: FValid, RgOps.
-/
import Derived.Test.YtnocbigcdjlliaaGreatB36
set_option linter.unusedVariables false
/-
  The reference's Valid, Size and Equal on regions.
-/
namespace Go.Proofs.YtnocbigcdjlliaaGreat
open Go.RowKit
set_option maxRecDepth 100000
open Rg

/-- canonical and equal -/
noncomputable def eqB (a b : Rg) : Bool := okB a && okB b && decide (a = b)
set_option maxHeartbeats 1000000 in
theorem fvalid_any (r : Rg) (x : Int) (f : Bool) (A : Option Addr) (n c : Nat) (w : World) (hR : RgS w x f A n c r) :
    Calls Tryz.prog 39 #[.agg #[.int .i64 x, .bool f, .slice A n c]] w fun e w' => e = .returned (.bool (okB r)) ∧ Below w.heap.size w w' := by
  have hx := hR.hw
  have HR := Lib.hid hR
  have HX := Lib.hid hx
  clear hR hx
  have E0 := Lib.hid (Blk.new w 28 #[.int .i64 x, .bool f, .slice A n c])
  have HB0 : Hid (Below w.heap.size w (w.alloc (.cells #[.int .i64 x, .bool f, .slice A n c] 28))) := Lib.hid ((Below.refl _ _).alloc (Nat.le_refl _) _)
  rcases Int.lt_or_le x 0 with h0 | h0
  · rw [okB_false (fun h => by have h1 := h.1; rw [HX.out] at h1; omega)]
    have g1 : decide (0 ≤ x) = false := by simp; omega
    go_enter Tryz.func39, Tryz.ntmps39
    go_wp2
    go_ret
    exact ⟨rfl, HB0.out⟩
  · have g1 : decide (0 ≤ x) = true := by simp; omega
    rcases Int.lt_or_le 12 x with h1 | h1
    · rw [okB_false (fun h => by have h2 := h.2.1; rw [HX.out] at h2; omega)]
      have g2 : decide (x ≤ 12) = false := by simp; omega
      go_enter Tryz.func39, Tryz.ntmps39
      go_wp2
      go_ret
      exact ⟨rfl, HB0.out⟩
    · have g2 : decide (x ≤ 12) = true := by simp; omega
      go_enter Tryz.func39, Tryz.ntmps39
      go_wp2_with fail
      refine (fcount_any r x f A n c 0 _ (HR.out.keep (keeps_of HB0.out)) (by omega)).mono ?_
      rintro e w1 ⟨rfl, hb1⟩
      have hz := (E0.out.below hb1).cell
      have hB2 := Below.next HB0.out hb1
      by_cases hs : r.size ≤ 64
      · have e1 : cntR 0 r = r.size := by rw [cntR, if_pos (by omega)]; omega
        rw [e1]
        have g3 : decide ((r.size : Int) ≤ 64) = true := by simp; omega
        obtain ⟨d, rfl⟩ := Int.eq_ofNat_of_zero_le h0
        go_wp2_with fail
        refine (fform_any d r _ f A n c _ (HR.out.keep (keeps_of hB2)) hs (by omega)).mono ?_
        rintro e w2 ⟨rfl, hb2⟩
        go_wp2
        go_ret
        refine ⟨ret_bool ?_, Below.next hB2 hb2⟩
        rw [Bool.eq_iff_iff, okB_true, formB_true]
        unfold OkR
        rw [HX.out]
        constructor
        · intro h; exact ⟨h0, h1, hs, h⟩
        · intro h; exact h.2.2.2
      · have e1 : cntR 0 r = 65 := by rw [cntR, if_neg (by omega)]
        rw [e1]
        have g3 : decide (((65 : Nat) : Int) ≤ 64) = false := by decide
        have Hno := Lib.hid (okB_false (fun h => hs h.2.2.1))
        go_wp2
        go_ret
        exact ⟨ret_bool Hno.out.symm, hB2⟩
/-- the size, if canonical -/
noncomputable def sizeB (r : Rg) : Int := if okB r then (r.size : Int) else 0
theorem fsize_any (r : Rg) (x : Int) (f : Bool) (A : Option Addr) (n c : Nat) (w : World) (hR : RgS w x f A n c r) :
    Calls Tryz.prog 41 #[.agg #[.int .i64 x, .bool f, .slice A n c]] w fun e w' => e = .returned (.int .i64 (sizeB r)) ∧ Below w.heap.size w w' := by
  have HR := Lib.hid hR
  clear hR
  generalize hz : sizeB r = z
  have HZ : Hid ((if okB r then (r.size : Int) else 0) = z) := hz
  clear hz
  have E0 := Lib.hid (Blk.new w 28 #[.int .i64 x, .bool f, .slice A n c])
  have hB0 : Below w.heap.size w (w.alloc (.cells #[.int .i64 x, .bool f, .slice A n c] 28)) := (Below.refl _ _).alloc (Nat.le_refl _) _
  go_enter Tryz.func41, Tryz.ntmps41
  go_wp2_with fail
  refine (fvalid_any r x f A n c _ (HR.out.keep (keeps_alloc _ _))).mono ?_
  rintro e w1 ⟨rfl, hb1⟩
  obtain ⟨v, Hv⟩ : ∃ t, Hid (okB r = t) := ⟨_, rfl⟩
  rw [Hv.out]
  have hz := (E0.out.below hb1).cell
  have hB2 := Below.next hB0 hb1
  cases v
  · go_wp2
    go_ret
    exact ⟨ret_i64 (by rw [← HZ.out, Hv.out]; rfl), hB2⟩
  · have hs := (okB_true.1 Hv.out).2.2.1
    go_wp2_with fail
    refine (fcount_any r x f A n c 0 _ (HR.out.keep (keeps_of hB2)) (by omega)).mono ?_
    rintro e w2 ⟨rfl, hb2⟩
    have e1 : cntR 0 r = r.size := by rw [cntR, if_pos (by omega)]; omega
    rw [e1]
    go_wp2
    go_ret
    exact ⟨ret_i64 (by rw [← HZ.out, Hv.out]; rfl), Below.next hB2 hb2⟩
set_option maxHeartbeats 1000000 in
theorem fequal_any (a : Rg) (xa : Int) (fa : Bool) (Aa : Option Addr) (na ca : Nat) (b : Rg) (xb : Int) (fb : Bool) (Ab : Option Addr) (nb cb : Nat) (w : World) (hA : RgS w xa fa Aa na ca a) (hB : RgS w xb fb Ab nb cb b) :
    Calls Tryz.prog 42 #[.agg #[.int .i64 xa, .bool fa, .slice Aa na ca], .agg #[.int .i64 xb, .bool fb, .slice Ab nb cb]] w fun e w' => e = .returned (.bool (eqB a b)) ∧ Below w.heap.size w w' := by
  obtain ⟨rr, Hrr⟩ : ∃ z, Hid (eqB a b = z) := ⟨_, rfl⟩
  rw [Hrr.out]
  have HA := Lib.hid hA
  have HB := Lib.hid hB
  clear hA hB
  obtain ⟨W0, HW0⟩ : ∃ W : World, Hid ((w.alloc (.cells #[.int .i64 xa, .bool fa, .slice Aa na ca] 28)).alloc (.cells #[.int .i64 xb, .bool fb, .slice Ab nb cb] 28) = W) := ⟨_, rfl⟩
  have HC : Hid (Blk W0 w.heap.size 28 #[.int .i64 xa, .bool fa, .slice Aa na ca] ∧ Blk W0 (w.heap.size + 1) 28 #[.int .i64 xb, .bool fb, .slice Ab nb cb]) := by
    rw [← HW0.out]
    exact Lib.hid ⟨(Blk.step rfl).alloc _, Blk.step (by simp)⟩
  have HB0 : Hid (Below w.heap.size w W0) := by
    rw [← HW0.out]
    exact Lib.hid (((Below.refl _ _).alloc (Nat.le_refl _) _).alloc (by simp) _)
  obtain ⟨va, Hva⟩ : ∃ t, Hid (okB a = t) := ⟨_, rfl⟩
  obtain ⟨vb, Hvb⟩ : ∃ t, Hid (okB b = t) := ⟨_, rfl⟩
  go_enter Tryz.func42, Tryz.ntmps42
  go_wp2_with fail
  rw [HW0.out]
  refine (fvalid_any a xa fa Aa na ca _ (HA.out.keep (keeps_of HB0.out))).mono ?_
  rintro e w1 ⟨rfl, hb1⟩
  rw [Hva.out]
  have HB1 := Lib.hid (Below.next HB0.out hb1)
  have z1 := (HC.out.1.below hb1).cell
  have z2 := (HC.out.2.below hb1).cell
  have HC1 := Lib.hid (And.intro (HC.out.1.below hb1) (HC.out.2.below hb1))
  clear hb1
  cases va
  · go_wp2
    go_ret
    exact ⟨ret_bool (by rw [← Hrr.out, eqB, Hva.out]; rfl), HB1.out⟩
  · go_wp2_with fail
    refine (fvalid_any b xb fb Ab nb cb _ (HB.out.keep (keeps_of HB1.out))).mono ?_
    rintro e w2 ⟨rfl, hb2⟩
    rw [Hvb.out]
    have HB2 := Lib.hid (Below.next HB1.out hb2)
    clear z1 z2
    have z1 := (HC1.out.1.below hb2).cell
    have z2 := (HC1.out.2.below hb2).cell
    clear hb2
    cases vb
    · go_wp2
      go_ret
      exact ⟨ret_bool (by rw [← Hrr.out, eqB, Hva.out, Hvb.out]; rfl), HB2.out⟩
    · have oka := okB_true.1 Hva.out
      have okb := okB_true.1 Hvb.out
      have HO := Lib.hid (And.intro oka okb)
      clear oka okb
      go_wp2_with fail
      refine (fsame_any a xa fa Aa na ca xb fb Ab nb cb b _ (HA.out.keep (keeps_of HB2.out)) (HB.out.keep (keeps_of HB2.out)) (sm_within ⟨HO.out.1.2.2.1, HO.out.1.2.2.2.2⟩) (sm_within ⟨HO.out.2.2.2.1, HO.out.2.2.2.2.2⟩)).mono ?_
      rintro e w3 ⟨rfl, hb3⟩
      obtain ⟨t, Ht⟩ : ∃ t, Hid (decide (a = b) = t) := ⟨_, rfl⟩
      rw [Ht.out]
      go_wp2
      go_ret
      exact ⟨ret_bool (by rw [← Hrr.out, eqB, Hva.out, Hvb.out, Ht.out]; rfl), Below.next HB2.out hb3⟩
end Go.Proofs.YtnocbigcdjlliaaGreat

/-
  The program's Intersect, Minus, Equal and Covers on regions.
-/
namespace Go.Proofs.YtnocbigcdjlliaaGreat
open Go.RowKit
set_option maxRecDepth 100000
open Rg

set_option maxHeartbeats 2000000 in
theorem gintersect_any (a : Rg) (xa : Int) (fa : Bool) (Aa : Option Addr) (na ca : Nat) (b : Rg) (xb : Int) (fb : Bool) (Ab : Option Addr) (nb cb : Nat) (w : World) (hA : RgS w xa fa Aa na ca a) (hB : RgS w xb fb Ab nb cb b) (wA : WfR a) (wB : WfR b) :
    Calls Tryz.prog 31 #[.agg #[.int .i64 xa, .bool fa, .slice Aa na ca], .agg #[.int .i64 xb, .bool fb, .slice Ab nb cb]] w fun e w' => RgRes w (opRes opIr a b) (opErr opIr a b) e w' := by
  obtain ⟨er, Her⟩ : ∃ z, Hid (opErr opIr a b = z) := ⟨_, rfl⟩
  obtain ⟨rr, Hrr⟩ : ∃ z, Hid (opRes opIr a b = z) := ⟨_, rfl⟩
  rw [Her.out, Hrr.out]
  have HA := Lib.hid hA
  have HB := Lib.hid hB
  have HW := Lib.hid (And.intro wA wB)
  clear hA hB wA wB
  obtain ⟨W0, HW0⟩ : ∃ W : World, Hid (((w.alloc (.cells #[.int .i64 xa, .bool fa, .slice Aa na ca] 28)).alloc (.cells #[.int .i64 xb, .bool fb, .slice Ab nb cb] 28)).alloc (.cells #[.int .i64 0, .bool false, .slice none 0 0] 28) = W) := ⟨_, rfl⟩
  have HC : Hid (Blk W0 (w.heap.size + 2) 28 #[.int .i64 0, .bool false, .slice none 0 0]) := by
    rw [← HW0.out]
    exact Lib.hid (Blk.step (by simp))
  have HB0 : Hid (Below w.heap.size w W0) := by
    rw [← HW0.out]
    exact Lib.hid ((((Below.refl _ _).alloc (Nat.le_refl _) _).alloc (by simp) _).alloc (by simp; omega) _)
  go_enter Tryz.func31, Tryz.ntmps31
  go_wp2_with fail
  rw [HW0.out]
  refine (operate_any true false false a xa fa Aa na ca b xb fb Ab nb cb _ (HA.out.keep (keeps_of HB0.out)) (HB.out.keep (keeps_of HB0.out)) HW.out.1 HW.out.2).mono ?_
  rintro e w1 ⟨x, f, A, n, c, rfl, hR1, hb1⟩
  rw [Her.out]
  rw [Hrr.out] at hR1
  have HT := Lib.hid (HC.out.below hb1)
  have HB1 := Lib.hid (Below.next HB0.out hb1)
  have HR1 := Lib.hid hR1
  clear hb1 hR1 HC HB0
  have z3 := HT.out.cell
  obtain ⟨ff1, ff2, ff3⟩ := put3R_free HT.out (.int .i64 x) (.bool f)
  have y3 := (put3R_blk (a' := .int .i64 x) (b' := .bool f) (c' := .slice A n c) HT.out).cell
  have y1 := (HT.out.set_ 0 (.int .i64 x)).cell
  have y2 := ((HT.out.set_ 0 (.int .i64 x)).set_ 1 (.bool f)).cell
  have HBr := Lib.hid (put3R_below HB1.out (show w.heap.size ≤ w.heap.size + 2 by omega) (.int .i64 x) (.bool f) (.slice A n c))
  have HRr := Lib.hid (RgS.off HT.out (put3R_but _ (w.heap.size + 2) (.int .i64 x) (.bool f) (.slice A n c)) HR1.out)
  unfold put3R at y3
  go_wp2
  exact bodyPost_ret (v := .tuple #[.agg #[.int .i64 x, .bool f, .slice A n c], .int .i64 er]) (by simp [results, Tryz.results31, go_sem, y3]) rfl ⟨x, f, A, n, c, rfl, HRr.out, HBr.out⟩
set_option maxHeartbeats 2000000 in
theorem gminus_any (a : Rg) (xa : Int) (fa : Bool) (Aa : Option Addr) (na ca : Nat) (b : Rg) (xb : Int) (fb : Bool) (Ab : Option Addr) (nb cb : Nat) (w : World) (hA : RgS w xa fa Aa na ca a) (hB : RgS w xb fb Ab nb cb b) (wA : WfR a) (wB : WfR b) :
    Calls Tryz.prog 34 #[.agg #[.int .i64 xa, .bool fa, .slice Aa na ca], .agg #[.int .i64 xb, .bool fb, .slice Ab nb cb]] w fun e w' => RgRes w (opRes opMr a b) (opErr opMr a b) e w' := by
  obtain ⟨er, Her⟩ : ∃ z, Hid (opErr opMr a b = z) := ⟨_, rfl⟩
  obtain ⟨rr, Hrr⟩ : ∃ z, Hid (opRes opMr a b = z) := ⟨_, rfl⟩
  rw [Her.out, Hrr.out]
  have HA := Lib.hid hA
  have HB := Lib.hid hB
  have HW := Lib.hid (And.intro wA wB)
  clear hA hB wA wB
  obtain ⟨W0, HW0⟩ : ∃ W : World, Hid (((w.alloc (.cells #[.int .i64 xa, .bool fa, .slice Aa na ca] 28)).alloc (.cells #[.int .i64 xb, .bool fb, .slice Ab nb cb] 28)).alloc (.cells #[.int .i64 0, .bool false, .slice none 0 0] 28) = W) := ⟨_, rfl⟩
  have HC : Hid (Blk W0 (w.heap.size + 2) 28 #[.int .i64 0, .bool false, .slice none 0 0]) := by
    rw [← HW0.out]
    exact Lib.hid (Blk.step (by simp))
  have HB0 : Hid (Below w.heap.size w W0) := by
    rw [← HW0.out]
    exact Lib.hid ((((Below.refl _ _).alloc (Nat.le_refl _) _).alloc (by simp) _).alloc (by simp; omega) _)
  go_enter Tryz.func34, Tryz.ntmps34
  go_wp2_with fail
  rw [HW0.out]
  refine (operate_any false true false a xa fa Aa na ca b xb fb Ab nb cb _ (HA.out.keep (keeps_of HB0.out)) (HB.out.keep (keeps_of HB0.out)) HW.out.1 HW.out.2).mono ?_
  rintro e w1 ⟨x, f, A, n, c, rfl, hR1, hb1⟩
  rw [Her.out]
  rw [Hrr.out] at hR1
  have HT := Lib.hid (HC.out.below hb1)
  have HB1 := Lib.hid (Below.next HB0.out hb1)
  have HR1 := Lib.hid hR1
  clear hb1 hR1 HC HB0
  have z3 := HT.out.cell
  obtain ⟨ff1, ff2, ff3⟩ := put3R_free HT.out (.int .i64 x) (.bool f)
  have y3 := (put3R_blk (a' := .int .i64 x) (b' := .bool f) (c' := .slice A n c) HT.out).cell
  have y1 := (HT.out.set_ 0 (.int .i64 x)).cell
  have y2 := ((HT.out.set_ 0 (.int .i64 x)).set_ 1 (.bool f)).cell
  have HBr := Lib.hid (put3R_below HB1.out (show w.heap.size ≤ w.heap.size + 2 by omega) (.int .i64 x) (.bool f) (.slice A n c))
  have HRr := Lib.hid (RgS.off HT.out (put3R_but _ (w.heap.size + 2) (.int .i64 x) (.bool f) (.slice A n c)) HR1.out)
  unfold put3R at y3
  go_wp2
  exact bodyPost_ret (v := .tuple #[.agg #[.int .i64 x, .bool f, .slice A n c], .int .i64 er]) (by simp [results, Tryz.results34, go_sem, y3]) rfl ⟨x, f, A, n, c, rfl, HRr.out, HBr.out⟩
set_option maxHeartbeats 1000000 in
theorem gequal_any (a : Rg) (xa : Int) (fa : Bool) (Aa : Option Addr) (na ca : Nat) (b : Rg) (xb : Int) (fb : Bool) (Ab : Option Addr) (nb cb : Nat) (w : World) (hA : RgS w xa fa Aa na ca a) (hB : RgS w xb fb Ab nb cb b) :
    Calls Tryz.prog 20 #[.agg #[.int .i64 xa, .bool fa, .slice Aa na ca], .agg #[.int .i64 xb, .bool fb, .slice Ab nb cb]] w fun e w' => e = .returned (.bool (eqB a b)) ∧ Below w.heap.size w w' := by
  obtain ⟨rr, Hrr⟩ : ∃ z, Hid (eqB a b = z) := ⟨_, rfl⟩
  rw [Hrr.out]
  have HA := Lib.hid hA
  have HB := Lib.hid hB
  clear hA hB
  obtain ⟨W0, HW0⟩ : ∃ W : World, Hid ((w.alloc (.cells #[.int .i64 xa, .bool fa, .slice Aa na ca] 28)).alloc (.cells #[.int .i64 xb, .bool fb, .slice Ab nb cb] 28) = W) := ⟨_, rfl⟩
  have HC : Hid (Blk W0 w.heap.size 28 #[.int .i64 xa, .bool fa, .slice Aa na ca] ∧ Blk W0 (w.heap.size + 1) 28 #[.int .i64 xb, .bool fb, .slice Ab nb cb]) := by
    rw [← HW0.out]
    exact Lib.hid ⟨(Blk.step rfl).alloc _, Blk.step (by simp)⟩
  have HB0 : Hid (Below w.heap.size w W0) := by
    rw [← HW0.out]
    exact Lib.hid (((Below.refl _ _).alloc (Nat.le_refl _) _).alloc (by simp) _)
  obtain ⟨va, Hva⟩ : ∃ t, Hid (okB a = t) := ⟨_, rfl⟩
  obtain ⟨vb, Hvb⟩ : ∃ t, Hid (okB b = t) := ⟨_, rfl⟩
  go_enter Tryz.func20, Tryz.ntmps20
  go_wp2_with fail
  rw [HW0.out]
  refine (rvalidR_any a xa fa Aa na ca _ (HA.out.keep (keeps_of HB0.out))).mono ?_
  rintro e w1 ⟨rfl, hb1⟩
  rw [Hva.out]
  have HB1 := Lib.hid (Below.next HB0.out hb1)
  have z1 := (HC.out.1.below hb1).cell
  have z2 := (HC.out.2.below hb1).cell
  have HC1 := Lib.hid (And.intro (HC.out.1.below hb1) (HC.out.2.below hb1))
  clear hb1
  cases va
  · go_wp2
    go_ret
    exact ⟨ret_bool (by rw [← Hrr.out, eqB, Hva.out]; rfl), HB1.out⟩
  · go_wp2_with fail
    refine (rvalidR_any b xb fb Ab nb cb _ (HB.out.keep (keeps_of HB1.out))).mono ?_
    rintro e w2 ⟨rfl, hb2⟩
    rw [Hvb.out]
    have HB2 := Lib.hid (Below.next HB1.out hb2)
    clear z1 z2
    have z1 := (HC1.out.1.below hb2).cell
    have z2 := (HC1.out.2.below hb2).cell
    clear hb2
    cases vb
    · go_wp2
      go_ret
      exact ⟨ret_bool (by rw [← Hrr.out, eqB, Hva.out, Hvb.out]; rfl), HB2.out⟩
    · have oka := okB_true.1 Hva.out
      have okb := okB_true.1 Hvb.out
      have HO := Lib.hid (And.intro oka okb)
      clear oka okb
      go_wp2_with fail
      refine (rsame_any a xa fa Aa na ca xb fb Ab nb cb b _ (HA.out.keep (keeps_of HB2.out)) (HB.out.keep (keeps_of HB2.out)) (by have := HO.out.1.2.2.1; omega) HO.out.1.2.2.2.2).mono ?_
      rintro e w3 ⟨rfl, hb3⟩
      obtain ⟨t, Ht⟩ : ∃ t, Hid (decide (a = b) = t) := ⟨_, rfl⟩
      rw [Ht.out]
      go_wp2
      go_ret
      exact ⟨ret_bool (by rw [← Hrr.out, eqB, Hva.out, Hvb.out, Ht.out]; rfl), Below.next HB2.out hb3⟩
/-- whether b is within a, and the error -/
noncomputable def covErr (a b : Rg) : Int := if okB a && okB b && decide (a.w = b.w) then 0 else 40
noncomputable def covRes (a b : Rg) : Bool := if covErr a b = 0 then (comb opMr a.w.toNat b a).nix else false
theorem minus_cov (a b : Rg) : (opErr opMr b a = 40 ↔ covErr a b = 40) ∧ (covErr a b = 0 ∨ covErr a b = 40) ∧ (opErr opMr b a = 0 → covRes a b = (opRes opMr b a).nix) ∧ (opErr opMr b a ≠ 0 → covRes a b = false) := by
  have he : (okB b && okB a && decide (b.w = a.w)) = (okB a && okB b && decide (a.w = b.w)) := by
    have : decide (b.w = a.w) = decide (a.w = b.w) := by
      by_cases h : a.w = b.w
      · rw [h]
      · rw [decide_eq_false h, decide_eq_false (fun e => h e.symm)]
    rw [this]
    cases okB a <;> cases okB b <;> rfl
  unfold covRes covErr opRes opErr
  rw [he]
  by_cases hc : (okB a && okB b && decide (a.w = b.w)) = true
  · have hw : b.w = a.w := by
      simp only [Bool.and_eq_true, decide_eq_true_eq] at hc
      exact hc.2.symm
    have hf : Form a.w.toNat (comb opMr a.w.toNat b a) := by
      simp only [Bool.and_eq_true, okB_true] at hc
      have h1 := hc.1.1.2.2.2.1
      have h2 := hc.1.2.2.2.2.1
      rw [hw] at h2
      exact comb_form _ _ _ _ h2 h1
    rw [if_pos hc, if_pos hc, hw]
    refine ⟨?_, .inl rfl, ?_, ?_⟩
    · split <;> simp
    · intro h
      split at h
      · rename_i h1
        simp [h1]
      · cases h
    · intro h
      rw [if_pos rfl]
      cases hn : (comb opMr a.w.toNat b a).nix
      · rfl
      · have := nix_within hf hn
        exact absurd (if_pos this) h
  · rw [if_neg hc, if_neg hc]
    simp
set_option maxHeartbeats 2000000 in
theorem gcovers_any (a : Rg) (xa : Int) (fa : Bool) (Aa : Option Addr) (na ca : Nat) (b : Rg) (xb : Int) (fb : Bool) (Ab : Option Addr) (nb cb : Nat) (w : World) (hA : RgS w xa fa Aa na ca a) (hB : RgS w xb fb Ab nb cb b) (wA : WfR a) (wB : WfR b) :
    Calls Tryz.prog 19 #[.agg #[.int .i64 xa, .bool fa, .slice Aa na ca], .agg #[.int .i64 xb, .bool fb, .slice Ab nb cb]] w fun e w' => e = .returned (.tuple #[.bool (covRes a b), .int .i64 (covErr a b)]) ∧ Below w.heap.size w w' := by
  obtain ⟨h1, h2, h3, h4⟩ := minus_cov a b
  obtain ⟨er, Her⟩ : ∃ z, Hid (opErr opMr b a = z) := ⟨_, rfl⟩
  obtain ⟨rr, Hrr⟩ : ∃ z, Hid (opRes opMr b a = z) := ⟨_, rfl⟩
  obtain ⟨ce, Hce⟩ : ∃ z, Hid (covErr a b = z) := ⟨_, rfl⟩
  obtain ⟨cr, Hcr⟩ : ∃ z, Hid (covRes a b = z) := ⟨_, rfl⟩
  rw [Her.out, Hce.out] at h1
  rw [Hce.out] at h2
  rw [Her.out, Hrr.out, Hcr.out] at h3
  rw [Her.out, Hcr.out] at h4
  rw [Hce.out, Hcr.out]
  have HH := Lib.hid (And.intro h1 (And.intro h2 (And.intro h3 h4)))
  have HA := Lib.hid hA
  have HB := Lib.hid hB
  have HW := Lib.hid (And.intro wA wB)
  clear hA hB wA wB h1 h2 h3 h4
  have HB0 : Hid (Below w.heap.size w ((w.alloc (.cells #[.int .i64 xa, .bool fa, .slice Aa na ca] 28)).alloc (.cells #[.int .i64 xb, .bool fb, .slice Ab nb cb] 28))) := Lib.hid (((Below.refl _ _).alloc (Nat.le_refl _) _).alloc (by simp) _)
  go_enter Tryz.func19, Tryz.ntmps19
  go_wp2_with fail
  refine (gminus_any b xb fb Ab nb cb a xa fa Aa na ca _ (HB.out.keep (keeps_of HB0.out)) (HA.out.keep (keeps_of HB0.out)) HW.out.2 HW.out.1).mono ?_
  rintro e w1 ⟨x, f, A, n, c, rfl, hR1, hb1⟩
  rw [Her.out]
  rw [Hrr.out] at hR1
  have HR1 := Lib.hid (hR1.keep (keeps_alloc w1 (.cells #[.int .i64 x, .bool f, .slice A n c] 28)))
  have HV := Lib.hid (Blk.new w1 28 #[.int .i64 x, .bool f, .slice A n c])
  have hb01 := Below.next HB0.out hb1
  have HB1 := Lib.hid (hb01.alloc hb01.size (.cells #[.int .i64 x, .bool f, .slice A n c] 28))
  clear hR1 hb1 hb01
  by_cases h40 : er = 40
  · have e1 := HH.out.1.1 h40
    have e2 := HH.out.2.2.2 (by omega)
    subst h40 e1 e2
    go_wp2
    go_ret2
    exact ⟨rfl, HB1.out⟩
  · have e1 : ce = 0 := by
      rcases HH.out.2.1 with h | h
      · exact h
      · exact absurd (HH.out.1.2 h) h40
    subst e1
    have g1 : (er == 40) = false := by simp [h40]
    by_cases h0 : er = 0
    · obtain rfl : cr = rr.nix := HH.out.2.2.1 h0
      subst h0
      go_wp2_with fail
      refine (rempty_any x f A n c rr _ HR1.out).mono ?_
      rintro e w2 ⟨rfl, hb2⟩
      go_wp2
      go_ret2
      exact ⟨rfl, Below.next HB1.out hb2⟩
    · have e3 := HH.out.2.2.2 h0
      have g2 : (er == 0) = false := by simp [h0]
      subst e3
      clear h40 h0
      go_wp2
      go_ret2
      exact ⟨rfl, HB1.out⟩
end Go.Proofs.YtnocbigcdjlliaaGreat
