/-
  Texts: FOps, AllR.
-/
import Derived.Test.YtnocbigcdjlliaaGreatB32
import Derived.Test.YtnocbigcdjlliaaGreatB34
import Derived.OwnWalk
set_option linter.unusedVariables false
/-
  The reference's limited, Do, Union, Intersect, Minus and Covers on regions.
-/
namespace Go.Proofs.YtnocbigcdjlliaaGreat
open Go.RowKit
set_option maxRecDepth 100000
open Rg

/-- a form within the limits, and the error -/
def limE (r : Rg) : Int := if r.size ≤ 64 ∧ r.fits = true then 0 else 2
def limR (r : Rg) : Rg := if limE r = 0 then r else zeroR
set_option maxHeartbeats 1000000 in
theorem flimited_any (r : Rg) (x : Int) (f : Bool) (A : Option Addr) (n c : Nat) (w : World) (hR : RgS w x f A n c r) (hsm : Sm r) :
    Calls Tryz.prog 96 #[.agg #[.int .i64 x, .bool f, .slice A n c]] w fun e w' => RgRes w (limR r) (limE r) e w' := by
  obtain ⟨er, Her⟩ : ∃ z, Hid (limE r = z) := ⟨_, rfl⟩
  obtain ⟨rr, Hrr⟩ : ∃ z, Hid (limR r = z) := ⟨_, rfl⟩
  rw [Her.out, Hrr.out]
  have Hz : Hid (er ≠ 0 → rr = zeroR) := Lib.hid (fun h => by rw [← Hrr.out, limR, if_neg (by rw [Her.out]; exact h)])
  have Ho : Hid (er = 0 → rr = r) := Lib.hid (fun h => by rw [← Hrr.out, limR, if_pos (by rw [Her.out]; exact h)])
  have HR := Lib.hid hR
  have HSM := Lib.hid hsm
  clear hR hsm
  obtain ⟨W0, HW0⟩ : ∃ W : World, Hid ((w.alloc (.cells #[.int .i64 x, .bool f, .slice A n c] 28)).alloc (.cells #[.int .i64 0, .bool false, .slice none 0 0] 28) = W) := ⟨_, rfl⟩
  have HC : Hid (Blk W0 w.heap.size 28 #[.int .i64 x, .bool f, .slice A n c] ∧ Blk W0 (w.heap.size + 1) 28 #[.int .i64 0, .bool false, .slice none 0 0]) := by
    rw [← HW0.out]
    exact Lib.hid ⟨(Blk.step rfl).alloc _, Blk.step (by simp)⟩
  have HB0 : Hid (Below w.heap.size w W0) := by
    rw [← HW0.out]
    exact Lib.hid (((Below.refl _ _).alloc (Nat.le_refl _) _).alloc (by simp) _)
  go_enter Tryz.func96, Tryz.ntmps96
  go_wp2_with fail
  rw [HW0.out]
  refine (fcount_any r x f A n c 0 _ (HR.out.keep (keeps_of HB0.out)) (by omega)).mono ?_
  rintro e w1 ⟨rfl, hb1⟩
  have HB1 := Lib.hid (Below.next HB0.out hb1)
  have HT1 := Lib.hid (HC.out.2.below hb1)
  have HA1 := Lib.hid (HC.out.1.below hb1)
  clear hb1 HC HB0
  by_cases hs : r.size ≤ 64
  · have e1 : cntR 0 r = r.size := by rw [cntR, if_pos (by omega)]; omega
    rw [e1]
    have g3 : decide (64 < (r.size : Int)) = false := by simp; omega
    have z1 := HA1.out.cell
    go_wp2_with fail
    refine (ffits_any r x f A n c _ (HR.out.keep (keeps_of HB1.out)) HSM.out).mono ?_
    rintro e w2 ⟨rfl, hb2⟩
    have HB2 := Lib.hid (Below.next HB1.out hb2)
    have HT2 := Lib.hid (HT1.out.below hb2)
    have HA2 := Lib.hid (HA1.out.below hb2)
    obtain ⟨v, Hv⟩ : ∃ t, Hid (r.fits = t) := ⟨_, rfl⟩
    rw [Hv.out]
    clear hb2 z1 HB1 HT1 HA1 g3
    cases v
    · have e1 : er = 2 := by rw [← Her.out]; simp [limE, Hv.out]
      have e2 := Hz.out (by omega)
      subst e1 e2
      have zr := HT2.out.cell
      obtain ⟨ff1, ff2, ff3⟩ := put3R_free HT2.out (.int .i64 0) (.bool false)
      have y3 := (put3R_blk (a' := .int .i64 0) (b' := .bool false) (c' := .slice none 0 0) HT2.out).cell
      have y1 := (HT2.out.set_ 0 (.int .i64 0)).cell
      have y2 := ((HT2.out.set_ 0 (.int .i64 0)).set_ 1 (.bool false)).cell
      have HBr := Lib.hid (put3R_below HB2.out (show w.heap.size ≤ w.heap.size + 1 by omega) (.int .i64 0) (.bool false) (.slice none 0 0))
      unfold put3R at y3
      go_wp2
      exact bodyPost_ret (v := .tuple #[.agg #[.int .i64 0, .bool false, .slice none 0 0], .int .i64 2]) (by simp [results, Tryz.results96, go_sem, y3]) rfl ⟨0, false, none, 0, 0, rfl, RgS.nil _ _, HBr.out⟩
    · have e1 : er = 0 := by rw [← Her.out]; simp [limE, Hv.out, hs]
      have e2 := Ho.out e1
      subst e1 e2
      have z1 := HA2.out.cell
      have HRr := Lib.hid (RgS.off HT2.out (put3R_but _ (w.heap.size + 1) (.int .i64 x) (.bool f) (.slice A n c)) (HR.out.keep (keeps_of HB2.out)))
      have zr := HT2.out.cell
      obtain ⟨ff1, ff2, ff3⟩ := put3R_free HT2.out (.int .i64 x) (.bool f)
      have y3 := (put3R_blk (a' := .int .i64 x) (b' := .bool f) (c' := .slice A n c) HT2.out).cell
      have y1 := (HT2.out.set_ 0 (.int .i64 x)).cell
      have y2 := ((HT2.out.set_ 0 (.int .i64 x)).set_ 1 (.bool f)).cell
      have HBr := Lib.hid (put3R_below HB2.out (show w.heap.size ≤ w.heap.size + 1 by omega) (.int .i64 x) (.bool f) (.slice A n c))
      unfold put3R at y3
      go_wp2
      exact bodyPost_ret (v := .tuple #[.agg #[.int .i64 x, .bool f, .slice A n c], .int .i64 0]) (by simp [results, Tryz.results96, go_sem, y3]) rfl ⟨x, f, A, n, c, rfl, HRr.out, HBr.out⟩
  · have e1 : cntR 0 r = 65 := by rw [cntR, if_neg (by omega)]
    rw [e1]
    have g3 : decide (64 < ((65 : Nat) : Int)) = true := by decide
    have e1 : er = 2 := by rw [← Her.out]; simp [limE, hs]
    have e2 := Hz.out (by omega)
    subst e1 e2
    have zr := HT1.out.cell
    obtain ⟨ff1, ff2, ff3⟩ := put3R_free HT1.out (.int .i64 0) (.bool false)
    have y3 := (put3R_blk (a' := .int .i64 0) (b' := .bool false) (c' := .slice none 0 0) HT1.out).cell
    have y1 := (HT1.out.set_ 0 (.int .i64 0)).cell
    have y2 := ((HT1.out.set_ 0 (.int .i64 0)).set_ 1 (.bool false)).cell
    have HBr := Lib.hid (put3R_below HB1.out (show w.heap.size ≤ w.heap.size + 1 by omega) (.int .i64 0) (.bool false) (.slice none 0 0))
    unfold put3R at y3
    go_wp2
    exact bodyPost_ret (v := .tuple #[.agg #[.int .i64 0, .bool false, .slice none 0 0], .int .i64 2]) (by simp [results, Tryz.results96, go_sem, y3]) rfl ⟨0, false, none, 0, 0, rfl, RgS.nil _ _, HBr.out⟩
theorem op_lim (op : Bool → Bool → Bool) {a b : Rg} (ha : okB a = true) (hb : okB b = true) (hw : a.w = b.w) : opErr op a b = limE (comb op a.w.toNat a b) ∧ opRes op a b = limR (comb op a.w.toNat a b) := by
  have h1 : opErr op a b = limE (comb op a.w.toNat a b) := by
    rw [opErr, ha, hb, decide_eq_true hw]
    rfl
  exact ⟨h1, by rw [opRes, h1]; rfl⟩
set_option maxHeartbeats 2000000 in
theorem fdo_any (k : Int) (a : Rg) (xa : Int) (fa : Bool) (Aa : Option Addr) (na ca : Nat) (b : Rg) (xb : Int) (fb : Bool) (Ab : Option Addr) (nb cb : Nat) (w : World) (hA : RgS w xa fa Aa na ca a) (hB : RgS w xb fb Ab nb cb b) :
    Calls Tryz.prog 75 #[.int .i64 k, .agg #[.int .i64 xa, .bool fa, .slice Aa na ca], .agg #[.int .i64 xb, .bool fb, .slice Ab nb cb]] w fun e w' => RgRes w (opRes (opR k) a b) (opErr (opR k) a b) e w' := by
  obtain ⟨er, Her⟩ : ∃ z, Hid (opErr (opR k) a b = z) := ⟨_, rfl⟩
  obtain ⟨rr, Hrr⟩ : ∃ z, Hid (opRes (opR k) a b = z) := ⟨_, rfl⟩
  rw [Her.out, Hrr.out]
  have HZ : Hid (er ≠ 0 → rr = zeroR) := Lib.hid (fun h => by rw [← Hrr.out, opRes, if_neg (by rw [Her.out]; exact h)])
  have HA := Lib.hid hA
  have HB := Lib.hid hB
  have hxa := hA.hw
  have hxb := hB.hw
  clear hA hB
  obtain ⟨W0, HW0⟩ : ∃ W : World, Hid (((w.alloc (.cells #[.int .i64 xa, .bool fa, .slice Aa na ca] 28)).alloc (.cells #[.int .i64 xb, .bool fb, .slice Ab nb cb] 28)).alloc (.cells #[.int .i64 0, .bool false, .slice none 0 0] 28) = W) := ⟨_, rfl⟩
  have HC : Hid (Blk W0 w.heap.size 28 #[.int .i64 xa, .bool fa, .slice Aa na ca] ∧ Blk W0 (w.heap.size + 1) 28 #[.int .i64 xb, .bool fb, .slice Ab nb cb] ∧ Blk W0 (w.heap.size + 2) 28 #[.int .i64 0, .bool false, .slice none 0 0]) := by
    rw [← HW0.out]
    exact Lib.hid ⟨((Blk.step rfl).alloc _).alloc _, (Blk.step (by simp)).alloc _, Blk.step (by simp)⟩
  have HB0 : Hid (Below w.heap.size w W0) := by
    rw [← HW0.out]
    exact Lib.hid ((((Below.refl _ _).alloc (Nat.le_refl _) _).alloc (by simp) _).alloc (by simp; omega) _)
  obtain ⟨va, Hva⟩ : ∃ t, Hid (okB a = t) := ⟨_, rfl⟩
  obtain ⟨vb, Hvb⟩ : ∃ t, Hid (okB b = t) := ⟨_, rfl⟩
  go_enter Tryz.func75, Tryz.ntmps75
  go_wp2_with fail
  rw [HW0.out]
  refine (fvalid_any a xa fa Aa na ca _ (HA.out.keep (keeps_of HB0.out))).mono ?_
  rintro e w1 ⟨rfl, hb1⟩
  rw [Hva.out]
  have HC1 := Lib.hid (And.intro (HC.out.1.below hb1) (HC.out.2.1.below hb1))
  have HT1 := Lib.hid (HC.out.2.2.below hb1)
  have HB1 := Lib.hid (Below.next HB0.out hb1)
  clear hb1 HC HB0
  cases va
  · have e1 : er = 40 := by rw [← Her.out]; simp [opErr, Hva.out]
    have e2 := HZ.out (by omega)
    subst e1 e2
    have zr := HT1.out.cell
    obtain ⟨ff1, ff2, ff3⟩ := put3R_free HT1.out (.int .i64 0) (.bool false)
    have y3 := (put3R_blk (a' := .int .i64 0) (b' := .bool false) (c' := .slice none 0 0) HT1.out).cell
    have y1 := (HT1.out.set_ 0 (.int .i64 0)).cell
    have y2 := ((HT1.out.set_ 0 (.int .i64 0)).set_ 1 (.bool false)).cell
    have HBr := Lib.hid (put3R_below HB1.out (show w.heap.size ≤ w.heap.size + 2 by omega) (.int .i64 0) (.bool false) (.slice none 0 0))
    unfold put3R at y3
    go_wp2
    exact bodyPost_ret (v := .tuple #[.agg #[.int .i64 0, .bool false, .slice none 0 0], .int .i64 40]) (by simp [results, Tryz.results75, go_sem, y3]) rfl ⟨0, false, none, 0, 0, rfl, RgS.nil _ _, HBr.out⟩
  · have z2 := HC1.out.2.cell
    go_wp2_with fail
    refine (fvalid_any b xb fb Ab nb cb _ (HB.out.keep (keeps_of HB1.out))).mono ?_
    rintro e w2 ⟨rfl, hb2⟩
    rw [Hvb.out]
    have HC2 := Lib.hid (And.intro (HC1.out.1.below hb2) (HC1.out.2.below hb2))
    have HT2 := Lib.hid (HT1.out.below hb2)
    have HB2 := Lib.hid (Below.next HB1.out hb2)
    clear hb2 HC1 HT1 HB1 z2
    have z1 := HC2.out.1.cell
    have z2 := HC2.out.2.cell
    cases vb
    · have e1 : er = 40 := by rw [← Her.out]; simp [opErr, Hvb.out]
      have e2 := HZ.out (by omega)
      subst e1 e2
      clear z1 z2
      have zr := HT2.out.cell
      obtain ⟨ff1, ff2, ff3⟩ := put3R_free HT2.out (.int .i64 0) (.bool false)
      have y3 := (put3R_blk (a' := .int .i64 0) (b' := .bool false) (c' := .slice none 0 0) HT2.out).cell
      have y1 := (HT2.out.set_ 0 (.int .i64 0)).cell
      have y2 := ((HT2.out.set_ 0 (.int .i64 0)).set_ 1 (.bool false)).cell
      have HBr := Lib.hid (put3R_below HB2.out (show w.heap.size ≤ w.heap.size + 2 by omega) (.int .i64 0) (.bool false) (.slice none 0 0))
      unfold put3R at y3
      go_wp2
      exact bodyPost_ret (v := .tuple #[.agg #[.int .i64 0, .bool false, .slice none 0 0], .int .i64 40]) (by simp [results, Tryz.results75, go_sem, y3]) rfl ⟨0, false, none, 0, 0, rfl, RgS.nil _ _, HBr.out⟩
    · by_cases hw : xa = xb
      · have g1 : (xa != xb) = false := by simp [hw]
        have hww : a.w = b.w := by rw [hxa, hxb, hw]
        have HL := Lib.hid (op_lim (opR k) Hva.out Hvb.out hww)
        have oka := ok_form (okB_true.1 Hva.out)
        have okb := ok_form (okB_true.1 Hvb.out)
        have hn12 : a.w.toNat ≤ 12 := by have := (okB_true.1 Hva.out).2.1; omega
        rw [← hww] at okb
        have HOA := Lib.hid oka
        have HOB := Lib.hid okb
        have HSm := Lib.hid (comb_sm (opR k) a.w.toNat a b oka.2 okb.2)
        clear hw oka okb hww hxa hxb
        go_wp2_with fail
        refine (fcomb_any k a.w.toNat hn12 a b xa fa Aa na ca xb fb Ab nb cb _ (HA.out.keep (keeps_of HB2.out)) (HB.out.keep (keeps_of HB2.out)) HOA.out.1 HOB.out.1 HOA.out.2 HOB.out.2).mono ?_
        rintro e w3 ⟨x3, f3, A3, n3, c3, rfl, hF3, hb3⟩
        have HF3 := Lib.hid hF3.s
        have HT3 := Lib.hid (HT2.out.below hb3)
        have HB3 := Lib.hid (Below.next HB2.out hb3)
        clear z1 z2 hF3 hb3 HC2 HT2 HB2
        go_wp2_with fail
        refine (flimited_any _ x3 f3 A3 n3 c3 _ HF3.out HSm.out).mono ?_
        rintro e w4 ⟨x4, f4, A4, n4, c4, rfl, hR4, hb4⟩
        rw [← HL.out.1, Her.out]
        rw [← HL.out.2, Hrr.out] at hR4
        have HT4 := Lib.hid (HT3.out.below hb4)
        have HB4 := Lib.hid (Below.next HB3.out hb4)
        have HRr := Lib.hid (RgS.off HT4.out (put3R_but _ (w.heap.size + 2) (.int .i64 x4) (.bool f4) (.slice A4 n4 c4)) hR4)
        clear hR4 hb4 HT3 HB3
        have zr := HT4.out.cell
        obtain ⟨ff1, ff2, ff3⟩ := put3R_free HT4.out (.int .i64 x4) (.bool f4)
        have y3 := (put3R_blk (a' := .int .i64 x4) (b' := .bool f4) (c' := .slice A4 n4 c4) HT4.out).cell
        have y1 := (HT4.out.set_ 0 (.int .i64 x4)).cell
        have y2 := ((HT4.out.set_ 0 (.int .i64 x4)).set_ 1 (.bool f4)).cell
        have HBr := Lib.hid (put3R_below HB4.out (show w.heap.size ≤ w.heap.size + 2 by omega) (.int .i64 x4) (.bool f4) (.slice A4 n4 c4))
        unfold put3R at y3
        go_wp2
        exact bodyPost_ret (v := .tuple #[.agg #[.int .i64 x4, .bool f4, .slice A4 n4 c4], .int .i64 er]) (by simp [results, Tryz.results75, go_sem, y3]) rfl ⟨x4, f4, A4, n4, c4, rfl, HRr.out, HBr.out⟩
      · have g1 : (xa != xb) = true := by simp [hw]
        have e1 : er = 40 := by
          rw [← Her.out]
          simp [opErr, hxa, hxb, hw]
        have e2 := HZ.out (by omega)
        subst e1 e2
        clear hxa hxb
        have zr := HT2.out.cell
        obtain ⟨ff1, ff2, ff3⟩ := put3R_free HT2.out (.int .i64 0) (.bool false)
        have y3 := (put3R_blk (a' := .int .i64 0) (b' := .bool false) (c' := .slice none 0 0) HT2.out).cell
        have y1 := (HT2.out.set_ 0 (.int .i64 0)).cell
        have y2 := ((HT2.out.set_ 0 (.int .i64 0)).set_ 1 (.bool false)).cell
        have HBr := Lib.hid (put3R_below HB2.out (show w.heap.size ≤ w.heap.size + 2 by omega) (.int .i64 0) (.bool false) (.slice none 0 0))
        unfold put3R at y3
        go_wp2
        exact bodyPost_ret (v := .tuple #[.agg #[.int .i64 0, .bool false, .slice none 0 0], .int .i64 40]) (by simp [results, Tryz.results75, go_sem, y3]) rfl ⟨0, false, none, 0, 0, rfl, RgS.nil _ _, HBr.out⟩
set_option maxHeartbeats 2000000 in
theorem funion_any (a : Rg) (xa : Int) (fa : Bool) (Aa : Option Addr) (na ca : Nat) (b : Rg) (xb : Int) (fb : Bool) (Ab : Option Addr) (nb cb : Nat) (w : World) (hA : RgS w xa fa Aa na ca a) (hB : RgS w xb fb Ab nb cb b) :
    Calls Tryz.prog 25 #[.agg #[.int .i64 xa, .bool fa, .slice Aa na ca], .agg #[.int .i64 xb, .bool fb, .slice Ab nb cb]] w fun e w' => RgRes w (opRes (opR 1) a b) (opErr (opR 1) a b) e w' := by
  obtain ⟨er, Her⟩ : ∃ z, Hid (opErr (opR 1) a b = z) := ⟨_, rfl⟩
  obtain ⟨rr, Hrr⟩ : ∃ z, Hid (opRes (opR 1) a b = z) := ⟨_, rfl⟩
  rw [Her.out, Hrr.out]
  have HA := Lib.hid hA
  have HB := Lib.hid hB
  clear hA hB
  obtain ⟨W0, HW0⟩ : ∃ W : World, Hid (((w.alloc (.cells #[.int .i64 xa, .bool fa, .slice Aa na ca] 28)).alloc (.cells #[.int .i64 xb, .bool fb, .slice Ab nb cb] 28)).alloc (.cells #[.int .i64 0, .bool false, .slice none 0 0] 28) = W) := ⟨_, rfl⟩
  have HC : Hid (Blk W0 (w.heap.size + 2) 28 #[.int .i64 0, .bool false, .slice none 0 0]) := by
    rw [← HW0.out]
    exact Lib.hid (Blk.step (by simp))
  have HB0 : Hid (Below w.heap.size w W0) := by
    rw [← HW0.out]
    exact Lib.hid ((((Below.refl _ _).alloc (Nat.le_refl _) _).alloc (by simp) _).alloc (by simp; omega) _)
  go_enter Tryz.func25, Tryz.ntmps25
  go_wp2_with fail
  rw [HW0.out]
  refine (fdo_any 1 a xa fa Aa na ca b xb fb Ab nb cb _ (HA.out.keep (keeps_of HB0.out)) (HB.out.keep (keeps_of HB0.out))).mono ?_
  rintro e w1 ⟨x, f, A, n, c, rfl, hR1, hb1⟩
  rw [Her.out]
  rw [Hrr.out] at hR1
  have HT := Lib.hid (HC.out.below hb1)
  have HB1 := Lib.hid (Below.next HB0.out hb1)
  have HR1 := Lib.hid hR1
  clear hb1 hR1 HC HB0
  have z3 := HT.out.cell
  obtain ⟨ff1, ff2, ff3⟩ := put3R_free HT.out (.int .i64 x) (.bool f)
  have y3 := (put3R_blk (a' := .int .i64 x) (b' := .bool f) (c' := .slice A n c) HT.out).cell
  have y1 := (HT.out.set_ 0 (.int .i64 x)).cell
  have y2 := ((HT.out.set_ 0 (.int .i64 x)).set_ 1 (.bool f)).cell
  have HBr := Lib.hid (put3R_below HB1.out (show w.heap.size ≤ w.heap.size + 2 by omega) (.int .i64 x) (.bool f) (.slice A n c))
  have HRr := Lib.hid (RgS.off HT.out (put3R_but _ (w.heap.size + 2) (.int .i64 x) (.bool f) (.slice A n c)) HR1.out)
  unfold put3R at y3
  go_wp2
  exact bodyPost_ret (v := .tuple #[.agg #[.int .i64 x, .bool f, .slice A n c], .int .i64 er]) (by simp [results, Tryz.results25, go_sem, y3]) rfl ⟨x, f, A, n, c, rfl, HRr.out, HBr.out⟩
theorem opR_eq : opR 1 = opUr ∧ opR 2 = opIr ∧ opR 3 = opMr := ⟨by funext x y; cases x <;> cases y <;> rfl, by funext x y; cases x <;> cases y <;> rfl, by funext x y; cases x <;> cases y <;> rfl⟩
end Go.Proofs.YtnocbigcdjlliaaGreat

/-
  All rows and the complement: the reference's all, All, Complement, the program's All, Complement.
-/
namespace Go.Proofs.YtnocbigcdjlliaaGreat
open Go.RowKit
set_option maxRecDepth 100000
open Rg

/-- the seven cells of the interval of all values -/
def allC : Array Value := #[.int .i64 1, .int .i64 0, .string ⟨#[]⟩, .int .i64 0, .int .i64 0, .string ⟨#[]⟩, .bool true]
theorem all_iv {w : World} {g : Nat} (h : Blk w g 70 allC) : IvS w (some ⟨g, 0, none⟩) 1 allL := iv_one (T := 70) (x := ⟨⟨1, 0, ⟨#[]⟩⟩, zeroV, true⟩) h
theorem rall2_any (w : World) : Calls Tryz.prog 62 #[] w fun e w' => ∃ g, e = .returned (.slice (some ⟨g, 0, none⟩) 1 1) ∧ Blk w' g 70 allC ∧ Below w.heap.size w w' := by
  go_enter Tryz.func62, Tryz.ntmps62
  go_wp2
  go_ret
  exact ⟨_, rfl, Blk.new _ _ _, (Below.refl _ _).alloc (Nat.le_refl _) _⟩
theorem setc_len (p : SetP) : (setc p).length = 1 := rfl
theorem one_set (p : SetP) : ∀ u ∈ setc p, u.oneCell' = true := by simp [setc, Value.oneCell']
/-- a list of sets that all hold every value -/
def AllsS (w : World) (A : Option Addr) (n : Nat) : Prop := ∃ ps : List SetP, SetsS w A n ps ∧ ps.map (·.2) = List.replicate n allL
def AllP (w : World) (p : SetP) : Prop := ∃ g, p = ((some ⟨g, 0, none⟩, 1, 1), allL) ∧ Blk w g 70 allC
theorem AllP.but {w w' : World} {S : Nat → Prop} {p : SetP} (h : AllP w p) (hb : But S w w') (hS : ∀ q, S q → ∀ cs, ¬ Blk w q 70 cs) : AllP w' p := by
  obtain ⟨g, e, h1⟩ := h
  exact ⟨g, e, h1.but hb (fun hs => hS g hs _ h1)⟩
theorem AllP.below {w w' : World} {p : SetP} (h : AllP w p) (hb : Below w.heap.size w w') : AllP w' p := h.but (S := fun _ => False) (But.of_below hb) (fun _ h => h.elim)
theorem own_notI {w : World} {B n k c : Nat} {A : Option Addr} {xs : List Value} (h : w.ownsRow B 64 1 (.slice A n c) k xs) {q : Nat} (hq : (Value.slice A n c).ownBlock = some q) (cs : Array Value) : ¬ Blk w q 70 cs := fun hb => by
  obtain ⟨_, _, cs', h1⟩ := own_lt h hq
  unfold Blk at hb
  rw [h1] at hb
  injection hb with hb
  injection hb with _ hb
  exact absurd hb (by decide)
theorem alls_of {w : World} {A : Option Addr} {n c B : Nat} {ps : List SetP} (hown : w.ownsRow B 64 1 (.slice A n c) n (ps.flatMap setc)) (hl : ps.length = n) (hp : ∀ p ∈ ps, AllP w p) : AllsS w A n := by
  refine ⟨ps, ⟨Sl.of_own setc_len hl hown, fun p h => ?_⟩, ?_⟩
  · obtain ⟨g, rfl, h1⟩ := hp p h
    exact ⟨⟨Nat.le_refl _, fun h => by cases h⟩, by show 1 ≤ 1000000; omega, all_iv h1⟩
  · rw [List.eq_replicate_iff]
    refine ⟨by simp [hl], fun l hl => ?_⟩
    obtain ⟨p, h, rfl⟩ := List.mem_map.1 hl
    obtain ⟨g, rfl, _⟩ := hp p h
    rfl
set_option maxHeartbeats 1000000 in
theorem fall_any (n : Nat) (hn : n ≤ 12) (w : World) : Calls Tryz.prog 77 #[.int .i64 (n : Int)] w fun e w' => ∃ (A : Option Addr) (c : Nat), e = .returned (.slice A n c) ∧ AllsS w' A n ∧ Below w.heap.size w w' := by
  obtain ⟨il, hil, hl0, hl1, hl2⟩ := info_parts info_lst
  go_enter Tryz.func77, Tryz.ntmps77
  go_wp2_with fail
  go_loopw [3, 4] (fun v i wr => ∃ (k : Nat) (A' : Option Addr) (c' : Nat) (ps : List SetP), k ≤ n ∧ i = .int .i64 (k : Int) ∧ v = .slice A' k c' ∧ wr.ownsRow w.heap.size 64 1 (.slice A' k c') k (ps.flatMap setc) ∧ Hid (ps.length = k ∧ ∀ p ∈ ps, AllP wr p) ∧ Below w.heap.size w wr) (fun _ i _ => n - (intOf i).toNat)
  case atStart => exact ⟨0, none, 0, [], by omega, rfl, rfl, ⟨by simp, .inl ⟨rfl, rfl⟩⟩, Lib.hid ⟨rfl, by simp⟩, Below.refl _ _⟩
  case round =>
    obtain ⟨k, A', c', ps, hk, rfl, rfl, hown, HQ, hb⟩ := hrel
    by_cases hlt : k < n
    · have HOW := Lib.hid hown
      have HB := Lib.hid hb
      clear hown hb
      go_wp2_with fail
      refine (rall2_any _).mono ?_
      rintro e w1 ⟨g, rfl, hS, hb1⟩
      have HS1 := Lib.hid hS
      have HOW1 := Lib.hid (own_at HOW.out (fun q _ hl _ => hb1.block q hl))
      have HB1 := Lib.hid (Below.next HB.out hb1)
      have hs1 := HB1.out.size
      have HP1 : Hid (∀ p ∈ ps ++ [((some ⟨g, 0, none⟩, 1, 1), allL)], AllP w1 p) := Lib.hid fun p hp => by
        rcases List.mem_append.1 hp with hp | hp
        · exact (HQ.out.2 p hp).below hb1
        · exact ⟨g, List.mem_singleton.1 hp, hS⟩
      clear hS hb1
      go_wp2_with (at_builtin; refine wpList_append_one2 (by rfl) (.tmp 10) (.tmp 12) _ (by rfl) w.heap.size 64 il _ 1 24 Tryz.underlying63 hil hl0 hl1 hl2 (by rfl) (by omega) (.slice A' k c') k _ (by rfl) w1 #[.slice (some ⟨g, 0, none⟩) 1 1] HOW1.out w1.heap.size (by rfl) (by rfl) (by rfl) (one_set ((some ⟨g, 0, none⟩, 1, 1), allL)) (by simp only [maxLen]; omega) (by omega) hs1 ?_; intro g6 cap6 w6 hown6 hg6 hB6 hat6 hlt6)
      go_roundw
      case rel =>
        have hbu := (But.alloc (S := fun q => (Value.slice A' k c').ownBlock = some q) w1 (.cells #[.slice (some ⟨g, 0, none⟩) 1 1] 64)).trans (But.of_grown hg6 (fun q hq => hq))
        refine ⟨k + 1, _, cap6, ps ++ [((some ⟨g, 0, none⟩, 1, 1), allL)], by omega, by go_num, rfl, ?_, Lib.hid ⟨by simp [HQ.out.1], fun p hp => (HP1.out p hp).but hbu (fun q hq cs => own_notI HOW1.out hq cs)⟩, HB1.out.trans hB6⟩
        rw [List.flatMap_append]
        simpa [setc] using hown6
      case measure => simp [intOf]; omega
    · obtain rfl : k = n := by omega
      have HSS : Hid (AllsS wr A' k) := Lib.hid (alls_of hown HQ.out.1 HQ.out.2)
      have HB := Lib.hid hb
      clear hown hb HQ
      go_wp2
      go_ret
      exact ⟨A', c', rfl, HSS.out, HB.out⟩
/-- all rows, and the error -/
def allErr (x : Int) : Int := if 0 ≤ x ∧ x ≤ 12 then 0 else 1
def allRes (x : Int) : Rg := if 0 ≤ x ∧ x ≤ 12 then allR x.toNat else zeroR
/-- the complement, and the error -/
noncomputable def cpErr (a : Rg) : Int := if okB a then opErr opMr (allR a.w.toNat) a else 40
noncomputable def cpRes (a : Rg) : Rg := if okB a then opRes opMr (allR a.w.toNat) a else zeroR
set_option maxHeartbeats 2000000 in
theorem fcomplement_any (a : Rg) (xa : Int) (fa : Bool) (Aa : Option Addr) (na ca : Nat) (w : World) (hA : RgS w xa fa Aa na ca a) :
    Calls Tryz.prog 24 #[.agg #[.int .i64 xa, .bool fa, .slice Aa na ca]] w fun e w' => RgRes w (cpRes a) (cpErr a) e w' := by
  obtain ⟨er, Her⟩ : ∃ z, Hid (cpErr a = z) := ⟨_, rfl⟩
  obtain ⟨rr, Hrr⟩ : ∃ z, Hid (cpRes a = z) := ⟨_, rfl⟩
  rw [Her.out, Hrr.out]
  have HA := Lib.hid hA
  have hxa := hA.hw
  clear hA
  obtain ⟨W0, HW0⟩ : ∃ W : World, Hid ((w.alloc (.cells #[.int .i64 xa, .bool fa, .slice Aa na ca] 28)).alloc (.cells #[.int .i64 0, .bool false, .slice none 0 0] 28) = W) := ⟨_, rfl⟩
  have HC : Hid (Blk W0 w.heap.size 28 #[.int .i64 xa, .bool fa, .slice Aa na ca] ∧ Blk W0 (w.heap.size + 1) 28 #[.int .i64 0, .bool false, .slice none 0 0]) := by
    rw [← HW0.out]
    exact Lib.hid ⟨(Blk.step rfl).alloc _, Blk.step (by simp)⟩
  have HB0 : Hid (Below w.heap.size w W0) := by
    rw [← HW0.out]
    exact Lib.hid (((Below.refl _ _).alloc (Nat.le_refl _) _).alloc (by simp) _)
  obtain ⟨va, Hva⟩ : ∃ t, Hid (okB a = t) := ⟨_, rfl⟩
  go_enter Tryz.func24, Tryz.ntmps24
  go_wp2_with fail
  rw [HW0.out]
  refine (fvalid_any a xa fa Aa na ca _ (HA.out.keep (keeps_of HB0.out))).mono ?_
  rintro e w1 ⟨rfl, hb1⟩
  rw [Hva.out]
  have HA1 := Lib.hid (HC.out.1.below hb1)
  have HT1 := Lib.hid (HC.out.2.below hb1)
  have HB1 := Lib.hid (Below.next HB0.out hb1)
  clear hb1 HC HB0
  cases va
  · have e1 : er = 40 := by rw [← Her.out]; simp [cpErr, Hva.out]
    have e2 : rr = zeroR := by rw [← Hrr.out]; simp [cpRes, Hva.out]
    subst e1 e2
    have zr := HT1.out.cell
    obtain ⟨ff1, ff2, ff3⟩ := put3R_free HT1.out (.int .i64 0) (.bool false)
    have y3 := (put3R_blk (a' := .int .i64 0) (b' := .bool false) (c' := .slice none 0 0) HT1.out).cell
    have y1 := (HT1.out.set_ 0 (.int .i64 0)).cell
    have y2 := ((HT1.out.set_ 0 (.int .i64 0)).set_ 1 (.bool false)).cell
    have HBr := Lib.hid (put3R_below HB1.out (show w.heap.size ≤ w.heap.size + 1 by omega) (.int .i64 0) (.bool false) (.slice none 0 0))
    unfold put3R at y3
    go_wp2
    exact bodyPost_ret (v := .tuple #[.agg #[.int .i64 0, .bool false, .slice none 0 0], .int .i64 40]) (by simp [results, Tryz.results24, go_sem, y3]) rfl ⟨0, false, none, 0, 0, rfl, RgS.nil _ _, HBr.out⟩
  · have hok := okB_true.1 Hva.out
    have h0 : 0 ≤ xa := by rw [← hxa]; exact hok.1
    obtain ⟨n, rfl⟩ := Int.eq_ofNat_of_zero_le h0
    have hn : n ≤ 12 := by have := hok.2.1; omega
    have Hn : Hid (er = opErr opMr (allR n) a ∧ rr = opRes opMr (allR n) a) := by
      have h1 : a.w.toNat = n := by rw [hxa, Int.toNat_natCast]
      refine Lib.hid ⟨?_, ?_⟩
      · rw [← Her.out, cpErr, if_pos Hva.out, h1]
      · rw [← Hrr.out, cpRes, if_pos Hva.out, h1]
    clear hok hxa h0
    obtain ⟨S, HS⟩ : ∃ S : Nat → Prop, Hid ((fun q => q = w.heap.size + 1) = S) := ⟨_, rfl⟩
    have hSA : ¬ S w.heap.size := by rw [← HS.out]; intro h; omega
    go_upto_region 3 with fail
    refine wp_region_plan S (.one [0, 1, 4] 2 (.one [] 3 (.one [] 5 (.one [6, 7] 8 (.last [9]))))) (by kernel_rfl) (by kernel_rfl) (fun _ _ d _ _ h => by cases d <;> exact h) ?_
    have qA : ∀ (y : LaterS S w1.drew) z, (afterS S w1.drew y).cell? ⟨w.heap.size, z, none⟩ = (#[.int .i64 (n : Int), .bool fa, .slice Aa na ca] : Array Value)[z]? := fun y z => (HA1.out.drew.but y.but hSA).cell z
    have HBd : Hid (Below w.heap.size w w1.drew) := Lib.hid HB1.out.drew
    have HTd : Hid (Blk w1.drew _ _ _) := Lib.hid HT1.out.drew
    generalize hW : w1.drew = w1d at *
    clear hW HA1 HT1 HB1
    unfold wpPlan
    simp only [pickOps, opAt, List.map_cons, List.map_nil, List.getElem?_toArray, List.getElem?_cons_zero, List.getElem?_cons_succ, Option.getD_some]
    repeat (go_big_quiet_step (fail))
    refine wpQuiet_nil ?_
    clear qA hSA
    go_wp2_with (first | (go_at_call 77; refine (fall_any n hn _).mono ?_; rintro e w2 ⟨A2, c2, rfl, hS2, hb2⟩))
    refine ⟨But.of_below hb2, ?_⟩
    obtain ⟨ps, hps, hpm⟩ := hS2
    have HPS := Lib.hid hps
    have HPM := Lib.hid hpm
    have HB2 := Lib.hid (Below.next HBd.out hb2)
    have HT2 := Lib.hid (HTd.out.below hb2)
    clear hb2 hps hpm HBd HTd
    unfold wpPlan
    simp only [pickOps, opAt, List.map_nil, List.getElem?_toArray, List.getElem?_cons_zero, List.getElem?_cons_succ, Option.getD_some]
    refine wpQuiet_nil ?_
    go_wp2_with (first | (go_at_call 76; refine (fbox_any A2 n c2 ps _ HPS.out hn).mono ?_; rintro e w3 ⟨x3, f3, A3, n3, c3, rfl, hR3, hb3⟩; rw [HPM.out] at hR3))
    refine ⟨But.of_below hb3, ?_⟩
    have HR3 : Hid (RgS w3 x3 f3 A3 n3 c3 (allR n)) := Lib.hid hR3
    have HB3 := Lib.hid (Below.next HB2.out hb3)
    have HT3 := Lib.hid (HT2.out.below hb3)
    clear hb3 hR3 HB2 HT2 HPS HPM
    unfold wpPlan
    simp only [pickOps, opAt, List.map_nil, List.getElem?_toArray, List.getElem?_cons_zero, List.getElem?_cons_succ, Option.getD_some]
    refine wpQuiet_nil ?_
    go_wp2_with (first | (go_at_call 75; refine (fdo_any 3 (allR n) x3 f3 A3 n3 c3 a (n : Int) fa Aa na ca _ HR3.out (HA.out.keep (keeps_of HB3.out))).mono ?_; rintro e w4 ⟨x4, f4, A4, n4, c4, rfl, hR4, hb4⟩; rw [opR_eq.2.2] at hR4 ⊢; rw [← Hn.out.1]; rw [← Hn.out.2] at hR4))
    refine ⟨But.of_below hb4, ?_⟩
    have HB4 := Lib.hid (Below.next HB3.out hb4)
    have HT4 := Lib.hid (HT3.out.below hb4)
    have HRr := Lib.hid (RgS.off HT4.out (put3R_but _ (w.heap.size + 1) (.int .i64 x4) (.bool f4) (.slice A4 n4 c4)) hR4)
    clear hb4 hR4 HB3 HT3 HR3
    unfold wpPlan
    simp only [pickOps, opAt, List.map_cons, List.map_nil, List.getElem?_toArray, List.getElem?_cons_zero, List.getElem?_cons_succ, Option.getD_some]
    repeat (go_big_quiet_step (fail))
    refine wpQuiet_nil ?_
    have zr := HT4.out.cell
    obtain ⟨ff1, ff2, ff3⟩ := put3R_free HT4.out (.int .i64 x4) (.bool f4)
    have y3 := (put3R_blk (a' := .int .i64 x4) (b' := .bool f4) (c' := .slice A4 n4 c4) HT4.out).cell
    have y1 := (HT4.out.set_ 0 (.int .i64 x4)).cell
    have y2 := ((HT4.out.set_ 0 (.int .i64 x4)).set_ 1 (.bool f4)).cell
    have HBr := Lib.hid (put3R_below HB4.out (show w.heap.size ≤ w.heap.size + 1 by omega) (.int .i64 x4) (.bool f4) (.slice A4 n4 c4))
    have hbS : But S w4 (put3R w4 (w.heap.size + 1) (.int .i64 x4) (.bool f4) (.slice A4 n4 c4)) := by
      rw [← HS.out]
      exact put3R_but w4 (w.heap.size + 1) _ _ _
    unfold put3R at y3 hbS
    go_wp2_with fail
    refine ⟨hbS, ?_⟩
    unfold wpPlan
    simp only [pickOps, opAt, List.map_cons, List.map_nil, List.getElem?_toArray, List.getElem?_cons_zero, List.getElem?_cons_succ, Option.getD_some]
    repeat (go_big_quiet_step (fail))
    refine wpQuiet_nil ?_
    go_wp2
    exact bodyPost_ret (v := .tuple #[.agg #[.int .i64 x4, .bool f4, .slice A4 n4 c4], .int .i64 er]) (by simp [results, Tryz.results24, go_sem, y3]) rfl ⟨x4, f4, A4, n4, c4, rfl, HRr.out, HBr.out⟩
end Go.Proofs.YtnocbigcdjlliaaGreat
