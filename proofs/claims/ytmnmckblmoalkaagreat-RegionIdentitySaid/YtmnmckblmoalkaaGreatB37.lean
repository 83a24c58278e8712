/-
  Texts: RgOps, FOps.
-/
import Derived.Test.YtmnmckblmoalkaaGreatB36
import Derived.Test.YtmnmckblmoalkaaGreatB34
set_option linter.unusedVariables false
/-
  The program's Intersect, Minus, Equal and Covers on regions.
-/
namespace Go.Proofs.YtmnmckblmoalkaaGreat
open Go.RowKit
set_option maxRecDepth 100000
open Rg

set_option maxHeartbeats 2000000 in
theorem gminus_any (a : Rg) (xa : Int) (fa : Bool) (Aa : Option Addr) (na ca : Nat) (b : Rg) (xb : Int) (fb : Bool) (Ab : Option Addr) (nb cb : Nat) (w : World) (hA : RgS w xa fa Aa na ca a) (hB : RgS w xb fb Ab nb cb b) (wA : WfR a) (wB : WfR b) :
    Calls Tryz.prog 66 #[.agg #[.int .i64 xa, .bool fa, .slice Aa na ca], .agg #[.int .i64 xb, .bool fb, .slice Ab nb cb]] w fun e w' => RgRes w (opRes opMr a b) (opErr opMr a b) e w' := by
  obtain ⟨er, Her⟩ : ∃ z, Hid (opErr opMr a b = z) := ⟨_, rfl⟩
  obtain ⟨rr, Hrr⟩ : ∃ z, Hid (opRes opMr a b = z) := ⟨_, rfl⟩
  rw [Her.out, Hrr.out]
  have HA := Lib.hid hA
  have HB := Lib.hid hB
  have HW := Lib.hid (And.intro wA wB)
  clear hA hB wA wB
  obtain ⟨W0, HW0⟩ : ∃ W : World, Hid (((w.alloc (.cells #[.int .i64 xa, .bool fa, .slice Aa na ca] 27)).alloc (.cells #[.int .i64 xb, .bool fb, .slice Ab nb cb] 27)).alloc (.cells #[.int .i64 0, .bool false, .slice none 0 0] 27) = W) := ⟨_, rfl⟩
  have HC : Hid (Blk W0 (w.heap.size + 2) 27 #[.int .i64 0, .bool false, .slice none 0 0]) := by
    rw [← HW0.out]
    exact Lib.hid (Blk.step (by simp))
  have HB0 : Hid (Below w.heap.size w W0) := by
    rw [← HW0.out]
    exact Lib.hid ((((Below.refl _ _).alloc (Nat.le_refl _) _).alloc (by simp) _).alloc (by simp; omega) _)
  go_enter Tryz.func66, Tryz.ntmps66
  go_wp2_with fail
  rw [HW0.out]
  refine (operate_any false true false a xa fa Aa na ca b xb fb Ab nb cb _ (HA.out.keep (keeps_of HB0.out)) (HB.out.keep (keeps_of HB0.out)) HW.out.1 HW.out.2).mono ?_
  rintro e w1 ⟨x, f, A, n, c, rfl, hR1, hb1⟩
  rw [Her.out]
  rw [Hrr.out] at hR1
  have HT := Lib.hid (HC.out.below hb1)
  have HB1 := Lib.hid (Below.next HB0.out hb1)
  have HR1 := Lib.hid hR1
  clear hb1 hR1 HC HB0
  have z3 := HT.out.cell
  obtain ⟨ff1, ff2, ff3⟩ := put3R_free HT.out (.int .i64 x) (.bool f)
  have y3 := (put3R_blk (a' := .int .i64 x) (b' := .bool f) (c' := .slice A n c) HT.out).cell
  have y1 := (HT.out.set_ 0 (.int .i64 x)).cell
  have y2 := ((HT.out.set_ 0 (.int .i64 x)).set_ 1 (.bool f)).cell
  have HBr := Lib.hid (put3R_below HB1.out (show w.heap.size ≤ w.heap.size + 2 by omega) (.int .i64 x) (.bool f) (.slice A n c))
  have HRr := Lib.hid (RgS.off HT.out (put3R_but _ (w.heap.size + 2) (.int .i64 x) (.bool f) (.slice A n c)) HR1.out)
  unfold put3R at y3
  go_wp2
  exact bodyPost_ret (v := .tuple #[.agg #[.int .i64 x, .bool f, .slice A n c], .int .i64 er]) (by simp [results, Tryz.results66, go_sem, y3]) rfl ⟨x, f, A, n, c, rfl, HRr.out, HBr.out⟩
set_option maxHeartbeats 1000000 in
theorem gequal_any (a : Rg) (xa : Int) (fa : Bool) (Aa : Option Addr) (na ca : Nat) (b : Rg) (xb : Int) (fb : Bool) (Ab : Option Addr) (nb cb : Nat) (w : World) (hA : RgS w xa fa Aa na ca a) (hB : RgS w xb fb Ab nb cb b) :
    Calls Tryz.prog 19 #[.agg #[.int .i64 xa, .bool fa, .slice Aa na ca], .agg #[.int .i64 xb, .bool fb, .slice Ab nb cb]] w fun e w' => e = .returned (.bool (eqB a b)) ∧ Below w.heap.size w w' := by
  obtain ⟨rr, Hrr⟩ : ∃ z, Hid (eqB a b = z) := ⟨_, rfl⟩
  rw [Hrr.out]
  have HA := Lib.hid hA
  have HB := Lib.hid hB
  clear hA hB
  obtain ⟨W0, HW0⟩ : ∃ W : World, Hid ((w.alloc (.cells #[.int .i64 xa, .bool fa, .slice Aa na ca] 27)).alloc (.cells #[.int .i64 xb, .bool fb, .slice Ab nb cb] 27) = W) := ⟨_, rfl⟩
  have HC : Hid (Blk W0 w.heap.size 27 #[.int .i64 xa, .bool fa, .slice Aa na ca] ∧ Blk W0 (w.heap.size + 1) 27 #[.int .i64 xb, .bool fb, .slice Ab nb cb]) := by
    rw [← HW0.out]
    exact Lib.hid ⟨(Blk.step rfl).alloc _, Blk.step (by simp)⟩
  have HB0 : Hid (Below w.heap.size w W0) := by
    rw [← HW0.out]
    exact Lib.hid (((Below.refl _ _).alloc (Nat.le_refl _) _).alloc (by simp) _)
  obtain ⟨va, Hva⟩ : ∃ t, Hid (okB a = t) := ⟨_, rfl⟩
  obtain ⟨vb, Hvb⟩ : ∃ t, Hid (okB b = t) := ⟨_, rfl⟩
  go_enter Tryz.func19, Tryz.ntmps19
  go_wp2_with fail
  rw [HW0.out]
  refine (rvalidR_any a xa fa Aa na ca _ (HA.out.keep (keeps_of HB0.out))).mono ?_
  rintro e w1 ⟨rfl, hb1⟩
  rw [Hva.out]
  have HB1 := Lib.hid (Below.next HB0.out hb1)
  have z1 := (HC.out.1.below hb1).cell
  have z2 := (HC.out.2.below hb1).cell
  have HC1 := Lib.hid (And.intro (HC.out.1.below hb1) (HC.out.2.below hb1))
  clear hb1
  cases va
  · go_wp2
    go_ret
    exact ⟨ret_bool (by rw [← Hrr.out, eqB, Hva.out]; rfl), HB1.out⟩
  · go_wp2_with fail
    refine (rvalidR_any b xb fb Ab nb cb _ (HB.out.keep (keeps_of HB1.out))).mono ?_
    rintro e w2 ⟨rfl, hb2⟩
    rw [Hvb.out]
    have HB2 := Lib.hid (Below.next HB1.out hb2)
    clear z1 z2
    have z1 := (HC1.out.1.below hb2).cell
    have z2 := (HC1.out.2.below hb2).cell
    clear hb2
    cases vb
    · go_wp2
      go_ret
      exact ⟨ret_bool (by rw [← Hrr.out, eqB, Hva.out, Hvb.out]; rfl), HB2.out⟩
    · have oka := okB_true.1 Hva.out
      have okb := okB_true.1 Hvb.out
      have HO := Lib.hid (And.intro oka okb)
      clear oka okb
      go_wp2_with fail
      refine (rsame_any a xa fa Aa na ca xb fb Ab nb cb b _ (HA.out.keep (keeps_of HB2.out)) (HB.out.keep (keeps_of HB2.out)) (by have := HO.out.1.2.2.1; omega) HO.out.1.2.2.2.2).mono ?_
      rintro e w3 ⟨rfl, hb3⟩
      obtain ⟨t, Ht⟩ : ∃ t, Hid (decide (a = b) = t) := ⟨_, rfl⟩
      rw [Ht.out]
      go_wp2
      go_ret
      exact ⟨ret_bool (by rw [← Hrr.out, eqB, Hva.out, Hvb.out, Ht.out]; rfl), Below.next HB2.out hb3⟩
/-- whether b is within a, and the error -/
noncomputable def covErr (a b : Rg) : Int := if okB a && okB b && decide (a.w = b.w) then 0 else 40
noncomputable def covRes (a b : Rg) : Bool := if covErr a b = 0 then (comb opMr a.w.toNat b a).nix else false
theorem minus_cov (a b : Rg) : (opErr opMr b a = 40 ↔ covErr a b = 40) ∧ (covErr a b = 0 ∨ covErr a b = 40) ∧ (opErr opMr b a = 0 → covRes a b = (opRes opMr b a).nix) ∧ (opErr opMr b a ≠ 0 → covRes a b = false) := by
  have he : (okB b && okB a && decide (b.w = a.w)) = (okB a && okB b && decide (a.w = b.w)) := by
    have : decide (b.w = a.w) = decide (a.w = b.w) := by
      by_cases h : a.w = b.w
      · rw [h]
      · rw [decide_eq_false h, decide_eq_false (fun e => h e.symm)]
    rw [this]
    cases okB a <;> cases okB b <;> rfl
  unfold covRes covErr opRes opErr
  rw [he]
  by_cases hc : (okB a && okB b && decide (a.w = b.w)) = true
  · have hw : b.w = a.w := by
      simp only [Bool.and_eq_true, decide_eq_true_eq] at hc
      exact hc.2.symm
    have hf : Form a.w.toNat (comb opMr a.w.toNat b a) := by
      simp only [Bool.and_eq_true, okB_true] at hc
      have h1 := hc.1.1.2.2.2.1
      have h2 := hc.1.2.2.2.2.1
      rw [hw] at h2
      exact comb_form _ _ _ _ h2 h1
    rw [if_pos hc, if_pos hc, hw]
    refine ⟨?_, .inl rfl, ?_, ?_⟩
    · split <;> simp
    · intro h
      split at h
      · rename_i h1
        simp [h1]
      · cases h
    · intro h
      rw [if_pos rfl]
      cases hn : (comb opMr a.w.toNat b a).nix
      · rfl
      · have := nix_within hf hn
        exact absurd (if_pos this) h
  · rw [if_neg hc, if_neg hc]
    simp
set_option maxHeartbeats 2000000 in
theorem gcovers_any (a : Rg) (xa : Int) (fa : Bool) (Aa : Option Addr) (na ca : Nat) (b : Rg) (xb : Int) (fb : Bool) (Ab : Option Addr) (nb cb : Nat) (w : World) (hA : RgS w xa fa Aa na ca a) (hB : RgS w xb fb Ab nb cb b) (wA : WfR a) (wB : WfR b) :
    Calls Tryz.prog 27 #[.agg #[.int .i64 xa, .bool fa, .slice Aa na ca], .agg #[.int .i64 xb, .bool fb, .slice Ab nb cb]] w fun e w' => e = .returned (.tuple #[.bool (covRes a b), .int .i64 (covErr a b)]) ∧ Below w.heap.size w w' := by
  obtain ⟨h1, h2, h3, h4⟩ := minus_cov a b
  obtain ⟨er, Her⟩ : ∃ z, Hid (opErr opMr b a = z) := ⟨_, rfl⟩
  obtain ⟨rr, Hrr⟩ : ∃ z, Hid (opRes opMr b a = z) := ⟨_, rfl⟩
  obtain ⟨ce, Hce⟩ : ∃ z, Hid (covErr a b = z) := ⟨_, rfl⟩
  obtain ⟨cr, Hcr⟩ : ∃ z, Hid (covRes a b = z) := ⟨_, rfl⟩
  rw [Her.out, Hce.out] at h1
  rw [Hce.out] at h2
  rw [Her.out, Hrr.out, Hcr.out] at h3
  rw [Her.out, Hcr.out] at h4
  rw [Hce.out, Hcr.out]
  have HH := Lib.hid (And.intro h1 (And.intro h2 (And.intro h3 h4)))
  have HA := Lib.hid hA
  have HB := Lib.hid hB
  have HW := Lib.hid (And.intro wA wB)
  clear hA hB wA wB h1 h2 h3 h4
  have HB0 : Hid (Below w.heap.size w ((w.alloc (.cells #[.int .i64 xa, .bool fa, .slice Aa na ca] 27)).alloc (.cells #[.int .i64 xb, .bool fb, .slice Ab nb cb] 27))) := Lib.hid (((Below.refl _ _).alloc (Nat.le_refl _) _).alloc (by simp) _)
  go_enter Tryz.func27, Tryz.ntmps27
  go_wp2_with fail
  refine (gminus_any b xb fb Ab nb cb a xa fa Aa na ca _ (HB.out.keep (keeps_of HB0.out)) (HA.out.keep (keeps_of HB0.out)) HW.out.2 HW.out.1).mono ?_
  rintro e w1 ⟨x, f, A, n, c, rfl, hR1, hb1⟩
  rw [Her.out]
  rw [Hrr.out] at hR1
  have HR1 := Lib.hid (hR1.keep (keeps_alloc w1 (.cells #[.int .i64 x, .bool f, .slice A n c] 27)))
  have HV := Lib.hid (Blk.new w1 27 #[.int .i64 x, .bool f, .slice A n c])
  have hb01 := Below.next HB0.out hb1
  have HB1 := Lib.hid (hb01.alloc hb01.size (.cells #[.int .i64 x, .bool f, .slice A n c] 27))
  clear hR1 hb1 hb01
  by_cases h40 : er = 40
  · have e1 := HH.out.1.1 h40
    have e2 := HH.out.2.2.2 (by omega)
    subst h40 e1 e2
    go_wp2
    go_ret2
    exact ⟨rfl, HB1.out⟩
  · have e1 : ce = 0 := by
      rcases HH.out.2.1 with h | h
      · exact h
      · exact absurd (HH.out.1.2 h) h40
    subst e1
    have g1 : (er == 40) = false := by simp [h40]
    by_cases h0 : er = 0
    · obtain rfl : cr = rr.nix := HH.out.2.2.1 h0
      subst h0
      go_wp2_with fail
      refine (rempty_any x f A n c rr _ HR1.out).mono ?_
      rintro e w2 ⟨rfl, hb2⟩
      go_wp2
      go_ret2
      exact ⟨rfl, Below.next HB1.out hb2⟩
    · have e3 := HH.out.2.2.2 h0
      have g2 : (er == 0) = false := by simp [h0]
      subst e3
      clear h40 h0
      go_wp2
      go_ret2
      exact ⟨rfl, HB1.out⟩
end Go.Proofs.YtmnmckblmoalkaaGreat

/-
  The reference's limited, Do, Union, Intersect, Minus and Covers on regions.
-/
namespace Go.Proofs.YtmnmckblmoalkaaGreat
open Go.RowKit
set_option maxRecDepth 100000
open Rg

/-- a form within the limits, and the error -/
def limE (r : Rg) : Int := if r.size ≤ 64 ∧ r.fits = true then 0 else 2
def limR (r : Rg) : Rg := if limE r = 0 then r else zeroR
set_option maxHeartbeats 1000000 in
theorem flimited_any (r : Rg) (x : Int) (f : Bool) (A : Option Addr) (n c : Nat) (w : World) (hR : RgS w x f A n c r) (hsm : Sm r) :
    Calls Tryz.prog 148 #[.agg #[.int .i64 x, .bool f, .slice A n c]] w fun e w' => RgRes w (limR r) (limE r) e w' := by
  obtain ⟨er, Her⟩ : ∃ z, Hid (limE r = z) := ⟨_, rfl⟩
  obtain ⟨rr, Hrr⟩ : ∃ z, Hid (limR r = z) := ⟨_, rfl⟩
  rw [Her.out, Hrr.out]
  have Hz : Hid (er ≠ 0 → rr = zeroR) := Lib.hid (fun h => by rw [← Hrr.out, limR, if_neg (by rw [Her.out]; exact h)])
  have Ho : Hid (er = 0 → rr = r) := Lib.hid (fun h => by rw [← Hrr.out, limR, if_pos (by rw [Her.out]; exact h)])
  have HR := Lib.hid hR
  have HSM := Lib.hid hsm
  clear hR hsm
  obtain ⟨W0, HW0⟩ : ∃ W : World, Hid ((w.alloc (.cells #[.int .i64 x, .bool f, .slice A n c] 27)).alloc (.cells #[.int .i64 0, .bool false, .slice none 0 0] 27) = W) := ⟨_, rfl⟩
  have HC : Hid (Blk W0 w.heap.size 27 #[.int .i64 x, .bool f, .slice A n c] ∧ Blk W0 (w.heap.size + 1) 27 #[.int .i64 0, .bool false, .slice none 0 0]) := by
    rw [← HW0.out]
    exact Lib.hid ⟨(Blk.step rfl).alloc _, Blk.step (by simp)⟩
  have HB0 : Hid (Below w.heap.size w W0) := by
    rw [← HW0.out]
    exact Lib.hid (((Below.refl _ _).alloc (Nat.le_refl _) _).alloc (by simp) _)
  go_enter Tryz.func148, Tryz.ntmps148
  go_wp2_with fail
  rw [HW0.out]
  refine (fcount_any r x f A n c 0 _ (HR.out.keep (keeps_of HB0.out)) (by omega)).mono ?_
  rintro e w1 ⟨rfl, hb1⟩
  have HB1 := Lib.hid (Below.next HB0.out hb1)
  have HT1 := Lib.hid (HC.out.2.below hb1)
  have HA1 := Lib.hid (HC.out.1.below hb1)
  clear hb1 HC HB0
  by_cases hs : r.size ≤ 64
  · have e1 : cntR 0 r = r.size := by rw [cntR, if_pos (by omega)]; omega
    rw [e1]
    have g3 : decide (64 < (r.size : Int)) = false := by simp; omega
    have z1 := HA1.out.cell
    go_wp2_with fail
    refine (ffits_any r x f A n c _ (HR.out.keep (keeps_of HB1.out)) HSM.out).mono ?_
    rintro e w2 ⟨rfl, hb2⟩
    have HB2 := Lib.hid (Below.next HB1.out hb2)
    have HT2 := Lib.hid (HT1.out.below hb2)
    have HA2 := Lib.hid (HA1.out.below hb2)
    obtain ⟨v, Hv⟩ : ∃ t, Hid (r.fits = t) := ⟨_, rfl⟩
    rw [Hv.out]
    clear hb2 z1 HB1 HT1 HA1 g3
    cases v
    · have e1 : er = 2 := by rw [← Her.out]; simp [limE, Hv.out]
      have e2 := Hz.out (by omega)
      subst e1 e2
      have zr := HT2.out.cell
      obtain ⟨ff1, ff2, ff3⟩ := put3R_free HT2.out (.int .i64 0) (.bool false)
      have y3 := (put3R_blk (a' := .int .i64 0) (b' := .bool false) (c' := .slice none 0 0) HT2.out).cell
      have y1 := (HT2.out.set_ 0 (.int .i64 0)).cell
      have y2 := ((HT2.out.set_ 0 (.int .i64 0)).set_ 1 (.bool false)).cell
      have HBr := Lib.hid (put3R_below HB2.out (show w.heap.size ≤ w.heap.size + 1 by omega) (.int .i64 0) (.bool false) (.slice none 0 0))
      unfold put3R at y3
      go_wp2
      exact bodyPost_ret (v := .tuple #[.agg #[.int .i64 0, .bool false, .slice none 0 0], .int .i64 2]) (by simp [results, Tryz.results148, go_sem, y3]) rfl ⟨0, false, none, 0, 0, rfl, RgS.nil _ _, HBr.out⟩
    · have e1 : er = 0 := by rw [← Her.out]; simp [limE, Hv.out, hs]
      have e2 := Ho.out e1
      subst e1 e2
      have z1 := HA2.out.cell
      have HRr := Lib.hid (RgS.off HT2.out (put3R_but _ (w.heap.size + 1) (.int .i64 x) (.bool f) (.slice A n c)) (HR.out.keep (keeps_of HB2.out)))
      have zr := HT2.out.cell
      obtain ⟨ff1, ff2, ff3⟩ := put3R_free HT2.out (.int .i64 x) (.bool f)
      have y3 := (put3R_blk (a' := .int .i64 x) (b' := .bool f) (c' := .slice A n c) HT2.out).cell
      have y1 := (HT2.out.set_ 0 (.int .i64 x)).cell
      have y2 := ((HT2.out.set_ 0 (.int .i64 x)).set_ 1 (.bool f)).cell
      have HBr := Lib.hid (put3R_below HB2.out (show w.heap.size ≤ w.heap.size + 1 by omega) (.int .i64 x) (.bool f) (.slice A n c))
      unfold put3R at y3
      go_wp2
      exact bodyPost_ret (v := .tuple #[.agg #[.int .i64 x, .bool f, .slice A n c], .int .i64 0]) (by simp [results, Tryz.results148, go_sem, y3]) rfl ⟨x, f, A, n, c, rfl, HRr.out, HBr.out⟩
  · have e1 : cntR 0 r = 65 := by rw [cntR, if_neg (by omega)]
    rw [e1]
    have g3 : decide (64 < ((65 : Nat) : Int)) = true := by decide
    have e1 : er = 2 := by rw [← Her.out]; simp [limE, hs]
    have e2 := Hz.out (by omega)
    subst e1 e2
    have zr := HT1.out.cell
    obtain ⟨ff1, ff2, ff3⟩ := put3R_free HT1.out (.int .i64 0) (.bool false)
    have y3 := (put3R_blk (a' := .int .i64 0) (b' := .bool false) (c' := .slice none 0 0) HT1.out).cell
    have y1 := (HT1.out.set_ 0 (.int .i64 0)).cell
    have y2 := ((HT1.out.set_ 0 (.int .i64 0)).set_ 1 (.bool false)).cell
    have HBr := Lib.hid (put3R_below HB1.out (show w.heap.size ≤ w.heap.size + 1 by omega) (.int .i64 0) (.bool false) (.slice none 0 0))
    unfold put3R at y3
    go_wp2
    exact bodyPost_ret (v := .tuple #[.agg #[.int .i64 0, .bool false, .slice none 0 0], .int .i64 2]) (by simp [results, Tryz.results148, go_sem, y3]) rfl ⟨0, false, none, 0, 0, rfl, RgS.nil _ _, HBr.out⟩
theorem op_lim (op : Bool → Bool → Bool) {a b : Rg} (ha : okB a = true) (hb : okB b = true) (hw : a.w = b.w) : opErr op a b = limE (comb op a.w.toNat a b) ∧ opRes op a b = limR (comb op a.w.toNat a b) := by
  have h1 : opErr op a b = limE (comb op a.w.toNat a b) := by
    rw [opErr, ha, hb, decide_eq_true hw]
    rfl
  exact ⟨h1, by rw [opRes, h1]; rfl⟩
set_option maxHeartbeats 2000000 in
theorem fdo_any (k : Int) (a : Rg) (xa : Int) (fa : Bool) (Aa : Option Addr) (na ca : Nat) (b : Rg) (xb : Int) (fb : Bool) (Ab : Option Addr) (nb cb : Nat) (w : World) (hA : RgS w xa fa Aa na ca a) (hB : RgS w xb fb Ab nb cb b) :
    Calls Tryz.prog 99 #[.int .i64 k, .agg #[.int .i64 xa, .bool fa, .slice Aa na ca], .agg #[.int .i64 xb, .bool fb, .slice Ab nb cb]] w fun e w' => RgRes w (opRes (opR k) a b) (opErr (opR k) a b) e w' := by
  obtain ⟨er, Her⟩ : ∃ z, Hid (opErr (opR k) a b = z) := ⟨_, rfl⟩
  obtain ⟨rr, Hrr⟩ : ∃ z, Hid (opRes (opR k) a b = z) := ⟨_, rfl⟩
  rw [Her.out, Hrr.out]
  have HZ : Hid (er ≠ 0 → rr = zeroR) := Lib.hid (fun h => by rw [← Hrr.out, opRes, if_neg (by rw [Her.out]; exact h)])
  have HA := Lib.hid hA
  have HB := Lib.hid hB
  have hxa := hA.hw
  have hxb := hB.hw
  clear hA hB
  obtain ⟨W0, HW0⟩ : ∃ W : World, Hid (((w.alloc (.cells #[.int .i64 xa, .bool fa, .slice Aa na ca] 27)).alloc (.cells #[.int .i64 xb, .bool fb, .slice Ab nb cb] 27)).alloc (.cells #[.int .i64 0, .bool false, .slice none 0 0] 27) = W) := ⟨_, rfl⟩
  have HC : Hid (Blk W0 w.heap.size 27 #[.int .i64 xa, .bool fa, .slice Aa na ca] ∧ Blk W0 (w.heap.size + 1) 27 #[.int .i64 xb, .bool fb, .slice Ab nb cb] ∧ Blk W0 (w.heap.size + 2) 27 #[.int .i64 0, .bool false, .slice none 0 0]) := by
    rw [← HW0.out]
    exact Lib.hid ⟨((Blk.step rfl).alloc _).alloc _, (Blk.step (by simp)).alloc _, Blk.step (by simp)⟩
  have HB0 : Hid (Below w.heap.size w W0) := by
    rw [← HW0.out]
    exact Lib.hid ((((Below.refl _ _).alloc (Nat.le_refl _) _).alloc (by simp) _).alloc (by simp; omega) _)
  obtain ⟨va, Hva⟩ : ∃ t, Hid (okB a = t) := ⟨_, rfl⟩
  obtain ⟨vb, Hvb⟩ : ∃ t, Hid (okB b = t) := ⟨_, rfl⟩
  go_enter Tryz.func99, Tryz.ntmps99
  go_wp2_with fail
  rw [HW0.out]
  refine (fvalid_any a xa fa Aa na ca _ (HA.out.keep (keeps_of HB0.out))).mono ?_
  rintro e w1 ⟨rfl, hb1⟩
  rw [Hva.out]
  have HC1 := Lib.hid (And.intro (HC.out.1.below hb1) (HC.out.2.1.below hb1))
  have HT1 := Lib.hid (HC.out.2.2.below hb1)
  have HB1 := Lib.hid (Below.next HB0.out hb1)
  clear hb1 HC HB0
  cases va
  · have e1 : er = 40 := by rw [← Her.out]; simp [opErr, Hva.out]
    have e2 := HZ.out (by omega)
    subst e1 e2
    have zr := HT1.out.cell
    obtain ⟨ff1, ff2, ff3⟩ := put3R_free HT1.out (.int .i64 0) (.bool false)
    have y3 := (put3R_blk (a' := .int .i64 0) (b' := .bool false) (c' := .slice none 0 0) HT1.out).cell
    have y1 := (HT1.out.set_ 0 (.int .i64 0)).cell
    have y2 := ((HT1.out.set_ 0 (.int .i64 0)).set_ 1 (.bool false)).cell
    have HBr := Lib.hid (put3R_below HB1.out (show w.heap.size ≤ w.heap.size + 2 by omega) (.int .i64 0) (.bool false) (.slice none 0 0))
    unfold put3R at y3
    go_wp2
    exact bodyPost_ret (v := .tuple #[.agg #[.int .i64 0, .bool false, .slice none 0 0], .int .i64 40]) (by simp [results, Tryz.results99, go_sem, y3]) rfl ⟨0, false, none, 0, 0, rfl, RgS.nil _ _, HBr.out⟩
  · have z2 := HC1.out.2.cell
    go_wp2_with fail
    refine (fvalid_any b xb fb Ab nb cb _ (HB.out.keep (keeps_of HB1.out))).mono ?_
    rintro e w2 ⟨rfl, hb2⟩
    rw [Hvb.out]
    have HC2 := Lib.hid (And.intro (HC1.out.1.below hb2) (HC1.out.2.below hb2))
    have HT2 := Lib.hid (HT1.out.below hb2)
    have HB2 := Lib.hid (Below.next HB1.out hb2)
    clear hb2 HC1 HT1 HB1 z2
    have z1 := HC2.out.1.cell
    have z2 := HC2.out.2.cell
    cases vb
    · have e1 : er = 40 := by rw [← Her.out]; simp [opErr, Hvb.out]
      have e2 := HZ.out (by omega)
      subst e1 e2
      clear z1 z2
      have zr := HT2.out.cell
      obtain ⟨ff1, ff2, ff3⟩ := put3R_free HT2.out (.int .i64 0) (.bool false)
      have y3 := (put3R_blk (a' := .int .i64 0) (b' := .bool false) (c' := .slice none 0 0) HT2.out).cell
      have y1 := (HT2.out.set_ 0 (.int .i64 0)).cell
      have y2 := ((HT2.out.set_ 0 (.int .i64 0)).set_ 1 (.bool false)).cell
      have HBr := Lib.hid (put3R_below HB2.out (show w.heap.size ≤ w.heap.size + 2 by omega) (.int .i64 0) (.bool false) (.slice none 0 0))
      unfold put3R at y3
      go_wp2
      exact bodyPost_ret (v := .tuple #[.agg #[.int .i64 0, .bool false, .slice none 0 0], .int .i64 40]) (by simp [results, Tryz.results99, go_sem, y3]) rfl ⟨0, false, none, 0, 0, rfl, RgS.nil _ _, HBr.out⟩
    · by_cases hw : xa = xb
      · have g1 : (xa != xb) = false := by simp [hw]
        have hww : a.w = b.w := by rw [hxa, hxb, hw]
        have HL := Lib.hid (op_lim (opR k) Hva.out Hvb.out hww)
        have oka := ok_form (okB_true.1 Hva.out)
        have okb := ok_form (okB_true.1 Hvb.out)
        have hn12 : a.w.toNat ≤ 12 := by have := (okB_true.1 Hva.out).2.1; omega
        rw [← hww] at okb
        have HOA := Lib.hid oka
        have HOB := Lib.hid okb
        have HSm := Lib.hid (comb_sm (opR k) a.w.toNat a b oka.2 okb.2)
        clear hw oka okb hww hxa hxb
        go_wp2_with fail
        refine (fcomb_any k a.w.toNat hn12 a b xa fa Aa na ca xb fb Ab nb cb _ (HA.out.keep (keeps_of HB2.out)) (HB.out.keep (keeps_of HB2.out)) HOA.out.1 HOB.out.1 HOA.out.2 HOB.out.2).mono ?_
        rintro e w3 ⟨x3, f3, A3, n3, c3, rfl, hF3, hb3⟩
        have HF3 := Lib.hid hF3.s
        have HT3 := Lib.hid (HT2.out.below hb3)
        have HB3 := Lib.hid (Below.next HB2.out hb3)
        clear z1 z2 hF3 hb3 HC2 HT2 HB2
        go_wp2_with fail
        refine (flimited_any _ x3 f3 A3 n3 c3 _ HF3.out HSm.out).mono ?_
        rintro e w4 ⟨x4, f4, A4, n4, c4, rfl, hR4, hb4⟩
        rw [← HL.out.1, Her.out]
        rw [← HL.out.2, Hrr.out] at hR4
        have HT4 := Lib.hid (HT3.out.below hb4)
        have HB4 := Lib.hid (Below.next HB3.out hb4)
        have HRr := Lib.hid (RgS.off HT4.out (put3R_but _ (w.heap.size + 2) (.int .i64 x4) (.bool f4) (.slice A4 n4 c4)) hR4)
        clear hR4 hb4 HT3 HB3
        have zr := HT4.out.cell
        obtain ⟨ff1, ff2, ff3⟩ := put3R_free HT4.out (.int .i64 x4) (.bool f4)
        have y3 := (put3R_blk (a' := .int .i64 x4) (b' := .bool f4) (c' := .slice A4 n4 c4) HT4.out).cell
        have y1 := (HT4.out.set_ 0 (.int .i64 x4)).cell
        have y2 := ((HT4.out.set_ 0 (.int .i64 x4)).set_ 1 (.bool f4)).cell
        have HBr := Lib.hid (put3R_below HB4.out (show w.heap.size ≤ w.heap.size + 2 by omega) (.int .i64 x4) (.bool f4) (.slice A4 n4 c4))
        unfold put3R at y3
        go_wp2
        exact bodyPost_ret (v := .tuple #[.agg #[.int .i64 x4, .bool f4, .slice A4 n4 c4], .int .i64 er]) (by simp [results, Tryz.results99, go_sem, y3]) rfl ⟨x4, f4, A4, n4, c4, rfl, HRr.out, HBr.out⟩
      · have g1 : (xa != xb) = true := by simp [hw]
        have e1 : er = 40 := by
          rw [← Her.out]
          simp [opErr, hxa, hxb, hw]
        have e2 := HZ.out (by omega)
        subst e1 e2
        clear hxa hxb
        have zr := HT2.out.cell
        obtain ⟨ff1, ff2, ff3⟩ := put3R_free HT2.out (.int .i64 0) (.bool false)
        have y3 := (put3R_blk (a' := .int .i64 0) (b' := .bool false) (c' := .slice none 0 0) HT2.out).cell
        have y1 := (HT2.out.set_ 0 (.int .i64 0)).cell
        have y2 := ((HT2.out.set_ 0 (.int .i64 0)).set_ 1 (.bool false)).cell
        have HBr := Lib.hid (put3R_below HB2.out (show w.heap.size ≤ w.heap.size + 2 by omega) (.int .i64 0) (.bool false) (.slice none 0 0))
        unfold put3R at y3
        go_wp2
        exact bodyPost_ret (v := .tuple #[.agg #[.int .i64 0, .bool false, .slice none 0 0], .int .i64 40]) (by simp [results, Tryz.results99, go_sem, y3]) rfl ⟨0, false, none, 0, 0, rfl, RgS.nil _ _, HBr.out⟩
set_option maxHeartbeats 2000000 in
theorem funion_any (a : Rg) (xa : Int) (fa : Bool) (Aa : Option Addr) (na ca : Nat) (b : Rg) (xb : Int) (fb : Bool) (Ab : Option Addr) (nb cb : Nat) (w : World) (hA : RgS w xa fa Aa na ca a) (hB : RgS w xb fb Ab nb cb b) :
    Calls Tryz.prog 48 #[.agg #[.int .i64 xa, .bool fa, .slice Aa na ca], .agg #[.int .i64 xb, .bool fb, .slice Ab nb cb]] w fun e w' => RgRes w (opRes (opR 1) a b) (opErr (opR 1) a b) e w' := by
  obtain ⟨er, Her⟩ : ∃ z, Hid (opErr (opR 1) a b = z) := ⟨_, rfl⟩
  obtain ⟨rr, Hrr⟩ : ∃ z, Hid (opRes (opR 1) a b = z) := ⟨_, rfl⟩
  rw [Her.out, Hrr.out]
  have HA := Lib.hid hA
  have HB := Lib.hid hB
  clear hA hB
  obtain ⟨W0, HW0⟩ : ∃ W : World, Hid (((w.alloc (.cells #[.int .i64 xa, .bool fa, .slice Aa na ca] 27)).alloc (.cells #[.int .i64 xb, .bool fb, .slice Ab nb cb] 27)).alloc (.cells #[.int .i64 0, .bool false, .slice none 0 0] 27) = W) := ⟨_, rfl⟩
  have HC : Hid (Blk W0 (w.heap.size + 2) 27 #[.int .i64 0, .bool false, .slice none 0 0]) := by
    rw [← HW0.out]
    exact Lib.hid (Blk.step (by simp))
  have HB0 : Hid (Below w.heap.size w W0) := by
    rw [← HW0.out]
    exact Lib.hid ((((Below.refl _ _).alloc (Nat.le_refl _) _).alloc (by simp) _).alloc (by simp; omega) _)
  go_enter Tryz.func48, Tryz.ntmps48
  go_wp2_with fail
  rw [HW0.out]
  refine (fdo_any 1 a xa fa Aa na ca b xb fb Ab nb cb _ (HA.out.keep (keeps_of HB0.out)) (HB.out.keep (keeps_of HB0.out))).mono ?_
  rintro e w1 ⟨x, f, A, n, c, rfl, hR1, hb1⟩
  rw [Her.out]
  rw [Hrr.out] at hR1
  have HT := Lib.hid (HC.out.below hb1)
  have HB1 := Lib.hid (Below.next HB0.out hb1)
  have HR1 := Lib.hid hR1
  clear hb1 hR1 HC HB0
  have z3 := HT.out.cell
  obtain ⟨ff1, ff2, ff3⟩ := put3R_free HT.out (.int .i64 x) (.bool f)
  have y3 := (put3R_blk (a' := .int .i64 x) (b' := .bool f) (c' := .slice A n c) HT.out).cell
  have y1 := (HT.out.set_ 0 (.int .i64 x)).cell
  have y2 := ((HT.out.set_ 0 (.int .i64 x)).set_ 1 (.bool f)).cell
  have HBr := Lib.hid (put3R_below HB1.out (show w.heap.size ≤ w.heap.size + 2 by omega) (.int .i64 x) (.bool f) (.slice A n c))
  have HRr := Lib.hid (RgS.off HT.out (put3R_but _ (w.heap.size + 2) (.int .i64 x) (.bool f) (.slice A n c)) HR1.out)
  unfold put3R at y3
  go_wp2
  exact bodyPost_ret (v := .tuple #[.agg #[.int .i64 x, .bool f, .slice A n c], .int .i64 er]) (by simp [results, Tryz.results48, go_sem, y3]) rfl ⟨x, f, A, n, c, rfl, HRr.out, HBr.out⟩
theorem opR_eq : opR 1 = opUr ∧ opR 2 = opIr ∧ opR 3 = opMr := ⟨by funext x y; cases x <;> cases y <;> rfl, by funext x y; cases x <;> cases y <;> rfl, by funext x y; cases x <;> cases y <;> rfl⟩
end Go.Proofs.YtmnmckblmoalkaaGreat
