/-
  Texts of this proof, one behind the other: LOps.
-/
import Derived.Test.YtnocbigcdjlliaaGreatB38
set_option linter.unusedVariables false
/-
  The law's own not, or, and: the operation whose error is dropped.
-/
namespace Go.Proofs.YtnocbigcdjlliaaGreat
open Go.RowKit
set_option maxRecDepth 100000
open Rg

/-- a region is answered -/
def RgOut (w : World) (r : Rg) (e : Ending) (w' : World) : Prop := ∃ (x : Int) (f : Bool) (A : Option Addr) (n c : Nat), e = .returned (.agg #[.int .i64 x, .bool f, .slice A n c]) ∧ RgS w' x f A n c r ∧ Below w.heap.size w w'
set_option maxHeartbeats 2000000 in
theorem lnot_any (a : Rg) (xa : Int) (fa : Bool) (Aa : Option Addr) (na ca : Nat) (w : World) (ha : RgS w xa fa Aa na ca a) (wa : WfR a) :
    Calls Tryz.prog 27 #[.agg #[.int .i64 xa, .bool fa, .slice Aa na ca]] w fun e w' => RgOut w (cpRes a) e w' := by
  obtain ⟨er, Her⟩ : ∃ z, Hid (cpErr a = z) := ⟨_, rfl⟩
  obtain ⟨rr, Hrr⟩ : ∃ z, Hid (cpRes a = z) := ⟨_, rfl⟩
  rw [Hrr.out]
  have Ha := Lib.hid ha
  have HWa := Lib.hid wa
  clear ha wa
  obtain ⟨W0, HW0⟩ : ∃ W : World, Hid ((w.alloc (.cells #[.int .i64 xa, .bool fa, .slice Aa na ca] 28)).alloc (.cells #[.int .i64 0, .bool false, .slice none 0 0] 28) = W) := ⟨_, rfl⟩
  have HC : Hid (Blk W0 (w.heap.size + 1) 28 #[.int .i64 0, .bool false, .slice none 0 0]) := by
    rw [← HW0.out]
    exact Lib.hid (Blk.step (by simp))
  have HB0 : Hid (Below w.heap.size w W0) := by
    rw [← HW0.out]
    exact Lib.hid (((Below.refl _ _).alloc (Nat.le_refl _) _).alloc (by simp) _)
  go_enter Tryz.func27, Tryz.ntmps27
  go_wp2_with fail
  rw [HW0.out]
  refine (gcomplement_any a xa fa Aa na ca _ (Ha.out.keep (keeps_of HB0.out)) HWa.out).mono ?_
  rintro e w1 ⟨x, f, A, n, c, rfl, hR1, hb1⟩
  rw [Her.out]
  rw [Hrr.out] at hR1
  have hw0 := HB0.out.size
  have HR1 := Lib.hid (hR1.keep (keeps_alloc w1 (.cells #[.int .i64 x, .bool f, .slice A n c] 28)))
  have HV1 := Lib.hid (Blk.new w1 28 #[.int .i64 x, .bool f, .slice A n c])
  have HT1 := Lib.hid ((HC.out.below hb1).alloc (.cells #[.int .i64 x, .bool f, .slice A n c] 28))
  have HB1 := Lib.hid ((Below.next HB0.out hb1).alloc (Below.next HB0.out hb1).size (.cells #[.int .i64 x, .bool f, .slice A n c] 28))
  clear hR1 hb1 HC HB0 hw0
  obtain ⟨V, HV⟩ : ∃ z, Hid (w1.heap.size = z) := ⟨_, rfl⟩
  rw [HV.out] at HV1
  go_upto_region 2 with fail
  rw [HV.out]
  generalize hW2 : w1.alloc (.cells #[.int .i64 x, .bool f, .slice A n c] 28) = w2 at *
  clear hW2
  have zV := HV1.out.cell
  have zr := HT1.out.cell
  obtain ⟨ff1, ff2, ff3⟩ := put3R_free HT1.out (.int .i64 x) (.bool f)
  have y3 := (put3R_blk (a' := .int .i64 x) (b' := .bool f) (c' := .slice A n c) HT1.out).cell
  have y1 := (HT1.out.set_ 0 (.int .i64 x)).cell
  have y2 := ((HT1.out.set_ 0 (.int .i64 x)).set_ 1 (.bool f)).cell
  have HBr := Lib.hid (put3R_below HB1.out (show w.heap.size ≤ (w.heap.size + 1) by omega) (.int .i64 x) (.bool f) (.slice A n c))
  have HRr := Lib.hid (RgS.off HT1.out (put3R_but _ (w.heap.size + 1) (.int .i64 x) (.bool f) (.slice A n c)) HR1.out)
  unfold put3R at y3
  go_wp2
  exact bodyPost_ret (v := .agg #[.int .i64 x, .bool f, .slice A n c]) (by simp [results, Tryz.results27, go_sem, y3]) rfl ⟨x, f, A, n, c, rfl, HRr.out, HBr.out⟩
set_option maxHeartbeats 2000000 in
theorem lor_any (a : Rg) (xa : Int) (fa : Bool) (Aa : Option Addr) (na ca : Nat) (b : Rg) (xb : Int) (fb : Bool) (Ab : Option Addr) (nb cb : Nat) (w : World) (ha : RgS w xa fa Aa na ca a) (hb : RgS w xb fb Ab nb cb b) (wa : WfR a) (wb : WfR b) :
    Calls Tryz.prog 28 #[.agg #[.int .i64 xa, .bool fa, .slice Aa na ca], .agg #[.int .i64 xb, .bool fb, .slice Ab nb cb]] w fun e w' => RgOut w (opRes opUr a b) e w' := by
  obtain ⟨er, Her⟩ : ∃ z, Hid (opErr opUr a b = z) := ⟨_, rfl⟩
  obtain ⟨rr, Hrr⟩ : ∃ z, Hid (opRes opUr a b = z) := ⟨_, rfl⟩
  rw [Hrr.out]
  have Ha := Lib.hid ha
  have HWa := Lib.hid wa
  clear ha wa
  have Hb := Lib.hid hb
  have HWb := Lib.hid wb
  clear hb wb
  obtain ⟨W0, HW0⟩ : ∃ W : World, Hid (((w.alloc (.cells #[.int .i64 xa, .bool fa, .slice Aa na ca] 28)).alloc (.cells #[.int .i64 xb, .bool fb, .slice Ab nb cb] 28)).alloc (.cells #[.int .i64 0, .bool false, .slice none 0 0] 28) = W) := ⟨_, rfl⟩
  have HC : Hid (Blk W0 (w.heap.size + 2) 28 #[.int .i64 0, .bool false, .slice none 0 0]) := by
    rw [← HW0.out]
    exact Lib.hid (Blk.step (by simp))
  have HB0 : Hid (Below w.heap.size w W0) := by
    rw [← HW0.out]
    exact Lib.hid ((((Below.refl _ _).alloc (Nat.le_refl _) _).alloc (by simp) _).alloc (by simp; omega) _)
  go_enter Tryz.func28, Tryz.ntmps28
  go_wp2_with fail
  rw [HW0.out]
  refine (gunion_any a xa fa Aa na ca b xb fb Ab nb cb _ (Ha.out.keep (keeps_of HB0.out)) (Hb.out.keep (keeps_of HB0.out)) HWa.out HWb.out).mono ?_
  rintro e w1 ⟨x, f, A, n, c, rfl, hR1, hb1⟩
  rw [Her.out]
  rw [Hrr.out] at hR1
  have hw0 := HB0.out.size
  have HR1 := Lib.hid (hR1.keep (keeps_alloc w1 (.cells #[.int .i64 x, .bool f, .slice A n c] 28)))
  have HV1 := Lib.hid (Blk.new w1 28 #[.int .i64 x, .bool f, .slice A n c])
  have HT1 := Lib.hid ((HC.out.below hb1).alloc (.cells #[.int .i64 x, .bool f, .slice A n c] 28))
  have HB1 := Lib.hid ((Below.next HB0.out hb1).alloc (Below.next HB0.out hb1).size (.cells #[.int .i64 x, .bool f, .slice A n c] 28))
  clear hR1 hb1 HC HB0 hw0
  obtain ⟨V, HV⟩ : ∃ z, Hid (w1.heap.size = z) := ⟨_, rfl⟩
  rw [HV.out] at HV1
  go_upto_region 2 with fail
  rw [HV.out]
  generalize hW2 : w1.alloc (.cells #[.int .i64 x, .bool f, .slice A n c] 28) = w2 at *
  clear hW2
  have zV := HV1.out.cell
  have zr := HT1.out.cell
  obtain ⟨ff1, ff2, ff3⟩ := put3R_free HT1.out (.int .i64 x) (.bool f)
  have y3 := (put3R_blk (a' := .int .i64 x) (b' := .bool f) (c' := .slice A n c) HT1.out).cell
  have y1 := (HT1.out.set_ 0 (.int .i64 x)).cell
  have y2 := ((HT1.out.set_ 0 (.int .i64 x)).set_ 1 (.bool f)).cell
  have HBr := Lib.hid (put3R_below HB1.out (show w.heap.size ≤ (w.heap.size + 2) by omega) (.int .i64 x) (.bool f) (.slice A n c))
  have HRr := Lib.hid (RgS.off HT1.out (put3R_but _ (w.heap.size + 2) (.int .i64 x) (.bool f) (.slice A n c)) HR1.out)
  unfold put3R at y3
  go_wp2
  exact bodyPost_ret (v := .agg #[.int .i64 x, .bool f, .slice A n c]) (by simp [results, Tryz.results28, go_sem, y3]) rfl ⟨x, f, A, n, c, rfl, HRr.out, HBr.out⟩
set_option maxHeartbeats 2000000 in
theorem land_any (a : Rg) (xa : Int) (fa : Bool) (Aa : Option Addr) (na ca : Nat) (b : Rg) (xb : Int) (fb : Bool) (Ab : Option Addr) (nb cb : Nat) (w : World) (ha : RgS w xa fa Aa na ca a) (hb : RgS w xb fb Ab nb cb b) (wa : WfR a) (wb : WfR b) :
    Calls Tryz.prog 29 #[.agg #[.int .i64 xa, .bool fa, .slice Aa na ca], .agg #[.int .i64 xb, .bool fb, .slice Ab nb cb]] w fun e w' => RgOut w (opRes opIr a b) e w' := by
  obtain ⟨er, Her⟩ : ∃ z, Hid (opErr opIr a b = z) := ⟨_, rfl⟩
  obtain ⟨rr, Hrr⟩ : ∃ z, Hid (opRes opIr a b = z) := ⟨_, rfl⟩
  rw [Hrr.out]
  have Ha := Lib.hid ha
  have HWa := Lib.hid wa
  clear ha wa
  have Hb := Lib.hid hb
  have HWb := Lib.hid wb
  clear hb wb
  obtain ⟨W0, HW0⟩ : ∃ W : World, Hid (((w.alloc (.cells #[.int .i64 xa, .bool fa, .slice Aa na ca] 28)).alloc (.cells #[.int .i64 xb, .bool fb, .slice Ab nb cb] 28)).alloc (.cells #[.int .i64 0, .bool false, .slice none 0 0] 28) = W) := ⟨_, rfl⟩
  have HC : Hid (Blk W0 (w.heap.size + 2) 28 #[.int .i64 0, .bool false, .slice none 0 0]) := by
    rw [← HW0.out]
    exact Lib.hid (Blk.step (by simp))
  have HB0 : Hid (Below w.heap.size w W0) := by
    rw [← HW0.out]
    exact Lib.hid ((((Below.refl _ _).alloc (Nat.le_refl _) _).alloc (by simp) _).alloc (by simp; omega) _)
  go_enter Tryz.func29, Tryz.ntmps29
  go_wp2_with fail
  rw [HW0.out]
  refine (gintersect_any a xa fa Aa na ca b xb fb Ab nb cb _ (Ha.out.keep (keeps_of HB0.out)) (Hb.out.keep (keeps_of HB0.out)) HWa.out HWb.out).mono ?_
  rintro e w1 ⟨x, f, A, n, c, rfl, hR1, hb1⟩
  rw [Her.out]
  rw [Hrr.out] at hR1
  have hw0 := HB0.out.size
  have HR1 := Lib.hid (hR1.keep (keeps_alloc w1 (.cells #[.int .i64 x, .bool f, .slice A n c] 28)))
  have HV1 := Lib.hid (Blk.new w1 28 #[.int .i64 x, .bool f, .slice A n c])
  have HT1 := Lib.hid ((HC.out.below hb1).alloc (.cells #[.int .i64 x, .bool f, .slice A n c] 28))
  have HB1 := Lib.hid ((Below.next HB0.out hb1).alloc (Below.next HB0.out hb1).size (.cells #[.int .i64 x, .bool f, .slice A n c] 28))
  clear hR1 hb1 HC HB0 hw0
  obtain ⟨V, HV⟩ : ∃ z, Hid (w1.heap.size = z) := ⟨_, rfl⟩
  rw [HV.out] at HV1
  go_upto_region 2 with fail
  rw [HV.out]
  generalize hW2 : w1.alloc (.cells #[.int .i64 x, .bool f, .slice A n c] 28) = w2 at *
  clear hW2
  have zV := HV1.out.cell
  have zr := HT1.out.cell
  obtain ⟨ff1, ff2, ff3⟩ := put3R_free HT1.out (.int .i64 x) (.bool f)
  have y3 := (put3R_blk (a' := .int .i64 x) (b' := .bool f) (c' := .slice A n c) HT1.out).cell
  have y1 := (HT1.out.set_ 0 (.int .i64 x)).cell
  have y2 := ((HT1.out.set_ 0 (.int .i64 x)).set_ 1 (.bool f)).cell
  have HBr := Lib.hid (put3R_below HB1.out (show w.heap.size ≤ (w.heap.size + 2) by omega) (.int .i64 x) (.bool f) (.slice A n c))
  have HRr := Lib.hid (RgS.off HT1.out (put3R_but _ (w.heap.size + 2) (.int .i64 x) (.bool f) (.slice A n c)) HR1.out)
  unfold put3R at y3
  go_wp2
  exact bodyPost_ret (v := .agg #[.int .i64 x, .bool f, .slice A n c]) (by simp [results, Tryz.results29, go_sem, y3]) rfl ⟨x, f, A, n, c, rfl, HRr.out, HBr.out⟩
end Go.Proofs.YtnocbigcdjlliaaGreat
