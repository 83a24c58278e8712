import Derived.Test.YtemllddgefahfaaCase
namespace Go.Proofs.Ytemllddgefahfaa
open Go.RowKit
set_option linter.unusedVariables false

/-- the number of a value is an int64 -/
def rngV (v : Vl) : Prop := minI ≤ v.i ∧ v.i ≤ 9223372036854775807
def SomeInt2 (w : World) (g : Nat) (e : Ending) (w' : World) : Prop := (∃ x : Int, (minI ≤ x ∧ x ≤ 9223372036854775807) ∧ e = .returned (.int .i64 x)) ∧ CaseAt w' g ∧ But (· = g) w w'
theorem number2_any (g : Nat) (w : World) (hc : CaseAt w g) :
    Calls Try.prog 46 #[.pointer (some ⟨g, 0, none⟩)] w fun e w' => SomeInt2 w g e w' := by
  go_enter Try.func46, Try.ntmps46
  go_wp2_with fail
  refine (int_any g 12 _ hc (by omega) (by omega)).mono ?_
  rintro e w1 ⟨⟨x, hx1, hx2, rfl⟩, hc1, hb1⟩
  go_wp2
  all_goals
    go_ret
    refine ⟨⟨_, ?_, rfl⟩, hc1, hb1⟩
    unfold minI
    constructor <;> omega
def SomeW (w : World) (g : Nat) (e : Ending) (w' : World) : Prop := (∃ v : Vl, validV v = true ∧ rngV v ∧ e = .returned (.agg #[.int .i64 v.k, .int .i64 v.i, .string v.t])) ∧ CaseAt w' g ∧ But (· = g) w w'
set_option maxHeartbeats 1000000 in
theorem value2_any (g : Nat) (k : Int) (w : World) (hc : CaseAt w g) (hk : k = 3 ∨ k = 4 ∨ k = 5) :
    Calls Try.prog 34 #[.pointer (some ⟨g, 0, none⟩), .int .i64 k] w fun e w' => SomeW w g e w' := by
  have hlt := hc.lt
  have hc0 := hc.below ((Below.refl _ _).alloc (Nat.le_refl _) (.cells #[.int .i64 0, .int .i64 0, .string ⟨#[]⟩] 24))
  have hX := Blk.new w 24 #[.int .i64 0, .int .i64 0, .string ⟨#[]⟩]
  have hB0 : But (· = g) w (w.alloc (.cells #[.int .i64 0, .int .i64 0, .string ⟨#[]⟩] 24)) := But.alloc _ _
  rcases hk with rfl | rfl | rfl
  · go_enter Try.func34, Try.ntmps34
    go_wp2_with fail
    refine (int_any g 2 _ hc0 (by omega) (by omega)).mono ?_
    rintro e w1 ⟨⟨x, hx1, hx2, rfl⟩, hc1, hb1⟩
    have hX1 := hX.but hb1 (by omega)
    have hXc := hX1.cell
    have hXf := hX1.free
    go_wp2
    refine bodyPost_ret (v := .agg #[.int .i64 3, .int .i64 x, .string ⟨#[]⟩]) (by simp [results, Try.results34, go_sem, hXc]) rfl ⟨⟨⟨3, x, ⟨#[]⟩⟩, ?_, ⟨by unfold minI; simp; omega, by simp; omega⟩, rfl⟩, ?_, ?_⟩
    · have : x = 0 ∨ x = 1 := by omega
      rcases this with rfl | rfl <;> decide +kernel
    · exact case_box hc1 hX1 (by omega) _ _ _
    · exact (((hB0.trans hb1).setNew (p := ⟨w.heap.size, 0, none⟩) (by simp) _).setNew (p := ⟨w.heap.size, 1, none⟩) (by simp) _).setNew (p := ⟨w.heap.size, 2, none⟩) (by simp) _
  · go_enter Try.func34, Try.ntmps34
    go_wp2_with fail
    refine (number2_any g _ hc0).mono ?_
    rintro e w1 ⟨⟨x, hxr, rfl⟩, hc1, hb1⟩
    have HXR := Lib.hid hxr
    clear hxr
    have hX1 := hX.but hb1 (by omega)
    have hXc := hX1.cell
    have hXf := hX1.free
    go_wp2
    refine bodyPost_ret (v := .agg #[.int .i64 4, .int .i64 x, .string ⟨#[]⟩]) (by simp [results, Try.results34, go_sem, hXc]) rfl ⟨⟨⟨4, x, ⟨#[]⟩⟩, ?_, HXR.out, rfl⟩, ?_, ?_⟩
    · simp [validV, ByteArray.toList_eq]
    · exact case_box hc1 hX1 (by omega) _ _ _
    · exact (((hB0.trans hb1).setNew (p := ⟨w.heap.size, 0, none⟩) (by simp) _).setNew (p := ⟨w.heap.size, 1, none⟩) (by simp) _).setNew (p := ⟨w.heap.size, 2, none⟩) (by simp) _
  · go_enter Try.func34, Try.ntmps34
    go_wp2_with fail
    refine (text_any g _ hc0).mono ?_
    rintro e w1 ⟨⟨x, hx, rfl⟩, hc1, hb1⟩
    have hX1 := hX.but hb1 (by omega)
    have hXc := hX1.cell
    have hXf := hX1.free
    go_wp2
    refine bodyPost_ret (v := .agg #[.int .i64 5, .int .i64 0, .string x]) (by simp [results, Try.results34, go_sem, hXc]) rfl ⟨⟨⟨5, 0, x⟩, ?_, ⟨by unfold minI; simp, by simp⟩, rfl⟩, ?_, ?_⟩
    · simp [validV]; omega
    · exact case_box hc1 hX1 (by omega) _ _ _
    · exact (((hB0.trans hb1).setNew (p := ⟨w.heap.size, 0, none⟩) (by simp) _).setNew (p := ⟨w.heap.size, 1, none⟩) (by simp) _).setNew (p := ⟨w.heap.size, 2, none⟩) (by simp) _

set_option maxHeartbeats 1000000 in
theorem any2_any (g : Nat) (w : World) (hc : CaseAt w g) :
    Calls Try.prog 12 #[.pointer (some ⟨g, 0, none⟩)] w fun e w' => SomeW w g e w' := by
  have hlt := hc.lt
  have hc0 := hc.below ((Below.refl _ _).alloc (Nat.le_refl _) (.cells #[.int .i64 0, .int .i64 0, .string ⟨#[]⟩] 24))
  have hX := Blk.new w 24 #[.int .i64 0, .int .i64 0, .string ⟨#[]⟩]
  have hB0 : But (· = g) w (w.alloc (.cells #[.int .i64 0, .int .i64 0, .string ⟨#[]⟩] 24)) := But.alloc _ _
  go_enter Try.func12, Try.ntmps12
  go_wp2_with fail
  refine (int_any g 5 _ hc0 (by omega) (by omega)).mono ?_
  rintro e w1 ⟨⟨x, hx1, hx2, rfl⟩, hc1, hb1⟩
  have hX1 := hX.but hb1 (by omega)
  have hXc := hX1.cell
  have hXf := hX1.free
  by_cases h3 : 1 + x < 3
  · go_wp2
    refine bodyPost_ret (v := .agg #[.int .i64 (1 + x), .int .i64 0, .string ⟨#[]⟩]) (by simp [results, Try.results12, go_sem, hXc]) rfl ⟨⟨⟨1 + x, 0, ⟨#[]⟩⟩, ?_, ⟨by unfold minI; simp, by simp⟩, rfl⟩, ?_, ?_⟩
    · have : x = 0 ∨ x = 1 := by omega
      rcases this with rfl | rfl <;> decide +kernel
    · exact case_box hc1 hX1 (by omega) _ _ _
    · exact (((hB0.trans hb1).setNew (p := ⟨w.heap.size, 0, none⟩) (by simp) _).setNew (p := ⟨w.heap.size, 1, none⟩) (by simp) _).setNew (p := ⟨w.heap.size, 2, none⟩) (by simp) _
  · clear hXc hXf
    go_wp2_with fail
    refine (value2_any g (1 + x) _ hc1 (by omega)).mono ?_
    rintro e w2 ⟨⟨v, hv, hr, rfl⟩, hc2, hb2⟩
    have HR := Lib.hid hr
    have HV := Lib.hid hv
    clear hr hv
    have hX2 := hX1.but hb2 (by omega)
    have hXc := hX2.cell
    have hXf := hX2.free
    go_wp2
    refine bodyPost_ret (v := .agg #[.int .i64 v.k, .int .i64 v.i, .string v.t]) (by simp [results, Try.results12, go_sem, hXc]) rfl ⟨⟨v, HV.out, HR.out, rfl⟩, ?_, ?_⟩
    · exact case_box hc2 hX2 (by omega) _ _ _
    · exact ((((hB0.trans hb1).trans hb2).setNew (p := ⟨w.heap.size, 0, none⟩) (by simp) _).setNew (p := ⟨w.heap.size, 1, none⟩) (by simp) _).setNew (p := ⟨w.heap.size, 2, none⟩) (by simp) _
end Go.Proofs.Ytemllddgefahfaa
