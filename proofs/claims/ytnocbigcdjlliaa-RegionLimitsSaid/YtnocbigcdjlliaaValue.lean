import Derived.Test.YtnocbigcdjlliaaRows
import Derived.Test.YtnocbigcdjlliaaBase
namespace Go.Proofs.Ytnocbigcdjlliaa
open Go.RowKit

set_option maxHeartbeats 400000 in
theorem valid_any (v : Vl) (w : World) :
    Calls Try.prog 15 #[.agg #[.int .i64 v.k, .int .i64 v.i, .string v.t]] w fun e w' => e = .returned (.bool (validV v)) ∧ Below w.heap.size w w' := by
  obtain ⟨k, i, t⟩ := v
  go_enter Try.func15, Try.ntmps15
  go_wp2
  all_goals
    go_ret
    refine ⟨?_, by repeat (first | exact Below.refl _ _ | apply Below.drew | refine Below.alloc ?_ (by simp) _)⟩
    simp_all [validV]
    try omega

set_option maxHeartbeats 400000 in

theorem cmpInt_any (a b : Int) (w : World) :
    Calls Try.prog 22 #[.int .i64 a, .int .i64 b] w fun e w' => e = .returned (.int .i64 (cmpI a b)) ∧ w = w' := by
  go_enter Try.func22, Try.ntmps22
  go_wp2
  all_goals
    go_ret
    refine ⟨?_, rfl⟩
    simp_all [cmpI]
    try (rw [if_neg (by omega), if_neg (by omega)])
theorem cmpInt64_any (a b : Int) (w : World) :
    Calls Try.prog 23 #[.int .i64 a, .int .i64 b] w fun e w' => e = .returned (.int .i64 (cmpI a b)) ∧ w = w' := by
  go_enter Try.func23, Try.ntmps23
  go_wp2
  all_goals
    go_ret
    refine ⟨?_, rfl⟩
    simp_all [cmpI]
    try (rw [if_neg (by omega), if_neg (by omega)])

theorem cmpStr_any (a b : ByteArray) (w : World) :
    Calls Try.prog 24 #[.string a, .string b] w fun e w' => e = .returned (.int .i64 (cmpB a.toList b.toList)) ∧ w = w' := by
  go_enter Try.func24, Try.ntmps24
  go_wp2
  rw [run_callFunc_extern Try.func39 (by kernel_rfl) (by kernel_rfl) (by kernel_rfl) (e := Extern.BytealgCompare.compare) (by kernel_rfl), Lib.run_compareString]
  simp only [Result.andThen]
  rw [Oper.upon_value]
  go_wp2
  go_ret
  exact ⟨ret_i64 (by rw [cmpB_lib, ByteArray.toList_eq, ByteArray.toList_eq]), rfl⟩

set_option maxHeartbeats 400000 in

set_option maxHeartbeats 400000 in
theorem compare_any (a b : Vl) (w : World) :
    Calls Try.prog 16 #[.agg #[.int .i64 a.k, .int .i64 a.i, .string a.t], .agg #[.int .i64 b.k, .int .i64 b.i, .string b.t]] w fun e w' => e = .returned (.int .i64 (cmpV a b)) ∧ Below w.heap.size w w' := by
  obtain ⟨k, i, t⟩ := a
  obtain ⟨k', i', t'⟩ := b
  go_enter Try.func16, Try.ntmps16
  go_wp2_with (first
    | (go_at_call 22; refine (cmpInt_any _ _ _).mono ?_; rintro e w' ⟨rfl, rfl⟩)
    | (go_at_call 23; refine (cmpInt64_any _ _ _).mono ?_; rintro e w' ⟨rfl, rfl⟩)
    | (go_at_call 24; refine (cmpStr_any _ _ _).mono ?_; rintro e w' ⟨rfl, rfl⟩))
  all_goals
    go_ret
    refine ⟨ret_i64 ?_, by repeat (first | exact Below.refl _ _ | apply Below.drew | refine Below.alloc ?_ (by simp) _)⟩
    rw [cmpV_of]
    simp_all [cmpI_self, cmpB_self]

end Go.Proofs.Ytnocbigcdjlliaa
