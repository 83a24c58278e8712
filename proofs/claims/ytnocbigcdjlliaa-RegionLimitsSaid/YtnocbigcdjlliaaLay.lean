/-
  A call that only lays blocks and draws; value.Compare in these words.
-/
import Derived.Test.YtnocbigcdjlliaaBut
namespace Go.Proofs.Ytnocbigcdjlliaa
open Go.RowKit

/-- nothing that was there has changed, and the draws go on -/
structure Lay (w w' : World) : Prop where
  bel : Below w.heap.size w w'
  dr : w.drawn ≤ w'.drawn
theorem Lay.refl (w : World) : Lay w w := ⟨Below.refl _ _, Nat.le_refl _⟩
theorem Lay.drew {w w' : World} (h : Lay w w') : Lay w w'.drew := ⟨h.bel.drew, Nat.le_succ_of_le h.dr⟩
theorem Lay.alloc {w w' : World} (h : Lay w w') (o : Obj) : Lay w (w'.alloc o) := ⟨h.bel.alloc h.bel.size o, h.dr⟩
theorem Lay.trans {a b c : World} (h : Lay a b) (k : Lay b c) : Lay a c := ⟨Below.next h.bel k.bel, Nat.le_trans h.dr k.dr⟩
set_option maxHeartbeats 400000 in
theorem compareL_any (a b : Vl) (w : World) :
    Calls Try.prog 16 #[.agg #[.int .i64 a.k, .int .i64 a.i, .string a.t], .agg #[.int .i64 b.k, .int .i64 b.i, .string b.t]] w fun e w' => e = .returned (.int .i64 (cmpV a b)) ∧ Lay w w' := by
  obtain ⟨k, i, t⟩ := a
  obtain ⟨k', i', t'⟩ := b
  go_enter Try.func16, Try.ntmps16
  go_wp2_with (first
    | (go_at_call 22; refine (cmpInt_any _ _ _).mono ?_; rintro e w' ⟨rfl, rfl⟩)
    | (go_at_call 23; refine (cmpInt64_any _ _ _).mono ?_; rintro e w' ⟨rfl, rfl⟩)
    | (go_at_call 24; refine (cmpStr_any _ _ _).mono ?_; rintro e w' ⟨rfl, rfl⟩))
  all_goals
    go_ret
    refine ⟨ret_i64 ?_, by repeat (first | exact Lay.refl _ | apply Lay.drew | refine Lay.alloc ?_ _)⟩
    rw [cmpV_of]
    simp_all [cmpI_self, cmpB_self]
end Go.Proofs.Ytnocbigcdjlliaa
