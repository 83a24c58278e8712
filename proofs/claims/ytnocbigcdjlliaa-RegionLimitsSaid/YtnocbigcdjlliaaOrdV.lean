/-
  Plain mathematics: the order of values is total. No program here.
-/
import Derived.Test.YtnocbigcdjlliaaBase
namespace Go.Proofs.Ytnocbigcdjlliaa
open Go.RowKit

theorem cmpB_trans : ∀ a b c : List UInt8, cmpB a b ≤ 0 → cmpB b c ≤ 0 → cmpB a c ≤ 0
  | [], _, [], _, _ => by simp [cmpB]
  | [], _, _ :: _, _, _ => by simp [cmpB]
  | _ :: _, [], _, h, _ => by simp [cmpB] at h
  | _ :: _, _ :: _, [], _, h => by simp [cmpB] at h
  | a :: x, b :: y, c :: z, h1, h2 => by
    have ih := cmpB_trans x y z
    simp only [cmpB, UInt8.lt_iff_toNat_lt] at h1 h2 ⊢
    repeat' split at h1
    all_goals (repeat' split at h2)
    all_goals (repeat' split)
    all_goals first | omega | exact ih h1 h2
theorem cmpV_trans {a b c : Vl} (h1 : cmpV a b ≤ 0) (h2 : cmpV b c ≤ 0) : cmpV a c ≤ 0 := by
  have ih := cmpB_trans a.t.toList b.t.toList c.t.toList
  unfold cmpV at h1 h2 ⊢
  repeat' split at h1
  all_goals (repeat' split at h2)
  all_goals (repeat' split)
  all_goals first | omega | exact ih h1 h2
theorem cmpV_self (a : Vl) : cmpV a a = 0 := (cmpV_zero a a).2 rfl
theorem cmpV_lt_of_le {a b c : Vl} (h1 : cmpV a b ≤ 0) (h2 : cmpV b c < 0) : cmpV a c < 0 := by
  rcases Int.lt_or_le (cmpV a c) 0 with h | h
  · exact h
  · have e1 := cmpV_anti a c
    have e2 := cmpV_anti b c
    have := cmpV_trans (a := c) (b := a) (c := b) (by omega) h1
    omega
theorem cmpV_lt_of_lt {a b c : Vl} (h1 : cmpV a b < 0) (h2 : cmpV b c ≤ 0) : cmpV a c < 0 := by
  rcases Int.lt_or_le (cmpV a c) 0 with h | h
  · exact h
  · have e1 := cmpV_anti a c
    have e2 := cmpV_anti a b
    have := cmpV_trans (a := b) (b := c) (c := a) h2 (by omega)
    omega
theorem cmpV_lt_trans {a b c : Vl} (h1 : cmpV a b < 0) (h2 : cmpV b c < 0) : cmpV a c < 0 := cmpV_lt_of_le (by omega) h2
theorem cmpV_gt {a b : Vl} (h : ¬ cmpV a b ≤ 0) : cmpV b a < 0 := by have := cmpV_anti a b; omega
theorem cmpV_not {a b : Vl} (h : cmpV b a < 0) : ¬ cmpV a b ≤ 0 := by have := cmpV_anti a b; omega

end Go.Proofs.Ytnocbigcdjlliaa
