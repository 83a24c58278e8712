/-
  Plain: one cell of a row of structs changed. No program here.
-/
import Derived.Test.YtnocbigcdjlliaaMem2
namespace Go.Proofs.Ytnocbigcdjlliaa
open Go.RowKit

theorem flat_set {α : Type} {sz : Nat} {cs : α → List Value} (hcs : ∀ x, (cs x).length = sz) {x' : α} {u : Value} {j : Nat} : ∀ (l : List α) (i : Nat) (x : α), l[i]? = some x → j < sz → cs x' = (cs x).set j u → (l.flatMap cs).set (i * sz + j) u = (l.set i x').flatMap cs
  | [], i, x, h, _, _ => by simp at h
  | y :: l, 0, x, h, hj, he => by
    simp only [List.getElem?_cons_zero, Option.some.injEq] at h
    subst h
    rw [List.flatMap_cons, List.set_cons_zero, List.flatMap_cons, Nat.zero_mul, Nat.zero_add, List.set_append_left _ _ (by rw [hcs]; exact hj), he]
  | y :: l, i + 1, x, h, hj, he => by
    simp only [List.getElem?_cons_succ] at h
    have ih := flat_set hcs l i x h hj he
    rw [List.flatMap_cons, List.set_cons_succ, List.flatMap_cons, List.set_append_right _ _ (by rw [hcs, Nat.succ_mul]; omega), ← ih]
    congr 2
    rw [hcs, Nat.succ_mul]
    omega
end Go.Proofs.Ytnocbigcdjlliaa
