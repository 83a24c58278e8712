import Derived.Test.YtemllddgefahfaaBut
import Derived.Shelf.Abstract
namespace Go.Proofs.Ytemllddgefahfaa
open Go.RowKit

def minI : Int := -9223372036854775808
def firstV (k : Int) : Vl × Bool :=
  if k = 1 ∨ k = 2 ∨ k = 3 ∨ k = 5 then (⟨k, 0, ⟨#[]⟩⟩, true) else if k = 4 then (⟨k, minI, ⟨#[]⟩⟩, true) else (zeroV, false)

theorem ret_vb {k i k' i' : Int} {t t' : ByteArray} {b b' : Bool} (h : (⟨k, i, t⟩, b) = ((⟨k', i', t'⟩ : Vl), b')) :
    Ending.returned (.tuple #[.agg #[.int .i64 k, .int .i64 i, .string t], .bool b]) = .returned (.tuple #[.agg #[.int .i64 k', .int .i64 i', .string t'], .bool b']) := by
  simp only [Prod.mk.injEq, Vl.mk.injEq] at h
  obtain ⟨⟨rfl, rfl, rfl⟩, rfl⟩ := h
  rfl
set_option maxHeartbeats 400000 in
theorem first_any (k : Int) (w : World) : Calls Try.prog 22 #[.int .i64 k] w fun e w' =>
    e = .returned (.tuple #[.agg #[.int .i64 (firstV k).1.k, .int .i64 (firstV k).1.i, .string (firstV k).1.t], .bool (firstV k).2]) ∧ Below w.heap.size w w' := by
  generalize hf : firstV k = r
  have Hf := Lib.hid hf
  clear hf
  go_enter Try.func22, Try.ntmps22
  go_wp2
  all_goals
    first
      | (refine bodyPost_ret (v := .tuple #[.agg #[.int .i64 k, .int .i64 0, .string ⟨#[]⟩], .bool true]) ?_ rfl ⟨?_, ?_⟩; focus (simp [results, Try.results22, go_sem]; done))
      | (refine bodyPost_ret (v := .tuple #[.agg #[.int .i64 k, .int .i64 minI, .string ⟨#[]⟩], .bool true]) ?_ rfl ⟨?_, ?_⟩; focus (simp [results, Try.results22, go_sem, minI]; done))
      | (refine bodyPost_ret (v := .tuple #[.agg #[.int .i64 0, .int .i64 0, .string ⟨#[]⟩], .bool false]) ?_ rfl ⟨?_, ?_⟩; focus (simp [results, Try.results22, go_sem]; done))
    · rw [← Hf.out]
      simp_all [firstV, zeroV]
    · repeat (first | exact Below.refl _ _ | apply Below.drew | refine Below.setCell ?_ (by simp) _ | refine Below.alloc ?_ (by simp) _)
end Go.Proofs.Ytemllddgefahfaa
