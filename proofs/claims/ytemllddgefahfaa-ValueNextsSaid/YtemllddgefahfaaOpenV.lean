import Derived.Test.YtemllddgefahfaaOpen
import Derived.Test.YtemllddgefahfaaCase2
namespace Go.Proofs.Ytemllddgefahfaa
open Go.ChangeShapes Go.WideShapes Go.ChangeAt Go.RowKit

/-- a value as argument, its number an int64 -/
theorem open_vr {H : Type} {enc : TypeId × Value → H} {W : World} {base : Nat} {sp : Nat → Bool} {hd : Bool} {r : Reach} {b0 : Nat} {v : Value} {d : DataW H} {p : List MemPlace} (hv : Value.okWide Try.prog W r b0 24 v) (h : DataW.Trod enc Try.prog W base sp hd 24 v d p) :
    ∃ x : Vl, v = .agg #[.int .i64 x.k, .int .i64 x.i, .string x.t] ∧ rngV x := by
  obtain ⟨v0, v1, v2, y0, y1, y2, n, rfl, _, _, h0, h1, h2⟩ := Joins.open_agg3 Try.underlying24 (by kernel_rfl) (by kernel_rfl) hv h
  obtain ⟨a, e0, _, _⟩ := DataW.trod_int (k := .i64) (by kernel_rfl) h0
  obtain ⟨b, e1, _, hw⟩ := DataW.trod_int (k := .i64) (by kernel_rfl) h1
  obtain ⟨s, e2, _, hs⟩ := DataW.trod_string (by kernel_rfl) h2
  injection e0 with e0
  injection e1 with e1
  injection e2 with e2
  subst e0 e1 e2
  exact ⟨⟨a, b, s⟩, rfl, bounds_i64 hw⟩
end Go.Proofs.Ytemllddgefahfaa
