/-
  The law partsynclaw01.ValueOrders returns true for every input and leaves its arguments as they were. No condition.
-/
import Derived.Test.YtemllddgefahfaaOrders
import Derived.Test.YtemllddgefahfaaOpenRow2
namespace Go.Proofs.Ytemllddgefahfaa.valueOrders
open Go.ChangeShapes Go.WideShapes Go.ChangeAt Go.RowKit
set_option linter.unusedVariables false

set_option maxRecDepth 100000 in
theorem lifted (os : Os) (started : os.Started) (H : Type) (enc : TypeId × Value → H) :
    ReturnsInHanded {} Try.checked os 8 .any (Rows.valueOrdersSpec.pre6 enc Try.prog Try.f8 Rows.valueOrdersRow.domain false) (Rows.valueOrdersSpec.post enc Try.prog Try.f8 false true false false) := by
  refine returnsInHanded_of_change_sized (C := Try.checked) own started (by kernel_rfl) Try.func8
    (ChangeSpec.witness6 (enc := enc) (C := Try.checked) false ⟨#[], #[.slice none 0 0, .slice none 0 0], []⟩ 8 (by kernel_rfl) (by kernel_rfl) (by kernel_rfl) (by kernel_rfl)) ?_
  intro W base args ds gs before hval0 hW hcnd hwt _
  have hval : ∀ (j : Nat) t v, Try.f8.params[j]? = some t → args[j]? = some v → Value.okWide Try.prog W .any base t v := hval0
  have hW' := hW
  obtain ⟨p, q, hA0, hV, rfl, hfz, hnd⟩ := hW
  have hA : DataW.TrodAll enc Try.prog W 0 (fun _ => true) true Try.f8.params.toList args.toList ds p := hA0
  rw [Try.params8] at hA hval
  have hAk := hA
  obtain ⟨v0, vs0, d0, ds0, p0, q0, hargs, rfl, rfl, h0, r0⟩ := trodAll_cons hA
  obtain ⟨v1, vs1, d1, ds1, p1, q1, rfl, rfl, rfl, h1, r1⟩ := trodAll_cons r0
  obtain ⟨rfl, rfl, rfl⟩ := trodAll_nil r1
  obtain rfl : args = #[v0, v1] := by cases args; simp_all
  obtain ⟨rfl, rfl⟩ := trodVars_none hV
  obtain ⟨A0, n0, c0, zs0, rfl, s0, z0, nl0, sp0, le0, mx0⟩ := open_u8s (hval 0 22 v0 rfl rfl) h0
  obtain ⟨A1, n1, c1, l1, rfl, s1, nl1, sp1, le1, mx1, wt1⟩ := open_rows2 (hval 1 39 v1 rfl rfl) h1
  have hw1 := wt1 (fun k hk => by have := List.all_eq_true.1 hwt _ (DataW.weights_mem_each (j := 1) (by rw [show Try.checked.prog = Try.prog from rfl, Try.params8]; rfl) rfl k hk); simpa using this)
  have sm1 : ∀ p ∈ l1, p.1.2.1 ≤ 4398046511104 := fun p hp => by have h1 := hw1 p hp; have h2 := (s1.ok p hp).le; have h3 : reachBytes < 2 ^ 47 := reachBytes_lt; omega
  clear hA0 hval0
  refine (orders_walk A0 n0 c0 zs0 A1 n1 c1 l1 W s0 z0 nl0 sp0 le0 mx0 s1 nl1 le1 mx1 sm1).mono fun e W' ⟨he, bel⟩ => ?_
  subst he
  exact ⟨_, rfl, _, _, _, [], _, [], hW', trodAll_mk1 (shut_bool Try.underlying4 _), trodAll_below laidOut bel (fun t ht => by simp at ht; rcases ht with rfl | rfl <;> exact ⟨by kernel_rfl, of_decide_eq_true (by kernel_rfl)⟩) hAk (fun x hx => hW'.lt x (List.mem_append_left _ hx)), rfl, bel.frame _, fun h => by cases h⟩

theorem over : Rows.valueOrdersRow.holds Try.pinned (OpenSpec.ofChange Rows.valueOrdersSpec) :=
  OpenClaim.holds_of_wide 8 Try.f8 rfl rfl rfl rfl rfl rfl rfl ⟨rfl, rfl, rfl, rfl, rfl⟩ rfl rfl rfl rfl rfl (by kernel_rfl) Try.func8 (by kernel_rfl)
    (of_decide_eq_true (by kernel_rfl)) (by unfold Func.isWrapper; first | (rw [if_pos (by decide +kernel)]; kernel_rfl) | (rw [if_neg (by decide +kernel)]; exact ⟨rfl, rfl⟩))
    (fun os started H enc _ => lifted os started H enc)

/-- THE STATEMENT -/
theorem proved : Rows.ValueOrdersSaid := over
#print axioms proved
end Go.Proofs.Ytemllddgefahfaa.valueOrders
