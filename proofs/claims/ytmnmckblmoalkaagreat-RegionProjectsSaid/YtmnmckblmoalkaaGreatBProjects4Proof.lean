/-
  The law partsynclaw04.RegionProjects returns true for every input and leaves its arguments as they were. No condition.
-/
import Derived.Test.YtmnmckblmoalkaaGreatBProjects4
import Derived.Test.YtmnmckblmoalkaaGreatB55
namespace Go.Proofs.YtmnmckblmoalkaaGreat.regionProjects
open Go.ChangeShapes Go.WideShapes Go.ChangeAt Go.RowKit
set_option maxRecDepth 100000
set_option linter.unusedVariables false

set_option maxRecDepth 100000 in
theorem lifted (os : Os) (started : os.Started) (H : Type) (enc : TypeId × Value → H) :
    ReturnsInHanded {} Tryz.checked os 5 .any (Rows.regionProjectsSpec.pre6 enc Tryz.prog Tryz.f5 Rows.regionProjectsRow.domain false) (Rows.regionProjectsSpec.post enc Tryz.prog Tryz.f5 false true false false) := by
  refine returnsInHanded_of_change (C := Tryz.checked) own started (by kernel_rfl) Tryz.func5
    (ChangeSpec.witness6 (enc := enc) (C := Tryz.checked) false ⟨#[], #[.slice none 0 0, .agg #[.int .i64 0, .bool false, .slice none 0 0], .slice none 0 0, .int .i64 0], []⟩ 8 (by kernel_rfl) (by kernel_rfl) (by kernel_rfl) (by kernel_rfl)) ?_
  intro W base args ds gs before hval0 hW hcnd _
  have hval : ∀ (j : Nat) t v, Tryz.f5.params[j]? = some t → args[j]? = some v → Value.okWide Tryz.prog W .any base t v := hval0
  have hW' := hW
  obtain ⟨p, q, hA0, hV, rfl, hfz, hnd⟩ := hW
  have hA : DataW.TrodAll enc Tryz.prog W 0 (fun _ => true) true Tryz.f5.params.toList args.toList ds p := hA0
  rw [Tryz.params5] at hA hval
  have hAk := hA
  obtain ⟨v0, vs0, d0, ds0, p0, q0, hargs, rfl, rfl, h0, r0⟩ := trodAll_cons hA
  obtain ⟨v1, vs1, d1, ds1, p1, q1, rfl, rfl, rfl, h1, r1⟩ := trodAll_cons r0
  obtain ⟨v2, vs2, d2, ds2, p2, q2, rfl, rfl, rfl, h2, r2⟩ := trodAll_cons r1
  obtain ⟨v3, vs3, d3, ds3, p3, q3, rfl, rfl, rfl, h3, r3⟩ := trodAll_cons r2
  obtain ⟨rfl, rfl, rfl⟩ := trodAll_nil r3
  obtain rfl : args = #[v0, v1, v2, v3] := by cases args; simp_all
  obtain ⟨rfl, rfl⟩ := trodVars_none hV
  obtain ⟨A0, n0, c0, zs0, rfl, s0, z0, nl0, sp0, le0, mx0⟩ := open_u8s (hval 0 22 v0 rfl rfl) h0
  obtain ⟨x1, f1, A1, n1, c1, R1, rfl, s1, wf1⟩ := open_region (hval 1 27 v1 rfl rfl) h1
  obtain ⟨A2, n2, c2, zs2, rfl, s2, nl2, sp2, le2, mx2⟩ := open_cols (hval 2 30 v2 rfl rfl) h2
  obtain ⟨a3, rfl, e3, _, w3⟩ := open_int Tryz.underlying3 (hval 3 3 v3 rfl rfl) h3
  have hbd3 := bounds_i64 w3
  clear hA0 hval0
  refine (projects4_walk A0 n0 c0 zs0 W s0 z0 nl0 sp0 le0 mx0 x1 f1 A1 n1 c1 R1 s1 wf1 A2 n2 c2 zs2 s2 (by omega) a3).mono fun e W' ⟨he, bel⟩ => ?_
  subst he
  exact ⟨_, rfl, _, _, _, [], _, [], hW', trodAll_mk1 (shut_bool Tryz.underlying4 _), trodAll_below laidOut bel (fun t ht => by simp at ht; rcases ht with rfl | rfl | rfl | rfl <;> exact ⟨by kernel_rfl, of_decide_eq_true (by kernel_rfl)⟩) hAk (fun x hx => hW'.lt x (List.mem_append_left _ hx)), rfl, bel.frame _, fun h => by cases h⟩

theorem over : Rows.regionProjectsRow.holds Tryz.pinned (OpenSpec.ofChange Rows.regionProjectsSpec) :=
  OpenClaim.holds_of_wide 5 Tryz.f5 rfl rfl rfl rfl rfl rfl rfl ⟨rfl, rfl, rfl, rfl, rfl⟩ rfl rfl rfl rfl rfl (by kernel_rfl) Tryz.func5 (by kernel_rfl)
    (of_decide_eq_true (by kernel_rfl)) (by unfold Func.isWrapper; first | (rw [if_pos (by decide +kernel)]; kernel_rfl) | (rw [if_neg (by decide +kernel)]; exact ⟨rfl, rfl⟩))
    (fun os started H enc _ => lifted os started H enc)

/-- THE STATEMENT -/
theorem proved : Rows.RegionProjectsSaid := over
#print axioms proved
end Go.Proofs.YtmnmckblmoalkaaGreat.regionProjects
