/-
  Texts: RegionT.
-/
import Derived.Test.YtmnmckblmoalkaaGreatB17
set_option linter.unusedVariables false
/-
  The same law for a region in which two operations with an effect may come up at once (a tree of orders), and whose last store may change what was read before.
-/
namespace Go.Proofs.YtmnmckblmoalkaaGreat
open Go.RowKit
set_option maxRecDepth 100000
set_option linter.unusedVariables false

/-- an order of the operations: blocks of operations that only read, each ended by one with an effect, or by two in either order; 'fin': the last one is a store that waits for all others -/
inductive Plan where
  | last (qs : List Nat)
  | fin (qs : List Nat) (e : Nat)
  | one (qs : List Nat) (e : Nat) (t : Plan)
  | two (qs : List Nat) (e1 : Nat) (t1 : Plan) (e2 : Nat) (t2 : Plan)
def Plan.len : Plan → Nat
  | .last qs => qs.length
  | .fin qs _ => qs.length + 1
  | .one qs _ t => qs.length + (t.len + 1)
  | .two qs _ t1 _ _ => qs.length + (t1.len + 1)
/-- the last store, if there is one -/
def Plan.store : Plan → Nat → Nat
  | .last _, d => d
  | .fin _ e, _ => e
  | .one _ _ t, d => t.store d
  | .two _ _ t1 _ _, d => t1.store d
/-- the operation 'fin' waits for i -/
def finDep (fin : Nat) (ops : Array Oper) (i : Nat) : Bool := match ops[fin]? with
  | none => true
  | some o => o.after.any (fun e => Region.binds .any e && e.on == i)
theorem finDep_spec {fin : Nat} {ops : Array Oper} {i : Nat} (h : finDep fin ops i = true) : ∀ o, ops[fin]? = some o → ∃ e ∈ o.after, Region.binds .any e = true ∧ e.on = i := fun o ho => by
  unfold finDep at h
  rw [ho] at h
  simp only [Array.any_eq_true'] at h
  obtain ⟨e, he, h2⟩ := h
  simp only [Bool.and_eq_true, beq_iff_eq] at h2
  exact ⟨e, he, h2⟩
def checkU (fin : Nat) (ops : Array Oper) : List Nat → Array Bool → Option (Array Bool)
  | [], listed => some listed
  | i :: r, listed => if plainAt ops i && (Region.ready .any ops listed).contains i && Region.free .any ops listed i && finDep fin ops i then checkU fin ops r (listed.setIfInBounds i true) else none
section
variable {P : Program} {ops : Array Oper} {Q : Exit → Act → World → Prop} {md : Region.Mode} {S : Nat → Prop} {fin : Nat}
def wpAnyU (fin : Nat) (S : Nat → Prop) (P : Program) (md : Region.Mode) (ops : Array Oper) (Q : Exit → Act → World → Prop) : Nat → Array Bool → Act → World → Prop
  | 0, listed, a, w => Region.ready md ops listed = [] ∧ Q .normal a w
  | fuel + 1, listed, a, w =>
    (Region.ready md ops listed = [] → Q .normal a w) ∧
    ∀ i ∈ Region.ready md ops listed, wpOp P ops Q i (fun a' w' => (i ≠ fin → But S w w') ∧ wpAnyU fin S P md ops Q fuel (listed.setIfInBounds i true) a' w') a w

theorem wpAny_of_U : ∀ (fuel : Nat) (listed : Array Bool) (a : Act) (w : World), wpAnyU fin S P md ops Q fuel listed a w → wpAny P md ops Q fuel listed a w
  | 0, _, _, _, h => h
  | fuel + 1, _, _, _, h => ⟨h.1, fun i hi => wpOp_mono (fun a' w' h' => wpAny_of_U fuel _ a' w' h'.2) (h.2 i hi)⟩

theorem wpAnyU_first {i : Nat} {oi : Oper} {v : Value} (hi : ops[i]? = some oi) (hsel : ∀ (j : Nat) (o : Oper) cs b, ops[j]? = some o → o.op ≠ .select cs b)
    (hQ : ∀ c a w, Q (.panic c) (a.put oi.dst v) w → Q (.panic c) a w) (hfin : ∀ o, ops[fin]? = some o → ∃ e ∈ o.after, Region.binds md e = true ∧ e.on = i) :
    ∀ (fuel : Nat) (listed : Array Bool) (a : Act) (w : World),
      (∀ j oj, ops[j]? = some oj → j ≠ i → listed.getD j true = false → (∀ e ∈ oj.after, Region.binds md e = true → e.on ≠ i) → oi.apart ops oj = true) →
      i ∈ Region.ready md ops listed → YieldsIf P ops (fun W => But S w W) oi v a →
      wpAnyU fin S P md ops Q fuel (listed.setIfInBounds i true) (a.put oi.dst v) w → wpAnyU fin S P md ops Q (fuel + 1) listed a w := by
  intro fuel
  induction fuel with
  | zero =>
    intro listed a w _ hr hy H
    refine ⟨fun h => (by rw [h] at hr; cases hr), fun j hj => ?_⟩
    by_cases hji : j = i
    · subst hji; exact hy.wpOp hi (But.refl _ _) ⟨fun _ => But.refl _ _, H⟩
    · have := ready_mono hj hji
      rw [H.1] at this
      cases this
  | succ fuel ih =>
    intro listed a w hfree hr hy H
    refine ⟨fun h => (by rw [h] at hr; cases hr), fun j hj => ?_⟩
    by_cases hji : j = i
    · subst hji; exact hy.wpOp hi (But.refl _ _) ⟨fun _ => But.refl _ _, H⟩
    · have h1 := H.2 j (ready_mono hj hji)
      obtain ⟨hjun, oj, hoj, hall⟩ := mem_ready.1 hj
      have hnot : ∀ e ∈ oj.after, Region.binds md e = true → e.on ≠ i := fun e he hb heq => by
        have h1 := hall e he hb
        have h0 := (mem_ready.1 hr).1
        rw [heq] at h1
        rcases Nat.lt_or_ge i listed.size with h' | h'
        · simp [h'] at h0 h1; rw [h0] at h1; cases h1
        · simp [Array.getElem?_eq_none h'] at h1
      have h2 := wpOp_putIf hoj (hfree j oj hoj hji hjun hnot) (fun cs b => hsel i oi cs b hi) (fun cs b => hsel j oj cs b hoj) hQ hy h1
      have hfree' : ∀ k ok, ops[k]? = some ok → k ≠ i → (listed.setIfInBounds j true).getD k true = false →
          (∀ e ∈ ok.after, Region.binds md e = true → e.on ≠ i) → oi.apart ops ok = true := fun k ok hk hki hun hno => by
        refine hfree k ok hk hki ?_ hno
        by_cases hjk : j = k
        · subst hjk; exact hjun
        · rw [getD_set_ne true hjk] at hun; exact hun
      have hjf : j ≠ fin := fun e => by
        subst e
        obtain ⟨ed, he1, he2, he3⟩ := hfin oj hoj
        exact hnot ed he1 he2 he3
      refine wpOp_mono (fun a' w' h3 => ⟨fun _ => h3.2.1 hjf, ih (listed.setIfInBounds j true) a' w' hfree' (ready_mono hr (Ne.symm hji)) (YieldsIf.shrink (fun W hW => But.trans (h3.2.1 hjf) hW) h3.1) ?_⟩) h2
      rw [Array.setIfInBounds_comm _ _ hji]
      exact h3.2.2

theorem quiet_blockU (hns : Region.noSelect ops = true) (hQ : ∀ c a d v w, Q (.panic c) (Act.put a d v) w → Q (.panic c) a w) {K : Act → Prop} {w : World} {fuel : Nat} {l' : Array Bool}
    (hK : ∀ a, K a → wpAnyU fin S P .any ops Q fuel l' a w) :
    ∀ (qs : List Nat) (listed : Array Bool) (a : Act), checkU fin ops qs listed = some l' → wpQuiet P ops (clsS S w) K (pickOps ops qs) a → wpAnyU fin S P .any ops Q (qs.length + fuel) listed a w
  | [], listed, a, hc, h => by
    simp only [checkU, Option.some.injEq] at hc
    subst hc
    simp only [List.length_nil, Nat.zero_add]
    exact hK a h
  | i :: r, listed, a, hc, h => by
    unfold checkU at hc
    split at hc
    · rename_i hcond
      simp only [Bool.and_eq_true] at hcond
      obtain ⟨⟨⟨hp, hr⟩, hf⟩, hd⟩ := hcond
      cases hi : ops[i]? with
      | none => simp [plainAt, hi] at hp
      | some o =>
        simp only [plainAt, hi] at hp
        have hpick : pickOps ops (i :: r) = o :: pickOps ops r := by simp [pickOps, opAt, hi]
        rw [hpick] at h
        unfold wpQuiet at h
        have hlen : (i :: r).length + fuel = (r.length + fuel) + 1 := by simp; omega
        rw [hlen]
        by_cases hw : Region.wanted o (yielded ops a.tmps) = true
        · rw [if_pos hw] at h
          obtain ⟨v, h1, h2⟩ := h
          refine wpAnyU_first hi (Region.noSelect_spec hns) (fun c a w => hQ c a _ _ w) (finDep_spec hd) _ listed a w (Region.free_spec hi hf) (by simpa using hr) (v := v) (.inl ⟨hw, fun W hW => ?_⟩) (quiet_blockU hns hQ hK r _ _ hc h2)
          have h3 := h1 W (clsS_iff.2 hW)
          have hg := gives_plain o hp a.eval P W
          unfold Oper.quietAt at h3
          generalize (execOp a.eval o).run P W = res at *
          cases res with
          | ok n w' =>
            cases n <;> simp only [Oper.quietUpon] at h3 <;> simp only [gives] at hg
            obtain ⟨e1, e2⟩ := h3
            rw [e1, e2]
          | halt x w' => simp only [Oper.quietUpon] at h3
        · rw [if_neg hw] at h
          exact wpAnyU_first hi (Region.noSelect_spec hns) (fun c a w => hQ c a _ _ w) (finDep_spec hd) _ listed a w (Region.free_spec hi hf) (by simpa using hr) (v := undef) (.inr ⟨by simpa using hw, rfl⟩) (quiet_blockU hns hQ hK r _ _ hc h)
    · cases hc


def checkT (fin : Nat) (ops : Array Oper) : Plan → Array Bool → Bool
  | .last qs, listed => match checkU fin ops qs listed with
    | some l => (Region.ready .any ops l).isEmpty
    | none => false
  | .fin qs e, listed => match checkU fin ops qs listed with
    | some l => (Region.ready .any ops l == [e]) && (decide (e < ops.size) && (decide (e = fin) && (Region.ready .any ops (l.setIfInBounds e true)).isEmpty))
    | none => false
  | .one qs e t, listed => match checkU fin ops qs listed with
    | some l => (Region.ready .any ops l == [e]) && (decide (e < ops.size) && checkT fin ops t (l.setIfInBounds e true))
    | none => false
  | .two qs e1 t1 e2 t2, listed => match checkU fin ops qs listed with
    | some l => (Region.ready .any ops l == [e1, e2]) && (decide (e1 < ops.size) && (decide (e2 < ops.size) && (decide (t1.len = t2.len) && (checkT fin ops t1 (l.setIfInBounds e1 true) && checkT fin ops t2 (l.setIfInBounds e2 true)))))
    | none => false
/-- the orders of a plan -/
def wpPlan (S : Nat → Prop) (P : Program) (ops : Array Oper) (Q : Exit → Act → World → Prop) : Plan → Act → World → Prop
  | .last qs, a, w => wpQuiet P ops (fun W => ∃ x : LaterS S w, W = afterS S w x) (fun a' => Q .normal a' w) (pickOps ops qs) a
  | .fin qs e, a, w => wpQuiet P ops (fun W => ∃ x : LaterS S w, W = afterS S w x) (fun a' => wpList P ops (Exit.then (fun a'' w' => Q .normal a'' w') Q) [opAt ops e] a' w) (pickOps ops qs) a
  | .one qs e t, a, w => wpQuiet P ops (fun W => ∃ x : LaterS S w, W = afterS S w x) (fun a' => wpList P ops (Exit.then (fun a'' w' => But S w w' ∧ wpPlan S P ops Q t a'' w') Q) [opAt ops e] a' w) (pickOps ops qs) a
  | .two qs e1 t1 e2 t2, a, w => wpQuiet P ops (fun W => ∃ x : LaterS S w, W = afterS S w x) (fun a' => wpList P ops (Exit.then (fun a'' w' => But S w w' ∧ wpPlan S P ops Q t1 a'' w') Q) [opAt ops e1] a' w ∧ wpList P ops (Exit.then (fun a'' w' => But S w w' ∧ wpPlan S P ops Q t2 a'' w') Q) [opAt ops e2] a' w) (pickOps ops qs) a
theorem at_of_lt {e : Nat} (h : e < ops.size) : ops[e]? = some (opAt ops e) := by
  unfold opAt
  rw [Array.getElem?_eq_getElem h]
  rfl
theorem plan_any (hns : Region.noSelect ops = true) (hQ : ∀ c a d v w, Q (.panic c) (Act.put a d v) w → Q (.panic c) a w) :
    ∀ (t : Plan) (listed : Array Bool) (a : Act) (w : World), checkT fin ops t listed = true → wpPlan S P ops Q t a w → wpAnyU fin S P .any ops Q t.len listed a w
  | .last qs, listed, a, w, hc, h => by
    unfold checkT at hc
    split at hc
    · rename_i l hl
      exact quiet_blockU hns hQ (fuel := 0) (fun a' h' => ⟨by simpa using hc, h'⟩) qs listed a hl h
    · cases hc
  | .fin qs e, listed, a, w, hc, h => by
    unfold checkT at hc
    split at hc
    · rename_i l hl
      simp only [Bool.and_eq_true, beq_iff_eq, decide_eq_true_eq] at hc
      refine quiet_blockU hns hQ (fuel := 0 + 1) (fun a' h' => ?_) qs listed a hl h
      refine ⟨fun h0 => (by rw [hc.1] at h0; cases h0), fun i hi => ?_⟩
      rw [hc.1] at hi
      have hie : i = e := by simpa using hi
      subst hie
      exact wpOp_mono (fun a'' w' h'' => ⟨fun hne => absurd hc.2.2.1 hne, by simpa using hc.2.2.2, h''⟩) (op_of_list (at_of_lt hc.2.1) h')
    · cases hc
  | .one qs e t, listed, a, w, hc, h => by
    unfold checkT at hc
    split at hc
    · rename_i l hl
      simp only [Bool.and_eq_true, beq_iff_eq, decide_eq_true_eq] at hc
      refine quiet_blockU hns hQ (fuel := t.len + 1) (fun a' h' => ?_) qs listed a hl h
      refine ⟨fun h0 => (by rw [hc.1] at h0; cases h0), fun i hi => ?_⟩
      rw [hc.1] at hi
      have hie : i = e := by simpa using hi
      subst hie
      exact wpOp_mono (fun a'' w' ⟨hb, h''⟩ => ⟨fun _ => hb, plan_any hns hQ t _ a'' w' hc.2.2 h''⟩) (op_of_list (at_of_lt hc.2.1) h')
    · cases hc
  | .two qs e1 t1 e2 t2, listed, a, w, hc, h => by
    unfold checkT at hc
    split at hc
    · rename_i l hl
      simp only [Bool.and_eq_true, beq_iff_eq, decide_eq_true_eq] at hc
      obtain ⟨c1, c2, c3, c4, c5, c6⟩ := hc
      refine quiet_blockU hns hQ (fuel := t1.len + 1) (fun a' h' => ?_) qs listed a hl h
      refine ⟨fun h0 => (by rw [c1] at h0; cases h0), fun i hi => ?_⟩
      rw [c1] at hi
      rcases List.mem_cons.1 hi with rfl | hi
      · exact wpOp_mono (fun a'' w' ⟨hb, h''⟩ => ⟨fun _ => hb, plan_any hns hQ t1 _ a'' w' c5 h''⟩) (op_of_list (at_of_lt c2) h'.1)
      · have hie : i = e2 := by simpa using hi
        subst hie
        exact wpOp_mono (fun a'' w' ⟨hb, h''⟩ => ⟨fun _ => hb, by rw [c4]; exact plan_any hns hQ t2 _ a'' w' c6 h''⟩) (op_of_list (at_of_lt c3) h'.2)
    · cases hc
/-- THE LAW -/
theorem wp_region_plan {id : Nat} {a : Act} {w : World} {l : List Oper} (S : Nat → Prop) (t : Plan) (hm : P.follows .mixedOrders = true)
    (hc : (Region.noSelect l.toArray && (checkT (t.store l.toArray.size) l.toArray t (Array.replicate l.toArray.size false) && decide (t.len = l.toArray.size))) = true)
    (hQ : ∀ c a d v w, Q (.panic c) (Act.put a d v) w → Q (.panic c) a w)
    (h : wpPlan S P l.toArray Q t a w.drew) : (Code.region id l.toArray true).wp P Q a w := by
  simp only [Bool.and_eq_true, decide_eq_true_eq] at hc
  refine wp_region_any hm ?_
  have h1 := plan_any hc.1 hQ t _ a _ hc.2.1 h
  rw [hc.2.2] at h1
  exact wpAny_of_U _ _ _ _ h1
end
end Go.Proofs.YtmnmckblmoalkaaGreat
