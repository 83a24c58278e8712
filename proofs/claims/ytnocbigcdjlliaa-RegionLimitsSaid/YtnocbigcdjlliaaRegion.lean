/-
  A region that draws its order: operations that only compute or read may be taken in the order of the text between the operations with an effect, if the latter come up one at a time and change nothing that was there.
-/
import Derived.Test.YtnocbigcdjlliaaMem
import Derived.OrdersHeld
namespace Go.Proofs.Ytnocbigcdjlliaa
open Go.RowKit
set_option linter.unusedVariables false

/-- operations that only compute or read -/
def plainOp : Op → Bool
  | .move _ | .assign _ | .pick _ _ _ | .build _ _ | .load _ _ | .binOp _ _ _ _ _ | .unOp _ _ _ | .slice _ _ _ _ _ | .fieldAddr _ _ _ | .field _ _ _ | .indexAddr _ _ _ | .index _ _ _ | .extract _ _ | .convert _ _ _ | .lookup _ _ _ _ | .nilCheck _ => true
  | .call c => match c.callee with
    | .builtin .len => true
    | .builtin .min => true
    | .builtin .max => true
    | _ => false
  | _ => false

def gives (r : Result Next) : Prop := match r with
  | .ok (.value _) _ => True
  | .ok _ _ => False
  | .halt _ _ => True
theorem gives_v (s : Sem Value) (P : Program) (w : World) : gives ((do pure (Next.value (← s)) : Sem Next).run P w) := by
  rw [Sem.run_bind]
  generalize s.run P w = r
  cases r with
  | ok x w' => simp [Result.andThen, gives]
  | halt x w' => simp [Result.andThen, gives]
theorem gives_bind {α : Type} (s : Sem α) (f : α → Sem Next) (P : Program) (w : World) (h : ∀ a w', gives ((f a).run P w')) : gives ((s >>= f).run P w) := by
  rw [Sem.run_bind]
  generalize s.run P w = r
  cases r with
  | ok x w' => exact h x w'
  | halt x w' => simp [Result.andThen, gives]
theorem gives_then (r : Result Value) : gives (r.andThen fun a w' => Result.ok (Next.value a) w') := by
  cases r with
  | ok x w' => simp [Result.andThen, gives]
  | halt x w' => simp [Result.andThen, gives]
theorem gives_plain (o : Oper) (h : plainOp o.op = true) (ev : Operand → Value) (P : Program) (w : World) : gives ((execOp ev o).run P w) := by
  unfold execOp
  cases ho : o.op <;> rw [ho] at h <;> simp only [plainOp, Bool.false_eq_true] at h
  case call c =>
    obtain ⟨callee, args, argTypes⟩ := c
    simp only at h
    split at h
    · simp only [resolve, invoke, builtin, Sem.run_bind, Sem.run_pure, Result.andThen_ok]
      exact gives_then _
    · simp only [resolve, invoke, builtin, Sem.run_bind, Sem.run_pure, Result.andThen_ok]
      exact gives_then _
    · simp only [resolve, invoke, builtin, Sem.run_bind, Sem.run_pure, Result.andThen_ok]
      exact gives_then _
    · cases h
  case nilCheck x =>
    simp only
    split
    · simp [runtimePanic, goPanic, gives, go_sem]
    · simp [runtimePanic, goPanic, gives, go_sem]
    · simp [runtimePanic, goPanic, gives, go_sem]
    · split
      · simp [runtimePanic, goPanic, gives, go_sem]
      · repeat (refine gives_bind _ _ P _ (fun _ _ => ?_))
        first | (simp [gives]; done) | (split <;> (repeat (refine gives_bind _ _ P _ (fun _ _ => ?_))) <;> simp [gives, unsupported])
      · simp [gives]
    · simp [gives]
  case move x => simp [gives]
  case assign x => simp [gives]
  case pick c a b =>
    rw [Sem.run_bind]
    generalize (asBool (ev c)).run P w = r
    cases r with
    | ok x w' => simp [Result.andThen, gives]
    | halt x w' => simp [Result.andThen, gives]
  all_goals exact gives_v _ P w

abbrev cls (w : World) : World → Prop := fun W => ∃ x : Later w, W = after w x
theorem cls_iff {w W : World} : cls w W ↔ Below w.heap.size w W := ⟨fun ⟨x, h⟩ => by rw [h]; exact x.below, fun h => ⟨⟨W, h⟩, rfl⟩⟩

section
variable {P : Program} {ops : Array Oper} {Q : Exit → Act → World → Prop} {md : Region.Mode}

def wpAnyB (P : Program) (md : Region.Mode) (ops : Array Oper) (Q : Exit → Act → World → Prop) : Nat → Array Bool → Act → World → Prop
  | 0, listed, a, w => Region.ready md ops listed = [] ∧ Q .normal a w
  | fuel + 1, listed, a, w =>
    (Region.ready md ops listed = [] → Q .normal a w) ∧
    ∀ i ∈ Region.ready md ops listed, wpOp P ops Q i (fun a' w' => Below w.heap.size w w' ∧ wpAnyB P md ops Q fuel (listed.setIfInBounds i true) a' w') a w

theorem wpAny_of_B : ∀ (fuel : Nat) (listed : Array Bool) (a : Act) (w : World), wpAnyB P md ops Q fuel listed a w → wpAny P md ops Q fuel listed a w
  | 0, _, _, _, h => h
  | fuel + 1, _, _, _, h => ⟨h.1, fun i hi => wpOp_mono (fun a' w' h' => wpAny_of_B fuel _ a' w' h'.2) (h.2 i hi)⟩

theorem YieldsIf.shrink {o : Oper} {v : Value} {a : Act} {S S' : World → Prop} (hS : ∀ W, S' W → S W) (h : YieldsIf P ops S o v a) : YieldsIf P ops S' o v a :=
  h.imp (fun ⟨hw, hv⟩ => ⟨hw, fun W hW => hv W (hS W hW)⟩) id

theorem wpAnyB_first {i : Nat} {oi : Oper} {v : Value} (hi : ops[i]? = some oi) (hsel : ∀ (j : Nat) (o : Oper) cs b, ops[j]? = some o → o.op ≠ .select cs b)
    (hQ : ∀ c a w, Q (.panic c) (a.put oi.dst v) w → Q (.panic c) a w) :
    ∀ (fuel : Nat) (listed : Array Bool) (a : Act) (w : World),
      (∀ j oj, ops[j]? = some oj → j ≠ i → listed.getD j true = false → (∀ e ∈ oj.after, Region.binds md e = true → e.on ≠ i) → oi.apart ops oj = true) →
      i ∈ Region.ready md ops listed → YieldsIf P ops (fun W => Below w.heap.size w W) oi v a →
      wpAnyB P md ops Q fuel (listed.setIfInBounds i true) (a.put oi.dst v) w → wpAnyB P md ops Q (fuel + 1) listed a w := by
  intro fuel
  induction fuel with
  | zero =>
    intro listed a w _ hr hy H
    refine ⟨fun h => (by rw [h] at hr; cases hr), fun j hj => ?_⟩
    by_cases hji : j = i
    · subst hji; exact hy.wpOp hi (Below.refl _ _) ⟨Below.refl _ _, H⟩
    · have := ready_mono hj hji
      rw [H.1] at this
      cases this
  | succ fuel ih =>
    intro listed a w hfree hr hy H
    refine ⟨fun h => (by rw [h] at hr; cases hr), fun j hj => ?_⟩
    by_cases hji : j = i
    · subst hji; exact hy.wpOp hi (Below.refl _ _) ⟨Below.refl _ _, H⟩
    · have h1 := H.2 j (ready_mono hj hji)
      obtain ⟨hjun, oj, hoj, hall⟩ := mem_ready.1 hj
      have hnot : ∀ e ∈ oj.after, Region.binds md e = true → e.on ≠ i := fun e he hb heq => by
        have h1 := hall e he hb
        have h0 := (mem_ready.1 hr).1
        rw [heq] at h1
        rcases Nat.lt_or_ge i listed.size with h' | h'
        · simp [h'] at h0 h1; rw [h0] at h1; cases h1
        · simp [Array.getElem?_eq_none h'] at h1
      have h2 := wpOp_putIf hoj (hfree j oj hoj hji hjun hnot) (fun cs b => hsel i oi cs b hi) (fun cs b => hsel j oj cs b hoj) hQ hy h1
      have hfree' : ∀ k ok, ops[k]? = some ok → k ≠ i → (listed.setIfInBounds j true).getD k true = false →
          (∀ e ∈ ok.after, Region.binds md e = true → e.on ≠ i) → oi.apart ops ok = true := fun k ok hk hki hun hno => by
        refine hfree k ok hk hki ?_ hno
        by_cases hjk : j = k
        · subst hjk; exact hjun
        · rw [getD_set_ne true hjk] at hun; exact hun
      refine wpOp_mono (fun a' w' h3 => ⟨h3.2.1, ih (listed.setIfInBounds j true) a' w' hfree' (ready_mono hr (Ne.symm hji)) (YieldsIf.shrink (fun W hW => Below.next h3.2.1 hW) h3.1) ?_⟩) h2
      rw [Array.setIfInBounds_comm _ _ hji]
      exact h3.2.2

def opAt (ops : Array Oper) (i : Nat) : Oper := (ops[i]?).getD ⟨none, .move (.const (.bool false)), 0, "", #[], none⟩
def pickOps (ops : Array Oper) (l : List Nat) : List Oper := l.map (opAt ops)

/-- blocks of operations that only read, each ended by one with an effect; the last block has none -/
def wpSeg (P : Program) (ops : Array Oper) (Q : Exit → Act → World → Prop) : List (List Nat × Nat) → List Nat → Act → World → Prop
  | [], last, a, w => wpQuiet P ops (cls w) (fun a' => Q .normal a' w) (pickOps ops last) a
  | (qs, e) :: r, last, a, w => wpQuiet P ops (cls w) (fun a' => wpOp P ops Q e (fun a'' w' => Below w.heap.size w w' ∧ wpSeg P ops Q r last a'' w') a' w) (pickOps ops qs) a

def plainAt (ops : Array Oper) (i : Nat) : Bool := match ops[i]? with
  | some o => plainOp o.op
  | none => false
/-- the operations of a block may come up in this order -/
def checkQ (ops : Array Oper) : List Nat → Array Bool → Option (Array Bool)
  | [], listed => some listed
  | i :: r, listed => if plainAt ops i && (Region.ready .any ops listed).contains i && Region.free .any ops listed i then checkQ ops r (listed.setIfInBounds i true) else none
def checkS (ops : Array Oper) : List (List Nat × Nat) → List Nat → Array Bool → Bool
  | [], last, listed => match checkQ ops last listed with
    | some l => (Region.ready .any ops l).isEmpty
    | none => false
  | (qs, e) :: r, last, listed => match checkQ ops qs listed with
    | some l => (Region.ready .any ops l == [e]) && checkS ops r last (l.setIfInBounds e true)
    | none => false

theorem quiet_block (hns : Region.noSelect ops = true) (hQ : ∀ c a d v w, Q (.panic c) (Act.put a d v) w → Q (.panic c) a w) {K : Act → Prop} {w : World} {fuel : Nat} {l' : Array Bool}
    (hK : ∀ a, K a → wpAnyB P .any ops Q fuel l' a w) :
    ∀ (qs : List Nat) (listed : Array Bool) (a : Act), checkQ ops qs listed = some l' → wpQuiet P ops (cls w) K (pickOps ops qs) a → wpAnyB P .any ops Q (qs.length + fuel) listed a w
  | [], listed, a, hc, h => by
    simp only [checkQ, Option.some.injEq] at hc
    subst hc
    simp only [List.length_nil, Nat.zero_add]
    exact hK a h
  | i :: r, listed, a, hc, h => by
    unfold checkQ at hc
    split at hc
    · rename_i hcond
      simp only [Bool.and_eq_true] at hcond
      obtain ⟨⟨hp, hr⟩, hf⟩ := hcond
      cases hi : ops[i]? with
      | none => simp [plainAt, hi] at hp
      | some o =>
        simp only [plainAt, hi] at hp
        have hpick : pickOps ops (i :: r) = o :: pickOps ops r := by simp [pickOps, opAt, hi]
        rw [hpick] at h
        unfold wpQuiet at h
        have hlen : (i :: r).length + fuel = (r.length + fuel) + 1 := by simp; omega
        rw [hlen]
        by_cases hw : Region.wanted o (yielded ops a.tmps) = true
        · rw [if_pos hw] at h
          obtain ⟨v, h1, h2⟩ := h
          refine wpAnyB_first hi (Region.noSelect_spec hns) (fun c a w => hQ c a _ _ w) _ listed a w (Region.free_spec hi hf) (by simpa using hr) (v := v) (.inl ⟨hw, fun W hW => ?_⟩) (quiet_block hns hQ hK r _ _ hc h2)
          have h3 := h1 W (cls_iff.2 hW)
          have hg := gives_plain o hp a.eval P W
          unfold Oper.quietAt at h3
          generalize (execOp a.eval o).run P W = res at *
          cases res with
          | ok n w' =>
            cases n <;> simp only [Oper.quietUpon] at h3 <;> simp only [gives] at hg
            obtain ⟨e1, e2⟩ := h3
            rw [e1, e2]
          | halt x w' => simp only [Oper.quietUpon] at h3
        · rw [if_neg hw] at h
          exact wpAnyB_first hi (Region.noSelect_spec hns) (fun c a w => hQ c a _ _ w) _ listed a w (Region.free_spec hi hf) (by simpa using hr) (v := undef) (.inr ⟨by simpa using hw, rfl⟩) (quiet_block hns hQ hK r _ _ hc h)
    · cases hc

def segLen : List (List Nat × Nat) → List Nat → Nat
  | [], last => last.length
  | (qs, _) :: r, last => qs.length + (segLen r last + 1)

theorem seg_any (hns : Region.noSelect ops = true) (hQ : ∀ c a d v w, Q (.panic c) (Act.put a d v) w → Q (.panic c) a w) (last : List Nat) :
    ∀ (segs : List (List Nat × Nat)) (listed : Array Bool) (a : Act) (w : World), checkS ops segs last listed = true → wpSeg P ops Q segs last a w → wpAnyB P .any ops Q (segLen segs last) listed a w
  | [], listed, a, w, hc, h => by
    unfold checkS at hc
    split at hc
    · rename_i l hl
      exact quiet_block hns hQ (fuel := 0) (fun a' h' => ⟨by simpa using hc, h'⟩) last listed a hl h
    · cases hc
  | (qs, e) :: r, listed, a, w, hc, h => by
    unfold checkS at hc
    split at hc
    · rename_i l hl
      simp only [Bool.and_eq_true, beq_iff_eq] at hc
      refine quiet_block hns hQ (fuel := segLen r last + 1) (fun a' h' => ?_) qs listed a hl h
      refine ⟨fun h0 => (by rw [hc.1] at h0; cases h0), fun i hi => ?_⟩
      rw [hc.1] at hi
      have hie : i = e := by simpa using hi
      subst hie
      exact wpOp_mono (fun a'' w' ⟨hb, h''⟩ => ⟨hb, seg_any hns hQ last r _ a'' w' hc.2 h''⟩) h'
    · cases hc

theorem op_of_list {o : Oper} {e : Nat} {K : Act → World → Prop} {a : Act} {w : World} (he : ops[e]? = some o) (h : wpList P ops (Exit.then K Q) [o] a w) : wpOp P ops Q e K a w := by
  unfold wpOp
  rw [he]
  simp only
  unfold wpList at h
  split
  · rename_i hw
    rw [if_pos hw] at h
    rcases h with h | ⟨h1, h2⟩
    · left
      unfold Oper.wp at h ⊢
      generalize (execOp a.eval o).run P w = r at *
      cases r with
      | ok n w' =>
        cases n <;> simp only [Oper.upon] at h ⊢ <;> exact h
      | halt x w' => cases x <;> simp only [Oper.upon] at h ⊢; exact h
    · exact .inr ⟨h1, h2⟩
  · rename_i hw
    rw [if_neg hw] at h
    exact h

/-- the blocks, the operations themselves -/
def wpBlocks (P : Program) (ops : Array Oper) (Q : Exit → Act → World → Prop) : List (List Oper × Oper) → List Oper → Act → World → Prop
  | [], last, a, w => wpQuiet P ops (fun W => ∃ x : Later w, W = after w x) (fun a' => Q .normal a' w) last a
  | (qs, e) :: r, last, a, w => wpQuiet P ops (fun W => ∃ x : Later w, W = after w x) (fun a' => wpList P ops (Exit.then (fun a'' w' => Below w.heap.size w w' ∧ wpBlocks P ops Q r last a'' w') Q) [e] a' w) qs a

def pickSegs (ops : Array Oper) : List (List Nat × Nat) → List (List Oper × Oper)
  | [] => []
  | (qs, e) :: r => (pickOps ops qs, opAt ops e) :: pickSegs ops r
theorem seg_of_blocks (last : List Nat) : ∀ (segs : List (List Nat × Nat)) (a : Act) (w : World), segs.all (fun s => decide (s.2 < ops.size)) = true → wpBlocks P ops Q (pickSegs ops segs) (pickOps ops last) a w → wpSeg P ops Q segs last a w
  | [], a, w, _, h => h
  | (qs, e) :: r, a, w, hl, h => by
    simp only [List.all_cons, Bool.and_eq_true, decide_eq_true_eq] at hl
    have he : ops[e]? = some (opAt ops e) := by
      unfold opAt
      rw [Array.getElem?_eq_getElem hl.1]
      rfl
    unfold pickSegs wpBlocks at h
    unfold wpSeg
    refine wpQuiet_imp (fun a' h' => ?_) _ _ h
    refine wpOp_mono (fun a'' w' ⟨hb, h''⟩ => ⟨hb, seg_of_blocks last r a'' w' hl.2 h''⟩) (op_of_list he h')

/-- THE LAW. 'segs', 'last': the order (numbers of operations); the check by kernel_rfl. -/
theorem wp_region_seg {id : Nat} {a : Act} {w : World} {l : List Oper} (segs : List (List Nat × Nat)) (last : List Nat) (hm : P.follows .mixedOrders = true)
    (hc : (Region.noSelect l.toArray && (checkS l.toArray segs last (Array.replicate l.toArray.size false) && (decide (segLen segs last = l.toArray.size) && segs.all (fun s => decide (s.2 < l.toArray.size))))) = true)
    (hQ : ∀ c a d v w, Q (.panic c) (Act.put a d v) w → Q (.panic c) a w)
    (h : wpBlocks P l.toArray Q (pickSegs l.toArray segs) (pickOps l.toArray last) a w.drew) : (Code.region id l.toArray true).wp P Q a w := by
  simp only [Bool.and_eq_true, decide_eq_true_eq] at hc
  refine wp_region_any hm ?_
  have h1 := seg_any hc.1 hQ last segs _ a _ hc.2.1 (seg_of_blocks last segs a _ hc.2.2.2 h)
  rw [hc.2.2.1] at h1
  exact wpAny_of_B _ _ _ _ h1
end
end Go.Proofs.Ytnocbigcdjlliaa
