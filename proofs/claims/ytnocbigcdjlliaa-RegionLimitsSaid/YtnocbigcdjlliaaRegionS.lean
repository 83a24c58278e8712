/-
  The same law for a region in which some blocks S are written (an append onto a row of the call's own).
-/
import Derived.Test.YtnocbigcdjlliaaBut
namespace Go.Proofs.Ytnocbigcdjlliaa
open Go.RowKit
set_option linter.unusedVariables false

/-- all worlds in which nothing but the blocks of S has changed -/
structure LaterS (S : Nat → Prop) (w : World) where
  to : World
  but : But S w to
instance (S : Nat → Prop) (w : World) : Nonempty (LaterS S w) := ⟨⟨w, But.refl _ _⟩⟩
instance (S : Nat → Prop) (w : World) : Inhabited (LaterS S w) := ⟨⟨w, But.refl _ _⟩⟩
def afterS (S : Nat → Prop) (w : World) (x : LaterS S w) : World := x.to
theorem cell_afterS {S : Nat → Prop} {w : World} (x : LaterS S w) (a : Addr) (h : (w.cell? a).isSome = true) (hs : ¬ S a.block) : (afterS S w x).cell? a = w.cell? a :=
  World.cell?_of_block (w := w) (x.but.block a.block (cell_lt h) hs)
abbrev clsS (S : Nat → Prop) (w : World) : World → Prop := fun W => ∃ x : LaterS S w, W = afterS S w x
theorem clsS_iff {S : Nat → Prop} {w W : World} : clsS S w W ↔ But S w W := ⟨fun ⟨x, h⟩ => by rw [h]; exact x.but, fun h => ⟨⟨W, h⟩, rfl⟩⟩

section
variable {P : Program} {ops : Array Oper} {Q : Exit → Act → World → Prop} {md : Region.Mode} {S : Nat → Prop}

def wpAnyT (S : Nat → Prop) (P : Program) (md : Region.Mode) (ops : Array Oper) (Q : Exit → Act → World → Prop) : Nat → Array Bool → Act → World → Prop
  | 0, listed, a, w => Region.ready md ops listed = [] ∧ Q .normal a w
  | fuel + 1, listed, a, w =>
    (Region.ready md ops listed = [] → Q .normal a w) ∧
    ∀ i ∈ Region.ready md ops listed, wpOp P ops Q i (fun a' w' => But S w w' ∧ wpAnyT S P md ops Q fuel (listed.setIfInBounds i true) a' w') a w

theorem wpAny_of_T : ∀ (fuel : Nat) (listed : Array Bool) (a : Act) (w : World), wpAnyT S P md ops Q fuel listed a w → wpAny P md ops Q fuel listed a w
  | 0, _, _, _, h => h
  | fuel + 1, _, _, _, h => ⟨h.1, fun i hi => wpOp_mono (fun a' w' h' => wpAny_of_T fuel _ a' w' h'.2) (h.2 i hi)⟩

theorem wpAnyT_first {i : Nat} {oi : Oper} {v : Value} (hi : ops[i]? = some oi) (hsel : ∀ (j : Nat) (o : Oper) cs b, ops[j]? = some o → o.op ≠ .select cs b)
    (hQ : ∀ c a w, Q (.panic c) (a.put oi.dst v) w → Q (.panic c) a w) :
    ∀ (fuel : Nat) (listed : Array Bool) (a : Act) (w : World),
      (∀ j oj, ops[j]? = some oj → j ≠ i → listed.getD j true = false → (∀ e ∈ oj.after, Region.binds md e = true → e.on ≠ i) → oi.apart ops oj = true) →
      i ∈ Region.ready md ops listed → YieldsIf P ops (fun W => But S w W) oi v a →
      wpAnyT S P md ops Q fuel (listed.setIfInBounds i true) (a.put oi.dst v) w → wpAnyT S P md ops Q (fuel + 1) listed a w := by
  intro fuel
  induction fuel with
  | zero =>
    intro listed a w _ hr hy H
    refine ⟨fun h => (by rw [h] at hr; cases hr), fun j hj => ?_⟩
    by_cases hji : j = i
    · subst hji; exact hy.wpOp hi (But.refl _ _) ⟨But.refl _ _, H⟩
    · have := ready_mono hj hji
      rw [H.1] at this
      cases this
  | succ fuel ih =>
    intro listed a w hfree hr hy H
    refine ⟨fun h => (by rw [h] at hr; cases hr), fun j hj => ?_⟩
    by_cases hji : j = i
    · subst hji; exact hy.wpOp hi (But.refl _ _) ⟨But.refl _ _, H⟩
    · have h1 := H.2 j (ready_mono hj hji)
      obtain ⟨hjun, oj, hoj, hall⟩ := mem_ready.1 hj
      have hnot : ∀ e ∈ oj.after, Region.binds md e = true → e.on ≠ i := fun e he hb heq => by
        have h1 := hall e he hb
        have h0 := (mem_ready.1 hr).1
        rw [heq] at h1
        rcases Nat.lt_or_ge i listed.size with h' | h'
        · simp [h'] at h0 h1; rw [h0] at h1; cases h1
        · simp [Array.getElem?_eq_none h'] at h1
      have h2 := wpOp_putIf hoj (hfree j oj hoj hji hjun hnot) (fun cs b => hsel i oi cs b hi) (fun cs b => hsel j oj cs b hoj) hQ hy h1
      have hfree' : ∀ k ok, ops[k]? = some ok → k ≠ i → (listed.setIfInBounds j true).getD k true = false →
          (∀ e ∈ ok.after, Region.binds md e = true → e.on ≠ i) → oi.apart ops ok = true := fun k ok hk hki hun hno => by
        refine hfree k ok hk hki ?_ hno
        by_cases hjk : j = k
        · subst hjk; exact hjun
        · rw [getD_set_ne true hjk] at hun; exact hun
      refine wpOp_mono (fun a' w' h3 => ⟨h3.2.1, ih (listed.setIfInBounds j true) a' w' hfree' (ready_mono hr (Ne.symm hji)) (YieldsIf.shrink (fun W hW => But.trans h3.2.1 hW) h3.1) ?_⟩) h2
      rw [Array.setIfInBounds_comm _ _ hji]
      exact h3.2.2

/-- blocks of operations that only read, each ended by one with an effect; the last block has none -/
def wpSegS (S : Nat → Prop) (P : Program) (ops : Array Oper) (Q : Exit → Act → World → Prop) : List (List Nat × Nat) → List Nat → Act → World → Prop
  | [], last, a, w => wpQuiet P ops (clsS S w) (fun a' => Q .normal a' w) (pickOps ops last) a
  | (qs, e) :: r, last, a, w => wpQuiet P ops (clsS S w) (fun a' => wpOp P ops Q e (fun a'' w' => But S w w' ∧ wpSegS S P ops Q r last a'' w') a' w) (pickOps ops qs) a

theorem quiet_blockS (hns : Region.noSelect ops = true) (hQ : ∀ c a d v w, Q (.panic c) (Act.put a d v) w → Q (.panic c) a w) {K : Act → Prop} {w : World} {fuel : Nat} {l' : Array Bool}
    (hK : ∀ a, K a → wpAnyT S P .any ops Q fuel l' a w) :
    ∀ (qs : List Nat) (listed : Array Bool) (a : Act), checkQ ops qs listed = some l' → wpQuiet P ops (clsS S w) K (pickOps ops qs) a → wpAnyT S P .any ops Q (qs.length + fuel) listed a w
  | [], listed, a, hc, h => by
    simp only [checkQ, Option.some.injEq] at hc
    subst hc
    simp only [List.length_nil, Nat.zero_add]
    exact hK a h
  | i :: r, listed, a, hc, h => by
    unfold checkQ at hc
    split at hc
    · rename_i hcond
      simp only [Bool.and_eq_true] at hcond
      obtain ⟨⟨hp, hr⟩, hf⟩ := hcond
      cases hi : ops[i]? with
      | none => simp [plainAt, hi] at hp
      | some o =>
        simp only [plainAt, hi] at hp
        have hpick : pickOps ops (i :: r) = o :: pickOps ops r := by simp [pickOps, opAt, hi]
        rw [hpick] at h
        unfold wpQuiet at h
        have hlen : (i :: r).length + fuel = (r.length + fuel) + 1 := by simp; omega
        rw [hlen]
        by_cases hw : Region.wanted o (yielded ops a.tmps) = true
        · rw [if_pos hw] at h
          obtain ⟨v, h1, h2⟩ := h
          refine wpAnyT_first hi (Region.noSelect_spec hns) (fun c a w => hQ c a _ _ w) _ listed a w (Region.free_spec hi hf) (by simpa using hr) (v := v) (.inl ⟨hw, fun W hW => ?_⟩) (quiet_blockS hns hQ hK r _ _ hc h2)
          have h3 := h1 W (clsS_iff.2 hW)
          have hg := gives_plain o hp a.eval P W
          unfold Oper.quietAt at h3
          generalize (execOp a.eval o).run P W = res at *
          cases res with
          | ok n w' =>
            cases n <;> simp only [Oper.quietUpon] at h3 <;> simp only [gives] at hg
            obtain ⟨e1, e2⟩ := h3
            rw [e1, e2]
          | halt x w' => simp only [Oper.quietUpon] at h3
        · rw [if_neg hw] at h
          exact wpAnyT_first hi (Region.noSelect_spec hns) (fun c a w => hQ c a _ _ w) _ listed a w (Region.free_spec hi hf) (by simpa using hr) (v := undef) (.inr ⟨by simpa using hw, rfl⟩) (quiet_blockS hns hQ hK r _ _ hc h)
    · cases hc

theorem seg_anyS (hns : Region.noSelect ops = true) (hQ : ∀ c a d v w, Q (.panic c) (Act.put a d v) w → Q (.panic c) a w) (last : List Nat) :
    ∀ (segs : List (List Nat × Nat)) (listed : Array Bool) (a : Act) (w : World), checkS ops segs last listed = true → wpSegS S P ops Q segs last a w → wpAnyT S P .any ops Q (segLen segs last) listed a w
  | [], listed, a, w, hc, h => by
    unfold checkS at hc
    split at hc
    · rename_i l hl
      exact quiet_blockS hns hQ (fuel := 0) (fun a' h' => ⟨by simpa using hc, h'⟩) last listed a hl h
    · cases hc
  | (qs, e) :: r, listed, a, w, hc, h => by
    unfold checkS at hc
    split at hc
    · rename_i l hl
      simp only [Bool.and_eq_true, beq_iff_eq] at hc
      refine quiet_blockS hns hQ (fuel := segLen r last + 1) (fun a' h' => ?_) qs listed a hl h
      refine ⟨fun h0 => (by rw [hc.1] at h0; cases h0), fun i hi => ?_⟩
      rw [hc.1] at hi
      have hie : i = e := by simpa using hi
      subst hie
      exact wpOp_mono (fun a'' w' ⟨hb, h''⟩ => ⟨hb, seg_anyS hns hQ last r _ a'' w' hc.2 h''⟩) h'
    · cases hc

/-- the blocks, the operations themselves -/
def wpBlocksS (S : Nat → Prop) (P : Program) (ops : Array Oper) (Q : Exit → Act → World → Prop) : List (List Oper × Oper) → List Oper → Act → World → Prop
  | [], last, a, w => wpQuiet P ops (fun W => ∃ x : LaterS S w, W = afterS S w x) (fun a' => Q .normal a' w) last a
  | (qs, e) :: r, last, a, w => wpQuiet P ops (fun W => ∃ x : LaterS S w, W = afterS S w x) (fun a' => wpList P ops (Exit.then (fun a'' w' => But S w w' ∧ wpBlocksS S P ops Q r last a'' w') Q) [e] a' w) qs a

theorem seg_of_blocksS (last : List Nat) : ∀ (segs : List (List Nat × Nat)) (a : Act) (w : World), segs.all (fun s => decide (s.2 < ops.size)) = true → wpBlocksS S P ops Q (pickSegs ops segs) (pickOps ops last) a w → wpSegS S P ops Q segs last a w
  | [], a, w, _, h => h
  | (qs, e) :: r, a, w, hl, h => by
    simp only [List.all_cons, Bool.and_eq_true, decide_eq_true_eq] at hl
    have he : ops[e]? = some (opAt ops e) := by
      unfold opAt
      rw [Array.getElem?_eq_getElem hl.1]
      rfl
    unfold pickSegs wpBlocksS at h
    unfold wpSegS
    refine wpQuiet_imp (fun a' h' => ?_) _ _ h
    refine wpOp_mono (fun a'' w' ⟨hb, h''⟩ => ⟨hb, seg_of_blocksS last r a'' w' hl.2 h''⟩) (op_of_list he h')

/-- THE LAW. 'segs', 'last': the order (numbers of operations); the check by kernel_rfl. -/
theorem wp_region_segS {id : Nat} {a : Act} {w : World} {l : List Oper} (S : Nat → Prop) (segs : List (List Nat × Nat)) (last : List Nat) (hm : P.follows .mixedOrders = true)
    (hc : (Region.noSelect l.toArray && (checkS l.toArray segs last (Array.replicate l.toArray.size false) && (decide (segLen segs last = l.toArray.size) && segs.all (fun s => decide (s.2 < l.toArray.size))))) = true)
    (hQ : ∀ c a d v w, Q (.panic c) (Act.put a d v) w → Q (.panic c) a w)
    (h : wpBlocksS S P l.toArray Q (pickSegs l.toArray segs) (pickOps l.toArray last) a w.drew) : (Code.region id l.toArray true).wp P Q a w := by
  simp only [Bool.and_eq_true, decide_eq_true_eq] at hc
  refine wp_region_any hm ?_
  have h1 := seg_anyS hc.1 hQ last segs _ a _ hc.2.1 (seg_of_blocksS last segs a _ hc.2.2.2 h)
  rw [hc.2.2.1] at h1
  exact wpAny_of_T _ _ _ _ h1
end
end Go.Proofs.Ytnocbigcdjlliaa
