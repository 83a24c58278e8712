/-
  Texts: RegionR, FHas.
-/
import Derived.Test.YtmnmckblmoalkaaGreatB42
set_option linter.unusedVariables false
/-
  The law for a region that draws its order, with what a quiet operation may rely on said as a relation of worlds, and with late operations (stores) that wait for all that was read before. No program here.
-/
namespace Go.Proofs.YtmnmckblmoalkaaGreat
open Go.RowKit
set_option maxRecDepth 100000
set_option linter.unusedVariables false

structure LaterR (R : World → World → Prop) (w : World) where
  nxt : World
  rel : nxt = w ∨ R w nxt
instance (R : World → World → Prop) (w : World) : Nonempty (LaterR R w) := ⟨⟨w, .inl rfl⟩⟩
instance (R : World → World → Prop) (w : World) : Inhabited (LaterR R w) := ⟨⟨w, .inl rfl⟩⟩
def afterR (R : World → World → Prop) (w : World) (x : LaterR R w) : World := x.nxt
abbrev clsR (R : World → World → Prop) (w : World) : World → Prop := fun W => ∃ x : LaterR R w, W = afterR R w x
theorem clsR_iff {R : World → World → Prop} {w W : World} : clsR R w W ↔ (W = w ∨ R w W) := ⟨fun ⟨x, h⟩ => by rw [h]; exact x.rel, fun h => ⟨⟨W, h⟩, rfl⟩⟩
theorem LaterR.cell {R : World → World → Prop} {w : World} (y : LaterR R w) {a : Addr} {v : Option Value} (h0 : w.cell? a = v) (h : ∀ W, R w W → W.cell? a = v) : (afterR R w y).cell? a = v := by
  rcases y.rel with e | e
  · show y.nxt.cell? a = v
    rw [e]
    exact h0
  · exact h _ e
inductive PlanR where
  | last (qs ws : List Nat)
  | one (qs ws : List Nat) (e : Nat) (t : PlanR)
def PlanR.len : PlanR → Nat
  | .last qs ws => qs.length + ws.length
  | .one qs ws _ t => qs.length + (ws.length + (t.len + 1))
/-- what an operation with an effect keeps: R1 unless it is late, R2 always -/
structure Eff (late : List Nat) (R1 R2 : World → World → Prop) (i : Nat) (w w' : World) : Prop where
  r1 : i ∉ late → R1 w w'
  r2 : R2 w w'
def EffC (late : List Nat) (R1 R2 : World → World → Prop) (i : Nat) (w w' : World) : Prop := (i ∉ late → w' = w ∨ R1 w w') ∧ (w' = w ∨ R2 w w')
theorem Eff.c {late : List Nat} {R1 R2 : World → World → Prop} {i : Nat} {w w' : World} (h : Eff late R1 R2 i w w') : EffC late R1 R2 i w w' := ⟨fun hn => .inr (h.r1 hn), .inr h.r2⟩
theorem EffC.refl {late : List Nat} {R1 R2 : World → World → Prop} {i : Nat} {w : World} : EffC late R1 R2 i w w := ⟨fun _ => .inl rfl, .inl rfl⟩
/-- f waits for i, through others or at once -/
def reach (ops : Array Oper) : Nat → Nat → Nat → Bool
  | 0, _, _ => false
  | n + 1, f, i => match ops[f]? with
    | none => false
    | some o => o.after.any fun e => Region.binds .any e && (e.on == i || reach ops n e.on i)
/-- what is listed has all that it waits for listed -/
def Closed (ops : Array Oper) (listed : Array Bool) : Prop := ∀ k o, ops[k]? = some o → listed.getD k true = true → ∀ e ∈ o.after, Region.binds .any e = true → listed.getD e.on false = true
theorem getD_ft {l : Array Bool} {k : Nat} (h : l.getD k false = true) : l.getD k true = true := by
  rw [Array.getD_eq_getD_getElem?] at h ⊢
  cases hk : l[k]? with
  | none => rfl
  | some b => rw [hk] at h; exact h
theorem getD_tf {l : Array Bool} {k : Nat} (h : l.getD k true = false) : l.getD k false = false := by
  rw [Array.getD_eq_getD_getElem?] at h ⊢
  cases hk : l[k]? with
  | none => rfl
  | some b => rw [hk] at h; exact h
theorem getD_more {l : Array Bool} {j k : Nat} (h : l.getD k false = true) : (l.setIfInBounds j true).getD k false = true := by
  by_cases hjk : j = k
  · subst hjk
    rw [Array.getD_eq_getD_getElem?] at h ⊢
    rw [Array.getElem?_setIfInBounds]
    by_cases hj : j < l.size
    · simp [hj]
    · simp [Array.getElem?_eq_none (Nat.le_of_not_lt hj)] at h
  · rw [getD_set_ne false hjk]
    exact h
theorem reach_closed {ops : Array Oper} {listed : Array Bool} (hc : Closed ops listed) : ∀ (n f i : Nat), reach ops n f i = true → ∀ o, ops[f]? = some o → (∀ e ∈ o.after, Region.binds .any e = true → listed.getD e.on false = true) → listed.getD i false = true
  | 0, _, _, h, _, _, _ => by cases h
  | n + 1, f, i, h, o, ho, hall => by
    unfold reach at h
    rw [ho] at h
    simp only [Array.any_eq_true', Bool.and_eq_true, Bool.or_eq_true, beq_iff_eq] at h
    obtain ⟨e, he, hb, h⟩ := h
    rcases h with h | h
    · rw [← h]; exact hall e he hb
    · have h1 := hall e he hb
      cases hk : ops[e.on]? with
      | none => cases n with
        | zero => cases h
        | succ n => unfold reach at h; rw [hk] at h; cases h
      | some o' => exact reach_closed hc n e.on i h o' hk fun e' he' hb' => hc e.on o' hk (getD_ft h1) e' he' hb'
theorem Closed.more {ops : Array Oper} {listed : Array Bool} (hc : Closed ops listed) {j : Nat} {oj : Oper} (hoj : ops[j]? = some oj) (hall : ∀ e ∈ oj.after, Region.binds .any e = true → listed.getD e.on false = true) : Closed ops (listed.setIfInBounds j true) := by
  intro k o ho hk e he hb
  by_cases hjk : j = k
  · subst hjk
    rw [hoj] at ho
    injection ho with ho
    subst ho
    exact getD_more (hall e he hb)
  · rw [getD_set_ne true hjk] at hk
    exact getD_more (hc k o ho hk e he hb)
theorem Closed.start (ops : Array Oper) : Closed ops (Array.replicate ops.size false) := by
  intro k o ho hk
  have hlt : k < ops.size := (Array.getElem?_eq_some_iff.1 ho).1
  rw [Array.getD_eq_getD_getElem?, Array.getElem?_replicate, if_pos hlt] at hk
  cases hk
def lateOk (late : List Nat) (ops : Array Oper) (listed : Array Bool) (i : Nat) : Bool := late.all fun f => listed.getD f true || reach ops ops.size f i
def checkV (late : List Nat) (ops : Array Oper) : List Nat → Array Bool → Option (Array Bool)
  | [], listed => some listed
  | i :: r, listed => if plainAt ops i && (Region.ready .any ops listed).contains i && Region.free .any ops listed i && lateOk late ops listed i then checkV late ops r (listed.setIfInBounds i true) else none
section
variable {P : Program} {ops : Array Oper} {Q : Exit → Act → World → Prop} {md : Region.Mode} {R1 R2 : World → World → Prop} {late : List Nat}
def wpAnyR (late : List Nat) (R1 R2 : World → World → Prop) (P : Program) (md : Region.Mode) (ops : Array Oper) (Q : Exit → Act → World → Prop) : Nat → Array Bool → Act → World → Prop
  | 0, listed, a, w => Region.ready md ops listed = [] ∧ Q .normal a w
  | fuel + 1, listed, a, w =>
    (Region.ready md ops listed = [] → Q .normal a w) ∧
    ∀ i ∈ Region.ready md ops listed, wpOp P ops Q i (fun a' w' => EffC late R1 R2 i w w' ∧ wpAnyR late R1 R2 P md ops Q fuel (listed.setIfInBounds i true) a' w') a w

theorem wpAny_of_R : ∀ (fuel : Nat) (listed : Array Bool) (a : Act) (w : World), wpAnyR late R1 R2 P md ops Q fuel listed a w → wpAny P md ops Q fuel listed a w
  | 0, _, _, _, h => h
  | fuel + 1, _, _, _, h => ⟨h.1, fun i hi => wpOp_mono (fun a' w' h' => wpAny_of_R fuel _ a' w' h'.2) (h.2 i hi)⟩

/-- a quiet operation may come first -/
theorem wpAnyR_first {R : World → World → Prop} (hR : ∀ a b c, R a b → R b c → R a c) (ok : Nat → Prop) (hok : ∀ j w w', ok j → EffC late R1 R2 j w w' → w' = w ∨ R w w')
    {i : Nat} {oi : Oper} {v : Value} (hi : ops[i]? = some oi) (hsel : ∀ (j : Nat) (o : Oper) cs b, ops[j]? = some o → o.op ≠ .select cs b)
    (hQ : ∀ c a w, Q (.panic c) (a.put oi.dst v) w → Q (.panic c) a w) :
    ∀ (fuel : Nat) (listed : Array Bool) (a : Act) (w : World), Closed ops listed →
      (∀ f, ¬ ok f → listed.getD f true = false → reach ops ops.size f i = true) →
      (∀ j oj, ops[j]? = some oj → j ≠ i → listed.getD j true = false → (∀ e ∈ oj.after, Region.binds .any e = true → e.on ≠ i) → oi.apart ops oj = true) →
      i ∈ Region.ready .any ops listed → YieldsIf P ops (fun W => W = w ∨ R w W) oi v a →
      wpAnyR late R1 R2 P .any ops Q fuel (listed.setIfInBounds i true) (a.put oi.dst v) w → wpAnyR late R1 R2 P .any ops Q (fuel + 1) listed a w := by
  intro fuel
  induction fuel with
  | zero =>
    intro listed a w _ _ _ hr hy H
    refine ⟨fun h => (by rw [h] at hr; cases hr), fun j hj => ?_⟩
    by_cases hji : j = i
    · subst hji; exact hy.wpOp hi (.inl rfl) ⟨EffC.refl, H⟩
    · have := ready_mono hj hji
      rw [H.1] at this
      cases this
  | succ fuel ih =>
    intro listed a w hcl hfin hfree hr hy H
    refine ⟨fun h => (by rw [h] at hr; cases hr), fun j hj => ?_⟩
    by_cases hji : j = i
    · subst hji; exact hy.wpOp hi (.inl rfl) ⟨EffC.refl, H⟩
    · have h1 := H.2 j (ready_mono hj hji)
      obtain ⟨hjun, oj, hoj, hall⟩ := mem_ready.1 hj
      have h0 := (mem_ready.1 hr).1
      have hnot : ∀ e ∈ oj.after, Region.binds .any e = true → e.on ≠ i := fun e he hb heq => by
        have h1 := hall e he hb
        rw [heq, getD_tf h0] at h1
        cases h1
      have h2 := wpOp_putIf hoj (hfree j oj hoj hji hjun hnot) (fun cs b => hsel i oi cs b hi) (fun cs b => hsel j oj cs b hoj) hQ hy h1
      have hun' : ∀ k, (listed.setIfInBounds j true).getD k true = false → listed.getD k true = false := fun k hun => by
        by_cases hjk : j = k
        · subst hjk; exact hjun
        · rw [getD_set_ne true hjk] at hun; exact hun
      have hfree' : ∀ k ok, ops[k]? = some ok → k ≠ i → (listed.setIfInBounds j true).getD k true = false →
          (∀ e ∈ ok.after, Region.binds .any e = true → e.on ≠ i) → oi.apart ops ok = true := fun k ok hk hki hun hno => hfree k ok hk hki (hun' k hun) hno
      refine wpOp_mono (fun a' w' h3 => ⟨h3.2.1, ih (listed.setIfInBounds j true) a' w' (hcl.more hoj hall) (fun f hf hu => hfin f hf (hun' f hu)) hfree' (ready_mono hr (Ne.symm hji)) (YieldsIf.shrink (fun W hW => ?_) h3.1) ?_⟩) h2
      · by_cases hj1 : ok j
        · rcases hok j w w' hj1 h3.2.1 with e | e
          · rw [e] at hW; exact hW
          · rcases hW with hW | hW
            · rw [hW]; exact .inr e
            · exact .inr (hR _ _ _ e hW)
        · exfalso
          have h4 := reach_closed hcl ops.size j i (hfin j hj1 hjun) oj hoj hall
          rw [getD_tf h0] at h4
          cases h4
      · rw [Array.setIfInBounds_comm _ _ hji]
        exact h3.2.2

theorem quiet_blockR {R : World → World → Prop} (hR : ∀ a b c, R a b → R b c → R a c) (lt : List Nat) (hok : ∀ j w w', j ∉ lt → EffC late R1 R2 j w w' → w' = w ∨ R w w')
    (hns : Region.noSelect ops = true) (hQ : ∀ c a d v w, Q (.panic c) (Act.put a d v) w → Q (.panic c) a w) {K : Act → Prop} {w : World} {fuel : Nat} {l' : Array Bool}
    (hK : ∀ a, Closed ops l' → K a → wpAnyR late R1 R2 P .any ops Q fuel l' a w) :
    ∀ (qs : List Nat) (listed : Array Bool) (a : Act), Closed ops listed → checkV lt ops qs listed = some l' → wpQuiet P ops (clsR R w) K (pickOps ops qs) a → wpAnyR late R1 R2 P .any ops Q (qs.length + fuel) listed a w
  | [], listed, a, hcl, hc, h => by
    simp only [checkV, Option.some.injEq] at hc
    subst hc
    simp only [List.length_nil, Nat.zero_add]
    exact hK a hcl h
  | i :: r, listed, a, hcl, hc, h => by
    unfold checkV at hc
    split at hc
    · rename_i hcond
      simp only [Bool.and_eq_true] at hcond
      obtain ⟨⟨⟨hp, hr⟩, hf⟩, hd⟩ := hcond
      have hrd : i ∈ Region.ready .any ops listed := by simpa using hr
      have hfin : ∀ f, ¬ f ∉ lt → listed.getD f true = false → reach ops ops.size f i = true := fun f hl hu => by
        have h1 := List.all_eq_true.1 hd f (Decidable.of_not_not hl)
        rw [hu, Bool.false_or] at h1
        exact h1
      cases hi : ops[i]? with
      | none => simp [plainAt, hi] at hp
      | some o =>
        simp only [plainAt, hi] at hp
        have hpick : pickOps ops (i :: r) = o :: pickOps ops r := by simp [pickOps, opAt, hi]
        rw [hpick] at h
        unfold wpQuiet at h
        have hlen : (i :: r).length + fuel = (r.length + fuel) + 1 := by simp; omega
        have hcl' : Closed ops (listed.setIfInBounds i true) := by
          obtain ⟨_, oj, hoj, hall⟩ := mem_ready.1 hrd
          exact hcl.more hoj hall
        rw [hlen]
        by_cases hw : Region.wanted o (yielded ops a.tmps) = true
        · rw [if_pos hw] at h
          obtain ⟨v, h1, h2⟩ := h
          refine wpAnyR_first hR (fun j => j ∉ lt) hok hi (Region.noSelect_spec hns) (fun c a w => hQ c a _ _ w) _ listed a w hcl hfin (Region.free_spec hi hf) hrd (v := v) (.inl ⟨hw, fun W hW => ?_⟩) (quiet_blockR hR lt hok hns hQ hK r _ _ hcl' hc h2)
          have h3 := h1 W (clsR_iff.2 hW)
          have hg := gives_plain o hp a.eval P W
          unfold Oper.quietAt at h3
          generalize (execOp a.eval o).run P W = res at *
          cases res with
          | ok n w' =>
            cases n <;> simp only [Oper.quietUpon] at h3 <;> simp only [gives] at hg
            obtain ⟨e1, e2⟩ := h3
            rw [e1, e2]
          | halt x w' => simp only [Oper.quietUpon] at h3
        · rw [if_neg hw] at h
          exact wpAnyR_first hR (fun j => j ∉ lt) hok hi (Region.noSelect_spec hns) (fun c a w => hQ c a _ _ w) _ listed a w hcl hfin (Region.free_spec hi hf) hrd (v := undef) (.inr ⟨by simpa using hw, rfl⟩) (quiet_blockR hR lt hok hns hQ hK r _ _ hcl' hc h)
    · cases hc

def checkW (late : List Nat) (ops : Array Oper) : PlanR → Array Bool → Bool
  | .last qs ws, listed => match checkV late ops qs listed with
    | some l => match checkV [] ops ws l with
      | some l => (Region.ready .any ops l).isEmpty
      | none => false
    | none => false
  | .one qs ws e t, listed => match checkV late ops qs listed with
    | some l => match checkV [] ops ws l with
      | some l => (Region.ready .any ops l == [e]) && (decide (e < ops.size) && checkW late ops t (l.setIfInBounds e true))
      | none => false
    | none => false
/-- the orders of a plan -/
def wpPlanR (late : List Nat) (R1 R2 : World → World → Prop) (P : Program) (ops : Array Oper) (Q : Exit → Act → World → Prop) : PlanR → Act → World → Prop
  | .last qs ws, a, w => wpQuiet P ops (fun W => ∃ x : LaterR R1 w, W = afterR R1 w x) (fun a' => wpQuiet P ops (fun W => ∃ x : LaterR R2 w, W = afterR R2 w x) (fun a' => Q .normal a' w) (pickOps ops ws) a') (pickOps ops qs) a
  | .one qs ws e t, a, w => wpQuiet P ops (fun W => ∃ x : LaterR R1 w, W = afterR R1 w x) (fun a' => wpQuiet P ops (fun W => ∃ x : LaterR R2 w, W = afterR R2 w x) (fun a' => wpList P ops (Exit.then (fun a'' w' => Eff late R1 R2 e w w' ∧ wpPlanR late R1 R2 P ops Q t a'' w') Q) [opAt ops e] a' w) (pickOps ops ws) a') (pickOps ops qs) a
theorem plan_anyR (hR1 : ∀ a b c, R1 a b → R1 b c → R1 a c) (hR2 : ∀ a b c, R2 a b → R2 b c → R2 a c) (hns : Region.noSelect ops = true) (hQ : ∀ c a d v w, Q (.panic c) (Act.put a d v) w → Q (.panic c) a w) :
    ∀ (t : PlanR) (listed : Array Bool) (a : Act) (w : World), Closed ops listed → checkW late ops t listed = true → wpPlanR late R1 R2 P ops Q t a w → wpAnyR late R1 R2 P .any ops Q t.len listed a w
  | .last qs ws, listed, a, w, hcl, hc, h => by
    unfold checkW at hc
    split at hc
    · rename_i l hl
      split at hc
      · rename_i l2 hl2
        refine quiet_blockR hR1 late (fun j w w' hj he => he.1 hj) hns hQ (fuel := ws.length) (fun a' hcl' h' => ?_) qs listed a hcl hl h
        exact quiet_blockR hR2 [] (fun j w w' _ he => he.2) hns hQ (fuel := 0) (fun a' _ h' => ⟨by simpa using hc, h'⟩) ws l a' hcl' hl2 h'
      · cases hc
    · cases hc
  | .one qs ws e t, listed, a, w, hcl, hc, h => by
    unfold checkW at hc
    split at hc
    · rename_i l hl
      split at hc
      · rename_i l2 hl2
        simp only [Bool.and_eq_true, beq_iff_eq, decide_eq_true_eq] at hc
        refine quiet_blockR hR1 late (fun j w w' hj he => he.1 hj) hns hQ (fuel := ws.length + (t.len + 1)) (fun a' hcl' h' => ?_) qs listed a hcl hl h
        refine quiet_blockR hR2 [] (fun j w w' _ he => he.2) hns hQ (fuel := t.len + 1) (fun a' hcl' h' => ?_) ws l a' hcl' hl2 h'
        refine ⟨fun h0 => (by rw [hc.1] at h0; cases h0), fun i hi => ?_⟩
        have hrd := hi
        rw [hc.1] at hi
        have hie : i = e := by simpa using hi
        subst hie
        obtain ⟨_, oj, hoj, hall⟩ := mem_ready.1 hrd
        exact wpOp_mono (fun a'' w' ⟨hb, h''⟩ => ⟨hb.c, plan_anyR hR1 hR2 hns hQ t _ a'' w' (hcl'.more hoj hall) hc.2.2 h''⟩) (op_of_list (at_of_lt hc.2.1) h')
      · cases hc
    · cases hc
/-- THE LAW -/
theorem wp_region_planR {id : Nat} {a : Act} {w : World} {l : List Oper} (late : List Nat) (R1 R2 : World → World → Prop) (hR1 : ∀ a b c, R1 a b → R1 b c → R1 a c) (hR2 : ∀ a b c, R2 a b → R2 b c → R2 a c) (t : PlanR) (hm : P.follows .mixedOrders = true)
    (hc : (Region.noSelect l.toArray && (checkW late l.toArray t (Array.replicate l.toArray.size false) && decide (t.len = l.toArray.size))) = true)
    (hQ : ∀ c a d v w, Q (.panic c) (Act.put a d v) w → Q (.panic c) a w)
    (h : wpPlanR late R1 R2 P l.toArray Q t a w.drew) : (Code.region id l.toArray true).wp P Q a w := by
  simp only [Bool.and_eq_true, decide_eq_true_eq] at hc
  refine wp_region_any hm ?_
  have h1 := plan_anyR hR1 hR2 hc.1 hQ t _ a _ (Closed.start _) hc.2.1 h
  rw [hc.2.2] at h1
  exact wpAny_of_R _ _ _ _ h1
/-- no bound at all -/
def anyW (_ _ : World) : Prop := True
theorem anyW_trans : ∀ a b c, anyW a b → anyW b c → anyW a c := fun _ _ _ _ _ => trivial
end
end Go.Proofs.YtmnmckblmoalkaaGreat

/-
  The reference's In and Has of regions: they say what the program's Has says.
-/
namespace Go.Proofs.YtmnmckblmoalkaaGreat
open Go.RowKit
set_option maxRecDepth 100000
open Rg

theorem fits_valid {d : Nat} {r : Rg} (h : FormF (d + 1) r) {p : List Iv × Rg} (hp : p ∈ r.parts) : validL p.1 = true ∧ p.1.length ≤ 64 ∧ FormF d p.2 := by
  obtain ⟨h1, h2⟩ := h
  obtain ⟨h3, h4, h5, _⟩ := h1.2.2.1 p hp
  have h6 := fits_mem h2 hp
  refine ⟨?_, h6.1, h5, h6.2⟩
  unfold validL
  simp [h4, h6.1]
end Go.Proofs.YtmnmckblmoalkaaGreat
