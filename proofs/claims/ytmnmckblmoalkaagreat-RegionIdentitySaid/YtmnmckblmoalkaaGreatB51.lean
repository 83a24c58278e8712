/-
  Texts: RegionB, TwoApp, ListAt.
-/
import Derived.Test.YtmnmckblmoalkaaGreatB45
set_option linter.unusedVariables false
/-
  The law for a region that draws its order, where two operations with an effect may come in either order: a plan that parts. No program here.
-/
namespace Go.Proofs.YtmnmckblmoalkaaGreat
open Go.RowKit
set_option maxRecDepth 100000
set_option linter.unusedVariables false

inductive PlanB where
  | last (qs : List Nat)
  | one (qs : List Nat) (e : Nat) (t : PlanB)
  | two (qs : List Nat) (e : Nat) (t : PlanB) (f : Nat) (s : PlanB)
def PlanB.len : PlanB → Nat
  | .last qs => qs.length
  | .one qs _ t => qs.length + (t.len + 1)
  | .two qs _ t _ _ => qs.length + (t.len + 1)
section
variable {P : Program} {ops : Array Oper} {Q : Exit → Act → World → Prop} {R : World → World → Prop}
def checkB (ops : Array Oper) : PlanB → Array Bool → Bool
  | .last qs, listed => match checkV [] ops qs listed with
    | some l => (Region.ready .any ops l).isEmpty
    | none => false
  | .one qs e t, listed => match checkV [] ops qs listed with
    | some l => (Region.ready .any ops l == [e]) && (decide (e < ops.size) && checkB ops t (l.setIfInBounds e true))
    | none => false
  | .two qs e t f s, listed => match checkV [] ops qs listed with
    | some l => (Region.ready .any ops l == [e, f]) && (decide (e < ops.size) && (decide (f < ops.size) && (decide (t.len = s.len) && (checkB ops t (l.setIfInBounds e true) && checkB ops s (l.setIfInBounds f true)))))
    | none => false
/-- the orders of a plan that parts -/
def wpPlanB (R : World → World → Prop) (P : Program) (ops : Array Oper) (Q : Exit → Act → World → Prop) : PlanB → Act → World → Prop
  | .last qs, a, w => wpQuiet P ops (fun W => ∃ x : LaterR R w, W = afterR R w x) (fun a' => Q .normal a' w) (pickOps ops qs) a
  | .one qs e t, a, w => wpQuiet P ops (fun W => ∃ x : LaterR R w, W = afterR R w x) (fun a' => wpList P ops (Exit.then (fun a'' w' => R w w' ∧ wpPlanB R P ops Q t a'' w') Q) [opAt ops e] a' w) (pickOps ops qs) a
  | .two qs e t f s, a, w => wpQuiet P ops (fun W => ∃ x : LaterR R w, W = afterR R w x) (fun a' =>
      wpList P ops (Exit.then (fun a'' w' => R w w' ∧ wpPlanB R P ops Q t a'' w') Q) [opAt ops e] a' w ∧
      wpList P ops (Exit.then (fun a'' w' => R w w' ∧ wpPlanB R P ops Q s a'' w') Q) [opAt ops f] a' w) (pickOps ops qs) a
theorem plan_anyB (hR : ∀ a b c, R a b → R b c → R a c) (hns : Region.noSelect ops = true) (hQ : ∀ c a d v w, Q (.panic c) (Act.put a d v) w → Q (.panic c) a w) :
    ∀ (t : PlanB) (listed : Array Bool) (a : Act) (w : World), Closed ops listed → checkB ops t listed = true → wpPlanB R P ops Q t a w → wpAnyR [] R R P .any ops Q t.len listed a w
  | .last qs, listed, a, w, hcl, hc, h => by
    unfold checkB at hc
    split at hc
    · rename_i l hl
      exact quiet_blockR hR [] (fun j w w' _ he => he.2) hns hQ (fuel := 0) (fun a' _ h' => ⟨by simpa using hc, h'⟩) qs listed a hcl hl h
    · cases hc
  | .one qs e t, listed, a, w, hcl, hc, h => by
    unfold checkB at hc
    split at hc
    · rename_i l hl
      simp only [Bool.and_eq_true, beq_iff_eq, decide_eq_true_eq] at hc
      refine quiet_blockR hR [] (fun j w w' _ he => he.2) hns hQ (fuel := t.len + 1) (fun a' hcl' h' => ?_) qs listed a hcl hl h
      refine ⟨fun h0 => (by rw [hc.1] at h0; cases h0), fun i hi => ?_⟩
      have hrd := hi
      rw [hc.1] at hi
      have hie : i = e := by simpa using hi
      subst hie
      obtain ⟨_, oj, hoj, hall⟩ := mem_ready.1 hrd
      exact wpOp_mono (fun a'' w' ⟨hb, h''⟩ => ⟨⟨fun _ => .inr hb, .inr hb⟩, plan_anyB hR hns hQ t _ a'' w' (hcl'.more hoj hall) hc.2.2 h''⟩) (op_of_list (at_of_lt hc.2.1) h')
    · cases hc
  | .two qs e t f s, listed, a, w, hcl, hc, h => by
    unfold checkB at hc
    split at hc
    · rename_i l hl
      simp only [Bool.and_eq_true, beq_iff_eq, decide_eq_true_eq] at hc
      obtain ⟨hr, he, hf, hlen, ht, hs⟩ := hc
      refine quiet_blockR hR [] (fun j w w' _ he => he.2) hns hQ (fuel := t.len + 1) (fun a' hcl' h' => ?_) qs listed a hcl hl h
      refine ⟨fun h0 => (by rw [hr] at h0; cases h0), fun i hi => ?_⟩
      have hrd := hi
      rw [hr] at hi
      obtain ⟨_, oj, hoj, hall⟩ := mem_ready.1 hrd
      have hie : i = e ∨ i = f := by simpa using hi
      rcases hie with rfl | rfl
      · exact wpOp_mono (fun a'' w' ⟨hb, h''⟩ => ⟨⟨fun _ => .inr hb, .inr hb⟩, plan_anyB hR hns hQ t _ a'' w' (hcl'.more hoj hall) ht h''⟩) (op_of_list (at_of_lt he) h'.1)
      · rw [hlen]
        exact wpOp_mono (fun a'' w' ⟨hb, h''⟩ => ⟨⟨fun _ => .inr hb, .inr hb⟩, plan_anyB hR hns hQ s _ a'' w' (hcl'.more hoj hall) hs h''⟩) (op_of_list (at_of_lt hf) h'.2)
    · cases hc
/-- THE LAW -/
theorem wp_region_planB {id : Nat} {a : Act} {w : World} {l : List Oper} (R : World → World → Prop) (hR : ∀ a b c, R a b → R b c → R a c) (t : PlanB) (hm : P.follows .mixedOrders = true)
    (hc : (Region.noSelect l.toArray && (checkB l.toArray t (Array.replicate l.toArray.size false) && decide (t.len = l.toArray.size))) = true)
    (hQ : ∀ c a d v w, Q (.panic c) (Act.put a d v) w → Q (.panic c) a w)
    (h : wpPlanB R P l.toArray Q t a w.drew) : (Code.region id l.toArray true).wp P Q a w := by
  simp only [Bool.and_eq_true, decide_eq_true_eq] at hc
  refine wp_region_any hm ?_
  have h1 := plan_anyB hR hc.1 hQ t _ a _ (Closed.start _) hc.2.1 h
  rw [hc.2.2] at h1
  exact wpAny_of_R _ _ _ _ h1
end
end Go.Proofs.YtmnmckblmoalkaaGreat

/-
  Two rows of numbers that grow in one statement, in whatever order. No program here.
-/
namespace Go.Proofs.YtmnmckblmoalkaaGreat
open Go.RowKit
set_option maxRecDepth 100000
set_option linter.unusedVariables false

/-- two rows of the call's own, and what is to be appended to them, where it lies already -/
structure Pr (H : Nat) (w0 w : World) (v1 : Value) (n1 : Nat) (xs1 : List Value) (v2 : Value) (n2 : Nat) (xs2 : List Value) (l1 l2 : Option (Nat × Value)) : Prop where
  o1 : w.ownsRow H 3 1 v1 n1 xs1
  o2 : w.ownsRow H 3 1 v2 n2 xs2
  ne : ∀ b, v1.ownBlock = some b → v2.ownBlock ≠ some b
  b1 : ∀ q, l1 = some q → Blk w q.1 3 #[q.2] ∧ v1.ownBlock ≠ some q.1 ∧ v2.ownBlock ≠ some q.1
  b2 : ∀ q, l2 = some q → Blk w q.1 3 #[q.2] ∧ v1.ownBlock ≠ some q.1 ∧ v2.ownBlock ≠ some q.1
  be : Below H w0 w
section
variable {H : Nat} {w0 w : World} {v1 : Value} {n1 : Nat} {xs1 : List Value} {v2 : Value} {n2 : Nat} {xs2 : List Value} {l1 l2 : Option (Nat × Value)}
theorem Pr.swap (h : Pr H w0 w v1 n1 xs1 v2 n2 xs2 l1 l2) : Pr H w0 w v2 n2 xs2 v1 n1 xs1 l2 l1 :=
  ⟨h.o2, h.o1, fun b h2 h1 => h.ne b h1 h2, fun q e => ⟨(h.b2 q e).1, (h.b2 q e).2.2, (h.b2 q e).2.1⟩, fun q e => ⟨(h.b1 q e).1, (h.b1 q e).2.2, (h.b1 q e).2.1⟩, h.be⟩
theorem Pr.drew (h : Pr H w0 w v1 n1 xs1 v2 n2 xs2 l1 l2) : Pr H w0 w.drew v1 n1 xs1 v2 n2 xs2 l1 l2 :=
  ⟨h.o1.drew, h.o2.drew, h.ne, fun q e => ⟨(h.b1 q e).1.drew, (h.b1 q e).2⟩, fun q e => ⟨(h.b2 q e).1.drew, (h.b2 q e).2⟩, h.be.drew⟩
theorem Pr.build (h : Pr H w0 w v1 n1 xs1 v2 n2 xs2 none l2) (hH : H ≤ w0.heap.size) (x : Value) : Pr H w0 (w.alloc (.cells #[x] 3)) v1 n1 xs1 v2 n2 xs2 (some (w.heap.size, x)) l2 :=
  ⟨h.o1.alloc _, h.o2.alloc _, h.ne, fun q e => by
    obtain rfl : q = (w.heap.size, x) := by injection e with e; exact e.symm
    exact ⟨Blk.new _ _ _, fun e => by have := (own_lt h.o1 e).2.1; simp at this, fun e => by have := (own_lt h.o2 e).2.1; simp at this⟩, fun q e => ⟨(h.b2 q e).1.alloc _, (h.b2 q e).2⟩, h.be.alloc (by have := h.be.size; omega) _⟩
theorem Pr.app {w' : World} {g cap x' : Nat} {x : Value} (h : Pr H w0 w v1 n1 xs1 v2 n2 xs2 (some (x', x)) l2) (hH : H ≤ w0.heap.size)
    (ho : w'.ownsRow H 3 1 (.slice (some ⟨g, 0, none⟩) (n1 + 1) cap) (n1 + 1) (xs1 ++ [x])) (hg : w.grownBy w' v1.ownBlock) (ha : v1.ownBlock = some g ∨ g = w.heap.size) :
    Pr H w0 w' (.slice (some ⟨g, 0, none⟩) (n1 + 1) cap) (n1 + 1) (xs1 ++ [x]) v2 n2 xs2 none l2 := by
  have hn : v2.ownBlock ≠ some g := fun e => by
    rcases ha with h1 | h1
    · exact h.ne g h1 e
    · have := (own_lt h.o2 e).2.1
      omega
  refine ⟨ho, own_at h.o2 fun k _ hk e => hg.block k hk (fun e2 => h.ne k e2.symm e), fun b e1 e2 => ?_, fun q e => (by cases e), fun q e => ?_, h.be.grown hg (by have := h.be.size; omega) (own_base h.o1)⟩
  · simp only [Value.ownBlock, Option.some.injEq] at e1
    subst e1
    exact hn e2
  · obtain ⟨q1, q2, q3⟩ := h.b2 q e
    refine ⟨q1.grown hg (fun e2 => q2 e2.symm), fun e2 => ?_, q3⟩
    simp only [Value.ownBlock, Option.some.injEq] at e2
    rcases ha with h1 | h1
    · rw [e2] at h1; exact q2 h1
    · have := q1.lt
      omega
end
end Go.Proofs.YtmnmckblmoalkaaGreat

/-
  A list of operations parted in two: the first part ends in a frame and a world of which a relation holds; the second part goes on from every such frame and world. No program here.
-/
namespace Go.Proofs.YtmnmckblmoalkaaGreat
open Go.RowKit
set_option maxRecDepth 100000

theorem oper_wp2 {P : Program} {o : Oper} {a : Act} {w : World} {K K' : Act → World → Prop} {Q Q' : Exit → Act → World → Prop} (h : ∀ a w, K a w → K' a w) (hq : ∀ e a w, Q e a w → e = .normal)
    (hh : o.wp P a w K Q) : o.wp P a w K' Q' := by
  unfold Oper.wp at *
  generalize (execOp a.eval o).run P w = r at *
  cases r with
  | ok n w' =>
    cases n <;> simp only [Oper.upon] at hh ⊢ <;>
      first
        | exact h _ _ hh
        | exact Calls.mono hh (fun e w'' he => by
            cases e <;> first
              | exact h _ _ he
              | cases hq _ _ _ he
              | (obtain ⟨_, _, hl⟩ := he; cases hq _ _ _ hl))
        | exact Rows.mono hh (fun _ _ he => h _ _ he)
  | halt x w' => cases x <;> simp only [Oper.upon] at hh ⊢ <;> first | cases hq _ _ _ hh | exact hh
theorem wpList_part {P : Program} {ops : Array Oper} {Q Q1 : Exit → Act → World → Prop} (hq : ∀ e a w, Q1 e a w → e = .normal) {l2 : List Oper} (h2 : ∀ a w, Q1 .normal a w → wpList P ops Q l2 a w) :
    ∀ {l1 : List Oper} {a : Act} {w : World}, wpList P ops Q1 l1 a w → wpList P ops Q (l1 ++ l2) a w
  | [], a, w, h => h2 a w h
  | o :: l1, a, w, h => by
    simp only [List.cons_append, wpList] at h ⊢
    split
    · rename_i hw
      simp only [hw, if_true] at h
      rcases h with h | ⟨_, _, _, hl⟩
      · exact .inl (oper_wp2 (fun a w hk => wpList_part hq h2 hk) hq h)
      · cases hq _ _ _ hl
    · rename_i hw
      simp only [hw] at h
      exact wpList_part hq h2 h
/-- the frame a with the values us in the slots D -/
def overU (a : Act) (D : List Nat) (us : Nat → Value) : Act := D.foldl (fun b d => b.put (some d) (us d)) a
/-- the end of a part of a list -/
def EndAt (a0 : Act) (D : List Nat) (rel : (Nat → Value) → World → Prop) : Exit → Act → World → Prop :=
  fun e a w => e = .normal ∧ rel (fun d => a.tmps.getD d undef) w ∧ a = overU a0 D (fun d => a.tmps.getD d undef)
theorem EndAt.intro {a0 a : Act} {D : List Nat} {rel : (Nat → Value) → World → Prop} {w : World} (h1 : rel (fun d => a.tmps.getD d undef) w) (h2 : a = overU a0 D (fun d => a.tmps.getD d undef)) : EndAt a0 D rel .normal a w := ⟨rfl, h1, h2⟩
/-- the first n operations end where the relation holds; the others go on from there -/
theorem wpList_at {P : Program} {ops : Array Oper} {Q : Exit → Act → World → Prop} {l : List Oper} {a : Act} {w : World} (n : Nat) (D : List Nat) (rel : (Nat → Value) → World → Prop)
    (h1 : wpList P ops (EndAt a D rel) (l.take n) a w) (h2 : ∀ us w', rel us w' → wpList P ops Q (l.drop n) (overU a D us) w') : wpList P ops Q l a w := by
  have h := wpList_part (Q := Q) (l2 := l.drop n) (fun _ _ _ h => h.1) (fun a' w' h => by
    obtain ⟨_, hr, ha⟩ := h
    rw [ha]
    exact h2 _ _ hr) h1
  rwa [List.take_append_drop] at h
end Go.Proofs.YtmnmckblmoalkaaGreat
