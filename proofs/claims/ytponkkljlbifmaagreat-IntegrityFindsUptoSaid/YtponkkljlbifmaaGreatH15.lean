/-
  Texts: RegionI, RegionB, Pds4, TwoApp, PdH1.
-/
import Derived.Test.YtponkkljlbifmaaGreatH10
import Derived.Test.YtponkkljlbifmaaGreatH14
set_option linter.unusedVariables false
/-
  The law for a region that draws its order, by an invariant: operations that only read come first; of each other one it is shown, once, that it keeps what holds of the operations done so far, in whatever order they came. No program here.
-/
namespace Go.Proofs.YtponkkljlbifmaaGreat
open Go.RowKit
set_option maxRecDepth 100000
set_option linter.unusedVariables false

def tmI (a : Act) : Nat → Value := fun d => a.tmps.getD d undef
def updD (d : Nat → Bool) (e : Nat) : Nat → Bool := fun j => if j = e then true else d j
theorem updD_self (d : Nat → Bool) (e : Nat) : updD d e e = true := by simp [updD]
theorem updD_ne {d : Nat → Bool} {e j : Nat} (h : j ≠ e) : updD d e j = d j := by simp [updD, h]
section
variable {P : Program} {ops : Array Oper} {Q : Exit → Act → World → Prop} {R : World → World → Prop} {D : List Nat} {I : (Nat → Bool) → (Nat → Value) → World → Prop} {a1 : Act}
/-- each operation keeps the invariant -/
def stepsI (R : World → World → Prop) (P : Program) (ops : Array Oper) (Q : Exit → Act → World → Prop) (a1 : Act) (D : List Nat) (I : (Nat → Bool) → (Nat → Value) → World → Prop) (es : List Nat) : List Nat → Prop
  | [] => True
  | e :: r => (∀ d us w, d e = false → (∀ j, j ∈ es → reach ops ops.size e j = true → d j = true) → I d us w →
      wpList P ops (Exit.then (fun a' w' => (R w w' ∧ I (updD d e) (tmI a') w') ∧ a' = overU a1 D (tmI a')) Q) [opAt ops e] (overU a1 D us) w) ∧ stepsI R P ops Q a1 D I es r
theorem steps_mem {es : List Nat} : ∀ {r : List Nat}, stepsI R P ops Q a1 D I es r → ∀ e ∈ r, ∀ d us w, d e = false → (∀ j, j ∈ es → reach ops ops.size e j = true → d j = true) → I d us w →
      wpList P ops (Exit.then (fun a' w' => (R w w' ∧ I (updD d e) (tmI a') w') ∧ a' = overU a1 D (tmI a')) Q) [opAt ops e] (overU a1 D us) w
  | [], _, e, he => by cases he
  | x :: r, h, e, he => by
    rcases List.mem_cons.1 he with rfl | he
    · exact h.1
    · exact steps_mem h.2 e he
def backB (ops : Array Oper) : Bool := (List.range ops.size).all fun i => (opAt ops i).after.all fun x => !Region.binds .any x || decide (x.on < i)
/-- what is not listed has a least one, which is ready -/
theorem ready_least (hb : backB ops = true) {listed : Array Bool} (hr : Region.ready .any ops listed = []) (hs : listed.size = ops.size) : ∀ n i, i < n → i < ops.size → listed.getD i false = true := by
  intro n
  induction n with
  | zero => intro i hi; omega
  | succ n ih =>
    intro i hi hlt
    by_cases h : listed.getD i false = true
    · exact h
    · exfalso
      have hm : i ∈ Region.ready .any ops listed := by
        refine mem_ready.2 ⟨?_, opAt ops i, at_of_lt hlt, fun e he hbd => ?_⟩
        · have h1 : i < listed.size := by omega
          rw [Array.getD_eq_getD_getElem?, Array.getElem?_eq_getElem h1] at h ⊢
          simpa using h
        · have h1 := List.all_eq_true.1 hb i (List.mem_range.2 hlt)
          have h2 := Array.all_eq_true_iff_forall_mem.1 h1 e he
          rw [hbd] at h2
          simp only [Bool.not_true, Bool.false_or, decide_eq_true_eq] at h2
          exact ih e.on (by omega) (by omega)
      rw [hr] at hm
      cases hm
theorem size_set {listed : Array Bool} {i : Nat} (h : listed.size = ops.size) : (listed.setIfInBounds i true).size = ops.size := by simp [h]
def undone (d : Nat → Bool) (es : List Nat) : Nat := (es.filter fun e => !d e).length
theorem undone_upd {d : Nat → Bool} {e : Nat} : ∀ {es : List Nat}, es.Nodup → e ∈ es → d e = false → undone (updD d e) es + 1 = undone d es
  | [], _, h, _ => by cases h
  | x :: r, hn, h, hd => by
    have hn' := List.nodup_cons.1 hn
    by_cases hx : x = e
    · subst hx
      have h1 : undone (updD d x) r = undone d r := by
        unfold undone
        congr 1
        refine List.filter_congr fun y hy => ?_
        rw [updD_ne (fun h5 => hn'.1 (by rw [← h5]; exact hy))]
      have h2 : undone (updD d x) (x :: r) = undone (updD d x) r := by unfold undone; simp [updD_self]
      have h3 : undone d (x :: r) = undone d r + 1 := by unfold undone; simp [hd]
      omega
    · have he : e ∈ r := by
        rcases List.mem_cons.1 h with h | h
        · exact absurd h.symm hx
        · exact h
      have ih := undone_upd hn'.2 he hd
      have h2 : undone (updD d e) (x :: r) = undone (updD d e) r + (if d x = false then 1 else 0) := by
        unfold undone
        rw [List.filter_cons, updD_ne hx]
        cases d x <;> simp
      have h3 : undone d (x :: r) = undone d r + (if d x = false then 1 else 0) := by
        unfold undone
        rw [List.filter_cons]
        cases d x <;> simp
      omega
theorem undone_zero {d : Nat → Bool} {es : List Nat} (h : undone d es = 0) : ∀ e ∈ es, d e = true := fun e he => by
  unfold undone at h
  cases hd : d e
  · have : e ∈ es.filter fun e => !d e := List.mem_filter.2 ⟨he, by simp [hd]⟩
    rw [List.eq_nil_of_length_eq_zero h] at this
    cases this
  · rfl
/-- how the list of what is done goes with what is listed -/
def Goes (ops : Array Oper) (l0 : Array Bool) (es : List Nat) (d : Nat → Bool) (listed : Array Bool) : Prop := listed.size = ops.size ∧ ∀ i, i < ops.size → (listed.getD i false = true ↔ l0.getD i false = true ∨ (i ∈ es ∧ d i = true))
theorem inv_any (hb : backB ops = true) {l0 : Array Bool} {es : List Nat} (hes : es.Nodup) (hlt : ∀ e ∈ es, e < ops.size ∧ l0.getD e false = false) (hcov : ∀ i, i < ops.size → l0.getD i false = true ∨ i ∈ es)
    (hst : stepsI R P ops Q a1 D I es es) (hend : ∀ d us w, (∀ e ∈ es, d e = true) → I d us w → Q .normal (overU a1 D us) w) :
    ∀ (fuel : Nat) (d : Nat → Bool) (listed : Array Bool) (us : Nat → Value) (w : World), Goes ops l0 es d listed → Closed ops listed → undone d es = fuel → I d us w → wpAnyR [] R R P .any ops Q fuel listed (overU a1 D us) w
  | 0, d, listed, us, w, hg, hcl, hu, hI => by
    have hall := undone_zero hu
    refine ⟨?_, hend d us w hall hI⟩
    unfold Region.ready
    rw [List.filter_eq_nil_iff]
    intro i hi
    have hi := List.mem_range.1 hi
    have h1 : listed.getD i true = true := getD_ft ((hg.2 i hi).2 (by
      rcases hcov i hi with h | h
      · exact .inl h
      · exact .inr ⟨h, hall i h⟩))
    simp [h1]
  | fuel + 1, d, listed, us, w, hg, hcl, hu, hI => by
    refine ⟨fun hr => ?_, fun i hi => ?_⟩
    · have h1 := ready_least hb hr hg.1
      refine hend d us w (fun e he => ?_) hI
      have h2 := h1 (e + 1) e (by omega) (hlt e he).1
      rcases (hg.2 e (hlt e he).1).1 h2 with h | h
      · rw [(hlt e he).2] at h; cases h
      · exact h.2
    · obtain ⟨hun, oj, hoj, hall⟩ := mem_ready.1 hi
      have hilt : i < ops.size := (Array.getElem?_eq_some_iff.1 hoj).1
      have hnl : listed.getD i false = false := getD_tf hun
      have hie : i ∈ es := by
        rcases hcov i hilt with h | h
        · rw [(hg.2 i hilt).2 (.inl h)] at hnl; cases hnl
        · exact h
      have hdi : d i = false := by
        cases hd : d i
        · rfl
        · rw [(hg.2 i hilt).2 (.inr ⟨hie, hd⟩)] at hnl; cases hnl
      have hdeps : ∀ j, j ∈ es → reach ops ops.size i j = true → d j = true := fun j hj hre => by
        have h1 := reach_closed hcl ops.size i j hre oj hoj hall
        rcases (hg.2 j (hlt j hj).1).1 h1 with h | h
        · rw [(hlt j hj).2] at h; cases h
        · exact h.2
      have h1 := op_of_list (at_of_lt hilt) (steps_mem hst i hie d us w hdi hdeps hI)
      refine wpOp_mono (fun a' w' h2 => ⟨⟨fun _ => .inr h2.1.1, .inr h2.1.1⟩, ?_⟩) h1
      rw [h2.2]
      refine inv_any hb hes hlt hcov hst hend fuel (updD d i) _ _ _ ⟨size_set hg.1, fun q hq => ?_⟩ (hcl.more hoj hall) (by have := undone_upd hes hie hdi; omega) h2.1.2
      by_cases hqi : q = i
      · subst hqi
        have h3 : (listed.setIfInBounds q true).getD q false = true := by
          rw [Array.getD_eq_getD_getElem?, Array.getElem?_setIfInBounds]
          have : q < listed.size := by have := hg.1; omega
          simp [this]
        rw [h3, updD_self]
        simp [hie]
      · have h3 : (listed.setIfInBounds i true).getD q false = listed.getD q false := by
          rw [Array.getD_eq_getD_getElem?, Array.getD_eq_getD_getElem?, Array.getElem?_setIfInBounds_ne (Ne.symm hqi)]
        rw [h3, updD_ne hqi]
        exact hg.2 q hq
def checkI (ops : Array Oper) (qs es : List Nat) : Bool := match checkV [] ops qs (Array.replicate ops.size false) with
  | some l0 => decide (l0.size = ops.size) && (backB ops && (decide es.Nodup && (es.all (fun e => decide (e < ops.size) && !l0.getD e false) && ((List.range ops.size).all (fun i => l0.getD i false || es.contains i) && decide (qs.length + es.length = ops.size)))))
  | none => false
/-- THE LAW -/
theorem wp_region_inv {id : Nat} {a : Act} {w : World} {l : List Oper} (R : World → World → Prop) (hR : ∀ a b c, R a b → R b c → R a c) (D qs es : List Nat) (I : (Nat → Bool) → (Nat → Value) → World → Prop) (hm : P.follows .mixedOrders = true)
    (hc : (Region.noSelect l.toArray && checkI l.toArray qs es) = true)
    (hQ : ∀ c a d v w, Q (.panic c) (Act.put a d v) w → Q (.panic c) a w)
    (h : wpQuiet P l.toArray (fun W => ∃ x : LaterR R w.drew, W = afterR R w.drew x) (fun a1 => a1 = overU a1 D (tmI a1) ∧ I (fun _ => false) (tmI a1) w.drew ∧ stepsI R P l.toArray Q a1 D I es es ∧ (∀ d us w', (∀ e ∈ es, d e = true) → I d us w' → Q .normal (overU a1 D us) w')) (pickOps l.toArray qs) a) :
    (Code.region id l.toArray true).wp P Q a w := by
  rw [Bool.and_eq_true] at hc
  obtain ⟨hns, hk⟩ := hc
  unfold checkI at hk
  split at hk
  · rename_i l0 hl0
    simp only [Bool.and_eq_true, decide_eq_true_eq] at hk
    obtain ⟨hsz, hb, hnd, hlt, hcov, hlen⟩ := hk
    refine wp_region_any hm ?_
    have key := quiet_blockR (late := []) (R1 := R) (R2 := R) (Q := Q) hR [] (fun j w w' _ he => he.2) hns hQ (w := w.drew) (fuel := es.length) (l' := l0)
      (K := fun a1 => a1 = overU a1 D (tmI a1) ∧ I (fun _ => false) (tmI a1) w.drew ∧ stepsI R P l.toArray Q a1 D I es es ∧ (∀ d us w', (∀ e ∈ es, d e = true) → I d us w' → Q .normal (overU a1 D us) w'))
      (fun a1 hcl ⟨h0, h1, h2, h3⟩ => by
        rw [h0]
        refine inv_any (l0 := l0) (es := es) hb hnd (fun e he => ?_) (fun i hi => ?_) h2 h3 es.length (fun _ => false) l0 (tmI a1) w.drew ⟨hsz, fun i hi => ⟨fun h => .inl h, fun h => by
          rcases h with h | ⟨_, h⟩
          · exact h
          · cases h⟩⟩ hcl (by unfold undone; simp) h1
        · have := List.all_eq_true.1 hlt e he
          simpa using this
        · have := List.all_eq_true.1 hcov i (List.mem_range.2 hi)
          simpa using this) qs (Array.replicate l.toArray.size false) a (Closed.start _) hl0 h
    rw [hlen] at key
    exact wpAny_of_R _ _ _ _ key
  · cases hk
end
end Go.Proofs.YtponkkljlbifmaaGreat

/-
  The law for a region that draws its order, where two operations with an effect may come in either order: a plan that parts. No program here.
-/
namespace Go.Proofs.YtponkkljlbifmaaGreat
open Go.RowKit
set_option maxRecDepth 100000
set_option linter.unusedVariables false

inductive PlanB where
  | last (qs : List Nat)
  | one (qs : List Nat) (e : Nat) (t : PlanB)
  | two (qs : List Nat) (e : Nat) (t : PlanB) (f : Nat) (s : PlanB)
def PlanB.len : PlanB → Nat
  | .last qs => qs.length
  | .one qs _ t => qs.length + (t.len + 1)
  | .two qs _ t _ _ => qs.length + (t.len + 1)
section
variable {P : Program} {ops : Array Oper} {Q : Exit → Act → World → Prop} {R : World → World → Prop}
end
end Go.Proofs.YtponkkljlbifmaaGreat

/-
  The state of RegionProducts between its statements: the boxes of a, b and of the region that was handed in.
-/
namespace Go.Proofs.YtponkkljlbifmaaGreat
open Go.RowKit
set_option maxRecDepth 100000
open Rg

def lessB (B : Nat) (a b : World) : Prop := Below B a b
theorem lessB_of {B B' : Nat} {a b : World} (h : Below B' a b) (hB : B ≤ B') : lessB B a b := ⟨h.os, h.tape, h.output, h.size, fun q hq => h.block q (Nat.lt_of_lt_of_le hq hB)⟩
theorem lessB_trans (B : Nat) : ∀ a b c, lessB B a b → lessB B b c → lessB B a c := fun _ _ _ h k => ⟨k.os.trans h.os, k.tape.trans h.tape, k.output.trans h.output, Nat.le_trans h.size k.size, fun q hq => (k.block q hq).trans (h.block q hq)⟩
theorem keep_blk {w w' : World} {B V : Nat} {T : TypeId} {cs : Array Value} (h : Blk w V T cs) (hb : Below B w w') (hV : V < B) : Blk w' V T cs := (hb.block V hV).trans h
section
variable {w w' : World} {V : Nat} {x : Int} {f : Bool} {A : Option Addr} {n c : Nat} {r : Rg}
end
section
variable {w wr w' : World} {g Va Vb Vw : Nat} {xa : Int} {fa : Bool} {Aa : Option Addr} {na ca : Nat} {ra : Rg} {xb : Int} {fb : Bool} {Ab : Option Addr} {nb cb : Nat} {rb : Rg} {xw : Int} {fw : Bool} {Aw : Option Addr} {nw cw : Nat} {rw_ : Rg}
end
end Go.Proofs.YtponkkljlbifmaaGreat

/-
  Two rows of numbers that grow in one statement, in whatever order. No program here.
-/
namespace Go.Proofs.YtponkkljlbifmaaGreat
open Go.RowKit
set_option maxRecDepth 100000
set_option linter.unusedVariables false

/-- two rows of the call's own, and what is to be appended to them, where it lies already -/
structure Pr (H : Nat) (w0 w : World) (v1 : Value) (n1 : Nat) (xs1 : List Value) (v2 : Value) (n2 : Nat) (xs2 : List Value) (l1 l2 : Option (Nat × Value)) : Prop where
  o1 : w.ownsRow H 3 1 v1 n1 xs1
  o2 : w.ownsRow H 3 1 v2 n2 xs2
  ne : ∀ b, v1.ownBlock = some b → v2.ownBlock ≠ some b
  b1 : ∀ q, l1 = some q → Blk w q.1 3 #[q.2] ∧ v1.ownBlock ≠ some q.1 ∧ v2.ownBlock ≠ some q.1
  b2 : ∀ q, l2 = some q → Blk w q.1 3 #[q.2] ∧ v1.ownBlock ≠ some q.1 ∧ v2.ownBlock ≠ some q.1
  be : Below H w0 w
section
variable {H : Nat} {w0 w : World} {v1 : Value} {n1 : Nat} {xs1 : List Value} {v2 : Value} {n2 : Nat} {xs2 : List Value} {l1 l2 : Option (Nat × Value)}
theorem Pr.drew (h : Pr H w0 w v1 n1 xs1 v2 n2 xs2 l1 l2) : Pr H w0 w.drew v1 n1 xs1 v2 n2 xs2 l1 l2 :=
  ⟨h.o1.drew, h.o2.drew, h.ne, fun q e => ⟨(h.b1 q e).1.drew, (h.b1 q e).2⟩, fun q e => ⟨(h.b2 q e).1.drew, (h.b2 q e).2⟩, h.be.drew⟩
theorem Pr.build (h : Pr H w0 w v1 n1 xs1 v2 n2 xs2 none l2) (hH : H ≤ w0.heap.size) (x : Value) : Pr H w0 (w.alloc (.cells #[x] 3)) v1 n1 xs1 v2 n2 xs2 (some (w.heap.size, x)) l2 :=
  ⟨h.o1.alloc _, h.o2.alloc _, h.ne, fun q e => by
    obtain rfl : q = (w.heap.size, x) := by injection e with e; exact e.symm
    exact ⟨Blk.new _ _ _, fun e => by have := (own_lt h.o1 e).2.1; simp at this, fun e => by have := (own_lt h.o2 e).2.1; simp at this⟩, fun q e => ⟨(h.b2 q e).1.alloc _, (h.b2 q e).2⟩, h.be.alloc (by have := h.be.size; omega) _⟩
theorem Pr.app {w' : World} {g cap x' : Nat} {x : Value} (h : Pr H w0 w v1 n1 xs1 v2 n2 xs2 (some (x', x)) l2) (hH : H ≤ w0.heap.size)
    (ho : w'.ownsRow H 3 1 (.slice (some ⟨g, 0, none⟩) (n1 + 1) cap) (n1 + 1) (xs1 ++ [x])) (hg : w.grownBy w' v1.ownBlock) (ha : v1.ownBlock = some g ∨ g = w.heap.size) :
    Pr H w0 w' (.slice (some ⟨g, 0, none⟩) (n1 + 1) cap) (n1 + 1) (xs1 ++ [x]) v2 n2 xs2 none l2 := by
  have hn : v2.ownBlock ≠ some g := fun e => by
    rcases ha with h1 | h1
    · exact h.ne g h1 e
    · have := (own_lt h.o2 e).2.1
      omega
  refine ⟨ho, own_at h.o2 fun k _ hk e => hg.block k hk (fun e2 => h.ne k e2.symm e), fun b e1 e2 => ?_, fun q e => (by cases e), fun q e => ?_, h.be.grown hg (by have := h.be.size; omega) (own_base h.o1)⟩
  · simp only [Value.ownBlock, Option.some.injEq] at e1
    subst e1
    exact hn e2
  · obtain ⟨q1, q2, q3⟩ := h.b2 q e
    refine ⟨q1.grown hg (fun e2 => q2 e2.symm), fun e2 => ?_, q3⟩
    simp only [Value.ownBlock, Option.some.injEq] at e2
    rcases ha with h1 | h1
    · rw [e2] at h1; exact q2 h1
    · have := q1.lt
      omega
end
end Go.Proofs.YtponkkljlbifmaaGreat

/-
  The program's Holds: a comparison.
-/
namespace Go.Proofs.YtponkkljlbifmaaGreat
open Go.RowKit
set_option maxRecDepth 100000
open Pd
set_option linter.unusedVariables false

def valC (v : Vl) : Array Value := #[.int .i64 v.k, .int .i64 v.i, .string v.t]
/-- two values denoted and laid in blocks of their own, in any order -/
structure TwoV (W0 : World) (dl dr : Vl) (d : Nat → Bool) (us : Nat → Value) (w : World) : Prop where
  be : Below W0.heap.size W0 w
  c1 : d 4 = true → us 24 = .agg (valC dl)
  c2 : d 9 = true → us 29 = .agg (valC dr)
  a1 : d 10 = true → ∃ B, us 7 = .pointer (some ⟨B, 0, none⟩) ∧ W0.heap.size ≤ B ∧ Blk w B 67 (if d 12 = true then valC dl else valC zeroV)
  a2 : d 11 = true → ∃ B, us 8 = .pointer (some ⟨B, 0, none⟩) ∧ W0.heap.size ≤ B ∧ Blk w B 67 (if d 13 = true then valC dr else valC zeroV)
  s1 : d 12 = true → d 10 = true
  s2 : d 13 = true → d 11 = true
  ne : d 10 = true → d 11 = true → ∀ B C, us 7 = .pointer (some ⟨B, 0, none⟩) → us 8 = .pointer (some ⟨C, 0, none⟩) → B ≠ C
theorem upd_h {d : Nat → Bool} {e j : Nat} (hne : j ≠ e) (h : updD d e j = true) : d j = true := by rwa [updD_ne hne] at h
theorem set3_blk {w : World} {B : Nat} {T : TypeId} {v : Vl} (h : Blk w B T (valC zeroV)) : Blk (((w.setCell ⟨B, 0, none⟩ (.int .i64 v.k)).setCell ⟨B, 1, none⟩ (.int .i64 v.i)).setCell ⟨B, 2, none⟩ (.string v.t)) B T (valC v) := ((h.set_ 0 (.int .i64 v.k)).set_ 1 (.int .i64 v.i)).set_ 2 (.string v.t)
theorem set3_far {w : World} {B C : Nat} {T : TypeId} {cs : Array Value} {x y z : Value} (h : Blk w C T cs) (hne : B ≠ C) : Blk (((w.setCell ⟨B, 0, none⟩ x).setCell ⟨B, 1, none⟩ y).setCell ⟨B, 2, none⟩ z) C T cs := ((h.far (p := ⟨B, 0, none⟩) (fun e => hne e.symm) x).far (p := ⟨B, 1, none⟩) (fun e => hne e.symm) y).far (p := ⟨B, 2, none⟩) (fun e => hne e.symm) z
theorem set3_below {W0 w : World} {n B : Nat} {x y z : Value} (h : Below n W0 w) (hB : n ≤ B) : Below n W0 (((w.setCell ⟨B, 0, none⟩ x).setCell ⟨B, 1, none⟩ y).setCell ⟨B, 2, none⟩ z) := ((h.setCell (p := ⟨B, 0, none⟩) hB x).setCell (p := ⟨B, 1, none⟩) hB y).setCell (p := ⟨B, 2, none⟩) hB z
set_option maxHeartbeats 4000000 in
theorem hcmp_any (row ps : List Vl) (cm : Int) (l r : Od) (A : Option Addr) (n c : Nat) (Ar : Option Addr) (nr cr : Nat) (Ap : Option Addr) (np cp : Nat) (w : World) (hr : VlS w Ar nr row) (hp : VlS w Ap np ps) :
    Calls Tryz.prog 59 #[.agg (pdV ⟨3, cm, l, r⟩ A n c), .slice Ar nr cr, .slice Ap np cp] w fun e w' => e = .returned (.bool (cmpOk cm (dnV row ps l) (dnV row ps r))) ∧ Below w.heap.size w w' := by
  obtain ⟨rr, Hrr⟩ : ∃ z, Hid (cmpOk cm (dnV row ps l) (dnV row ps r) = z) := ⟨_, rfl⟩
  rw [Hrr.out]
  obtain ⟨dl, Hdl⟩ : ∃ z, Hid (dnV row ps l = z) := ⟨_, rfl⟩
  obtain ⟨dr, Hdr⟩ : ∃ z, Hid (dnV row ps r = z) := ⟨_, rfl⟩
  rw [Hdl.out, Hdr.out] at Hrr
  unfold pdV
  have HR := Lib.hid (hr.keep (keeps_alloc w (.cells #[.int .i64 3, .int .i64 cm, .int .i64 l.k, .int .i64 l.ix, .int .i64 l.v.k, .int .i64 l.v.i, .string l.v.t, .int .i64 r.k, .int .i64 r.ix, .int .i64 r.v.k, .int .i64 r.v.i, .string r.v.t, .slice A n c] 71)))
  have HP := Lib.hid (hp.keep (keeps_alloc w (.cells #[.int .i64 3, .int .i64 cm, .int .i64 l.k, .int .i64 l.ix, .int .i64 l.v.k, .int .i64 l.v.i, .string l.v.t, .int .i64 r.k, .int .i64 r.ix, .int .i64 r.v.k, .int .i64 r.v.i, .string r.v.t, .slice A n c] 71)))
  have HX := Lib.hid (Blk.new w 71 #[.int .i64 3, .int .i64 cm, .int .i64 l.k, .int .i64 l.ix, .int .i64 l.v.k, .int .i64 l.v.i, .string l.v.t, .int .i64 r.k, .int .i64 r.ix, .int .i64 r.v.k, .int .i64 r.v.i, .string r.v.t, .slice A n c])
  have HB := Lib.hid ((Below.refl w.heap.size w).alloc (Nat.le_refl _) (.cells #[.int .i64 3, .int .i64 cm, .int .i64 l.k, .int .i64 l.ix, .int .i64 l.v.k, .int .i64 l.v.i, .string l.v.t, .int .i64 r.k, .int .i64 r.ix, .int .i64 r.v.k, .int .i64 r.v.i, .string r.v.t, .slice A n c] 71))
  clear hr hp
  go_enter Tryz.func59, Tryz.ntmps59
  go_upto_region 1 with fail
  obtain ⟨X, HXe⟩ : ∃ z, Hid (w.heap.size = z) := ⟨_, rfl⟩
  rw [HXe.out] at HX
  rw [HXe.out]
  generalize hW : w.alloc (.cells #[.int .i64 3, .int .i64 cm, .int .i64 l.k, .int .i64 l.ix, .int .i64 l.v.k, .int .i64 l.v.i, .string l.v.t, .int .i64 r.k, .int .i64 r.ix, .int .i64 r.v.k, .int .i64 r.v.i, .string r.v.t, .slice A n c] 71) = w1 at *
  clear hW
  have hXlt : X < w1.heap.size := HX.out.lt
  have zx := HX.out.cell
  go_upto_region 5 with fail
  clear zx
  refine wp_region_inv (lessB w1.heap.size) (lessB_trans _) [24, 29, 7, 8] [0, 1, 2, 3, 5, 6, 7, 8] [4, 9, 10, 11, 12, 13] (TwoV w1.drew dl dr) (by kernel_rfl) (by kernel_rfl) (fun _ _ d _ _ h => by cases d <;> exact h) ?_
  have HXd := Lib.hid HX.out.drew
  have HRd := Lib.hid (HR.out.keep (keeps_of (Below.refl w1.heap.size w1).drew))
  have HPd := Lib.hid (HP.out.keep (keeps_of (Below.refl w1.heap.size w1).drew))
  have qa : ∀ (y : LaterR (lessB w1.heap.size) w1.drew) z, (afterR (lessB w1.heap.size) w1.drew y).cell? ⟨X, z, none⟩ = (#[.int .i64 3, .int .i64 cm, .int .i64 l.k, .int .i64 l.ix, .int .i64 l.v.k, .int .i64 l.v.i, .string l.v.t, .int .i64 r.k, .int .i64 r.ix, .int .i64 r.v.k, .int .i64 r.v.i, .string r.v.t, .slice A n c] : Array Value)[z]? := fun y z => y.cell (HXd.out.cell z) (fun W h => (keep_blk HXd.out h hXlt).cell z)
  simp only [pickOps, opAt, List.map_cons, List.map_nil, List.getElem?_toArray, List.getElem?_cons_zero, List.getElem?_cons_succ, Option.getD_some]
  repeat (go_big_quiet_step (fail))
  refine wpQuiet_nil ?_
  clear qa
  refine ⟨by kernel_rfl, ⟨Below.refl _ _, fun h => (by cases h), fun h => (by cases h), fun h => (by cases h), fun h => (by cases h), fun h => (by cases h), fun h => (by cases h), fun h => (by cases h)⟩, ?_, ?_⟩
  · refine ⟨?_, ?_, ?_, ?_, ?_, ?_, trivial⟩
    · intro d us w2 hd hdep hI
      replace hI := Lib.hid hI
      clear hdep
      simp only [opAt, List.getElem?_toArray, List.getElem?_cons_zero, List.getElem?_cons_succ, Option.getD_some, overU, List.foldl]
      go_wp2_with fail
      refine (denoted_any row ps l Ar nr cr Ap np cp _ (HRd.out.keep (keeps_of hI.out.be)) (HPd.out.keep (keeps_of hI.out.be))).mono ?_
      rintro e w3 ⟨rfl, hb⟩
      rw [Hdl.out]
      go_wp2_with fail
      refine ⟨⟨lessB_of hb hI.out.be.size, Below.next hI.out.be hb, fun _ => rfl, fun h => hI.out.c2 (upd_h (by decide) h), fun h => ?_, fun h => ?_, fun h => by rw [updD_ne (by decide)]; exact hI.out.s1 (upd_h (by decide) h), fun h => by rw [updD_ne (by decide)]; exact hI.out.s2 (upd_h (by decide) h), fun h h' B C e1 e2 => hI.out.ne (upd_h (by decide) h) (upd_h (by decide) h') B C e1 e2⟩, by kernel_rfl⟩
      · obtain ⟨B, h1, h2, h3⟩ := hI.out.a1 (upd_h (by decide) h)
        exact ⟨B, h1, h2, by rw [updD_ne (by decide)]; exact h3.below hb⟩
      · obtain ⟨B, h1, h2, h3⟩ := hI.out.a2 (upd_h (by decide) h)
        exact ⟨B, h1, h2, by rw [updD_ne (by decide)]; exact h3.below hb⟩
    · intro d us w2 hd hdep hI
      replace hI := Lib.hid hI
      clear hdep
      simp only [opAt, List.getElem?_toArray, List.getElem?_cons_zero, List.getElem?_cons_succ, Option.getD_some, overU, List.foldl]
      go_wp2_with fail
      refine (denoted_any row ps r Ar nr cr Ap np cp _ (HRd.out.keep (keeps_of hI.out.be)) (HPd.out.keep (keeps_of hI.out.be))).mono ?_
      rintro e w3 ⟨rfl, hb⟩
      rw [Hdr.out]
      go_wp2_with fail
      refine ⟨⟨lessB_of hb hI.out.be.size, Below.next hI.out.be hb, fun h => hI.out.c1 (upd_h (by decide) h), fun _ => rfl, fun h => ?_, fun h => ?_, fun h => by rw [updD_ne (by decide)]; exact hI.out.s1 (upd_h (by decide) h), fun h => by rw [updD_ne (by decide)]; exact hI.out.s2 (upd_h (by decide) h), fun h h' B C e1 e2 => hI.out.ne (upd_h (by decide) h) (upd_h (by decide) h') B C e1 e2⟩, by kernel_rfl⟩
      · obtain ⟨B, h1, h2, h3⟩ := hI.out.a1 (upd_h (by decide) h)
        exact ⟨B, h1, h2, by rw [updD_ne (by decide)]; exact h3.below hb⟩
      · obtain ⟨B, h1, h2, h3⟩ := hI.out.a2 (upd_h (by decide) h)
        exact ⟨B, h1, h2, by rw [updD_ne (by decide)]; exact h3.below hb⟩
    · intro d us w2 hd hdep hI
      replace hI := Lib.hid hI
      clear hdep
      simp only [opAt, List.getElem?_toArray, List.getElem?_cons_zero, List.getElem?_cons_succ, Option.getD_some, overU, List.foldl]
      go_wp2_with fail
      refine ⟨⟨(Below.refl _ _).alloc hI.out.be.size _, hI.out.be.alloc hI.out.be.size _, fun h => hI.out.c1 (upd_h (by decide) h), fun h => hI.out.c2 (upd_h (by decide) h), fun h => ?_, fun h => ?_, fun h => by rw [updD_self], fun h => by rw [updD_ne (by decide)]; exact hI.out.s2 (upd_h (by decide) h), fun h h' B C' e1 e2 => ?_⟩, by kernel_rfl⟩
      · refine ⟨w2.heap.size, rfl, hI.out.be.size, ?_⟩
        rw [updD_ne (by decide), if_neg (fun h => by have := hI.out.s1 h; rw [hd] at this; cases this)]
        exact Blk.new w2 67 (valC zeroV)
      · obtain ⟨B, h1, h2, h3⟩ := hI.out.a2 (upd_h (by decide) h)
        exact ⟨B, h1, h2, by rw [updD_ne (by decide)]; exact h3.alloc _⟩
      · obtain ⟨C, h1, h2, h3⟩ := hI.out.a2 (upd_h (by decide) h')
        have hlt := h3.lt
        have e3 : (.pointer (some ⟨w2.heap.size, 0, none⟩) : Value) = .pointer (some ⟨B, 0, none⟩) := e1
        have e4 : (.pointer (some ⟨C, 0, none⟩) : Value) = .pointer (some ⟨C', 0, none⟩) := h1.symm.trans e2
        injection e3 with e3
        injection e3 with e3
        injection e3 with e3
        injection e4 with e4
        injection e4 with e4
        injection e4 with e4
        omega
    · intro d us w2 hd hdep hI
      replace hI := Lib.hid hI
      clear hdep
      simp only [opAt, List.getElem?_toArray, List.getElem?_cons_zero, List.getElem?_cons_succ, Option.getD_some, overU, List.foldl]
      go_wp2_with fail
      refine ⟨⟨(Below.refl _ _).alloc hI.out.be.size _, hI.out.be.alloc hI.out.be.size _, fun h => hI.out.c1 (upd_h (by decide) h), fun h => hI.out.c2 (upd_h (by decide) h), fun h => ?_, fun h => ?_, fun h => by rw [updD_ne (by decide)]; exact hI.out.s1 (upd_h (by decide) h), fun h => by rw [updD_self], fun h h' B C' e1 e2 => ?_⟩, by kernel_rfl⟩
      · obtain ⟨B, h1, h2, h3⟩ := hI.out.a1 (upd_h (by decide) h)
        exact ⟨B, h1, h2, by rw [updD_ne (by decide)]; exact h3.alloc _⟩
      · refine ⟨w2.heap.size, rfl, hI.out.be.size, ?_⟩
        rw [updD_ne (by decide), if_neg (fun h => by have := hI.out.s2 h; rw [hd] at this; cases this)]
        exact Blk.new w2 67 (valC zeroV)
      · obtain ⟨C, h1, h2, h3⟩ := hI.out.a1 (upd_h (by decide) h)
        have hlt := h3.lt
        have e3 : (.pointer (some ⟨w2.heap.size, 0, none⟩) : Value) = .pointer (some ⟨C', 0, none⟩) := e2
        have e4 : (.pointer (some ⟨C, 0, none⟩) : Value) = .pointer (some ⟨B, 0, none⟩) := h1.symm.trans e1
        injection e3 with e3
        injection e3 with e3
        injection e3 with e3
        injection e4 with e4
        injection e4 with e4
        injection e4 with e4
        omega
    · intro d us w2 hd hdep hI
      replace hI := Lib.hid hI
      obtain ⟨B, e7, hB, hblk⟩ := hI.out.a1 (hdep 10 (by decide) (by kernel_rfl))
      have e24 := hI.out.c1 (hdep 4 (by decide) (by kernel_rfl))
      rw [hd, if_neg (by decide)] at hblk
      have zb := Lib.hid hblk
      simp only [opAt, List.getElem?_toArray, List.getElem?_cons_zero, List.getElem?_cons_succ, Option.getD_some, overU, List.foldl]
      rw [e7, e24]
      unfold valC
      have zc := zb.out.cell
      have zf := zb.out.free
      clear hblk
      unfold valC at zc
      have He7 := Lib.hid e7
      have Hdep := Lib.hid hdep
      clear e7 e24 hdep
      go_wp2_with fail
      have e7 := He7.out
      have hdep := Hdep.out
      refine ⟨⟨set3_below (Below.refl _ _) hB, set3_below hI.out.be hB, fun _ => rfl, fun h => (hI.out.c2 (upd_h (by decide) h)), fun h => ?_, fun h => ?_, fun _ => by rw [updD_ne (by decide)]; exact hdep 10 (by decide) (by kernel_rfl), fun h => by rw [updD_ne (by decide)]; exact hI.out.s2 (upd_h (by decide) h), fun h h' B' C' e1 e2 => hI.out.ne (upd_h (by decide) h) (upd_h (by decide) h') B' C' (e7.trans e1) e2⟩, by kernel_rfl⟩
      · exact ⟨B, rfl, hB, by rw [updD_self, if_pos rfl]; exact set3_blk zb.out⟩
      · obtain ⟨C, h1, h2, h3⟩ := hI.out.a2 (upd_h (by decide) h)
        exact ⟨C, h1, h2, by rw [updD_ne (by decide)]; exact set3_far h3 (hI.out.ne (hdep 10 (by decide) (by kernel_rfl)) (upd_h (by decide) h) B C e7 h1)⟩
    · intro d us w2 hd hdep hI
      replace hI := Lib.hid hI
      obtain ⟨B, e7, hB, hblk⟩ := hI.out.a2 (hdep 11 (by decide) (by kernel_rfl))
      have e24 := hI.out.c2 (hdep 9 (by decide) (by kernel_rfl))
      rw [hd, if_neg (by decide)] at hblk
      have zb := Lib.hid hblk
      simp only [opAt, List.getElem?_toArray, List.getElem?_cons_zero, List.getElem?_cons_succ, Option.getD_some, overU, List.foldl]
      rw [e7, e24]
      unfold valC
      have zc := zb.out.cell
      have zf := zb.out.free
      clear hblk
      unfold valC at zc
      have He7 := Lib.hid e7
      have Hdep := Lib.hid hdep
      clear e7 e24 hdep
      go_wp2_with fail
      have e7 := He7.out
      have hdep := Hdep.out
      refine ⟨⟨set3_below (Below.refl _ _) hB, set3_below hI.out.be hB, fun h => (hI.out.c1 (upd_h (by decide) h)), fun _ => rfl, fun h => ?_, fun h => ?_, fun h => by rw [updD_ne (by decide)]; exact hI.out.s1 (upd_h (by decide) h), fun _ => by rw [updD_ne (by decide)]; exact hdep 11 (by decide) (by kernel_rfl), fun h h' B' C' e1 e2 => hI.out.ne (upd_h (by decide) h) (upd_h (by decide) h') B' C' e1 (e7.trans e2)⟩, by kernel_rfl⟩
      · obtain ⟨C, h1, h2, h3⟩ := hI.out.a1 (upd_h (by decide) h)
        exact ⟨C, h1, h2, by rw [updD_ne (by decide)]; exact set3_far h3 (fun e => hI.out.ne (upd_h (by decide) h) (hdep 11 (by decide) (by kernel_rfl)) C B h1 e7 e.symm)⟩
      · exact ⟨B, rfl, hB, by rw [updD_self, if_pos rfl]; exact set3_blk zb.out⟩
  · intro d us w2 hall hI
    obtain ⟨B, e7, hB, hblk⟩ := hI.a1 (hall 10 (by decide))
    obtain ⟨C, e8, hC, hblk2⟩ := hI.a2 (hall 11 (by decide))
    rw [hall 12 (by decide), if_pos rfl] at hblk
    rw [hall 13 (by decide), if_pos rfl] at hblk2
    have HB2 := Lib.hid (Below.next HB.out.drew hI.be)
    have HX2 := Lib.hid (HXd.out.below hI.be)
    simp only [overU, List.foldl]
    rw [e7, e8]
    clear hI hall HB HX HXd HR HP HRd HPd hB hC hXlt
    clear e7 e8
    obtain ⟨ak, ai, at_⟩ := dl
    obtain ⟨bk, bi, bt⟩ := dr
    unfold valC at hblk hblk2
    have HL := Lib.hid hblk
    have HQ := Lib.hid hblk2
    clear hblk hblk2
    generalize us 24 = u24
    generalize us 29 = u29
    clear us
    have zl := HL.out.cell
    go_wp2_with fail
    refine (real_any ⟨ak, ai, at_⟩ _).mono ?_
    rintro e w3 ⟨rfl, hb3⟩
    have HB3 := Lib.hid (Below.next HB2.out hb3)
    have HX3 := Lib.hid (HX2.out.below hb3)
    have HL3 := Lib.hid (HL.out.below hb3)
    have HQ3 := Lib.hid (HQ.out.below hb3)
    clear zl hb3 HL HQ HX2 HB2
    obtain ⟨qa, Hqa⟩ : ∃ z, Hid (realV ⟨ak, ai, at_⟩ = z) := ⟨_, rfl⟩
    rw [Hqa.out]
    cases qa
    · obtain rfl : false = rr := by rw [← Hrr.out, cmpOk, Hqa.out]; rfl
      go_wp2
      go_ret
      exact ⟨rfl, HB3.out⟩
    have zq := HQ3.out.cell
    go_wp2_with fail
    refine (real_any ⟨bk, bi, bt⟩ _).mono ?_
    rintro e w4 ⟨rfl, hb4⟩
    have HB4 := Lib.hid (Below.next HB3.out hb4)
    have HX4 := Lib.hid (HX3.out.below hb4)
    have HL4 := Lib.hid (HL3.out.below hb4)
    have HQ4 := Lib.hid (HQ3.out.below hb4)
    clear zq hb4 HL3 HQ3 HX3 HB3
    obtain ⟨qb, Hqb⟩ : ∃ z, Hid (realV ⟨bk, bi, bt⟩ = z) := ⟨_, rfl⟩
    rw [Hqb.out]
    cases qb
    · obtain rfl : false = rr := by rw [← Hrr.out, cmpOk, Hqa.out, Hqb.out]; rfl
      go_wp2
      go_ret
      exact ⟨rfl, HB4.out⟩
    have zl := HL4.out.cell
    have zq := HQ4.out.cell
    by_cases hk : ak = bk
    rotate_left
    · obtain rfl : false = rr := by rw [← Hrr.out, cmpOk, Hqa.out, Hqb.out, decide_eq_false (show ¬ (⟨ak, ai, at_⟩ : Vl).k = (⟨bk, bi, bt⟩ : Vl).k from hk)]; rfl
      have g1 : (ak != bk) = true := by simpa using hk
      clear hk
      go_wp2
      go_ret
      exact ⟨rfl, HB4.out⟩
    have g1 : (ak != bk) = false := by simpa using hk
    have Hs : Hid (cmpB2 cm (cmpV ⟨ak, ai, at_⟩ ⟨bk, bi, bt⟩) = rr) := Lib.hid (by rw [← Hrr.out, cmpOk, Hqa.out, Hqb.out, decide_eq_true (show (⟨ak, ai, at_⟩ : Vl).k = (⟨bk, bi, bt⟩ : Vl).k from hk)]; rfl)
    clear hk Hrr Hqa Hqb
    have zx := HX4.out.cell
    go_wp2_with fail
    refine (comparison_any cm _).mono ?_
    rintro e w5 ⟨rfl, hb5⟩
    have HB5 := Lib.hid (Below.next HB4.out hb5)
    have HL5 := Lib.hid (HL4.out.below hb5)
    have HQ5 := Lib.hid (HQ4.out.below hb5)
    clear zl zq zx hb5 HL4 HQ4 HX4 HB4 g1
    have zl := HL5.out.cell
    have zq := HQ5.out.cell
    by_cases hcm : 1 ≤ cm ∧ cm ≤ 6
    rotate_left
    · obtain rfl : false = rr := by
        rw [← Hs.out, cmpB2]
        repeat rw [if_neg (by omega)]
      have hf : ordF cm = Value.nilFunc := by
        unfold ordF
        repeat rw [if_neg (by omega)]
      rw [hf]
      have hev := run_neqN
      clear hf hcm Hs
      go_wp2
      go_ret
      exact ⟨rfl, HB5.out⟩
    have hcm : cm = 1 ∨ cm = 2 ∨ cm = 3 ∨ cm = 4 ∨ cm = 5 ∨ cm = 6 := by omega
    rcases hcm with rfl | rfl | rfl | rfl | rfl | rfl
    · rw [show ordF 1 = .func (.func 116) #[] #[] from rfl]
      have hev := run_neqF (.func 116)
      go_wp2_with fail
      refine (compare_any ⟨ak, ai, at_⟩ ⟨bk, bi, bt⟩ _).mono ?_
      rintro e w6 ⟨rfl, hb6⟩
      have HB6 := Lib.hid (Below.next HB5.out hb6)
      clear hb6
      obtain ⟨cv, Hcv⟩ : ∃ z, Hid (cmpV ⟨ak, ai, at_⟩ ⟨bk, bi, bt⟩ = z) := ⟨_, rfl⟩
      rw [Hcv.out] at Hs ⊢
      go_wp2_with fail
      refine (ord_equal cv _).mono ?_
      rintro e w7 ⟨rfl, rfl⟩
      rw [Hs.out]
      clear Hs
      go_wp2
      go_ret
      exact ⟨rfl, HB6.out⟩
    · rw [show ordF 2 = .func (.func 117) #[] #[] from rfl]
      have hev := run_neqF (.func 117)
      go_wp2_with fail
      refine (compare_any ⟨ak, ai, at_⟩ ⟨bk, bi, bt⟩ _).mono ?_
      rintro e w6 ⟨rfl, hb6⟩
      have HB6 := Lib.hid (Below.next HB5.out hb6)
      clear hb6
      obtain ⟨cv, Hcv⟩ : ∃ z, Hid (cmpV ⟨ak, ai, at_⟩ ⟨bk, bi, bt⟩ = z) := ⟨_, rfl⟩
      rw [Hcv.out] at Hs ⊢
      go_wp2_with fail
      refine (ord_different cv _).mono ?_
      rintro e w7 ⟨rfl, rfl⟩
      rw [Hs.out]
      clear Hs
      go_wp2
      go_ret
      exact ⟨rfl, HB6.out⟩
    · rw [show ordF 3 = .func (.func 118) #[] #[] from rfl]
      have hev := run_neqF (.func 118)
      go_wp2_with fail
      refine (compare_any ⟨ak, ai, at_⟩ ⟨bk, bi, bt⟩ _).mono ?_
      rintro e w6 ⟨rfl, hb6⟩
      have HB6 := Lib.hid (Below.next HB5.out hb6)
      clear hb6
      obtain ⟨cv, Hcv⟩ : ∃ z, Hid (cmpV ⟨ak, ai, at_⟩ ⟨bk, bi, bt⟩ = z) := ⟨_, rfl⟩
      rw [Hcv.out] at Hs ⊢
      go_wp2_with fail
      refine (ord_less cv _).mono ?_
      rintro e w7 ⟨rfl, rfl⟩
      rw [Hs.out]
      clear Hs
      go_wp2
      go_ret
      exact ⟨rfl, HB6.out⟩
    · rw [show ordF 4 = .func (.func 119) #[] #[] from rfl]
      have hev := run_neqF (.func 119)
      go_wp2_with fail
      refine (compare_any ⟨ak, ai, at_⟩ ⟨bk, bi, bt⟩ _).mono ?_
      rintro e w6 ⟨rfl, hb6⟩
      have HB6 := Lib.hid (Below.next HB5.out hb6)
      clear hb6
      obtain ⟨cv, Hcv⟩ : ∃ z, Hid (cmpV ⟨ak, ai, at_⟩ ⟨bk, bi, bt⟩ = z) := ⟨_, rfl⟩
      rw [Hcv.out] at Hs ⊢
      go_wp2_with fail
      refine (ord_atMost cv _).mono ?_
      rintro e w7 ⟨rfl, rfl⟩
      rw [Hs.out]
      clear Hs
      go_wp2
      go_ret
      exact ⟨rfl, HB6.out⟩
    · rw [show ordF 5 = .func (.func 120) #[] #[] from rfl]
      have hev := run_neqF (.func 120)
      go_wp2_with fail
      refine (compare_any ⟨ak, ai, at_⟩ ⟨bk, bi, bt⟩ _).mono ?_
      rintro e w6 ⟨rfl, hb6⟩
      have HB6 := Lib.hid (Below.next HB5.out hb6)
      clear hb6
      obtain ⟨cv, Hcv⟩ : ∃ z, Hid (cmpV ⟨ak, ai, at_⟩ ⟨bk, bi, bt⟩ = z) := ⟨_, rfl⟩
      rw [Hcv.out] at Hs ⊢
      go_wp2_with fail
      refine (ord_greater cv _).mono ?_
      rintro e w7 ⟨rfl, rfl⟩
      rw [Hs.out]
      clear Hs
      go_wp2
      go_ret
      exact ⟨rfl, HB6.out⟩
    · rw [show ordF 6 = .func (.func 121) #[] #[] from rfl]
      have hev := run_neqF (.func 121)
      go_wp2_with fail
      refine (compare_any ⟨ak, ai, at_⟩ ⟨bk, bi, bt⟩ _).mono ?_
      rintro e w6 ⟨rfl, hb6⟩
      have HB6 := Lib.hid (Below.next HB5.out hb6)
      clear hb6
      obtain ⟨cv, Hcv⟩ : ∃ z, Hid (cmpV ⟨ak, ai, at_⟩ ⟨bk, bi, bt⟩ = z) := ⟨_, rfl⟩
      rw [Hcv.out] at Hs ⊢
      go_wp2_with fail
      refine (ord_atLeast cv _).mono ?_
      rintro e w7 ⟨rfl, rfl⟩
      rw [Hs.out]
      clear Hs
      go_wp2
      go_ret
      exact ⟨rfl, HB6.out⟩
end Go.Proofs.YtponkkljlbifmaaGreat
