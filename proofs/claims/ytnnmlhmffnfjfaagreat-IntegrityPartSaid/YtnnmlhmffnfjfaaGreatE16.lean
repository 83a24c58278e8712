/-
  Texts: RegionI, RegionB, Pds4, TwoApp.
-/
import Derived.Test.YtnnmlhmffnfjfaaGreatE15
set_option linter.unusedVariables false
/-
  The law for a region that draws its order, by an invariant: operations that only read come first; of each other one it is shown, once, that it keeps what holds of the operations done so far, in whatever order they came. No program here.
-/
namespace Go.Proofs.YtnnmlhmffnfjfaaGreat
open Go.RowKit
set_option maxRecDepth 100000
set_option linter.unusedVariables false

def tmI (a : Act) : Nat → Value := fun d => a.tmps.getD d undef
def updD (d : Nat → Bool) (e : Nat) : Nat → Bool := fun j => if j = e then true else d j
theorem updD_self (d : Nat → Bool) (e : Nat) : updD d e e = true := by simp [updD]
theorem updD_ne {d : Nat → Bool} {e j : Nat} (h : j ≠ e) : updD d e j = d j := by simp [updD, h]
section
variable {P : Program} {ops : Array Oper} {Q : Exit → Act → World → Prop} {R : World → World → Prop} {D : List Nat} {I : (Nat → Bool) → (Nat → Value) → World → Prop} {a1 : Act}
/-- each operation keeps the invariant -/
def stepsI (R : World → World → Prop) (P : Program) (ops : Array Oper) (Q : Exit → Act → World → Prop) (a1 : Act) (D : List Nat) (I : (Nat → Bool) → (Nat → Value) → World → Prop) (es : List Nat) : List Nat → Prop
  | [] => True
  | e :: r => (∀ d us w, d e = false → (∀ j, j ∈ es → reach ops ops.size e j = true → d j = true) → I d us w →
      wpList P ops (Exit.then (fun a' w' => (R w w' ∧ I (updD d e) (tmI a') w') ∧ a' = overU a1 D (tmI a')) Q) [opAt ops e] (overU a1 D us) w) ∧ stepsI R P ops Q a1 D I es r
theorem steps_mem {es : List Nat} : ∀ {r : List Nat}, stepsI R P ops Q a1 D I es r → ∀ e ∈ r, ∀ d us w, d e = false → (∀ j, j ∈ es → reach ops ops.size e j = true → d j = true) → I d us w →
      wpList P ops (Exit.then (fun a' w' => (R w w' ∧ I (updD d e) (tmI a') w') ∧ a' = overU a1 D (tmI a')) Q) [opAt ops e] (overU a1 D us) w
  | [], _, e, he => by cases he
  | x :: r, h, e, he => by
    rcases List.mem_cons.1 he with rfl | he
    · exact h.1
    · exact steps_mem h.2 e he
def backB (ops : Array Oper) : Bool := (List.range ops.size).all fun i => (opAt ops i).after.all fun x => !Region.binds .any x || decide (x.on < i)
/-- what is not listed has a least one, which is ready -/
theorem ready_least (hb : backB ops = true) {listed : Array Bool} (hr : Region.ready .any ops listed = []) (hs : listed.size = ops.size) : ∀ n i, i < n → i < ops.size → listed.getD i false = true := by
  intro n
  induction n with
  | zero => intro i hi; omega
  | succ n ih =>
    intro i hi hlt
    by_cases h : listed.getD i false = true
    · exact h
    · exfalso
      have hm : i ∈ Region.ready .any ops listed := by
        refine mem_ready.2 ⟨?_, opAt ops i, at_of_lt hlt, fun e he hbd => ?_⟩
        · have h1 : i < listed.size := by omega
          rw [Array.getD_eq_getD_getElem?, Array.getElem?_eq_getElem h1] at h ⊢
          simpa using h
        · have h1 := List.all_eq_true.1 hb i (List.mem_range.2 hlt)
          have h2 := Array.all_eq_true_iff_forall_mem.1 h1 e he
          rw [hbd] at h2
          simp only [Bool.not_true, Bool.false_or, decide_eq_true_eq] at h2
          exact ih e.on (by omega) (by omega)
      rw [hr] at hm
      cases hm
theorem size_set {listed : Array Bool} {i : Nat} (h : listed.size = ops.size) : (listed.setIfInBounds i true).size = ops.size := by simp [h]
def undone (d : Nat → Bool) (es : List Nat) : Nat := (es.filter fun e => !d e).length
theorem undone_upd {d : Nat → Bool} {e : Nat} : ∀ {es : List Nat}, es.Nodup → e ∈ es → d e = false → undone (updD d e) es + 1 = undone d es
  | [], _, h, _ => by cases h
  | x :: r, hn, h, hd => by
    have hn' := List.nodup_cons.1 hn
    by_cases hx : x = e
    · subst hx
      have h1 : undone (updD d x) r = undone d r := by
        unfold undone
        congr 1
        refine List.filter_congr fun y hy => ?_
        rw [updD_ne (fun h5 => hn'.1 (by rw [← h5]; exact hy))]
      have h2 : undone (updD d x) (x :: r) = undone (updD d x) r := by unfold undone; simp [updD_self]
      have h3 : undone d (x :: r) = undone d r + 1 := by unfold undone; simp [hd]
      omega
    · have he : e ∈ r := by
        rcases List.mem_cons.1 h with h | h
        · exact absurd h.symm hx
        · exact h
      have ih := undone_upd hn'.2 he hd
      have h2 : undone (updD d e) (x :: r) = undone (updD d e) r + (if d x = false then 1 else 0) := by
        unfold undone
        rw [List.filter_cons, updD_ne hx]
        cases d x <;> simp
      have h3 : undone d (x :: r) = undone d r + (if d x = false then 1 else 0) := by
        unfold undone
        rw [List.filter_cons]
        cases d x <;> simp
      omega
theorem undone_zero {d : Nat → Bool} {es : List Nat} (h : undone d es = 0) : ∀ e ∈ es, d e = true := fun e he => by
  unfold undone at h
  cases hd : d e
  · have : e ∈ es.filter fun e => !d e := List.mem_filter.2 ⟨he, by simp [hd]⟩
    rw [List.eq_nil_of_length_eq_zero h] at this
    cases this
  · rfl
/-- how the list of what is done goes with what is listed -/
def Goes (ops : Array Oper) (l0 : Array Bool) (es : List Nat) (d : Nat → Bool) (listed : Array Bool) : Prop := listed.size = ops.size ∧ ∀ i, i < ops.size → (listed.getD i false = true ↔ l0.getD i false = true ∨ (i ∈ es ∧ d i = true))
theorem inv_any (hb : backB ops = true) {l0 : Array Bool} {es : List Nat} (hes : es.Nodup) (hlt : ∀ e ∈ es, e < ops.size ∧ l0.getD e false = false) (hcov : ∀ i, i < ops.size → l0.getD i false = true ∨ i ∈ es)
    (hst : stepsI R P ops Q a1 D I es es) (hend : ∀ d us w, (∀ e ∈ es, d e = true) → I d us w → Q .normal (overU a1 D us) w) :
    ∀ (fuel : Nat) (d : Nat → Bool) (listed : Array Bool) (us : Nat → Value) (w : World), Goes ops l0 es d listed → Closed ops listed → undone d es = fuel → I d us w → wpAnyR [] R R P .any ops Q fuel listed (overU a1 D us) w
  | 0, d, listed, us, w, hg, hcl, hu, hI => by
    have hall := undone_zero hu
    refine ⟨?_, hend d us w hall hI⟩
    unfold Region.ready
    rw [List.filter_eq_nil_iff]
    intro i hi
    have hi := List.mem_range.1 hi
    have h1 : listed.getD i true = true := getD_ft ((hg.2 i hi).2 (by
      rcases hcov i hi with h | h
      · exact .inl h
      · exact .inr ⟨h, hall i h⟩))
    simp [h1]
  | fuel + 1, d, listed, us, w, hg, hcl, hu, hI => by
    refine ⟨fun hr => ?_, fun i hi => ?_⟩
    · have h1 := ready_least hb hr hg.1
      refine hend d us w (fun e he => ?_) hI
      have h2 := h1 (e + 1) e (by omega) (hlt e he).1
      rcases (hg.2 e (hlt e he).1).1 h2 with h | h
      · rw [(hlt e he).2] at h; cases h
      · exact h.2
    · obtain ⟨hun, oj, hoj, hall⟩ := mem_ready.1 hi
      have hilt : i < ops.size := (Array.getElem?_eq_some_iff.1 hoj).1
      have hnl : listed.getD i false = false := getD_tf hun
      have hie : i ∈ es := by
        rcases hcov i hilt with h | h
        · rw [(hg.2 i hilt).2 (.inl h)] at hnl; cases hnl
        · exact h
      have hdi : d i = false := by
        cases hd : d i
        · rfl
        · rw [(hg.2 i hilt).2 (.inr ⟨hie, hd⟩)] at hnl; cases hnl
      have hdeps : ∀ j, j ∈ es → reach ops ops.size i j = true → d j = true := fun j hj hre => by
        have h1 := reach_closed hcl ops.size i j hre oj hoj hall
        rcases (hg.2 j (hlt j hj).1).1 h1 with h | h
        · rw [(hlt j hj).2] at h; cases h
        · exact h.2
      have h1 := op_of_list (at_of_lt hilt) (steps_mem hst i hie d us w hdi hdeps hI)
      refine wpOp_mono (fun a' w' h2 => ⟨⟨fun _ => .inr h2.1.1, .inr h2.1.1⟩, ?_⟩) h1
      rw [h2.2]
      refine inv_any hb hes hlt hcov hst hend fuel (updD d i) _ _ _ ⟨size_set hg.1, fun q hq => ?_⟩ (hcl.more hoj hall) (by have := undone_upd hes hie hdi; omega) h2.1.2
      by_cases hqi : q = i
      · subst hqi
        have h3 : (listed.setIfInBounds q true).getD q false = true := by
          rw [Array.getD_eq_getD_getElem?, Array.getElem?_setIfInBounds]
          have : q < listed.size := by have := hg.1; omega
          simp [this]
        rw [h3, updD_self]
        simp [hie]
      · have h3 : (listed.setIfInBounds i true).getD q false = listed.getD q false := by
          rw [Array.getD_eq_getD_getElem?, Array.getD_eq_getD_getElem?, Array.getElem?_setIfInBounds_ne (Ne.symm hqi)]
        rw [h3, updD_ne hqi]
        exact hg.2 q hq
def checkI (ops : Array Oper) (qs es : List Nat) : Bool := match checkV [] ops qs (Array.replicate ops.size false) with
  | some l0 => decide (l0.size = ops.size) && (backB ops && (decide es.Nodup && (es.all (fun e => decide (e < ops.size) && !l0.getD e false) && ((List.range ops.size).all (fun i => l0.getD i false || es.contains i) && decide (qs.length + es.length = ops.size)))))
  | none => false
/-- THE LAW -/
theorem wp_region_inv {id : Nat} {a : Act} {w : World} {l : List Oper} (R : World → World → Prop) (hR : ∀ a b c, R a b → R b c → R a c) (D qs es : List Nat) (I : (Nat → Bool) → (Nat → Value) → World → Prop) (hm : P.follows .mixedOrders = true)
    (hc : (Region.noSelect l.toArray && checkI l.toArray qs es) = true)
    (hQ : ∀ c a d v w, Q (.panic c) (Act.put a d v) w → Q (.panic c) a w)
    (h : wpQuiet P l.toArray (fun W => ∃ x : LaterR R w.drew, W = afterR R w.drew x) (fun a1 => a1 = overU a1 D (tmI a1) ∧ I (fun _ => false) (tmI a1) w.drew ∧ stepsI R P l.toArray Q a1 D I es es ∧ (∀ d us w', (∀ e ∈ es, d e = true) → I d us w' → Q .normal (overU a1 D us) w')) (pickOps l.toArray qs) a) :
    (Code.region id l.toArray true).wp P Q a w := by
  rw [Bool.and_eq_true] at hc
  obtain ⟨hns, hk⟩ := hc
  unfold checkI at hk
  split at hk
  · rename_i l0 hl0
    simp only [Bool.and_eq_true, decide_eq_true_eq] at hk
    obtain ⟨hsz, hb, hnd, hlt, hcov, hlen⟩ := hk
    refine wp_region_any hm ?_
    have key := quiet_blockR (late := []) (R1 := R) (R2 := R) (Q := Q) hR [] (fun j w w' _ he => he.2) hns hQ (w := w.drew) (fuel := es.length) (l' := l0)
      (K := fun a1 => a1 = overU a1 D (tmI a1) ∧ I (fun _ => false) (tmI a1) w.drew ∧ stepsI R P l.toArray Q a1 D I es es ∧ (∀ d us w', (∀ e ∈ es, d e = true) → I d us w' → Q .normal (overU a1 D us) w'))
      (fun a1 hcl ⟨h0, h1, h2, h3⟩ => by
        rw [h0]
        refine inv_any (l0 := l0) (es := es) hb hnd (fun e he => ?_) (fun i hi => ?_) h2 h3 es.length (fun _ => false) l0 (tmI a1) w.drew ⟨hsz, fun i hi => ⟨fun h => .inl h, fun h => by
          rcases h with h | ⟨_, h⟩
          · exact h
          · cases h⟩⟩ hcl (by unfold undone; simp) h1
        · have := List.all_eq_true.1 hlt e he
          simpa using this
        · have := List.all_eq_true.1 hcov i (List.mem_range.2 hi)
          simpa using this) qs (Array.replicate l.toArray.size false) a (Closed.start _) hl0 h
    rw [hlen] at key
    exact wpAny_of_R _ _ _ _ key
  · cases hk
end
end Go.Proofs.YtnnmlhmffnfjfaaGreat

/-
  The law for a region that draws its order, where two operations with an effect may come in either order: a plan that parts. No program here.
-/
namespace Go.Proofs.YtnnmlhmffnfjfaaGreat
open Go.RowKit
set_option maxRecDepth 100000
set_option linter.unusedVariables false

inductive PlanB where
  | last (qs : List Nat)
  | one (qs : List Nat) (e : Nat) (t : PlanB)
  | two (qs : List Nat) (e : Nat) (t : PlanB) (f : Nat) (s : PlanB)
def PlanB.len : PlanB → Nat
  | .last qs => qs.length
  | .one qs _ t => qs.length + (t.len + 1)
  | .two qs _ t _ _ => qs.length + (t.len + 1)
section
variable {P : Program} {ops : Array Oper} {Q : Exit → Act → World → Prop} {R : World → World → Prop}
end
end Go.Proofs.YtnnmlhmffnfjfaaGreat

/-
  The state of RegionProducts between its statements: the boxes of a, b and of the region that was handed in.
-/
namespace Go.Proofs.YtnnmlhmffnfjfaaGreat
open Go.RowKit
set_option maxRecDepth 100000
open Rg

def lessB (B : Nat) (a b : World) : Prop := Below B a b
theorem lessB_of {B B' : Nat} {a b : World} (h : Below B' a b) (hB : B ≤ B') : lessB B a b := ⟨h.os, h.tape, h.output, h.size, fun q hq => h.block q (Nat.lt_of_lt_of_le hq hB)⟩
theorem lessB_trans (B : Nat) : ∀ a b c, lessB B a b → lessB B b c → lessB B a c := fun _ _ _ h k => ⟨k.os.trans h.os, k.tape.trans h.tape, k.output.trans h.output, Nat.le_trans h.size k.size, fun q hq => (k.block q hq).trans (h.block q hq)⟩
theorem keep_blk {w w' : World} {B V : Nat} {T : TypeId} {cs : Array Value} (h : Blk w V T cs) (hb : Below B w w') (hV : V < B) : Blk w' V T cs := (hb.block V hV).trans h
/-- a region in a box -/
structure BxQ (w : World) (V : Nat) (x : Int) (f : Bool) (A : Option Addr) (n c : Nat) (r : Rg) : Prop where
  b : Blk w V 71 #[.int .i64 x, .bool f, .slice A n c]
  s : RgS w x f A n c r
section
variable {w w' : World} {V : Nat} {x : Int} {f : Bool} {A : Option Addr} {n c : Nat} {r : Rg}
theorem BxQ.case {g : Nat} (h : BxQ w V x f A n c r) (hc : CaseAt w g) (hb : But (· = g) w w') : BxQ w' V x f A n c r := ⟨h.b.but hb (hc.ne h.b (by decide)), h.s.case hc hb⟩
theorem BxQ.below (h : BxQ w V x f A n c r) (hb : Below w.heap.size w w') : BxQ w' V x f A n c r := ⟨h.b.below hb, h.s.keep (keeps_of hb)⟩
theorem BxQ.alloc (h : BxQ w V x f A n c r) (o : Obj) : BxQ (w.alloc o) V x f A n c r := ⟨h.b.alloc o, h.s.keep (keeps_alloc w o)⟩
/-- a region goes into another box -/
theorem BxQ.off (h : BxQ w V x f A n c r) {B : Nat} {x' : Int} {f' : Bool} {A' : Option Addr} {n' c' : Nat} (hB : Blk w B 71 #[.int .i64 x', .bool f', .slice A' n' c']) (hb : But (· = B) w w') (hne : V ≠ B) : BxQ w' V x f A n c r := ⟨h.b.but hb hne, h.s.off hB hb⟩
theorem BxQ.put {x' : Int} {f' : Bool} {A' : Option Addr} {n' c' : Nat} {r' : Rg} (h : BxQ w V x f A n c r) (hr : RgS w x' f' A' n' c' r') : BxQ (put3R w V (.int .i64 x') (.bool f') (.slice A' n' c')) V x' f' A' n' c' r' :=
  ⟨put3R_blk h.b, hr.off h.b (put3R_but _ _ _ _ _)⟩
end
/-- the three boxes -/
structure PdS (w : World) (g Va Vb Vw : Nat) (xa : Int) (fa : Bool) (Aa : Option Addr) (na ca : Nat) (ra : Rg) (xb : Int) (fb : Bool) (Ab : Option Addr) (nb cb : Nat) (rb : Rg) (xw : Int) (fw : Bool) (Aw : Option Addr) (nw cw : Nat) (rw_ : Rg) (wr : World) : Prop where
  a : BxQ wr Va xa fa Aa na ca ra
  b : BxQ wr Vb xb fb Ab nb cb rb
  r : BxQ wr Vw xw fw Aw nw cw rw_
  cs : CaseAt wr g
  bel : Below w.heap.size w wr
  hg : w.heap.size ≤ g
  hVa : w.heap.size ≤ Va
  hVb : w.heap.size ≤ Vb
  hab : Va ≠ Vb
  hra : Va ≠ Vw
  hrb : Vb ≠ Vw
section
variable {w wr w' : World} {g Va Vb Vw : Nat} {xa : Int} {fa : Bool} {Aa : Option Addr} {na ca : Nat} {ra : Rg} {xb : Int} {fb : Bool} {Ab : Option Addr} {nb cb : Nat} {rb : Rg} {xw : Int} {fw : Bool} {Aw : Option Addr} {nw cw : Nat} {rw_ : Rg}
theorem PdS.case (h : PdS w g Va Vb Vw xa fa Aa na ca ra xb fb Ab nb cb rb xw fw Aw nw cw rw_ wr) (hc : CaseAt w' g) (hb : But (· = g) wr w') : PdS w g Va Vb Vw xa fa Aa na ca ra xb fb Ab nb cb rb xw fw Aw nw cw rw_ w' :=
  ⟨h.a.case h.cs hb, h.b.case h.cs hb, h.r.case h.cs hb, hc, hb.below h.bel h.bel.size (fun k hk => by subst hk; exact h.hg), h.hg, h.hVa, h.hVb, h.hab, h.hra, h.hrb⟩
end
end Go.Proofs.YtnnmlhmffnfjfaaGreat

/-
  Two rows of numbers that grow in one statement, in whatever order. No program here.
-/
namespace Go.Proofs.YtnnmlhmffnfjfaaGreat
open Go.RowKit
set_option maxRecDepth 100000
set_option linter.unusedVariables false

/-- two rows of the call's own, and what is to be appended to them, where it lies already -/
structure Pr (H : Nat) (w0 w : World) (v1 : Value) (n1 : Nat) (xs1 : List Value) (v2 : Value) (n2 : Nat) (xs2 : List Value) (l1 l2 : Option (Nat × Value)) : Prop where
  o1 : w.ownsRow H 3 1 v1 n1 xs1
  o2 : w.ownsRow H 3 1 v2 n2 xs2
  ne : ∀ b, v1.ownBlock = some b → v2.ownBlock ≠ some b
  b1 : ∀ q, l1 = some q → Blk w q.1 3 #[q.2] ∧ v1.ownBlock ≠ some q.1 ∧ v2.ownBlock ≠ some q.1
  b2 : ∀ q, l2 = some q → Blk w q.1 3 #[q.2] ∧ v1.ownBlock ≠ some q.1 ∧ v2.ownBlock ≠ some q.1
  be : Below H w0 w
section
variable {H : Nat} {w0 w : World} {v1 : Value} {n1 : Nat} {xs1 : List Value} {v2 : Value} {n2 : Nat} {xs2 : List Value} {l1 l2 : Option (Nat × Value)}
theorem Pr.drew (h : Pr H w0 w v1 n1 xs1 v2 n2 xs2 l1 l2) : Pr H w0 w.drew v1 n1 xs1 v2 n2 xs2 l1 l2 :=
  ⟨h.o1.drew, h.o2.drew, h.ne, fun q e => ⟨(h.b1 q e).1.drew, (h.b1 q e).2⟩, fun q e => ⟨(h.b2 q e).1.drew, (h.b2 q e).2⟩, h.be.drew⟩
theorem Pr.build (h : Pr H w0 w v1 n1 xs1 v2 n2 xs2 none l2) (hH : H ≤ w0.heap.size) (x : Value) : Pr H w0 (w.alloc (.cells #[x] 3)) v1 n1 xs1 v2 n2 xs2 (some (w.heap.size, x)) l2 :=
  ⟨h.o1.alloc _, h.o2.alloc _, h.ne, fun q e => by
    obtain rfl : q = (w.heap.size, x) := by injection e with e; exact e.symm
    exact ⟨Blk.new _ _ _, fun e => by have := (own_lt h.o1 e).2.1; simp at this, fun e => by have := (own_lt h.o2 e).2.1; simp at this⟩, fun q e => ⟨(h.b2 q e).1.alloc _, (h.b2 q e).2⟩, h.be.alloc (by have := h.be.size; omega) _⟩
theorem Pr.app {w' : World} {g cap x' : Nat} {x : Value} (h : Pr H w0 w v1 n1 xs1 v2 n2 xs2 (some (x', x)) l2) (hH : H ≤ w0.heap.size)
    (ho : w'.ownsRow H 3 1 (.slice (some ⟨g, 0, none⟩) (n1 + 1) cap) (n1 + 1) (xs1 ++ [x])) (hg : w.grownBy w' v1.ownBlock) (ha : v1.ownBlock = some g ∨ g = w.heap.size) :
    Pr H w0 w' (.slice (some ⟨g, 0, none⟩) (n1 + 1) cap) (n1 + 1) (xs1 ++ [x]) v2 n2 xs2 none l2 := by
  have hn : v2.ownBlock ≠ some g := fun e => by
    rcases ha with h1 | h1
    · exact h.ne g h1 e
    · have := (own_lt h.o2 e).2.1
      omega
  refine ⟨ho, own_at h.o2 fun k _ hk e => hg.block k hk (fun e2 => h.ne k e2.symm e), fun b e1 e2 => ?_, fun q e => (by cases e), fun q e => ?_, h.be.grown hg (by have := h.be.size; omega) (own_base h.o1)⟩
  · simp only [Value.ownBlock, Option.some.injEq] at e1
    subst e1
    exact hn e2
  · obtain ⟨q1, q2, q3⟩ := h.b2 q e
    refine ⟨q1.grown hg (fun e2 => q2 e2.symm), fun e2 => ?_, q3⟩
    simp only [Value.ownBlock, Option.some.injEq] at e2
    rcases ha with h1 | h1
    · rw [e2] at h1; exact q2 h1
    · have := q1.lt
      omega
theorem Pr.less {w' : World} {v1' v2' : Value} {n1' n2' : Nat} {xs1' xs2' : List Value} {l1' l2' : Option (Nat × Value)} (h : Pr H w w' v1 n1 xs1 v2 n2 xs2 l1 l2) : lessB H w w' := h.be
end
end Go.Proofs.YtnnmlhmffnfjfaaGreat
