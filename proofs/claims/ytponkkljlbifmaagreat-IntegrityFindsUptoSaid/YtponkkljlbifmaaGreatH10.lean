/-
  Texts: Pj4, BdSet, GHas, Graft, RegionR, FHas, GBoxes, GShape, ProjP, RgLaw2, RgLaw3, PtLaw, GLeast, PjLaw, BdP, BdCase.
-/
import Derived.Test.YtponkkljlbifmaaGreatH9
import Derived.Deep.Cut
set_option linter.unusedVariables false
/-
  The state of the laws on projections between their statements; columns as argument.
-/
namespace Go.Proofs.YtponkkljlbifmaaGreat
open Go.RowKit
set_option maxRecDepth 100000
open Rg

section
variable {w w' : World} {V : Nat} {x : Int} {f : Bool} {A : Option Addr} {n c : Nat} {r : Rg}
end
/-- columns that lie neither in the block g nor in a region's box -/
structure ClJ (B g : Nat) (w : World) (A : Option Addr) (n : Nat) (cs : List Int) : Prop where
  sl : ClS w A n cs
  ne : 0 < n → ∀ b o, A = some ⟨b, o, none⟩ → b ≠ g ∧ (b < B ∨ ∃ cells, w.heap[b]? = some (.cells cells 3 (0, 0)))
section
variable {B g : Nat} {w w' : World} {A : Option Addr} {n : Nat} {cs : List Int}
theorem ClJ.but {S : Nat → Prop} (h : ClJ B g w A n cs) (hb : But S w w') (hs : ∀ b o, 0 < n → A = some ⟨b, o, none⟩ → ¬ S b) : ClJ B g w' A n cs :=
  ⟨h.sl.but hb (fun hn b o hA => hs b o hn hA), fun hn b o hA => ⟨(h.ne hn b o hA).1, by
    rcases (h.ne hn b o hA).2 with h1 | ⟨cells, h1⟩
    · exact .inl h1
    · refine .inr ⟨cells, ?_⟩
      have hlt : b < w.heap.size := by
        rcases Nat.lt_or_ge b w.heap.size with h2 | h2
        · exact h2
        · rw [Array.getElem?_eq_none h2] at h1; cases h1
      rw [hb.block b hlt (hs b o hn hA)]
      exact h1⟩⟩
theorem ClJ.case (h : ClJ B g w A n cs) (hb : But (· = g) w w') : ClJ B g w' A n cs := h.but hb fun b o hn hA => (h.ne hn b o hA).1
theorem ClJ.below (h : ClJ B g w A n cs) (hb : Below w.heap.size w w') : ClJ B g w' A n cs := h.but (S := fun _ => False) (But.of_below hb) fun _ _ _ _ h => h
end
section
variable {w wr w' : World} {g Va Vw : Nat} {xa : Int} {fa : Bool} {Aa : Option Addr} {na ca : Nat} {ra : Rg} {xw : Int} {fw : Bool} {Aw : Option Addr} {nw cw : Nat} {rw_ : Rg} {Al : Option Addr} {nl : Nat} {cs : List Int}
end
/-- what is left of it at the end -/
structure PjT (w : World) (g : Nat) (Al : Option Addr) (nl : Nat) (cs : List Int) (wr : World) : Prop where
  kk : CaseAt wr g
  cl : ClJ w.heap.size g wr Al nl cs
  bel : Below w.heap.size w wr
  hg : w.heap.size ≤ g
end Go.Proofs.YtponkkljlbifmaaGreat

/-
  Plain: the set of the values of a kind that compare so with a value, as the program and as the reference make it. No program here.
-/
namespace Go.Proofs.YtponkkljlbifmaaGreat
open Go.RowKit
set_option maxRecDepth 100000

theorem v3 : validV ⟨3, 0, ⟨#[]⟩⟩ = true := by decide +kernel
theorem v4 : validV ⟨4, minI, ⟨#[]⟩⟩ = true := by decide +kernel
theorem v5 : validV ⟨5, 0, ⟨#[]⟩⟩ = true := by decide +kernel
/-- the set as the reference makes it -/
def cmpSet (cm : Int) (v : Vl) : List Iv :=
  let kd := (kindL v.k).1
  let fr := (fromL v).1
  let on := (oneL v).1
  if cm = 1 then on else if cm = 2 then combR opM kd on else if cm = 3 then combR opM kd fr else if cm = 4 then combR opU (combR opM kd fr) on
  else if cm = 5 then combR opM (combR opI kd fr) on else combR opI kd fr
section
variable {v : Vl} (hv : validV v = true) (hr : rngV v) (hk : 3 ≤ v.k)
include hv hr hk
end
end Go.Proofs.YtponkkljlbifmaaGreat

/-
  The program's Has of a region and a row.
-/
namespace Go.Proofs.YtponkkljlbifmaaGreat
open Go.RowKit
set_option maxRecDepth 100000
open Rg

end Go.Proofs.YtponkkljlbifmaaGreat

/-
  Plain: one region in the place of the empty row of another; how many boxes a region has. No walk here.
-/
namespace Go.Proofs.YtponkkljlbifmaaGreat
open Go.RowKit
set_option maxRecDepth 100000
open Rg

end Go.Proofs.YtponkkljlbifmaaGreat

/-
  The law for a region that draws its order, with what a quiet operation may rely on said as a relation of worlds, and with late operations (stores) that wait for all that was read before. No program here.
-/
namespace Go.Proofs.YtponkkljlbifmaaGreat
open Go.RowKit
set_option maxRecDepth 100000
set_option linter.unusedVariables false

structure LaterR (R : World → World → Prop) (w : World) where
  nxt : World
  rel : nxt = w ∨ R w nxt
instance (R : World → World → Prop) (w : World) : Nonempty (LaterR R w) := ⟨⟨w, .inl rfl⟩⟩
instance (R : World → World → Prop) (w : World) : Inhabited (LaterR R w) := ⟨⟨w, .inl rfl⟩⟩
def afterR (R : World → World → Prop) (w : World) (x : LaterR R w) : World := x.nxt
abbrev clsR (R : World → World → Prop) (w : World) : World → Prop := fun W => ∃ x : LaterR R w, W = afterR R w x
theorem clsR_iff {R : World → World → Prop} {w W : World} : clsR R w W ↔ (W = w ∨ R w W) := ⟨fun ⟨x, h⟩ => by rw [h]; exact x.rel, fun h => ⟨⟨W, h⟩, rfl⟩⟩
theorem LaterR.cell {R : World → World → Prop} {w : World} (y : LaterR R w) {a : Addr} {v : Option Value} (h0 : w.cell? a = v) (h : ∀ W, R w W → W.cell? a = v) : (afterR R w y).cell? a = v := by
  rcases y.rel with e | e
  · show y.nxt.cell? a = v
    rw [e]
    exact h0
  · exact h _ e
inductive PlanR where
  | last (qs ws : List Nat)
  | one (qs ws : List Nat) (e : Nat) (t : PlanR)
def PlanR.len : PlanR → Nat
  | .last qs ws => qs.length + ws.length
  | .one qs ws _ t => qs.length + (ws.length + (t.len + 1))
/-- what an operation with an effect keeps: R1 unless it is late, R2 always -/
structure Eff (late : List Nat) (R1 R2 : World → World → Prop) (i : Nat) (w w' : World) : Prop where
  r1 : i ∉ late → R1 w w'
  r2 : R2 w w'
def EffC (late : List Nat) (R1 R2 : World → World → Prop) (i : Nat) (w w' : World) : Prop := (i ∉ late → w' = w ∨ R1 w w') ∧ (w' = w ∨ R2 w w')
theorem Eff.c {late : List Nat} {R1 R2 : World → World → Prop} {i : Nat} {w w' : World} (h : Eff late R1 R2 i w w') : EffC late R1 R2 i w w' := ⟨fun hn => .inr (h.r1 hn), .inr h.r2⟩
theorem EffC.refl {late : List Nat} {R1 R2 : World → World → Prop} {i : Nat} {w : World} : EffC late R1 R2 i w w := ⟨fun _ => .inl rfl, .inl rfl⟩
/-- f waits for i, through others or at once -/
def reach (ops : Array Oper) : Nat → Nat → Nat → Bool
  | 0, _, _ => false
  | n + 1, f, i => match ops[f]? with
    | none => false
    | some o => o.after.any fun e => Region.binds .any e && (e.on == i || reach ops n e.on i)
/-- what is listed has all that it waits for listed -/
def Closed (ops : Array Oper) (listed : Array Bool) : Prop := ∀ k o, ops[k]? = some o → listed.getD k true = true → ∀ e ∈ o.after, Region.binds .any e = true → listed.getD e.on false = true
theorem getD_ft {l : Array Bool} {k : Nat} (h : l.getD k false = true) : l.getD k true = true := by
  rw [Array.getD_eq_getD_getElem?] at h ⊢
  cases hk : l[k]? with
  | none => rfl
  | some b => rw [hk] at h; exact h
theorem getD_tf {l : Array Bool} {k : Nat} (h : l.getD k true = false) : l.getD k false = false := by
  rw [Array.getD_eq_getD_getElem?] at h ⊢
  cases hk : l[k]? with
  | none => rfl
  | some b => rw [hk] at h; exact h
theorem getD_more {l : Array Bool} {j k : Nat} (h : l.getD k false = true) : (l.setIfInBounds j true).getD k false = true := by
  by_cases hjk : j = k
  · subst hjk
    rw [Array.getD_eq_getD_getElem?] at h ⊢
    rw [Array.getElem?_setIfInBounds]
    by_cases hj : j < l.size
    · simp [hj]
    · simp [Array.getElem?_eq_none (Nat.le_of_not_lt hj)] at h
  · rw [getD_set_ne false hjk]
    exact h
theorem reach_closed {ops : Array Oper} {listed : Array Bool} (hc : Closed ops listed) : ∀ (n f i : Nat), reach ops n f i = true → ∀ o, ops[f]? = some o → (∀ e ∈ o.after, Region.binds .any e = true → listed.getD e.on false = true) → listed.getD i false = true
  | 0, _, _, h, _, _, _ => by cases h
  | n + 1, f, i, h, o, ho, hall => by
    unfold reach at h
    rw [ho] at h
    simp only [Array.any_eq_true', Bool.and_eq_true, Bool.or_eq_true, beq_iff_eq] at h
    obtain ⟨e, he, hb, h⟩ := h
    rcases h with h | h
    · rw [← h]; exact hall e he hb
    · have h1 := hall e he hb
      cases hk : ops[e.on]? with
      | none => cases n with
        | zero => cases h
        | succ n => unfold reach at h; rw [hk] at h; cases h
      | some o' => exact reach_closed hc n e.on i h o' hk fun e' he' hb' => hc e.on o' hk (getD_ft h1) e' he' hb'
theorem Closed.more {ops : Array Oper} {listed : Array Bool} (hc : Closed ops listed) {j : Nat} {oj : Oper} (hoj : ops[j]? = some oj) (hall : ∀ e ∈ oj.after, Region.binds .any e = true → listed.getD e.on false = true) : Closed ops (listed.setIfInBounds j true) := by
  intro k o ho hk e he hb
  by_cases hjk : j = k
  · subst hjk
    rw [hoj] at ho
    injection ho with ho
    subst ho
    exact getD_more (hall e he hb)
  · rw [getD_set_ne true hjk] at hk
    exact getD_more (hc k o ho hk e he hb)
theorem Closed.start (ops : Array Oper) : Closed ops (Array.replicate ops.size false) := by
  intro k o ho hk
  have hlt : k < ops.size := (Array.getElem?_eq_some_iff.1 ho).1
  rw [Array.getD_eq_getD_getElem?, Array.getElem?_replicate, if_pos hlt] at hk
  cases hk
def lateOk (late : List Nat) (ops : Array Oper) (listed : Array Bool) (i : Nat) : Bool := late.all fun f => listed.getD f true || reach ops ops.size f i
def checkV (late : List Nat) (ops : Array Oper) : List Nat → Array Bool → Option (Array Bool)
  | [], listed => some listed
  | i :: r, listed => if plainAt ops i && (Region.ready .any ops listed).contains i && Region.free .any ops listed i && lateOk late ops listed i then checkV late ops r (listed.setIfInBounds i true) else none
section
variable {P : Program} {ops : Array Oper} {Q : Exit → Act → World → Prop} {md : Region.Mode} {R1 R2 : World → World → Prop} {late : List Nat}
def wpAnyR (late : List Nat) (R1 R2 : World → World → Prop) (P : Program) (md : Region.Mode) (ops : Array Oper) (Q : Exit → Act → World → Prop) : Nat → Array Bool → Act → World → Prop
  | 0, listed, a, w => Region.ready md ops listed = [] ∧ Q .normal a w
  | fuel + 1, listed, a, w =>
    (Region.ready md ops listed = [] → Q .normal a w) ∧
    ∀ i ∈ Region.ready md ops listed, wpOp P ops Q i (fun a' w' => EffC late R1 R2 i w w' ∧ wpAnyR late R1 R2 P md ops Q fuel (listed.setIfInBounds i true) a' w') a w

theorem wpAny_of_R : ∀ (fuel : Nat) (listed : Array Bool) (a : Act) (w : World), wpAnyR late R1 R2 P md ops Q fuel listed a w → wpAny P md ops Q fuel listed a w
  | 0, _, _, _, h => h
  | fuel + 1, _, _, _, h => ⟨h.1, fun i hi => wpOp_mono (fun a' w' h' => wpAny_of_R fuel _ a' w' h'.2) (h.2 i hi)⟩

/-- a quiet operation may come first -/
theorem wpAnyR_first {R : World → World → Prop} (hR : ∀ a b c, R a b → R b c → R a c) (ok : Nat → Prop) (hok : ∀ j w w', ok j → EffC late R1 R2 j w w' → w' = w ∨ R w w')
    {i : Nat} {oi : Oper} {v : Value} (hi : ops[i]? = some oi) (hsel : ∀ (j : Nat) (o : Oper) cs b, ops[j]? = some o → o.op ≠ .select cs b)
    (hQ : ∀ c a w, Q (.panic c) (a.put oi.dst v) w → Q (.panic c) a w) :
    ∀ (fuel : Nat) (listed : Array Bool) (a : Act) (w : World), Closed ops listed →
      (∀ f, ¬ ok f → listed.getD f true = false → reach ops ops.size f i = true) →
      (∀ j oj, ops[j]? = some oj → j ≠ i → listed.getD j true = false → (∀ e ∈ oj.after, Region.binds .any e = true → e.on ≠ i) → oi.apart ops oj = true) →
      i ∈ Region.ready .any ops listed → YieldsIf P ops (fun W => W = w ∨ R w W) oi v a →
      wpAnyR late R1 R2 P .any ops Q fuel (listed.setIfInBounds i true) (a.put oi.dst v) w → wpAnyR late R1 R2 P .any ops Q (fuel + 1) listed a w := by
  intro fuel
  induction fuel with
  | zero =>
    intro listed a w _ _ _ hr hy H
    refine ⟨fun h => (by rw [h] at hr; cases hr), fun j hj => ?_⟩
    by_cases hji : j = i
    · subst hji; exact hy.wpOp hi (.inl rfl) ⟨EffC.refl, H⟩
    · have := ready_mono hj hji
      rw [H.1] at this
      cases this
  | succ fuel ih =>
    intro listed a w hcl hfin hfree hr hy H
    refine ⟨fun h => (by rw [h] at hr; cases hr), fun j hj => ?_⟩
    by_cases hji : j = i
    · subst hji; exact hy.wpOp hi (.inl rfl) ⟨EffC.refl, H⟩
    · have h1 := H.2 j (ready_mono hj hji)
      obtain ⟨hjun, oj, hoj, hall⟩ := mem_ready.1 hj
      have h0 := (mem_ready.1 hr).1
      have hnot : ∀ e ∈ oj.after, Region.binds .any e = true → e.on ≠ i := fun e he hb heq => by
        have h1 := hall e he hb
        rw [heq, getD_tf h0] at h1
        cases h1
      have h2 := wpOp_putIf hoj (hfree j oj hoj hji hjun hnot) (fun cs b => hsel i oi cs b hi) (fun cs b => hsel j oj cs b hoj) hQ hy h1
      have hun' : ∀ k, (listed.setIfInBounds j true).getD k true = false → listed.getD k true = false := fun k hun => by
        by_cases hjk : j = k
        · subst hjk; exact hjun
        · rw [getD_set_ne true hjk] at hun; exact hun
      have hfree' : ∀ k ok, ops[k]? = some ok → k ≠ i → (listed.setIfInBounds j true).getD k true = false →
          (∀ e ∈ ok.after, Region.binds .any e = true → e.on ≠ i) → oi.apart ops ok = true := fun k ok hk hki hun hno => hfree k ok hk hki (hun' k hun) hno
      refine wpOp_mono (fun a' w' h3 => ⟨h3.2.1, ih (listed.setIfInBounds j true) a' w' (hcl.more hoj hall) (fun f hf hu => hfin f hf (hun' f hu)) hfree' (ready_mono hr (Ne.symm hji)) (YieldsIf.shrink (fun W hW => ?_) h3.1) ?_⟩) h2
      · by_cases hj1 : ok j
        · rcases hok j w w' hj1 h3.2.1 with e | e
          · rw [e] at hW; exact hW
          · rcases hW with hW | hW
            · rw [hW]; exact .inr e
            · exact .inr (hR _ _ _ e hW)
        · exfalso
          have h4 := reach_closed hcl ops.size j i (hfin j hj1 hjun) oj hoj hall
          rw [getD_tf h0] at h4
          cases h4
      · rw [Array.setIfInBounds_comm _ _ hji]
        exact h3.2.2

theorem quiet_blockR {R : World → World → Prop} (hR : ∀ a b c, R a b → R b c → R a c) (lt : List Nat) (hok : ∀ j w w', j ∉ lt → EffC late R1 R2 j w w' → w' = w ∨ R w w')
    (hns : Region.noSelect ops = true) (hQ : ∀ c a d v w, Q (.panic c) (Act.put a d v) w → Q (.panic c) a w) {K : Act → Prop} {w : World} {fuel : Nat} {l' : Array Bool}
    (hK : ∀ a, Closed ops l' → K a → wpAnyR late R1 R2 P .any ops Q fuel l' a w) :
    ∀ (qs : List Nat) (listed : Array Bool) (a : Act), Closed ops listed → checkV lt ops qs listed = some l' → wpQuiet P ops (clsR R w) K (pickOps ops qs) a → wpAnyR late R1 R2 P .any ops Q (qs.length + fuel) listed a w
  | [], listed, a, hcl, hc, h => by
    simp only [checkV, Option.some.injEq] at hc
    subst hc
    simp only [List.length_nil, Nat.zero_add]
    exact hK a hcl h
  | i :: r, listed, a, hcl, hc, h => by
    unfold checkV at hc
    split at hc
    · rename_i hcond
      simp only [Bool.and_eq_true] at hcond
      obtain ⟨⟨⟨hp, hr⟩, hf⟩, hd⟩ := hcond
      have hrd : i ∈ Region.ready .any ops listed := by simpa using hr
      have hfin : ∀ f, ¬ f ∉ lt → listed.getD f true = false → reach ops ops.size f i = true := fun f hl hu => by
        have h1 := List.all_eq_true.1 hd f (Decidable.of_not_not hl)
        rw [hu, Bool.false_or] at h1
        exact h1
      cases hi : ops[i]? with
      | none => simp [plainAt, hi] at hp
      | some o =>
        simp only [plainAt, hi] at hp
        have hpick : pickOps ops (i :: r) = o :: pickOps ops r := by simp [pickOps, opAt, hi]
        rw [hpick] at h
        unfold wpQuiet at h
        have hlen : (i :: r).length + fuel = (r.length + fuel) + 1 := by simp; omega
        have hcl' : Closed ops (listed.setIfInBounds i true) := by
          obtain ⟨_, oj, hoj, hall⟩ := mem_ready.1 hrd
          exact hcl.more hoj hall
        rw [hlen]
        by_cases hw : Region.wanted o (yielded ops a.tmps) = true
        · rw [if_pos hw] at h
          obtain ⟨v, h1, h2⟩ := h
          refine wpAnyR_first hR (fun j => j ∉ lt) hok hi (Region.noSelect_spec hns) (fun c a w => hQ c a _ _ w) _ listed a w hcl hfin (Region.free_spec hi hf) hrd (v := v) (.inl ⟨hw, fun W hW => ?_⟩) (quiet_blockR hR lt hok hns hQ hK r _ _ hcl' hc h2)
          have h3 := h1 W (clsR_iff.2 hW)
          have hg := gives_plain o hp a.eval P W
          unfold Oper.quietAt at h3
          generalize (execOp a.eval o).run P W = res at *
          cases res with
          | ok n w' =>
            cases n <;> simp only [Oper.quietUpon] at h3 <;> simp only [gives] at hg
            obtain ⟨e1, e2⟩ := h3
            rw [e1, e2]
          | halt x w' => simp only [Oper.quietUpon] at h3
        · rw [if_neg hw] at h
          exact wpAnyR_first hR (fun j => j ∉ lt) hok hi (Region.noSelect_spec hns) (fun c a w => hQ c a _ _ w) _ listed a w hcl hfin (Region.free_spec hi hf) hrd (v := undef) (.inr ⟨by simpa using hw, rfl⟩) (quiet_blockR hR lt hok hns hQ hK r _ _ hcl' hc h)
    · cases hc

def checkW (late : List Nat) (ops : Array Oper) : PlanR → Array Bool → Bool
  | .last qs ws, listed => match checkV late ops qs listed with
    | some l => match checkV [] ops ws l with
      | some l => (Region.ready .any ops l).isEmpty
      | none => false
    | none => false
  | .one qs ws e t, listed => match checkV late ops qs listed with
    | some l => match checkV [] ops ws l with
      | some l => (Region.ready .any ops l == [e]) && (decide (e < ops.size) && checkW late ops t (l.setIfInBounds e true))
      | none => false
    | none => false
/-- the orders of a plan -/
def wpPlanR (late : List Nat) (R1 R2 : World → World → Prop) (P : Program) (ops : Array Oper) (Q : Exit → Act → World → Prop) : PlanR → Act → World → Prop
  | .last qs ws, a, w => wpQuiet P ops (fun W => ∃ x : LaterR R1 w, W = afterR R1 w x) (fun a' => wpQuiet P ops (fun W => ∃ x : LaterR R2 w, W = afterR R2 w x) (fun a' => Q .normal a' w) (pickOps ops ws) a') (pickOps ops qs) a
  | .one qs ws e t, a, w => wpQuiet P ops (fun W => ∃ x : LaterR R1 w, W = afterR R1 w x) (fun a' => wpQuiet P ops (fun W => ∃ x : LaterR R2 w, W = afterR R2 w x) (fun a' => wpList P ops (Exit.then (fun a'' w' => Eff late R1 R2 e w w' ∧ wpPlanR late R1 R2 P ops Q t a'' w') Q) [opAt ops e] a' w) (pickOps ops ws) a') (pickOps ops qs) a
theorem plan_anyR (hR1 : ∀ a b c, R1 a b → R1 b c → R1 a c) (hR2 : ∀ a b c, R2 a b → R2 b c → R2 a c) (hns : Region.noSelect ops = true) (hQ : ∀ c a d v w, Q (.panic c) (Act.put a d v) w → Q (.panic c) a w) :
    ∀ (t : PlanR) (listed : Array Bool) (a : Act) (w : World), Closed ops listed → checkW late ops t listed = true → wpPlanR late R1 R2 P ops Q t a w → wpAnyR late R1 R2 P .any ops Q t.len listed a w
  | .last qs ws, listed, a, w, hcl, hc, h => by
    unfold checkW at hc
    split at hc
    · rename_i l hl
      split at hc
      · rename_i l2 hl2
        refine quiet_blockR hR1 late (fun j w w' hj he => he.1 hj) hns hQ (fuel := ws.length) (fun a' hcl' h' => ?_) qs listed a hcl hl h
        exact quiet_blockR hR2 [] (fun j w w' _ he => he.2) hns hQ (fuel := 0) (fun a' _ h' => ⟨by simpa using hc, h'⟩) ws l a' hcl' hl2 h'
      · cases hc
    · cases hc
  | .one qs ws e t, listed, a, w, hcl, hc, h => by
    unfold checkW at hc
    split at hc
    · rename_i l hl
      split at hc
      · rename_i l2 hl2
        simp only [Bool.and_eq_true, beq_iff_eq, decide_eq_true_eq] at hc
        refine quiet_blockR hR1 late (fun j w w' hj he => he.1 hj) hns hQ (fuel := ws.length + (t.len + 1)) (fun a' hcl' h' => ?_) qs listed a hcl hl h
        refine quiet_blockR hR2 [] (fun j w w' _ he => he.2) hns hQ (fuel := t.len + 1) (fun a' hcl' h' => ?_) ws l a' hcl' hl2 h'
        refine ⟨fun h0 => (by rw [hc.1] at h0; cases h0), fun i hi => ?_⟩
        have hrd := hi
        rw [hc.1] at hi
        have hie : i = e := by simpa using hi
        subst hie
        obtain ⟨_, oj, hoj, hall⟩ := mem_ready.1 hrd
        exact wpOp_mono (fun a'' w' ⟨hb, h''⟩ => ⟨hb.c, plan_anyR hR1 hR2 hns hQ t _ a'' w' (hcl'.more hoj hall) hc.2.2 h''⟩) (op_of_list (at_of_lt hc.2.1) h')
      · cases hc
    · cases hc
/-- THE LAW -/
theorem wp_region_planR {id : Nat} {a : Act} {w : World} {l : List Oper} (late : List Nat) (R1 R2 : World → World → Prop) (hR1 : ∀ a b c, R1 a b → R1 b c → R1 a c) (hR2 : ∀ a b c, R2 a b → R2 b c → R2 a c) (t : PlanR) (hm : P.follows .mixedOrders = true)
    (hc : (Region.noSelect l.toArray && (checkW late l.toArray t (Array.replicate l.toArray.size false) && decide (t.len = l.toArray.size))) = true)
    (hQ : ∀ c a d v w, Q (.panic c) (Act.put a d v) w → Q (.panic c) a w)
    (h : wpPlanR late R1 R2 P l.toArray Q t a w.drew) : (Code.region id l.toArray true).wp P Q a w := by
  simp only [Bool.and_eq_true, decide_eq_true_eq] at hc
  refine wp_region_any hm ?_
  have h1 := plan_anyR hR1 hR2 hc.1 hQ t _ a _ (Closed.start _) hc.2.1 h
  rw [hc.2.2] at h1
  exact wpAny_of_R _ _ _ _ h1
/-- no bound at all -/
def anyW (_ _ : World) : Prop := True
theorem anyW_trans : ∀ a b c, anyW a b → anyW b c → anyW a c := fun _ _ _ _ _ => trivial
/-- nothing happens before -/
def noW (_ _ : World) : Prop := False
theorem noW_trans : ∀ a b c, noW a b → noW b c → noW a c := fun _ _ _ h _ => h
end
end Go.Proofs.YtponkkljlbifmaaGreat

/-
  The reference's In and Has of regions: they say what the program's Has says.
-/
namespace Go.Proofs.YtponkkljlbifmaaGreat
open Go.RowKit
set_option maxRecDepth 100000
open Rg

end Go.Proofs.YtponkkljlbifmaaGreat

/-
  The program's boxes of a region: how many they are, what they are, and where they lie.
-/
namespace Go.Proofs.YtponkkljlbifmaaGreat
open Go.RowKit
set_option maxRecDepth 100000
open Rg

end Go.Proofs.YtponkkljlbifmaaGreat

/-
  The functions that the program's Project and Lift hand to unite: which sets they make of the sets of a box. The reference's list of full sets, with its memory.
-/
namespace Go.Proofs.YtponkkljlbifmaaGreat
open Go.RowKit
set_option maxRecDepth 100000

def noSet : SetP := ((none, 0, 0), [])
/-- the set at a column -/
def pk (ps : List SetP) (c : Int) : SetP := ps.getD c.toNat noSet
theorem mk_slices (n : Nat) : (madeCells (Value.slice none 0 0).cells (n * 1)).toList = List.replicate n (Value.slice none 0 0) := by
  have h1 : ∀ i : Nat, (Value.slice none 0 0).cells[i % (Value.slice none 0 0).cells.size]! = Value.slice none 0 0 := fun i => by
    show (#[Value.slice none 0 0] : Array Value)[i % 1]! = _
    rw [Nat.mod_one]
    rfl
  unfold madeCells
  rw [Nat.mul_one, Array.toList_map, List.eq_replicate_iff]
  exact ⟨by simp, fun b hb => by
    obtain ⟨i, _, rfl⟩ := List.mem_map.1 hb
    exact h1 i⟩
end Go.Proofs.YtponkkljlbifmaaGreat

/-
  Plain: what a union of boxes one after another is, and projection, lifting and the universal projection made of it. No walk here.
-/
namespace Go.Proofs.YtponkkljlbifmaaGreat
open Go.RowKit
set_option maxRecDepth 100000
open Rg

end Go.Proofs.YtponkkljlbifmaaGreat

/-
  Plain: what the operations on canonical regions answer; the laws as equalities of answers. No program here.
-/
namespace Go.Proofs.YtponkkljlbifmaaGreat
open Go.RowKit
set_option maxRecDepth 100000
open Rg

section
variable {n : Nat} {a b : Rg} (ha : OkR a) (hwa : a.w = (n : Int))
include ha hwa
variable (hb : OkR b) (hwb : b.w = (n : Int))
include hb hwb
end
section
variable {n : Nat} {a b c : Rg} (ha : OkR a) (hwa : a.w = (n : Int))
include ha hwa
variable (hb : OkR b) (hwb : b.w = (n : Int))
include hb hwb
variable (hc : OkR c) (hwc : c.w = (n : Int))
include hc hwc
end
end Go.Proofs.YtponkkljlbifmaaGreat

/-
  Plain: the laws of the algebra of canonical regions, as the program's own equality. No program here.
-/
namespace Go.Proofs.YtponkkljlbifmaaGreat
open Go.RowKit
set_option maxRecDepth 100000
open Rg

section
variable {n : Nat} {a b r : Rg} (ha : OkR a) (hwa : a.w = (n : Int))
include ha hwa
variable (hb : OkR b) (hwb : b.w = (n : Int))
include hb hwb
end
end Go.Proofs.YtponkkljlbifmaaGreat

/-
  Plain: which rows the program's Has finds in canonical regions and in what the operations make of them. No program here.
-/
namespace Go.Proofs.YtponkkljlbifmaaGreat
open Go.RowKit
set_option maxRecDepth 100000
open Rg

end Go.Proofs.YtponkkljlbifmaaGreat

/-
  The least row of a region, of the program and of the reference.
-/
namespace Go.Proofs.YtponkkljlbifmaaGreat
open Go.RowKit
set_option maxRecDepth 100000
open Rg

end Go.Proofs.YtponkkljlbifmaaGreat

/-
  Plain: which rows a projection, a universal projection and a lifted region contain. No program here.
-/
namespace Go.Proofs.YtponkkljlbifmaaGreat
open Go.RowKit
set_option maxRecDepth 100000
open Rg

section
variable {n : Nat} {r : Rg} (hr : OkR r) (hw : r.w = (n : Int)) {cs : List Int}
include hr hw
end
section
variable {n : Nat} {a b : Rg} (ha : OkR a) (hwa : a.w = (n : Int)) {cs : List Int} (h : dstB (n : Int) cs = true)
include ha hwa h
end
section
variable {n : Nat} {a : Rg} (ha : OkR a) (hwa : a.w = (n : Int))
include ha hwa
end
end Go.Proofs.YtponkkljlbifmaaGreat

/-
  Plain: the two regions of a predicate, and that they enclose the rows for which it holds. No program here.
-/
namespace Go.Proofs.YtponkkljlbifmaaGreat
open Go.RowKit
set_option maxRecDepth 100000
open Rg Pd

/-- the box with one set at two columns -/
def bx2L (n : Nat) (i j : Int) (s : List Iv) : List (List Iv) := (List.range n).map fun (q : Nat) => if (q : Int) = i ∨ (q : Int) = j then s else allL
def bx2 (n : Nat) (i j : Int) (s : List Iv) : Rg := boxR (bx2L n i j s)
def mirC (cm : Int) : Int := if cm = 3 then 5 else if cm = 4 then 6 else if cm = 5 then 3 else if cm = 6 then 4 else cm
/-- the regions of a comparison -/
def cmpPair (cols : List Int) (h : Nd) : Rg × Rg :=
  if h.l.k = 3 ∧ h.r.k = 3 then (if cmpOk h.cm h.l.v h.r.v = true then (allR cols.length, allR cols.length) else (.nil (cols.length : Int) false, .nil (cols.length : Int) false))
  else if h.l.k = 1 ∧ h.r.k = 1 then
    (if h.l.ix ≠ h.r.ix then (.nil (cols.length : Int) false, bx2 cols.length h.l.ix h.r.ix (kindL (cols.getD h.l.ix.toNat 0)).1)
     else if h.cm = 1 ∨ h.cm = 4 ∨ h.cm = 6 then (bx2 cols.length h.l.ix h.r.ix (kindL (cols.getD h.l.ix.toNat 0)).1, bx2 cols.length h.l.ix h.r.ix (kindL (cols.getD h.l.ix.toNat 0)).1)
     else (.nil (cols.length : Int) false, .nil (cols.length : Int) false))
  else if h.l.k = 1 then (bx2 cols.length h.l.ix h.l.ix (cmpSet h.cm h.r.v), bx2 cols.length h.l.ix h.l.ix (cmpSet h.cm h.r.v))
  else (bx2 cols.length h.r.ix h.r.ix (cmpSet (mirC h.cm) h.l.v), bx2 cols.length h.r.ix h.r.ix (cmpSet (mirC h.cm) h.l.v))
/-- one step of a node with many arguments; the negation -/
noncomputable def stepX (op : Bool → Bool → Bool) (a x : Rg × Rg) : Option (Rg × Rg) := if opErr op a.1 x.1 = 0 ∧ opErr op a.2 x.2 = 0 then some (opRes op a.1 x.1, opRes op a.2 x.2) else none
noncomputable def notX (a : Rg × Rg) : Option (Rg × Rg) := if cpErr a.2 = 0 ∧ cpErr a.1 = 0 then some (cpRes a.2, cpRes a.1) else none
structure NX where
  an : Rg × Rg → Option (Rg × Rg)
  or : Rg × Rg → Option (Rg × Rg)
  fst : Option (Rg × Rg)
noncomputable def finX (cols : List Int) (h : Nd) (x : NX) : Option (Rg × Rg) :=
  if h.op = 1 then some (allR cols.length, allR cols.length) else if h.op = 2 then some (.nil (cols.length : Int) false, .nil (cols.length : Int) false)
  else if h.op = 4 then x.an (allR cols.length, allR cols.length) else if h.op = 5 then x.or (.nil (cols.length : Int) false, .nil (cols.length : Int) false)
  else if h.op = 6 then x.fst.bind notX else some (cmpPair cols h)
noncomputable def nx (cols : List Int) : Pd → NX
  | .nil _ => ⟨some, some, none⟩
  | .cons a t => ⟨fun acc => (finX cols a.h (nx cols a)).bind fun r => (stepX opIr acc r).bind (nx cols t).an, fun acc => (finX cols a.h (nx cols a)).bind fun r => (stepX opUr acc r).bind (nx cols t).or, finX cols a.h (nx cols a)⟩
/-- the regions of a node, none where a limit is exceeded -/
noncomputable def nodeX (cols : List Int) (p : Pd) : Option (Rg × Rg) := finX cols p.h (nx cols p)
/-- error and regions of a predicate -/
noncomputable def bdE (cols : List Int) (p : Pd) : Int := if 12 < cols.length then 2 else if checkE cols [] p = 0 then (match nodeX cols p with | none => 2 | some _ => 0) else checkE cols [] p
/-- two different columns are compared -/
def crH (h : Nd) : Bool := decide (h.op = 3 ∧ h.l.k = 1 ∧ h.r.k = 1 ∧ h.l.ix ≠ h.r.ix)
def crA : Pd → Bool
  | .nil _ => false
  | .cons a t => (crH a.h || crA a) || crA t
def crB (p : Pd) : Bool := crH p.h || crA p
/-- the numbers in a predicate are in the range of their type -/
def okNd (h : Nd) : Prop := rngV h.l.v ∧ rngV h.r.v
def wfPA : Pd → Prop
  | .nil _ => True
  | .cons a t => okNd a.h ∧ wfPA a ∧ wfPA t
def wfP (p : Pd) : Prop := okNd p.h ∧ wfPA p
/-- a typed row -/
def typedR (cols : List Int) (u : List Vl) : Prop := u.length = cols.length ∧ ∀ (i : Nat) (v : Vl) (c : Int), u[i]? = some v → cols[i]? = some c → validV v = true ∧ rngV v ∧ (v.k = c ∨ v.k = 1 ∨ v.k = 2)
/-- both are regions of the width -/
structure Pair (n : Nat) (r : Rg × Rg) : Prop where
  o1 : OkR r.1
  w1 : r.1.w = (n : Int)
  o2 : OkR r.2
  w2 : r.2.w = (n : Int)
  f1 : WfR r.1
  f2 : WfR r.2
/-- what is said of a predicate and its two regions -/
structure Big (cols : List Int) (p : Pd) (r : Rg × Rg) : Prop where
  pr : Pair cols.length r
  sub : ∀ u, goodRow cols.length u → r.1.den u = true → r.2.den u = true
  lo : ∀ u, typedR cols u → r.1.den u = true → holdsB u [] p = true
  hi : ∀ u, typedR cols u → holdsB u [] p = true → r.2.den u = true
  eq : crB p = false → r.1 = r.2
/-- what is said of the regions of a list of arguments, for which H holds -/
structure BigA (cols : List Int) (H : List Vl → Bool) (c : Bool) (r : Rg × Rg) : Prop where
  pr : Pair cols.length r
  sub : ∀ u, goodRow cols.length u → r.1.den u = true → r.2.den u = true
  lo : ∀ u, typedR cols u → r.1.den u = true → H u = true
  hi : ∀ u, typedR cols u → H u = true → r.2.den u = true
  eq : c = false → r.1 = r.2
section
variable {cols : List Int}
end
theorem real_k {v : Vl} : realV v = true ↔ validV v = true ∧ 3 ≤ v.k := by simp [realV]
end Go.Proofs.YtponkkljlbifmaaGreat

/-
  Case.Value with its kind, law06's kinds of columns, Case.Row.
-/
namespace Go.Proofs.YtponkkljlbifmaaGreat
open Go.RowKit
set_option maxRecDepth 100000
set_option linter.unusedVariables false

def SomeK (k : Int) (w : World) (g : Nat) (e : Ending) (w' : World) : Prop := (∃ v : Vl, validV v = true ∧ rngV v ∧ v.k = k ∧ e = .returned (.agg #[.int .i64 v.k, .int .i64 v.i, .string v.t])) ∧ CaseAt w' g ∧ But (· = g) w w'
set_option maxHeartbeats 1000000 in
theorem value3_any (g : Nat) (k : Int) (w : World) (hc : CaseAt w g) (hk : k = 3 ∨ k = 4 ∨ k = 5) :
    Calls Tryz.prog 51 #[.pointer (some ⟨g, 0, none⟩), .int .i64 k] w fun e w' => SomeK k w g e w' := by
  have hlt := hc.lt
  have hc0 := hc.below ((Below.refl _ _).alloc (Nat.le_refl _) (.cells #[.int .i64 0, .int .i64 0, .string ⟨#[]⟩] 67))
  have hX := Blk.new w 67 #[.int .i64 0, .int .i64 0, .string ⟨#[]⟩]
  have hB0 : But (· = g) w (w.alloc (.cells #[.int .i64 0, .int .i64 0, .string ⟨#[]⟩] 67)) := But.alloc _ _
  rcases hk with rfl | rfl | rfl
  · go_enter Tryz.func51, Tryz.ntmps51
    go_wp2_with fail
    refine (int_any g 2 _ hc0 (by omega) (by omega)).mono ?_
    rintro e w1 ⟨⟨x, hx1, hx2, rfl⟩, hc1, hb1⟩
    have hX1 := hX.but hb1 (by omega)
    have hXc := hX1.cell
    have hXf := hX1.free
    go_wp2
    refine bodyPost_ret (v := .agg #[.int .i64 3, .int .i64 x, .string ⟨#[]⟩]) (by simp [results, Tryz.results51, go_sem, hXc]) rfl ⟨⟨⟨3, x, ⟨#[]⟩⟩, ?_, ⟨by unfold minI; simp; omega, by simp; omega⟩, rfl, rfl⟩, ?_, ?_⟩
    · have : x = 0 ∨ x = 1 := by omega
      rcases this with rfl | rfl <;> decide +kernel
    · exact case_box hc1 hX1 (by omega) _ _ _
    · exact (((hB0.trans hb1).setNew (p := ⟨w.heap.size, 0, none⟩) (by simp) _).setNew (p := ⟨w.heap.size, 1, none⟩) (by simp) _).setNew (p := ⟨w.heap.size, 2, none⟩) (by simp) _
  · go_enter Tryz.func51, Tryz.ntmps51
    go_wp2_with fail
    refine (number2_any g _ hc0).mono ?_
    rintro e w1 ⟨⟨x, hxr, rfl⟩, hc1, hb1⟩
    have HXR := Lib.hid hxr
    clear hxr
    have hX1 := hX.but hb1 (by omega)
    have hXc := hX1.cell
    have hXf := hX1.free
    go_wp2
    refine bodyPost_ret (v := .agg #[.int .i64 4, .int .i64 x, .string ⟨#[]⟩]) (by simp [results, Tryz.results51, go_sem, hXc]) rfl ⟨⟨⟨4, x, ⟨#[]⟩⟩, ?_, HXR.out, rfl, rfl⟩, ?_, ?_⟩
    · simp [validV, ByteArray.toList_eq]
    · exact case_box hc1 hX1 (by omega) _ _ _
    · exact (((hB0.trans hb1).setNew (p := ⟨w.heap.size, 0, none⟩) (by simp) _).setNew (p := ⟨w.heap.size, 1, none⟩) (by simp) _).setNew (p := ⟨w.heap.size, 2, none⟩) (by simp) _
  · go_enter Tryz.func51, Tryz.ntmps51
    go_wp2_with fail
    refine (text_any g _ hc0).mono ?_
    rintro e w1 ⟨⟨x, hx, rfl⟩, hc1, hb1⟩
    have hX1 := hX.but hb1 (by omega)
    have hXc := hX1.cell
    have hXf := hX1.free
    go_wp2
    refine bodyPost_ret (v := .agg #[.int .i64 5, .int .i64 0, .string x]) (by simp [results, Tryz.results51, go_sem, hXc]) rfl ⟨⟨⟨5, 0, x⟩, ?_, ⟨by unfold minI; simp, by simp⟩, rfl, rfl⟩, ?_, ?_⟩
    · simp [validV]; omega
    · exact case_box hc1 hX1 (by omega) _ _ _
    · exact (((hB0.trans hb1).setNew (p := ⟨w.heap.size, 0, none⟩) (by simp) _).setNew (p := ⟨w.heap.size, 1, none⟩) (by simp) _).setNew (p := ⟨w.heap.size, 2, none⟩) (by simp) _

end Go.Proofs.YtponkkljlbifmaaGreat
