/-
  Texts: Pj4, BdSet, GHas, Graft, RegionR, FHas, GBoxes, GShape, ProjP, RgLaw2, RgLaw3, PtLaw, GLeast, PjLaw.
-/
import Derived.Test.YtnnmlhmffnfjfaaGreatE10
import Derived.Deep.Cut
set_option linter.unusedVariables false
/-
  The state of the laws on projections between their statements; columns as argument.
-/
namespace Go.Proofs.YtnnmlhmffnfjfaaGreat
open Go.RowKit
set_option maxRecDepth 100000
open Rg

/-- a region in a box -/
structure BxJ (w : World) (V : Nat) (x : Int) (f : Bool) (A : Option Addr) (n c : Nat) (r : Rg) : Prop where
  b : Blk w V 71 #[.int .i64 x, .bool f, .slice A n c]
  s : RgS w x f A n c r
  wf : WfR r
section
variable {w w' : World} {V : Nat} {x : Int} {f : Bool} {A : Option Addr} {n c : Nat} {r : Rg}
theorem BxJ.case {g : Nat} (h : BxJ w V x f A n c r) (hc : CaseAt w g) (hb : But (· = g) w w') : BxJ w' V x f A n c r := ⟨h.b.but hb (hc.ne h.b (by decide)), h.s.case hc hb, h.wf⟩
theorem BxJ.below (h : BxJ w V x f A n c r) (hb : Below w.heap.size w w') : BxJ w' V x f A n c r := ⟨h.b.below hb, h.s.keep (keeps_of hb), h.wf⟩
theorem BxJ.alloc (h : BxJ w V x f A n c r) (o : Obj) : BxJ (w.alloc o) V x f A n c r := ⟨h.b.alloc o, h.s.keep (keeps_alloc w o), h.wf⟩
/-- a region goes into another box -/
theorem BxJ.off (h : BxJ w V x f A n c r) {B : Nat} {x' : Int} {f' : Bool} {A' : Option Addr} {n' c' : Nat} (hB : Blk w B 71 #[.int .i64 x', .bool f', .slice A' n' c']) (hb : But (· = B) w w') (hne : V ≠ B) : BxJ w' V x f A n c r := ⟨h.b.but hb hne, h.s.off hB hb, h.wf⟩
theorem BxJ.put {x' : Int} {f' : Bool} {A' : Option Addr} {n' c' : Nat} {r' : Rg} (h : BxJ w V x f A n c r) (hr : RgS w x' f' A' n' c' r') (hw : WfR r') : BxJ (put3R w V (.int .i64 x') (.bool f') (.slice A' n' c')) V x' f' A' n' c' r' :=
  ⟨put3R_blk h.b, hr.off h.b (put3R_but _ _ _ _ _), hw⟩
end
/-- columns that lie neither in the block g nor in a region's box -/
structure ClJ (B g : Nat) (w : World) (A : Option Addr) (n : Nat) (cs : List Int) : Prop where
  sl : ClS w A n cs
  ne : 0 < n → ∀ b o, A = some ⟨b, o, none⟩ → b ≠ g ∧ (b < B ∨ ∃ cells, w.heap[b]? = some (.cells cells 3 (0, 0)))
section
variable {B g : Nat} {w w' : World} {A : Option Addr} {n : Nat} {cs : List Int}
theorem ClJ.but {S : Nat → Prop} (h : ClJ B g w A n cs) (hb : But S w w') (hs : ∀ b o, 0 < n → A = some ⟨b, o, none⟩ → ¬ S b) : ClJ B g w' A n cs :=
  ⟨h.sl.but hb (fun hn b o hA => hs b o hn hA), fun hn b o hA => ⟨(h.ne hn b o hA).1, by
    rcases (h.ne hn b o hA).2 with h1 | ⟨cells, h1⟩
    · exact .inl h1
    · refine .inr ⟨cells, ?_⟩
      have hlt : b < w.heap.size := by
        rcases Nat.lt_or_ge b w.heap.size with h2 | h2
        · exact h2
        · rw [Array.getElem?_eq_none h2] at h1; cases h1
      rw [hb.block b hlt (hs b o hn hA)]
      exact h1⟩⟩
theorem ClJ.case (h : ClJ B g w A n cs) (hb : But (· = g) w w') : ClJ B g w' A n cs := h.but hb fun b o hn hA => (h.ne hn b o hA).1
theorem ClJ.below (h : ClJ B g w A n cs) (hb : Below w.heap.size w w') : ClJ B g w' A n cs := h.but (S := fun _ => False) (But.of_below hb) fun _ _ _ _ h => h
theorem ClJ.off (h : ClJ B g w A n cs) {V : Nat} {x : Int} {f : Bool} {v : Value} (hB : Blk w V 71 #[.int .i64 x, .bool f, v]) (hV : B ≤ V) (hb : But (· = V) w w') : ClJ B g w' A n cs := h.but hb fun b o hn hA e => by
  rcases (h.ne hn b o hA).2 with h1 | ⟨cells, h1⟩
  · omega
  · subst e
    unfold Blk at hB
    rw [hB] at h1
    injection h1 with h1
    injection h1 with _ h1
    exact absurd h1 (by decide)
end
theorem ClJ.of_arg {g : Nat} {w0 w : World} {A : Option Addr} {n : Nat} {cs : List Int} (h : ClS w0 A n cs) (hb : Below w0.heap.size w0 w) (hg : w0.heap.size ≤ g) : ClJ w0.heap.size g w A n cs :=
  ⟨h.keep (keeps_of hb), fun hn b o hA => by
    have h1 := h.lt i64c_len (by decide) hn b o hA
    exact ⟨by omega, .inl h1⟩⟩
/-- the state of RegionProjects -/
structure PjS (w : World) (g Va Vw : Nat) (xa : Int) (fa : Bool) (Aa : Option Addr) (na ca : Nat) (ra : Rg) (xw : Int) (fw : Bool) (Aw : Option Addr) (nw cw : Nat) (rw_ : Rg) (Al : Option Addr) (nl : Nat) (cs : List Int) (wr : World) : Prop where
  a : BxJ wr Va xa fa Aa na ca ra
  r : BxJ wr Vw xw fw Aw nw cw rw_
  kk : CaseAt wr g
  cl : ClJ w.heap.size g wr Al nl cs
  bel : Below w.heap.size w wr
  hg : w.heap.size ≤ g
  hVa : w.heap.size ≤ Va
  hra : Va ≠ Vw
section
variable {w wr w' : World} {g Va Vw : Nat} {xa : Int} {fa : Bool} {Aa : Option Addr} {na ca : Nat} {ra : Rg} {xw : Int} {fw : Bool} {Aw : Option Addr} {nw cw : Nat} {rw_ : Rg} {Al : Option Addr} {nl : Nat} {cs : List Int}
theorem PjS.case (h : PjS w g Va Vw xa fa Aa na ca ra xw fw Aw nw cw rw_ Al nl cs wr) (hc : CaseAt w' g) (hb : But (· = g) wr w') : PjS w g Va Vw xa fa Aa na ca ra xw fw Aw nw cw rw_ Al nl cs w' :=
  ⟨h.a.case h.kk hb, h.r.case h.kk hb, hc, h.cl.case hb, hb.below h.bel h.bel.size (fun k hk => by subst hk; exact h.hg), h.hg, h.hVa, h.hra⟩
theorem PjS.arg (h : PjS w g Va Vw xa fa Aa na ca ra xw fw Aw nw cw rw_ Al nl cs wr) {A2 : Option Addr} {n2 : Nat} {cs2 : List Int} (hc : ClS w A2 n2 cs2) : PjS w g Va Vw xa fa Aa na ca ra xw fw Aw nw cw rw_ A2 n2 cs2 wr :=
  ⟨h.a, h.r, h.kk, ClJ.of_arg hc h.bel h.hg, h.bel, h.hg, h.hVa, h.hra⟩
end
/-- what is left of it at the end -/
structure PjT (w : World) (g : Nat) (Al : Option Addr) (nl : Nat) (cs : List Int) (wr : World) : Prop where
  kk : CaseAt wr g
  cl : ClJ w.heap.size g wr Al nl cs
  bel : Below w.heap.size w wr
  hg : w.heap.size ≤ g
end Go.Proofs.YtnnmlhmffnfjfaaGreat

/-
  Plain: the set of the values of a kind that compare so with a value, as the program and as the reference make it. No program here.
-/
namespace Go.Proofs.YtnnmlhmffnfjfaaGreat
open Go.RowKit
set_option maxRecDepth 100000

theorem v3 : validV ⟨3, 0, ⟨#[]⟩⟩ = true := by decide +kernel
theorem v4 : validV ⟨4, minI, ⟨#[]⟩⟩ = true := by decide +kernel
theorem v5 : validV ⟨5, 0, ⟨#[]⟩⟩ = true := by decide +kernel
/-- the set as the reference makes it -/
def cmpSet (cm : Int) (v : Vl) : List Iv :=
  let kd := (kindL v.k).1
  let fr := (fromL v).1
  let on := (oneL v).1
  if cm = 1 then on else if cm = 2 then combR opM kd on else if cm = 3 then combR opM kd fr else if cm = 4 then combR opU (combR opM kd fr) on
  else if cm = 5 then combR opM (combR opI kd fr) on else combR opI kd fr
section
variable {v : Vl} (hv : validV v = true) (hr : rngV v) (hk : 3 ≤ v.k)
include hv hr hk
end
end Go.Proofs.YtnnmlhmffnfjfaaGreat

/-
  The program's Has of a region and a row.
-/
namespace Go.Proofs.YtnnmlhmffnfjfaaGreat
open Go.RowKit
set_option maxRecDepth 100000
open Rg

end Go.Proofs.YtnnmlhmffnfjfaaGreat

/-
  Plain: one region in the place of the empty row of another; how many boxes a region has. No walk here.
-/
namespace Go.Proofs.YtnnmlhmffnfjfaaGreat
open Go.RowKit
set_option maxRecDepth 100000
open Rg

end Go.Proofs.YtnnmlhmffnfjfaaGreat

/-
  The law for a region that draws its order, with what a quiet operation may rely on said as a relation of worlds, and with late operations (stores) that wait for all that was read before. No program here.
-/
namespace Go.Proofs.YtnnmlhmffnfjfaaGreat
open Go.RowKit
set_option maxRecDepth 100000
set_option linter.unusedVariables false

structure LaterR (R : World → World → Prop) (w : World) where
  nxt : World
  rel : nxt = w ∨ R w nxt
instance (R : World → World → Prop) (w : World) : Nonempty (LaterR R w) := ⟨⟨w, .inl rfl⟩⟩
instance (R : World → World → Prop) (w : World) : Inhabited (LaterR R w) := ⟨⟨w, .inl rfl⟩⟩
def afterR (R : World → World → Prop) (w : World) (x : LaterR R w) : World := x.nxt
abbrev clsR (R : World → World → Prop) (w : World) : World → Prop := fun W => ∃ x : LaterR R w, W = afterR R w x
theorem clsR_iff {R : World → World → Prop} {w W : World} : clsR R w W ↔ (W = w ∨ R w W) := ⟨fun ⟨x, h⟩ => by rw [h]; exact x.rel, fun h => ⟨⟨W, h⟩, rfl⟩⟩
theorem LaterR.cell {R : World → World → Prop} {w : World} (y : LaterR R w) {a : Addr} {v : Option Value} (h0 : w.cell? a = v) (h : ∀ W, R w W → W.cell? a = v) : (afterR R w y).cell? a = v := by
  rcases y.rel with e | e
  · show y.nxt.cell? a = v
    rw [e]
    exact h0
  · exact h _ e
inductive PlanR where
  | last (qs ws : List Nat)
  | one (qs ws : List Nat) (e : Nat) (t : PlanR)
def PlanR.len : PlanR → Nat
  | .last qs ws => qs.length + ws.length
  | .one qs ws _ t => qs.length + (ws.length + (t.len + 1))
/-- what an operation with an effect keeps: R1 unless it is late, R2 always -/
structure Eff (late : List Nat) (R1 R2 : World → World → Prop) (i : Nat) (w w' : World) : Prop where
  r1 : i ∉ late → R1 w w'
  r2 : R2 w w'
def EffC (late : List Nat) (R1 R2 : World → World → Prop) (i : Nat) (w w' : World) : Prop := (i ∉ late → w' = w ∨ R1 w w') ∧ (w' = w ∨ R2 w w')
theorem Eff.c {late : List Nat} {R1 R2 : World → World → Prop} {i : Nat} {w w' : World} (h : Eff late R1 R2 i w w') : EffC late R1 R2 i w w' := ⟨fun hn => .inr (h.r1 hn), .inr h.r2⟩
theorem EffC.refl {late : List Nat} {R1 R2 : World → World → Prop} {i : Nat} {w : World} : EffC late R1 R2 i w w := ⟨fun _ => .inl rfl, .inl rfl⟩
/-- f waits for i, through others or at once -/
def reach (ops : Array Oper) : Nat → Nat → Nat → Bool
  | 0, _, _ => false
  | n + 1, f, i => match ops[f]? with
    | none => false
    | some o => o.after.any fun e => Region.binds .any e && (e.on == i || reach ops n e.on i)
/-- what is listed has all that it waits for listed -/
def Closed (ops : Array Oper) (listed : Array Bool) : Prop := ∀ k o, ops[k]? = some o → listed.getD k true = true → ∀ e ∈ o.after, Region.binds .any e = true → listed.getD e.on false = true
theorem getD_ft {l : Array Bool} {k : Nat} (h : l.getD k false = true) : l.getD k true = true := by
  rw [Array.getD_eq_getD_getElem?] at h ⊢
  cases hk : l[k]? with
  | none => rfl
  | some b => rw [hk] at h; exact h
theorem getD_tf {l : Array Bool} {k : Nat} (h : l.getD k true = false) : l.getD k false = false := by
  rw [Array.getD_eq_getD_getElem?] at h ⊢
  cases hk : l[k]? with
  | none => rfl
  | some b => rw [hk] at h; exact h
theorem getD_more {l : Array Bool} {j k : Nat} (h : l.getD k false = true) : (l.setIfInBounds j true).getD k false = true := by
  by_cases hjk : j = k
  · subst hjk
    rw [Array.getD_eq_getD_getElem?] at h ⊢
    rw [Array.getElem?_setIfInBounds]
    by_cases hj : j < l.size
    · simp [hj]
    · simp [Array.getElem?_eq_none (Nat.le_of_not_lt hj)] at h
  · rw [getD_set_ne false hjk]
    exact h
theorem reach_closed {ops : Array Oper} {listed : Array Bool} (hc : Closed ops listed) : ∀ (n f i : Nat), reach ops n f i = true → ∀ o, ops[f]? = some o → (∀ e ∈ o.after, Region.binds .any e = true → listed.getD e.on false = true) → listed.getD i false = true
  | 0, _, _, h, _, _, _ => by cases h
  | n + 1, f, i, h, o, ho, hall => by
    unfold reach at h
    rw [ho] at h
    simp only [Array.any_eq_true', Bool.and_eq_true, Bool.or_eq_true, beq_iff_eq] at h
    obtain ⟨e, he, hb, h⟩ := h
    rcases h with h | h
    · rw [← h]; exact hall e he hb
    · have h1 := hall e he hb
      cases hk : ops[e.on]? with
      | none => cases n with
        | zero => cases h
        | succ n => unfold reach at h; rw [hk] at h; cases h
      | some o' => exact reach_closed hc n e.on i h o' hk fun e' he' hb' => hc e.on o' hk (getD_ft h1) e' he' hb'
theorem Closed.more {ops : Array Oper} {listed : Array Bool} (hc : Closed ops listed) {j : Nat} {oj : Oper} (hoj : ops[j]? = some oj) (hall : ∀ e ∈ oj.after, Region.binds .any e = true → listed.getD e.on false = true) : Closed ops (listed.setIfInBounds j true) := by
  intro k o ho hk e he hb
  by_cases hjk : j = k
  · subst hjk
    rw [hoj] at ho
    injection ho with ho
    subst ho
    exact getD_more (hall e he hb)
  · rw [getD_set_ne true hjk] at hk
    exact getD_more (hc k o ho hk e he hb)
theorem Closed.start (ops : Array Oper) : Closed ops (Array.replicate ops.size false) := by
  intro k o ho hk
  have hlt : k < ops.size := (Array.getElem?_eq_some_iff.1 ho).1
  rw [Array.getD_eq_getD_getElem?, Array.getElem?_replicate, if_pos hlt] at hk
  cases hk
def lateOk (late : List Nat) (ops : Array Oper) (listed : Array Bool) (i : Nat) : Bool := late.all fun f => listed.getD f true || reach ops ops.size f i
def checkV (late : List Nat) (ops : Array Oper) : List Nat → Array Bool → Option (Array Bool)
  | [], listed => some listed
  | i :: r, listed => if plainAt ops i && (Region.ready .any ops listed).contains i && Region.free .any ops listed i && lateOk late ops listed i then checkV late ops r (listed.setIfInBounds i true) else none
section
variable {P : Program} {ops : Array Oper} {Q : Exit → Act → World → Prop} {md : Region.Mode} {R1 R2 : World → World → Prop} {late : List Nat}
def wpAnyR (late : List Nat) (R1 R2 : World → World → Prop) (P : Program) (md : Region.Mode) (ops : Array Oper) (Q : Exit → Act → World → Prop) : Nat → Array Bool → Act → World → Prop
  | 0, listed, a, w => Region.ready md ops listed = [] ∧ Q .normal a w
  | fuel + 1, listed, a, w =>
    (Region.ready md ops listed = [] → Q .normal a w) ∧
    ∀ i ∈ Region.ready md ops listed, wpOp P ops Q i (fun a' w' => EffC late R1 R2 i w w' ∧ wpAnyR late R1 R2 P md ops Q fuel (listed.setIfInBounds i true) a' w') a w

theorem wpAny_of_R : ∀ (fuel : Nat) (listed : Array Bool) (a : Act) (w : World), wpAnyR late R1 R2 P md ops Q fuel listed a w → wpAny P md ops Q fuel listed a w
  | 0, _, _, _, h => h
  | fuel + 1, _, _, _, h => ⟨h.1, fun i hi => wpOp_mono (fun a' w' h' => wpAny_of_R fuel _ a' w' h'.2) (h.2 i hi)⟩

/-- a quiet operation may come first -/
theorem wpAnyR_first {R : World → World → Prop} (hR : ∀ a b c, R a b → R b c → R a c) (ok : Nat → Prop) (hok : ∀ j w w', ok j → EffC late R1 R2 j w w' → w' = w ∨ R w w')
    {i : Nat} {oi : Oper} {v : Value} (hi : ops[i]? = some oi) (hsel : ∀ (j : Nat) (o : Oper) cs b, ops[j]? = some o → o.op ≠ .select cs b)
    (hQ : ∀ c a w, Q (.panic c) (a.put oi.dst v) w → Q (.panic c) a w) :
    ∀ (fuel : Nat) (listed : Array Bool) (a : Act) (w : World), Closed ops listed →
      (∀ f, ¬ ok f → listed.getD f true = false → reach ops ops.size f i = true) →
      (∀ j oj, ops[j]? = some oj → j ≠ i → listed.getD j true = false → (∀ e ∈ oj.after, Region.binds .any e = true → e.on ≠ i) → oi.apart ops oj = true) →
      i ∈ Region.ready .any ops listed → YieldsIf P ops (fun W => W = w ∨ R w W) oi v a →
      wpAnyR late R1 R2 P .any ops Q fuel (listed.setIfInBounds i true) (a.put oi.dst v) w → wpAnyR late R1 R2 P .any ops Q (fuel + 1) listed a w := by
  intro fuel
  induction fuel with
  | zero =>
    intro listed a w _ _ _ hr hy H
    refine ⟨fun h => (by rw [h] at hr; cases hr), fun j hj => ?_⟩
    by_cases hji : j = i
    · subst hji; exact hy.wpOp hi (.inl rfl) ⟨EffC.refl, H⟩
    · have := ready_mono hj hji
      rw [H.1] at this
      cases this
  | succ fuel ih =>
    intro listed a w hcl hfin hfree hr hy H
    refine ⟨fun h => (by rw [h] at hr; cases hr), fun j hj => ?_⟩
    by_cases hji : j = i
    · subst hji; exact hy.wpOp hi (.inl rfl) ⟨EffC.refl, H⟩
    · have h1 := H.2 j (ready_mono hj hji)
      obtain ⟨hjun, oj, hoj, hall⟩ := mem_ready.1 hj
      have h0 := (mem_ready.1 hr).1
      have hnot : ∀ e ∈ oj.after, Region.binds .any e = true → e.on ≠ i := fun e he hb heq => by
        have h1 := hall e he hb
        rw [heq, getD_tf h0] at h1
        cases h1
      have h2 := wpOp_putIf hoj (hfree j oj hoj hji hjun hnot) (fun cs b => hsel i oi cs b hi) (fun cs b => hsel j oj cs b hoj) hQ hy h1
      have hun' : ∀ k, (listed.setIfInBounds j true).getD k true = false → listed.getD k true = false := fun k hun => by
        by_cases hjk : j = k
        · subst hjk; exact hjun
        · rw [getD_set_ne true hjk] at hun; exact hun
      have hfree' : ∀ k ok, ops[k]? = some ok → k ≠ i → (listed.setIfInBounds j true).getD k true = false →
          (∀ e ∈ ok.after, Region.binds .any e = true → e.on ≠ i) → oi.apart ops ok = true := fun k ok hk hki hun hno => hfree k ok hk hki (hun' k hun) hno
      refine wpOp_mono (fun a' w' h3 => ⟨h3.2.1, ih (listed.setIfInBounds j true) a' w' (hcl.more hoj hall) (fun f hf hu => hfin f hf (hun' f hu)) hfree' (ready_mono hr (Ne.symm hji)) (YieldsIf.shrink (fun W hW => ?_) h3.1) ?_⟩) h2
      · by_cases hj1 : ok j
        · rcases hok j w w' hj1 h3.2.1 with e | e
          · rw [e] at hW; exact hW
          · rcases hW with hW | hW
            · rw [hW]; exact .inr e
            · exact .inr (hR _ _ _ e hW)
        · exfalso
          have h4 := reach_closed hcl ops.size j i (hfin j hj1 hjun) oj hoj hall
          rw [getD_tf h0] at h4
          cases h4
      · rw [Array.setIfInBounds_comm _ _ hji]
        exact h3.2.2

theorem quiet_blockR {R : World → World → Prop} (hR : ∀ a b c, R a b → R b c → R a c) (lt : List Nat) (hok : ∀ j w w', j ∉ lt → EffC late R1 R2 j w w' → w' = w ∨ R w w')
    (hns : Region.noSelect ops = true) (hQ : ∀ c a d v w, Q (.panic c) (Act.put a d v) w → Q (.panic c) a w) {K : Act → Prop} {w : World} {fuel : Nat} {l' : Array Bool}
    (hK : ∀ a, Closed ops l' → K a → wpAnyR late R1 R2 P .any ops Q fuel l' a w) :
    ∀ (qs : List Nat) (listed : Array Bool) (a : Act), Closed ops listed → checkV lt ops qs listed = some l' → wpQuiet P ops (clsR R w) K (pickOps ops qs) a → wpAnyR late R1 R2 P .any ops Q (qs.length + fuel) listed a w
  | [], listed, a, hcl, hc, h => by
    simp only [checkV, Option.some.injEq] at hc
    subst hc
    simp only [List.length_nil, Nat.zero_add]
    exact hK a hcl h
  | i :: r, listed, a, hcl, hc, h => by
    unfold checkV at hc
    split at hc
    · rename_i hcond
      simp only [Bool.and_eq_true] at hcond
      obtain ⟨⟨⟨hp, hr⟩, hf⟩, hd⟩ := hcond
      have hrd : i ∈ Region.ready .any ops listed := by simpa using hr
      have hfin : ∀ f, ¬ f ∉ lt → listed.getD f true = false → reach ops ops.size f i = true := fun f hl hu => by
        have h1 := List.all_eq_true.1 hd f (Decidable.of_not_not hl)
        rw [hu, Bool.false_or] at h1
        exact h1
      cases hi : ops[i]? with
      | none => simp [plainAt, hi] at hp
      | some o =>
        simp only [plainAt, hi] at hp
        have hpick : pickOps ops (i :: r) = o :: pickOps ops r := by simp [pickOps, opAt, hi]
        rw [hpick] at h
        unfold wpQuiet at h
        have hlen : (i :: r).length + fuel = (r.length + fuel) + 1 := by simp; omega
        have hcl' : Closed ops (listed.setIfInBounds i true) := by
          obtain ⟨_, oj, hoj, hall⟩ := mem_ready.1 hrd
          exact hcl.more hoj hall
        rw [hlen]
        by_cases hw : Region.wanted o (yielded ops a.tmps) = true
        · rw [if_pos hw] at h
          obtain ⟨v, h1, h2⟩ := h
          refine wpAnyR_first hR (fun j => j ∉ lt) hok hi (Region.noSelect_spec hns) (fun c a w => hQ c a _ _ w) _ listed a w hcl hfin (Region.free_spec hi hf) hrd (v := v) (.inl ⟨hw, fun W hW => ?_⟩) (quiet_blockR hR lt hok hns hQ hK r _ _ hcl' hc h2)
          have h3 := h1 W (clsR_iff.2 hW)
          have hg := gives_plain o hp a.eval P W
          unfold Oper.quietAt at h3
          generalize (execOp a.eval o).run P W = res at *
          cases res with
          | ok n w' =>
            cases n <;> simp only [Oper.quietUpon] at h3 <;> simp only [gives] at hg
            obtain ⟨e1, e2⟩ := h3
            rw [e1, e2]
          | halt x w' => simp only [Oper.quietUpon] at h3
        · rw [if_neg hw] at h
          exact wpAnyR_first hR (fun j => j ∉ lt) hok hi (Region.noSelect_spec hns) (fun c a w => hQ c a _ _ w) _ listed a w hcl hfin (Region.free_spec hi hf) hrd (v := undef) (.inr ⟨by simpa using hw, rfl⟩) (quiet_blockR hR lt hok hns hQ hK r _ _ hcl' hc h)
    · cases hc

def checkW (late : List Nat) (ops : Array Oper) : PlanR → Array Bool → Bool
  | .last qs ws, listed => match checkV late ops qs listed with
    | some l => match checkV [] ops ws l with
      | some l => (Region.ready .any ops l).isEmpty
      | none => false
    | none => false
  | .one qs ws e t, listed => match checkV late ops qs listed with
    | some l => match checkV [] ops ws l with
      | some l => (Region.ready .any ops l == [e]) && (decide (e < ops.size) && checkW late ops t (l.setIfInBounds e true))
      | none => false
    | none => false
/-- the orders of a plan -/
def wpPlanR (late : List Nat) (R1 R2 : World → World → Prop) (P : Program) (ops : Array Oper) (Q : Exit → Act → World → Prop) : PlanR → Act → World → Prop
  | .last qs ws, a, w => wpQuiet P ops (fun W => ∃ x : LaterR R1 w, W = afterR R1 w x) (fun a' => wpQuiet P ops (fun W => ∃ x : LaterR R2 w, W = afterR R2 w x) (fun a' => Q .normal a' w) (pickOps ops ws) a') (pickOps ops qs) a
  | .one qs ws e t, a, w => wpQuiet P ops (fun W => ∃ x : LaterR R1 w, W = afterR R1 w x) (fun a' => wpQuiet P ops (fun W => ∃ x : LaterR R2 w, W = afterR R2 w x) (fun a' => wpList P ops (Exit.then (fun a'' w' => Eff late R1 R2 e w w' ∧ wpPlanR late R1 R2 P ops Q t a'' w') Q) [opAt ops e] a' w) (pickOps ops ws) a') (pickOps ops qs) a
theorem plan_anyR (hR1 : ∀ a b c, R1 a b → R1 b c → R1 a c) (hR2 : ∀ a b c, R2 a b → R2 b c → R2 a c) (hns : Region.noSelect ops = true) (hQ : ∀ c a d v w, Q (.panic c) (Act.put a d v) w → Q (.panic c) a w) :
    ∀ (t : PlanR) (listed : Array Bool) (a : Act) (w : World), Closed ops listed → checkW late ops t listed = true → wpPlanR late R1 R2 P ops Q t a w → wpAnyR late R1 R2 P .any ops Q t.len listed a w
  | .last qs ws, listed, a, w, hcl, hc, h => by
    unfold checkW at hc
    split at hc
    · rename_i l hl
      split at hc
      · rename_i l2 hl2
        refine quiet_blockR hR1 late (fun j w w' hj he => he.1 hj) hns hQ (fuel := ws.length) (fun a' hcl' h' => ?_) qs listed a hcl hl h
        exact quiet_blockR hR2 [] (fun j w w' _ he => he.2) hns hQ (fuel := 0) (fun a' _ h' => ⟨by simpa using hc, h'⟩) ws l a' hcl' hl2 h'
      · cases hc
    · cases hc
  | .one qs ws e t, listed, a, w, hcl, hc, h => by
    unfold checkW at hc
    split at hc
    · rename_i l hl
      split at hc
      · rename_i l2 hl2
        simp only [Bool.and_eq_true, beq_iff_eq, decide_eq_true_eq] at hc
        refine quiet_blockR hR1 late (fun j w w' hj he => he.1 hj) hns hQ (fuel := ws.length + (t.len + 1)) (fun a' hcl' h' => ?_) qs listed a hcl hl h
        refine quiet_blockR hR2 [] (fun j w w' _ he => he.2) hns hQ (fuel := t.len + 1) (fun a' hcl' h' => ?_) ws l a' hcl' hl2 h'
        refine ⟨fun h0 => (by rw [hc.1] at h0; cases h0), fun i hi => ?_⟩
        have hrd := hi
        rw [hc.1] at hi
        have hie : i = e := by simpa using hi
        subst hie
        obtain ⟨_, oj, hoj, hall⟩ := mem_ready.1 hrd
        exact wpOp_mono (fun a'' w' ⟨hb, h''⟩ => ⟨hb.c, plan_anyR hR1 hR2 hns hQ t _ a'' w' (hcl'.more hoj hall) hc.2.2 h''⟩) (op_of_list (at_of_lt hc.2.1) h')
      · cases hc
    · cases hc
/-- THE LAW -/
theorem wp_region_planR {id : Nat} {a : Act} {w : World} {l : List Oper} (late : List Nat) (R1 R2 : World → World → Prop) (hR1 : ∀ a b c, R1 a b → R1 b c → R1 a c) (hR2 : ∀ a b c, R2 a b → R2 b c → R2 a c) (t : PlanR) (hm : P.follows .mixedOrders = true)
    (hc : (Region.noSelect l.toArray && (checkW late l.toArray t (Array.replicate l.toArray.size false) && decide (t.len = l.toArray.size))) = true)
    (hQ : ∀ c a d v w, Q (.panic c) (Act.put a d v) w → Q (.panic c) a w)
    (h : wpPlanR late R1 R2 P l.toArray Q t a w.drew) : (Code.region id l.toArray true).wp P Q a w := by
  simp only [Bool.and_eq_true, decide_eq_true_eq] at hc
  refine wp_region_any hm ?_
  have h1 := plan_anyR hR1 hR2 hc.1 hQ t _ a _ (Closed.start _) hc.2.1 h
  rw [hc.2.2] at h1
  exact wpAny_of_R _ _ _ _ h1
/-- no bound at all -/
def anyW (_ _ : World) : Prop := True
theorem anyW_trans : ∀ a b c, anyW a b → anyW b c → anyW a c := fun _ _ _ _ _ => trivial
end
end Go.Proofs.YtnnmlhmffnfjfaaGreat

/-
  The reference's In and Has of regions: they say what the program's Has says.
-/
namespace Go.Proofs.YtnnmlhmffnfjfaaGreat
open Go.RowKit
set_option maxRecDepth 100000
open Rg

end Go.Proofs.YtnnmlhmffnfjfaaGreat

/-
  The program's boxes of a region: how many they are, what they are, and where they lie.
-/
namespace Go.Proofs.YtnnmlhmffnfjfaaGreat
open Go.RowKit
set_option maxRecDepth 100000
open Rg

/-- the boxes, in order -/
def boxesR : Rg → List (List (List Iv))
  | .nil _ f => if f then [[]] else []
  | .cons vs rest tail => (boxesR rest).map (vs :: ·) ++ boxesR tail
/-- a box that was built: where its row lies, and its sets -/
abbrev BoxP := (Option Addr × Nat × Nat) × List SetP
def bxc (e : BoxP) : List Value := [.slice e.1.1 e.1.2.1 e.1.2.2]
structure BoxE (B : Nat) (W w : World) (e : BoxP) : Prop where
  own : w.ownsRow B 139 1 (.slice e.1.1 e.1.2.1 e.1.2.2) e.1.2.1 (e.2.flatMap setc)
  len : e.2.length = e.1.2.1
  set : ∀ p ∈ e.2, okS p.1.1 p.1.2.1 p.1.2.2 ∧ p.1.2.1 ≤ 1000000 ∧ IvS W p.1.1 p.1.2.1 p.2
theorem BoxE.but {B : Nat} {W w w' : World} {e : BoxP} {S : Nat → Prop} (h : BoxE B W w e) (hb : But S w w') (hs : ∀ k, (Value.slice e.1.1 e.1.2.1 e.1.2.2).ownBlock = some k → ¬ S k) : BoxE B W w' e := ⟨own_but h.own hb hs, h.len, h.set⟩
theorem BoxE.below {B : Nat} {W w w' : World} {e : BoxP} (h : BoxE B W w e) (hb : Below w.heap.size w w') : BoxE B W w' e := h.but (S := fun _ => False) (But.of_below hb) (fun _ _ h => h)
/-- what boxes returns -/
def BoxOut (W w : World) (r : Rg) (e : Ending) (w' : World) : Prop :=
  ∃ (A : Option Addr) (n c : Nat) (es : List BoxP), e = .returned (.slice A n c) ∧ w'.ownsRow w.heap.size 176 1 (.slice A n c) n (es.flatMap bxc) ∧ es.length = n ∧ (∀ x ∈ es, BoxE w.heap.size W w' x) ∧ es.map (fun x => x.2.map (·.2)) = boxesR r ∧ Below w.heap.size w w'
/-- the state of the loops -/
structure BxS (W w : World) (A : Option Addr) (t c : Nat) (es : List BoxP) (wr : World) : Prop where
  own : wr.ownsRow (w.heap.size + 1) 176 1 (.slice A t c) t (es.flatMap bxc)
  len : es.length = t
  el : ∀ x ∈ es, BoxE (w.heap.size + 1) W wr x
  bel : Below w.heap.size w wr
  lo : w.heap.size + 1 ≤ wr.heap.size
theorem BxS.below {W w wr w' : World} {A : Option Addr} {t c : Nat} {es : List BoxP} (h : BxS W w A t c es wr) (hb : Below wr.heap.size wr w') : BxS W w A t c es w' :=
  ⟨own_at h.own fun g _ hl _ => hb.block g hl, h.len, fun x hx => (h.el x hx).below hb, Below.next h.bel hb, Nat.le_trans h.lo hb.size⟩
theorem own_mono {w : World} {B B' : Nat} {e : TypeId} {sz n : Nat} {v : Value} {xs : List Value} (h : w.ownsRow B e sz v n xs) (hB : B' ≤ B) : w.ownsRow B' e sz v n xs := by
  refine ⟨h.1, ?_⟩
  rcases h.2 with h2 | ⟨g, cap, cur, h3, h4, h5⟩
  · exact .inl h2
  · exact .inr ⟨g, cap, cur, h3, Nat.le_trans hB h4, h5⟩
/-- one box more -/
theorem BxS.more {W w wr w' : World} {A : Option Addr} {t c : Nat} {es : List BoxP} (h : BxS W w A t c es wr) {x : BoxP} (hx : BoxE (w.heap.size + 1) W wr x) {A' : Option Addr} {c' : Nat} (hown : w'.ownsRow (w.heap.size + 1) 176 1 (.slice A' (t + 1) c') (t + 1) (es.flatMap bxc ++ bxc x))
    (hb : But (fun q => (Value.slice A t c).ownBlock = some q) wr w') : BxS W w A' (t + 1) c' (es ++ [x]) w' := by
  refine ⟨by rw [List.flatMap_append]; simpa using hown, by simp [h.len], fun q hq => ?_, hb.below h.bel h.bel.size (fun q hq => by have := (own_lt h.own hq).1; omega), Nat.le_trans h.lo hb.size⟩
  have hq' : BoxE (w.heap.size + 1) W wr q := by
    rcases List.mem_append.1 hq with hq | hq
    · exact h.el q hq
    · rw [List.mem_singleton.1 hq]
      exact hx
  exact hq'.but hb fun k hk hs => own_types hq'.own h.own (by decide) hk hs
theorem BxS.out {W w wr : World} {A : Option Addr} {t c : Nat} {es : List BoxP} {r : Rg} (h : BxS W w A t c es wr) (he : es.map (fun x => x.2.map (·.2)) = boxesR r) : BoxOut W w r (.returned (.slice A t c)) wr :=
  ⟨A, t, c, es, rfl, own_mono h.own (Nat.le_succ _), h.len, fun x hx => ⟨own_mono (h.el x hx).own (Nat.le_succ _), (h.el x hx).len, (h.el x hx).set⟩, he, h.bel⟩
end Go.Proofs.YtnnmlhmffnfjfaaGreat

/-
  The functions that the program's Project and Lift hand to unite: which sets they make of the sets of a box. The reference's list of full sets, with its memory.
-/
namespace Go.Proofs.YtnnmlhmffnfjfaaGreat
open Go.RowKit
set_option maxRecDepth 100000

def noSet : SetP := ((none, 0, 0), [])
/-- the set at a column -/
def pk (ps : List SetP) (c : Int) : SetP := ps.getD c.toNat noSet
theorem mk_slices (n : Nat) : (madeCells (Value.slice none 0 0).cells (n * 1)).toList = List.replicate n (Value.slice none 0 0) := by
  have h1 : ∀ i : Nat, (Value.slice none 0 0).cells[i % (Value.slice none 0 0).cells.size]! = Value.slice none 0 0 := fun i => by
    show (#[Value.slice none 0 0] : Array Value)[i % 1]! = _
    rw [Nat.mod_one]
    rfl
  unfold madeCells
  rw [Nat.mul_one, Array.toList_map, List.eq_replicate_iff]
  exact ⟨by simp, fun b hb => by
    obtain ⟨i, _, rfl⟩ := List.mem_map.1 hb
    exact h1 i⟩
/-- a row of sets of its own, each from elsewhere or full -/
structure LfS (w : World) (B : Nat) (A : Option Addr) (N c : Nat) (ps qs : List SetP) : Prop where
  own : w.ownsRow B 139 1 (.slice A N c) N (qs.flatMap setc)
  len : qs.length = N
  el : ∀ q ∈ qs, q ∈ ps ∨ AllP w q
theorem LfS.sets {w0 w : World} {B : Nat} {A A0 : Option Addr} {N c n0 : Nat} {ps qs : List SetP} (h : LfS w B A N c ps qs) (hs : SetsS w0 A0 n0 ps) (hb : Keeps w0 w) : SetsS w A N qs := by
  refine ⟨Sl.of_own setc_len h.len h.own, fun q hq => ?_⟩
  rcases h.el q hq with h1 | ⟨g, rfl, h1⟩
  · have h2 := hs.ok q h1
    exact ⟨h2.1, h2.2.1, h2.2.2.keep hb⟩
  · exact ⟨⟨Nat.le_refl _, fun h => by cases h⟩, by show 1 ≤ 1000000; omega, all_iv h1⟩
theorem flat_setc (qs : List SetP) (j : Nat) (p : SetP) : (qs.set j p).flatMap setc = (qs.flatMap setc).set j (.slice p.1.1 p.1.2.1 p.1.2.2) := by
  induction qs generalizing j with
  | nil => rfl
  | cons q qs ih =>
    cases j with
    | zero => rfl
    | succ j =>
      rw [List.set_cons_succ, List.flatMap_cons, ih, List.flatMap_cons]
      rfl
/-- one set put into its column -/
theorem LfS.put {w : World} {B g : Nat} {N c : Nat} {ps qs : List SetP} (h : LfS w B (some ⟨g, 0, none⟩) N c ps qs) {p : SetP} (hp : p ∈ ps) (j : Nat) : LfS (w.setCell ⟨g, j, none⟩ (.slice p.1.1 p.1.2.1 p.1.2.2)) B (some ⟨g, 0, none⟩) N c ps (qs.set j p) := by
  have hbz : But (fun q => (Value.slice (some ⟨g, 0, none⟩) N c).ownBlock = some q) w (w.setCell ⟨g, j, none⟩ (.slice p.1.1 p.1.2.1 p.1.2.2)) := But.set (S := fun q => (Value.slice (some ⟨g, 0, none⟩) N c).ownBlock = some q) _ (p := ⟨g, j, none⟩) rfl _
  refine ⟨?_, by rw [List.length_set]; exact h.len, fun q hq => ?_⟩
  · have h1 := (h.own.stored j (.slice p.1.1 p.1.2.1 p.1.2.2)).1
    rw [← flat_setc] at h1
    exact h1
  · rcases List.mem_or_eq_of_mem_set hq with h2 | rfl
    · rcases h.el q h2 with h3 | h3
      · exact .inl h3
      · exact .inr (h3.but hbz (fun q hq cs => own_notI h.own hq cs))
    · exact .inl hp
theorem LfS.below {w w' : World} {B : Nat} {A : Option Addr} {N c : Nat} {ps qs : List SetP} (h : LfS w B A N c ps qs) (hb : Below w.heap.size w w') : LfS w' B A N c ps qs :=
  ⟨own_at h.own (fun q _ hl _ => hb.block q hl), h.len, fun q hq => (h.el q hq).imp id (·.below hb)⟩
end Go.Proofs.YtnnmlhmffnfjfaaGreat

/-
  Plain: what a union of boxes one after another is, and projection, lifting and the universal projection made of it. No walk here.
-/
namespace Go.Proofs.YtnnmlhmffnfjfaaGreat
open Go.RowKit
set_option maxRecDepth 100000
open Rg

end Go.Proofs.YtnnmlhmffnfjfaaGreat

/-
  Plain: what the operations on canonical regions answer; the laws as equalities of answers. No program here.
-/
namespace Go.Proofs.YtnnmlhmffnfjfaaGreat
open Go.RowKit
set_option maxRecDepth 100000
open Rg

section
variable {n : Nat} {a b : Rg} (ha : OkR a) (hwa : a.w = (n : Int))
include ha hwa
variable (hb : OkR b) (hwb : b.w = (n : Int))
include hb hwb
end
section
variable {n : Nat} {a b c : Rg} (ha : OkR a) (hwa : a.w = (n : Int))
include ha hwa
variable (hb : OkR b) (hwb : b.w = (n : Int))
include hb hwb
variable (hc : OkR c) (hwc : c.w = (n : Int))
include hc hwc
end
end Go.Proofs.YtnnmlhmffnfjfaaGreat

/-
  Plain: the laws of the algebra of canonical regions, as the program's own equality. No program here.
-/
namespace Go.Proofs.YtnnmlhmffnfjfaaGreat
open Go.RowKit
set_option maxRecDepth 100000
open Rg

section
variable {n : Nat} {a b r : Rg} (ha : OkR a) (hwa : a.w = (n : Int))
include ha hwa
variable (hb : OkR b) (hwb : b.w = (n : Int))
include hb hwb
end
end Go.Proofs.YtnnmlhmffnfjfaaGreat

/-
  Plain: which rows the program's Has finds in canonical regions and in what the operations make of them. No program here.
-/
namespace Go.Proofs.YtnnmlhmffnfjfaaGreat
open Go.RowKit
set_option maxRecDepth 100000
open Rg

end Go.Proofs.YtnnmlhmffnfjfaaGreat

/-
  The least row of a region, of the program and of the reference.
-/
namespace Go.Proofs.YtnnmlhmffnfjfaaGreat
open Go.RowKit
set_option maxRecDepth 100000
open Rg

def lstP : Rg → List Vl
  | .nil _ _ => []
  | .cons vs rest _ => lo vs :: lstP rest
/-- the state of the loop: the row so far, the region that is left -/
structure LsS (w : World) (r : Rg) (D : Nat) (k : Nat) (A1 : Option Addr) (c1 : Nat) (x : Int) (f : Bool) (A : Option Addr) (n c : Nat) (wr : World) : Prop where
  ex : ∃ (l : List Vl) (q : Rg) (d : Nat), l.length = k ∧ wr.ownsRow (w.heap.size + 1) 59 3 (.slice A1 k c1) k (l.flatMap Vl.cs) ∧ RgS w x f A n c q ∧ FormF d q ∧ d + k = D ∧ q.nix = false ∧ l ++ lstP q = lstP r ∧ q.size ≤ 64
  bo : Blk wr w.heap.size 71 #[.int .i64 x, .bool f, .slice A n c]
  be : Below w.heap.size w wr
end Go.Proofs.YtnnmlhmffnfjfaaGreat

/-
  Plain: which rows a projection, a universal projection and a lifted region contain. No program here.
-/
namespace Go.Proofs.YtnnmlhmffnfjfaaGreat
open Go.RowKit
set_option maxRecDepth 100000
open Rg

section
variable {n : Nat} {r : Rg} (hr : OkR r) (hw : r.w = (n : Int)) {cs : List Int}
include hr hw
end
section
variable {n : Nat} {a b : Rg} (ha : OkR a) (hwa : a.w = (n : Int)) {cs : List Int} (h : dstB (n : Int) cs = true)
include ha hwa h
end
section
variable {n : Nat} {a : Rg} (ha : OkR a) (hwa : a.w = (n : Int))
include ha hwa
end
end Go.Proofs.YtnnmlhmffnfjfaaGreat
