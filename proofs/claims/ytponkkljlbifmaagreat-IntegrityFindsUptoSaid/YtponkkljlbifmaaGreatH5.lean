/-
  Texts: Pd, RegionS, Next, Real, PdP, RowCmp.
-/
import Derived.Test.YtponkkljlbifmaaGreatH4
import Derived.Lib.ConvBytes
import Derived.Lib.SlBytesRow
set_option linter.unusedVariables false
/-
  Predicates as data: trees of nodes, how they lie in memory (thirteen cells a node). No program here.
-/
namespace Go.Proofs.YtponkkljlbifmaaGreat
open Go.RowKit
set_option maxRecDepth 100000

/-- an operand -/
structure Od where
  k : Int
  ix : Int
  v : Vl
  deriving DecidableEq
/-- a node without its arguments -/
structure Nd where
  op : Int
  cm : Int
  l : Od
  r : Od
  deriving DecidableEq
def Nd.cs (h : Nd) : List Value := [.int .i64 h.op, .int .i64 h.cm, .int .i64 h.l.k, .int .i64 h.l.ix, .int .i64 h.l.v.k, .int .i64 h.l.v.i, .string h.l.v.t, .int .i64 h.r.k, .int .i64 h.r.ix, .int .i64 h.r.v.k, .int .i64 h.r.v.i, .string h.r.v.t]
theorem Nd.cs_len (h : Nd) : h.cs.length = 12 := rfl
/-- a predicate: its arguments one after another, then its head -/
inductive Pd where
  | nil (h : Nd)
  | cons (a t : Pd)
  deriving DecidableEq
namespace Pd
def h : Pd → Nd
  | nil h => h
  | cons _ t => t.h
def len : Pd → Nat
  | nil _ => 0
  | cons _ t => t.len + 1
def args : Pd → List Pd
  | nil _ => []
  | cons a t => a :: t.args
def mkP (h : Nd) : List Pd → Pd
  | [] => nil h
  | a :: l => cons a (mkP h l)
def nodes : Pd → Nat
  | nil _ => 1
  | cons a t => a.nodes + t.nodes
theorem len_args : ∀ p : Pd, p.args.length = p.len
  | nil _ => rfl
  | cons _ t => by simp [args, len, len_args t]
theorem mk_args : ∀ p : Pd, mkP p.h p.args = p
  | nil _ => rfl
  | cons _ t => by simp only [args, mkP, h, mk_args t]
theorem h_mk (h : Nd) : ∀ l, (mkP h l).h = h
  | [] => rfl
  | _ :: l => h_mk h l
theorem args_mk (h : Nd) : ∀ l, (mkP h l).args = l
  | [] => rfl
  | a :: l => by simp [mkP, args, args_mk h l]
theorem len_mk (h : Nd) (l : List Pd) : (mkP h l).len = l.length := by rw [← len_args, args_mk]
theorem ext {a b : Pd} (h1 : a.h = b.h) (h2 : a.args = b.args) : a = b := by rw [← mk_args a, ← mk_args b, h1, h2]
theorem nodes_pos : ∀ p : Pd, 1 ≤ p.nodes
  | nil _ => Nat.le_refl _
  | cons a t => by have := nodes_pos t; simp only [nodes]; omega
theorem nodes_mem {q : Pd} : ∀ {p : Pd}, q ∈ p.args → q.nodes < p.nodes
  | nil _, h => by cases h
  | cons a t, h => by
    rcases List.mem_cons.1 h with rfl | h
    · have := nodes_pos t; simp only [nodes]; omega
    · have := nodes_mem (p := t) h; simp only [nodes]; omega
end Pd
open Pd
/-- the arguments of a node lie in block b from cell o on -/
def PdP (w : World) : Pd → Nat → Nat → Prop
  | .nil _, _, _ => True
  | .cons a t, b, o =>
    (∀ (j : Nat) (u : Value), a.h.cs[j]? = some u → w.cell? ⟨b, o + j, none⟩ = some u) ∧
    (∃ A n c, w.cell? ⟨b, o + 12, none⟩ = some (.slice A n c) ∧ okS A n c ∧ n = a.len ∧ (0 < n → ∃ b' o', A = some ⟨b', o', none⟩ ∧ PdP w a b' o')) ∧ PdP w t b (o + 13)
/-- the slice with address A, length n, capacity c reads as the arguments of a node -/
structure PrdS (w : World) (A : Option Addr) (n c : Nat) (p : Pd) : Prop where
  ok : okS A n c
  len : n = p.len
  ex : 0 < n → ∃ b o, A = some ⟨b, o, none⟩ ∧ PdP w p b o
/-- one argument, cell by cell -/
structure ArgAt (w : World) (b o : Nat) (q : Pd) (A : Option Addr) (n c : Nat) : Prop where
  c0 : w.cell? ⟨b, o, none⟩ = some (.int .i64 q.h.op)
  c1 : w.cell? ⟨b, o + 1, none⟩ = some (.int .i64 q.h.cm)
  c2 : w.cell? ⟨b, o + 2, none⟩ = some (.int .i64 q.h.l.k)
  c3 : w.cell? ⟨b, o + 3, none⟩ = some (.int .i64 q.h.l.ix)
  c4 : w.cell? ⟨b, o + 4, none⟩ = some (.int .i64 q.h.l.v.k)
  c5 : w.cell? ⟨b, o + 5, none⟩ = some (.int .i64 q.h.l.v.i)
  c6 : w.cell? ⟨b, o + 6, none⟩ = some (.string q.h.l.v.t)
  c7 : w.cell? ⟨b, o + 7, none⟩ = some (.int .i64 q.h.r.k)
  c8 : w.cell? ⟨b, o + 8, none⟩ = some (.int .i64 q.h.r.ix)
  c9 : w.cell? ⟨b, o + 9, none⟩ = some (.int .i64 q.h.r.v.k)
  c10 : w.cell? ⟨b, o + 10, none⟩ = some (.int .i64 q.h.r.v.i)
  c11 : w.cell? ⟨b, o + 11, none⟩ = some (.string q.h.r.v.t)
  c12 : w.cell? ⟨b, o + 12, none⟩ = some (.slice A n c)
  s : PrdS w A n c q
theorem PdP.imp {w w' : World} (hk : ∀ (b j : Nat) (v : Value), w.cell? ⟨b, j + 12, none⟩ ≠ none → ∀ i, i ≤ 12 → w.cell? ⟨b, j + i, none⟩ = some v → w'.cell? ⟨b, j + i, none⟩ = some v) : ∀ {p : Pd} {b o : Nat}, PdP w p b o → PdP w' p b o
  | .nil _, _, _, _ => trivial
  | .cons a t, b, o, ⟨h1, ⟨A, n, c, h2, h3, h4, h5⟩, h6⟩ => by
    have hne : w.cell? ⟨b, o + 12, none⟩ ≠ none := by rw [h2]; simp
    refine ⟨fun j u hu => ?_, ⟨A, n, c, hk b o _ hne 12 (Nat.le_refl _) h2, h3, h4, fun hn => ?_⟩, PdP.imp hk h6⟩
    · have hj : j < 12 := by have := (List.getElem?_eq_some_iff.1 hu).1; rw [Nd.cs_len] at this; exact this
      exact hk b o u hne j (by omega) (h1 j u hu)
    · obtain ⟨b', o', e, h7⟩ := h5 hn
      exact ⟨b', o', e, PdP.imp hk h7⟩
theorem PrdS.imp {w w' : World} {A : Option Addr} {n c : Nat} {p : Pd} (h : PrdS w A n c p) (hk : ∀ (b j : Nat) (v : Value), w.cell? ⟨b, j + 12, none⟩ ≠ none → ∀ i, i ≤ 12 → w.cell? ⟨b, j + i, none⟩ = some v → w'.cell? ⟨b, j + i, none⟩ = some v) : PrdS w' A n c p :=
  ⟨h.ok, h.len, fun hn => by
    obtain ⟨b, o, e, hp⟩ := h.ex hn
    exact ⟨b, o, e, hp.imp hk⟩⟩
theorem PrdS.keep {w w' : World} {A : Option Addr} {n c : Nat} {p : Pd} (h : PrdS w A n c p) (hk : Keeps w w') : PrdS w' A n c p := h.imp fun _ _ _ _ _ _ h => keep_cell hk h
/-- blocks that are too short for a node do not matter -/
theorem PrdS.short {w w' : World} {A : Option Addr} {n c : Nat} {p : Pd} {S : Nat → Prop} (h : PrdS w A n c p) (hb : But S w w') (hS : ∀ b, S b → ∀ j, 12 ≤ j → w.cell? ⟨b, j, none⟩ = none) : PrdS w' A n c p := h.imp fun b j v hne i _ hv => by
  have hn : ¬ S b := fun hs => hne (hS b hs _ (by omega))
  exact (World.cell?_of_block (a := ⟨b, j + i, none⟩) (hb.block b (cell_lt (w := w) (a := ⟨b, j + i, none⟩) (by rw [hv]; rfl)) hn)).trans hv
theorem short_blk {w : World} {B : Nat} {T : TypeId} {cs : Array Value} (h : Blk w B T cs) (hc : cs.size ≤ 12) : ∀ j, 12 ≤ j → w.cell? ⟨B, j, none⟩ = none := fun j hj => by
  rw [h.cell j]
  exact Array.getElem?_eq_none (by omega)
theorem PrdS.blk {w w' : World} {A : Option Addr} {n c : Nat} {p : Pd} {B : Nat} {T : TypeId} {cs : Array Value} (h : PrdS w A n c p) (hB : Blk w B T cs) (hc : cs.size ≤ 12) (hb : But (· = B) w w') : PrdS w' A n c p := h.short hb fun b e => by
  subst e
  exact short_blk hB hc
theorem PrdS.case {w w' : World} {A : Option Addr} {n c : Nat} {p : Pd} {g : Nat} (h : PrdS w A n c p) (hc : CaseAt w g) (hb : But (· = g) w w') : PrdS w' A n c p := by
  obtain ⟨A', n', c', k, zs, hB, _⟩ := hc.ex
  exact h.blk hB (by simp) hb
theorem PdP.at {w : World} : ∀ {p : Pd} {b o k : Nat} {q : Pd}, PdP w p b o → p.args[k]? = some q → ∃ A n c, ArgAt w b (o + k * 13) q A n c
  | .nil _, _, _, _, _, _, hp => by simp [args] at hp
  | .cons a t, b, o, 0, q, ⟨h1, ⟨A, n, c, h2, h3, h4, h5⟩, h6⟩, hp => by
    simp only [args, List.getElem?_cons_zero, Option.some.injEq] at hp
    subst hp
    refine ⟨A, n, c, ?_⟩
    rw [Nat.zero_mul, Nat.add_zero]
    exact ⟨h1 0 _ rfl, h1 1 _ rfl, h1 2 _ rfl, h1 3 _ rfl, h1 4 _ rfl, h1 5 _ rfl, h1 6 _ rfl, h1 7 _ rfl, h1 8 _ rfl, h1 9 _ rfl, h1 10 _ rfl, h1 11 _ rfl, h2, ⟨h3, h4, h5⟩⟩
  | .cons a t, b, o, k + 1, q, h, hp => by
    simp only [args, List.getElem?_cons_succ] at hp
    have := PdP.at h.2.2 hp
    rw [show o + (k + 1) * 13 = o + 13 + k * 13 by omega]
    exact this
theorem PrdS.at {w : World} {A : Option Addr} {n c k : Nat} {p : Pd} (h : PrdS w A n c p) (hk : k < n) : ∃ b o q A1 n1 c1, A = some ⟨b, o, none⟩ ∧ p.args[k]? = some q ∧ ArgAt w b (o + k * 13) q A1 n1 c1 := by
  obtain ⟨b, o, e, hp⟩ := h.ex (by omega)
  have hl := h.len
  have hk' : k < p.args.length := by rw [len_args]; omega
  obtain ⟨A1, n1, c1, hq⟩ := hp.at (List.getElem?_eq_getElem hk')
  exact ⟨b, o, _, A1, n1, c1, e, List.getElem?_eq_getElem hk', hq⟩
theorem PdP.of {w : World} : ∀ {p : Pd} {b o : Nat}, (∀ k q, p.args[k]? = some q → ∃ A n c, ArgAt w b (o + k * 13) q A n c) → PdP w p b o
  | .nil _, _, _, _ => trivial
  | .cons a t, b, o, h => by
    obtain ⟨A, n, c, h0⟩ := h 0 a rfl
    simp only [Nat.zero_mul, Nat.add_zero] at h0
    refine ⟨fun j u hu => ?_, ⟨A, n, c, h0.c12, h0.s.ok, h0.s.len, h0.s.ex⟩, PdP.of fun k q hq => ?_⟩
    · have hj : j < 12 := by have := (List.getElem?_eq_some_iff.1 hu).1; rw [Nd.cs_len] at this; exact this
      match j, hj with
      | 0, _ => injection hu with hu; rw [← hu]; exact h0.c0
      | 1, _ => injection hu with hu; rw [← hu]; exact h0.c1
      | 2, _ => injection hu with hu; rw [← hu]; exact h0.c2
      | 3, _ => injection hu with hu; rw [← hu]; exact h0.c3
      | 4, _ => injection hu with hu; rw [← hu]; exact h0.c4
      | 5, _ => injection hu with hu; rw [← hu]; exact h0.c5
      | 6, _ => injection hu with hu; rw [← hu]; exact h0.c6
      | 7, _ => injection hu with hu; rw [← hu]; exact h0.c7
      | 8, _ => injection hu with hu; rw [← hu]; exact h0.c8
      | 9, _ => injection hu with hu; rw [← hu]; exact h0.c9
      | 10, _ => injection hu with hu; rw [← hu]; exact h0.c10
      | 11, _ => injection hu with hu; rw [← hu]; exact h0.c11
    · have := h (k + 1) q (by simpa [args] using hq)
      rw [show o + 13 + k * 13 = o + (k + 1) * 13 by omega]
      exact this
theorem ArgAt.keep {w w' : World} {b o : Nat} {q : Pd} {A : Option Addr} {n c : Nat} (h : ArgAt w b o q A n c) (hk : Keeps w w') : ArgAt w' b o q A n c :=
  ⟨keep_cell hk h.c0, keep_cell hk h.c1, keep_cell hk h.c2, keep_cell hk h.c3, keep_cell hk h.c4, keep_cell hk h.c5, keep_cell hk h.c6, keep_cell hk h.c7, keep_cell hk h.c8, keep_cell hk h.c9, keep_cell hk h.c10, keep_cell hk h.c11, keep_cell hk h.c12, h.s.keep hk⟩
theorem PrdS.nil {w : World} (h : Nd) : PrdS w none 0 0 (.nil h) := ⟨⟨Nat.le_refl _, fun _ => ⟨rfl, rfl⟩⟩, rfl, fun h => absurd h (by omega)⟩
/-- the value of a whole node -/
def pdV (h : Nd) (A : Option Addr) (n c : Nat) : Array Value := #[.int .i64 h.op, .int .i64 h.cm, .int .i64 h.l.k, .int .i64 h.l.ix, .int .i64 h.l.v.k, .int .i64 h.l.v.i, .string h.l.v.t, .int .i64 h.r.k, .int .i64 h.r.ix, .int .i64 h.r.v.k, .int .i64 h.r.v.i, .string h.r.v.t, .slice A n c]
/-- what a list of nodes that lie in a row of the call's own reads as -/
structure PdE where
  p : Pd
  A : Option Addr
  n : Nat
  c : Nat
def PdE.cs (e : PdE) : List Value := (pdV e.p.h e.A e.n e.c).toList
theorem PdE.cs_len (e : PdE) : (PdE.cs e).length = 13 := rfl
theorem one_pd (e : PdE) : ∀ u ∈ PdE.cs e, u.oneCell' = true := by simp [PdE.cs, pdV, Value.oneCell']
end Go.Proofs.YtponkkljlbifmaaGreat

/-
  The same law for a region in which some blocks S are written (an append onto a row of the call's own).
-/
namespace Go.Proofs.YtponkkljlbifmaaGreat
open Go.RowKit
set_option maxRecDepth 100000
set_option linter.unusedVariables false

/-- all worlds in which nothing but the blocks of S has changed -/
structure LaterS (S : Nat → Prop) (w : World) where
  to : World
  but : But S w to
instance (S : Nat → Prop) (w : World) : Nonempty (LaterS S w) := ⟨⟨w, But.refl _ _⟩⟩
instance (S : Nat → Prop) (w : World) : Inhabited (LaterS S w) := ⟨⟨w, But.refl _ _⟩⟩
def afterS (S : Nat → Prop) (w : World) (x : LaterS S w) : World := x.to
abbrev clsS (S : Nat → Prop) (w : World) : World → Prop := fun W => ∃ x : LaterS S w, W = afterS S w x
theorem clsS_iff {S : Nat → Prop} {w W : World} : clsS S w W ↔ But S w W := ⟨fun ⟨x, h⟩ => by rw [h]; exact x.but, fun h => ⟨⟨W, h⟩, rfl⟩⟩

section
variable {P : Program} {ops : Array Oper} {Q : Exit → Act → World → Prop} {md : Region.Mode} {S : Nat → Prop}

def wpAnyT (S : Nat → Prop) (P : Program) (md : Region.Mode) (ops : Array Oper) (Q : Exit → Act → World → Prop) : Nat → Array Bool → Act → World → Prop
  | 0, listed, a, w => Region.ready md ops listed = [] ∧ Q .normal a w
  | fuel + 1, listed, a, w =>
    (Region.ready md ops listed = [] → Q .normal a w) ∧
    ∀ i ∈ Region.ready md ops listed, wpOp P ops Q i (fun a' w' => But S w w' ∧ wpAnyT S P md ops Q fuel (listed.setIfInBounds i true) a' w') a w

theorem wpAny_of_T : ∀ (fuel : Nat) (listed : Array Bool) (a : Act) (w : World), wpAnyT S P md ops Q fuel listed a w → wpAny P md ops Q fuel listed a w
  | 0, _, _, _, h => h
  | fuel + 1, _, _, _, h => ⟨h.1, fun i hi => wpOp_mono (fun a' w' h' => wpAny_of_T fuel _ a' w' h'.2) (h.2 i hi)⟩

theorem wpAnyT_first {i : Nat} {oi : Oper} {v : Value} (hi : ops[i]? = some oi) (hsel : ∀ (j : Nat) (o : Oper) cs b, ops[j]? = some o → o.op ≠ .select cs b)
    (hQ : ∀ c a w, Q (.panic c) (a.put oi.dst v) w → Q (.panic c) a w) :
    ∀ (fuel : Nat) (listed : Array Bool) (a : Act) (w : World),
      (∀ j oj, ops[j]? = some oj → j ≠ i → listed.getD j true = false → (∀ e ∈ oj.after, Region.binds md e = true → e.on ≠ i) → oi.apart ops oj = true) →
      i ∈ Region.ready md ops listed → YieldsIf P ops (fun W => But S w W) oi v a →
      wpAnyT S P md ops Q fuel (listed.setIfInBounds i true) (a.put oi.dst v) w → wpAnyT S P md ops Q (fuel + 1) listed a w := by
  intro fuel
  induction fuel with
  | zero =>
    intro listed a w _ hr hy H
    refine ⟨fun h => (by rw [h] at hr; cases hr), fun j hj => ?_⟩
    by_cases hji : j = i
    · subst hji; exact hy.wpOp hi (But.refl _ _) ⟨But.refl _ _, H⟩
    · have := ready_mono hj hji
      rw [H.1] at this
      cases this
  | succ fuel ih =>
    intro listed a w hfree hr hy H
    refine ⟨fun h => (by rw [h] at hr; cases hr), fun j hj => ?_⟩
    by_cases hji : j = i
    · subst hji; exact hy.wpOp hi (But.refl _ _) ⟨But.refl _ _, H⟩
    · have h1 := H.2 j (ready_mono hj hji)
      obtain ⟨hjun, oj, hoj, hall⟩ := mem_ready.1 hj
      have hnot : ∀ e ∈ oj.after, Region.binds md e = true → e.on ≠ i := fun e he hb heq => by
        have h1 := hall e he hb
        have h0 := (mem_ready.1 hr).1
        rw [heq] at h1
        rcases Nat.lt_or_ge i listed.size with h' | h'
        · simp [h'] at h0 h1; rw [h0] at h1; cases h1
        · simp [Array.getElem?_eq_none h'] at h1
      have h2 := wpOp_putIf hoj (hfree j oj hoj hji hjun hnot) (fun cs b => hsel i oi cs b hi) (fun cs b => hsel j oj cs b hoj) hQ hy h1
      have hfree' : ∀ k ok, ops[k]? = some ok → k ≠ i → (listed.setIfInBounds j true).getD k true = false →
          (∀ e ∈ ok.after, Region.binds md e = true → e.on ≠ i) → oi.apart ops ok = true := fun k ok hk hki hun hno => by
        refine hfree k ok hk hki ?_ hno
        by_cases hjk : j = k
        · subst hjk; exact hjun
        · rw [getD_set_ne true hjk] at hun; exact hun
      refine wpOp_mono (fun a' w' h3 => ⟨h3.2.1, ih (listed.setIfInBounds j true) a' w' hfree' (ready_mono hr (Ne.symm hji)) (YieldsIf.shrink (fun W hW => But.trans h3.2.1 hW) h3.1) ?_⟩) h2
      rw [Array.setIfInBounds_comm _ _ hji]
      exact h3.2.2

/-- blocks of operations that only read, each ended by one with an effect; the last block has none -/
def wpSegS (S : Nat → Prop) (P : Program) (ops : Array Oper) (Q : Exit → Act → World → Prop) : List (List Nat × Nat) → List Nat → Act → World → Prop
  | [], last, a, w => wpQuiet P ops (clsS S w) (fun a' => Q .normal a' w) (pickOps ops last) a
  | (qs, e) :: r, last, a, w => wpQuiet P ops (clsS S w) (fun a' => wpOp P ops Q e (fun a'' w' => But S w w' ∧ wpSegS S P ops Q r last a'' w') a' w) (pickOps ops qs) a

theorem quiet_blockS (hns : Region.noSelect ops = true) (hQ : ∀ c a d v w, Q (.panic c) (Act.put a d v) w → Q (.panic c) a w) {K : Act → Prop} {w : World} {fuel : Nat} {l' : Array Bool}
    (hK : ∀ a, K a → wpAnyT S P .any ops Q fuel l' a w) :
    ∀ (qs : List Nat) (listed : Array Bool) (a : Act), checkQ ops qs listed = some l' → wpQuiet P ops (clsS S w) K (pickOps ops qs) a → wpAnyT S P .any ops Q (qs.length + fuel) listed a w
  | [], listed, a, hc, h => by
    simp only [checkQ, Option.some.injEq] at hc
    subst hc
    simp only [List.length_nil, Nat.zero_add]
    exact hK a h
  | i :: r, listed, a, hc, h => by
    unfold checkQ at hc
    split at hc
    · rename_i hcond
      simp only [Bool.and_eq_true] at hcond
      obtain ⟨⟨hp, hr⟩, hf⟩ := hcond
      cases hi : ops[i]? with
      | none => simp [plainAt, hi] at hp
      | some o =>
        simp only [plainAt, hi] at hp
        have hpick : pickOps ops (i :: r) = o :: pickOps ops r := by simp [pickOps, opAt, hi]
        rw [hpick] at h
        unfold wpQuiet at h
        have hlen : (i :: r).length + fuel = (r.length + fuel) + 1 := by simp; omega
        rw [hlen]
        by_cases hw : Region.wanted o (yielded ops a.tmps) = true
        · rw [if_pos hw] at h
          obtain ⟨v, h1, h2⟩ := h
          refine wpAnyT_first hi (Region.noSelect_spec hns) (fun c a w => hQ c a _ _ w) _ listed a w (Region.free_spec hi hf) (by simpa using hr) (v := v) (.inl ⟨hw, fun W hW => ?_⟩) (quiet_blockS hns hQ hK r _ _ hc h2)
          have h3 := h1 W (clsS_iff.2 hW)
          have hg := gives_plain o hp a.eval P W
          unfold Oper.quietAt at h3
          generalize (execOp a.eval o).run P W = res at *
          cases res with
          | ok n w' =>
            cases n <;> simp only [Oper.quietUpon] at h3 <;> simp only [gives] at hg
            obtain ⟨e1, e2⟩ := h3
            rw [e1, e2]
          | halt x w' => simp only [Oper.quietUpon] at h3
        · rw [if_neg hw] at h
          exact wpAnyT_first hi (Region.noSelect_spec hns) (fun c a w => hQ c a _ _ w) _ listed a w (Region.free_spec hi hf) (by simpa using hr) (v := undef) (.inr ⟨by simpa using hw, rfl⟩) (quiet_blockS hns hQ hK r _ _ hc h)
    · cases hc

theorem seg_anyS (hns : Region.noSelect ops = true) (hQ : ∀ c a d v w, Q (.panic c) (Act.put a d v) w → Q (.panic c) a w) (last : List Nat) :
    ∀ (segs : List (List Nat × Nat)) (listed : Array Bool) (a : Act) (w : World), checkS ops segs last listed = true → wpSegS S P ops Q segs last a w → wpAnyT S P .any ops Q (segLen segs last) listed a w
  | [], listed, a, w, hc, h => by
    unfold checkS at hc
    split at hc
    · rename_i l hl
      exact quiet_blockS hns hQ (fuel := 0) (fun a' h' => ⟨by simpa using hc, h'⟩) last listed a hl h
    · cases hc
  | (qs, e) :: r, listed, a, w, hc, h => by
    unfold checkS at hc
    split at hc
    · rename_i l hl
      simp only [Bool.and_eq_true, beq_iff_eq] at hc
      refine quiet_blockS hns hQ (fuel := segLen r last + 1) (fun a' h' => ?_) qs listed a hl h
      refine ⟨fun h0 => (by rw [hc.1] at h0; cases h0), fun i hi => ?_⟩
      rw [hc.1] at hi
      have hie : i = e := by simpa using hi
      subst hie
      exact wpOp_mono (fun a'' w' ⟨hb, h''⟩ => ⟨hb, seg_anyS hns hQ last r _ a'' w' hc.2 h''⟩) h'
    · cases hc

/-- the blocks, the operations themselves -/
def wpBlocksS (S : Nat → Prop) (P : Program) (ops : Array Oper) (Q : Exit → Act → World → Prop) : List (List Oper × Oper) → List Oper → Act → World → Prop
  | [], last, a, w => wpQuiet P ops (fun W => ∃ x : LaterS S w, W = afterS S w x) (fun a' => Q .normal a' w) last a
  | (qs, e) :: r, last, a, w => wpQuiet P ops (fun W => ∃ x : LaterS S w, W = afterS S w x) (fun a' => wpList P ops (Exit.then (fun a'' w' => But S w w' ∧ wpBlocksS S P ops Q r last a'' w') Q) [e] a' w) qs a

theorem seg_of_blocksS (last : List Nat) : ∀ (segs : List (List Nat × Nat)) (a : Act) (w : World), segs.all (fun s => decide (s.2 < ops.size)) = true → wpBlocksS S P ops Q (pickSegs ops segs) (pickOps ops last) a w → wpSegS S P ops Q segs last a w
  | [], a, w, _, h => h
  | (qs, e) :: r, a, w, hl, h => by
    simp only [List.all_cons, Bool.and_eq_true, decide_eq_true_eq] at hl
    have he : ops[e]? = some (opAt ops e) := by
      unfold opAt
      rw [Array.getElem?_eq_getElem hl.1]
      rfl
    unfold pickSegs wpBlocksS at h
    unfold wpSegS
    refine wpQuiet_imp (fun a' h' => ?_) _ _ h
    refine wpOp_mono (fun a'' w' ⟨hb, h''⟩ => ⟨hb, seg_of_blocksS last r a'' w' hl.2 h''⟩) (op_of_list he h')

/-- THE LAW. 'segs', 'last': the order (numbers of operations); the check by kernel_rfl. -/
theorem wp_region_segS {id : Nat} {a : Act} {w : World} {l : List Oper} (S : Nat → Prop) (segs : List (List Nat × Nat)) (last : List Nat) (hm : P.follows .mixedOrders = true)
    (hc : (Region.noSelect l.toArray && (checkS l.toArray segs last (Array.replicate l.toArray.size false) && (decide (segLen segs last = l.toArray.size) && segs.all (fun s => decide (s.2 < l.toArray.size))))) = true)
    (hQ : ∀ c a d v w, Q (.panic c) (Act.put a d v) w → Q (.panic c) a w)
    (h : wpBlocksS S P l.toArray Q (pickSegs l.toArray segs) (pickOps l.toArray last) a w.drew) : (Code.region id l.toArray true).wp P Q a w := by
  simp only [Bool.and_eq_true, decide_eq_true_eq] at hc
  refine wp_region_any hm ?_
  have h1 := seg_anyS hc.1 hQ last segs _ a _ hc.2.1 (seg_of_blocksS last segs a _ hc.2.2.2 h)
  rw [hc.2.2.1] at h1
  exact wpAny_of_T _ _ _ _ h1
end
end Go.Proofs.YtponkkljlbifmaaGreat

namespace Go.Proofs.YtponkkljlbifmaaGreat
open Go.RowKit
set_option maxRecDepth 100000
set_option linter.unusedVariables false

def strip (t : List UInt8) : Nat → Nat
  | 0 => 0
  | n + 1 => if t.getD n 0 = 255 then strip t n else n + 1
def upT (t : ByteArray) (n : Nat) : ByteArray := ⟨(t.data.toList.take (n - 1) ++ [t.data.toList.getD (n - 1) 0 + 1]).toArray⟩
def nextT (t : ByteArray) : Vl × Bool :=
  if t.size < 64 then (⟨5, 0, t ++ ⟨#[0]⟩⟩, true)
  else if strip t.data.toList t.size = 0 then (zeroV, false) else (⟨5, 0, upT t (strip t.data.toList t.size)⟩, true)

theorem valid_kind {k i : Int} {t : ByteArray} (h : validV ⟨k, i, t⟩ = true) : k = 1 ∨ k = 2 ∨ k = 3 ∨ k = 4 ∨ k = 5 := by
  unfold validV at h
  grind
/-- the least valid value behind v -/
def nextV (v : Vl) : Vl × Bool :=
  if validV v then
    if v.k = 3 ∧ v.i = 0 then (⟨3, 1, ⟨#[]⟩⟩, true)
    else if v.k = 4 ∧ v.i < 9223372036854775807 then (⟨4, wrap64 (v.i + 1), ⟨#[]⟩⟩, true)
    else if v.k = 5 then nextT v.t
    else firstV (v.k + 1)
  else (zeroV, false)

end Go.Proofs.YtponkkljlbifmaaGreat

/-
  Real of both sides.
-/
namespace Go.Proofs.YtponkkljlbifmaaGreat
open Go.RowKit
set_option maxRecDepth 100000

def realV (v : Vl) : Bool := validV v && decide (3 ≤ v.k)
set_option maxHeartbeats 400000 in
theorem real_any (v : Vl) (w : World) : Calls Tryz.prog 91 #[.agg #[.int .i64 v.k, .int .i64 v.i, .string v.t]] w fun e w' => e = .returned (.bool (realV v)) ∧ Below w.heap.size w w' := by
  obtain ⟨k, i, t⟩ := v
  obtain ⟨r, Hr⟩ : ∃ r, Hid (realV ⟨k, i, t⟩ = r) := ⟨_, rfl⟩
  rw [Hr.out]
  go_enter Tryz.func91, Tryz.ntmps91
  go_wp2_with fail
  refine (valid_any ⟨k, i, t⟩ _).mono ?_
  rintro e w1 ⟨rfl, hb1⟩
  have hX := ((Blk.new w 67 #[.int .i64 k, .int .i64 i, .string t]).below hb1).cell
  have hB1 : Below w.heap.size w w1 := Below.next ((Below.refl _ _).alloc (Nat.le_refl _) _) hb1
  obtain ⟨q, Hq⟩ : ∃ q, Hid (validV ⟨k, i, t⟩ = q) := ⟨_, rfl⟩
  rw [Hq.out]
  cases q
  · go_wp2
    go_ret
    exact ⟨ret_bool (by rw [← Hr.out]; simp [realV, Hq.out]), hB1⟩
  · have hk := valid_kind Hq.out
    have HK := Lib.hid hk
    clear hk
    by_cases h1 : k = 1
    · have g1 : (k != 1) = false := by simp [h1]
      have H1 := Lib.hid h1
      clear h1
      go_wp2
      go_ret
      exact ⟨ret_bool (by rw [← Hr.out]; simp [realV, H1.out]), hB1⟩
    · have g1 : (k != 1) = true := by simp [h1]
      have H1 := Lib.hid h1
      clear h1
      by_cases h2 : k = 2
      · have g2 : (k != 2) = false := by simp [h2]
        have H2 := Lib.hid h2
        clear h2
        go_wp2
        go_ret
        exact ⟨ret_bool (by rw [← Hr.out]; simp [realV, H2.out]), hB1⟩
      · have g2 : (k != 2) = true := by simp [h2]
        have H2 := Lib.hid h2
        clear h2
        go_wp2
        go_ret
        exact ⟨ret_bool (by rw [← Hr.out]; have h3 : 3 ≤ k := by have := HK.out; have := H1.out; have := H2.out; omega
                            simp [realV, Hq.out, h3]), hB1⟩
set_option maxHeartbeats 400000 in
theorem rreal_any (v : Vl) (w : World) : Calls Tryz.prog 134 #[.agg #[.int .i64 v.k, .int .i64 v.i, .string v.t]] w fun e w' => e = .returned (.bool (realV v)) ∧ Below w.heap.size w w' := by
  obtain ⟨k, i, t⟩ := v
  obtain ⟨r, Hr⟩ : ∃ r, Hid (realV ⟨k, i, t⟩ = r) := ⟨_, rfl⟩
  rw [Hr.out]
  go_enter Tryz.func134, Tryz.ntmps134
  go_wp2_with fail
  refine (rvalid_any ⟨k, i, t⟩ _).mono ?_
  rintro e w1 ⟨rfl, hb1⟩
  have hX := ((Blk.new w 67 #[.int .i64 k, .int .i64 i, .string t]).below hb1).cell
  have hB1 : Below w.heap.size w w1 := Below.next ((Below.refl _ _).alloc (Nat.le_refl _) _) hb1
  obtain ⟨q, Hq⟩ : ∃ q, Hid (validV ⟨k, i, t⟩ = q) := ⟨_, rfl⟩
  rw [Hq.out]
  cases q
  · go_wp2
    go_ret
    exact ⟨ret_bool (by rw [← Hr.out]; simp [realV, Hq.out]), hB1⟩
  · by_cases h1 : 3 ≤ k
    · go_wp2
      go_ret
      exact ⟨ret_bool (by rw [← Hr.out]; simp [realV, Hq.out, h1]), hB1⟩
    · go_wp2
      go_ret
      exact ⟨ret_bool (by rw [← Hr.out]; simp [realV, Hq.out]), hB1⟩
end Go.Proofs.YtponkkljlbifmaaGreat

/-
  Plain: when a predicate is small and valid, and for which rows it holds. No program here.
-/
namespace Go.Proofs.YtponkkljlbifmaaGreat
open Go.RowKit
set_option maxRecDepth 100000
open Pd

def zeroOd : Od := ⟨0, 0, zeroV⟩
/-- kinds of columns -/
def colB (l : List Int) : Bool := l.all fun k => decide (3 ≤ k ∧ k ≤ 5)
/-- the kind of an operand, 0 if it is not valid -/
def kindOf (cols ps : List Int) (o : Od) : Int :=
  if o.k = 3 then (if o.ix = 0 ∧ realV o.v = true then o.v.k else 0)
  else if o.k = 1 then (if 0 ≤ o.ix ∧ o.ix < (cols.length : Int) ∧ o.v = zeroV then cols.getD o.ix.toNat 0 else 0)
  else if o.k = 2 then (if 0 ≤ o.ix ∧ o.ix < (ps.length : Int) ∧ o.v = zeroV then ps.getD o.ix.toNat 0 else 0)
  else 0
def plainH (h : Nd) : Bool := decide (h.cm = 0 ∧ h.l = zeroOd ∧ h.r = zeroOd)
def headOk (cols ps : List Int) (h : Nd) (n : Nat) : Bool :=
  if h.op = 3 then decide (n = 0 ∧ (1 ≤ h.cm ∧ h.cm ≤ 6) ∧ kindOf cols ps h.l ≠ 0 ∧ kindOf cols ps h.l = kindOf cols ps h.r)
  else if h.op = 1 ∨ h.op = 2 then decide (n = 0) && plainH h
  else if h.op = 6 then decide (n = 1) && plainH h
  else if h.op = 4 ∨ h.op = 5 then plainH h
  else false
/-- all arguments are valid -/
def validA (cols ps : List Int) : Pd → Bool
  | .nil _ => true
  | .cons a t => (headOk cols ps a.h a.len && validA cols ps a) && validA cols ps t
def validB (cols ps : List Int) (p : Pd) : Bool := headOk cols ps p.h p.len && validA cols ps p
theorem validA_mem {cols ps : List Int} : ∀ {p : Pd}, validA cols ps p = true ↔ ∀ q ∈ p.args, validB cols ps q = true
  | .nil _ => by simp [validA, args]
  | .cons a t => by
    rw [validA, Bool.and_eq_true, validA_mem (p := t)]
    simp [args, validB]
namespace Pd
def depth : Pd → Nat
  | nil _ => 1
  | cons a t => max (a.depth + 1) t.depth
theorem depth_pos : ∀ p : Pd, 1 ≤ p.depth
  | nil _ => Nat.le_refl _
  | cons a t => by have := depth_pos t; simp only [depth]; omega
end Pd
/-- the error of a predicate -/
def checkE (cols ps : List Int) (p : Pd) : Int := if (colB cols && colB ps) = true then (if p.nodes ≤ 24 ∧ p.depth ≤ 8 then (if validB cols ps p = true then 0 else 50) else 2) else 1
/-- what is left of a budget behind the arguments of a node, which stand at a level -/
def smA : Nat → Int → Pd → Option Int
  | _, b, .nil _ => some b
  | l, b, .cons a t => match (if b - 1 < 0 ∨ 8 < l then none else smA (l + 1) (b - 1) a) with
    | none => none
    | some b' => smA l b' t
def smB (l : Nat) (b : Int) (p : Pd) : Option Int := if b - 1 < 0 ∨ 8 < l then none else smA (l + 1) (b - 1) p
theorem smA_eq : ∀ (p : Pd) (l : Nat) (b : Int), l ≤ 9 → 0 ≤ b → smA l b p = if (p.nodes : Int) - 1 ≤ b ∧ p.depth + l ≤ 10 then some (b - ((p.nodes : Int) - 1)) else none
  | .nil h, l, b, hl, hb => by
    have hn : (Pd.nil h).nodes = 1 := rfl
    have hd : (Pd.nil h).depth = 1 := rfl
    rw [hn, hd, if_pos (by omega)]
    simp [smA]
  | .cons a t, l, b, hl, hb => by
    have ha := nodes_pos a
    have ht := nodes_pos t
    have hda := depth_pos a
    have hn : (Pd.cons a t).nodes = a.nodes + t.nodes := rfl
    have hd : (Pd.cons a t).depth = max (a.depth + 1) t.depth := rfl
    rw [hn, hd]
    unfold smA
    by_cases h1 : b - 1 < 0 ∨ 8 < l
    · rw [if_pos h1, if_neg (by omega)]
    · rw [if_neg h1, smA_eq a (l + 1) (b - 1) (by omega) (by omega)]
      by_cases h2 : (a.nodes : Int) - 1 ≤ b - 1 ∧ a.depth + (l + 1) ≤ 10
      · rw [if_pos h2]
        show smA l _ t = _
        rw [smA_eq t l _ hl (by omega)]
        by_cases h3 : (t.nodes : Int) - 1 ≤ b - 1 - ((a.nodes : Int) - 1) ∧ t.depth + l ≤ 10
        · rw [if_pos h3, if_pos (by omega)]
          congr 1
          omega
        · rw [if_neg h3, if_neg (by omega)]
      · rw [if_neg h2]
        show none = _
        rw [if_neg (by omega)]
theorem smB_eq (p : Pd) : (smB 1 24 p).isSome = decide (p.nodes ≤ 24 ∧ p.depth ≤ 8) := by
  have := nodes_pos p
  unfold smB
  rw [if_neg (by omega), smA_eq p (1 + 1) (24 - 1) (by omega) (by omega)]
  by_cases h : p.nodes ≤ 24 ∧ p.depth ≤ 8
  · rw [if_pos (by omega), decide_eq_true h]; rfl
  · rw [if_neg (by omega), decide_eq_false h]; rfl
/-- the value that an operand denotes -/
def dnV (row ps : List Vl) (o : Od) : Vl :=
  if o.k = 3 then o.v
  else if o.k = 1 then (if 0 ≤ o.ix ∧ o.ix < (row.length : Int) then row.getD o.ix.toNat zeroV else zeroV)
  else if o.k = 2 then (if 0 ≤ o.ix ∧ o.ix < (ps.length : Int) then ps.getD o.ix.toNat zeroV else zeroV)
  else zeroV
/-- a comparison of values -/
def cmpB2 (cm : Int) (c : Int) : Bool := if cm = 1 then decide (c = 0) else if cm = 2 then decide (c ≠ 0) else if cm = 3 then decide (c < 0) else if cm = 4 then decide (c ≤ 0) else if cm = 5 then decide (0 < c) else if cm = 6 then decide (0 ≤ c) else false
def cmpOk (cm : Int) (a b : Vl) : Bool := realV a && realV b && decide (a.k = b.k) && cmpB2 cm (cmpV a b)
/-- a node holds, out of what its arguments do: all, one of them, not the first -/
def finH (row ps : List Vl) (h : Nd) (x : Bool × Bool × Bool) : Bool :=
  if h.op = 1 then true else if h.op = 3 then cmpOk h.cm (dnV row ps h.l) (dnV row ps h.r) else if h.op = 4 then x.1 else if h.op = 5 then x.2.1 else if h.op = 6 then x.2.2 else false
def holdsA (row ps : List Vl) : Pd → Bool × Bool × Bool
  | .nil _ => (true, false, false)
  | .cons a t => (finH row ps a.h (holdsA row ps a) && (holdsA row ps t).1, finH row ps a.h (holdsA row ps a) || (holdsA row ps t).2.1, !finH row ps a.h (holdsA row ps a))
def holdsB (row ps : List Vl) (p : Pd) : Bool := finH row ps p.h (holdsA row ps p)
end Go.Proofs.YtponkkljlbifmaaGreat

namespace Go.Proofs.YtponkkljlbifmaaGreat
open Go.RowKit
set_option maxRecDepth 100000

def cmpR : List Vl → List Vl → Int
  | [], [] => 0
  | [], _ :: _ => -1
  | _ :: _, [] => 1
  | x :: xs, y :: ys => if cmpV x y ≠ 0 then cmpV x y else cmpR xs ys

set_option maxHeartbeats 1000000 in
theorem rcomprows_any (A B : Option Addr) (n m ca cb : Nat) (a b : List Vl) (w : World) (hA : VlS w A n a) (hB : VlS w B m b) (hn : n ≤ 9223372036854775807) (hm : m ≤ 9223372036854775807) :
    Calls Tryz.prog 36 #[.slice A n ca, .slice B m cb] w fun e w' => e = .returned (.int .i64 (cmpR a b)) ∧ Below w.heap.size w w' := by
  have HA := Lib.hid hA
  have HB := Lib.hid hB
  have Hla := Lib.hid hA.len
  have Hlb := Lib.hid hB.len
  clear hA hB
  generalize hr : cmpR a b = r
  have HR : Hid (cmpR (a.drop 0) (b.drop 0) = r) := by show _ = _; simpa using hr
  clear hr
  go_enter Tryz.func36, Tryz.ntmps36
  go_wp2
  go_loopw [5] (fun i wr => ∃ k : Nat, k ≤ n ∧ k ≤ m ∧ i = .int .i64 (k : Int) ∧ Hid (cmpR (a.drop k) (b.drop k) = r) ∧ Below w.heap.size w wr) (fun i _ => n - (intOf i).toNat)
  case atStart => exact ⟨0, by omega, by omega, rfl, HR, Below.refl _ _⟩
  case round =>
    obtain ⟨k, hk, hk', rfl, hinv, hb⟩ := hrel
    by_cases hlt : k < n ∧ k < m
    · obtain ⟨hlt1, hlt2⟩ := hlt
      have g1 : decide (k < n) = true := by simp [hlt1]
      have g2 : decide (k < m) = true := by simp [hlt2]
      obtain ⟨b1, o1, x, rfl, hx, hxc⟩ := (HA.out.keep (keeps_of hb)).at hlt1
      obtain ⟨b2, o2, y, rfl, hy, hyc⟩ := (HB.out.keep (keeps_of hb)).at hlt2
      have Hst : Hid (r = if cmpV x y ≠ 0 then cmpV x y else cmpR (a.drop (k + 1)) (b.drop (k + 1))) := by
        show _ = _
        rw [← hinv.out, drop_at hx, drop_at hy]; rfl
      obtain ⟨xk, xi, xt⟩ := x
      obtain ⟨yk, yi, yt⟩ := y
      obtain ⟨c0, c1, c2⟩ := VlAt.of hxc
      obtain ⟨d0, d1, d2⟩ := VlAt.of hyc
      dsimp only at c0 c1 c2 d0 d1 d2
      clear hx hy hxc hyc
      obtain ⟨v, Hv⟩ : ∃ v, Hid (cmpV ⟨xk, xi, xt⟩ ⟨yk, yi, yt⟩ = v) := ⟨_, rfl⟩
      go_wp2
      have hca := @cell_after wr.drew
      refine wp_region_seg [([0, 1, 2, 3, 4, 5, 6, 7], 8)] [9] (by kernel_rfl) (by kernel_rfl) (fun _ _ d _ _ h => by cases d <;> exact h) ?_
      simp only [pickSegs, pickOps, opAt, List.map_cons, List.map_nil, List.getElem?_toArray, List.getElem?_cons_zero, List.getElem?_cons_succ, Option.getD_some]
      unfold wpBlocks
      repeat (go_big_quiet_step (fail))
      refine wpQuiet_nil ?_
      clear hca
      go_wp2_with (first | (go_at_call 65; refine (rcompare_any ⟨_, _, _⟩ ⟨_, _, _⟩ _).mono ?_; rintro e w1 ⟨rfl, hb1⟩; rw [Hv.out]))
      refine ⟨hb1, ?_⟩
      have hB1 := Below.next hb.drew hb1
      unfold wpBlocks
      repeat (go_big_quiet_step (fail))
      refine wpQuiet_nil ?_
      by_cases hv : v = 0
      · have gv : (v != 0) = false := by simp [hv]
        have HV := Lib.hid hv
        clear hv
        go_wp2
        go_roundw
        case rel => exact ⟨k + 1, by omega, by omega, by go_num, (by show _ = _; have := Hst.out; rw [Hv.out, if_neg (by simp [HV.out])] at this; exact this.symm), hB1⟩
        case measure => simp [intOf]; omega
      · have gv : (v != 0) = true := by simp [hv]
        go_wp2
        go_ret
        exact ⟨ret_i64 (by rw [Hst.out, Hv.out, if_pos hv]), hB1⟩
    · have hend : (k = n ∧ k = m) ∨ (k = n ∧ k < m) ∨ (k < n ∧ k = m) := by omega
      have hla := Hla.out
      have hlb := Hlb.out
      rcases hend with ⟨h1, h2⟩ | ⟨h1, h2⟩ | ⟨h1, h2⟩
      · have g1 : decide (k < n) = false := by simp; omega
        have Hr : Hid (r = 0) := by
          show _ = _
          rw [← hinv.out, List.drop_eq_nil_of_le (by omega), List.drop_eq_nil_of_le (by omega)]; rfl
        obtain rfl : n = m := by omega
        have H1 := Lib.hid h1
        clear h1 h2 hla hlb hlt
        go_wp2
        go_ret
        exact ⟨ret_i64 Hr.out.symm, hb⟩
      · have g1 : decide (k < n) = false := by simp; omega
        have Hr : Hid (r = -1) := by
          show _ = _
          have e1 : a.drop k = [] := List.drop_eq_nil_of_le (by omega)
          rw [← hinv.out, e1, List.drop_eq_getElem_cons (l := b) (i := k) (by omega)]; rfl
        have hnm : n < m := by omega
        clear h1 h2 hla hlb hlt
        go_wp2
        go_ret
        exact ⟨ret_i64 Hr.out.symm, hb⟩
      · have g1 : decide (k < n) = true := by simp; omega
        have g2 : decide (k < m) = false := by simp; omega
        have Hr : Hid (r = 1) := by
          show _ = _
          have e1 : b.drop k = [] := List.drop_eq_nil_of_le (by omega)
          rw [← hinv.out, e1, List.drop_eq_getElem_cons (l := a) (i := k) (by omega)]; rfl
        have hnm : m < n := by omega
        clear h1 h2 hla hlb hlt
        go_wp2
        go_ret
        exact ⟨ret_i64 Hr.out.symm, hb⟩

/-- a row in memory: address, length, capacity -/
abbrev Hd := Option Addr × Nat × Nat
abbrev RowP := Hd × List Vl
def rowc (p : RowP) : List Value := [.slice p.1.1 p.1.2.1 p.1.2.2]
structure RowOk (w : World) (p : RowP) : Prop where
  rd : VlS w p.1.1 p.1.2.1 p.2
  nl : p.1.1 = none → p.1.2.1 = 0 ∧ p.1.2.2 = 0
  le : p.1.2.1 ≤ p.1.2.2
  mx : p.1.2.2 ≤ 9223372036854775807
theorem RowOk.keep {w w' : World} {p : RowP} (h : RowOk w p) (hk : Keeps w w') : RowOk w' p := ⟨h.rd.keep hk, h.nl, h.le, h.mx⟩
/-- a slice of rows -/
structure RowsS (w : World) (A : Option Addr) (n : Nat) (ps : List RowP) : Prop where
  sl : Sl 1 rowc w A n ps
  ok : ∀ p ∈ ps, RowOk w p
theorem RowsS.keep {w w' : World} {A : Option Addr} {n : Nat} {ps : List RowP} (h : RowsS w A n ps) (hk : Keeps w w') : RowsS w' A n ps := ⟨h.sl.keep hk, fun p hp => (h.ok p hp).keep hk⟩
theorem own_forms {w : World} {base : Nat} {e : TypeId} {size n : Nat} {A : Option Addr} {c : Nat} {xs : List Value} (h : w.ownsRow base e size (.slice A n c) n xs) : (A = none → n = 0 ∧ c = 0) ∧ (∀ ad, A = some ad → ad.spot = none) ∧ n ≤ c := by
  rcases h.2 with ⟨hv, hn⟩ | ⟨g, cap, cur, hv, _, _, hnc, _⟩
  · injection hv with h1 h2 h3
    subst h1 h3
    exact ⟨fun _ => ⟨hn, rfl⟩, fun ad h => (by cases h), by omega⟩
  · injection hv with h1 h2 h3
    subst h1 h3
    exact ⟨fun h => (by cases h), fun ad h => (by injection h with h; rw [← h]), hnc⟩

set_option maxHeartbeats 400000 in
theorem copy_any (p : RowP) (w : World) (hp : RowOk w p) (hn : p.1.2.1 ≤ 4398046511104) :
    Calls Tryz.prog 30 #[.slice p.1.1 p.1.2.1 p.1.2.2] w fun e w' => ∃ (A' : Option Addr) (c' : Nat), e = .returned (.slice A' p.1.2.1 c') ∧ w'.ownsRow w.heap.size 67 3 (.slice A' p.1.2.1 c') p.1.2.1 (p.2.flatMap Vl.cs) ∧ Below w.heap.size w w' := by
  obtain ⟨⟨A, n, c⟩, r⟩ := p
  obtain ⟨i0, hi, hz0, hz1, hz2⟩ := info_parts info_vl
  have HP := Lib.hid hp
  clear hp
  dsimp only at hn ⊢
  go_enter Tryz.func30, Tryz.ntmps30
  go_wp2_with (at_builtin; refine wpList_append_sf (cs := Vl.cs) w (by rfl) _ (.tmp 3) _ (by rfl) w.heap.size 67 i0 _ 3 32 Tryz.underlying75 hi hz0 hz1 hz2 (by rfl) (by omega) (.slice none 0 0) 0 [] (by rfl) ⟨by simp, .inl ⟨rfl, rfl⟩⟩ A n c r (by rfl) HP.out.rd HP.out.nl Vl.cs_len one_vl (by simp only [maxLen]; omega) (by omega) (Nat.le_refl _) ?_; intro A1 c1 w1 hown1 hg1 hB1 hat1 hn1; simp only [Nat.zero_add, List.nil_append] at hown1)
  go_ret
  exact ⟨A1, c1, rfl, hown1, hB1⟩
end Go.Proofs.YtponkkljlbifmaaGreat
