/-
  Texts: Mem2, RgMem, RgA, NeqI.
-/
import Derived.Laws.AppendOwnNone
import Derived.Test.YtmnmckblmoalkaaGreatB7
set_option linter.unusedVariables false
/-
  More words for memory: append of a slice that reads as a list; slices under a change of some blocks. No program here.
-/
namespace Go.Proofs.YtmnmckblmoalkaaGreat
open Go.RowKit
set_option maxRecDepth 100000

theorem add_at (b o j : Nat) : (⟨b, o, none⟩ : Addr).add j = ⟨b, o + j, none⟩ := by unfold Addr.add; split <;> simp_all
theorem flat_get {α : Type} {sz : Nat} {cs : α → List Value} (hcs : ∀ x, (cs x).length = sz) (hsz : 0 < sz) (l : List α) (j : Nat) (u : Value) (h : (l.flatMap cs)[j]? = some u) : ∃ x, l[j / sz]? = some x ∧ (cs x)[j % sz]? = some u := by
  have hj : j < l.length * sz := by have := (List.getElem?_eq_some_iff.1 h).1; rwa [flat_len hcs] at this
  have hq : j / sz < l.length := (Nat.div_lt_iff_lt_mul hsz).2 hj
  have hr : j % sz < (cs l[j / sz]).length := by rw [hcs]; exact Nat.mod_lt _ hsz
  refine ⟨l[j / sz], List.getElem?_eq_getElem hq, ?_⟩
  have h1 := flat_at hcs l (j / sz) _ (j % sz) _ (List.getElem?_eq_getElem hq) (List.getElem?_eq_getElem hr)
  rw [Nat.mul_comm, Nat.div_add_mod] at h1
  rw [h] at h1
  rw [List.getElem?_eq_getElem hr]
  exact h1.symm
/-- append of a slice that reads as a list (nil, empty or not) onto a row of the call's own -/
theorem wpList_append_sl {α : Type} {cs : α → List Value} {P : Program} (w : World) {ops : Array Oper} {rest : List Oper} {o : Oper} {a : Act} {Q : Exit → Act → World → Prop} (hgd : o.guard = none) (s x : Operand) (t : TypeId)
    (ho : o.op = .call { callee := .builtin .append, args := #[s, x], argTypes := #[t, t] })
    (base : Nat) (e : TypeId) (i : TypeInfo) (z : Value) (size bytes : Nat) (ht : P.underlying t = some (.slice e)) (hi : P.info? e = some i) (hz : i.zero = some z)
    (hsize : i.size = size) (hby : i.bytes = bytes) (hzs : z.cells.size = size) (hsz : 0 < size)
    (v : Value) (n : Nat) (xs : List α) (hs : a.eval s = v) (hown : w.ownsRow base e size v n (xs.flatMap cs))
    (A : Option Addr) (m c : Nat) (l : List α) (hx : a.eval x = .slice A m c) (hl : Sl size cs w A m l) (hnil : A = none → m = 0 ∧ c = 0) (hsp : ∀ ad, A = some ad → ad.spot = none) (hcs : ∀ y, (cs y).length = size) (h1 : ∀ y, ∀ u ∈ cs y, u.oneCell' = true)
    (h63 : n + m ≤ maxLen) (hbytes : (n + m) * bytes ≤ 140737488355328) (hbase : base ≤ w.heap.size)
    (h : ∀ A' c' w', w'.ownsRow base e size (.slice A' (n + m) c') (n + m) ((xs ++ l).flatMap cs) → w.grownBy w' v.ownBlock → Below base w w' → ((Value.slice A' (n + m) c').ownBlock = v.ownBlock ∨ (Value.slice A' (n + m) c').ownBlock = some w.heap.size) → (A' = none → n + m = 0 ∧ c' = 0) →
      wpList P ops Q rest (a.put o.dst (.slice A' (n + m) c')) w') : wpList P ops Q (o :: rest) a w := by
  cases A with
  | none =>
    obtain ⟨rfl, rfl⟩ := hnil rfl
    have hnl : l = [] := List.eq_nil_of_length_eq_zero hl.len
    subst hnl
    refine wpList_append_own_none hgd s x t ho base e i size ht hi v n _ hs hown hx ?_
    rcases hown.2 with ⟨rfl, rfl⟩ | ⟨g, cap, cur, rfl, _, hh, r⟩
    · exact h none 0 w (by simpa using hown) (World.grownBy.refl w _) (Below.refl _ _) (.inl rfl) (fun _ => ⟨rfl, rfl⟩)
    · exact h (some ⟨g, 0, none⟩) cap w (by simpa using hown) (World.grownBy.refl w _) (Below.refl _ _) (.inl rfl) (fun h => by cases h)
  | some ad =>
    obtain ⟨b, off, sp⟩ := ad
    obtain rfl : sp = none := hsp _ rfl
    refine wpList_append_own_at w hgd s x t ho base e i z size bytes ht hi hz hsize hby hzs hsz v n _ hs hown ⟨b, off, none⟩ m c (l.flatMap cs) hx (by rw [flat_len hcs, hl.len]) (fun j u hu => ?_) (fun u hu => ?_) h63 hbytes hbase ?_
    · obtain ⟨y, hy, hyu⟩ := flat_get hcs hsz l j u hu
      have hm : 0 < m := by
        have h3 := (List.getElem?_eq_some_iff.1 hy).1
        rw [hl.len] at h3
        exact Nat.lt_of_le_of_lt (Nat.zero_le _) h3
      obtain ⟨b', o', hA, hc⟩ := hl.2 hm
      injection hA with hA
      injection hA with e1 e2
      subst e1 e2
      have h2 := hc _ y hy _ u hyu
      rw [add_at, ← h2, Nat.add_assoc, Nat.mul_comm, Nat.div_add_mod]
    · rw [List.mem_flatMap] at hu
      obtain ⟨y, _, hu⟩ := hu
      exact h1 y u hu
    · intro v' w' ho2 hg2 _ hat
      have hB := (Below.refl base w).grown hg2 hbase (own_base hown)
      rw [← List.flatMap_append] at ho2
      rcases ho2.2 with ⟨hv', hnm⟩ | ⟨g, cap, cur, hv', hb2, hh, hnc, hmx, r⟩
      · have : v' = .slice none (n + m) 0 := by rw [hv', hnm]
        rw [this] at ho2 hat ⊢
        exact h none 0 w' ho2 hg2 hB hat (fun _ => ⟨hnm, rfl⟩)
      · rw [hv'] at ho2 hat ⊢
        exact h (some ⟨g, 0, none⟩) cap w' ho2 hg2 hB hat (fun h => by cases h)
/-- the same; nothing is asked of the address of an empty slice -/
theorem wpList_append_sf {α : Type} {cs : α → List Value} {P : Program} (w : World) {ops : Array Oper} {rest : List Oper} {o : Oper} {a : Act} {Q : Exit → Act → World → Prop} (hgd : o.guard = none) (s x : Operand) (t : TypeId)
    (ho : o.op = .call { callee := .builtin .append, args := #[s, x], argTypes := #[t, t] })
    (base : Nat) (e : TypeId) (i : TypeInfo) (z : Value) (size bytes : Nat) (ht : P.underlying t = some (.slice e)) (hi : P.info? e = some i) (hz : i.zero = some z)
    (hsize : i.size = size) (hby : i.bytes = bytes) (hzs : z.cells.size = size) (hsz : 0 < size)
    (v : Value) (n : Nat) (xs : List α) (hs : a.eval s = v) (hown : w.ownsRow base e size v n (xs.flatMap cs))
    (A : Option Addr) (m c : Nat) (l : List α) (hx : a.eval x = .slice A m c) (hl : Sl size cs w A m l) (hnil : A = none → m = 0 ∧ c = 0) (hcs : ∀ y, (cs y).length = size) (h1 : ∀ y, ∀ u ∈ cs y, u.oneCell' = true)
    (h63 : n + m ≤ maxLen) (hbytes : (n + m) * bytes ≤ 140737488355328) (hbase : base ≤ w.heap.size)
    (h : ∀ A' c' w', w'.ownsRow base e size (.slice A' (n + m) c') (n + m) ((xs ++ l).flatMap cs) → w.grownBy w' v.ownBlock → Below base w w' → ((Value.slice A' (n + m) c').ownBlock = v.ownBlock ∨ (Value.slice A' (n + m) c').ownBlock = some w.heap.size) → (A' = none → n + m = 0 ∧ c' = 0) →
      wpList P ops Q rest (a.put o.dst (.slice A' (n + m) c')) w') : wpList P ops Q (o :: rest) a w := by
  cases A with
  | none =>
    obtain ⟨rfl, rfl⟩ := hnil rfl
    have hnl : l = [] := List.eq_nil_of_length_eq_zero hl.len
    subst hnl
    refine wpList_append_own_none hgd s x t ho base e i size ht hi v n _ hs hown hx ?_
    rcases hown.2 with ⟨rfl, rfl⟩ | ⟨g, cap, cur, rfl, _, hh, r⟩
    · exact h none 0 w (by simpa using hown) (World.grownBy.refl w _) (Below.refl _ _) (.inl rfl) (fun _ => ⟨rfl, rfl⟩)
    · exact h (some ⟨g, 0, none⟩) cap w (by simpa using hown) (World.grownBy.refl w _) (Below.refl _ _) (.inl rfl) (fun h => by cases h)
  | some ad =>
    refine wpList_append_own_at w hgd s x t ho base e i z size bytes ht hi hz hsize hby hzs hsz v n _ hs hown ad m c (l.flatMap cs) hx (by rw [flat_len hcs, hl.len]) (fun j u hu => ?_) (fun u hu => ?_) h63 hbytes hbase ?_
    · obtain ⟨y, hy, hyu⟩ := flat_get hcs hsz l j u hu
      have hm : 0 < m := by
        have h3 := (List.getElem?_eq_some_iff.1 hy).1
        rw [hl.len] at h3
        exact Nat.lt_of_le_of_lt (Nat.zero_le _) h3
      obtain ⟨b', o', hA, hc⟩ := hl.2 hm
      injection hA with hA
      subst hA
      have h2 := hc _ y hy _ u hyu
      rw [add_at, ← h2, Nat.add_assoc, Nat.mul_comm, Nat.div_add_mod]
    · rw [List.mem_flatMap] at hu
      obtain ⟨y, _, hu⟩ := hu
      exact h1 y u hu
    · intro v' w' ho2 hg2 _ hat
      have hB := (Below.refl base w).grown hg2 hbase (own_base hown)
      rw [← List.flatMap_append] at ho2
      rcases ho2.2 with ⟨hv', hnm⟩ | ⟨g, cap, cur, hv', hb2, hh, hnc, hmx, r⟩
      · have : v' = .slice none (n + m) 0 := by rw [hv', hnm]
        rw [this] at ho2 hat ⊢
        exact h none 0 w' ho2 hg2 hB hat (fun _ => ⟨hnm, rfl⟩)
      · rw [hv'] at ho2 hat ⊢
        exact h (some ⟨g, 0, none⟩) cap w' ho2 hg2 hB hat (fun h => by cases h)
theorem Sl.but {α : Type} {sz : Nat} {cs : α → List Value} {w w' : World} {A : Option Addr} {n : Nat} {l : List α} {S : Nat → Prop} (h : Sl sz cs w A n l) (hb : But S w w') (hs : 0 < n → ∀ b o, A = some ⟨b, o, none⟩ → ¬ S b) : Sl sz cs w' A n l := by
  refine ⟨h.1, fun hn => ?_⟩
  obtain ⟨b, o, e, hc⟩ := h.2 hn
  refine ⟨b, o, e, fun k x hx j u hu => ?_⟩
  have h1 := hc k x hx j u hu
  have hlt := cell_lt (w := w) (a := ⟨b, o + k * sz + j, none⟩) (by rw [h1]; rfl)
  rw [World.cell?_of_block (w := w) (hb.block b hlt (hs hn b o e))]
  exact h1
/-- append of one element that was built just before; what the append itself changes -/
theorem wpList_append_one2 {P : Program} {ops : Array Oper} {rest : List Oper} {o : Oper} {a : Act} {Q : Exit → Act → World → Prop} (hgd : o.guard = none) (s x : Operand) (t : TypeId)
    (ho : o.op = .call { callee := .builtin .append, args := #[s, x], argTypes := #[t, t] })
    (base : Nat) (e : TypeId) (i : TypeInfo) (z : Value) (size bytes : Nat) (ht : P.underlying t = some (.slice e)) (hi : P.info? e = some i) (hz : i.zero = some z)
    (hsize : i.size = size) (hby : i.bytes = bytes) (hzs : z.cells.size = size) (hsz : 0 < size)
    (v : Value) (n : Nat) (xs : List Value) (hs : a.eval s = v) (W : World) (cells : Array Value) (hown : W.ownsRow base e size v n xs) (H : Nat) (hH : W.heap.size = H)
    (hx : a.eval x = .slice (some ⟨H, 0, none⟩) 1 1) (hcl : cells.toList.length = 1 * size) (h1 : ∀ u ∈ cells.toList, u.oneCell' = true)
    (h63 : n + 1 ≤ maxLen) (hbytes : (n + 1) * bytes ≤ 140737488355328) (hbase : base ≤ W.heap.size)
    (h : ∀ g cap w', w'.ownsRow base e size (.slice (some ⟨g, 0, none⟩) (n + 1) cap) (n + 1) (xs ++ cells.toList) → (W.alloc (.cells cells e)).grownBy w' v.ownBlock → Below base W w' → (v.ownBlock = some g ∨ g = H + 1) → g < w'.heap.size →
      wpList P ops Q rest (a.put o.dst (.slice (some ⟨g, 0, none⟩) (n + 1) cap)) w') : wpList P ops Q (o :: rest) a (W.alloc (.cells cells e)) := by
  subst hH
  refine wpList_append_lies _ hgd s x t ho base e i z size bytes ht hi hz hsize hby hzs hsz v n xs hs (hown.alloc _) ⟨W.heap.size, 0, none⟩ 1 1 cells.toList hx hcl (World.news_of_block (heap_alloc_new W _)) h1 (by omega) h63 hbytes (by simp; omega) (W.heap.size + 1) (by simp) ?_
  intro g cap w' ho2 hg2 hat hlt
  exact h g cap w' ho2 hg2 ((Below.refl _ _).grown (grown_of_alloc hg2) hbase (own_base hown)) hat hlt
theorem But.of_grown {S : Nat → Prop} {w w' : World} {row : Option Nat} (hg : w.grownBy w' row) (hS : ∀ k, row = some k → S k) : But S w w' :=
  ⟨hg.os, hg.tape, hg.output, hg.size, fun k hk hs => hg.block k hk (fun e => hs (hS k e.symm))⟩
theorem Sl.take {α : Type} {sz : Nat} {cs : α → List Value} {w : World} {A : Option Addr} {n : Nat} {l : List α} (h : Sl sz cs w A n l) (m : Nat) (hm : m ≤ n) : Sl sz cs w A m (l.take m) := by
  have hl := h.1
  refine ⟨by simp; omega, fun h0 => ?_⟩
  obtain ⟨b, o, e, hc⟩ := h.2 (by omega)
  refine ⟨b, o, e, fun k x hx => hc k x ?_⟩
  rw [List.getElem?_take] at hx
  split at hx
  · exact hx
  · cases hx
end Go.Proofs.YtmnmckblmoalkaaGreat

/-
  How a region lies in memory: the parts of a tree in rows of four cells. No program here.
-/
namespace Go.Proofs.YtmnmckblmoalkaaGreat
open Go.RowKit
set_option maxRecDepth 100000
open Rg

/-- a slice's length and capacity are as they must be -/
def okS (A : Option Addr) (n c : Nat) : Prop := n ≤ c ∧ (A = none → n = 0 ∧ c = 0)
/-- the parts of a region lie in block b from cell o on -/
def RgP (w : World) : Rg → Nat → Nat → Prop
  | .nil _ _, _, _ => True
  | .cons vs rest tail, b, o =>
    (∃ A n c, w.cell? ⟨b, o, none⟩ = some (.slice A n c) ∧ okS A n c ∧ IvS w A n vs) ∧ w.cell? ⟨b, o + 1, none⟩ = some (.int .i64 rest.w) ∧ w.cell? ⟨b, o + 2, none⟩ = some (.bool rest.f) ∧
    (∃ A n c, w.cell? ⟨b, o + 3, none⟩ = some (.slice A n c) ∧ okS A n c ∧ n = rest.len ∧ (0 < n → ∃ b' o', A = some ⟨b', o', none⟩ ∧ RgP w rest b' o')) ∧ RgP w tail b (o + 4)
/-- the width x, the mark f and the slice with address A, length n, capacity c read as a region -/
structure RgS (w : World) (x : Int) (f : Bool) (A : Option Addr) (n c : Nat) (r : Rg) : Prop where
  hw : r.w = x
  hf : r.f = f
  ok : okS A n c
  len : n = r.len
  ex : 0 < n → ∃ b o, A = some ⟨b, o, none⟩ ∧ RgP w r b o
/-- one part -/
structure PtAt (w : World) (b o : Nat) (p : List Iv × Rg) (A : Option Addr) (n c : Nat) (x : Int) (f : Bool) (A' : Option Addr) (n' c' : Nat) : Prop where
  c0 : w.cell? ⟨b, o, none⟩ = some (.slice A n c)
  c1 : w.cell? ⟨b, o + 1, none⟩ = some (.int .i64 x)
  c2 : w.cell? ⟨b, o + 2, none⟩ = some (.bool f)
  c3 : w.cell? ⟨b, o + 3, none⟩ = some (.slice A' n' c')
  ok : okS A n c
  vs : IvS w A n p.1
  rg : RgS w x f A' n' c' p.2
theorem RgP.keep {w w' : World} (hk : Keeps w w') : ∀ {r : Rg} {b o : Nat}, RgP w r b o → RgP w' r b o
  | .nil _ _, _, _, _ => trivial
  | .cons vs rest tail, b, o, h => by
    obtain ⟨⟨A, n, c, h1, h2, h3⟩, h4, h5, ⟨A', n', c', h6, h7, h8, h9⟩, h10⟩ := h
    refine ⟨⟨A, n, c, keep_cell hk h1, h2, h3.keep hk⟩, keep_cell hk h4, keep_cell hk h5, ⟨A', n', c', keep_cell hk h6, h7, h8, fun hn => ?_⟩, RgP.keep hk h10⟩
    obtain ⟨b', o', e, h⟩ := h9 hn
    exact ⟨b', o', e, RgP.keep hk h⟩
theorem RgS.keep {w w' : World} {x : Int} {f : Bool} {A : Option Addr} {n c : Nat} {r : Rg} (h : RgS w x f A n c r) (hk : Keeps w w') : RgS w' x f A n c r :=
  ⟨h.hw, h.hf, h.ok, h.len, fun hn => by
    obtain ⟨b, o, e, hp⟩ := h.ex hn
    exact ⟨b, o, e, hp.keep hk⟩⟩
theorem RgP.at {w : World} : ∀ {r : Rg} {b o k : Nat} {p : List Iv × Rg}, RgP w r b o → r.parts[k]? = some p → ∃ A n c x f A' n' c', PtAt w b (o + k * 4) p A n c x f A' n' c'
  | .nil _ _, _, _, _, _, _, hp => by simp [parts] at hp
  | .cons vs rest tail, b, o, 0, p, h, hp => by
    simp only [parts, List.getElem?_cons_zero, Option.some.injEq] at hp
    subst hp
    obtain ⟨⟨A, n, c, h1, h2, h3⟩, h4, h5, ⟨A', n', c', h6, h7, h8, h9⟩, _⟩ := h
    exact ⟨A, n, c, rest.w, rest.f, A', n', c', ⟨by simpa using h1, by simpa using h4, by simpa using h5, by simpa using h6, h2, h3, ⟨rfl, rfl, h7, h8, h9⟩⟩⟩
  | .cons vs rest tail, b, o, k + 1, p, h, hp => by
    simp only [parts, List.getElem?_cons_succ] at hp
    have := RgP.at h.2.2.2.2 hp
    rw [show o + (k + 1) * 4 = o + 4 + k * 4 by omega]
    exact this
theorem RgS.at {w : World} {x : Int} {f : Bool} {A : Option Addr} {n c k : Nat} {r : Rg} (h : RgS w x f A n c r) (hk : k < n) : ∃ b o p A1 n1 c1 x2 f2 A2 n2 c2, A = some ⟨b, o, none⟩ ∧ r.parts[k]? = some p ∧ PtAt w b (o + k * 4) p A1 n1 c1 x2 f2 A2 n2 c2 := by
  obtain ⟨b, o, e, hp⟩ := h.ex (by omega)
  have hl := h.len
  have hk' : k < r.parts.length := by rw [len_parts]; omega
  obtain ⟨A1, n1, c1, x2, f2, A2, n2, c2, hpt⟩ := hp.at (List.getElem?_eq_getElem hk')
  exact ⟨b, o, _, A1, n1, c1, x2, f2, A2, n2, c2, e, List.getElem?_eq_getElem hk', hpt⟩
theorem RgP.of {w : World} : ∀ {r : Rg} {b o : Nat}, (∀ k p, r.parts[k]? = some p → ∃ A n c x f A' n' c', PtAt w b (o + k * 4) p A n c x f A' n' c') → RgP w r b o
  | .nil _ _, _, _, _ => trivial
  | .cons vs rest tail, b, o, h => by
    obtain ⟨A, n, c, x, f, A', n', c', h0⟩ := h 0 (vs, rest) rfl
    simp only [Nat.zero_mul, Nat.add_zero] at h0
    obtain ⟨d0, d1, d2, d3, d4, d5, ⟨rfl, rfl, d6, d7, d8⟩⟩ := h0
    refine ⟨⟨A, n, c, d0, d4, d5⟩, d1, d2, ⟨A', n', c', d3, d6, d7, d8⟩, RgP.of fun k p hp => ?_⟩
    have := h (k + 1) p (by simpa [parts] using hp)
    rw [show o + 4 + k * 4 = o + (k + 1) * 4 by omega]
    exact this
theorem PtAt.keep {w w' : World} {b o : Nat} {p : List Iv × Rg} {A : Option Addr} {n c : Nat} {x : Int} {f : Bool} {A' : Option Addr} {n' c' : Nat} (h : PtAt w b o p A n c x f A' n' c') (hk : Keeps w w') : PtAt w' b o p A n c x f A' n' c' :=
  ⟨keep_cell hk h.c0, keep_cell hk h.c1, keep_cell hk h.c2, keep_cell hk h.c3, h.ok, h.vs.keep hk, h.rg.keep hk⟩
theorem RgS.nil {w : World} (x : Int) (f : Bool) : RgS w x f none 0 0 (.nil x f) := ⟨rfl, rfl, ⟨Nat.le_refl _, fun _ => ⟨rfl, rfl⟩⟩, rfl, fun h => absurd h (by omega)⟩
def sizeL (l : List (List Iv × Rg)) : Nat := (l.map fun p => 1 + p.2.size).sum
theorem size_parts : ∀ r : Rg, r.size = sizeL r.parts
  | .nil _ _ => rfl
  | .cons vs rest tail => by
    have ih := size_parts tail
    simp only [Rg.size, parts, sizeL, List.map_cons, List.sum_cons] at ih ⊢
    omega
theorem sizeL_cons (p : List Iv × Rg) (l : List (List Iv × Rg)) : sizeL (p :: l) = 1 + p.2.size + sizeL l := by simp [sizeL]
theorem sizeL_append (a b : List (List Iv × Rg)) : sizeL (a ++ b) = sizeL a + sizeL b := by simp [sizeL, List.sum_append]
theorem sizeL_drop {l : List (List Iv × Rg)} {k : Nat} {p : List Iv × Rg} (h : l[k]? = some p) : sizeL (l.drop k) = 1 + p.2.size + sizeL (l.drop (k + 1)) := by rw [drop_at h, sizeL_cons]
theorem sizeL_len : ∀ l : List (List Iv × Rg), l.length ≤ sizeL l
  | [] => Nat.le_refl _
  | p :: l => by have := sizeL_len l; rw [sizeL_cons, List.length_cons]; omega
theorem len_le_size (r : Rg) : r.len ≤ r.size := by rw [size_parts, ← len_parts]; exact sizeL_len _
theorem size_at {r : Rg} {k : Nat} {p : List Iv × Rg} (h : r.parts[k]? = some p) : p.2.size < r.size := size_mem (List.mem_of_getElem? h)
theorem nix_len (r : Rg) : r.nix = (!r.f && decide (r.len = 0)) := rfl
/-- one and the same part, looked at in two worlds -/
theorem RgS.at2 {w w' : World} {x : Int} {f : Bool} {A : Option Addr} {n c k : Nat} {r : Rg} (h : RgS w x f A n c r) (hK : Keeps w w') (hk : k < n) : ∃ b o p A1 n1 c1 x2 f2 A2 n2 c2, A = some ⟨b, o, none⟩ ∧ r.parts[k]? = some p ∧ PtAt w b (o + k * 4) p A1 n1 c1 x2 f2 A2 n2 c2 ∧ PtAt w' b (o + k * 4) p A1 n1 c1 x2 f2 A2 n2 c2 := by
  obtain ⟨b, o, p, A1, n1, c1, x2, f2, A2, n2, c2, e, hp, hpt⟩ := h.at hk
  exact ⟨b, o, p, A1, n1, c1, x2, f2, A2, n2, c2, e, hp, hpt, hpt.keep hK⟩
end Go.Proofs.YtmnmckblmoalkaaGreat

/-
  The program's region functions that only look at one region: empty, size, few.
-/
namespace Go.Proofs.YtmnmckblmoalkaaGreat
open Go.RowKit
set_option maxRecDepth 100000
open Rg

theorem rempty_any (x : Int) (f : Bool) (A : Option Addr) (n c : Nat) (r : Rg) (w : World) (hR : RgS w x f A n c r) :
    Calls Tryz.prog 67 #[.agg #[.int .i64 x, .bool f, .slice A n c]] w fun e w' => e = .returned (.bool r.nix) ∧ Below w.heap.size w w' := by
  rw [nix_len, ← hR.len, hR.hf]
  clear hR
  cases f
  · go_enter Tryz.func67, Tryz.ntmps67
    go_wp2
    go_ret
    refine ⟨ret_bool ?_, (Below.refl _ _).alloc (Nat.le_refl _) _⟩
    rw [Bool.eq_iff_iff]
    simp
  · go_enter Tryz.func67, Tryz.ntmps67
    go_wp2
    go_ret
    exact ⟨ret_bool (by simp), (Below.refl _ _).alloc (Nat.le_refl _) _⟩

set_option maxHeartbeats 1000000 in
theorem rsize_any (r : Rg) : ∀ (x : Int) (f : Bool) (A : Option Addr) (n c : Nat) (w : World), RgS w x f A n c r → r.size ≤ 1000000 →
    Calls Tryz.prog 105 #[.agg #[.int .i64 x, .bool f, .slice A n c]] w fun e w' => e = .returned (.int .i64 (r.size : Int)) ∧ Below w.heap.size w w' := by
  induction hsz : r.size using Nat.strongRecOn generalizing r with
  | _ s ih =>
    intro x f A n c w hR hb
    have hnl := hR.len
    have hns : n ≤ s := by have := len_le_size r; omega
    have Hsz := Lib.hid hsz
    have HI := Lib.hid ih
    have HR := Lib.hid hR
    have HL : Hid (n + sizeL (r.parts.drop 0) = s + n) := by
      show _ = _
      rw [List.drop_zero, ← size_parts, hsz]
      omega
    clear ih hR hsz hnl
    go_enter Tryz.func105, Tryz.ntmps105
    go_wp2
    have hB0 : Below w.heap.size w (w.alloc (.cells #[.int .i64 x, .bool f, .slice A n c] 27)) := (Below.refl _ _).alloc (Nat.le_refl _) _
    go_loopw [3, 12] (fun v i wr => ∃ (k q : Nat), k ≤ n ∧ i = .int .i64 (k : Int) ∧ v = .int .i64 (q : Int) ∧ Hid (q + sizeL (r.parts.drop k) = s + (n - k)) ∧ Below w.heap.size w wr) (fun _ i _ => n - (intOf i).toNat)
    case atStart => exact ⟨0, n, by omega, rfl, rfl, HL, hB0⟩
    case round =>
      obtain ⟨k, q, hk, rfl, rfl, Hq, hb1⟩ := hrel
      by_cases hlt : k < n
      · obtain ⟨b, o, p, A1, n1, c1, px, pf, A2, n2, c2, rfl, hp, hpt⟩ := (HR.out.keep (keeps_of hb1)).at hlt
        have hps := size_at hp
        rw [Hsz.out] at hps
        have Hd := Lib.hid (sizeL_drop hp)
        obtain ⟨d0, d1, d2, d3, hok, hvs, hrg⟩ := hpt
        have HRG := Lib.hid hrg
        clear hp hok hvs hrg
        have HI' := Lib.hid (HI.out p.2.size hps p.2 rfl)
        have hqb : q ≤ s + n := by have := Hq.out; omega
        go_wp2_with fail
        refine (HI'.out px pf A2 n2 c2 _ (HRG.out.keep (keeps_alloc _ _)) (by omega)).mono ?_
        rintro e w2 ⟨rfl, hb2⟩
        go_wp2
        go_roundw
        case rel =>
          refine ⟨k + 1, q + p.2.size, by omega, by go_num, by go_num, ?_, Below.next (hb1.alloc hb1.size _) hb2⟩
          show _ = _
          have h1 := Hq.out
          have h2 := Hd.out
          omega
        case measure => simp [intOf]; omega
      · go_wp2
        go_ret
        refine ⟨ret_i64 ?_, hb1⟩
        have h1 := Hq.out
        rw [List.drop_eq_nil_of_le (by rw [len_parts]; have := HR.out.len; omega)] at h1
        simp only [sizeL, List.map_nil, List.sum_nil] at h1
        omega

set_option maxHeartbeats 1000000 in
theorem few_any (w0 : World) (B : Nat) (hB : w0.heap.size ≤ B) (r : Rg) : ∀ (x : Int) (f : Bool) (A : Option Addr) (n c : Nat) (v : Nat) (w : World), RgS w0 x f A n c r → v ≤ 64 → Below w0.heap.size w0 w → Blk w B 3 #[.int .i64 (v : Int)] →
    Calls Tryz.prog 100 #[.agg #[.int .i64 x, .bool f, .slice A n c], .pointer (some ⟨B, 0, none⟩)] w fun e w' => e = .returned (.bool (decide (r.size ≤ v))) ∧ Below w0.heap.size w0 w' ∧ (r.size ≤ v → Blk w' B 3 #[.int .i64 ((v - r.size : Nat) : Int)]) := by
  induction hsz : r.size using Nat.strongRecOn generalizing r with
  | _ s ih =>
    intro x f A n c v w hR hv hb hblk
    have Hsz := Lib.hid hsz
    have HI := Lib.hid ih
    have HR := Lib.hid hR
    have HL : Hid (sizeL (r.parts.drop 0) = s) := by
      show _ = _
      rw [List.drop_zero, ← size_parts, hsz]
    have hs1 : w0.heap.size ≤ w.heap.size := hb.size
    have hBl := hblk.lt
    have hblk1 := Lib.hid (hblk.alloc (.cells #[.int .i64 x, .bool f, .slice A n c] 27))
    have hB1 := hb.alloc hs1 (.cells #[.int .i64 x, .bool f, .slice A n c] 27)
    have HB1 := Lib.hid hB1
    clear ih hR hsz hB1 hblk
    go_enter Tryz.func100, Tryz.ntmps100
    go_wp2
    go_loopw [10] (fun i wr => ∃ (k q : Nat), k ≤ n ∧ k ≤ 64 ∧ i = .int .i64 (k : Int) ∧ q + k ≤ v ∧ Hid (sizeL (r.parts.drop k) + v = s + q) ∧ Blk wr B 3 #[.int .i64 (q : Int)] ∧ Below w0.heap.size w0 wr) (fun i _ => n - (intOf i).toNat)
    case atStart => exact ⟨0, v, by omega, by omega, rfl, by omega, (by show _ = _; have := HL.out; omega), hblk1.out, HB1.out⟩
    case round =>
      obtain ⟨k, q, hk, hk64, rfl, hqv, Hq, hbk, hb1⟩ := hrel
      clear hblk1 HB1
      by_cases hlt : k < n
      · obtain ⟨b, o, p, A1, n1, c1, px, pf, A2, n2, c2, rfl, hp, hpt', hpt⟩ := HR.out.at2 (keeps_of hb1) hlt
        have hps := size_at hp
        rw [Hsz.out] at hps
        have Hd := Lib.hid (sizeL_drop hp)
        have HRG := Lib.hid hpt'.rg
        obtain ⟨d0, d1, d2, d3, hok, hvs, hrg⟩ := hpt
        clear hp hok hvs hrg hpt'
        have HI' := Lib.hid (HI.out p.2.size hps p.2 rfl)
        have hsz1 := hb1.size
        have hBlt := hbk.lt
        have hbk2 := hbk.alloc (.cells #[.slice A1 n1 c1, .int .i64 px, .bool pf, .slice A2 n2 c2] 86)
        have hba := hb1.alloc hsz1 (.cells #[.slice A1 n1 c1, .int .i64 px, .bool pf, .slice A2 n2 c2] 86)
        have hnew := Blk.new wr 86 #[.slice A1 n1 c1, .int .i64 px, .bool pf, .slice A2 n2 c2]
        have hc2 := hbk2.cell
        have hf2 := hbk2.free
        have hne : ¬ wr.heap.size = B := by omega
        have hss : (wr.setCell ⟨B, 0, none⟩ (.int .i64 ((q : Int) - 1))).heap.size = wr.heap.size := by simp [World.setCell]
        have hbs := Lib.hid ((hbk.set_ 0 (.int .i64 ((q : Int) - 1))).alloc (.cells #[.slice A1 n1 c1, .int .i64 px, .bool pf, .slice A2 n2 c2] 86))
        have hnews := Blk.new (wr.setCell ⟨B, 0, none⟩ (.int .i64 ((q : Int) - 1))) 86 #[.slice A1 n1 c1, .int .i64 px, .bool pf, .slice A2 n2 c2]
        rw [hss] at hnews
        have hbas := Lib.hid ((hb1.setCell (p := ⟨B, 0, none⟩) hB (.int .i64 ((q : Int) - 1))).alloc (by rw [hss]; exact hsz1) (.cells #[.slice A1 n1 c1, .int .i64 px, .bool pf, .slice A2 n2 c2] 86))
        have hcs := blocks_at hbs.out (i := 0) (u := .int .i64 ((q : Int) - 1)) rfl
        have hcn := hnews.cell
        clear hbk hbk2 hba hnew hnews
        rcases Nat.eq_zero_or_pos q with hq0 | hq0
        · have g1 : decide ((q : Int) - 1 < 0) = true := by simp; omega
          have H0 := Lib.hid hq0
          clear hq0
          go_wp2
          go_ret
          have hq0 := H0.out
          refine ⟨ret_bool ?_, hbas.out, fun h => ?_⟩
          · have h1 := Hq.out
            have h2 := Hd.out
            simp; omega
          · have h1 := Hq.out
            have h2 := Hd.out
            omega
        · have g1 : decide ((q : Int) - 1 < 0) = false := by simp; omega
          go_wp2_with fail
          refine (HI'.out px pf A2 n2 c2 (q - 1) _ HRG.out (by omega) hbas.out (by rw [show ((q - 1 : Nat) : Int) = (q : Int) - 1 by omega]; exact hbs.out)).mono ?_
          rintro e w2 ⟨rfl, hb2, hblk2⟩
          have Hblk2 := Lib.hid hblk2
          clear hblk2
          by_cases hfit : p.2.size ≤ q - 1
          · have g2 : decide (p.2.size ≤ q - 1) = true := by simp [hfit]
            go_wp2
            go_roundw
            case rel =>
              refine ⟨k + 1, q - 1 - p.2.size, by omega, by omega, by go_num, by omega, ?_, Hblk2.out hfit, hb2⟩
              show _ = _
              have h1 := Hq.out
              have h2 := Hd.out
              omega
            case measure => simp [intOf]; omega
          · have g2 : decide (p.2.size ≤ q - 1) = false := by simp; omega
            go_wp2
            go_ret
            refine ⟨ret_bool ?_, hb2, fun h => ?_⟩
            · have h1 := Hq.out
              have h2 := Hd.out
              simp; omega
            · have h1 := Hq.out
              have h2 := Hd.out
              omega
      · go_wp2
        go_ret
        have h1 := Hq.out
        rw [List.drop_eq_nil_of_le (by rw [len_parts]; have := HR.out.len; omega)] at h1
        simp only [sizeL, List.map_nil, List.sum_nil] at h1
        refine ⟨ret_bool ?_, hb1, fun _ => ?_⟩
        · simp; omega
        · rw [show v - s = q by omega]; exact hbk
end Go.Proofs.YtmnmckblmoalkaaGreat

namespace Go.Proofs.YtmnmckblmoalkaaGreat
open Go.RowKit
set_option maxRecDepth 100000

theorem run_neqI (x y : Iv) (w : World) : (binOp .neq 90 (.agg #[.int .i64 x.f.k, .int .i64 x.f.i, .string x.f.t, .int .i64 x.t.k, .int .i64 x.t.i, .string x.t.t, .bool x.o]) (.agg #[.int .i64 y.f.k, .int .i64 y.f.i, .string y.f.t, .int .i64 y.t.k, .int .i64 y.t.i, .string y.t.t, .bool y.o])).run Tryz.prog w =
    .ok (.bool (decide (x ≠ y))) w := by
  obtain ⟨⟨a, b, c⟩, ⟨d, e, f⟩, g⟩ := x
  obtain ⟨⟨a', b', c'⟩, ⟨d', e', f'⟩, g'⟩ := y
  have h : decide ((⟨⟨a, b, c⟩, ⟨d, e, f⟩, g⟩ : Iv) ≠ ⟨⟨a', b', c'⟩, ⟨d', e', f'⟩, g'⟩) = !((a == a') && ((b == b') && ((c.toList == c'.toList) && ((d == d') && ((e == e') && ((f.toList == f'.toList) && (g == g'))))))) := by
    rw [Bool.eq_iff_iff]
    simp only [Iv.mk.injEq, Vl.mk.injEq, text_eq, decide_eq_true_eq, Bool.not_eq_true', Bool.and_eq_false_imp, beq_iff_eq, ne_eq, not_and, beq_eq_false_iff_ne, and_assoc]
  rw [h]
  clear h
  by_cases h1 : (a == a') = true
  · by_cases h2 : (b == b') = true
    · by_cases h3 : (c.toList == c'.toList) = true
      · by_cases h4 : (d == d') = true
        · by_cases h5 : (e == e') = true
          · by_cases h6 : (f.toList == f'.toList) = true
            · simp [go_sem, h1, h2, h3, h4, h5, h6]
              split <;> simp_all
            · simp [go_sem, h1, h2, h3, h4, h5, h6]
          · simp [go_sem, h1, h2, h3, h4, h5]
        · simp [go_sem, h1, h2, h3, h4]
      · simp [go_sem, h1, h2, h3]
    · simp [go_sem, h1, h2]
  · simp [go_sem, h1]
end Go.Proofs.YtmnmckblmoalkaaGreat
