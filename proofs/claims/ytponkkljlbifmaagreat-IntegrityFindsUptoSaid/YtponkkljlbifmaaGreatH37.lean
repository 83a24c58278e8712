/-
  Texts: IgCz, IgRCp2, Begun, Makes, Rep, OwnI.
-/
import Derived.Test.YtponkkljlbifmaaGreatH36
import Derived.RegionTactic
import Derived.BigRegion
set_option linter.unusedVariables false
/-
  A state whose lists and rows lie apart in memory of their own, and what becomes of it when one thing is written. No program here.
-/
namespace Go.Proofs.YtponkkljlbifmaaGreat
open Go.RowKit
set_option maxRecDepth 100000
open Pd

abbrev hdr (q : RowP) : Value := .slice q.1.1 q.1.2.1 q.1.2.2
abbrev hdl (p : TlP) : Value := .slice p.1.1 p.1.2.1 p.1.2.2
abbrev apR (p q : RowP) : Prop := ∀ b, (hdr p).ownBlock = some b → (hdr q).ownBlock ≠ some b
abbrev apL (p q : TlP) : Prop := ∀ b, (hdl p).ownBlock = some b → (hdl q).ownBlock ≠ some b
/-- the lists are apart -/
def SpL (ls : List TlP) : Prop := ∀ (i j : Nat) (p q : TlP), ls[i]? = some p → ls[j]? = some q → i ≠ j → apL p q
/-- the rows are apart -/
def SpR (ls : List TlP) : Prop := ∀ (i j k l : Nat) (p q : TlP) (x y : RowP), ls[i]? = some p → ls[j]? = some q → p.2[k]? = some x → q.2[l]? = some y → ¬ (i = j ∧ k = l) → apR x y
/-- a state of its own, but for holes: lists and rows that are unknown -/
structure CzH (H : Nat) (w : World) (B : Option Addr) (n cb : Nat) (ls : List TlP) (hl : Nat → Prop) (hr : Nat → Nat → Prop) : Prop where
  own : w.ownsRow H 79 1 (.slice B n cb) n (ls.map hdl)
  len : ls.length = n
  ln2 : ∀ (i : Nat) (p : TlP), ls[i]? = some p → p.2.length = p.1.2.1
  lst : ∀ (i : Nat) (p : TlP), ls[i]? = some p → ¬ hl i → w.ownsRow H 75 1 (hdl p) p.1.2.1 (p.2.flatMap rowc)
  row : ∀ (i : Nat) (p : TlP) (k : Nat) (q : RowP), ls[i]? = some p → p.2[k]? = some q → ¬ hr i k → OwnRow w H q
abbrev nol : Nat → Prop := fun _ => False
abbrev nor : Nat → Nat → Prop := fun _ _ => False
theorem map_hdl : ∀ ls : List TlP, ls.map hdl = ls.flatMap tlc
  | [] => rfl
  | p :: ls => by simp [map_hdl ls, tlc]
theorem own_setv {w : World} {base : Nat} {e : TypeId} {size n cap g : Nat} {xs : List Value} (h : w.ownsRow base e size (.slice (some ⟨g, 0, none⟩) n cap) n xs) (i : Nat) (u : Value) : (w.setCell ⟨g, i, none⟩ u).ownsRow base e size (.slice (some ⟨g, 0, none⟩) n cap) n (xs.set i u) := by
  refine ⟨by rw [List.length_set]; exact h.1, ?_⟩
  rcases h.2 with ⟨hv, _⟩ | ⟨g', cap', cur, hv, hg, hh, h1, h2, h3, h4⟩
  · cases hv
  · injection hv with e1 e2 e3
    injection e1 with e1
    injection e1 with e1
    subst e1 e3
    refine .inr ⟨g, cap, cur.setIfInBounds i u, rfl, hg, Blk.set_ (T := e) (cs := cur) hh i u, h1, h2, by rw [Array.size_setIfInBounds]; exact h3, ?_⟩
    rw [Array.toList_setIfInBounds, ← h4, List.take_set]
section
variable {H : Nat} {w w' : World} {B : Option Addr} {n cb : Nat} {ls : List TlP} {hl : Nat → Prop} {hr : Nat → Nat → Prop}
theorem CzH.st (h : CzH H w B n cb ls nol nor) : StS w B n ls := by
  refine ⟨Sl.of_own (cs := tlc) (fun _ => rfl) h.len (by rw [← map_hdl]; exact h.own), fun p hp => ?_⟩
  obtain ⟨i, hi⟩ := List.mem_iff_getElem?.1 hp
  have ho := h.lst i p hi (fun h => h)
  obtain ⟨f1, f2, f3⟩ := own_forms ho
  refine ⟨⟨Sl.of_own (cs := rowc) (fun _ => rfl) (h.ln2 i p hi) ho, fun q hq => ?_⟩, f1, f3, ?_⟩
  · obtain ⟨k, hk⟩ := List.mem_iff_getElem?.1 hq
    exact (h.row i p k q hi hk (fun h => h)).ok
  · rcases ho.2 with ⟨hv, _⟩ | ⟨g, cap, cur, hv, _, _, _, hm, _⟩
    · injection hv with _ _ h3; omega
    · injection hv with _ _ h3; simp only [maxLen] at hm; omega
theorem CzH.off {S : Nat → Prop} (h : CzH H w B n cb ls hl hr) (hb : But S w w') (hS : ∀ k, S k → k < H) : CzH H w' B n cb ls hl hr := by
  have hk : ∀ {base : Nat} {e : TypeId} {size m : Nat} {v : Value} {xs : List Value}, H ≤ base → w.ownsRow base e size v m xs → w'.ownsRow base e size v m xs := fun hB ho => own_at ho (fun g hg hlt _ => hb.block g hlt (fun hs => by have := hS g hs; omega))
  exact ⟨hk (Nat.le_refl _) h.own, h.len, h.ln2, fun i p hi hn => hk (Nat.le_refl _) (h.lst i p hi hn), fun i p k q hi hq hn => ⟨hk (Nat.le_refl _) (h.row i p k q hi hq hn).1, (h.row i p k q hi hq hn).2⟩⟩
theorem CzH.below (h : CzH H w B n cb ls hl hr) (hb : Below w.heap.size w w') : CzH H w' B n cb ls hl hr :=
  h.off (S := fun _ => False) (But.ofB hb) (fun _ h => h.elim)
/-- what is changed is of another type -/
theorem own_gt {base : Nat} {e : TypeId} {size m : Nat} {v : Value} {xs : List Value} (h : w.ownsRow base e size v m xs) {base' : Nat} {e' : TypeId} {size' m' : Nat} {v' : Value} {xs' : List Value} (ho : w.ownsRow base' e' size' v' m' xs') (hT : e ≠ e') (hg : w.grownBy w' v'.ownBlock) : w'.ownsRow base e size v m xs := own_type h ho hT hg
/-- a row is appended to -/
theorem CzH.growR (h : CzH H w B n cb ls nol nor) (hs : SpR ls) {i k : Nat} {p : TlP} {q : RowP} (hp : ls[i]? = some p) (hq : p.2[k]? = some q) (hg : w.grownBy w' (hdr q).ownBlock) : CzH H w' B n cb ls nol (fun a b => a = i ∧ b = k) := by
  have hq0 := (h.row i p k q hp hq (fun h => h)).1
  refine ⟨own_gt h.own hq0 (by decide) hg, h.len, h.ln2, fun j x hj hn => own_gt (h.lst j x hj hn) hq0 (by decide) hg, fun j x l y hj hy hn => ⟨own_at (h.row j x l y hj hy (fun h => h)).1 (fun b _ hlt hv => hg.block b hlt (fun e => ?_)), (h.row j x l y hj hy (fun h => h)).2⟩⟩
  exact hs j i l k x p y q hj hp hy hq hn b hv e.symm
/-- a list is appended to -/
theorem CzH.growL (h : CzH H w B n cb ls nol nor) (hs : SpL ls) {i : Nat} {p : TlP} (hp : ls[i]? = some p) (hg : w.grownBy w' (hdl p).ownBlock) : CzH H w' B n cb ls (fun a => a = i) nor := by
  have hp0 := h.lst i p hp (fun h => h)
  refine ⟨own_gt h.own hp0 (by decide) hg, h.len, h.ln2, fun j x hj hn => own_at (h.lst j x hj (fun h => h)) (fun b _ hlt hv => hg.block b hlt (fun e => ?_)), fun j x l y hj hy hn => ⟨own_gt (h.row j x l y hj hy hn).1 hp0 (by decide) hg, (h.row j x l y hj hy hn).2⟩⟩
  exact hs j i x p hj hp hn b hv e.symm
/-- the lists are appended to -/
theorem CzH.growB (h : CzH H w B n cb ls nol nor) {g cap : Nat} {p : TlP} (ho : w'.ownsRow H 79 1 (.slice (some ⟨g, 0, none⟩) (n + 1) cap) (n + 1) (ls.map hdl ++ [hdl p])) (hg : w.grownBy w' (Value.slice B n cb).ownBlock) (hp0 : p = ((none, 0, 0), [])) : CzH H w' (some ⟨g, 0, none⟩) (n + 1) cap (ls ++ [p]) nol nor := by
  have hin : ∀ j x, (ls ++ [p])[j]? = some x → ls[j]? = some x ∨ x = p := fun j x hj => by
    rw [List.getElem?_append] at hj
    split at hj
    · exact .inl hj
    · right
      have := List.mem_of_getElem? hj
      simpa using this
  refine ⟨by rw [List.map_append]; exact ho, by rw [List.length_append, h.len]; rfl, fun j x hj => ?_, fun j x hj _ => ?_, fun j x l y hj hy _ => ?_⟩
  · rcases hin j x hj with hj | rfl
    · exact h.ln2 j x hj
    · rw [hp0]; rfl
  · rcases hin j x hj with hj | rfl
    · exact own_gt (h.lst j x hj (fun h => h)) h.own (by decide) hg
    · rw [hp0]; exact ⟨by simp, .inl ⟨rfl, rfl⟩⟩
  · rcases hin j x hj with hj | rfl
    · exact ⟨own_gt (h.row j x l y hj hy (fun h => h)).1 h.own (by decide) hg, (h.row j x l y hj hy (fun h => h)).2⟩
    · rw [hp0] at hy; cases hy
theorem setz_at {α : Type} {l : List α} {i j : Nat} {x y : α} (h : (l.set i x)[j]? = some y) : (i = j ∧ y = x) ∨ (i ≠ j ∧ l[j]? = some y) := by
  rw [List.getElem?_set] at h
  by_cases e : i = j
  · rw [if_pos e] at h
    split at h
    · injection h with h; exact .inl ⟨e, h.symm⟩
    · cases h
  · rw [if_neg e] at h
    exact .inr ⟨e, h⟩
theorem But.cell1 (w : World) (g i : Nat) (u : Value) : But (· = g) w (w.setCell ⟨g, i, none⟩ u) := But.set (S := (· = g)) w (p := ⟨g, i, none⟩) rfl u
/-- what lies in another block, by type -/
theorem own_cell {base : Nat} {e : TypeId} {size m : Nat} {v : Value} {xs : List Value} (h : w.ownsRow base e size v m xs) {base' : Nat} {e' : TypeId} {size' m' c' g : Nat} {xs' : List Value} (ho : w.ownsRow base' e' size' (.slice (some ⟨g, 0, none⟩) m' c') m' xs') (hT : e ≠ e') (hb : But (· = g) w w') : w'.ownsRow base e size v m xs :=
  own_at h (fun k _ hlt hv => hb.block k hlt (fun e2 => own_types h ho hT hv (by rw [e2]; rfl)))
/-- a row's place in a list is written -/
theorem CzH.putQ {i k : Nat} (h : CzH H w B n cb ls nol (fun a b => a = i ∧ b = k)) (hs : SpL ls) {p : TlP} {Lb lc : Nat} (hp : ls[i]? = some p) (hA : hdl p = .slice (some ⟨Lb, 0, none⟩) p.1.2.1 lc) {q : RowP} (hq : OwnRow w H q) : CzH H (w.setCell ⟨Lb, k, none⟩ (hdr q)) B n cb (ls.set i (p.1, p.2.set k q)) nol nor := by
  have hp0 := h.lst i p hp (fun h => h)
  have hp1 : w.ownsRow H 75 1 (.slice (some ⟨Lb, 0, none⟩) p.1.2.1 lc) p.1.2.1 (p.2.flatMap rowc) := by rw [← hA]; exact hp0
  have hb := But.cell1 w Lb k (hdr q)
  have hset : ∀ (l : List RowP), (l.set k q).flatMap rowc = (l.flatMap rowc).set k (hdr q) := by
    intro l
    have e : ∀ l : List RowP, l.flatMap rowc = l.map hdr := fun l => by
      induction l with
      | nil => rfl
      | cons x l ih => rw [List.flatMap_cons, ih]; rfl
    rw [e, e, List.map_set]
  refine ⟨?_, by rw [List.length_set]; exact h.len, fun j x hj => ?_, fun j x hj _ => ?_, fun j x l y hj hy _ => ?_⟩
  · rw [List.map_set]
    have e : (ls.map hdl).set i (hdl (p.1, p.2.set k q)) = ls.map hdl := by
      refine List.ext_getElem? fun j => ?_
      rw [List.getElem?_set]
      split
      · rename_i e
        subst e
        rw [List.getElem?_map, hp]
        split
        · rfl
        · rename_i h2
          rw [List.length_map] at h2
          exact absurd (List.getElem?_eq_some_iff.1 hp).1 h2
      · rfl
    rw [e]
    exact own_cell h.own hp1 (by decide) hb
  · rcases setz_at hj with ⟨rfl, rfl⟩ | ⟨_, hj⟩
    · show (p.2.set k q).length = p.1.2.1
      rw [List.length_set]
      exact h.ln2 _ p hp
    · exact h.ln2 j x hj
  · rcases setz_at hj with ⟨rfl, rfl⟩ | ⟨hne, hj⟩
    · show World.ownsRow _ H _ 1 (hdl p) p.1.2.1 ((p.2.set k q).flatMap rowc)
      rw [hset, hA]
      exact own_setv hp1 k _
    · exact own_at (h.lst j x hj (fun h => h)) (fun b _ hlt hv => hb.block b hlt (fun e => hs j i x p hj hp (fun e2 => hne e2.symm) b hv (by rw [hA, e]; rfl)))
  · rcases setz_at hj with ⟨rfl, rfl⟩ | ⟨hne, hj⟩
    · rcases setz_at hy with ⟨_, rfl⟩ | ⟨hne2, hy⟩
      · exact ⟨own_cell hq.1 hp1 (by decide) hb, hq.2⟩
      · have := h.row i p l y hp hy (fun e => hne2 e.2.symm)
        exact ⟨own_cell this.1 hp1 (by decide) hb, this.2⟩
    · have := h.row j x l y hj hy (fun e => hne e.1.symm)
      exact ⟨own_cell this.1 hp1 (by decide) hb, this.2⟩
/-- a list's place is written -/
theorem CzH.putL {b i : Nat} (h : CzH H w (some ⟨b, 0, none⟩) n cb ls (fun a => a = i) nor) {p : TlP} (hp : w.ownsRow H 75 1 (hdl p) p.1.2.1 (p.2.flatMap rowc)) (hl2 : p.2.length = p.1.2.1) (hr : ∀ q ∈ p.2, OwnRow w H q) : CzH H (w.setCell ⟨b, i, none⟩ (hdl p)) (some ⟨b, 0, none⟩) n cb (ls.set i p) nol nor := by
  have hb := But.cell1 w b i (hdl p)
  refine ⟨by rw [List.map_set]; exact own_setv h.own i _, by rw [List.length_set]; exact h.len, fun j x hj => ?_, fun j x hj _ => ?_, fun j x l y hj hy _ => ?_⟩
  · rcases setz_at hj with ⟨_, rfl⟩ | ⟨_, hj⟩
    · exact hl2
    · exact h.ln2 j x hj
  · rcases setz_at hj with ⟨_, rfl⟩ | ⟨hne, hj⟩
    · exact own_cell hp h.own (by decide) hb
    · exact own_cell (h.lst j x hj (fun e => hne e.symm)) h.own (by decide) hb
  · rcases setz_at hj with ⟨_, rfl⟩ | ⟨hne, hj⟩
    · have := hr y (List.mem_of_getElem? hy)
      exact ⟨own_cell this.1 h.own (by decide) hb, this.2⟩
    · have := h.row j x l y hj hy (fun h => h)
      exact ⟨own_cell this.1 h.own (by decide) hb, this.2⟩
theorem CzH.hole (h : CzH H w B n cb ls nol nor) (hl : Nat → Prop) (hr : Nat → Nat → Prop) : CzH H w B n cb ls hl hr :=
  ⟨h.own, h.len, h.ln2, fun i p hi _ => h.lst i p hi (fun h => h), fun i p k q hi hq _ => h.row i p k q hi hq (fun h => h)⟩
/-- a cell of a row is written: every row in its block changes alike -/
def wrQ (g j : Nat) (v : Vl) (q : RowP) : RowP := if (hdr q).ownBlock = some g then (q.1, q.2.set j v) else q
theorem wrQ_hd (g j : Nat) (v : Vl) (q : RowP) : (wrQ g j v q).1 = q.1 := by unfold wrQ; split <;> rfl
abbrev set3 (w : World) (g j : Nat) (v : Vl) : World := ((w.setCell ⟨g, j * 3, none⟩ (.int .i64 v.k)).setCell ⟨g, j * 3 + 1, none⟩ (.int .i64 v.i)).setCell ⟨g, j * 3 + 2, none⟩ (.string v.t)
theorem set_flat3 (v : Vl) : ∀ (l : List Vl) (j : Nat), (((l.flatMap Vl.cs).set (j * 3) (.int .i64 v.k)).set (j * 3 + 1) (.int .i64 v.i)).set (j * 3 + 2) (.string v.t) = (l.set j v).flatMap Vl.cs
  | [], _ => by simp
  | x :: l, 0 => by simp [Vl.cs]
  | x :: l, j + 1 => by
    have ih := set_flat3 v l j
    rw [List.set_cons_succ, List.flatMap_cons, List.flatMap_cons, ← ih]
    rw [show (j + 1) * 3 = j * 3 + 1 + 1 + 1 by omega]
    simp [Vl.cs]
theorem But.set3 (w : World) (g j : Nat) (v : Vl) : But (· = g) w (set3 w g j v) := ((But.cell1 w g _ _).trans (But.cell1 _ g _ _)).trans (But.cell1 _ g _ _)
theorem wrQ_own {g j : Nat} {v : Vl} {q : RowP} (h : OwnRow w H q) : OwnRow (set3 w g j v) H (wrQ g j v q) := by
  unfold wrQ
  split
  · rename_i hg
    obtain ⟨⟨A, n, c⟩, r⟩ := q
    refine ⟨?_, by show (r.set j v).length = n; rw [List.length_set]; exact h.2⟩
    have ho : w.ownsRow H 67 3 (.slice A n c) n (r.flatMap Vl.cs) := h.1
    show World.ownsRow _ H _ 3 (.slice A n c) n ((r.set j v).flatMap Vl.cs)
    obtain rfl : A = some ⟨g, 0, none⟩ := by
      rcases ho.2 with ⟨hv, _⟩ | ⟨g', cap, cur, hv, _⟩
      · injection hv with e; subst e; simp [Value.ownBlock] at hg
      · injection hv with e; subst e; simp [Value.ownBlock] at hg; rw [hg]
    rw [← set_flat3]
    exact own_setv (own_setv (own_setv ho _ _) _ _) _ _
  · rename_i hg
    exact ⟨own_at h.1 (fun b _ hlt hv => (But.set3 w g j v).block b hlt (fun e => hg (by rw [hv, e]))), h.2⟩
theorem CzH.setV (h : CzH H w B n cb ls nol nor) {i k g : Nat} {p : TlP} {q : RowP} (hp : ls[i]? = some p) (hq : p.2[k]? = some q) (hA : (hdr q).ownBlock = some g) (j : Nat) (v : Vl) : CzH H (set3 w g j v) B n cb (ls.map fun p => (p.1, p.2.map (wrQ g j v))) nol nor := by
  have hq0 := (h.row i p k q hp hq (fun h => h)).1
  have hb := But.set3 w g j v
  have hty : ∀ {base : Nat} {e : TypeId} {size m : Nat} {u : Value} {xs : List Value}, w.ownsRow base e size u m xs → e ≠ 67 → (set3 w g j v).ownsRow base e size u m xs := fun ho hT =>
    own_at ho (fun b _ hlt hv => hb.block b hlt (fun e => own_types ho hq0 hT hv (by rw [e]; exact hA)))
  have hat : ∀ (j' : Nat) (x : TlP), (ls.map fun p => (p.1, p.2.map (wrQ g j v)))[j']? = some x → ∃ y : TlP, ls[j']? = some y ∧ x = (y.1, y.2.map (wrQ g j v)) := fun j' x hx => by
    rw [List.getElem?_map, Option.map_eq_some_iff] at hx
    obtain ⟨y, h1, h2⟩ := hx
    exact ⟨y, h1, h2.symm⟩
  have hfl : ∀ l : List RowP, (l.map (wrQ g j v)).flatMap rowc = l.flatMap rowc := fun l => by
    induction l with
    | nil => rfl
    | cons x l ih =>
      rw [List.map_cons, List.flatMap_cons, List.flatMap_cons, ih]
      unfold rowc
      rw [wrQ_hd]
  refine ⟨?_, by rw [List.length_map]; exact h.len, fun j' x hx => ?_, fun j' x hx _ => ?_, fun j' x l y hx hy _ => ?_⟩
  · rw [List.map_map]
    exact hty h.own (by decide)
  · obtain ⟨y, h1, rfl⟩ := hat j' x hx
    show (y.2.map (wrQ g j v)).length = y.1.2.1
    rw [List.length_map]
    exact h.ln2 j' y h1
  · obtain ⟨y, h1, rfl⟩ := hat j' x hx
    show World.ownsRow _ H _ 1 (hdl y) y.1.2.1 ((y.2.map (wrQ g j v)).flatMap rowc)
    rw [hfl]
    exact hty (h.lst j' y h1 (fun h => h)) (by decide)
  · obtain ⟨z, h1, rfl⟩ := hat j' x hx
    rw [List.getElem?_map, Option.map_eq_some_iff] at hy
    obtain ⟨u, h2, rfl⟩ := hy
    exact wrQ_own (h.row j' z l u h1 h2 (fun h => h))
end
theorem SpL.set {ls : List TlP} (h : SpL ls) {i : Nat} {p : TlP} (hp : ls[i]? = some p) (l : List RowP) : SpL (ls.set i (p.1, l)) := by
  have hd : ∀ (j : Nat) (x : TlP), (ls.set i (p.1, l))[j]? = some x → ∃ y : TlP, ls[j]? = some y ∧ x.1 = y.1 := fun j x hj => by
    rcases setz_at hj with ⟨rfl, rfl⟩ | ⟨_, hj⟩
    · exact ⟨p, hp, rfl⟩
    · exact ⟨x, hj, rfl⟩
  intro a b x y hx hy hne c hc hc2
  obtain ⟨x', h1, e1⟩ := hd a x hx
  obtain ⟨y', h2, e2⟩ := hd b y hy
  unfold hdl at hc hc2
  rw [e1] at hc
  rw [e2] at hc2
  exact h a b x' y' h1 h2 hne c hc hc2
/-- how many rows there are then -/
theorem cnt_wr (g j : Nat) (v : Vl) (ls : List TlP) : cntS (stR (ls.map fun p => (p.1, p.2.map (wrQ g j v)))) = cntS (stR ls) := by
  induction ls with
  | nil => rfl
  | cons p ls ih =>
    simp only [stR, cntS, List.map_cons, List.sum_cons, tlR, List.length_map] at ih ⊢
    omega
end Go.Proofs.YtponkkljlbifmaaGreat

/-
  The reference's Copy of a state: its lists and rows lie apart, each in memory of its own.
-/
namespace Go.Proofs.YtponkkljlbifmaaGreat
open Go.RowKit
set_option maxRecDepth 100000
open Pd

structure CrJ (wt wr : World) (L : Option Addr) (ln lc : Nat) (qs : List RowP) : Prop where
  i : CrI wt wr L ln lc qs
  sp : ∀ (k l : Nat) (x y : RowP), qs[k]? = some x → qs[l]? = some y → k ≠ l → apR x y
theorem apR.symm {x y : RowP} (h : apR x y) : apR y x := fun b h1 h2 => h b h2 h1
theorem apL.symm {x y : TlP} (h : apL x y) : apL y x := fun b h1 h2 => h b h2 h1
theorem snoc_at {α : Type} {l : List α} {a x : α} {k : Nat} (h : (l ++ [a])[k]? = some x) : (k < l.length ∧ l[k]? = some x) ∨ (k = l.length ∧ x = a) := by
  rcases Nat.lt_trichotomy k l.length with h1 | h1 | h1
  · rw [List.getElem?_append_left h1] at h
    exact .inl ⟨h1, h⟩
  · rw [List.getElem?_append_right (by omega), h1, Nat.sub_self] at h
    simp at h
    exact .inr ⟨h1, h.symm⟩
  · rw [List.getElem?_eq_none (by simp; omega)] at h
    cases h
section
variable {wt wr w' : World} {L : Option Addr} {ln lc : Nat} {qs : List RowP}
theorem CrJ.nil (wt : World) : CrJ wt wt none 0 0 [] := ⟨CrI.nil wt, fun k l x y h => by cases h⟩
theorem CrJ.below (h : CrJ wt wr L ln lc qs) (hb : Below wr.heap.size wr w') : CrJ wt w' L ln lc qs := ⟨h.i.below hb, h.sp⟩
theorem CrJ.add (h : CrJ wt wr L ln lc qs) {q : RowP} (hq : OwnRow wr wt.heap.size q) (hs : ∀ y ∈ qs, apR y q) {o : Obj} {g cap : Nat} (ho : w'.ownsRow wt.heap.size 75 1 (.slice (some ⟨g, 0, none⟩) (ln + 1) cap) (ln + 1) (qs.flatMap rowc ++ rowc q)) (hg : (wr.alloc o).grownBy w' (Value.slice L ln lc).ownBlock) (hB : Below wt.heap.size wr w') : CrJ wt w' (some ⟨g, 0, none⟩) (ln + 1) cap (qs ++ [q]) := by
  refine ⟨h.i.add hq ho hg hB, fun k l x y hx hy hne => ?_⟩
  rcases snoc_at hx with ⟨_, hx1⟩ | ⟨hk, rfl⟩ <;> rcases snoc_at hy with ⟨_, hy1⟩ | ⟨hl, rfl⟩
  · exact h.sp k l x y hx1 hy1 hne
  · exact hs x (List.mem_of_getElem? hx1)
  · exact (hs y (List.mem_of_getElem? hy1)).symm
  · omega
end
structure CyJ (w wr : World) (B : Option Addr) (n cb : Nat) (ls : List TlP) : Prop where
  c : CyI w wr B n cb ls
  sl : SpL ls
  sr : SpR ls
section
variable {w wr w' : World} {B : Option Addr} {n cb : Nat} {ls : List TlP}
theorem CyJ.nil (w wr : World) : CyJ w wr none 0 0 [] := ⟨CyI.nil w wr, fun i j p q h => (by cases h), fun i j k l p q x y h => (by cases h)⟩
theorem CyJ.below2 (h : CyJ w wr B n cb ls) (hb : Below wr.heap.size wr w') : CyJ w w' B n cb ls := ⟨h.c.below hb, h.sl, h.sr⟩
theorem CyJ.far (h : CyJ w wr B n cb ls) {k : Nat} (hk : k < w.heap.size) (hb : But (· = k) wr w') : CyJ w w' B n cb ls := ⟨h.c.far hk hb, h.sl, h.sr⟩
theorem CyJ.add (h : CyJ w wr B n cb ls) {p : TlP} (hp : wr.ownsRow w.heap.size 75 1 (.slice p.1.1 p.1.2.1 p.1.2.2) p.1.2.1 (p.2.flatMap rowc) ∧ p.2.length = p.1.2.1 ∧ ∀ q ∈ p.2, OwnRow wr w.heap.size q) (h1 : ∀ x ∈ ls, apL x p) (h2 : ∀ x ∈ ls, ∀ y ∈ x.2, ∀ z ∈ p.2, apR y z) (h3 : ∀ (k l : Nat) (x y : RowP), p.2[k]? = some x → p.2[l]? = some y → k ≠ l → apR x y) {o : Obj} {g cap : Nat} (ho : w'.ownsRow w.heap.size 79 1 (.slice (some ⟨g, 0, none⟩) (n + 1) cap) (n + 1) ((ls.map fun p => Value.slice p.1.1 p.1.2.1 p.1.2.2) ++ [Value.slice p.1.1 p.1.2.1 p.1.2.2])) (hg : (wr.alloc o).grownBy w' (Value.slice B n cb).ownBlock) : CyJ w w' (some ⟨g, 0, none⟩) (n + 1) cap (ls ++ [p]) := by
  refine ⟨h.c.add hp ho hg, fun i j x y hx hy hne => ?_, fun i j k l x y u v hx hy hu hv hne => ?_⟩
  · rcases snoc_at hx with ⟨_, hx1⟩ | ⟨hk, rfl⟩ <;> rcases snoc_at hy with ⟨_, hy1⟩ | ⟨hl, rfl⟩
    · exact h.sl i j x y hx1 hy1 hne
    · exact h1 x (List.mem_of_getElem? hx1)
    · exact (h1 y (List.mem_of_getElem? hy1)).symm
    · omega
  · rcases snoc_at hx with ⟨_, hx1⟩ | ⟨hk, rfl⟩ <;> rcases snoc_at hy with ⟨_, hy1⟩ | ⟨hl, rfl⟩
    · exact h.sr i j k l x y u v hx1 hy1 hu hv hne
    · exact h2 x (List.mem_of_getElem? hx1) u (List.mem_of_getElem? hu) v (List.mem_of_getElem? hv)
    · exact (h2 y (List.mem_of_getElem? hy1) v (List.mem_of_getElem? hv) u (List.mem_of_getElem? hu)).symm
    · exact h3 k l u v hu hv (fun e => hne ⟨by omega, e⟩)
theorem CyJ.cz (h : CyJ w wr B n cb ls) : CzH w.heap.size wr B n cb ls nol nor :=
  ⟨h.c.own, h.c.len, fun i p hi => (h.c.row p (List.mem_of_getElem? hi)).2.1, fun i p hi _ => (h.c.row p (List.mem_of_getElem? hi)).1, fun i p k q hi hq _ => (h.c.row p (List.mem_of_getElem? hi)).2.2 q (List.mem_of_getElem? hq)⟩
end
theorem CzH.base {H H' : Nat} {w : World} {B : Option Addr} {n cb : Nat} {ls : List TlP} {hl : Nat → Prop} {hr : Nat → Nat → Prop} (h : CzH H w B n cb ls hl hr) (hH : H' ≤ H) : CzH H' w B n cb ls hl hr :=
  ⟨own_weaken h.own hH, h.len, h.ln2, fun i p hi hn => own_weaken (h.lst i p hi hn) hH, fun i p k q hi hq hn => ⟨own_weaken (h.row i p k q hi hq hn).1 hH, (h.row i p k q hi hq hn).2⟩⟩
def CopyO2 (st : List (List Rw)) (m : Nat) (w : World) (e : Ending) (w' : World) : Prop :=
  ∃ (b cb : Nat) (ls : List TlP), e = .returned (.agg #[.slice (some ⟨b, 0, none⟩) m cb]) ∧ CzH w.heap.size w' (some ⟨b, 0, none⟩) m cb ls nol nor ∧ SpL ls ∧ SpR ls ∧ stR ls = st ∧ Below w.heap.size w w'
set_option maxHeartbeats 4000000 in
theorem rcopy2_any (B : Option Addr) (m cb : Nat) (ls0 : List TlP) (w : World) (hst : StS w B m ls0) (hm : m ≤ 1000) (hm0 : 0 < m) (hc : cntS (stR ls0) ≤ 100000) (h8 : ∀ l ∈ stR ls0, ∀ r ∈ l, r.length ≤ 1000) :
    Calls Tryz.prog 27 #[.agg #[.slice B m cb]] w fun e w' => CopyO2 (stR ls0) m w e w' := by
  obtain ⟨il, hil, hl0, hl1, hl2⟩ := info_parts (show (Tryz.prog.info? 79).map (fun i => (i.zero, i.size, i.bytes)) = some (some (.slice none 0 0), 1, 24) by kernel_rfl)
  obtain ⟨i0, hi0, hz0, hz1, hz2⟩ := info_parts info_row
  have HB : Hid (Below w.heap.size w (((w.alloc (.cells #[.slice B m cb] 25)).alloc (.cells #[.slice none 0 0] 25)).alloc (.cells #[.slice none 0 0] 25))) := Lib.hid ((((Below.refl _ _).alloc (Nat.le_refl _) _).alloc (by simp) _).alloc (by simp; omega) _)
  have HST := Lib.hid (hst.keep (keeps_of HB.out))
  have HST0 := Lib.hid hst
  have HY := Lib.hid (((Blk.new w 25 #[.slice B m cb]).alloc (.cells #[.slice none 0 0] 25)).alloc (.cells #[.slice none 0 0] 25))
  have HR := Lib.hid ((Blk.new (w.alloc (.cells #[.slice B m cb] 25)) 25 #[.slice none 0 0]).alloc (.cells #[.slice none 0 0] 25))
  have HO := Lib.hid (Blk.new ((w.alloc (.cells #[.slice B m cb] 25)).alloc (.cells #[.slice none 0 0] 25)) 25 #[.slice none 0 0])
  rw [World.size_alloc] at HR
  rw [World.size_alloc, World.size_alloc] at HO
  have HC := Lib.hid hc
  have H8 := Lib.hid h8
  have Hlm := Lib.hid hst.sl.len
  clear hst hc h8
  go_enter Tryz.func27, Tryz.ntmps27
  go_upto_region 2 with fail
  generalize hW : ((w.alloc (.cells #[.slice B m cb] 25)).alloc (.cells #[.slice none 0 0] 25)).alloc (.cells #[.slice none 0 0] 25) = w1 at *
  clear hW
  have HLt : Hid (w.heap.size + 1 + 1 < w1.heap.size) := Lib.hid HO.out.lt
  have zy := HY.out.cell
  go_wp2_with fail
  clear zy
  go_loopw [12] (fun i wr => ∃ (k : Nat) (D : Option Addr) (dc : Nat) (ls : List TlP), k ≤ m ∧ i = .int .i64 (k : Int) ∧ Hid (CyJ w1 wr D k dc ls) ∧ Hid (But (· = w.heap.size + 1 + 1) w1 wr) ∧ Hid (Blk wr (w.heap.size + 1 + 1) 25 #[.slice D k dc]) ∧ Hid (stR ls = (stR ls0).take k)) (fun i _ => m - (intOf i).toNat)
  case atStart => exact ⟨0, none, 0, [], by omega, rfl, Lib.hid (CyJ.nil w1 w1), Lib.hid (But.refl _ _), HO, Lib.hid rfl⟩
  case round =>
    clear HO
    obtain ⟨k, D, dc, ls, hk, rfl, HI, HBt, HO, HS⟩ := hrel
    have HBw : Hid (Below w.heap.size w wr) := Lib.hid (HBt.out.below HB.out HB.out.size (fun j hj => by omega))
    by_cases hlt : k < m
    · obtain ⟨bs, os, ⟨⟨L0, ln0, lc0⟩, ps0⟩, rfl, hl, hok, c0'⟩ := HST.out.at hlt
      -- the lists' own cell and the rows' lie below the boxes
      have HRS : Hid (RowsS w L0 ln0 ps0) := Lib.hid (by
        obtain ⟨b9, o9, p9, e9, hl9, hok9, _⟩ := HST0.out.at hlt
        rw [hl] at hl9
        injection hl9 with hl9
        subst hl9
        exact hok9.rd)
      have c0 : wr.cell? ⟨bs, os + k, none⟩ = some (.slice L0 ln0 lc0) := by
        obtain ⟨b9, o9, p9, e9, hl9, _, c9⟩ := HST0.out.at hlt
        injection e9 with e9
        injection e9 with e9 e10
        subst e9 e10
        rw [hl] at hl9
        injection hl9 with hl9
        subst hl9
        exact (keeps_of HBw.out _ (by rw [c9]; rfl)).trans c9
      have Hl0 := Lib.hid (stR_at hl)
      have hln0 : ln0 ≤ 100000 := by
        have h1 := HC.out
        have h2 := cntS_le2 (stR_at hl)
        have h3 := hok.len
        dsimp only at h3
        omega
      have H8l : Hid (∀ r ∈ ps0.map (·.2), r.length ≤ 1000) := Lib.hid (H8.out _ (List.mem_of_getElem? (stR_at hl)))
      clear hl hok c0'
      obtain ⟨wt, HWT⟩ : ∃ z, Hid (wr = z) := ⟨_, Lib.hid rfl⟩
      go_wp2_with fail
      clear c0
      rw [HWT.out] at HI HBt HO HBw
      go_loopw [6, 18] (fun v i wr => ∃ (j : Nat) (L : Option Addr) (lc : Nat) (qs : List RowP), j ≤ ln0 ∧ i = .int .i64 (j : Int) ∧ v = .slice L j lc ∧ Hid (CrJ wt wr L j lc qs) ∧ Hid (qs.map (·.2) = (ps0.map (·.2)).take j)) (fun _ i _ => ln0 - (intOf i).toNat)
      case atStart => exact ⟨0, none, 0, [], by omega, rfl, rfl, by rw [HWT.out]; exact Lib.hid (CrJ.nil wt), Lib.hid rfl⟩
      case round =>
        clear HWT
        obtain ⟨j, L, lc, qs, hj, rfl, rfl, HCr, Hq⟩ := hrel
        have HBj : Hid (Below w.heap.size w wr) := Lib.hid (HBw.out.trans (HCr.out.i.be.mono HBw.out.size))
        by_cases hjn : j < ln0
        · obtain ⟨b2, o2, ⟨⟨X, xn, xc⟩, x⟩, rfl, c1, hro, hp⟩ := (HRS.out.keep (keeps_of HBj.out)).get2 hjn
          dsimp only at c1
          have HRO := Lib.hid hro
          have hp1 : (ps0.map (·.2))[j]? = some x := by rw [List.getElem?_map, hp]; rfl
          have Hx : Hid (qs.map (·.2) ++ [x] = (ps0.map (·.2)).take (j + 1)) := Lib.hid (by rw [Hq.out, take_snoc' hp1])
          have hxn : xn ≤ 1000 := by have h1 := H8l.out x (List.mem_of_getElem? hp1); have h2 := hro.rd.len; dsimp only at h2; omega
          have Hxn : Hid (x.length = xn) := Lib.hid hro.rd.len
          clear hro hp hp1
          go_wp2_with fail
          refine (copy_any ((X, xn, xc), x) _ HRO.out (by show xn ≤ _; omega)).mono ?_
          rintro e w4 ⟨A', c', rfl, hown, hb4⟩
          have HSp : Hid (∀ y ∈ qs, apR y ((A', xn, c'), x)) := Lib.hid (fun y hy b h1 h2 => by
            have h3 := (own_lt (HCr.out.i.rows y hy).1 h1).2.1
            have h4 := (own_lt hown h2).1
            omega)
          have HN : Hid (OwnRow w4 wt.heap.size ((A', xn, c'), x)) := Lib.hid ⟨own_weaken hown HCr.out.i.be.size, Hxn.out⟩
          have HC4 := Lib.hid (HCr.out.below hb4)
          clear hown hb4 HCr c1
          dsimp only
          go_wp2_with (at_builtin; refine wpList_append_one2 (by rfl) (.tmp 22) (.tmp 25) _ (by rfl) wt.heap.size 75 i0 _ 1 24 Tryz.underlying79 hi0 hz0 hz1 hz2 (by rfl) (by omega) (.slice L j lc) j _ (by rfl) w4 #[.slice A' xn c'] HC4.out.i.own w4.heap.size (by rfl) (by rfl) (by rfl) (one_row ((A', xn, c'), x)) (by simp only [maxLen]; omega) (by omega) HC4.out.i.be.size ?_; intro g6 cap6 w7 hown6 hg6 hB6 hat6 hlt6)
          have HC7 := Lib.hid (HC4.out.add (q := ((A', xn, c'), x)) HN.out HSp.out hown6 hg6 hB6)
          clear hown6 hg6 hB6 hat6 hlt6 HC4 HN
          go_roundw
          case rel => exact ⟨j + 1, _, cap6, _, by omega, by go_num, rfl, HC7, Lib.hid (by rw [List.map_append]; exact Hx.out)⟩
          case measure => simp [intOf]; omega
        · obtain rfl : j = ln0 := by omega
          have HI2 := Lib.hid (HI.out.below2 HCr.out.i.be)
          have HBt2 : Hid (But (· = w.heap.size + 1 + 1) w1 wr) := Lib.hid (HBt.out.trans (But.ofB HCr.out.i.be))
          have HO2 := Lib.hid (HO.out.below HCr.out.i.be)
          have hw1 : w1.heap.size ≤ wt.heap.size := HBt.out.size
          have hw2 : w1.heap.size ≤ wr.heap.size := HBt2.out.size
          have HS1 : Hid (∀ x ∈ ls, apL x ((L, j, lc), qs)) := Lib.hid (fun x hx b h1 h2 => by
            have h3 := (own_lt (HI.out.c.row x hx).1 h1).2.1
            have h4 := (own_lt HCr.out.i.own h2).1
            omega)
          have HS3 : Hid (∀ x ∈ ls, ∀ y ∈ x.2, ∀ z ∈ qs, apR y z) := Lib.hid (fun x hx y hy z hz b h1 h2 => by
            have h3 := (own_lt ((HI.out.c.row x hx).2.2 y hy).1 h1).2.1
            have h4 := (own_lt (HCr.out.i.rows z hz).1 h2).1
            omega)
          have HS4 := Lib.hid HCr.out.sp
          have HRow : Hid (wr.ownsRow w1.heap.size 75 1 (.slice L j lc) j (qs.flatMap rowc) ∧ qs.length = j ∧ ∀ q ∈ qs, OwnRow wr w1.heap.size q) := Lib.hid ⟨own_weaken HCr.out.i.own hw1, HCr.out.i.len, fun q hq => ⟨own_weaken (HCr.out.i.rows q hq).1 hw1, (HCr.out.i.rows q hq).2⟩⟩
          have HS2 : Hid (stR (ls ++ [((L, j, lc), qs)]) = (stR ls0).take (k + 1)) := Lib.hid (by
            rw [take_snoc' Hl0.out, ← HS.out]
            unfold stR
            rw [List.map_append]
            congr 2
            show [qs.map (·.2)] = [ps0.map (·.2)]
            rw [Hq.out, List.take_of_length_le (by rw [List.length_map]; exact Nat.le_of_eq HRS.out.sl.len)])
          clear HCr Hq HBj HI HBt HO
          have zo := HO2.out.cell
          go_wp2_with (at_builtin; refine wpList_append_one2 (by rfl) (.tmp 29) (.tmp 31) _ (by rfl) w1.heap.size 79 il _ 1 24 Tryz.underlying23 hil hl0 hl1 hl2 (by rfl) (by omega) (.slice D k dc) k _ (by rfl) wr #[.slice L j lc] HI2.out.c.own wr.heap.size (by rfl) (by rfl) (by rfl) (one_hd ((L, j, lc), qs)) (by simp only [maxLen]; omega) (by omega) hw2 ?_; intro g6 cap6 w7 hown6 hg6 hB6 hat6 hlt6; have HI7 := Lib.hid (HI2.out.add (p := ((L, j, lc), qs)) HRow.out HS1.out HS3.out HS4.out hown6 hg6); have HO7 : Hid (Blk w7 (w.heap.size + 1 + 1) 25 #[.slice D k dc]) := Lib.hid ((hB6.block _ HLt.out).trans HO2.out); have HBt7 : Hid (But (· = w.heap.size + 1 + 1) w1 w7) := Lib.hid ⟨hB6.os.trans HBt2.out.os, hB6.tape.trans HBt2.out.tape, hB6.output.trans HBt2.out.output, Nat.le_trans HBt2.out.size hB6.size, fun i hi hs => (hB6.block i hi).trans (HBt2.out.block i hi hs)⟩; have zt := HO7.out.cell; have zf := HO7.out.free; clear hown6 hg6 hB6 hat6 hlt6 zo)
          have hset : But (· = w.heap.size + 1 + 1) w7 (w7.setCell ⟨w.heap.size + 1 + 1, 0, none⟩ (.slice (some ⟨g6, 0, none⟩) (k + 1) cap6)) := But.set (S := (· = w.heap.size + 1 + 1)) w7 (p := ⟨w.heap.size + 1 + 1, 0, none⟩) rfl _
          have HI8 := Lib.hid (HI7.out.far HLt.out hset)
          have HBt8 := Lib.hid (HBt7.out.trans hset)
          have HO8 : Hid (Blk (w7.setCell ⟨w.heap.size + 1 + 1, 0, none⟩ (.slice (some ⟨g6, 0, none⟩) (k + 1) cap6)) (w.heap.size + 1 + 1) 25 #[.slice (some ⟨g6, 0, none⟩) (k + 1) cap6]) := Lib.hid (by have := HO7.out.set_ 0 (.slice (some ⟨g6, 0, none⟩) (k + 1) cap6); simpa using this)
          clear hset HI7 HO7 HBt7 HI2 HBt2 HO2 HRow
          go_roundw
          case rel => exact ⟨k + 1, _, cap6, _, by omega, by go_num, HI8, HBt8, HO8, HS2⟩
          case measure => simp [intOf]; omega
    · obtain rfl : k = m := by omega
      obtain ⟨b, hD, hbb⟩ : ∃ b, D = some ⟨b, 0, none⟩ ∧ w1.heap.size ≤ b := by
        rcases HI.out.c.own.2 with ⟨_, h0⟩ | ⟨g, cap, cur, hv, hg, _⟩
        · omega
        · injection hv with hv
          exact ⟨g, hv, hg⟩
      subst hD
      have hbt2 : But (· = w.heap.size + 1) wr (wr.setCell ⟨w.heap.size + 1, 0, none⟩ (.slice (some ⟨b, 0, none⟩) k dc)) := But.set (S := (· = w.heap.size + 1)) wr (p := ⟨w.heap.size + 1, 0, none⟩) rfl _
      have HE : Hid (CopyO2 (stR ls0) k w (.returned (.agg #[.slice (some ⟨b, 0, none⟩) k dc])) (wr.setCell ⟨w.heap.size + 1, 0, none⟩ (.slice (some ⟨b, 0, none⟩) k dc))) := Lib.hid (by
        have hL := HLt.out
        refine ⟨b, dc, ls, rfl, ((HI.out.cz).off hbt2 (fun x hx => by subst hx; omega)).base (by omega), HI.out.sl, HI.out.sr, ?_, HBw.out.setCell (p := ⟨w.heap.size + 1, 0, none⟩) (by show w.heap.size ≤ w.heap.size + 1; omega) _⟩
        rw [HS.out, List.take_of_length_le (by unfold stR; rw [List.length_map, Hlm.out]; exact Nat.le_refl _)])
      have HRr : Hid (Blk wr (w.heap.size + 1) 25 #[.slice none 0 0]) := Lib.hid (HR.out.but HBt.out (by omega))
      have HRc : Hid (Blk (wr.setCell ⟨w.heap.size + 1, 0, none⟩ (.slice (some ⟨b, 0, none⟩) k dc)) (w.heap.size + 1) 25 #[.slice (some ⟨b, 0, none⟩) k dc]) := Lib.hid (by have := HRr.out.set_ 0 (.slice (some ⟨b, 0, none⟩) k dc); simpa using this)
      clear hbt2 hbb
      have zo := HO.out.cell
      have zr := HRr.out.cell
      have zf := HRr.out.free
      go_wp2
      have zc := HRc.out.cell
      exact bodyPost_ret (v := .agg #[.slice (some ⟨b, 0, none⟩) k dc]) (by simp [results, Tryz.results27, go_sem, zc]) rfl HE.out
end Go.Proofs.YtponkkljlbifmaaGreat

namespace Go.Proofs.YtponkkljlbifmaaGreat
open Go.RowKit
set_option maxRecDepth 100000

def vn (i : Int) : Vl := ⟨4, i, ⟨#[]⟩⟩
end Go.Proofs.YtponkkljlbifmaaGreat

namespace Go.Proofs.YtponkkljlbifmaaGreat
open Go.RowKit
set_option maxRecDepth 100000

theorem CaseAt.drew {w : World} {g : Nat} (h : CaseAt w g) : CaseAt w.drew g := h.below ((Below.refl _ _).drew)
end Go.Proofs.YtponkkljlbifmaaGreat

/-
  Lists that stand for sets of values; the law's own and, or, not; two lists that are the same.
-/
namespace Go.Proofs.YtponkkljlbifmaaGreat
open Go.RowKit
set_option maxRecDepth 100000

/-- l is canonical, has at most m points, and contains the valid values of f -/
structure Rep (l : List Iv) (f : Vl → Bool) (m : Nat) : Prop where
  good : Good l m
  eq : ∀ v, validV v = true → inL l v = f v
theorem comb_good {op : Bool → Bool → Bool} {a b : List Iv} {m n : Nat} (ha : Good a m) (hb : Good b n) (hop : op false false = false) (hmn : m + n ≤ 127) : combineL op a b = (mergeL op a b, 0) := by
  have hg := ha.merge hb hop
  have hl := hg.len
  unfold combineL
  rw [ha.valid (by omega), hb.valid (by omega)]
  simp only [Bool.and_self, if_true]
  rw [if_pos (by omega)]
theorem Rep.op {o : Bool → Bool → Bool} {a b : List Iv} {f g : Vl → Bool} {m n : Nat} (ha : Rep a f m) (hb : Rep b g n) (hop : o false false = false) (hmn : m + n ≤ 127) : Rep (combineL o a b).1 (fun v => o (f v) (g v)) (m + n) := by
  rw [comb_good ha.good hb.good hop hmn]
  refine ⟨ha.good.merge hb.good hop, fun v hv => ?_⟩
  show inL (mergeL o a b) v = _
  rw [(merge_spec o hop ha.good.ord hb.good.ord).2.2 v, ha.eq v hv, hb.eq v hv]
theorem Rep.err {o : Bool → Bool → Bool} {a b : List Iv} {f g : Vl → Bool} {m n : Nat} (ha : Rep a f m) (hb : Rep b g n) (hop : o false false = false) (hmn : m + n ≤ 127) : (combineL o a b).2 = 0 := by
  rw [comb_good ha.good hb.good hop hmn]
theorem Rep.ext {a b : List Iv} {f g : Vl → Bool} {m n : Nat} (ha : Rep a f m) (hb : Rep b g n) (h : ∀ v, f v = g v) : a = b :=
  ord_ext ha.good.ord hb.good.ord fun v hv => by rw [ha.eq v hv, hb.eq v hv, h v]
theorem all_le (v : Vl) (hv : validV v = true) : inL allL v = true := by
  have h : cmpV ⟨1, 0, ⟨#[]⟩⟩ v ≤ 0 := by
    rcases valid_eq hv with ⟨a1, a2, a3⟩ | ⟨a1, a2, a3⟩ | ⟨a1, a2, a3⟩ | ⟨a1, a3⟩ | ⟨a1, a2, a3⟩
    · rw [cmpV_text a1.symm a2.symm]; exact nil_le _
    all_goals (rw [cmpV_kind (by simp only; omega)]; omega)
  simp [allL, inL, inI, h]
theorem Rep.all : Rep allL (fun _ => true) 1 := ⟨good_all, all_le⟩
theorem Rep.none : Rep [] (fun _ => false) 0 := ⟨Good.nil 0, fun _ _ => rfl⟩
theorem Rep.empty {l : List Iv} {f : Vl → Bool} {m : Nat} (h : Rep l f m) (hf : ∀ v, f v = false) : l = [] := h.ext Rep.none hf
theorem Rep.len {l : List Iv} {f : Vl → Bool} {m : Nat} (h : Rep l f m) (hm : m ≤ 1000) : l.length ≤ 1000000 := by
  have := h.good.len
  omega
end Go.Proofs.YtponkkljlbifmaaGreat

namespace Go.Proofs.YtponkkljlbifmaaGreat
open Go.RowKit
set_option maxRecDepth 100000

theorem IvAt.drew {w : World} {b p : Nat} {x : Iv} (h : IvAt w b p x) : IvAt w.drew b p x := ⟨h.c0, h.c1, h.c2, h.c3, h.c4, h.c5, h.c6⟩
theorem CaseAt.belowB {w w' : World} {g B : Nat} (h : CaseAt w g) (hb : Below B w w') (hB : g < B) : CaseAt w' g :=
  h.far (S := fun b => B ≤ b) ⟨hb.os, hb.tape, hb.output, hb.size, fun k _ hk => hb.block k (by simpa using hk)⟩ (fun b hb => by omega)
theorem But.belowB {S : Nat → Prop} {w0 w w' : World} {B : Nat} (h : But S w0 w) (hb : Below B w w') (hB : w0.heap.size ≤ B) : But S w0 w' :=
  ⟨hb.os.trans h.os, hb.tape.trans h.tape, hb.output.trans h.output, Nat.le_trans h.size hb.size, fun k hk hs => (hb.block k (by omega)).trans (h.block k hk hs)⟩
end Go.Proofs.YtponkkljlbifmaaGreat
