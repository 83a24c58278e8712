/-
  Texts: RgComb, RgMem, First, Case.
-/
import Derived.Test.YtponkkljlbifmaaGreatH3
import Derived.Shelf.Abstract
set_option linter.unusedVariables false
/-
  Plain mathematics of regions: the canonical form of an operation on two regions, by the points of their sets. No program here.
-/
namespace Go.Proofs.YtponkkljlbifmaaGreat
open Go.RowKit
set_option maxRecDepth 100000
open Rg

/-- a value put into an ascending list, once -/
def insV (v : Vl) : List Vl → List Vl
  | [] => [v]
  | x :: l => if cmpV v x < 0 then v :: x :: l else if cmpV v x = 0 then x :: l else x :: insV v l
theorem insV_mem (u v : Vl) : ∀ l : List Vl, u ∈ insV v l ↔ u = v ∨ u ∈ l
  | [] => by simp [insV]
  | x :: l => by
    have ih := insV_mem u v l
    unfold insV
    split
    · simp
    · split
      · rename_i h
        have e := (cmpV_zero v x).1 h
        subst e
        simp
      · simp only [List.mem_cons, ih]
        constructor
        · rintro (h | h | h)
          · exact .inr (.inl h)
          · exact .inl h
          · exact .inr (.inr h)
        · rintro (h | h | h)
          · exact .inr (.inl h)
          · exact .inl h
          · exact .inr (.inr h)
theorem insV_asc (v : Vl) : ∀ l : List Vl, ascV l → ascV (insV v l)
  | [], _ => List.pairwise_singleton _ _
  | x :: l, h => by
    have k := List.pairwise_cons.1 h
    unfold insV
    split
    · rename_i hv
      refine List.pairwise_cons.2 ⟨fun q hq => ?_, h⟩
      rcases List.mem_cons.1 hq with rfl | hq
      · exact hv
      · exact cmpV_lt_trans hv (k.1 q hq)
    · split
      · exact h
      · rename_i h1 h2
        refine List.pairwise_cons.2 ⟨fun q hq => ?_, insV_asc v l k.2⟩
        rcases (insV_mem q v l).1 hq with rfl | hq
        · have := cmpV_anti x q; omega
        · exact k.1 q hq
/-- the values of a list, ascending, each once -/
def sortV (l : List Vl) : List Vl := l.foldr insV []
theorem sortV_spec : ∀ l : List Vl, ascV (sortV l) ∧ ∀ v, v ∈ sortV l ↔ v ∈ l
  | [] => ⟨List.Pairwise.nil, fun v => by simp [sortV]⟩
  | x :: l => by
    obtain ⟨h1, h2⟩ := sortV_spec l
    refine ⟨insV_asc x _ h1, fun v => ?_⟩
    show v ∈ insV x (sortV l) ↔ _
    rw [insV_mem, h2, List.mem_cons]
/-- strictly ascending lists of values with the same members are equal -/
theorem ascV_ext : ∀ (a b : List Vl), ascV a → ascV b → (∀ v, v ∈ a ↔ v ∈ b) → a = b
  | [], [], _, _, _ => rfl
  | [], y :: b, _, _, h => absurd ((h y).2 (by simp)) (by simp)
  | x :: a, [], _, _, h => absurd ((h x).1 (by simp)) (by simp)
  | x :: a, y :: b, h1, h2, h => by
    have k1 := List.pairwise_cons.1 h1
    have k2 := List.pairwise_cons.1 h2
    have hxy : x = y := by
      rcases List.mem_cons.1 ((h x).1 (by simp)) with e | e
      · exact e
      · rcases List.mem_cons.1 ((h y).2 (by simp)) with e' | e'
        · exact e'.symm
        · have a1 := k2.1 x e
          have a2 := k1.1 y e'
          have a3 := cmpV_anti x y
          omega
    subst hxy
    congr 1
    refine ascV_ext a b k1.2 k2.2 fun r => ?_
    have hr := h r
    have irr := cmpV_self x
    constructor
    · intro hra
      rcases List.mem_cons.1 (hr.1 (List.mem_cons_of_mem _ hra)) with e | e
      · have := k1.1 r hra
        rw [e] at this
        omega
      · exact e
    · intro hrb
      rcases List.mem_cons.1 (hr.2 (List.mem_cons_of_mem _ hrb)) with e | e
      · have := k2.1 r hrb
        rw [e] at this
        omega
      · exact e
/-- the points of some lists, ascending -/
def ptsAll (ls : List (List Iv)) : List Vl := sortV (ls.flatMap ptsL)
theorem ptsAll_spec (ls : List (List Iv)) : ascV (ptsAll ls) ∧ ∀ v, v ∈ ptsAll ls ↔ ∃ l ∈ ls, v ∈ ptsL l := by
  obtain ⟨h1, h2⟩ := sortV_spec (ls.flatMap ptsL)
  exact ⟨h1, fun v => by rw [ptsAll, h2, List.mem_flatMap]⟩
def valsOf (r : Rg) : List (List Iv) := r.parts.map (·.1)
def ptsOf (a b : Rg) : List Vl := ptsAll (valsOf a ++ valsOf b)
/-- the regions of a list that are not empty, each once, in the order in which they first appear -/
def uniq : List Rg → List Rg
  | [] => []
  | r :: l => if r.nix then uniq l else r :: (uniq l).filter (fun s => decide (s ≠ r))
theorem uniq_mem (s : Rg) : ∀ l : List Rg, s ∈ uniq l ↔ s ∈ l ∧ s.nix = false
  | [] => by simp [uniq]
  | r :: l => by
    have ih := uniq_mem s l
    unfold uniq
    split
    · rename_i h
      rw [ih, List.mem_cons]
      constructor
      · rintro ⟨h1, h2⟩; exact ⟨.inr h1, h2⟩
      · rintro ⟨rfl | h1, h2⟩
        · rw [h] at h2; cases h2
        · exact ⟨h1, h2⟩
    · rename_i h
      simp only [List.mem_cons, List.mem_filter, ih, decide_eq_true_eq]
      constructor
      · rintro (rfl | ⟨⟨h1, h2⟩, _⟩)
        · exact ⟨.inl rfl, by simpa using h⟩
        · exact ⟨.inr h1, h2⟩
      · rintro ⟨rfl | h1, h2⟩
        · exact .inl rfl
        · by_cases e : s = r
          · exact .inl e
          · exact .inr ⟨⟨h1, h2⟩, e⟩
theorem uniq_nodup : ∀ l : List Rg, (uniq l).Nodup
  | [] => List.nodup_nil
  | r :: l => by
    unfold uniq
    split
    · exact uniq_nodup l
    · refine List.nodup_cons.2 ⟨fun h => ?_, (uniq_nodup l).filter _⟩
      simp at h
theorem uniq_snoc (r : Rg) : ∀ l : List Rg, uniq (l ++ [r]) = if r.nix || decide (r ∈ uniq l) then uniq l else uniq l ++ [r]
  | [] => by
    simp only [List.nil_append, uniq]
    cases r.nix <;> simp
  | x :: l => by
    have ih := uniq_snoc r l
    rw [List.cons_append]
    unfold uniq
    by_cases hx : x.nix = true
    · rw [if_pos hx, if_pos hx]
      exact ih
    · rw [if_neg hx, if_neg hx, ih]
      by_cases hr : r.nix = true
      · simp [hr]
      · by_cases e : r = x
        · subst e
          by_cases hm : r ∈ uniq l
          · simp [hm]
          · simp [hr, hm, List.filter_append]
        · by_cases hm : r ∈ uniq l
          · simp [hr, hm, e]
          · simp [hr, hm, e, List.filter_append]
/-- the values at which a function has a result, as intervals between the points -/
def valsAt (ro : Vl → Rg) (P : List Vl) (r : Rg) : List Iv := ivsOf (chg (fun p => decide (ro p = r)) false P)
def partsAt (ro : Vl → Rg) (P : List Vl) : List (List Iv × Rg) := (uniq (P.map ro)).map fun r => (valsAt ro P r, r)
/-- THE CANONICAL FORM OF AN OPERATION, by width -/
def comb (op : Bool → Bool → Bool) : Nat → Rg → Rg → Rg
  | 0, a, b => .nil 0 (op a.f b.f)
  | n + 1, a, b => mkR ((n + 1 : Nat) : Int) false (partsAt (fun p => comb op n (a.at_ (n : Int) p) (b.at_ (n : Int) p)) (ptsOf a b))
theorem chg_first (g : Vl → Bool) : ∀ (P : List Vl) (x : Vl), P.find? g = some x → ∃ Q, chg g false P = x :: Q
  | [], x, h => by cases h
  | p :: P, x, h => by
    rw [List.find?_cons] at h
    cases hg : g p
    · rw [hg] at h
      obtain ⟨Q, hQ⟩ := chg_first g P x h
      exact ⟨Q, by rw [chg, if_pos hg, hQ]⟩
    · rw [hg] at h
      injection h with h
      subst h
      exact ⟨_, by rw [chg, if_neg (by rw [hg]; simp)]⟩
theorem lo_vals {ro : Vl → Rg} {P : List Vl} {r : Rg} {x : Vl} (h : P.find? (fun p => decide (ro p = r)) = some x) : valsAt ro P r ≠ [] ∧ lo (valsAt ro P r) = x := by
  obtain ⟨Q, hQ⟩ := chg_first _ P x h
  unfold valsAt
  rw [hQ]
  cases Q with
  | nil => exact ⟨by simp [ivsOf], rfl⟩
  | cons y Q => exact ⟨by simp [ivsOf], rfl⟩
theorem find_of_mem {ro : Vl → Rg} {P : List Vl} {r : Rg} (h : r ∈ uniq (P.map ro)) : ∃ x, P.find? (fun p => decide (ro p = r)) = some x := by
  obtain ⟨h1, _⟩ := (uniq_mem r _).1 h
  obtain ⟨p, hp, rfl⟩ := List.mem_map.1 h1
  have : (P.find? (fun q => decide (ro q = ro p))).isSome = true := List.find?_isSome.2 ⟨p, hp, by simp⟩
  exact Option.isSome_iff_exists.1 this
theorem uniq_order (ro : Vl → Rg) : ∀ P : List Vl, ascV P → (uniq (P.map ro)).Pairwise (fun r s => ∀ x y, P.find? (fun p => decide (ro p = r)) = some x → P.find? (fun p => decide (ro p = s)) = some y → cmpV x y < 0)
  | [], _ => List.Pairwise.nil
  | p :: P, h => by
    have k := List.pairwise_cons.1 h
    have ih := uniq_order ro P k.2
    rw [List.map_cons]
    unfold uniq
    have skip : ∀ s, ro p ≠ s → (p :: P).find? (fun q => decide (ro q = s)) = P.find? (fun q => decide (ro q = s)) := fun s hs => by
      rw [List.find?_cons, decide_eq_false hs]
    split
    · rename_i hn
      refine ih.imp_of_mem fun {r s} hr hs hrs x y hx hy => ?_
      have hr2 := ((uniq_mem r _).1 hr).2
      have hs2 := ((uniq_mem s _).1 hs).2
      rw [skip r (fun e => by rw [e, hr2] at hn; cases hn)] at hx
      rw [skip s (fun e => by rw [e, hs2] at hn; cases hn)] at hy
      exact hrs x y hx hy
    · refine List.pairwise_cons.2 ⟨fun s hs x y hx hy => ?_, ?_⟩
      · have hs' : s ≠ ro p := by simpa using (List.mem_filter.1 hs).2
        rw [List.find?_cons] at hx
        simp only [decide_true, Option.some.injEq] at hx
        subst hx
        rw [skip s (Ne.symm hs')] at hy
        exact k.1 y (List.mem_of_find?_eq_some hy)
      · refine (ih.filter _).imp_of_mem fun {r s} hr hs hrs x y hx hy => ?_
        have hr' : r ≠ ro p := by simpa using (List.mem_filter.1 hr).2
        have hs' : s ≠ ro p := by simpa using (List.mem_filter.1 hs).2
        rw [skip r (Ne.symm hr')] at hx
        rw [skip s (Ne.symm hs')] at hy
        exact hrs x y hx hy
theorem in_vals {ro : Vl → Rg} {P : List Vl} (h : ascV P) (r : Rg) (v : Vl) : inL (valsAt ro P r) v = match lastLe P v with | none => false | some u => decide (ro u = r) := by
  unfold valsAt
  rw [in_ivs v _ (chg_asc _ _ _ h)]
  have := chg_par (fun p => decide (ro p = r)) v P false h
  rw [Bool.false_xor] at this
  refine this.trans ?_
  cases lastLe P v <;> rfl
theorem ord_vals {ro : Vl → Rg} {P : List Vl} (h : ascV P) (hv : ∀ v ∈ P, validV v = true) (r : Rg) : ordFrom none (valsAt ro P r) = true :=
  ord_ivs _ _ (chg_asc _ _ _ h) (fun v hm => hv v ((chg_sub _ _ _).1 v hm)) (fun y h => by cases h)
theorem form_parts {n : Nat} {ro : Vl → Rg} {P : List Vl} (h : ascV P) (hv : ∀ v ∈ P, validV v = true) (hr : ∀ p ∈ P, Form n (ro p)) : Form (n + 1) (mkR ((n + 1 : Nat) : Int) false (partsAt ro P)) := by
  refine ⟨w_mk _ _ _, f_mk _ _ _, fun p hp => ?_, ?_⟩
  · rw [parts_mk] at hp
    obtain ⟨r, hm, rfl⟩ := List.mem_map.1 hp
    obtain ⟨x, hx⟩ := find_of_mem hm
    obtain ⟨h1, h2⟩ := (uniq_mem r _).1 hm
    obtain ⟨q, hq, rfl⟩ := List.mem_map.1 h1
    exact ⟨(lo_vals hx).1, ord_vals h hv _, hr q hq, h2⟩
  · rw [parts_mk]
    unfold partsAt
    rw [List.pairwise_map]
    have h1 := uniq_order ro P h
    have h2 := uniq_nodup (P.map ro)
    refine (h1.and h2).imp_of_mem fun {r s} hr hs ⟨k1, k2⟩ => ?_
    obtain ⟨x, hx⟩ := find_of_mem hr
    obtain ⟨y, hy⟩ := find_of_mem hs
    refine ⟨?_, fun v _ hin => ?_, k2⟩
    · show cmpV (lo (valsAt ro P r)) (lo (valsAt ro P s)) < 0
      rw [(lo_vals hx).2, (lo_vals hy).2]
      exact k1 x y hx hy
    · show inL (valsAt ro P s) v = false
      have hin' : inL (valsAt ro P r) v = true := hin
      rw [in_vals h] at hin' ⊢
      cases hl : lastLe P v with
      | none => rfl
      | some u =>
        rw [hl] at hin'
        simp only [decide_eq_true_eq] at hin'
        simp only [decide_eq_false_iff_not]
        rw [hin']
        exact k2
theorem pts_of {n : Nat} {a b : Rg} (ha : Form (n + 1) a) (hb : Form (n + 1) b) : ascV (ptsOf a b) ∧ (∀ v ∈ ptsOf a b, validV v = true) ∧ (∀ p ∈ a.parts, ordFrom none p.1 = true ∧ ∀ q ∈ ptsL p.1, q ∈ ptsOf a b) ∧ (∀ p ∈ b.parts, ordFrom none p.1 = true ∧ ∀ q ∈ ptsL p.1, q ∈ ptsOf a b) := by
  obtain ⟨h1, h2⟩ := ptsAll_spec (valsOf a ++ valsOf b)
  refine ⟨h1, fun v hv => ?_, fun p hp => ⟨(ha.2.2.1 p hp).2.1, fun q hq => (h2 q).2 ⟨p.1, List.mem_append.2 (.inl (List.mem_map.2 ⟨p, hp, rfl⟩)), hq⟩⟩, fun p hp => ⟨(hb.2.2.1 p hp).2.1, fun q hq => (h2 q).2 ⟨p.1, List.mem_append.2 (.inr (List.mem_map.2 ⟨p, hp, rfl⟩)), hq⟩⟩⟩
  obtain ⟨l, hl, hvl⟩ := (h2 v).1 hv
  rw [List.mem_append] at hl
  have : ordFrom none l = true := by
    rcases hl with hl | hl
    · obtain ⟨p, hp, rfl⟩ := List.mem_map.1 hl; exact (ha.2.2.1 p hp).2.1
    · obtain ⟨p, hp, rfl⟩ := List.mem_map.1 hl; exact (hb.2.2.1 p hp).2.1
  exact (ord_pts l none this).2.2.1 v hvl
theorem comb_form (op : Bool → Bool → Bool) : ∀ (n : Nat) (a b : Rg), Form n a → Form n b → Form n (comb op n a b)
  | 0, _, _, _, _ => ⟨rfl, rfl⟩
  | n + 1, a, b, ha, hb => by
    obtain ⟨h1, h2, _, _⟩ := pts_of ha hb
    exact form_parts h1 h2 fun p _ => comb_form op n _ _ (ha.at_ p) (hb.at_ p)
end Go.Proofs.YtponkkljlbifmaaGreat

/-
  How a region lies in memory: the parts of a tree in rows of four cells. No program here.
-/
namespace Go.Proofs.YtponkkljlbifmaaGreat
open Go.RowKit
set_option maxRecDepth 100000
open Rg

/-- a slice's length and capacity are as they must be -/
def okS (A : Option Addr) (n c : Nat) : Prop := n ≤ c ∧ (A = none → n = 0 ∧ c = 0)
/-- the parts of a region lie in block b from cell o on -/
def RgP (w : World) : Rg → Nat → Nat → Prop
  | .nil _ _, _, _ => True
  | .cons vs rest tail, b, o =>
    (∃ A n c, w.cell? ⟨b, o, none⟩ = some (.slice A n c) ∧ okS A n c ∧ IvS w A n vs) ∧ w.cell? ⟨b, o + 1, none⟩ = some (.int .i64 rest.w) ∧ w.cell? ⟨b, o + 2, none⟩ = some (.bool rest.f) ∧
    (∃ A n c, w.cell? ⟨b, o + 3, none⟩ = some (.slice A n c) ∧ okS A n c ∧ n = rest.len ∧ (0 < n → ∃ b' o', A = some ⟨b', o', none⟩ ∧ RgP w rest b' o')) ∧ RgP w tail b (o + 4)
/-- the width x, the mark f and the slice with address A, length n, capacity c read as a region -/
structure RgS (w : World) (x : Int) (f : Bool) (A : Option Addr) (n c : Nat) (r : Rg) : Prop where
  hw : r.w = x
  hf : r.f = f
  ok : okS A n c
  len : n = r.len
  ex : 0 < n → ∃ b o, A = some ⟨b, o, none⟩ ∧ RgP w r b o
/-- one part -/
structure PtAt (w : World) (b o : Nat) (p : List Iv × Rg) (A : Option Addr) (n c : Nat) (x : Int) (f : Bool) (A' : Option Addr) (n' c' : Nat) : Prop where
  c0 : w.cell? ⟨b, o, none⟩ = some (.slice A n c)
  c1 : w.cell? ⟨b, o + 1, none⟩ = some (.int .i64 x)
  c2 : w.cell? ⟨b, o + 2, none⟩ = some (.bool f)
  c3 : w.cell? ⟨b, o + 3, none⟩ = some (.slice A' n' c')
  ok : okS A n c
  vs : IvS w A n p.1
  rg : RgS w x f A' n' c' p.2
theorem RgP.keep {w w' : World} (hk : Keeps w w') : ∀ {r : Rg} {b o : Nat}, RgP w r b o → RgP w' r b o
  | .nil _ _, _, _, _ => trivial
  | .cons vs rest tail, b, o, h => by
    obtain ⟨⟨A, n, c, h1, h2, h3⟩, h4, h5, ⟨A', n', c', h6, h7, h8, h9⟩, h10⟩ := h
    refine ⟨⟨A, n, c, keep_cell hk h1, h2, h3.keep hk⟩, keep_cell hk h4, keep_cell hk h5, ⟨A', n', c', keep_cell hk h6, h7, h8, fun hn => ?_⟩, RgP.keep hk h10⟩
    obtain ⟨b', o', e, h⟩ := h9 hn
    exact ⟨b', o', e, RgP.keep hk h⟩
theorem RgS.keep {w w' : World} {x : Int} {f : Bool} {A : Option Addr} {n c : Nat} {r : Rg} (h : RgS w x f A n c r) (hk : Keeps w w') : RgS w' x f A n c r :=
  ⟨h.hw, h.hf, h.ok, h.len, fun hn => by
    obtain ⟨b, o, e, hp⟩ := h.ex hn
    exact ⟨b, o, e, hp.keep hk⟩⟩
theorem RgP.at {w : World} : ∀ {r : Rg} {b o k : Nat} {p : List Iv × Rg}, RgP w r b o → r.parts[k]? = some p → ∃ A n c x f A' n' c', PtAt w b (o + k * 4) p A n c x f A' n' c'
  | .nil _ _, _, _, _, _, _, hp => by simp [parts] at hp
  | .cons vs rest tail, b, o, 0, p, h, hp => by
    simp only [parts, List.getElem?_cons_zero, Option.some.injEq] at hp
    subst hp
    obtain ⟨⟨A, n, c, h1, h2, h3⟩, h4, h5, ⟨A', n', c', h6, h7, h8, h9⟩, _⟩ := h
    exact ⟨A, n, c, rest.w, rest.f, A', n', c', ⟨by simpa using h1, by simpa using h4, by simpa using h5, by simpa using h6, h2, h3, ⟨rfl, rfl, h7, h8, h9⟩⟩⟩
  | .cons vs rest tail, b, o, k + 1, p, h, hp => by
    simp only [parts, List.getElem?_cons_succ] at hp
    have := RgP.at h.2.2.2.2 hp
    rw [show o + (k + 1) * 4 = o + 4 + k * 4 by omega]
    exact this
theorem RgS.at {w : World} {x : Int} {f : Bool} {A : Option Addr} {n c k : Nat} {r : Rg} (h : RgS w x f A n c r) (hk : k < n) : ∃ b o p A1 n1 c1 x2 f2 A2 n2 c2, A = some ⟨b, o, none⟩ ∧ r.parts[k]? = some p ∧ PtAt w b (o + k * 4) p A1 n1 c1 x2 f2 A2 n2 c2 := by
  obtain ⟨b, o, e, hp⟩ := h.ex (by omega)
  have hl := h.len
  have hk' : k < r.parts.length := by rw [len_parts]; omega
  obtain ⟨A1, n1, c1, x2, f2, A2, n2, c2, hpt⟩ := hp.at (List.getElem?_eq_getElem hk')
  exact ⟨b, o, _, A1, n1, c1, x2, f2, A2, n2, c2, e, List.getElem?_eq_getElem hk', hpt⟩
theorem RgP.of {w : World} : ∀ {r : Rg} {b o : Nat}, (∀ k p, r.parts[k]? = some p → ∃ A n c x f A' n' c', PtAt w b (o + k * 4) p A n c x f A' n' c') → RgP w r b o
  | .nil _ _, _, _, _ => trivial
  | .cons vs rest tail, b, o, h => by
    obtain ⟨A, n, c, x, f, A', n', c', h0⟩ := h 0 (vs, rest) rfl
    simp only [Nat.zero_mul, Nat.add_zero] at h0
    obtain ⟨d0, d1, d2, d3, d4, d5, ⟨rfl, rfl, d6, d7, d8⟩⟩ := h0
    refine ⟨⟨A, n, c, d0, d4, d5⟩, d1, d2, ⟨A', n', c', d3, d6, d7, d8⟩, RgP.of fun k p hp => ?_⟩
    have := h (k + 1) p (by simpa [parts] using hp)
    rw [show o + 4 + k * 4 = o + (k + 1) * 4 by omega]
    exact this
theorem PtAt.keep {w w' : World} {b o : Nat} {p : List Iv × Rg} {A : Option Addr} {n c : Nat} {x : Int} {f : Bool} {A' : Option Addr} {n' c' : Nat} (h : PtAt w b o p A n c x f A' n' c') (hk : Keeps w w') : PtAt w' b o p A n c x f A' n' c' :=
  ⟨keep_cell hk h.c0, keep_cell hk h.c1, keep_cell hk h.c2, keep_cell hk h.c3, h.ok, h.vs.keep hk, h.rg.keep hk⟩
theorem RgS.nil {w : World} (x : Int) (f : Bool) : RgS w x f none 0 0 (.nil x f) := ⟨rfl, rfl, ⟨Nat.le_refl _, fun _ => ⟨rfl, rfl⟩⟩, rfl, fun h => absurd h (by omega)⟩
def sizeL (l : List (List Iv × Rg)) : Nat := (l.map fun p => 1 + p.2.size).sum
theorem size_parts : ∀ r : Rg, r.size = sizeL r.parts
  | .nil _ _ => rfl
  | .cons vs rest tail => by
    have ih := size_parts tail
    simp only [Rg.size, parts, sizeL, List.map_cons, List.sum_cons] at ih ⊢
    omega
end Go.Proofs.YtponkkljlbifmaaGreat

namespace Go.Proofs.YtponkkljlbifmaaGreat
open Go.RowKit
set_option maxRecDepth 100000

def minI : Int := -9223372036854775808
def firstV (k : Int) : Vl × Bool :=
  if k = 1 ∨ k = 2 ∨ k = 3 ∨ k = 5 then (⟨k, 0, ⟨#[]⟩⟩, true) else if k = 4 then (⟨k, minI, ⟨#[]⟩⟩, true) else (zeroV, false)

end Go.Proofs.YtponkkljlbifmaaGreat

namespace Go.Proofs.YtponkkljlbifmaaGreat
open Go.RowKit
set_option maxRecDepth 100000
set_option linter.unusedVariables false

def u8c (b : Int) : List Value := [.int .u8 b]
/-- block g is a Case: a list of bytes and a place in it -/
structure CaseAt (w : World) (g : Nat) : Prop where
  ex : ∃ (A : Option Addr) (n c k : Nat) (zs : List Int), Blk w g 53 #[.slice A n c, .int .i64 (k : Int)] ∧ Sl 1 u8c w A n zs ∧ (∀ z ∈ zs, 0 ≤ z ∧ z ≤ 255) ∧ n ≤ 1000 ∧ k ≤ n ∧ (0 < n → ∀ b o, A = some ⟨b, o, none⟩ → b < g)
theorem Sl.lt_of {w : World} {A : Option Addr} {n : Nat} {zs : List Int} {b o : Nat} (h : Sl 1 u8c w A n zs) (hA : A = some ⟨b, o, none⟩) (hn : 0 < n) : ∃ z, w.cell? ⟨b, o, none⟩ = some (.int .u8 z) := by
  obtain ⟨b', o', x, hA', hx, hc⟩ := h.at hn
  rw [hA] at hA'
  injection hA' with h1
  injection h1 with h1 h2
  subst h1 h2
  exact ⟨x, by have := hc 0 _ rfl; simpa using this⟩
theorem case_ne {w : World} {g : Nat} {A A' : Option Addr} {n m c k : Nat} {zs : List Int} (hB : Blk w g 53 #[.slice A' m c, .int .i64 (k : Int)]) (h : Sl 1 u8c w A n zs) (hn : 0 < n) : ∀ b o, A = some ⟨b, o, none⟩ → b ≠ g := by
  rintro b o hA rfl
  obtain ⟨z, hz⟩ := h.lt_of hA hn
  rw [hB.cell] at hz
  rcases o with _ | _ | o <;> simp at hz
theorem CaseAt.below {w w' : World} {g : Nat} (h : CaseAt w g) (hb : Below w.heap.size w w') : CaseAt w' g := by
  obtain ⟨A, n, c, k, zs, h1, h2, h3, h4, h5⟩ := h.ex
  exact ⟨A, n, c, k, zs, h1.below hb, h2.keep (keeps_of hb), h3, h4, h5⟩

set_option maxHeartbeats 1000000 in
theorem int_any (g : Nat) (m : Int) (w : World) (hc : CaseAt w g) (hm : 1 ≤ m) (hm2 : m ≤ 1000) :
    Calls Tryz.prog 20 #[.pointer (some ⟨g, 0, none⟩), .int .i64 m] w fun e w' => (∃ x : Int, 0 ≤ x ∧ x < m ∧ e = .returned (.int .i64 x)) ∧ CaseAt w' g ∧ But (· = g) w w' := by
  obtain ⟨A, n, c, k, zs, hB, hS, hz, hn, hk, hlow⟩ := hc.ex
  have HLOW := Lib.hid hlow
  clear hlow
  have e0 := blocks_at hB (i := 0) rfl
  have e1 := blocks_at hB (i := 1) rfl
  rcases Nat.lt_or_ge k n with hkn | hkn
  · obtain ⟨b, o, z, rfl, hzx, hzc⟩ := hS.at hkn
    have hne := case_ne hB hS (by omega) b o rfl
    have hzb : 0 ≤ z ∧ z ≤ 255 := hz z (List.mem_of_getElem? hzx)
    have hcell := hzc 0 _ rfl
    simp only [Nat.mul_one, Nat.add_zero] at hcell
    have g1 : decide (n ≤ k) = false := by simp; omega
    have g2 : decide (m < 1) = false := by simp; omega
    have f1 := hB.free 1
    have hSet := hB.set_ 1 (.int .i64 ((k : Int) + 1))
    have hU : But (· = g) w (w.setCell ⟨g, 1, none⟩ (.int .i64 ((k : Int) + 1))) := But.set (S := fun k => k = g) w (p := ⟨g, 1, none⟩) rfl _
    have hS2 := hS.but hU (fun h b' o' e => by injection e with e; injection e with e1 e2; rw [← e1]; exact hne)
    have d0 := far_cell (p := ⟨g, 1, none⟩) (u := .int .i64 ((k : Int) + 1)) hcell hne
    have HB := Lib.hid (show CaseAt (w.setCell ⟨g, 1, none⟩ (.int .i64 ((k : Int) + 1))) g from ⟨_, n, c, k + 1, zs, hSet, hS2, hz, hn, hkn, HLOW.out⟩)
    have d1 := blocks_at hSet (i := 0) (u := .slice (some ⟨b, o, none⟩) n c) rfl
    have d2 := blocks_at hSet (i := 1) (u := .int .i64 ((k : Int) + 1)) rfl
    have HS := Lib.hid hS
    have HC := Lib.hid hc
    have HU := Lib.hid hU
    clear hB hS hc hSet hU hS2 hzx hzc hz
    go_enter Tryz.func20, Tryz.ntmps20
    go_wp2
    have hca := @cell_after w.drew
    refine wp_region_seg [] [0, 1, 2, 3, 4, 5, 6, 7, 8, 9, 10, 11, 12, 13] (by kernel_rfl) (by kernel_rfl) (fun _ _ d _ _ h => by cases d <;> exact h) ?_
    simp only [pickSegs, pickOps, opAt, List.map_cons, List.map_nil, List.getElem?_toArray, List.getElem?_cons_zero, List.getElem?_cons_succ, Option.getD_some]
    unfold wpBlocks
    repeat (go_big_quiet_step (fail))
    refine wpQuiet_nil ?_
    clear hca
    go_wp2
    generalize w.setCell ⟨g, 1, none⟩ (.int .i64 ((k : Int) + 1)) = W at *
    clear hcell e0 e1 f1
    have hca := @cell_after W.drew.drew
    refine wp_region_seg [] [0, 1, 2, 3, 4, 5, 6, 7, 8, 9, 10, 11, 12, 13, 14] (by kernel_rfl) (by kernel_rfl) (fun _ _ d _ _ h => by cases d <;> exact h) ?_
    simp only [pickSegs, pickOps, opAt, List.map_cons, List.map_nil, List.getElem?_toArray, List.getElem?_cons_zero, List.getElem?_cons_succ, Option.getD_some]
    unfold wpBlocks
    repeat (go_big_quiet_step (fail))
    refine wpQuiet_nil ?_
    clear hca
    go_wp2
    go_ret
    refine ⟨⟨z % m, Int.emod_nonneg z (by omega), ?_, rfl⟩, HB.out.below (Below.refl _ _).drew.drew, HU.out.drew.drew⟩
    exact Int.emod_lt_of_pos z (by omega)
  · have g1 : decide (n ≤ k) = true := by simp; omega
    go_enter Tryz.func20, Tryz.ntmps20
    have HB := Lib.hid hB
    have HS := Lib.hid hS
    have HC := Lib.hid hc
    clear hB hS hc
    go_wp2
    have hca := @cell_after w.drew
    refine wp_region_seg [] [0, 1, 2, 3, 4, 5, 6, 7, 8, 9, 10, 11, 12, 13] (by kernel_rfl) (by kernel_rfl) (fun _ _ d _ _ h => by cases d <;> exact h) ?_
    simp only [pickSegs, pickOps, opAt, List.map_cons, List.map_nil, List.getElem?_toArray, List.getElem?_cons_zero, List.getElem?_cons_succ, Option.getD_some]
    unfold wpBlocks
    repeat (go_big_quiet_step (fail))
    refine wpQuiet_nil ?_
    clear hca
    go_wp2
    go_ret
    exact ⟨⟨0, by omega, by omega, rfl⟩, HC.out.below (Below.refl _ _).drew, (But.refl _ _).drew⟩

theorem info_u8 : (Tryz.prog.info? 5).map (fun i => (i.zero, i.size, i.bytes)) = some (some (.int .u8 0), 1, 1) := by kernel_rfl

set_option maxHeartbeats 1000000 in
theorem new_any (A : Option Addr) (n c : Nat) (zs : List Int) (most : Nat) (w : World) (hs : Sl 1 u8c w A n zs) (hz : ∀ z ∈ zs, 0 ≤ z ∧ z ≤ 255) (hnil : A = none → n = 0 ∧ c = 0) (hsp : ∀ ad, A = some ad → ad.spot = none) (hnc : n ≤ c) (hcm : c ≤ 9223372036854775807) (hmo : most ≤ 1000) :
    Calls Tryz.prog 6 #[.slice A n c, .int .i64 (most : Int)] w fun e w' => ∃ g, w.heap.size ≤ g ∧ e = .returned (.pointer (some ⟨g, 0, none⟩)) ∧ CaseAt w' g ∧ Below w.heap.size w w' := by
  obtain ⟨i0, hi, hz0, hz1, hz2⟩ := info_parts info_u8
  have key : ∀ m : Nat, m ≤ n → m ≤ 1000 → ∀ (A' : Option Addr) (c' : Nat) (w1 : World), w1.ownsRow w.heap.size 5 1 (.slice A' m c') m ((zs.take m).flatMap u8c) → Below w.heap.size w w1 →
      CaseAt (w1.alloc (.cells #[.slice A' m c', .int .i64 0] 53)) w1.heap.size ∧ Below w.heap.size w (w1.alloc (.cells #[.slice A' m c', .int .i64 0] 53)) := by
    intro m h1 h2 A' c' w1 ho hb
    have hl := hs.len
    refine ⟨⟨A', m, c', 0, zs.take m, Blk.new _ _ _, (Sl.of_own (cs := u8c) (fun _ => rfl) (by simp; omega) ho).keep (keeps_alloc _ _), fun z h => hz z (List.mem_of_mem_take h), by omega, by omega, fun hm b o e => Sl.lt (cs := u8c) (sz := 1) (fun _ => rfl) (by decide) (Sl.of_own (cs := u8c) (fun _ => rfl) (by simp; omega) ho) hm b o e⟩, hb.alloc hb.size _⟩
  have Key := Lib.hid key
  have HS := fun (m : Nat) (h : m ≤ n) => Lib.hid (hs.take m h)
  have HN := Lib.hid hnil
  have HSP := Lib.hid hsp
  clear hs hnil hsp hz key
  rcases Nat.lt_or_ge most n with hle | hle
  rotate_left
  · have HS1 := HS n (Nat.le_refl _)
    clear HS
    have hmin : min (n : Int) (most : Int) = (n : Int) := by omega
    go_enter Tryz.func6, Tryz.ntmps6
    go_wp2_with (at_builtin; refine wpList_append_sl (cs := u8c) w (by rfl) _ (.tmp 10) _ (by rfl) w.heap.size 5 i0 _ 1 1 Tryz.underlying22 hi hz0 hz1 hz2 (by rfl) (by omega) (.slice none 0 0) 0 [] (by rfl) ⟨by simp, .inl ⟨rfl, rfl⟩⟩ A n c (zs.take n) (by rfl) HS1.out HN.out HSP.out (fun _ => rfl) (by simp [u8c, Value.oneCell']) (by simp only [maxLen]; omega) (by omega) (Nat.le_refl _) ?_; intro A1 c1 w1 hown1 hg1 hB1 hat1 hn1; simp only [Nat.zero_add, List.nil_append] at hown1)
    go_ret
    obtain ⟨h1, h2⟩ := Key.out n (Nat.le_refl _) (by omega) A1 c1 w1 hown1 hB1
    exact ⟨_, hB1.size, rfl, h1, h2⟩
  · have HS1 := HS most (by omega)
    clear HS
    have hmin : min (n : Int) (most : Int) = (most : Int) := by omega
    go_enter Tryz.func6, Tryz.ntmps6
    go_wp2_with (at_builtin; refine wpList_append_sl (cs := u8c) w (by rfl) _ (.tmp 10) _ (by rfl) w.heap.size 5 i0 _ 1 1 Tryz.underlying22 hi hz0 hz1 hz2 (by rfl) (by omega) (.slice none 0 0) 0 [] (by rfl) ⟨by simp, .inl ⟨rfl, rfl⟩⟩ A most c (zs.take most) (by rfl) HS1.out (fun h => ⟨by have := (HN.out h).1; omega, (HN.out h).2⟩) HSP.out (fun _ => rfl) (by simp [u8c, Value.oneCell']) (by simp only [maxLen]; omega) (by omega) (Nat.le_refl _) ?_; intro A1 c1 w1 hown1 hg1 hB1 hat1 hn1; simp only [Nat.zero_add, List.nil_append] at hown1)
    go_ret
    obtain ⟨h1, h2⟩ := Key.out most (by omega) (by omega) A1 c1 w1 hown1 hB1
    exact ⟨_, hB1.size, rfl, h1, h2⟩

theorem bool_any (g : Nat) (m : Int) (w : World) (hc : CaseAt w g) (hm : 1 ≤ m) (hm2 : m ≤ 1000) :
    Calls Tryz.prog 15 #[.pointer (some ⟨g, 0, none⟩), .int .i64 m] w fun e w' => (∃ x : Bool, e = .returned (.bool x)) ∧ CaseAt w' g ∧ But (· = g) w w' := by
  go_enter Tryz.func15, Tryz.ntmps15
  go_wp2_with fail
  refine (int_any g m _ hc hm hm2).mono ?_
  rintro e w1 ⟨⟨x, hx1, hx2, rfl⟩, hc1, hb1⟩
  go_wp2
  go_ret
  exact ⟨⟨_, rfl⟩, hc1, hb1⟩

def SomeText (w : World) (g : Nat) (e : Ending) (w' : World) : Prop := (∃ x : ByteArray, x.size ≤ 64 ∧ e = .returned (.string x)) ∧ CaseAt w' g ∧ But (· = g) w w'
set_option maxHeartbeats 1000000 in
theorem text_any (g : Nat) (w : World) (hc : CaseAt w g) :
    Calls Tryz.prog 82 #[.pointer (some ⟨g, 0, none⟩)] w fun e w' => SomeText w g e w' := by
  go_enter Tryz.func82, Tryz.ntmps82
  go_wp2_with fail
  refine (int_any g 10 _ hc (by omega) (by omega)).mono ?_
  rintro e w1 ⟨⟨x, hx1, hx2, rfl⟩, hc1, hb1⟩
  go_wp2
  iterate 8
    · go_ret
      exact ⟨⟨_, by decide, rfl⟩, hc1, hb1⟩
  · go_loop [3, 4] (fun t i => ∃ (k : Nat) (s : ByteArray), k ≤ 64 ∧ i = .int .i64 (k : Int) ∧ t = .string s ∧ s.size ≤ k) (fun _ i => 64 - (intOf i).toNat)
    case atStart => exact ⟨0, ⟨#[]⟩, by omega, rfl, rfl, by decide⟩
    case round =>
      obtain ⟨k, s, hk, rfl, rfl, hsk⟩ := hrel
      have hsk2 : s.size ≤ 64 := by omega
      by_cases hlt : k < 64
      · go_wp2
        go_round
        case rel => exact ⟨k + 1, _, by omega, by go_num, rfl, by have h1 : (⟨#[255]⟩ : ByteArray).size = 1 := rfl; have h2 : (⟨#[98]⟩ : ByteArray).size = 1 := rfl; simp; omega⟩
        case measure => simp [intOf]; omega
      · go_wp2
        go_ret
        exact ⟨⟨s, hsk2, rfl⟩, hc1, hb1⟩
  · go_loop [3, 5] (fun t i => ∃ (k : Nat) (s : ByteArray), k ≤ 64 ∧ i = .int .i64 (k : Int) ∧ t = .string s ∧ s.size ≤ k) (fun _ i => 64 - (intOf i).toNat)
    case atStart => exact ⟨0, ⟨#[]⟩, by omega, rfl, rfl, by decide⟩
    case round =>
      obtain ⟨k, s, hk, rfl, rfl, hsk⟩ := hrel
      have hsk2 : s.size ≤ 64 := by omega
      by_cases hlt : k < 64
      · go_wp2
        go_round
        case rel => exact ⟨k + 1, _, by omega, by go_num, rfl, by have h1 : (⟨#[255]⟩ : ByteArray).size = 1 := rfl; have h2 : (⟨#[98]⟩ : ByteArray).size = 1 := rfl; simp; omega⟩
        case measure => simp [intOf]; omega
      · go_wp2
        go_ret
        exact ⟨⟨s, hsk2, rfl⟩, hc1, hb1⟩

theorem CaseAt.lt {w : World} {g : Nat} (h : CaseAt w g) : g < w.heap.size := by
  obtain ⟨A, n, c, k, zs, h1, _⟩ := h.ex
  exact h1.lt
theorem CaseAt.but {w w' : World} {g : Nat} {S : Nat → Prop} (h : CaseAt w g) (hb : But S w w') (hg : ¬ S g) (hS : ∀ b, S b → ∀ i x, w.cell? ⟨b, i, none⟩ ≠ some (.int .u8 x)) : CaseAt w' g := by
  obtain ⟨A, n, c, k, zs, h1, h2, h3, h4, h5⟩ := h.ex
  refine ⟨A, n, c, k, zs, h1.but hb hg, h2.but hb (fun hn b o e hs => ?_), h3, h4, h5⟩
  obtain ⟨z, hz⟩ := h2.lt_of e hn
  exact hS b hs o z hz
theorem CaseAt.far {w w' : World} {g : Nat} {S : Nat → Prop} (h : CaseAt w g) (hb : But S w w') (hS : ∀ b, S b → g < b) : CaseAt w' g := by
  obtain ⟨A, n, c, k, zs, h1, h2, h3, h4, h5, h6⟩ := h.ex
  exact ⟨A, n, c, k, zs, h1.but hb (fun hs => by have := hS g hs; omega), h2.but hb (fun hn b o e hs => by have := hS b hs; have := h6 hn b o e; omega), h3, h4, h5, h6⟩
theorem But.setNew {S : Nat → Prop} {w w' : World} (h : But S w w') {p : Addr} (hp : w.heap.size ≤ p.block) (u : Value) : But S w (w'.setCell p u) :=
  ⟨h.os, h.tape, h.output, by simpa [World.setCell] using h.size, fun k hk hs => (Below.heap_setCell w' p u k (by omega)).trans (h.block k hk hs)⟩
theorem But.allocNew {S : Nat → Prop} {w w' : World} (h : But S w w') (o : Obj) : But S w (w'.alloc o) := h.trans (But.alloc _ _)
/-- three cells of a box of the call's own are written -/
theorem case_box {w : World} {g z : Nat} {k i : Int} {t : ByteArray} (h : CaseAt w g) (hB : Blk w z 67 #[.int .i64 k, .int .i64 i, .string t]) (hne : g ≠ z) (u0 u1 u2 : Value) :
    CaseAt (((w.setCell ⟨z, 0, none⟩ u0).setCell ⟨z, 1, none⟩ u1).setCell ⟨z, 2, none⟩ u2) g := by
  refine h.but (S := fun b => b = z) (((But.set (S := fun b => b = z) w (p := ⟨z, 0, none⟩) rfl u0).trans (But.set (S := fun b => b = z) _ (p := ⟨z, 1, none⟩) rfl u1)).trans (But.set (S := fun b => b = z) _ (p := ⟨z, 2, none⟩) rfl u2)) hne ?_
  rintro b rfl j x hx
  rw [hB.cell] at hx
  rcases j with _ | _ | _ | j <;> simp at hx
end Go.Proofs.YtponkkljlbifmaaGreat
