/-
  Texts: RgComb, Mem2.
-/
import Derived.Test.YtmnmckblmoalkaaGreatB6
import Derived.Laws.AppendOwnNone
set_option linter.unusedVariables false
/-
  Plain mathematics of regions: the canonical form of an operation on two regions, by the points of their sets. No program here.
-/
namespace Go.Proofs.YtmnmckblmoalkaaGreat
open Go.RowKit
set_option maxRecDepth 100000
open Rg

/-- a value put into an ascending list, once -/
def insV (v : Vl) : List Vl → List Vl
  | [] => [v]
  | x :: l => if cmpV v x < 0 then v :: x :: l else if cmpV v x = 0 then x :: l else x :: insV v l
theorem insV_mem (u v : Vl) : ∀ l : List Vl, u ∈ insV v l ↔ u = v ∨ u ∈ l
  | [] => by simp [insV]
  | x :: l => by
    have ih := insV_mem u v l
    unfold insV
    split
    · simp
    · split
      · rename_i h
        have e := (cmpV_zero v x).1 h
        subst e
        simp
      · simp only [List.mem_cons, ih]
        constructor
        · rintro (h | h | h)
          · exact .inr (.inl h)
          · exact .inl h
          · exact .inr (.inr h)
        · rintro (h | h | h)
          · exact .inr (.inl h)
          · exact .inl h
          · exact .inr (.inr h)
theorem insV_asc (v : Vl) : ∀ l : List Vl, ascV l → ascV (insV v l)
  | [], _ => List.pairwise_singleton _ _
  | x :: l, h => by
    have k := List.pairwise_cons.1 h
    unfold insV
    split
    · rename_i hv
      refine List.pairwise_cons.2 ⟨fun q hq => ?_, h⟩
      rcases List.mem_cons.1 hq with rfl | hq
      · exact hv
      · exact cmpV_lt_trans hv (k.1 q hq)
    · split
      · exact h
      · rename_i h1 h2
        refine List.pairwise_cons.2 ⟨fun q hq => ?_, insV_asc v l k.2⟩
        rcases (insV_mem q v l).1 hq with rfl | hq
        · have := cmpV_anti x q; omega
        · exact k.1 q hq
/-- the values of a list, ascending, each once -/
def sortV (l : List Vl) : List Vl := l.foldr insV []
theorem sortV_spec : ∀ l : List Vl, ascV (sortV l) ∧ ∀ v, v ∈ sortV l ↔ v ∈ l
  | [] => ⟨List.Pairwise.nil, fun v => by simp [sortV]⟩
  | x :: l => by
    obtain ⟨h1, h2⟩ := sortV_spec l
    refine ⟨insV_asc x _ h1, fun v => ?_⟩
    show v ∈ insV x (sortV l) ↔ _
    rw [insV_mem, h2, List.mem_cons]
/-- strictly ascending lists of values with the same members are equal -/
theorem ascV_ext : ∀ (a b : List Vl), ascV a → ascV b → (∀ v, v ∈ a ↔ v ∈ b) → a = b
  | [], [], _, _, _ => rfl
  | [], y :: b, _, _, h => absurd ((h y).2 (by simp)) (by simp)
  | x :: a, [], _, _, h => absurd ((h x).1 (by simp)) (by simp)
  | x :: a, y :: b, h1, h2, h => by
    have k1 := List.pairwise_cons.1 h1
    have k2 := List.pairwise_cons.1 h2
    have hxy : x = y := by
      rcases List.mem_cons.1 ((h x).1 (by simp)) with e | e
      · exact e
      · rcases List.mem_cons.1 ((h y).2 (by simp)) with e' | e'
        · exact e'.symm
        · have a1 := k2.1 x e
          have a2 := k1.1 y e'
          have a3 := cmpV_anti x y
          omega
    subst hxy
    congr 1
    refine ascV_ext a b k1.2 k2.2 fun r => ?_
    have hr := h r
    have irr := cmpV_self x
    constructor
    · intro hra
      rcases List.mem_cons.1 (hr.1 (List.mem_cons_of_mem _ hra)) with e | e
      · have := k1.1 r hra
        rw [e] at this
        omega
      · exact e
    · intro hrb
      rcases List.mem_cons.1 (hr.2 (List.mem_cons_of_mem _ hrb)) with e | e
      · have := k2.1 r hrb
        rw [e] at this
        omega
      · exact e
/-- the points of some lists, ascending -/
def ptsAll (ls : List (List Iv)) : List Vl := sortV (ls.flatMap ptsL)
theorem ptsAll_spec (ls : List (List Iv)) : ascV (ptsAll ls) ∧ ∀ v, v ∈ ptsAll ls ↔ ∃ l ∈ ls, v ∈ ptsL l := by
  obtain ⟨h1, h2⟩ := sortV_spec (ls.flatMap ptsL)
  exact ⟨h1, fun v => by rw [ptsAll, h2, List.mem_flatMap]⟩
def valsOf (r : Rg) : List (List Iv) := r.parts.map (·.1)
def ptsOf (a b : Rg) : List Vl := ptsAll (valsOf a ++ valsOf b)
/-- the regions of a list that are not empty, each once, in the order in which they first appear -/
def uniq : List Rg → List Rg
  | [] => []
  | r :: l => if r.nix then uniq l else r :: (uniq l).filter (fun s => decide (s ≠ r))
theorem uniq_mem (s : Rg) : ∀ l : List Rg, s ∈ uniq l ↔ s ∈ l ∧ s.nix = false
  | [] => by simp [uniq]
  | r :: l => by
    have ih := uniq_mem s l
    unfold uniq
    split
    · rename_i h
      rw [ih, List.mem_cons]
      constructor
      · rintro ⟨h1, h2⟩; exact ⟨.inr h1, h2⟩
      · rintro ⟨rfl | h1, h2⟩
        · rw [h] at h2; cases h2
        · exact ⟨h1, h2⟩
    · rename_i h
      simp only [List.mem_cons, List.mem_filter, ih, decide_eq_true_eq]
      constructor
      · rintro (rfl | ⟨⟨h1, h2⟩, _⟩)
        · exact ⟨.inl rfl, by simpa using h⟩
        · exact ⟨.inr h1, h2⟩
      · rintro ⟨rfl | h1, h2⟩
        · exact .inl rfl
        · by_cases e : s = r
          · exact .inl e
          · exact .inr ⟨⟨h1, h2⟩, e⟩
theorem uniq_nodup : ∀ l : List Rg, (uniq l).Nodup
  | [] => List.nodup_nil
  | r :: l => by
    unfold uniq
    split
    · exact uniq_nodup l
    · refine List.nodup_cons.2 ⟨fun h => ?_, (uniq_nodup l).filter _⟩
      simp at h
theorem uniq_snoc (r : Rg) : ∀ l : List Rg, uniq (l ++ [r]) = if r.nix || decide (r ∈ uniq l) then uniq l else uniq l ++ [r]
  | [] => by
    simp only [List.nil_append, uniq]
    cases r.nix <;> simp
  | x :: l => by
    have ih := uniq_snoc r l
    rw [List.cons_append]
    unfold uniq
    by_cases hx : x.nix = true
    · rw [if_pos hx, if_pos hx]
      exact ih
    · rw [if_neg hx, if_neg hx, ih]
      by_cases hr : r.nix = true
      · simp [hr]
      · by_cases e : r = x
        · subst e
          by_cases hm : r ∈ uniq l
          · simp [hm]
          · simp [hr, hm, List.filter_append]
        · by_cases hm : r ∈ uniq l
          · simp [hr, hm, e]
          · simp [hr, hm, e, List.filter_append]
/-- the values at which a function has a result, as intervals between the points -/
def valsAt (ro : Vl → Rg) (P : List Vl) (r : Rg) : List Iv := ivsOf (chg (fun p => decide (ro p = r)) false P)
def partsAt (ro : Vl → Rg) (P : List Vl) : List (List Iv × Rg) := (uniq (P.map ro)).map fun r => (valsAt ro P r, r)
/-- THE CANONICAL FORM OF AN OPERATION, by width -/
def comb (op : Bool → Bool → Bool) : Nat → Rg → Rg → Rg
  | 0, a, b => .nil 0 (op a.f b.f)
  | n + 1, a, b => mkR ((n + 1 : Nat) : Int) false (partsAt (fun p => comb op n (a.at_ (n : Int) p) (b.at_ (n : Int) p)) (ptsOf a b))
theorem chg_first (g : Vl → Bool) : ∀ (P : List Vl) (x : Vl), P.find? g = some x → ∃ Q, chg g false P = x :: Q
  | [], x, h => by cases h
  | p :: P, x, h => by
    rw [List.find?_cons] at h
    cases hg : g p
    · rw [hg] at h
      obtain ⟨Q, hQ⟩ := chg_first g P x h
      exact ⟨Q, by rw [chg, if_pos hg, hQ]⟩
    · rw [hg] at h
      injection h with h
      subst h
      exact ⟨_, by rw [chg, if_neg (by rw [hg]; simp)]⟩
theorem lo_vals {ro : Vl → Rg} {P : List Vl} {r : Rg} {x : Vl} (h : P.find? (fun p => decide (ro p = r)) = some x) : valsAt ro P r ≠ [] ∧ lo (valsAt ro P r) = x := by
  obtain ⟨Q, hQ⟩ := chg_first _ P x h
  unfold valsAt
  rw [hQ]
  cases Q with
  | nil => exact ⟨by simp [ivsOf], rfl⟩
  | cons y Q => exact ⟨by simp [ivsOf], rfl⟩
theorem find_of_mem {ro : Vl → Rg} {P : List Vl} {r : Rg} (h : r ∈ uniq (P.map ro)) : ∃ x, P.find? (fun p => decide (ro p = r)) = some x := by
  obtain ⟨h1, _⟩ := (uniq_mem r _).1 h
  obtain ⟨p, hp, rfl⟩ := List.mem_map.1 h1
  have : (P.find? (fun q => decide (ro q = ro p))).isSome = true := List.find?_isSome.2 ⟨p, hp, by simp⟩
  exact Option.isSome_iff_exists.1 this
theorem uniq_order (ro : Vl → Rg) : ∀ P : List Vl, ascV P → (uniq (P.map ro)).Pairwise (fun r s => ∀ x y, P.find? (fun p => decide (ro p = r)) = some x → P.find? (fun p => decide (ro p = s)) = some y → cmpV x y < 0)
  | [], _ => List.Pairwise.nil
  | p :: P, h => by
    have k := List.pairwise_cons.1 h
    have ih := uniq_order ro P k.2
    rw [List.map_cons]
    unfold uniq
    have skip : ∀ s, ro p ≠ s → (p :: P).find? (fun q => decide (ro q = s)) = P.find? (fun q => decide (ro q = s)) := fun s hs => by
      rw [List.find?_cons, decide_eq_false hs]
    split
    · rename_i hn
      refine ih.imp_of_mem fun {r s} hr hs hrs x y hx hy => ?_
      have hr2 := ((uniq_mem r _).1 hr).2
      have hs2 := ((uniq_mem s _).1 hs).2
      rw [skip r (fun e => by rw [e, hr2] at hn; cases hn)] at hx
      rw [skip s (fun e => by rw [e, hs2] at hn; cases hn)] at hy
      exact hrs x y hx hy
    · refine List.pairwise_cons.2 ⟨fun s hs x y hx hy => ?_, ?_⟩
      · have hs' : s ≠ ro p := by simpa using (List.mem_filter.1 hs).2
        rw [List.find?_cons] at hx
        simp only [decide_true, Option.some.injEq] at hx
        subst hx
        rw [skip s (Ne.symm hs')] at hy
        exact k.1 y (List.mem_of_find?_eq_some hy)
      · refine (ih.filter _).imp_of_mem fun {r s} hr hs hrs x y hx hy => ?_
        have hr' : r ≠ ro p := by simpa using (List.mem_filter.1 hr).2
        have hs' : s ≠ ro p := by simpa using (List.mem_filter.1 hs).2
        rw [skip r (Ne.symm hr')] at hx
        rw [skip s (Ne.symm hs')] at hy
        exact hrs x y hx hy
theorem in_vals {ro : Vl → Rg} {P : List Vl} (h : ascV P) (r : Rg) (v : Vl) : inL (valsAt ro P r) v = match lastLe P v with | none => false | some u => decide (ro u = r) := by
  unfold valsAt
  rw [in_ivs v _ (chg_asc _ _ _ h)]
  have := chg_par (fun p => decide (ro p = r)) v P false h
  rw [Bool.false_xor] at this
  rw [this]
  cases lastLe P v <;> rfl
theorem ord_vals {ro : Vl → Rg} {P : List Vl} (h : ascV P) (hv : ∀ v ∈ P, validV v = true) (r : Rg) : ordFrom none (valsAt ro P r) = true :=
  ord_ivs _ _ (chg_asc _ _ _ h) (fun v hm => hv v ((chg_sub _ _ _).1 v hm)) (fun y h => by cases h)
theorem form_parts {n : Nat} {ro : Vl → Rg} {P : List Vl} (h : ascV P) (hv : ∀ v ∈ P, validV v = true) (hr : ∀ p ∈ P, Form n (ro p)) : Form (n + 1) (mkR ((n + 1 : Nat) : Int) false (partsAt ro P)) := by
  refine ⟨w_mk _ _ _, f_mk _ _ _, fun p hp => ?_, ?_⟩
  · rw [parts_mk] at hp
    obtain ⟨r, hm, rfl⟩ := List.mem_map.1 hp
    obtain ⟨x, hx⟩ := find_of_mem hm
    obtain ⟨h1, h2⟩ := (uniq_mem r _).1 hm
    obtain ⟨q, hq, rfl⟩ := List.mem_map.1 h1
    exact ⟨(lo_vals hx).1, ord_vals h hv _, hr q hq, h2⟩
  · rw [parts_mk]
    unfold partsAt
    rw [List.pairwise_map]
    have h1 := uniq_order ro P h
    have h2 := uniq_nodup (P.map ro)
    refine (h1.and h2).imp_of_mem fun {r s} hr hs ⟨k1, k2⟩ => ?_
    obtain ⟨x, hx⟩ := find_of_mem hr
    obtain ⟨y, hy⟩ := find_of_mem hs
    refine ⟨?_, fun v _ hin => ?_, k2⟩
    · show cmpV (lo (valsAt ro P r)) (lo (valsAt ro P s)) < 0
      rw [(lo_vals hx).2, (lo_vals hy).2]
      exact k1 x y hx hy
    · show inL (valsAt ro P s) v = false
      have hin' : inL (valsAt ro P r) v = true := hin
      rw [in_vals h] at hin' ⊢
      cases hl : lastLe P v with
      | none => rfl
      | some u =>
        rw [hl] at hin'
        simp only [decide_eq_true_eq] at hin'
        simp only [decide_eq_false_iff_not]
        rw [hin']
        exact k2
theorem at_parts {n : Nat} {ro : Vl → Rg} {P : List Vl} (h : ascV P) (hr : ∀ p ∈ P, Form n (ro p)) (v : Vl) : (mkR ((n + 1 : Nat) : Int) false (partsAt ro P)).at_ (n : Int) v = match lastLe P v with | none => .nil (n : Int) false | some u => ro u := by
  rcases at_spec (n : Int) v (mkR ((n + 1 : Nat) : Int) false (partsAt ro P)) with ⟨p, hp, h1, h2⟩ | ⟨h1, h2⟩
  · rw [parts_mk] at hp
    obtain ⟨r, hm, rfl⟩ := List.mem_map.1 hp
    rw [h2]
    have h1' : inL (valsAt ro P r) v = true := h1
    rw [in_vals h] at h1'
    cases hl : lastLe P v with
    | none => rw [hl] at h1'; cases h1'
    | some u =>
      rw [hl] at h1'
      simp only [decide_eq_true_eq] at h1'
      exact h1'.symm
  · rw [h1]
    cases hl : lastLe P v with
    | none => rfl
    | some u =>
      have hu := (lastLe_some h u hl).1
      cases hn : (ro u).nix
      · have := h2 (valsAt ro P (ro u), ro u) (by rw [parts_mk]; exact List.mem_map.2 ⟨ro u, (uniq_mem _ _).2 ⟨List.mem_map.2 ⟨u, hu, rfl⟩, hn⟩, rfl⟩)
        have h3 : inL (valsAt ro P (ro u)) v = false := this
        rw [in_vals h, hl] at h3
        simp at h3
      · exact (form_nil' n _ (hr u hu) hn).symm
theorem in_last {l : List Iv} {P : List Vl} (ho : ordFrom none l = true) (hP : ascV P) (hs : ∀ q ∈ ptsL l, q ∈ P) (v : Vl) : inL l v = match lastLe P v with | none => false | some u => inL l u := by
  obtain ⟨a1, a2, _, _⟩ := ord_pts l none ho
  have ia : ∀ v, inL l v = par (ptsL l) v := fun v => by rw [← in_ivs v _ a2, a1]
  rw [ia v, par_last hP hs v]
  cases lastLe P v with
  | none => rfl
  | some u => exact (ia u).symm
theorem at_last (n : Int) {P : List Vl} (hP : ascV P) (v : Vl) : ∀ r : Rg, (∀ p ∈ r.parts, ordFrom none p.1 = true ∧ ∀ q ∈ ptsL p.1, q ∈ P) → r.at_ n v = match lastLe P v with | none => .nil n false | some u => r.at_ n u
  | .nil _ _, _ => by cases lastLe P v <;> rfl
  | .cons vs r t, h => by
    have h1 := h (vs, r) List.mem_cons_self
    have ih := at_last n hP v t (fun p hp => h p (List.mem_cons_of_mem _ hp))
    simp only [Rg.at_]
    rw [in_last h1.1 hP h1.2 v, ih]
    cases lastLe P v with
    | none => rfl
    | some u => rfl
theorem pts_of {n : Nat} {a b : Rg} (ha : Form (n + 1) a) (hb : Form (n + 1) b) : ascV (ptsOf a b) ∧ (∀ v ∈ ptsOf a b, validV v = true) ∧ (∀ p ∈ a.parts, ordFrom none p.1 = true ∧ ∀ q ∈ ptsL p.1, q ∈ ptsOf a b) ∧ (∀ p ∈ b.parts, ordFrom none p.1 = true ∧ ∀ q ∈ ptsL p.1, q ∈ ptsOf a b) := by
  obtain ⟨h1, h2⟩ := ptsAll_spec (valsOf a ++ valsOf b)
  refine ⟨h1, fun v hv => ?_, fun p hp => ⟨(ha.2.2.1 p hp).2.1, fun q hq => (h2 q).2 ⟨p.1, List.mem_append.2 (.inl (List.mem_map.2 ⟨p, hp, rfl⟩)), hq⟩⟩, fun p hp => ⟨(hb.2.2.1 p hp).2.1, fun q hq => (h2 q).2 ⟨p.1, List.mem_append.2 (.inr (List.mem_map.2 ⟨p, hp, rfl⟩)), hq⟩⟩⟩
  obtain ⟨l, hl, hvl⟩ := (h2 v).1 hv
  rw [List.mem_append] at hl
  have : ordFrom none l = true := by
    rcases hl with hl | hl
    · obtain ⟨p, hp, rfl⟩ := List.mem_map.1 hl; exact (ha.2.2.1 p hp).2.1
    · obtain ⟨p, hp, rfl⟩ := List.mem_map.1 hl; exact (hb.2.2.1 p hp).2.1
  exact (ord_pts l none this).2.2.1 v hvl
theorem comb_form (op : Bool → Bool → Bool) : ∀ (n : Nat) (a b : Rg), Form n a → Form n b → Form n (comb op n a b)
  | 0, _, _, _, _ => ⟨rfl, rfl⟩
  | n + 1, a, b, ha, hb => by
    obtain ⟨h1, h2, _, _⟩ := pts_of ha hb
    exact form_parts h1 h2 fun p _ => comb_form op n _ _ (ha.at_ p) (hb.at_ p)
theorem comb_den (op : Bool → Bool → Bool) (hop : op false false = false) : ∀ (n : Nat) (a b : Rg), Form n a → Form n b → ∀ row, row.length = n → (comb op n a b).den row = op (a.den row) (b.den row)
  | 0, a, b, _, _, row, hr => by
    obtain rfl := List.eq_nil_of_length_eq_zero hr
    rw [den_nil, den_nil, den_nil]
    rfl
  | n + 1, a, b, ha, hb, row, hr => by
    obtain ⟨h1, _, h3, h4⟩ := pts_of ha hb
    cases row with
    | nil => cases hr
    | cons v row =>
      have hr' : row.length = n := by simpa using hr
      rw [den_cons (n : Int), den_cons (n : Int) v row a, den_cons (n : Int) v row b, comb, at_parts h1 (fun p _ => comb_form op n _ _ (ha.at_ p) (hb.at_ p)) v, at_last (n : Int) h1 v a h3, at_last (n : Int) h1 v b h4]
      cases lastLe (ptsOf a b) v with
      | none =>
        have : ∀ row : List Vl, (Rg.nil (n : Int) false).den row = false := fun row => by cases row <;> rfl
        simp only [this]
        exact hop.symm
      | some u => exact comb_den op hop n _ _ (ha.at_ u) (hb.at_ u) row hr'
end Go.Proofs.YtmnmckblmoalkaaGreat

/-
  More words for memory: append of a slice that reads as a list; slices under a change of some blocks. No program here.
-/
namespace Go.Proofs.YtmnmckblmoalkaaGreat
open Go.RowKit
set_option maxRecDepth 100000

theorem add_at (b o j : Nat) : (⟨b, o, none⟩ : Addr).add j = ⟨b, o + j, none⟩ := by unfold Addr.add; split <;> simp_all
theorem flat_get {α : Type} {sz : Nat} {cs : α → List Value} (hcs : ∀ x, (cs x).length = sz) (hsz : 0 < sz) (l : List α) (j : Nat) (u : Value) (h : (l.flatMap cs)[j]? = some u) : ∃ x, l[j / sz]? = some x ∧ (cs x)[j % sz]? = some u := by
  have hj : j < l.length * sz := by have := (List.getElem?_eq_some_iff.1 h).1; rwa [flat_len hcs] at this
  have hq : j / sz < l.length := (Nat.div_lt_iff_lt_mul hsz).2 hj
  have hr : j % sz < (cs l[j / sz]).length := by rw [hcs]; exact Nat.mod_lt _ hsz
  refine ⟨l[j / sz], List.getElem?_eq_getElem hq, ?_⟩
  have h1 := flat_at hcs l (j / sz) _ (j % sz) _ (List.getElem?_eq_getElem hq) (List.getElem?_eq_getElem hr)
  rw [Nat.mul_comm, Nat.div_add_mod] at h1
  rw [h] at h1
  rw [List.getElem?_eq_getElem hr]
  exact h1.symm
/-- append of a slice that reads as a list (nil, empty or not) onto a row of the call's own -/
theorem wpList_append_sl {α : Type} {cs : α → List Value} {P : Program} (w : World) {ops : Array Oper} {rest : List Oper} {o : Oper} {a : Act} {Q : Exit → Act → World → Prop} (hgd : o.guard = none) (s x : Operand) (t : TypeId)
    (ho : o.op = .call { callee := .builtin .append, args := #[s, x], argTypes := #[t, t] })
    (base : Nat) (e : TypeId) (i : TypeInfo) (z : Value) (size bytes : Nat) (ht : P.underlying t = some (.slice e)) (hi : P.info? e = some i) (hz : i.zero = some z)
    (hsize : i.size = size) (hby : i.bytes = bytes) (hzs : z.cells.size = size) (hsz : 0 < size)
    (v : Value) (n : Nat) (xs : List α) (hs : a.eval s = v) (hown : w.ownsRow base e size v n (xs.flatMap cs))
    (A : Option Addr) (m c : Nat) (l : List α) (hx : a.eval x = .slice A m c) (hl : Sl size cs w A m l) (hnil : A = none → m = 0 ∧ c = 0) (hsp : ∀ ad, A = some ad → ad.spot = none) (hcs : ∀ y, (cs y).length = size) (h1 : ∀ y, ∀ u ∈ cs y, u.oneCell' = true)
    (h63 : n + m ≤ maxLen) (hbytes : (n + m) * bytes ≤ 140737488355328) (hbase : base ≤ w.heap.size)
    (h : ∀ A' c' w', w'.ownsRow base e size (.slice A' (n + m) c') (n + m) ((xs ++ l).flatMap cs) → w.grownBy w' v.ownBlock → Below base w w' → ((Value.slice A' (n + m) c').ownBlock = v.ownBlock ∨ (Value.slice A' (n + m) c').ownBlock = some w.heap.size) → (A' = none → n + m = 0 ∧ c' = 0) →
      wpList P ops Q rest (a.put o.dst (.slice A' (n + m) c')) w') : wpList P ops Q (o :: rest) a w := by
  cases A with
  | none =>
    obtain ⟨rfl, rfl⟩ := hnil rfl
    have hnl : l = [] := List.eq_nil_of_length_eq_zero hl.len
    subst hnl
    refine wpList_append_own_none hgd s x t ho base e i size ht hi v n _ hs hown hx ?_
    rcases hown.2 with ⟨rfl, rfl⟩ | ⟨g, cap, cur, rfl, _, hh, r⟩
    · exact h none 0 w (by simpa using hown) (World.grownBy.refl w _) (Below.refl _ _) (.inl rfl) (fun _ => ⟨rfl, rfl⟩)
    · exact h (some ⟨g, 0, none⟩) cap w (by simpa using hown) (World.grownBy.refl w _) (Below.refl _ _) (.inl rfl) (fun h => by cases h)
  | some ad =>
    obtain ⟨b, off, sp⟩ := ad
    obtain rfl : sp = none := hsp _ rfl
    refine wpList_append_own_at w hgd s x t ho base e i z size bytes ht hi hz hsize hby hzs hsz v n _ hs hown ⟨b, off, none⟩ m c (l.flatMap cs) hx (by rw [flat_len hcs, hl.len]) (fun j u hu => ?_) (fun u hu => ?_) h63 hbytes hbase ?_
    · obtain ⟨y, hy, hyu⟩ := flat_get hcs hsz l j u hu
      have hm : 0 < m := by
        have h3 := (List.getElem?_eq_some_iff.1 hy).1
        rw [hl.len] at h3
        exact Nat.lt_of_le_of_lt (Nat.zero_le _) h3
      obtain ⟨b', o', hA, hc⟩ := hl.2 hm
      injection hA with hA
      injection hA with e1 e2
      subst e1 e2
      have h2 := hc _ y hy _ u hyu
      rw [add_at, ← h2, Nat.add_assoc, Nat.mul_comm, Nat.div_add_mod]
    · rw [List.mem_flatMap] at hu
      obtain ⟨y, _, hu⟩ := hu
      exact h1 y u hu
    · intro v' w' ho2 hg2 _ hat
      have hB := (Below.refl base w).grown hg2 hbase (own_base hown)
      rw [← List.flatMap_append] at ho2
      rcases ho2.2 with ⟨hv', hnm⟩ | ⟨g, cap, cur, hv', hb2, hh, hnc, hmx, r⟩
      · have : v' = .slice none (n + m) 0 := by rw [hv', hnm]
        rw [this] at ho2 hat ⊢
        exact h none 0 w' ho2 hg2 hB hat (fun _ => ⟨hnm, rfl⟩)
      · rw [hv'] at ho2 hat ⊢
        exact h (some ⟨g, 0, none⟩) cap w' ho2 hg2 hB hat (fun h => by cases h)
/-- the same; nothing is asked of the address of an empty slice -/
theorem wpList_append_sf {α : Type} {cs : α → List Value} {P : Program} (w : World) {ops : Array Oper} {rest : List Oper} {o : Oper} {a : Act} {Q : Exit → Act → World → Prop} (hgd : o.guard = none) (s x : Operand) (t : TypeId)
    (ho : o.op = .call { callee := .builtin .append, args := #[s, x], argTypes := #[t, t] })
    (base : Nat) (e : TypeId) (i : TypeInfo) (z : Value) (size bytes : Nat) (ht : P.underlying t = some (.slice e)) (hi : P.info? e = some i) (hz : i.zero = some z)
    (hsize : i.size = size) (hby : i.bytes = bytes) (hzs : z.cells.size = size) (hsz : 0 < size)
    (v : Value) (n : Nat) (xs : List α) (hs : a.eval s = v) (hown : w.ownsRow base e size v n (xs.flatMap cs))
    (A : Option Addr) (m c : Nat) (l : List α) (hx : a.eval x = .slice A m c) (hl : Sl size cs w A m l) (hnil : A = none → m = 0 ∧ c = 0) (hcs : ∀ y, (cs y).length = size) (h1 : ∀ y, ∀ u ∈ cs y, u.oneCell' = true)
    (h63 : n + m ≤ maxLen) (hbytes : (n + m) * bytes ≤ 140737488355328) (hbase : base ≤ w.heap.size)
    (h : ∀ A' c' w', w'.ownsRow base e size (.slice A' (n + m) c') (n + m) ((xs ++ l).flatMap cs) → w.grownBy w' v.ownBlock → Below base w w' → ((Value.slice A' (n + m) c').ownBlock = v.ownBlock ∨ (Value.slice A' (n + m) c').ownBlock = some w.heap.size) → (A' = none → n + m = 0 ∧ c' = 0) →
      wpList P ops Q rest (a.put o.dst (.slice A' (n + m) c')) w') : wpList P ops Q (o :: rest) a w := by
  cases A with
  | none =>
    obtain ⟨rfl, rfl⟩ := hnil rfl
    have hnl : l = [] := List.eq_nil_of_length_eq_zero hl.len
    subst hnl
    refine wpList_append_own_none hgd s x t ho base e i size ht hi v n _ hs hown hx ?_
    rcases hown.2 with ⟨rfl, rfl⟩ | ⟨g, cap, cur, rfl, _, hh, r⟩
    · exact h none 0 w (by simpa using hown) (World.grownBy.refl w _) (Below.refl _ _) (.inl rfl) (fun _ => ⟨rfl, rfl⟩)
    · exact h (some ⟨g, 0, none⟩) cap w (by simpa using hown) (World.grownBy.refl w _) (Below.refl _ _) (.inl rfl) (fun h => by cases h)
  | some ad =>
    refine wpList_append_own_at w hgd s x t ho base e i z size bytes ht hi hz hsize hby hzs hsz v n _ hs hown ad m c (l.flatMap cs) hx (by rw [flat_len hcs, hl.len]) (fun j u hu => ?_) (fun u hu => ?_) h63 hbytes hbase ?_
    · obtain ⟨y, hy, hyu⟩ := flat_get hcs hsz l j u hu
      have hm : 0 < m := by
        have h3 := (List.getElem?_eq_some_iff.1 hy).1
        rw [hl.len] at h3
        exact Nat.lt_of_le_of_lt (Nat.zero_le _) h3
      obtain ⟨b', o', hA, hc⟩ := hl.2 hm
      injection hA with hA
      subst hA
      have h2 := hc _ y hy _ u hyu
      rw [add_at, ← h2, Nat.add_assoc, Nat.mul_comm, Nat.div_add_mod]
    · rw [List.mem_flatMap] at hu
      obtain ⟨y, _, hu⟩ := hu
      exact h1 y u hu
    · intro v' w' ho2 hg2 _ hat
      have hB := (Below.refl base w).grown hg2 hbase (own_base hown)
      rw [← List.flatMap_append] at ho2
      rcases ho2.2 with ⟨hv', hnm⟩ | ⟨g, cap, cur, hv', hb2, hh, hnc, hmx, r⟩
      · have : v' = .slice none (n + m) 0 := by rw [hv', hnm]
        rw [this] at ho2 hat ⊢
        exact h none 0 w' ho2 hg2 hB hat (fun _ => ⟨hnm, rfl⟩)
      · rw [hv'] at ho2 hat ⊢
        exact h (some ⟨g, 0, none⟩) cap w' ho2 hg2 hB hat (fun h => by cases h)
theorem Sl.but {α : Type} {sz : Nat} {cs : α → List Value} {w w' : World} {A : Option Addr} {n : Nat} {l : List α} {S : Nat → Prop} (h : Sl sz cs w A n l) (hb : But S w w') (hs : 0 < n → ∀ b o, A = some ⟨b, o, none⟩ → ¬ S b) : Sl sz cs w' A n l := by
  refine ⟨h.1, fun hn => ?_⟩
  obtain ⟨b, o, e, hc⟩ := h.2 hn
  refine ⟨b, o, e, fun k x hx j u hu => ?_⟩
  have h1 := hc k x hx j u hu
  have hlt := cell_lt (w := w) (a := ⟨b, o + k * sz + j, none⟩) (by rw [h1]; rfl)
  rw [World.cell?_of_block (w := w) (hb.block b hlt (hs hn b o e))]
  exact h1
/-- append of one element that was built just before; what the append itself changes -/
theorem wpList_append_one2 {P : Program} {ops : Array Oper} {rest : List Oper} {o : Oper} {a : Act} {Q : Exit → Act → World → Prop} (hgd : o.guard = none) (s x : Operand) (t : TypeId)
    (ho : o.op = .call { callee := .builtin .append, args := #[s, x], argTypes := #[t, t] })
    (base : Nat) (e : TypeId) (i : TypeInfo) (z : Value) (size bytes : Nat) (ht : P.underlying t = some (.slice e)) (hi : P.info? e = some i) (hz : i.zero = some z)
    (hsize : i.size = size) (hby : i.bytes = bytes) (hzs : z.cells.size = size) (hsz : 0 < size)
    (v : Value) (n : Nat) (xs : List Value) (hs : a.eval s = v) (W : World) (cells : Array Value) (hown : W.ownsRow base e size v n xs) (H : Nat) (hH : W.heap.size = H)
    (hx : a.eval x = .slice (some ⟨H, 0, none⟩) 1 1) (hcl : cells.toList.length = 1 * size) (h1 : ∀ u ∈ cells.toList, u.oneCell' = true)
    (h63 : n + 1 ≤ maxLen) (hbytes : (n + 1) * bytes ≤ 140737488355328) (hbase : base ≤ W.heap.size)
    (h : ∀ g cap w', w'.ownsRow base e size (.slice (some ⟨g, 0, none⟩) (n + 1) cap) (n + 1) (xs ++ cells.toList) → (W.alloc (.cells cells e)).grownBy w' v.ownBlock → Below base W w' → (v.ownBlock = some g ∨ g = H + 1) → g < w'.heap.size →
      wpList P ops Q rest (a.put o.dst (.slice (some ⟨g, 0, none⟩) (n + 1) cap)) w') : wpList P ops Q (o :: rest) a (W.alloc (.cells cells e)) := by
  subst hH
  refine wpList_append_lies _ hgd s x t ho base e i z size bytes ht hi hz hsize hby hzs hsz v n xs hs (hown.alloc _) ⟨W.heap.size, 0, none⟩ 1 1 cells.toList hx hcl (World.news_of_block (heap_alloc_new W _)) h1 (by omega) h63 hbytes (by simp; omega) (W.heap.size + 1) (by simp) ?_
  intro g cap w' ho2 hg2 hat hlt
  exact h g cap w' ho2 hg2 ((Below.refl _ _).grown (grown_of_alloc hg2) hbase (own_base hown)) hat hlt
theorem But.of_grown {S : Nat → Prop} {w w' : World} {row : Option Nat} (hg : w.grownBy w' row) (hS : ∀ k, row = some k → S k) : But S w w' :=
  ⟨hg.os, hg.tape, hg.output, hg.size, fun k hk hs => hg.block k hk (fun e => hs (hS k e.symm))⟩
theorem Sl.take {α : Type} {sz : Nat} {cs : α → List Value} {w : World} {A : Option Addr} {n : Nat} {l : List α} (h : Sl sz cs w A n l) (m : Nat) (hm : m ≤ n) : Sl sz cs w A m (l.take m) := by
  have hl := h.1
  refine ⟨by simp; omega, fun h0 => ?_⟩
  obtain ⟨b, o, e, hc⟩ := h.2 (by omega)
  refine ⟨b, o, e, fun k x hx => hc k x ?_⟩
  rw [List.getElem?_take] at hx
  split at hx
  · exact hx
  · cases hx
end Go.Proofs.YtmnmckblmoalkaaGreat
