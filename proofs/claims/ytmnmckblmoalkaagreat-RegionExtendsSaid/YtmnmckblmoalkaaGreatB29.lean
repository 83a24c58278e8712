/-
  Texts: Ord, Alg.
-/
import Derived.Test.YtmnmckblmoalkaaGreatB26
set_option linter.unusedVariables false
/-
  Plain mathematics: the orders of values and of rows are total; the relation of rows is strictly ascending and has the rows' own members. No program here.
-/
namespace Go.Proofs.YtmnmckblmoalkaaGreat
open Go.RowKit
set_option maxRecDepth 100000

theorem cmpR_anti : ∀ a b : List Vl, cmpR b a = - cmpR a b
  | [], [] => by simp [cmpR]
  | [], _ :: _ => by simp [cmpR]
  | _ :: _, [] => by simp [cmpR]
  | x :: a, y :: b => by
    have ih := cmpR_anti a b
    have := cmpV_anti x y
    simp only [cmpR]
    repeat' split
    all_goals omega
theorem cmpR_zero : ∀ a b : List Vl, cmpR a b = 0 ↔ a = b
  | [], [] => by simp [cmpR]
  | [], _ :: _ => by simp [cmpR]
  | _ :: _, [] => by simp [cmpR]
  | x :: a, y :: b => by
    have ih := cmpR_zero a b
    have := cmpV_zero x y
    simp only [cmpR, List.cons.injEq]
    split
    · constructor
      · intro h; omega
      · rintro ⟨h, _⟩; exact absurd (this.2 h) (by omega)
    · rw [ih]
      constructor
      · intro h; exact ⟨this.1 (by omega), h⟩
      · intro h; exact h.2
theorem cmpR_trans : ∀ a b c : List Vl, cmpR a b ≤ 0 → cmpR b c ≤ 0 → cmpR a c ≤ 0
  | [], _, [], _, _ => by simp [cmpR]
  | [], _, _ :: _, _, _ => by simp [cmpR]
  | _ :: _, [], _, h, _ => by simp [cmpR] at h
  | _ :: _, _ :: _, [], _, h => by simp [cmpR] at h
  | x :: a, y :: b, z :: c, h1, h2 => by
    have ih := cmpR_trans a b c
    simp only [cmpR] at h1 h2 ⊢
    have t1 := @cmpV_trans x y z
    have t2 := @cmpV_lt_of_le x y z
    have t3 := @cmpV_lt_of_lt x y z
    repeat' split at h1
    all_goals (repeat' split at h2)
    all_goals (repeat' split)
    all_goals first | (exact ih h1 h2) | omega
theorem cmpR_lt_of_lt {a b c : List Vl} (h1 : cmpR a b < 0) (h2 : cmpR b c ≤ 0) : cmpR a c < 0 := by
  rcases Int.lt_or_le (cmpR a c) 0 with h | h
  · exact h
  · have e1 := cmpR_anti a c
    have e2 := cmpR_anti a b
    have := cmpR_trans b c a h2 (by omega)
    omega
/-- ascending, repetitions allowed -/
abbrev upR (l : List (List Vl)) : Prop := l.Pairwise (fun a b => cmpR a b ≤ 0)
/-- strictly ascending -/
abbrev ascR (l : List (List Vl)) : Prop := l.Pairwise (fun a b => cmpR a b < 0)
theorem mrgR_up : ∀ (a b : List (List Vl)), upR a → upR b → upR (mrgR a b)
  | [], b, _, h => by simpa [mrgR] using h
  | x :: a, [], h, _ => by simpa [mrgR] using h
  | x :: a, y :: b, h1, h2 => by
    rw [mrgR_cons]
    have k1 := List.pairwise_cons.1 h1
    have k2 := List.pairwise_cons.1 h2
    split
    · rename_i hc
      refine List.pairwise_cons.2 ⟨fun r hr => ?_, mrgR_up a (y :: b) k1.2 h2⟩
      rcases (mrgR_mem _ _ _).1 hr with h | h
      · exact k1.1 r h
      · rcases List.mem_cons.1 h with rfl | h
        · exact hc
        · exact cmpR_trans _ _ _ hc (k2.1 r h)
    · rename_i hc
      have hyx : cmpR y x ≤ 0 := by have := cmpR_anti x y; omega
      refine List.pairwise_cons.2 ⟨fun r hr => ?_, mrgR_up (x :: a) b h1 k2.2⟩
      rcases (mrgR_mem _ _ _).1 hr with h | h
      · rcases List.mem_cons.1 h with rfl | h
        · exact hyx
        · exact cmpR_trans _ _ _ hyx (k1.1 r h)
      · exact k2.1 r h
termination_by a b => a.length + b.length
theorem srtR_up (l : List (List Vl)) : upR (srtR l) := by
  induction h : l.length using Nat.strongRecOn generalizing l with
  | _ n ih =>
    subst h
    by_cases h2 : l.length < 2
    · rw [srtR_short h2]
      match l, h2 with
      | [], _ => exact List.Pairwise.nil
      | [x], _ => exact List.pairwise_singleton _ _
    · rw [srtR_long (by omega)]
      exact mrgR_up _ _ (ih _ (by simp; omega) _ rfl) (ih _ (by simp; omega) _ rfl)
theorem keepR_snoc (acc : List (List Vl)) (x r : List Vl) : keepR (acc ++ [x]) r = decide (cmpR x r ≠ 0) := by
  simp [keepR]
theorem dedup_asc : ∀ (l acc : List (List Vl)), ascR acc → upR l → (∀ x ∈ acc, ∀ y ∈ l, cmpR x y ≤ 0) → ascR (dedup acc l) ∧ ∀ r, r ∈ acc ∨ r ∈ l → r ∈ dedup acc l
  | [], acc, h, _, _ => ⟨h, fun r hr => hr.elim id (fun h => by cases h)⟩
  | y :: l, acc, h1, h2, h3 => by
    have k2 := List.pairwise_cons.1 h2
    unfold dedup
    by_cases hk : keepR acc y = true
    · rw [if_pos hk]
      have hlt : ∀ x ∈ acc, cmpR x y < 0 := by
        intro x hx
        have hne : acc ≠ [] := List.ne_nil_of_mem hx
        obtain ⟨acc', z, rfl⟩ : ∃ acc' z, acc = acc' ++ [z] := ⟨_, _, (List.dropLast_concat_getLast hne).symm⟩
        rw [keepR_snoc] at hk
        have hz := h3 z (by simp) y (by simp)
        have hzy : cmpR z y < 0 := by
          have := of_decide_eq_true hk
          omega
        rcases List.mem_append.1 hx with h | h
        · have := (List.pairwise_append.1 h1).2.2 x h z (by simp)
          exact cmpR_lt_of_lt this hz
        · have : x = z := by simpa using h
          rw [this]; exact hzy
      have hasc : ascR (acc ++ [y]) := List.pairwise_append.2 ⟨h1, List.pairwise_singleton _ _, fun a ha b hb => by
        have : b = y := by simpa using hb
        rw [this]; exact hlt a ha⟩
      have ih := dedup_asc l (acc ++ [y]) hasc k2.2 (fun x hx z hz => by
        rcases List.mem_append.1 hx with h | h
        · exact h3 x h z (List.mem_cons_of_mem _ hz)
        · have : x = y := by simpa using h
          rw [this]; exact k2.1 z hz)
      refine ⟨ih.1, fun r hr => ih.2 r ?_⟩
      rcases hr with h | h
      · exact .inl (List.mem_append_left _ h)
      · rcases List.mem_cons.1 h with rfl | h
        · exact .inl (by simp)
        · exact .inr h
    · rw [if_neg hk]
      have ih := dedup_asc l acc h1 k2.2 (fun x hx z hz => h3 x hx z (List.mem_cons_of_mem _ hz))
      refine ⟨ih.1, fun r hr => ih.2 r ?_⟩
      rcases hr with h | h
      · exact .inl h
      · rcases List.mem_cons.1 h with rfl | h
        · left
          by_cases hne : acc = []
          · subst hne; simp [keepR] at hk
          · obtain ⟨acc', z, rfl⟩ : ∃ acc' z, acc = acc' ++ [z] := ⟨_, _, (List.dropLast_concat_getLast hne).symm⟩
            rw [keepR_snoc] at hk
            have : cmpR z r = 0 := by simpa using hk
            rw [← (cmpR_zero z r).1 this]
            simp
        · exact .inr h
theorem setL_asc (l : List (List Vl)) : ascR (setL l) := (dedup_asc (srtR l) [] List.Pairwise.nil (srtR_up l) (fun x h => by cases h)).1
theorem setL_mem (l : List (List Vl)) (r : List Vl) : r ∈ setL l ↔ r ∈ l := by
  constructor
  · exact setL_sub l r
  · intro h
    exact (dedup_asc (srtR l) [] List.Pairwise.nil (srtR_up l) (fun x h => by cases h)).2 r (.inr ((srtR_mem l r).2 h))
end Go.Proofs.YtmnmckblmoalkaaGreat

/-
  Plain mathematics: a canonical list of intervals is a strictly ascending list of points; merge and the reference's Combine are the same operation. No program here.
-/
namespace Go.Proofs.YtmnmckblmoalkaaGreat
open Go.RowKit
set_option maxRecDepth 100000

theorem one_lt (a b : Vl) : cmpR [a] [b] = cmpV a b := by
  simp only [cmpR]
  split <;> omega
theorem ptsSet_spec (a b : List Iv) : ascV (ptsSet a b) ∧ ∀ v, v ∈ ptsSet a b ↔ v ∈ ptsL a ∨ v ∈ ptsL b := by
  obtain ⟨L, hL⟩ := setL_ones (ptsR [a, b])
  rw [ptsSet_eq hL]
  refine ⟨?_, fun v => ?_⟩
  · have := setL_asc ((ptsR [a, b]).map fun v => [v])
    rw [← hL] at this
    have h2 := List.pairwise_map.1 this
    exact h2.imp_of_mem (fun {x y} _ _ h => by rw [one_lt] at h; exact h)
  · have := setL_mem ((ptsR [a, b]).map fun v => [v]) [v]
    rw [← hL] at this
    simpa [ptsR] using this
theorem comb_spec (op : Bool → Bool → Bool) (hop : op false false = false) {a b : List Iv} (ha : ordFrom none a = true) (hb : ordFrom none b = true) :
    ordFrom none (combR op a b) = true ∧ ∀ v, inL (combR op a b) v = op (inL a v) (inL b v) := by
  obtain ⟨a1, a2, a3, _⟩ := ord_pts a none ha
  obtain ⟨b1, b2, b3, _⟩ := ord_pts b none hb
  obtain ⟨hP, hm⟩ := ptsSet_spec a b
  have ia : ∀ v, inL a v = par (ptsL a) v := fun v => by rw [← in_ivs v _ a2, a1]
  have ib : ∀ v, inL b v = par (ptsL b) v := fun v => by rw [← in_ivs v _ b2, b1]
  have e : combR op a b = ivsOf (chg (fun p => op (inL a p) (inL b p)) false (ptsSet a b)) := by
    rw [combR_eq, (cmb_eq _ _ hP).1 [] (fun y h => by cases h)]
    rfl
  rw [e]
  refine ⟨ord_ivs _ _ (chg_asc _ _ _ hP) (fun v hv => ?_) (fun y h => by cases h), fun v => ?_⟩
  · rcases (hm v).1 ((chg_sub _ _ _).1 v hv) with h | h
    · exact a3 v h
    · exact b3 v h
  · rw [in_ivs v _ (chg_asc _ _ _ hP)]
    have h := chg_par (fun p => op (inL a p) (inL b p)) v (ptsSet a b) false hP
    rw [ia v, ib v, par_last hP (fun q hq => (hm q).2 (.inl hq)) v, par_last hP (fun q hq => (hm q).2 (.inr hq)) v]
    have h' : par (chg (fun p => op (inL a p) (inL b p)) false (ptsSet a b)) v = (match lastLe (ptsSet a b) v with | none => false | some u => op (inL a u) (inL b u)) := by rw [Bool.false_xor] at h; exact h
    rw [h']
    cases lastLe (ptsSet a b) v with
    | none => exact hop.symm
    | some u => show op (inL a u) (inL b u) = _; rw [ia u, ib u]
/-- the program's merge and the reference's Combine agree on canonical lists -/
theorem comb_merge (op : Bool → Bool → Bool) (hop : op false false = false) {a b : List Iv} (ha : ordFrom none a = true) (hb : ordFrom none b = true) : combR op a b = mergeL op a b := by
  obtain ⟨c1, c2⟩ := comb_spec op hop ha hb
  obtain ⟨m1, _, m2⟩ := merge_spec op hop ha hb
  exact ord_ext c1 m1 fun v _ => by rw [c2, m2]
end Go.Proofs.YtmnmckblmoalkaaGreat
