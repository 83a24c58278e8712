import Derived.Test.YtemllddgefahfaaSetR
namespace Go.Proofs.Ytemllddgefahfaa
open Go.RowKit

def mrgR : List (List Vl) → List (List Vl) → List (List Vl)
  | [], b => b
  | x :: a, [] => x :: a
  | x :: a, y :: b => if cmpR x y ≤ 0 then x :: mrgR a (y :: b) else y :: mrgR (x :: a) b
termination_by a b => a.length + b.length
theorem mrgR_cons (x : List Vl) (a : List (List Vl)) (y : List Vl) (b : List (List Vl)) : mrgR (x :: a) (y :: b) = if cmpR x y ≤ 0 then x :: mrgR a (y :: b) else y :: mrgR (x :: a) b := by rw [mrgR]
def srtR (l : List (List Vl)) : List (List Vl) :=
  if h : l.length < 2 then l else mrgR (srtR (l.take (l.length / 2))) (srtR (l.drop (l.length / 2)))
termination_by l.length
decreasing_by
  · simp; omega
  · simp; omega
theorem mergeP_map : ∀ (a b : List RowP), (mergeP a b).map (·.2) = mrgR (a.map (·.2)) (b.map (·.2))
  | [], b => by simp [mergeP, mrgR]
  | x :: a, [] => by simp [mergeP, mrgR]
  | x :: a, y :: b => by
    rw [mergeP_cons, List.map_cons, List.map_cons, mrgR_cons]
    split
    · rw [List.map_cons, mergeP_map a (y :: b)]; rfl
    · rw [List.map_cons, mergeP_map (x :: a) b]; rfl
termination_by a b => a.length + b.length
theorem sortP_map (ps : List RowP) : (sortP ps).map (·.2) = srtR (ps.map (·.2)) := by
  induction h : ps.length using Nat.strongRecOn generalizing ps with
  | _ n ih =>
    subst h
    by_cases h2 : ps.length < 2
    · rw [sortP_short h2, srtR]; simp [h2]
    · rw [sortP_long (by omega), mergeP_map, ih _ (by simp; omega) (ps.take (ps.length / 2)) rfl, ih _ (by simp; omega) (ps.drop (ps.length / 2)) rfl]
      conv => rhs; rw [srtR]
      simp [h2]
def setL (l : List (List Vl)) : List (List Vl) := dedup [] (srtR l)
theorem setR_eq (ps : List RowP) : setR ps = setL (ps.map (·.2)) := by unfold setR setL; rw [sortP_map]

theorem mrgR_mem : ∀ (a b : List (List Vl)) (r : List Vl), r ∈ mrgR a b ↔ r ∈ a ∨ r ∈ b
  | [], b, r => by simp [mrgR]
  | x :: a, [], r => by simp [mrgR]
  | x :: a, y :: b, r => by
    rw [mrgR_cons]
    split
    · rw [List.mem_cons, mrgR_mem a (y :: b) r]; simp only [List.mem_cons]; grind
    · rw [List.mem_cons, mrgR_mem (x :: a) b r]; simp only [List.mem_cons]; grind
termination_by a b => a.length + b.length
theorem srtR_short {l : List (List Vl)} (h : l.length < 2) : srtR l = l := by rw [srtR]; simp [h]
theorem srtR_long {l : List (List Vl)} (h : 2 ≤ l.length) : srtR l = mrgR (srtR (l.take (l.length / 2))) (srtR (l.drop (l.length / 2))) := by
  rw [srtR, dif_neg (by omega)]
theorem srtR_mem (l : List (List Vl)) (r : List Vl) : r ∈ srtR l ↔ r ∈ l := by
  induction h : l.length using Nat.strongRecOn generalizing l with
  | _ n ih =>
    subst h
    by_cases h2 : l.length < 2
    · rw [srtR_short h2]
    · rw [srtR_long (by omega), mrgR_mem, ih _ (by simp; omega) (l.take (l.length / 2)) rfl, ih _ (by simp; omega) (l.drop (l.length / 2)) rfl]
      rw [← List.mem_append, List.take_append_drop]
theorem dedup_sub : ∀ (l acc : List (List Vl)) (r : List Vl), r ∈ dedup acc l → r ∈ acc ∨ r ∈ l
  | [], acc, r, h => .inl h
  | x :: l, acc, r, h => by
    unfold dedup at h
    split at h
    · rcases dedup_sub l _ r h with h1 | h1
      · rw [List.mem_append, List.mem_singleton] at h1
        rcases h1 with h1 | rfl
        · exact .inl h1
        · exact .inr List.mem_cons_self
      · exact .inr (List.mem_cons_of_mem _ h1)
    · rcases dedup_sub l _ r h with h1 | h1
      · exact .inl h1
      · exact .inr (List.mem_cons_of_mem _ h1)
theorem mrgR_len : ∀ (a b : List (List Vl)), (mrgR a b).length = a.length + b.length
  | [], b => by simp [mrgR]
  | x :: a, [] => by simp [mrgR]
  | x :: a, y :: b => by
    rw [mrgR_cons]
    split
    · rw [List.length_cons, mrgR_len a (y :: b)]; simp; omega
    · rw [List.length_cons, mrgR_len (x :: a) b]; simp; omega
termination_by a b => a.length + b.length
theorem srtR_len (l : List (List Vl)) : (srtR l).length = l.length := by
  induction h : l.length using Nat.strongRecOn generalizing l with
  | _ n ih =>
    subst h
    by_cases h2 : l.length < 2
    · rw [srtR_short h2]
    · rw [srtR_long (by omega), mrgR_len, ih _ (by simp; omega) (l.take (l.length / 2)) rfl, ih _ (by simp; omega) (l.drop (l.length / 2)) rfl]
      simp; omega
theorem dedup_len : ∀ (l acc : List (List Vl)), (dedup acc l).length ≤ acc.length + l.length
  | [], acc => by simp [dedup]
  | x :: l, acc => by
    unfold dedup
    split
    · have := dedup_len l (acc ++ [x]); simp at this ⊢; omega
    · have := dedup_len l acc; simp at this ⊢; omega
theorem setL_len (l : List (List Vl)) : (setL l).length ≤ l.length := by
  have := dedup_len (srtR l) []
  rw [srtR_len] at this
  simpa [setL] using this
theorem setL_sub (l : List (List Vl)) (r : List Vl) (h : r ∈ setL l) : r ∈ l := by
  rcases dedup_sub _ _ r h with h1 | h1
  · simp at h1
  · exact (srtR_mem l r).1 h1
theorem setL_ones (c : List Vl) : ∃ L : List Vl, L.map (fun v => [v]) = setL (c.map fun v => [v]) := by
  refine ⟨(setL (c.map fun v => [v])).map (fun r => r.headD zeroV), ?_⟩
  rw [List.map_map]
  conv => rhs; rw [← List.map_id (setL (c.map fun v => [v]))]
  apply List.map_congr_left
  intro r hr
  have := setL_sub _ r hr
  rw [List.mem_map] at this
  obtain ⟨v, _, rfl⟩ := this
  rfl

end Go.Proofs.Ytemllddgefahfaa
