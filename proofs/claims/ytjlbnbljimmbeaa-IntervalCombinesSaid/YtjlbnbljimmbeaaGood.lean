/-
  Plain mathematics: canonical lists with few points. No walk here.
-/
import Derived.Test.YtjlbnbljimmbeaaNextM
import Derived.Test.YtjlbnbljimmbeaaAlg
import Derived.Test.YtjlbnbljimmbeaaOne
namespace Go.Proofs.Ytjlbnbljimmbeaa
open Go.RowKit

/-- canonical, with at most m points -/
structure Good (l : List Iv) (m : Nat) : Prop where
  ord : ordFrom none l = true
  pts : (ptsL l).length ≤ m
theorem Good.len {l : List Iv} {m : Nat} (h : Good l m) : 2 * l.length ≤ m + 1 := by
  have h1 := (ord_pts l none h.ord).1
  have h2 := ivs_len (ptsL l)
  rw [h1] at h2
  have := h.pts
  omega
theorem Good.mono {l : List Iv} {m n : Nat} (h : Good l m) (hn : m ≤ n) : Good l n := ⟨h.ord, by have := h.pts; omega⟩
theorem Good.nil (m : Nat) : Good [] m := ⟨rfl, by simp [ptsL]⟩
theorem Good.valid {l : List Iv} {m : Nat} (h : Good l m) (hm : m ≤ 127) : validL l = true := by
  have := h.len
  unfold validL
  rw [h.ord, Bool.and_true, decide_eq_true_eq]
  omega
theorem Good.merge {op : Bool → Bool → Bool} {a b : List Iv} {m n : Nat} (ha : Good a m) (hb : Good b n) (hop : op false false = false) : Good (mergeL op a b) (m + n) := by
  obtain ⟨h1, h2, _⟩ := merge_spec op hop ha.ord hb.ord
  exact ⟨h1, by have := ha.pts; have := hb.pts; omega⟩
theorem Good.comb {op : Bool → Bool → Bool} {a b : List Iv} {m n : Nat} (ha : Good a m) (hb : Good b n) (hop : op false false = false) : Good (combR op a b) (m + n) := by
  rw [comb_merge op hop ha.ord hb.ord]
  exact ha.merge hb hop
theorem good_ivs {P : List Vl} (h : ascV P) (hv : ∀ v ∈ P, validV v = true) : Good (ivsOf P) P.length := ⟨ord_ivs P none h hv (fun y h => by cases h), by rw [pts_ivs]; exact Nat.le_refl _⟩
theorem good_from {v : Vl} (hv : validV v = true) : Good (fromL v).1 2 := by
  have e : (fromL v).1 = ivsOf [v] := by unfold fromL; rw [if_pos hv]; rfl
  rw [e]
  exact (good_ivs (List.pairwise_singleton _ _) (fun w hw => by
    have : w = v := by simpa using hw
    rw [this]; exact hv)).mono (by simp)
theorem good_between (a b : Vl) : Good (betweenL a b).1 2 := by
  unfold betweenL
  by_cases h : (validV a && validV b) = true
  · rw [if_pos h]
    rw [Bool.and_eq_true] at h
    by_cases hc : cmpV a b < 0
    · rw [if_pos hc]
      exact good_ivs (P := [a, b]) (List.pairwise_cons.2 ⟨fun w hw => by
        have : w = b := by simpa using hw
        rw [this]; exact hc, List.pairwise_singleton _ _⟩) (fun w hw => by
        rcases List.mem_cons.1 hw with rfl | hw
        · exact h.1
        · have : w = b := by simpa using hw
          rw [this]; exact h.2)
    · rw [if_neg hc]
      exact Good.nil 2
  · rw [if_neg h]
    exact Good.nil 2
theorem good_one {v : Vl} (hv : validV v = true) (hr : rngV v) : Good (oneL v).1 2 := by
  obtain ⟨h1, h2⟩ := nextV_good hv hr
  have e : (oneL v).1 = [⟨v, (nextV v).1, !(nextV v).2⟩] := by unfold oneL; rw [if_pos hv]
  rw [e]
  cases hb : (nextV v).2
  · rw [h2 hb]
    have := good_from hv
    unfold fromL at this
    rw [if_pos hv] at this
    exact this
  · obtain ⟨g1, g2, g3, _⟩ := h1 hb
    exact good_ivs (P := [v, (nextV v).1]) (List.pairwise_cons.2 ⟨fun w hw => by
        have : w = (nextV v).1 := by simpa using hw
        rw [this]; exact g3, List.pairwise_singleton _ _⟩) (fun w hw => by
        rcases List.mem_cons.1 hw with rfl | hw
        · exact hv
        · have : w = (nextV v).1 := by simpa using hw
          rw [this]; exact g1)
theorem good_all : Good allL 1 := ⟨by decide +kernel, by decide⟩
theorem opR_ff (k : Int) : opR k false false = false := by
  unfold opR
  repeat' split
  all_goals rfl
end Go.Proofs.Ytjlbnbljimmbeaa
