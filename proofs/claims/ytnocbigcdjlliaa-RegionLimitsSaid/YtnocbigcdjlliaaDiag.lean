/-
  Plain: the union of small boxes along a diagonal, for the law RegionLimits. No program here.
-/
import Derived.Test.YtnocbigcdjlliaaLaw4
namespace Go.Proofs.Ytnocbigcdjlliaa
open Go.RowKit
open Rg

def spD (j : Nat) : Iv := spI (3 * (j : Int)) (3 * (j : Int))
def b1D (j : Nat) : Rg := boxR [[spD j]]
def bxD (j : Nat) : Rg := boxR [[spD j], [spD j]]
def ptD (j : Nat) : List Iv × Rg := ([spD j], b1D j)
def diag (i : Nat) : Rg := mkR 2 false ((List.range i).map ptD)
theorem cmpB_empty (a : List UInt8) : ¬ cmpB a [] < 0 := by cases a <;> simp [cmpB]
theorem sp_in {j : Nat} {u : Vl} (h : inL [spD j] u = true) : u.i = 3 * (j : Int) := by
  obtain ⟨x, hx, h⟩ := inL_iff.1 h
  rw [List.mem_singleton] at hx
  subst hx
  obtain ⟨h1, h2⟩ := inI_iff.1 h
  obtain ⟨uk, ui, ut⟩ := u
  simp only [spD, spI, Bool.false_eq_true, false_or] at h1 h2
  unfold cmpV at h1 h2
  have he : (ByteArray.mk #[]).toList = [] := by rw [ByteArray.toList_eq]
  simp only [he] at h1 h2
  have hn := cmpB_empty ut.toList
  show ui = _
  generalize cmpB ut.toList [] = z at *
  generalize cmpB [] ut.toList = y at *
  repeat' (split at h1)
  all_goals (repeat' (split at h2))
  all_goals omega
theorem sp_valid (j : Nat) : validL [spD j] = true := by
  have he : (ByteArray.mk #[]).toList = [] := by rw [ByteArray.toList_eq]
  simp [validL, ordFrom, okI, spD, spI, validV, he, cmpV]
  omega
theorem b1_ok (j : Nat) : Form 1 (b1D j) ∧ (b1D j).fits = true := by
  have h := box_ok [[spD j]] (fun s hs => by rw [List.mem_singleton] at hs; subst hs; exact sp_valid j)
  exact ⟨h.1, h.2.1⟩
theorem b1_eq (j : Nat) : b1D j = .cons [spD j] (.nil 0 true) (.nil 1 false) := rfl
theorem bx_eq (j : Nat) : bxD j = .cons [spD j] (b1D j) (.nil 2 false) := rfl
theorem bx_ok (j : Nat) : boxErr [[spD j], [spD j]] = 0 ∧ boxRes [[spD j], [spD j]] = bxD j ∧ OkR (bxD j) := by
  have h : boxErr [[spD j], [spD j]] = 0 := by
    unfold boxErr
    rw [if_neg (by simp), if_pos]
    rw [List.all_eq_true]
    intro s hs
    simp only [List.mem_cons, List.not_mem_nil, or_false, or_self] at hs
    subst hs
    exact sp_valid j
  exact ⟨h, by rw [boxRes, if_pos h]; rfl, box_OkR h⟩
theorem diag_parts (i : Nat) : (diag i).parts = (List.range i).map ptD := parts_mk _ _ _
theorem diag_form (i : Nat) : Form 2 (diag i) := by
  refine ⟨w_mk _ _ _, f_mk _ _ _, fun p hp => ?_, ?_⟩
  · rw [diag_parts] at hp
    obtain ⟨j, _, rfl⟩ := List.mem_map.1 hp
    have h1 := sp_valid j
    unfold validL at h1
    rw [Bool.and_eq_true] at h1
    exact ⟨by simp [ptD], h1.2, (b1_ok j).1, rfl⟩
  · rw [diag_parts, List.pairwise_map]
    refine (List.pairwise_lt_range).imp fun {j k} hjk => ?_
    refine ⟨?_, fun v _ hin => ?_, fun h => ?_⟩
    · show cmpV (spD j).f (spD k).f < 0
      have h1 : (3 * (j : Int)) < 3 * (k : Int) := by omega
      have h2 : cmpV (spD j).f (spD k).f = -1 := by
        unfold cmpV
        have e1 : ¬ (spD j).f.k < (spD k).f.k := by show ¬ (4 : Int) < 4; omega
        have e2 : ¬ (spD k).f.k < (spD j).f.k := by show ¬ (4 : Int) < 4; omega
        have e3 : (spD j).f.i < (spD k).f.i := h1
        rw [if_neg e1, if_neg e2, if_pos e3]
      rw [h2]
      decide
    · cases h : inL [spD k] v
      · exact h
      · have h1 := sp_in hin
        have h2 := sp_in h
        omega
    · have h1 : b1D j = b1D k := h
      rw [b1_eq, b1_eq] at h1
      injection h1 with h1
      simp only [List.cons.injEq, and_true, spD, spI, Iv.mk.injEq, Vl.mk.injEq, true_and] at h1
      omega
theorem den_snoc (w : Int) (f : Bool) (q : List Iv × Rg) (u : Vl) (row : List Vl) : ∀ L : List (List Iv × Rg), (mkR w f (L ++ [q])).den (u :: row) = match L.find? (fun p => inL p.1 u) with | some p => p.2.den row | none => if inL q.1 u then q.2.den row else false
  | [] => by
    simp only [List.nil_append, mkR, den, List.find?_nil]
  | p :: L => by
    simp only [List.cons_append, mkR, den, List.find?_cons]
    cases h : inL p.1 u
    · simp only [Bool.false_eq_true, if_false]
      exact den_snoc w f q u row L
    · simp
theorem den_mk (w : Int) (f : Bool) (u : Vl) (row : List Vl) : ∀ L : List (List Iv × Rg), (mkR w f L).den (u :: row) = match L.find? (fun p => inL p.1 u) with | some p => p.2.den row | none => false
  | [] => by simp only [mkR, den, List.find?_nil]
  | p :: L => by
    simp only [mkR, den, List.find?_cons]
    cases h : inL p.1 u
    · simp only [Bool.false_eq_true, if_false]
      exact den_mk w f u row L
    · simp
theorem diag_step (i : Nat) : comb opUr 2 (diag i) (bxD i) = diag (i + 1) := by
  have hfb : Form 2 (bxD i) := (bx_ok i).2.2.2.2.2.1
  refine form_ext 2 _ _ (comb_form _ _ _ _ (diag_form i) hfb) (diag_form (i + 1)) fun row hr => ?_
  rw [comb_den opUr rfl 2 _ _ (diag_form i) hfb row hr.1]
  cases row with
  | nil => have := hr.1; simp at this
  | cons u row =>
    have hop : ∀ a b, opUr a b = (a || b) := fun a b => by cases a <;> cases b <;> rfl
    rw [hop]
    unfold diag
    rw [List.range_succ, List.map_append, List.map_cons, List.map_nil, den_snoc, den_mk]
    have hbx : (bxD i).den (u :: row) = if inL [spD i] u then (b1D i).den row else false := by rw [bx_eq]; simp only [den]
    rw [hbx]
    cases hf : ((List.range i).map ptD).find? (fun p => inL p.1 u) with
    | none =>
      simp only [Bool.false_or]
      rfl
    | some p =>
      obtain ⟨j, hj, rfl⟩ := List.mem_map.1 (List.mem_of_find?_eq_some hf)
      have h1 : inL [spD j] u = true := by have := List.find?_some hf; exact this
      have h2 : inL [spD i] u = false := by
        cases h : inL [spD i] u
        · rfl
        · have a := sp_in h1
          have b := sp_in h
          have := List.mem_range.1 hj
          omega
      simp [h2]
theorem diag_size (i : Nat) : (diag i).size = 2 * i := by
  rw [size_parts, diag_parts]
  induction i with
  | zero => rfl
  | succ i ih =>
    rw [List.range_succ, List.map_append, sizeL_append, ih, List.map_cons, List.map_nil, sizeL_cons]
    show 2 * i + (1 + (b1D i).size + 0) = _
    rw [b1_eq]
    simp only [Rg.size]
    omega
theorem diag_fits (i : Nat) : (diag i).fits = true := (fits_mk _ _ _).2 fun q hq => by
  obtain ⟨j, _, rfl⟩ := List.mem_map.1 hq
  exact ⟨by simp [ptD], (b1_ok j).2⟩
theorem diag_w (i : Nat) : (diag i).w = 2 := w_mk _ _ _
theorem diag_ok {i : Nat} (h : i ≤ 32) : OkR (diag i) := ⟨by rw [diag_w]; decide, by rw [diag_w]; decide, by rw [diag_size]; omega, by rw [diag_w]; exact diag_form i, diag_fits i⟩
theorem spD_wf {j : Nat} (h : j ≤ 40) : ∀ x ∈ [spD j], rgV x.f ∧ rgV x.t := sp_wf _ _ (by omega) (by omega)
theorem bx_wf {j : Nat} (h : j ≤ 40) : WfR (bxD j) := box_wf _ fun s hs => by
  simp only [List.mem_cons, List.not_mem_nil, or_false, or_self] at hs
  subst hs
  exact spD_wf h
theorem diag_wf {i : Nat} (h : i ≤ 40) : WfR (diag i) := WfR.of fun p hp => by
  obtain ⟨j, hj, rfl⟩ := List.mem_map.1 hp
  have := List.mem_range.1 hj
  exact ⟨spD_wf (by omega), box_wf _ fun s hs => by rw [List.mem_singleton] at hs; subst hs; exact spD_wf (by omega)⟩
theorem diag_op {i : Nat} (h : i ≤ 32) : opErr opUr (diag i) (bxD i) = (if i + 1 ≤ 32 then 0 else 2) ∧ opRes opUr (diag i) (bxD i) = (if i + 1 ≤ 32 then diag (i + 1) else zeroR) := by
  have hb := (bx_ok i).2.2
  have hw : (bxD i).w = 2 := rfl
  have he := op_err (op := opUr) (diag_ok h) hb (by rw [diag_w, hw])
  rw [diag_w] at he
  have ht : (2 : Int).toNat = 2 := rfl
  rw [ht, diag_step, diag_size, diag_fits] at he
  have he2 : opErr opUr (diag i) (bxD i) = (if i + 1 ≤ 32 then 0 else 2) := by
    rw [he]
    by_cases h2 : i + 1 ≤ 32
    · rw [if_pos h2, if_pos ⟨by omega, rfl⟩]
    · rw [if_neg h2, if_neg (fun h => by have := h.1; omega)]
  refine ⟨he2, ?_⟩
  unfold opRes
  rw [he2, diag_w, ht, diag_step]
  by_cases h2 : i + 1 ≤ 32
  · rw [if_pos h2, if_pos rfl, if_pos h2]
  · rw [if_neg h2, if_neg (by decide), if_neg h2]
end Go.Proofs.Ytnocbigcdjlliaa
