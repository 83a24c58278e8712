/-
  From 'only lays blocks and draws' to the words of the shelf's sort. No program here.
-/
import Derived.Test.YtnocbigcdjlliaaLay
import Derived.Shelf.GgSortFunc.InsertionK
namespace Go.Proofs.Ytnocbigcdjlliaa
open Go.RowKit Go.Sort Go.Shelf

theorem lay_of {W w' : World} (h : Lay W w') : ∃ q os', w' = grow (W.drewN q) os' := by
  refine ⟨w'.drawn - W.drawn, w'.heap.extract W.heap.size w'.heap.size, ?_⟩
  have hh : w'.heap = W.heap ++ w'.heap.extract W.heap.size w'.heap.size := by
    apply Array.ext_getElem?
    intro k
    rw [Array.getElem?_append]
    by_cases hk : k < W.heap.size
    · rw [if_pos hk]
      exact h.bel.block k hk
    · rw [if_neg hk, Array.getElem?_extract]
      have hs := h.bel.size
      split
      · congr 1; omega
      · rw [Array.getElem?_eq_none]; omega
  have h1 := h.bel.os
  have h2 := h.bel.tape
  have h3 := h.bel.output
  have h4 := h.dr
  obtain ⟨heap, tape, drawn, os, out⟩ := w'
  obtain ⟨heap0, tape0, drawn0, os0, out0⟩ := W
  simp only at h1 h2 h3 h4 hh
  subst h1 h2 h3
  simp only [grow, World.drewN, World.mk.injEq, true_and, and_true]
  refine ⟨hh, ?_⟩
  omega
end Go.Proofs.Ytnocbigcdjlliaa
