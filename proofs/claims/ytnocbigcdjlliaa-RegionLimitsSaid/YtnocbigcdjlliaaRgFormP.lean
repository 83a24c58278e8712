/-
  Plain mathematics: the canonical form, as the program's formed looks at it, part by part. No program here.
-/
import Derived.Test.YtnocbigcdjlliaaRgMem
import Derived.Test.YtnocbigcdjlliaaCombine
namespace Go.Proofs.Ytnocbigcdjlliaa
open Go.RowKit
open Rg

/-- a part is as the canonical form asks -/
def PtOk (n : Nat) (p : List Iv × Rg) : Prop := p.1 ≠ [] ∧ validL p.1 = true ∧ p.2.nix = false ∧ Form n p.2 ∧ p.2.fits = true
/-- a part may stand before another -/
def RelP (p q : List Iv × Rg) : Prop := cmpV (lo p.1) (lo q.1) < 0 ∧ disj p.1 q.1 ∧ p.2 ≠ q.2
def FormF (n : Nat) (r : Rg) : Prop := Form n r ∧ r.fits = true
theorem fits_iff : ∀ r : Rg, r.fits = true ↔ ∀ p ∈ r.parts, p.1.length ≤ 64 ∧ p.2.fits = true
  | .nil _ _ => by simp [Rg.fits, parts]
  | .cons vs rest tail => by
    have ih := fits_iff tail
    simp only [Rg.fits, parts, Bool.and_eq_true, decide_eq_true_eq, List.mem_cons, forall_eq_or_imp, ih]
theorem formF_zero (r : Rg) : FormF 0 r ↔ r.w = 0 ∧ r.len = 0 := by
  unfold FormF Form
  rw [← len_parts]
  constructor
  · rintro ⟨⟨h1, h2⟩, _⟩; exact ⟨h1, by rw [h2]; rfl⟩
  · rintro ⟨h1, h2⟩
    have h2 := List.eq_nil_of_length_eq_zero h2
    exact ⟨⟨h1, h2⟩, (fits_iff r).2 (by rw [h2]; simp)⟩
theorem formF_succ (n : Nat) (r : Rg) : FormF (n + 1) r ↔ r.w = ((n + 1 : Nat) : Int) ∧ r.f = false ∧ (∀ p ∈ r.parts, PtOk n p) ∧ r.parts.Pairwise RelP := by
  unfold FormF
  rw [fits_iff]
  constructor
  · rintro ⟨⟨h1, h2, h3, h4⟩, h5⟩
    refine ⟨h1, h2, fun p hp => ?_, h4⟩
    obtain ⟨a1, a2, a3, a4⟩ := h3 p hp
    obtain ⟨b1, b2⟩ := h5 p hp
    exact ⟨a1, by simp [validL, b1, a2], a4, a3, b2⟩
  · rintro ⟨h1, h2, h3, h4⟩
    have h3' : ∀ p ∈ r.parts, p.1.length ≤ 64 ∧ ordFrom none p.1 = true := fun p hp => by
      have := (h3 p hp).2.1
      simpa [validL] using this
    exact ⟨⟨h1, h2, fun p hp => ⟨(h3 p hp).1, (h3' p hp).2, (h3 p hp).2.2.2.1, (h3 p hp).2.2.1⟩, h4⟩, fun p hp => ⟨(h3' p hp).1, (h3 p hp).2.2.2.2⟩⟩
theorem not_ptok {n : Nat} {r : Rg} {k : Nat} {p : List Iv × Rg} (hp : r.parts[k]? = some p) (h : ¬ PtOk n p) : ¬ FormF (n + 1) r := fun hf => h (((formF_succ n r).1 hf).2.2.1 p (List.mem_of_getElem? hp))
theorem rel_at {n : Nat} {r : Rg} {j k : Nat} {p q : List Iv × Rg} (hf : FormF (n + 1) r) (hjk : j < k) (hq : r.parts[j]? = some q) (hp : r.parts[k]? = some p) : RelP q p := by
  have h := ((formF_succ n r).1 hf).2.2.2
  rw [List.pairwise_iff_getElem] at h
  obtain ⟨h1, e1⟩ := List.getElem?_eq_some_iff.1 hq
  obtain ⟨h2, e2⟩ := List.getElem?_eq_some_iff.1 hp
  have := h j k h1 h2 hjk
  rw [e1, e2] at this
  exact this
/-- lists that meet nowhere -/
theorem meet_iff {a b : List Iv} (ha : validL a = true) (hb : validL b = true) : ((combineL opI a b).2 = 0 ∧ (combineL opI a b).1.length = 0) ↔ disj a b := by
  have ha' : ordFrom none a = true := by simp [validL] at ha; exact ha.2
  have hb' : ordFrom none b = true := by simp [validL] at hb; exact hb.2
  obtain ⟨m1, _, m3⟩ := merge_spec opI rfl ha' hb'
  have key : mergeL opI a b = [] ↔ disj a b := by
    constructor
    · intro h v _ hv
      have := m3 v
      rw [h, hv] at this
      simpa [inL, opI] using this.symm
    · intro h
      rcases hm : mergeL opI a b with _ | ⟨x, l⟩
      · rfl
      · obtain ⟨l1, l2⟩ := lo_in m1 (by rw [hm]; simp)
        have h3 := m3 (lo (mergeL opI a b))
        rw [l2] at h3
        have h4 : inL a (lo (mergeL opI a b)) = true ∧ inL b (lo (mergeL opI a b)) = true := by simpa [opI] using h3.symm
        rw [h _ l1 h4.1] at h4
        cases h4.2
  rw [← key]
  unfold combineL
  rw [ha, hb]
  simp only [Bool.and_self, if_true]
  split
  · simp
  · rename_i hl
    constructor
    · intro h; cases h.1
    · intro h; rw [h] at hl; simp at hl
/-- the parts up to k are good, and the next one goes with the one before it -/
def GoodTo (n : Nat) (L : List (List Iv × Rg)) : Prop := (∀ p ∈ L, PtOk n p) ∧ L.Pairwise RelP
theorem GoodTo.snoc {n : Nat} {L : List (List Iv × Rg)} {p : List Iv × Rg} (h : GoodTo n L) (hp : PtOk n p) (hr : ∀ q ∈ L, RelP q p) : GoodTo n (L ++ [p]) := by
  refine ⟨fun q hq => ?_, List.pairwise_append.2 ⟨h.2, List.pairwise_singleton _ _, fun q hq s hs => ?_⟩⟩
  · rcases List.mem_append.1 hq with hq | hq
    · exact h.1 q hq
    · have : q = p := by simpa using hq
      rw [this]; exact hp
  · have : s = p := by simpa using hs
    rw [this]; exact hr q hq
theorem lo_take {n : Nat} {l : List (List Iv × Rg)} {k : Nat} {p : List Iv × Rg} (h : GoodTo n (l.take (k + 1))) {q : List Iv × Rg} (hq : l[k]? = some q) (hlt : cmpV (lo q.1) (lo p.1) < 0) : ∀ s ∈ l.take (k + 1), cmpV (lo s.1) (lo p.1) < 0 := by
  rw [take_snoc' hq] at h ⊢
  intro s hs
  rcases List.mem_append.1 hs with hs | hs
  · exact cmpV_lt_trans ((List.pairwise_append.1 h.2).2.2 s hs q (by simp)).1 hlt
  · have : s = q := by simpa using hs
    rw [this]; exact hlt
end Go.Proofs.Ytnocbigcdjlliaa
