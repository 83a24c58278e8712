/-
  Texts: Sweep.
-/
import Derived.Test.YtmnmckblmoalkaaGreatB13
set_option linter.unusedVariables false
/-
  Plain: sweeping over the sorted events of two regions; which parts are current at a point. No program here.
-/
namespace Go.Proofs.YtmnmckblmoalkaaGreat
open Go.RowKit
set_option maxRecDepth 100000
open Rg

theorem mem_evI {s : Int} {i : Nat} {x : Iv} {e : Ev} : e ∈ evI s i x ↔ e = ⟨x.f, s, (i : Int), true⟩ ∨ (x.o = false ∧ e = ⟨x.t, s, (i : Int), false⟩) := by
  unfold evI
  cases x.o <;> simp
theorem mem_evR {s : Int} {e : Ev} : ∀ {L : List (List Iv × Rg)} {i : Nat}, e ∈ evR s i L ↔ ∃ (j : Nat) (p : List Iv × Rg) (x : Iv), L[j]? = some p ∧ x ∈ p.1 ∧ e ∈ evI s (i + j) x
  | [], i => by simp [evR]
  | q :: L, i => by
    rw [evR, List.mem_append, mem_evR (L := L) (i := i + 1)]
    constructor
    · rintro (h | ⟨j, p, x, h1, h2, h3⟩)
      · rw [evP, List.mem_flatMap] at h
        obtain ⟨x, h1, h2⟩ := h
        exact ⟨0, q, x, rfl, h1, h2⟩
      · exact ⟨j + 1, p, x, by simpa using h1, h2, by rw [show i + (j + 1) = i + 1 + j by omega]; exact h3⟩
    · rintro ⟨j, p, x, h1, h2, h3⟩
      cases j with
      | zero =>
        simp only [List.getElem?_cons_zero, Option.some.injEq] at h1
        subst h1
        exact .inl (by rw [evP, List.mem_flatMap]; exact ⟨x, h2, h3⟩)
      | succ j => exact .inr ⟨j, p, x, by simpa using h1, h2, by rw [show i + 1 + j = i + (j + 1) by omega]; exact h3⟩
theorem evR_side {s : Int} {e : Ev} {L : List (List Iv × Rg)} {i : Nat} (h : e ∈ evR s i L) : e.s = s := by
  obtain ⟨j, p, x, _, _, h3⟩ := mem_evR.1 h
  rcases mem_evI.1 h3 with rfl | ⟨_, rfl⟩ <;> rfl
theorem evs_side0 {a b : Rg} {e : Ev} (h : e.s = 0) : e ∈ evs a b ↔ e ∈ evR 0 0 a.parts := by
  unfold evs
  rw [List.mem_append]
  constructor
  · rintro (h1 | h1)
    · exact h1
    · have := evR_side h1; omega
  · exact .inl
theorem evs_side1 {a b : Rg} {e : Ev} (h : e.s = 1) : e ∈ evs a b ↔ e ∈ evR 1 0 b.parts := by
  unfold evs
  rw [List.mem_append]
  constructor
  · rintro (h1 | h1)
    · have := evR_side h1; omega
    · exact h1
  · exact .inr
/-- the part in which a side is, after some events -/
def curOf (s : Int) (es : List Ev) : Int := es.foldl (fun c e => if e.s = s then (if e.e then e.p else -1) else c) (-1)
theorem curOf_snoc (s : Int) (es : List Ev) (e : Ev) : curOf s (es ++ [e]) = if e.s = s then (if e.e then e.p else -1) else curOf s es := by simp [curOf]
theorem snoc_ind {α : Type} {P : List α → Prop} (h0 : P []) (h1 : ∀ l x, P l → P (l ++ [x])) (l : List α) : P l := by
  have : ∀ r : List α, P r.reverse := fun r => by
    induction r with
    | nil => exact h0
    | cons x r ih => rw [List.reverse_cons]; exact h1 _ _ ih
  have := this l.reverse
  rwa [List.reverse_reverse] at this
theorem curOf_last (s : Int) (es : List Ev) : (curOf s es = -1 ∧ ∀ e ∈ es, e.s ≠ s) ∨ ∃ pre e post, es = pre ++ e :: post ∧ e.s = s ∧ (∀ e' ∈ post, e'.s ≠ s) ∧ curOf s es = if e.e then e.p else -1 := by
  refine snoc_ind (P := fun es => (curOf s es = -1 ∧ ∀ e ∈ es, e.s ≠ s) ∨ ∃ pre e post, es = pre ++ e :: post ∧ e.s = s ∧ (∀ e' ∈ post, e'.s ≠ s) ∧ curOf s es = if e.e then e.p else -1) ?_ ?_ es
  · exact .inl ⟨rfl, fun e h => by cases h⟩
  · intro es e ih
    rw [curOf_snoc]
    by_cases he : e.s = s
    · exact .inr ⟨es, e, [], rfl, he, (fun e' h => by cases h), by rw [if_pos he]⟩
    · rw [if_neg he]
      rcases ih with ⟨h1, h2⟩ | ⟨pre, e1, post, h1, h2, h3, h4⟩
      · refine .inl ⟨h1, fun e' h => ?_⟩
        rcases List.mem_append.1 h with h | h
        · exact h2 e' h
        · rw [List.mem_singleton.1 h]; exact he
      · refine .inr ⟨pre, e1, post ++ [e], by rw [h1]; simp, h2, fun e' h => ?_, h4⟩
        rcases List.mem_append.1 h with h | h
        · exact h3 e' h
        · rw [List.mem_singleton.1 h]; exact he
/-- the first part that contains a value -/
def idxP : List (List Iv × Rg) → Vl → Int
  | [], _ => -1
  | p :: L, v => if inL p.1 v then 0 else if idxP L v < 0 then -1 else idxP L v + 1
theorem idx_spec (v : Vl) : ∀ L : List (List Iv × Rg), (idxP L v = -1 ∧ ∀ p ∈ L, inL p.1 v = false) ∨ ∃ (j : Nat) (p : List Iv × Rg), L[j]? = some p ∧ inL p.1 v = true ∧ idxP L v = (j : Int) ∧ ∀ i q, i < j → L[i]? = some q → inL q.1 v = false
  | [] => .inl ⟨rfl, fun p h => by cases h⟩
  | p :: L => by
    unfold idxP
    by_cases hp : inL p.1 v = true
    · exact .inr ⟨0, p, rfl, hp, by rw [if_pos hp]; rfl, fun i q hi => by omega⟩
    · rw [if_neg hp]
      have hp' : inL p.1 v = false := by simpa using hp
      rcases idx_spec v L with ⟨h1, h2⟩ | ⟨j, q, h1, h2, h3, h4⟩
      · rw [if_pos (by omega)]
        refine .inl ⟨rfl, fun q hq => ?_⟩
        rcases List.mem_cons.1 hq with rfl | hq
        · exact hp'
        · exact h2 q hq
      · rw [if_neg (by omega)]
        refine .inr ⟨j + 1, q, by simpa using h1, h2, by omega, fun i q' hi hq' => ?_⟩
        cases i with
        | zero => simp only [List.getElem?_cons_zero, Option.some.injEq] at hq'; subst hq'; exact hp'
        | succ i => exact h4 i q' (by omega) (by simpa using hq')
theorem idx_of {v : Vl} {L : List (List Iv × Rg)} (hd : L.Pairwise (fun p q => disj p.1 q.1)) (hv : validV v = true) {j : Nat} {p : List Iv × Rg} (hp : L[j]? = some p) (hin : inL p.1 v = true) : idxP L v = (j : Int) := by
  rcases idx_spec v L with ⟨_, h2⟩ | ⟨i, q, h1, h2, h3, h4⟩
  · rw [h2 p (List.mem_of_getElem? hp)] at hin; cases hin
  · rw [h3]
    rcases Nat.lt_trichotomy i j with h | h | h
    · have hij : j < L.length := (List.getElem?_eq_some_iff.1 hp).1
      have hii : i < L.length := by omega
      have := List.pairwise_iff_getElem.1 hd i j hii hij h v hv
      rw [(List.getElem?_eq_some_iff.1 h1).2, (List.getElem?_eq_some_iff.1 hp).2] at this
      rw [this h2] at hin; cases hin
    · rw [h]
    · rw [h4 j p h hp] at hin; cases hin
theorem ord_pair : ∀ (l : List Iv) (p : Option Iv), ordFrom p l = true → l.Pairwise (fun x y => x.o = false ∧ cmpV x.t y.f < 0)
  | [], _, _ => List.Pairwise.nil
  | x :: l, p, h => by
    rw [ordFrom_cons, Bool.and_eq_true] at h
    refine List.pairwise_cons.2 ⟨fun y hy => ?_, ord_pair l _ h.2⟩
    have hne : l.isEmpty = false := by cases l with | nil => cases hy | cons => rfl
    have h1 := h.1
    unfold okI at h1
    rw [hne] at h1
    refine ⟨?_, (ord_pts l (some x) h.2).2.2.2 x rfl y.f ?_⟩
    · cases ho : x.o
      · rfl
      · rw [ho] at h1; simp at h1
    · clear h h1 hne
      induction l with
      | nil => cases hy
      | cons z l ih =>
        unfold ptsL
        rcases List.mem_cons.1 hy with rfl | hy
        · split <;> simp
        · have := ih hy
          split <;> simp [this]
theorem ord_disj {l : List Iv} (h : ordFrom none l = true) {x y : Iv} (hx : x ∈ l) (hy : y ∈ l) {z : Vl} (h1 : inI x z = true) (h2 : inI y z = true) : x = y := by
  have hp := ord_pair l none h
  clear h
  unfold inI at h1 h2
  simp only [Bool.and_eq_true, Bool.or_eq_true, decide_eq_true_eq] at h1 h2
  induction l with
  | nil => cases hx
  | cons u l ih =>
    have k := List.pairwise_cons.1 hp
    have far : ∀ a b : Iv, (a.o = false ∧ cmpV a.t b.f < 0) → (a.o = true ∨ cmpV z a.t < 0) → cmpV b.f z ≤ 0 → False := fun a b ⟨ho, hlt⟩ h3 h4 => by
      rcases h3 with h3 | h3
      · rw [ho] at h3; cases h3
      · have := cmpV_lt_of_lt (cmpV_lt_trans h3 hlt) h4
        rw [cmpV_self] at this
        omega
    rcases List.mem_cons.1 hx with e1 | hx'
    · rcases List.mem_cons.1 hy with e2 | hy'
      · rw [e1, e2]
      · exact (far u y (k.1 y hy') (e1 ▸ h1.2) h2.1).elim
    · rcases List.mem_cons.1 hy with e2 | hy'
      · exact (far u x (k.1 x hx') (e2 ▸ h2.2) h1.1).elim
      · exact ih hx' hy' k.2
theorem good_lt {l : List Iv} (h : ordFrom none l = true) {x : Iv} (hx : x ∈ l) (ho : x.o = false) : cmpV x.f x.t < 0 := by
  have : ∀ (l : List Iv) (p : Option Iv), ordFrom p l = true → x ∈ l → cmpV x.f x.t < 0 := by
    intro l
    induction l with
    | nil => intro p _ hx; cases hx
    | cons u l ih =>
      intro p h hx
      rw [ordFrom_cons, Bool.and_eq_true] at h
      rcases List.mem_cons.1 hx with rfl | hx
      · have h1 := h.1
        unfold okI at h1
        rw [ho] at h1
        simp only [Bool.false_eq_true, if_false, Bool.and_eq_true, decide_eq_true_eq] at h1
        exact h1.2.2
      · exact ih _ h.2 hx
  exact this l none h hx
theorem inL_iff {l : List Iv} {v : Vl} : inL l v = true ↔ ∃ x ∈ l, inI x v = true := by unfold inL; exact List.any_eq_true
theorem inI_iff {x : Iv} {v : Vl} : inI x v = true ↔ cmpV x.f v ≤ 0 ∧ (x.o = true ∨ cmpV v x.t < 0) := by
  unfold inI
  simp only [Bool.and_eq_true, Bool.or_eq_true, decide_eq_true_eq]
theorem cmpE_le {a b : Ev} (h : ¬ cmpE b a < 0) : cmpV a.v b.v ≤ 0 ∧ (a.v = b.v → a.e = true → b.e = true) := by
  have ha := cmpV_anti a.v b.v
  unfold cmpE at h
  by_cases hz : cmpV b.v a.v = 0
  · rw [if_neg (by omega)] at h
    refine ⟨by omega, fun _ he => ?_⟩
    cases hb : b.e
    · rw [he, hb] at h; simp at h
    · rfl
  · rw [if_pos hz] at h
    refine ⟨by omega, fun e => ?_⟩
    rw [e, cmpV_self] at hz
    omega
/-- AT A POINT the current part of a side is the part that contains the point -/
theorem cur_idx {s : Int} {L : List (List Iv × Rg)} {es rest : List Ev} {p : Vl} (hup : EvUp (es ++ rest)) (hm : ∀ e : Ev, e.s = s → (e ∈ es ++ rest ↔ e ∈ evR s 0 L))
    (hle : ∀ e ∈ es, cmpV e.v p ≤ 0) (hgt : ∀ e ∈ rest, cmpV p e.v < 0) (hL : ∀ q ∈ L, ordFrom none q.1 = true) (hd : L.Pairwise (fun p q => disj p.1 q.1)) (hv : validV p = true) : curOf s es = idxP L p := by
  have hin : ∀ e : Ev, e.s = s → e ∈ evR s 0 L → cmpV e.v p ≤ 0 → e ∈ es := fun e hs he hp => by
    rcases List.mem_append.1 ((hm e hs).2 he) with h | h
    · exact h
    · have := hgt e h; have := cmpV_anti p e.v; omega
  rcases curOf_last s es with ⟨h1, h2⟩ | ⟨pre, e, post, h1, h2, h3, h4⟩
  · rw [h1]
    rcases idx_spec p L with ⟨k1, _⟩ | ⟨j, q, k1, k2, _, _⟩
    · exact k1.symm
    · obtain ⟨x, hx, hxi⟩ := inL_iff.1 k2
      have hx1 := (inI_iff.1 hxi).1
      exact absurd rfl (h2 ⟨x.f, s, ((0 + j : Nat) : Int), true⟩ (hin _ rfl (mem_evR.2 ⟨j, q, x, k1, hx, mem_evI.2 (.inl rfl)⟩) hx1))
  · rw [h4]
    have hees : e ∈ es := by rw [h1]; simp
    obtain ⟨j, q, x, k1, k2, k3⟩ := mem_evR.1 ((hm e h2).1 (List.mem_append_left _ hees))
    have hord := hL q (List.mem_of_getElem? k1)
    have hpe : ∀ e' : Ev, e' ∈ es → e'.s = s → e' ≠ e → ¬ cmpE e e' < 0 := fun e' he' hs' hne => by
      rw [h1] at he'
      rcases List.mem_append.1 he' with h | h
      · unfold EvUp at hup
        rw [h1, List.append_assoc] at hup
        exact (List.pairwise_append.1 hup).2.2 e' h e (by simp)
      · rcases List.mem_cons.1 h with h | h
        · exact absurd h hne
        · exact absurd hs' (h3 e' h)
    rcases mem_evI.1 k3 with rfl | ⟨ho, rfl⟩
    · simp only [if_true]
      have hf : cmpV x.f p ≤ 0 := hle _ hees
      have hi : inI x p = true := by
        refine inI_iff.2 ⟨hf, ?_⟩
        cases ho : x.o
        · right
          rcases Int.lt_or_le (cmpV p x.t) 0 with h | h
          · exact h
          · exfalso
            have hle' : cmpV x.t p ≤ 0 := by have := cmpV_anti p x.t; omega
            have hmem := hin ⟨x.t, s, ((0 + j : Nat) : Int), false⟩ rfl (mem_evR.2 ⟨j, q, x, k1, k2, mem_evI.2 (.inr ⟨ho, rfl⟩)⟩) hle'
            have := (cmpE_le (hpe _ hmem rfl (by simp))).1
            have h5 := good_lt hord k2 ho
            have h6 := cmpV_anti x.f x.t
            simp only at this
            omega
        · exact .inl rfl
      rw [idx_of hd hv k1 (inL_iff.2 ⟨x, k2, hi⟩)]
      simp
    · simp only [Bool.false_eq_true, if_false]
      have hf : cmpV x.t p ≤ 0 := hle _ hees
      rcases idx_spec p L with ⟨k4, _⟩ | ⟨i, q', k4, k5, _, _⟩
      · exact k4.symm
      · exfalso
        obtain ⟨y, hy, hyi⟩ := inL_iff.1 k5
        have hy1 := inI_iff.1 hyi
        have hordy := hL q' (List.mem_of_getElem? k4)
        have hmem := hin ⟨y.f, s, ((0 + i : Nat) : Int), true⟩ rfl (mem_evR.2 ⟨i, q', y, k4, hy, mem_evI.2 (.inl rfl)⟩) hy1.1
        have h5 := cmpE_le (hpe _ hmem rfl (by simp))
        simp only at h5
        have h6 : cmpV y.f x.t < 0 := by
          rcases Int.lt_or_le (cmpV y.f x.t) 0 with h | h
          · exact h
          · have e0 : y.f = x.t := (cmpV_zero _ _).1 (by omega)
            have := h5.2 e0 trivial
            cases this
        have h7 := good_lt hord k2 ho
        have hyt : ∀ z, cmpV z x.t < 0 → (y.o = true ∨ cmpV z y.t < 0) := fun z hz => by
          rcases hy1.2 with h | h
          · exact .inl h
          · exact .inr (cmpV_lt_trans (cmpV_lt_of_lt hz hf) h)
        have hz : ∃ z, validV z = true ∧ inI x z = true ∧ inI y z = true := by
          rcases Int.lt_or_le 0 (cmpV x.f y.f) with h | h
          · have h8 : cmpV y.f x.f ≤ 0 := by have := cmpV_anti x.f y.f; omega
            exact ⟨x.f, (ord_good _ _ hord x k2).1, inI_iff.2 ⟨by rw [cmpV_self]; omega, .inr h7⟩, inI_iff.2 ⟨h8, hyt _ h7⟩⟩
          · exact ⟨y.f, (ord_good _ _ hordy y hy).1, inI_iff.2 ⟨h, .inr h6⟩, inI_iff.2 ⟨by rw [cmpV_self]; omega, hyt _ h6⟩⟩
        obtain ⟨z, hzv, hzx, hzy⟩ := hz
        have e1 := idx_of hd hzv k1 (inL_iff.2 ⟨x, k2, hzx⟩)
        have e2 := idx_of hd hzv k4 (inL_iff.2 ⟨y, hy, hzy⟩)
        have hij : i = j := by omega
        subst hij
        rw [k1] at k4
        injection k4 with k4
        subst k4
        have hxy := ord_disj hord k2 hy hzx hzy
        subst hxy
        rcases hy1.2 with h | h
        · rw [ho] at h; cases h
        · have := cmpV_anti p x.t; omega
theorem rest_at {n : Nat} {r : Rg} (hw : r.w = ((n + 1 : Nat) : Int)) (v : Vl) : restR r (idxP r.parts v) = r.at_ (n : Int) v := by
  have key : ∀ r : Rg, ∀ w : Int, (match r.parts[(idxP r.parts v).toNat]? with | some p => p.2 | none => zeroR) = r.at_ (n : Int) v ∨ (idxP r.parts v < 0 ∧ r.at_ (n : Int) v = .nil (n : Int) false) := by
    intro r w
    induction r with
    | nil => right; exact ⟨by simp [parts, idxP], rfl⟩
    | cons vs rest tail _ ih =>
      simp only [parts, idxP, Rg.at_]
      by_cases hp : inL vs v = true
      · left; simp [hp]
      · rw [if_neg hp, if_neg hp]
        rcases Int.lt_or_le (idxP tail.parts v) 0 with h | h
        · rw [if_pos h]
          right
          refine ⟨by omega, ?_⟩
          rcases ih with ih | ih
          · rcases at_spec (n : Int) v tail with ⟨p, hp1, hp2, _⟩ | ⟨h1, _⟩
            · rcases idx_spec v tail.parts with ⟨_, h2⟩ | ⟨j, _, _, _, h3, _⟩
              · rw [h2 p hp1] at hp2; cases hp2
              · omega
            · exact h1
          · exact ih.2
        · rw [if_neg (by omega)]
          left
          rcases ih with ih | ih
          · rw [← ih]
            have : (idxP tail.parts v + 1).toNat = (idxP tail.parts v).toNat + 1 := by omega
            rw [this, List.getElem?_cons_succ]
          · omega
  unfold restR
  rcases Int.lt_or_le (idxP r.parts v) 0 with h | h
  · rw [if_pos h]
    rcases at_spec (n : Int) v r with ⟨p, hp1, hp2, _⟩ | ⟨h1, _⟩
    · rcases idx_spec v r.parts with ⟨_, h2⟩ | ⟨j, _, _, _, h3, _⟩
      · rw [h2 p hp1] at hp2; cases hp2
      · omega
    · rw [h1, hw]
      congr 1
      omega
  · rw [if_neg (by omega)]
    rcases key r 0 with h1 | h1
    · exact h1
    · omega
end Go.Proofs.YtmnmckblmoalkaaGreat
