/-
  Texts: EvP, EncV, Enc, EncI, Sweep, Step, MapIs, ShelfQ, LayOf, SortE, Events, Flat, GroupM, Sm.
-/
import Derived.Test.YtponkkljlbifmaaGreatH7
import Derived.Lib.AppendStr
import Derived.Maps.OwnSet
import Derived.Maps.Views
import Derived.DeepKeys4
import Derived.Shelf.SlGeneric
import Derived.Shelf.SlSortCmp.WholeK
import Derived.Ground.SlsfProg
import Derived.Test.YtponkkljlbifmaaGreatProg
import Derived.Shelf.GgSortFunc.InsertionK
import Derived.Shelf.SlSortCmp.NoneTotal
set_option linter.unusedVariables false
/-
  Plain: the events of two regions. No program here.
-/
namespace Go.Proofs.YtponkkljlbifmaaGreat
open Go.RowKit
set_option maxRecDepth 100000
open Rg

def EvUp (qs : List Ev) : Prop := qs.Pairwise (fun a b => ¬ cmpE b a < 0)
/-- the events of an interval, of a part, of parts, of two regions -/
def evI (s : Int) (i : Nat) (x : Iv) : List Ev := ⟨x.f, s, (i : Int), true⟩ :: (if x.o then [] else [⟨x.t, s, (i : Int), false⟩])
def evP (s : Int) (i : Nat) (vs : List Iv) : List Ev := vs.flatMap (evI s i)
def evR (s : Int) : Nat → List (List Iv × Rg) → List Ev
  | _, [] => []
  | i, p :: l => evP s i p.1 ++ evR s (i + 1) l
def evs (a b : Rg) : List Ev := evR 0 0 a.parts ++ evR 1 0 b.parts
end Go.Proofs.YtponkkljlbifmaaGreat

/-
  The program's region function encodeValue.
-/
namespace Go.Proofs.YtponkkljlbifmaaGreat
open Go.RowKit
set_option maxRecDepth 100000
open Rg

/-- only rows of bytes have changed -/
structure TB (w w' : World) : Prop where
  size : w.heap.size ≤ w'.heap.size
  block : ∀ k, k < w.heap.size → (∀ cs fz, w.heap[k]? ≠ some (.cells cs 5 fz)) → w'.heap[k]? = w.heap[k]?
theorem TB.refl (w : World) : TB w w := ⟨Nat.le_refl _, fun _ _ _ => rfl⟩
theorem TB.trans {a b c : World} (h : TB a b) (k : TB b c) : TB a c :=
  ⟨Nat.le_trans h.size k.size, fun i hi hn => by
    have e := h.block i hi hn
    rw [← e]
    exact k.block i (Nat.lt_of_lt_of_le hi h.size) (fun cs fz => by rw [e]; exact hn cs fz)⟩
theorem TB.of_below {a b : World} (h : Below a.heap.size a b) : TB a b := ⟨h.size, fun k hk _ => h.block k hk⟩
theorem TB.alloc {a b : World} (h : TB a b) (o : Obj) : TB a (b.alloc o) := h.trans (TB.of_below ((Below.refl _ _).alloc (Nat.le_refl _) _))
theorem TB.grown {a b c : World} (h : TB a b) {base n : Nat} {v : Value} {xs : List Value} (ho : b.ownsRow base 5 1 v n xs) (hg : b.grownBy c v.ownBlock) : TB a c :=
  h.trans ⟨hg.size, fun k hk hn => hg.block k hk (fun e => by
    rcases ho.2 with ⟨rfl, _⟩ | ⟨g, cap, cur, rfl, _, hh, _⟩
    · simp [Value.ownBlock] at e
    · simp only [Value.ownBlock, Option.some.injEq] at e
      subst e
      exact hn _ _ hh)⟩
theorem Blk.tb {w w' : World} {b : Nat} {T : TypeId} {cs : Array Value} (h : Blk w b T cs) (hT : T ≠ 5) (hb : TB w w') : Blk w' b T cs :=
  (hb.block b h.lt (fun cs' fz e => by unfold Blk at h; rw [h] at e; injection e with e; injection e with _ e; exact hT e)).trans h

end Go.Proofs.YtponkkljlbifmaaGreat

/-
  The program's region function encode.
-/
namespace Go.Proofs.YtponkkljlbifmaaGreat
open Go.RowKit
set_option maxRecDepth 100000
open Rg

def okV (v : Vl) : Prop := (0 ≤ v.k ∧ v.k ≤ 255) ∧ v.t.size ≤ 64
def EncOk : Rg → Prop
  | .nil _ _ => True
  | .cons vs rest tail => vs.length ≤ 64 ∧ (∀ x ∈ vs, okV x.f ∧ okV x.t) ∧ EncOk rest ∧ EncOk tail
theorem EncOk.mem {p : List Iv × Rg} : ∀ {r : Rg}, EncOk r → p ∈ r.parts → p.1.length ≤ 64 ∧ (∀ x ∈ p.1, okV x.f ∧ okV x.t) ∧ EncOk p.2
  | .nil _ _, _, h => by cases h
  | .cons vs rest tail, ho, h => by
    rcases List.mem_cons.1 h with rfl | h
    · exact ⟨ho.1, ho.2.1, ho.2.2.1⟩
    · exact EncOk.mem ho.2.2.2 h
end Go.Proofs.YtponkkljlbifmaaGreat

/-
  Plain: the bytes of a canonical region tell it from every other canonical region of its width. No program here.
-/
namespace Go.Proofs.YtponkkljlbifmaaGreat
open Go.RowKit
set_option maxRecDepth 100000
open Rg

/-- a number of 64 bits -/
def rgV (v : Vl) : Prop := -9223372036854775808 ≤ v.i ∧ v.i < 9223372036854775808
def WfR : Rg → Prop
  | .nil _ _ => True
  | .cons vs rest tail => (∀ x ∈ vs, rgV x.f ∧ rgV x.t) ∧ WfR rest ∧ WfR tail
theorem WfR.mem {p : List Iv × Rg} : ∀ {r : Rg}, WfR r → p ∈ r.parts → (∀ x ∈ p.1, rgV x.f ∧ rgV x.t) ∧ WfR p.2
  | .nil _ _, _, h => by cases h
  | .cons vs rest tail, ho, h => by
    rcases List.mem_cons.1 h with rfl | h
    · exact ⟨ho.1, ho.2.1⟩
    · exact WfR.mem ho.2.2 h
theorem WfR.of {w : Int} {f : Bool} : ∀ {L : List (List Iv × Rg)}, (∀ p ∈ L, (∀ x ∈ p.1, rgV x.f ∧ rgV x.t) ∧ WfR p.2) → WfR (mkR w f L)
  | [], _ => trivial
  | p :: L, h => ⟨(h p List.mem_cons_self).1, (h p List.mem_cons_self).2, WfR.of fun q hq => h q (List.mem_cons_of_mem _ hq)⟩
theorem EncOk.of {w : Int} {f : Bool} : ∀ {L : List (List Iv × Rg)}, (∀ p ∈ L, p.1.length ≤ 64 ∧ (∀ x ∈ p.1, okV x.f ∧ okV x.t) ∧ EncOk p.2) → EncOk (mkR w f L)
  | [], _ => trivial
  | p :: L, h => ⟨(h p List.mem_cons_self).1, (h p List.mem_cons_self).2.1, (h p List.mem_cons_self).2.2, EncOk.of fun q hq => h q (List.mem_cons_of_mem _ hq)⟩
end Go.Proofs.YtponkkljlbifmaaGreat

/-
  Plain: sweeping over the sorted events of two regions; which parts are current at a point. No program here.
-/
namespace Go.Proofs.YtponkkljlbifmaaGreat
open Go.RowKit
set_option maxRecDepth 100000
open Rg

theorem mem_evI {s : Int} {i : Nat} {x : Iv} {e : Ev} : e ∈ evI s i x ↔ e = ⟨x.f, s, (i : Int), true⟩ ∨ (x.o = false ∧ e = ⟨x.t, s, (i : Int), false⟩) := by
  unfold evI
  cases x.o <;> simp
theorem mem_evR {s : Int} {e : Ev} : ∀ {L : List (List Iv × Rg)} {i : Nat}, e ∈ evR s i L ↔ ∃ (j : Nat) (p : List Iv × Rg) (x : Iv), L[j]? = some p ∧ x ∈ p.1 ∧ e ∈ evI s (i + j) x
  | [], i => by simp [evR]
  | q :: L, i => by
    rw [evR, List.mem_append, mem_evR (L := L) (i := i + 1)]
    constructor
    · rintro (h | ⟨j, p, x, h1, h2, h3⟩)
      · rw [evP, List.mem_flatMap] at h
        obtain ⟨x, h1, h2⟩ := h
        exact ⟨0, q, x, rfl, h1, h2⟩
      · exact ⟨j + 1, p, x, by simpa using h1, h2, by rw [show i + (j + 1) = i + 1 + j by omega]; exact h3⟩
    · rintro ⟨j, p, x, h1, h2, h3⟩
      cases j with
      | zero =>
        simp only [List.getElem?_cons_zero, Option.some.injEq] at h1
        subst h1
        exact .inl (by rw [evP, List.mem_flatMap]; exact ⟨x, h2, h3⟩)
      | succ j => exact .inr ⟨j, p, x, by simpa using h1, h2, by rw [show i + 1 + j = i + (j + 1) by omega]; exact h3⟩
/-- the first part that contains a value -/
def idxP : List (List Iv × Rg) → Vl → Int
  | [], _ => -1
  | p :: L, v => if inL p.1 v then 0 else if idxP L v < 0 then -1 else idxP L v + 1
theorem idx_spec (v : Vl) : ∀ L : List (List Iv × Rg), (idxP L v = -1 ∧ ∀ p ∈ L, inL p.1 v = false) ∨ ∃ (j : Nat) (p : List Iv × Rg), L[j]? = some p ∧ inL p.1 v = true ∧ idxP L v = (j : Int) ∧ ∀ i q, i < j → L[i]? = some q → inL q.1 v = false
  | [] => .inl ⟨rfl, fun p h => by cases h⟩
  | p :: L => by
    unfold idxP
    by_cases hp : inL p.1 v = true
    · exact .inr ⟨0, p, rfl, hp, by rw [if_pos hp]; rfl, fun i q hi => by omega⟩
    · rw [if_neg hp]
      have hp' : inL p.1 v = false := by simpa using hp
      rcases idx_spec v L with ⟨h1, h2⟩ | ⟨j, q, h1, h2, h3, h4⟩
      · rw [if_pos (by omega)]
        refine .inl ⟨rfl, fun q hq => ?_⟩
        rcases List.mem_cons.1 hq with rfl | hq
        · exact hp'
        · exact h2 q hq
      · rw [if_neg (by omega)]
        refine .inr ⟨j + 1, q, by simpa using h1, h2, by omega, fun i q' hi hq' => ?_⟩
        cases i with
        | zero => simp only [List.getElem?_cons_zero, Option.some.injEq] at hq'; subst hq'; exact hp'
        | succ i => exact h4 i q' (by omega) (by simpa using hq')
theorem cmpE_le {a b : Ev} (h : ¬ cmpE b a < 0) : cmpV a.v b.v ≤ 0 ∧ (a.v = b.v → a.e = true → b.e = true) := by
  have ha := cmpV_anti a.v b.v
  unfold cmpE at h
  by_cases hz : cmpV b.v a.v = 0
  · rw [if_neg (by omega)] at h
    refine ⟨by omega, fun _ he => ?_⟩
    cases hb : b.e
    · rw [he, hb] at h; simp at h
    · rfl
  · rw [if_pos hz] at h
    refine ⟨by omega, fun e => ?_⟩
    rw [e, cmpV_self] at hz
    omega
theorem rest_at {n : Nat} {r : Rg} (hw : r.w = ((n + 1 : Nat) : Int)) (v : Vl) : restR r (idxP r.parts v) = r.at_ (n : Int) v := by
  have key : ∀ r : Rg, ∀ w : Int, (match r.parts[(idxP r.parts v).toNat]? with | some p => p.2 | none => zeroR) = r.at_ (n : Int) v ∨ (idxP r.parts v < 0 ∧ r.at_ (n : Int) v = .nil (n : Int) false) := by
    intro r w
    induction r with
    | nil => right; exact ⟨by simp [parts, idxP], rfl⟩
    | cons vs rest tail _ ih =>
      simp only [parts, idxP, Rg.at_]
      by_cases hp : inL vs v = true
      · left; simp [hp]
      · rw [if_neg hp, if_neg hp]
        rcases Int.lt_or_le (idxP tail.parts v) 0 with h | h
        · rw [if_pos h]
          right
          refine ⟨by omega, ?_⟩
          rcases ih with ih | ih
          · rcases at_spec (n : Int) v tail with ⟨p, hp1, hp2, _⟩ | ⟨h1, _⟩
            · rcases idx_spec v tail.parts with ⟨_, h2⟩ | ⟨j, _, _, _, h3, _⟩
              · rw [h2 p hp1] at hp2; cases hp2
              · omega
            · exact h1
          · exact ih.2
        · rw [if_neg (by omega)]
          left
          rcases ih with ih | ih
          · rw [← ih]
            have : (idxP tail.parts v + 1).toNat = (idxP tail.parts v).toNat + 1 := by omega
            rw [this, List.getElem?_cons_succ]
          · omega
  unfold restR
  rcases Int.lt_or_le (idxP r.parts v) 0 with h | h
  · rw [if_pos h]
    rcases at_spec (n : Int) v r with ⟨p, hp1, hp2, _⟩ | ⟨h1, _⟩
    · rcases idx_spec v r.parts with ⟨_, h2⟩ | ⟨j, _, _, _, h3, _⟩
      · rw [h2 p hp1] at hp2; cases hp2
      · omega
    · rw [h1, hw]
      congr 1
      omega
  · rw [if_neg (by omega)]
    rcases key r 0 with h1 | h1
    · exact h1
    · omega
end Go.Proofs.YtponkkljlbifmaaGreat

/-
  Plain: one step of the sweep: from the parts up to some points to the parts up to the next point. No program here.
-/
namespace Go.Proofs.YtponkkljlbifmaaGreat
open Go.RowKit
set_option maxRecDepth 100000
open Rg

/-- K: the points all of whose events are among the first i -/
structure Swp (qs : List Ev) (i : Nat) (K : List Vl) : Prop where
  asc : ascV K
  mem : ∀ v, v ∈ K ↔ (∃ e ∈ qs.take i, e.v = v) ∧ ∀ e ∈ qs.drop i, e.v ≠ v
theorem Swp.zero (qs : List Ev) : Swp qs 0 [] := ⟨List.Pairwise.nil, fun v => by simp⟩
theorem EvUp.le {qs : List Ev} (h : EvUp qs) {i j : Nat} {x y : Ev} (hx : qs[i]? = some x) (hy : qs[j]? = some y) (hij : i ≤ j) : cmpV x.v y.v ≤ 0 := by
  rcases Nat.eq_or_lt_of_le hij with e | hlt
  · subst e
    rw [hx] at hy
    injection hy with hy
    rw [hy, cmpV_self]
    exact Int.le_refl _
  · have h1 := List.getElem?_eq_some_iff.1 hx
    have h2 := List.getElem?_eq_some_iff.1 hy
    have := List.pairwise_iff_getElem.1 h i j h1.1 h2.1 hlt
    rw [h1.2, h2.2] at this
    exact (cmpE_le this).1
theorem mem_take' {qs : List Ev} {i : Nat} {e : Ev} : e ∈ qs.take i ↔ ∃ j, j < i ∧ qs[j]? = some e := by
  rw [List.mem_iff_getElem?]
  constructor
  · rintro ⟨j, hj⟩
    rw [List.getElem?_take] at hj
    split at hj
    · exact ⟨j, ‹_›, hj⟩
    · cases hj
  · rintro ⟨j, hj, he⟩
    exact ⟨j, by rw [List.getElem?_take, if_pos hj]; exact he⟩
theorem mem_drop' {qs : List Ev} {i : Nat} {e : Ev} : e ∈ qs.drop i ↔ ∃ j, i ≤ j ∧ qs[j]? = some e := by
  rw [List.mem_iff_getElem?]
  constructor
  · rintro ⟨j, hj⟩
    rw [List.getElem?_drop] at hj
    exact ⟨i + j, by omega, hj⟩
  · rintro ⟨j, hj, he⟩
    exact ⟨j - i, by rw [List.getElem?_drop, show i + (j - i) = j by omega]; exact he⟩
theorem Swp.skip {qs : List Ev} {i : Nat} {K : List Vl} {x y : Ev} (h : Swp qs i K) (hx : qs[i]? = some x) (hy : qs[i + 1]? = some y) (e : y.v = x.v) : Swp qs (i + 1) K := by
  refine ⟨h.asc, fun v => ?_⟩
  rw [h.mem v]
  constructor
  · rintro ⟨⟨e1, h1, h2⟩, h3⟩
    obtain ⟨j, hj, hej⟩ := mem_take'.1 h1
    refine ⟨⟨e1, mem_take'.2 ⟨j, by omega, hej⟩, h2⟩, fun e2 he2 => ?_⟩
    obtain ⟨l, hl, hel⟩ := mem_drop'.1 he2
    exact h3 e2 (mem_drop'.2 ⟨l, by omega, hel⟩)
  · rintro ⟨⟨e1, h1, h2⟩, h3⟩
    have hvx : x.v ≠ v := by rw [← e]; exact h3 y (mem_drop'.2 ⟨i + 1, by omega, hy⟩)
    obtain ⟨j, hj, hej⟩ := mem_take'.1 h1
    refine ⟨⟨e1, mem_take'.2 ⟨j, ?_, hej⟩, h2⟩, fun e2 he2 => ?_⟩
    · rcases Nat.lt_or_ge j i with h4 | h4
      · exact h4
      · have : j = i := by omega
        subst this
        rw [hx] at hej
        injection hej with hej
        rw [← hej] at h2
        exact absurd h2 hvx
    · obtain ⟨l, hl, hel⟩ := mem_drop'.1 he2
      rcases Nat.eq_or_lt_of_le hl with e3 | h4
      · subst e3
        rw [hx] at hel
        injection hel with hel
        rw [← hel]; exact hvx
      · exact h3 e2 (mem_drop'.2 ⟨l, by omega, hel⟩)
theorem sweep_le {qs : List Ev} {i : Nat} {x : Ev} (hup : EvUp qs) (hx : qs[i]? = some x) : ∀ e ∈ qs.take (i + 1), cmpV e.v x.v ≤ 0 := fun e he => by
  obtain ⟨j, hj, hej⟩ := mem_take'.1 he
  exact hup.le hej hx (by omega)
theorem sweep_gt {qs : List Ev} {i : Nat} {x : Ev} (hup : EvUp qs) (hx : qs[i]? = some x) (hb : ∀ y, qs[i + 1]? = some y → y.v ≠ x.v) : ∀ e ∈ qs.drop (i + 1), cmpV x.v e.v < 0 := fun e he => by
  obtain ⟨j, hj, hej⟩ := mem_drop'.1 he
  have hlt : i + 1 < qs.length := by have := (List.getElem?_eq_some_iff.1 hej).1; omega
  have hy := List.getElem?_eq_getElem hlt
  have h1 := hup.le hx hy (by omega)
  have h2 := hup.le hy hej hj
  have h3 : cmpV x.v (qs[i + 1]).v ≠ 0 := fun h => hb _ hy ((cmpV_zero _ _).1 h).symm
  exact cmpV_lt_of_lt (by omega) h2
theorem Swp.take {qs : List Ev} {i : Nat} {K : List Vl} {x : Ev} (h : Swp qs i K) (hup : EvUp qs) (hx : qs[i]? = some x) (hb : ∀ y, qs[i + 1]? = some y → y.v ≠ x.v) : Swp qs (i + 1) (K ++ [x.v]) := by
  have hle := sweep_le hup hx
  have hgt := sweep_gt hup hx hb
  refine ⟨?_, fun v => ?_⟩
  · refine List.pairwise_append.2 ⟨h.asc, List.pairwise_singleton _ _, fun u hu z hz => ?_⟩
    rw [List.mem_singleton] at hz
    subst hz
    obtain ⟨⟨e, he, hev⟩, h2⟩ := (h.mem u).1 hu
    obtain ⟨j, hj, hej⟩ := mem_take'.1 he
    have h3 := hup.le hej hx (by omega)
    rw [hev] at h3
    have h4 : cmpV u x.v ≠ 0 := fun h0 => h2 x (mem_drop'.2 ⟨i, Nat.le_refl _, hx⟩) ((cmpV_zero _ _).1 h0).symm
    omega
  · rw [List.mem_append, List.mem_singleton, h.mem v]
    constructor
    · rintro (⟨⟨e1, h1, h2⟩, h3⟩ | rfl)
      · obtain ⟨j, hj, hej⟩ := mem_take'.1 h1
        refine ⟨⟨e1, mem_take'.2 ⟨j, by omega, hej⟩, h2⟩, fun e2 he2 => ?_⟩
        obtain ⟨l, hl, hel⟩ := mem_drop'.1 he2
        exact h3 e2 (mem_drop'.2 ⟨l, by omega, hel⟩)
      · refine ⟨⟨x, mem_take'.2 ⟨i, by omega, hx⟩, rfl⟩, fun e he heq => ?_⟩
        have := hgt e he
        rw [heq, cmpV_self] at this
        omega
    · rintro ⟨⟨e1, h1, h2⟩, h3⟩
      by_cases hv : v = x.v
      · exact .inr hv
      · left
        obtain ⟨j, hj, hej⟩ := mem_take'.1 h1
        refine ⟨⟨e1, mem_take'.2 ⟨j, ?_, hej⟩, h2⟩, fun e2 he2 => ?_⟩
        · rcases Nat.lt_or_ge j i with h4 | h4
          · exact h4
          · have : j = i := by omega
            subst this
            rw [hx] at hej
            injection hej with hej
            rw [← hej] at h2
            exact absurd h2.symm hv
        · obtain ⟨l, hl, hel⟩ := mem_drop'.1 he2
          rcases Nat.eq_or_lt_of_le hl with e3 | h4
          · subst e3
            rw [hx] at hel
            injection hel with hel
            rw [← hel]; exact fun h => hv h.symm
          · exact h3 e2 (mem_drop'.2 ⟨l, by omega, hel⟩)
theorem Swp.more {qs : List Ev} (hup : EvUp qs) : ∀ (m i : Nat) (K : List Vl), qs.length - i ≤ m → i ≤ qs.length → Swp qs i K → ∃ R, Swp qs qs.length (K ++ R)
  | m, i, K, hm, hi, h => by
    rcases Nat.eq_or_lt_of_le hi with e | hlt
    · exact ⟨[], by rw [List.append_nil, ← e]; exact h⟩
    · cases m with
      | zero => omega
      | succ m =>
        have hx := List.getElem?_eq_getElem hlt
        by_cases hb : ∃ y, qs[i + 1]? = some y ∧ y.v = (qs[i]).v
        · obtain ⟨y, hy, e⟩ := hb
          exact Swp.more hup m (i + 1) K (by omega) (by omega) (h.skip hx hy e)
        · obtain ⟨R, hR⟩ := Swp.more hup m (i + 1) (K ++ [(qs[i]).v]) (by omega) (by omega) (h.take hup hx (fun y hy e => hb ⟨y, hy, e⟩))
          exact ⟨(qs[i]).v :: R, by simpa using hR⟩
theorem mem_ptsL {v : Vl} : ∀ {l : List Iv}, v ∈ ptsL l ↔ ∃ x ∈ l, v = x.f ∨ (x.o = false ∧ v = x.t)
  | [] => by simp [ptsL]
  | x :: l => by
    have ih := mem_ptsL (v := v) (l := l)
    unfold ptsL
    cases ho : x.o <;> simp [ho, ih]
    constructor
    · rintro (h | h | h)
      · exact .inl (.inl h)
      · exact .inl (.inr h)
      · exact .inr h
    · rintro ((h | h) | h)
      · exact .inl h
      · exact .inr (.inl h)
      · exact .inr (.inr h)
theorem pts_evs (a b : Rg) (v : Vl) : v ∈ ptsOf a b ↔ ∃ e ∈ evs a b, e.v = v := by
  have side : ∀ (s : Int) (L : List (List Iv × Rg)), (∃ l ∈ L.map (·.1), v ∈ ptsL l) ↔ ∃ e ∈ evR s 0 L, e.v = v := fun s L => by
    constructor
    · rintro ⟨l, hl, hv⟩
      obtain ⟨p, hp, rfl⟩ := List.mem_map.1 hl
      obtain ⟨x, hx, h⟩ := mem_ptsL.1 hv
      obtain ⟨j, hj⟩ := List.mem_iff_getElem?.1 hp
      rcases h with rfl | ⟨ho, rfl⟩
      · exact ⟨_, mem_evR.2 ⟨j, p, x, hj, hx, mem_evI.2 (.inl rfl)⟩, rfl⟩
      · exact ⟨_, mem_evR.2 ⟨j, p, x, hj, hx, mem_evI.2 (.inr ⟨ho, rfl⟩)⟩, rfl⟩
    · rintro ⟨e, he, rfl⟩
      obtain ⟨j, p, x, h1, h2, h3⟩ := mem_evR.1 he
      refine ⟨p.1, List.mem_map.2 ⟨p, List.mem_of_getElem? h1, rfl⟩, mem_ptsL.2 ⟨x, h2, ?_⟩⟩
      rcases mem_evI.1 h3 with rfl | ⟨ho, rfl⟩
      · exact .inl rfl
      · exact .inr ⟨ho, rfl⟩
  rw [ptsOf, (ptsAll_spec _).2]
  unfold evs valsOf
  have h0 := side 0 a.parts
  have h1 := side 1 b.parts
  simp only [List.mem_append, or_and_right, exists_or]
  rw [h0, h1]
theorem Swp.fin {a b : Rg} {qs : List Ev} {K : List Vl} (hp : qs.Perm (evs a b)) (h : Swp qs qs.length K) : K = ptsOf a b := by
  refine ascV_ext _ _ h.asc (ptsAll_spec _).1 fun v => ?_
  rw [h.mem v, pts_evs]
  simp only [List.take_length, List.drop_length, List.not_mem_nil, false_implies, implies_true, and_true]
  constructor
  · rintro ⟨e, he, hv⟩; exact ⟨e, hp.mem_iff.1 he, hv⟩
  · rintro ⟨e, he, hv⟩; exact ⟨e, hp.mem_iff.2 he, hv⟩
theorem Swp.prefix_ {a b : Rg} {qs : List Ev} {i : Nat} {K : List Vl} (hp : qs.Perm (evs a b)) (hup : EvUp qs) (hi : i ≤ qs.length) (h : Swp qs i K) : ∃ R, ptsOf a b = K ++ R := by
  obtain ⟨R, hR⟩ := h.more hup _ _ _ (Nat.le_refl _) hi
  exact ⟨R, (hR.fin hp).symm⟩

/-- the state behind some points -/
def lastS (g : Vl → Bool) : Bool → List Vl → Bool
  | b, [] => b
  | _, q :: K => lastS g (g q) K
def lastR (ro : Vl → Rg) : Rg → List Vl → Rg
  | d, [] => d
  | _, q :: K => lastR ro (ro q) K
theorem lastR_snoc (ro : Vl → Rg) (p : Vl) : ∀ (K : List Vl) (d : Rg), lastR ro d (K ++ [p]) = ro p
  | [], _ => rfl
  | q :: K, _ => lastR_snoc ro p K (ro q)
theorem lastR_mem (ro : Vl → Rg) : ∀ (K : List Vl) (d : Rg), lastR ro d K = d ∨ lastR ro d K ∈ K.map ro
  | [], _ => .inl rfl
  | q :: K, _ => by
    rcases lastR_mem ro K (ro q) with h | h
    · right; rw [lastR, h]; simp
    · right; rw [lastR, List.map_cons]; exact List.mem_cons_of_mem _ h
theorem lastS_R (ro : Vl → Rg) (s : Rg) : ∀ (K : List Vl) (d : Rg), lastS (fun p => decide (ro p = s)) (decide (d = s)) K = decide (lastR ro d K = s)
  | [], _ => rfl
  | q :: K, _ => lastS_R ro s K (ro q)
theorem chg_snoc (g : Vl → Bool) (p : Vl) : ∀ (K : List Vl) (b : Bool), chg g b (K ++ [p]) = chg g b K ++ (if g p = lastS g b K then [] else [p])
  | [], b => by simp only [List.nil_append, chg, lastS]; split <;> simp_all
  | q :: K, b => by
    have ih := chg_snoc g p K
    simp only [List.cons_append, chg, lastS]
    split
    · rename_i h
      rw [← h]; exact ih _
    · rw [ih]; rfl
theorem chg_parity (g : Vl → Bool) : ∀ (K : List Vl) (b : Bool), ((chg g b K).length % 2 = 1) ↔ lastS g b K ≠ b
  | [], b => by simp [chg, lastS]
  | q :: K, b => by
    simp only [chg, lastS]
    split
    · rename_i h; rw [← h]; exact chg_parity g K (g q)
    · rename_i h
      have ih := chg_parity g K (g q)
      rw [List.length_cons]
      have : ((chg g (g q) K).length + 1) % 2 = 1 ↔ ¬ (chg g (g q) K).length % 2 = 1 := by omega
      rw [this, ih]
      cases hb : b <;> cases hq : g q <;> cases hl : lastS g (g q) K <;> simp_all
theorem ivs_even (p : Vl) : ∀ P : List Vl, P.length % 2 = 0 → ivsOf (P ++ [p]) = ivsOf P ++ [⟨p, zeroV, true⟩]
  | [], _ => rfl
  | [x], h => by simp at h
  | x :: y :: P, h => by
    simp only [List.cons_append, ivsOf]
    rw [ivs_even p P (by simp at h; omega)]
theorem ivs_ne : ∀ P : List Vl, P ≠ [] → ivsOf P ≠ []
  | [], h => absurd rfl h
  | [x], _ => by simp [ivsOf]
  | x :: y :: P, _ => by simp [ivsOf]
theorem setLast_cons (x : Iv) {l : List Iv} (h : l ≠ []) (p : Vl) : setLast (x :: l) p = x :: setLast l p := by
  obtain ⟨y, l', rfl⟩ : ∃ y l', l = y :: l' := by cases l with | nil => exact absurd rfl h | cons y l' => exact ⟨y, l', rfl⟩
  unfold setLast
  rw [List.getLast?_cons_cons]
  cases hg : (y :: l').getLast? with
  | none => simp at hg
  | some z => simp
theorem ivs_odd (p : Vl) : ∀ P : List Vl, P.length % 2 = 1 → ivsOf (P ++ [p]) = setLast (ivsOf P) p
  | [], h => by simp at h
  | [x], _ => by simp [ivsOf, setLast]
  | x :: y :: P, h => by
    have hP : P ≠ [] := fun e => by subst e; simp at h
    simp only [List.cons_append, ivsOf]
    rw [ivs_odd p P (by simp at h; omega), setLast_cons _ (ivs_ne P hP)]
theorem vals_snoc {ro : Vl → Rg} {n : Nat} {K : List Vl} {p : Vl} {s : Rg} (hs : s.nix = false) : valsAt ro (K ++ [p]) s =
    if ro p = s then (if lastR ro (.nil (n : Int) false) K = s then valsAt ro K s else valsAt ro K s ++ [⟨p, zeroV, true⟩])
    else (if lastR ro (.nil (n : Int) false) K = s then setLast (valsAt ro K s) p else valsAt ro K s) := by
  have hd : decide (Rg.nil (n : Int) false = s) = false := decide_eq_false (fun e => by rw [← e] at hs; cases hs)
  have h1 := lastS_R ro s K (.nil (n : Int) false)
  rw [hd] at h1
  have h2 := chg_parity (fun p => decide (ro p = s)) K false
  rw [h1] at h2
  unfold valsAt
  rw [chg_snoc, h1]
  by_cases e1 : ro p = s <;> by_cases e2 : lastR ro (.nil (n : Int) false) K = s
  · simp [e1, e2]
  · simp only [e1, e2, decide_true, decide_false, if_true, if_false]
    rw [if_neg (by simp)]
    refine ivs_even p _ ?_
    simp only [e2, decide_false, ne_eq, not_true_eq_false, iff_false] at h2
    omega
  · simp only [e1, e2, decide_true, decide_false, if_true, if_false]
    rw [if_neg (by simp)]
    refine ivs_odd p _ ?_
    simp only [e2, decide_true, ne_eq, Bool.true_eq_false, not_false_eq_true, iff_true] at h2
    exact h2
  · simp [e1, e2]
theorem vals_new {ro : Vl → Rg} {s : Rg} : ∀ {K : List Vl}, (∀ q ∈ K, ro q ≠ s) → valsAt ro K s = []
  | [], _ => rfl
  | q :: K, h => by
    have ih := vals_new (K := K) (fun q hq => h q (List.mem_cons_of_mem _ hq))
    have : decide (ro q = s) = false := decide_eq_false (h q List.mem_cons_self)
    unfold valsAt at ih ⊢
    rw [chg, if_pos this]
    exact ih
/-- where a result stands among the results -/
def idxR : List Rg → Rg → Int
  | [], _ => -1
  | x :: l, r => if x = r then 0 else if idxR l r < 0 then -1 else idxR l r + 1
theorem idxR_spec (r : Rg) : ∀ U : List Rg, (idxR U r = -1 ∧ r ∉ U) ∨ ∃ j : Nat, U[j]? = some r ∧ idxR U r = (j : Int)
  | [] => .inl ⟨rfl, by simp⟩
  | x :: U => by
    unfold idxR
    by_cases h : x = r
    · exact .inr ⟨0, by simp [h], by rw [if_pos h]; rfl⟩
    · rw [if_neg h]
      rcases idxR_spec r U with ⟨h1, h2⟩ | ⟨j, h1, h2⟩
      · exact .inl ⟨by rw [if_pos (by omega)], by simp [Ne.symm h, h2]⟩
      · exact .inr ⟨j + 1, by simpa using h1, by rw [if_neg (by omega)]; omega⟩
def resU (ro : Vl → Rg) (K : List Vl) : List Rg := uniq (K.map ro)
theorem resU_snoc (ro : Vl → Rg) (K : List Vl) (p : Vl) : resU ro (K ++ [p]) = if (ro p).nix || decide (ro p ∈ resU ro K) then resU ro K else resU ro K ++ [ro p] := by
  unfold resU
  rw [List.map_append]
  exact uniq_snoc (ro p) (K.map ro)
theorem partsAt_U (ro : Vl → Rg) (K : List Vl) : partsAt ro K = (resU ro K).map fun r => (valsAt ro K r, r) := rfl
/-- the parts with room for a result -/
def roomP (L : List (List Iv × Rg)) (r : Rg) : List (List Iv × Rg) := if r.nix || decide (r ∈ L.map (·.2)) then L else L ++ [([], r)]
theorem partsAt_rests (ro : Vl → Rg) (K : List Vl) : (partsAt ro K).map (·.2) = resU ro K := by
  rw [partsAt_U, List.map_map]
  exact List.map_id' _
theorem lastR_in {ro : Vl → Rg} {n : Nat} {K : List Vl} (hf : ∀ q ∈ K, Form n (ro q)) : lastR ro (.nil (n : Int) false) K ∈ resU ro K ∨ lastR ro (.nil (n : Int) false) K = .nil (n : Int) false := by
  rcases lastR_mem ro K (.nil (n : Int) false) with h | h
  · exact .inr h
  · cases hn : (lastR ro (.nil (n : Int) false) K).nix
    · exact .inl ((uniq_mem _ _).2 ⟨h, hn⟩)
    · obtain ⟨q, hq, he⟩ := List.mem_map.1 h
      right
      refine form_nil' n _ ?_ hn
      rw [← he]; exact hf q hq
section
variable {ro : Vl → Rg} {n : Nat} {K : List Vl} {p : Vl}
/-- the index of the result at a point is that of the last one exactly if the results are the same -/
theorem now_open (hf : ∀ q ∈ K ++ [p], Form n (ro q)) : idxR (resU ro (K ++ [p])) (ro p) = idxR (resU ro K) (lastR ro (.nil (n : Int) false) K) ↔ ro p = lastR ro (.nil (n : Int) false) K := by
  have hfK : ∀ q ∈ K, Form n (ro q) := fun q hq => hf q (List.mem_append_left _ hq)
  have hfp : Form n (ro p) := hf p (by simp)
  have hnd : (resU ro (K ++ [p])).Nodup := uniq_nodup _
  have hndK : (resU ro K).Nodup := uniq_nodup _
  have hsn := resU_snoc ro K p
  have hnil : ∀ K, Rg.nil (n : Int) false ∉ resU ro K := fun K h => by have := ((uniq_mem _ _).1 h).2; cases this
  constructor
  · intro h
    rcases idxR_spec (ro p) (resU ro (K ++ [p])) with ⟨h1, h2⟩ | ⟨j, h1, h2⟩
    · have hn : (ro p).nix = true := by
        cases hn : (ro p).nix
        · exact absurd ((uniq_mem _ _).2 ⟨List.mem_map.2 ⟨p, by simp, rfl⟩, hn⟩) h2
        · rfl
      rw [form_nil' n _ hfp hn]
      rcases lastR_in hfK with h3 | h3
      · rcases idxR_spec (lastR ro (.nil (n : Int) false) K) (resU ro K) with ⟨_, h4⟩ | ⟨j, _, h4⟩
        · exact absurd h3 h4
        · omega
      · exact h3.symm
    · rcases idxR_spec (lastR ro (.nil (n : Int) false) K) (resU ro K) with ⟨h3, _⟩ | ⟨i, h3, h4⟩
      · omega
      · have hij : i = j := by omega
        subst hij
        have : (resU ro (K ++ [p]))[i]? = some (lastR ro (.nil (n : Int) false) K) := by
          rw [hsn]
          split
          · exact h3
          · rw [List.getElem?_append_left (List.getElem?_eq_some_iff.1 h3).1]; exact h3
        rw [h1] at this
        injection this
  · intro h
    rcases lastR_in hfK with h3 | h3
    · rw [h, hsn, if_pos (by rw [h]; simp [h3])]
    · rw [h, h3, hsn, if_pos (by rw [h, h3]; rfl)]
theorem room_at (K : List Vl) (p : Vl) : roomP (partsAt ro K) (ro p) = (resU ro (K ++ [p])).map fun r => (valsAt ro K r, r) := by
  unfold roomP
  rw [partsAt_rests, resU_snoc]
  split
  · rfl
  · rename_i h
    simp only [Bool.or_eq_true, decide_eq_true_eq, not_or] at h
    rw [List.map_append, ← partsAt_U, List.map_cons, List.map_nil]
    congr 2
    rw [vals_new]
    intro q hq e
    refine h.2 ((uniq_mem _ _).2 ⟨List.mem_map.2 ⟨q, hq, e⟩, by simpa using h.1⟩)
theorem step_same (hf : ∀ q ∈ K ++ [p], Form n (ro q)) (h : ro p = lastR ro (.nil (n : Int) false) K) : roomP (partsAt ro K) (ro p) = partsAt ro K ∧ partsAt ro (K ++ [p]) = partsAt ro K := by
  have hfK : ∀ q ∈ K, Form n (ro q) := fun q hq => hf q (List.mem_append_left _ hq)
  have hU : resU ro (K ++ [p]) = resU ro K := by
    rw [resU_snoc]
    rcases lastR_in hfK with h3 | h3
    · rw [if_pos (by rw [h]; simp [h3])]
    · rw [if_pos (by rw [h, h3]; rfl)]
  refine ⟨by rw [room_at, hU]; rfl, ?_⟩
  rw [partsAt_U, hU, partsAt_U]
  refine List.map_congr_left fun s hs => ?_
  have hn := ((uniq_mem _ _).1 hs).2
  rw [vals_snoc (n := n) hn, h]
  split
  · rfl
  · rfl
end
/-- within the limits -/
def within (r : Rg) : Prop := r.size ≤ 64 ∧ r.fits = true
theorem fits_mk (w : Int) (f : Bool) : ∀ L : List (List Iv × Rg), (mkR w f L).fits = true ↔ ∀ q ∈ L, q.1.length ≤ 64 ∧ q.2.fits = true
  | [] => by simp [mkR, Rg.fits]
  | q :: L => by
    have ih := fits_mk w f L
    simp only [mkR, Rg.fits, Bool.and_eq_true, decide_eq_true_eq, List.mem_cons, forall_eq_or_imp, ih]
theorem within_mk (w : Int) (f : Bool) (L : List (List Iv × Rg)) : within (mkR w f L) ↔ sizeL L ≤ 64 ∧ ∀ q ∈ L, q.1.length ≤ 64 ∧ q.2.fits = true := by
  unfold within
  rw [fits_mk, size_parts, parts_mk]
end Go.Proofs.YtponkkljlbifmaaGreat

/-
  A map of the call's own as a function of its keys: looking up and storing. No program of ours here.
-/
namespace Go.Proofs.YtponkkljlbifmaaGreat
open Go.RowKit Go.Maps
set_option maxRecDepth 100000

section
variable {κ : Type}
/-- block b is a map of at most n entries that holds M -/
def MapIs (w : World) (kT : TypeId) (kv : κ → Value) (b n : Nat) (M : κ → Option Int) : Prop :=
  ∃ D : DataW Unit, w.ownsMap Tryz.prog kT (plainElem Tryz.prog 3) b n D ∧ ∀ k kl, keyOf Tryz.prog kT (kv k) = some kl → Maps.has D kl = (M k).isSome ∧ ∀ c, M k = some c → D.atKey kl (.lit (.int .i64 0)) = .lit (.int .i64 c)
variable {w w' : World} {kT : TypeId} {kv : κ → Value} {b n : Nat} {M : κ → Option Int}
theorem MapIs.lt (h : MapIs w kT kv b n M) : b < w.heap.size := by obtain ⟨D, h1, _⟩ := h; exact h1.lt
theorem MapIs.block (h : MapIs w kT kv b n M) (hb : w'.heap[b]? = w.heap[b]?) : MapIs w' kT kv b n M := by
  obtain ⟨D, ⟨es, clock, h1, h2⟩, h3⟩ := h
  exact ⟨D, ⟨es, clock, hb.trans h1, h2⟩, h3⟩
theorem MapIs.below (h : MapIs w kT kv b n M) (hb : Below w.heap.size w w') : MapIs w' kT kv b n M := h.block (hb.block b h.lt)
theorem MapIs.but {S : Nat → Prop} (h : MapIs w kT kv b n M) (hb : But S w w') (hs : ¬ S b) : MapIs w' kT kv b n M := h.block (hb.block b h.lt hs)
theorem MapIs.mono (h : MapIs w kT kv b n M) {n' : Nat} (hn : n ≤ n') : MapIs w kT kv b n' M := by
  obtain ⟨D, h1, h2⟩ := h
  exact ⟨D, h1.mono hn, h2⟩
theorem MapIs.made (w : World) (kT : TypeId) (kv : κ → Value) : MapIs (w.alloc (.map #[] 0)) kT kv w.heap.size 0 (fun _ => none) :=
  ⟨.map [], World.ownsMap_made w _ _ _, fun k kl _ => ⟨rfl, fun c h => by cases h⟩⟩
end
end Go.Proofs.YtponkkljlbifmaaGreat

/-
  The shelf's laying of slices.SortFunc over events at this seat, in plain words, written by the kit's lay-plain.mjs. Turned into a template by name.
-/
namespace Go.Proofs
open Go.Shelf
end Go.Proofs

/-
  From 'only lays blocks and draws' to the words of the shelf's sort. No program here.
-/
namespace Go.Proofs.YtponkkljlbifmaaGreat
open Go.RowKit Go.Sort Go.Shelf
set_option maxRecDepth 100000

theorem lay_of {W w' : World} (h : Lay W w') : ∃ q os', w' = grow (W.drewN q) os' := by
  refine ⟨w'.drawn - W.drawn, w'.heap.extract W.heap.size w'.heap.size, ?_⟩
  have hh : w'.heap = W.heap ++ w'.heap.extract W.heap.size w'.heap.size := by
    apply Array.ext_getElem?
    intro k
    rw [Array.getElem?_append]
    by_cases hk : k < W.heap.size
    · rw [if_pos hk]
      exact h.bel.block k hk
    · rw [if_neg hk, Array.getElem?_extract]
      have hs := h.bel.size
      split
      · congr 1; omega
      · rw [Array.getElem?_eq_none]; omega
  have h1 := h.bel.os
  have h2 := h.bel.tape
  have h3 := h.bel.output
  have h4 := h.dr
  obtain ⟨heap, tape, drawn, os, out⟩ := w'
  obtain ⟨heap0, tape0, drawn0, os0, out0⟩ := W
  simp only at h1 h2 h3 h4 hh
  subst h1 h2 h3
  simp only [grow, World.drewN, World.mk.injEq, true_and, and_true]
  refine ⟨hh, ?_⟩
  omega
end Go.Proofs.YtponkkljlbifmaaGreat

/-
  slices.SortFunc over events, by the shelf's contract.
-/
namespace Go.Proofs.YtponkkljlbifmaaGreat
open Go.RowKit Go.Sort Go.Shelf
set_option maxRecDepth 100000

instance : Inhabited Ev := ⟨⟨zeroV, 0, 0, false⟩⟩
end Go.Proofs.YtponkkljlbifmaaGreat

/-
  The program's region function events: the list of events, sorted.
-/
namespace Go.Proofs.YtponkkljlbifmaaGreat
open Go.RowKit
set_option maxRecDepth 100000
open Rg

end Go.Proofs.YtponkkljlbifmaaGreat

/-
  Plain: one cell of a row of structs changed. No program here.
-/
namespace Go.Proofs.YtponkkljlbifmaaGreat
open Go.RowKit
set_option maxRecDepth 100000

theorem flat_set {α : Type} {sz : Nat} {cs : α → List Value} (hcs : ∀ x, (cs x).length = sz) {x' : α} {u : Value} {j : Nat} : ∀ (l : List α) (i : Nat) (x : α), l[i]? = some x → j < sz → cs x' = (cs x).set j u → (l.flatMap cs).set (i * sz + j) u = (l.set i x').flatMap cs
  | [], i, x, h, _, _ => by simp at h
  | y :: l, 0, x, h, hj, he => by
    simp only [List.getElem?_cons_zero, Option.some.injEq] at h
    subst h
    rw [List.flatMap_cons, List.set_cons_zero, List.flatMap_cons, Nat.zero_mul, Nat.zero_add, List.set_append_left _ _ (by rw [hcs]; exact hj), he]
  | y :: l, i + 1, x, h, hj, he => by
    simp only [List.getElem?_cons_succ] at h
    have ih := flat_set hcs l i x h hj he
    rw [List.flatMap_cons, List.set_cons_succ, List.flatMap_cons, List.set_append_right _ _ (by rw [hcs, Nat.succ_mul]; omega), ← ih]
    congr 2
    rw [hcs, Nat.succ_mul]
    omega
end Go.Proofs.YtponkkljlbifmaaGreat

/-
  Words for the state of the program's combine: regions that lie in fresh memory, the parts under way, the bytes as a string. No program of ours walks here.
-/
namespace Go.Proofs.YtponkkljlbifmaaGreat
open Go.RowKit
set_option maxRecDepth 100000
open Rg

/-- the region reads in every world that has these blocks -/
def RgF (lo hi : Nat) (w : World) (x : Int) (f : Bool) (A : Option Addr) (n c : Nat) (r : Rg) : Prop :=
  ∀ w' : World, (∀ k, lo ≤ k → k < hi → w'.heap[k]? = w.heap[k]?) → RgS w' x f A n c r
theorem RgF.s {lo hi : Nat} {w : World} {x : Int} {f : Bool} {A : Option Addr} {n c : Nat} {r : Rg} (h : RgF lo hi w x f A n c r) : RgS w x f A n c r := h w fun _ _ _ => rfl
theorem RgF.keep {lo hi : Nat} {w w' : World} {x : Int} {f : Bool} {A : Option Addr} {n c : Nat} {r : Rg} (h : RgF lo hi w x f A n c r) (hk : ∀ k, lo ≤ k → k < hi → w'.heap[k]? = w.heap[k]?) : RgF lo hi w' x f A n c r :=
  fun w'' h2 => h w'' fun k h3 h4 => (h2 k h3 h4).trans (hk k h3 h4)
theorem RgF.wide {lo hi lo' hi' : Nat} {w : World} {x : Int} {f : Bool} {A : Option Addr} {n c : Nat} {r : Rg} (h : RgF lo hi w x f A n c r) (h1 : lo' ≤ lo) (h2 : hi ≤ hi') : RgF lo' hi' w x f A n c r :=
  fun w' h3 => h w' fun k h4 h5 => h3 k (by omega) (by omega)
theorem RgF.nil {lo hi : Nat} {w : World} (x : Int) (f : Bool) : RgF lo hi w x f none 0 0 (.nil x f) := fun _ _ => RgS.nil x f

/-- a part under way: where its values lie, its rest, and between which blocks the rest lies -/
structure PM where
  A1 : Option Addr
  n1 : Nat
  c1 : Nat
  vs : List Iv
  x : Int
  f : Bool
  A2 : Option Addr
  n2 : Nat
  c2 : Nat
  r : Rg
  lo : Nat
  hi : Nat
def PM.cs (m : PM) : List Value := [.slice m.A1 m.n1 m.c1, .int .i64 m.x, .bool m.f, .slice m.A2 m.n2 m.c2]
def PM.pr (m : PM) : List Iv × Rg := (m.vs, m.r)
theorem PM.cs_len (m : PM) : (PM.cs m).length = 4 := rfl
theorem own_lt {w : World} {base : Nat} {e : TypeId} {size n : Nat} {v : Value} {xs : List Value} (h : w.ownsRow base e size v n xs) {k : Nat} (hk : v.ownBlock = some k) : base ≤ k ∧ k < w.heap.size ∧ ∃ cs, w.heap[k]? = some (.cells cs e (0, 0)) := by
  rcases h.2 with ⟨rfl, _⟩ | ⟨g, cap, cur, rfl, hg, hh, _⟩
  · simp [Value.ownBlock] at hk
  · simp only [Value.ownBlock, Option.some.injEq] at hk
    subst hk
    exact ⟨hg, Blk.lt (T := e) (cs := cur) hh, cur, hh⟩
/-- rows of two types are two blocks -/
theorem own_types {w : World} {b1 b2 : Nat} {e1 e2 : TypeId} {s1 s2 n1 n2 : Nat} {v1 v2 : Value} {x1 x2 : List Value} (h1 : w.ownsRow b1 e1 s1 v1 n1 x1) (h2 : w.ownsRow b2 e2 s2 v2 n2 x2) (hne : e1 ≠ e2) {k : Nat} (hk : v1.ownBlock = some k) : v2.ownBlock ≠ some k := fun hk2 => by
  obtain ⟨_, _, c1, a1⟩ := own_lt h1 hk
  obtain ⟨_, _, c2, a2⟩ := own_lt h2 hk2
  rw [a1] at a2
  injection a2 with a2
  injection a2 with _ a2
  exact hne a2
theorem own_but {w w' : World} {base : Nat} {e : TypeId} {size n : Nat} {v : Value} {xs : List Value} {S : Nat → Prop} (h : w.ownsRow base e size v n xs) (hb : But S w w') (hs : ∀ k, v.ownBlock = some k → ¬ S k) : w'.ownsRow base e size v n xs :=
  own_at h fun g _ hlt hg => hb.block g hlt (hs g hg)
end Go.Proofs.YtponkkljlbifmaaGreat

/-
  Plain: regions whose lists are all short; the results of operations are such. No program here.
-/
namespace Go.Proofs.YtponkkljlbifmaaGreat
open Go.RowKit
set_option maxRecDepth 100000
open Rg

/-- all lists inside are short -/
def SmR : Rg → Prop
  | .nil _ _ => True
  | .cons vs rest tail => vs.length ≤ 100000 ∧ rest.len ≤ 100000 ∧ SmR rest ∧ SmR tail
def Sm (r : Rg) : Prop := r.len ≤ 100000 ∧ SmR r
theorem SmR.mem {p : List Iv × Rg} : ∀ {r : Rg}, SmR r → p ∈ r.parts → p.1.length ≤ 100000 ∧ Sm p.2
  | .nil _ _, _, h => by cases h
  | .cons vs rest tail, hs, h => by
    rcases List.mem_cons.1 h with rfl | h
    · exact ⟨hs.1, hs.2.1, hs.2.2.1⟩
    · exact SmR.mem hs.2.2.2 h
theorem SmR.of {w : Int} {f : Bool} : ∀ {L : List (List Iv × Rg)}, (∀ p ∈ L, p.1.length ≤ 100000 ∧ Sm p.2) → SmR (mkR w f L)
  | [], _ => trivial
  | p :: L, h => ⟨(h p List.mem_cons_self).1, (h p List.mem_cons_self).2.1, (h p List.mem_cons_self).2.2, SmR.of fun q hq => h q (List.mem_cons_of_mem _ hq)⟩
theorem len_mk (w : Int) (f : Bool) (L : List (List Iv × Rg)) : (mkR w f L).len = L.length := by rw [← len_parts, parts_mk]
theorem Sm.of {w : Int} {f : Bool} {L : List (List Iv × Rg)} (hl : L.length ≤ 100000) (h : ∀ p ∈ L, p.1.length ≤ 100000 ∧ Sm p.2) : Sm (mkR w f L) := ⟨by rw [len_mk]; exact hl, SmR.of h⟩
theorem Sm.nil (w : Int) (f : Bool) : Sm (.nil w f) := ⟨Nat.zero_le _, trivial⟩
theorem Sm.mem {p : List Iv × Rg} {r : Rg} (h : Sm r) (hp : p ∈ r.parts) : p.1.length ≤ 100000 ∧ Sm p.2 := SmR.mem h.2 hp
end Go.Proofs.YtponkkljlbifmaaGreat
