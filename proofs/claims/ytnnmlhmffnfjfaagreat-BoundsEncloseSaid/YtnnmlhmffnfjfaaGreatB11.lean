/-
  Texts: Step, MapIs, ShelfQ, LayOf, SortE.
-/
import Derived.Test.YtnnmlhmffnfjfaaGreatB10
import Derived.Maps.OwnSet
import Derived.Maps.Views
import Derived.DeepKeys4
import Derived.Shelf.SlGeneric
import Derived.Shelf.SlSortCmp.WholeK
import Derived.Ground.SlsfProg
import Derived.Test.YtnnmlhmffnfjfaaGreatProg
import Derived.Shelf.GgSortFunc.InsertionK
import Derived.Shelf.SlSortCmp.NoneTotal
set_option linter.unusedVariables false
set_option maxRecDepth 100000
namespace Go.Proofs.YtnnmlhmffnfjfaaGreat
open Go.RowKit
open Rg
structure Swp (qs : List Ev) (i : Nat) (K : List Vl) : Prop where
 asc : ascV K
 mem : ∀ v, v ∈ K ↔ (∃ e ∈ qs.take i, e.v = v) ∧ ∀ e ∈ qs.drop i, e.v ≠ v
theorem Swp.zero (qs : List Ev) : Swp qs 0 [] := ⟨List.Pairwise.nil, fun v => by simp⟩
theorem EvUp.le {qs : List Ev} (h : EvUp qs) {i j : Nat} {x y : Ev} (hx : qs[i]? = some x) (hy : qs[j]? = some y) (hij : i ≤ j) : cmpV x.v y.v ≤ 0 := by
 rcases Nat.eq_or_lt_of_le hij with e | hlt
 · subst e
   rw [hx] at hy
   injection hy with hy
   rw [hy, cmpV_self]
   exact Int.le_refl _
 · have h1 := List.getElem?_eq_some_iff.1 hx
   have h2 := List.getElem?_eq_some_iff.1 hy
   have := List.pairwise_iff_getElem.1 h i j h1.1 h2.1 hlt
   rw [h1.2, h2.2] at this
   exact (cmpE_le this).1
theorem mem_take' {qs : List Ev} {i : Nat} {e : Ev} : e ∈ qs.take i ↔ ∃ j, j < i ∧ qs[j]? = some e := by
 rw [List.mem_iff_getElem?]
 constructor
 · rintro ⟨j, hj⟩
   rw [List.getElem?_take] at hj
   split at hj
   · exact ⟨j, ‹_›, hj⟩
   · cases hj
 · rintro ⟨j, hj, he⟩
   exact ⟨j, by rw [List.getElem?_take, if_pos hj]; exact he⟩
theorem mem_drop' {qs : List Ev} {i : Nat} {e : Ev} : e ∈ qs.drop i ↔ ∃ j, i ≤ j ∧ qs[j]? = some e := by
 rw [List.mem_iff_getElem?]
 constructor
 · rintro ⟨j, hj⟩
   rw [List.getElem?_drop] at hj
   exact ⟨i + j, by omega, hj⟩
 · rintro ⟨j, hj, he⟩
   exact ⟨j - i, by rw [List.getElem?_drop, show i + (j - i) = j by omega]; exact he⟩
theorem Swp.skip {qs : List Ev} {i : Nat} {K : List Vl} {x y : Ev} (h : Swp qs i K) (hx : qs[i]? = some x) (hy : qs[i + 1]? = some y) (e : y.v = x.v) : Swp qs (i + 1) K := by
 refine ⟨h.asc, fun v => ?_⟩
 rw [h.mem v]
 constructor
 · rintro ⟨⟨e1, h1, h2⟩, h3⟩
   obtain ⟨j, hj, hej⟩ := mem_take'.1 h1
   refine ⟨⟨e1, mem_take'.2 ⟨j, by omega, hej⟩, h2⟩, fun e2 he2 => ?_⟩
   obtain ⟨l, hl, hel⟩ := mem_drop'.1 he2
   exact h3 e2 (mem_drop'.2 ⟨l, by omega, hel⟩)
 · rintro ⟨⟨e1, h1, h2⟩, h3⟩
   have hvx : x.v ≠ v := by rw [← e]; exact h3 y (mem_drop'.2 ⟨i + 1, by omega, hy⟩)
   obtain ⟨j, hj, hej⟩ := mem_take'.1 h1
   refine ⟨⟨e1, mem_take'.2 ⟨j, ?_, hej⟩, h2⟩, fun e2 he2 => ?_⟩
   · rcases Nat.lt_or_ge j i with h4 | h4
     · exact h4
     · have : j = i := by omega
       subst this
       rw [hx] at hej
       injection hej with hej
       rw [← hej] at h2
       exact absurd h2 hvx
   · obtain ⟨l, hl, hel⟩ := mem_drop'.1 he2
     rcases Nat.eq_or_lt_of_le hl with e3 | h4
     · subst e3
       rw [hx] at hel
       injection hel with hel
       rw [← hel]; exact hvx
     · exact h3 e2 (mem_drop'.2 ⟨l, by omega, hel⟩)
theorem sweep_le {qs : List Ev} {i : Nat} {x : Ev} (hup : EvUp qs) (hx : qs[i]? = some x) : ∀ e ∈ qs.take (i + 1), cmpV e.v x.v ≤ 0 := fun e he => by
 obtain ⟨j, hj, hej⟩ := mem_take'.1 he
 exact hup.le hej hx (by omega)
theorem sweep_gt {qs : List Ev} {i : Nat} {x : Ev} (hup : EvUp qs) (hx : qs[i]? = some x) (hb : ∀ y, qs[i + 1]? = some y → y.v ≠ x.v) : ∀ e ∈ qs.drop (i + 1), cmpV x.v e.v < 0 := fun e he => by
 obtain ⟨j, hj, hej⟩ := mem_drop'.1 he
 have hlt : i + 1 < qs.length := by have := (List.getElem?_eq_some_iff.1 hej).1; omega
 have hy := List.getElem?_eq_getElem hlt
 have h1 := hup.le hx hy (by omega)
 have h2 := hup.le hy hej hj
 have h3 : cmpV x.v (qs[i + 1]).v ≠ 0 := fun h => hb _ hy ((cmpV_zero _ _).1 h).symm
 exact cmpV_lt_of_lt (by omega) h2
theorem Swp.take {qs : List Ev} {i : Nat} {K : List Vl} {x : Ev} (h : Swp qs i K) (hup : EvUp qs) (hx : qs[i]? = some x) (hb : ∀ y, qs[i + 1]? = some y → y.v ≠ x.v) : Swp qs (i + 1) (K ++ [x.v]) := by
 have hle := sweep_le hup hx
 have hgt := sweep_gt hup hx hb
 refine ⟨?_, fun v => ?_⟩
 · refine List.pairwise_append.2 ⟨h.asc, List.pairwise_singleton _ _, fun u hu z hz => ?_⟩
   rw [List.mem_singleton] at hz
   subst hz
   obtain ⟨⟨e, he, hev⟩, h2⟩ := (h.mem u).1 hu
   obtain ⟨j, hj, hej⟩ := mem_take'.1 he
   have h3 := hup.le hej hx (by omega)
   rw [hev] at h3
   have h4 : cmpV u x.v ≠ 0 := fun h0 => h2 x (mem_drop'.2 ⟨i, Nat.le_refl _, hx⟩) ((cmpV_zero _ _).1 h0).symm
   omega
 · rw [List.mem_append, List.mem_singleton, h.mem v]
   constructor
   · rintro (⟨⟨e1, h1, h2⟩, h3⟩ | rfl)
     · obtain ⟨j, hj, hej⟩ := mem_take'.1 h1
       refine ⟨⟨e1, mem_take'.2 ⟨j, by omega, hej⟩, h2⟩, fun e2 he2 => ?_⟩
       obtain ⟨l, hl, hel⟩ := mem_drop'.1 he2
       exact h3 e2 (mem_drop'.2 ⟨l, by omega, hel⟩)
     · refine ⟨⟨x, mem_take'.2 ⟨i, by omega, hx⟩, rfl⟩, fun e he heq => ?_⟩
       have := hgt e he
       rw [heq, cmpV_self] at this
       omega
   · rintro ⟨⟨e1, h1, h2⟩, h3⟩
     by_cases hv : v = x.v
     · exact .inr hv
     · left
       obtain ⟨j, hj, hej⟩ := mem_take'.1 h1
       refine ⟨⟨e1, mem_take'.2 ⟨j, ?_, hej⟩, h2⟩, fun e2 he2 => ?_⟩
       · rcases Nat.lt_or_ge j i with h4 | h4
         · exact h4
         · have : j = i := by omega
           subst this
           rw [hx] at hej
           injection hej with hej
           rw [← hej] at h2
           exact absurd h2.symm hv
       · obtain ⟨l, hl, hel⟩ := mem_drop'.1 he2
         rcases Nat.eq_or_lt_of_le hl with e3 | h4
         · subst e3
           rw [hx] at hel
           injection hel with hel
           rw [← hel]; exact fun h => hv h.symm
         · exact h3 e2 (mem_drop'.2 ⟨l, by omega, hel⟩)
theorem Swp.more {qs : List Ev} (hup : EvUp qs) : ∀ (m i : Nat) (K : List Vl), qs.length - i ≤ m → i ≤ qs.length → Swp qs i K → ∃ R, Swp qs qs.length (K ++ R)
 | m, i, K, hm, hi, h => by
   rcases Nat.eq_or_lt_of_le hi with e | hlt
   · exact ⟨[], by rw [List.append_nil, ← e]; exact h⟩
   · cases m with
     | zero => omega
     | succ m =>
       have hx := List.getElem?_eq_getElem hlt
       by_cases hb : ∃ y, qs[i + 1]? = some y ∧ y.v = (qs[i]).v
       · obtain ⟨y, hy, e⟩ := hb
         exact Swp.more hup m (i + 1) K (by omega) (by omega) (h.skip hx hy e)
       · obtain ⟨R, hR⟩ := Swp.more hup m (i + 1) (K ++ [(qs[i]).v]) (by omega) (by omega) (h.take hup hx (fun y hy e => hb ⟨y, hy, e⟩))
         exact ⟨(qs[i]).v :: R, by simpa using hR⟩
theorem mem_ptsL {v : Vl} : ∀ {l : List Iv}, v ∈ ptsL l ↔ ∃ x ∈ l, v = x.f ∨ (x.o = false ∧ v = x.t)
 | [] => by simp [ptsL]
 | x :: l => by
   have ih := mem_ptsL (v := v) (l := l)
   unfold ptsL
   cases ho : x.o <;> simp [ho, ih]
   constructor
   · rintro (h | h | h)
     · exact .inl (.inl h)
     · exact .inl (.inr h)
     · exact .inr h
   · rintro ((h | h) | h)
     · exact .inl h
     · exact .inr (.inl h)
     · exact .inr (.inr h)
theorem pts_evs (a b : Rg) (v : Vl) : v ∈ ptsOf a b ↔ ∃ e ∈ evs a b, e.v = v := by
 have side : ∀ (s : Int) (L : List (List Iv × Rg)), (∃ l ∈ L.map (·.1), v ∈ ptsL l) ↔ ∃ e ∈ evR s 0 L, e.v = v := fun s L => by
  constructor
  · rintro ⟨l, hl, hv⟩
    obtain ⟨p, hp, rfl⟩ := List.mem_map.1 hl
    obtain ⟨x, hx, h⟩ := mem_ptsL.1 hv
    obtain ⟨j, hj⟩ := List.mem_iff_getElem?.1 hp
    rcases h with rfl | ⟨ho, rfl⟩
    · exact ⟨_, mem_evR.2 ⟨j, p, x, hj, hx, mem_evI.2 (.inl rfl)⟩, rfl⟩
    · exact ⟨_, mem_evR.2 ⟨j, p, x, hj, hx, mem_evI.2 (.inr ⟨ho, rfl⟩)⟩, rfl⟩
  · rintro ⟨e, he, rfl⟩
    obtain ⟨j, p, x, h1, h2, h3⟩ := mem_evR.1 he
    refine ⟨p.1, List.mem_map.2 ⟨p, List.mem_of_getElem? h1, rfl⟩, mem_ptsL.2 ⟨x, h2, ?_⟩⟩
    rcases mem_evI.1 h3 with rfl | ⟨ho, rfl⟩
    · exact .inl rfl
    · exact .inr ⟨ho, rfl⟩
 rw [ptsOf, (ptsAll_spec _).2]
 unfold evs valsOf
 have h0 := side 0 a.parts
 have h1 := side 1 b.parts
 simp only [List.mem_append, or_and_right, exists_or]
 rw [h0, h1]
theorem Swp.fin {a b : Rg} {qs : List Ev} {K : List Vl} (hp : qs.Perm (evs a b)) (h : Swp qs qs.length K) : K = ptsOf a b := by
 refine ascV_ext _ _ h.asc (ptsAll_spec _).1 fun v => ?_
 rw [h.mem v, pts_evs]
 simp only [List.take_length, List.drop_length, List.not_mem_nil, false_implies, implies_true, and_true]
 constructor
 · rintro ⟨e, he, hv⟩; exact ⟨e, hp.mem_iff.1 he, hv⟩
 · rintro ⟨e, he, hv⟩; exact ⟨e, hp.mem_iff.2 he, hv⟩
theorem Swp.prefix_ {a b : Rg} {qs : List Ev} {i : Nat} {K : List Vl} (hp : qs.Perm (evs a b)) (hup : EvUp qs) (hi : i ≤ qs.length) (h : Swp qs i K) : ∃ R, ptsOf a b = K ++ R := by
 obtain ⟨R, hR⟩ := h.more hup _ _ _ (Nat.le_refl _) hi
 exact ⟨R, (hR.fin hp).symm⟩
def lastS (g : Vl → Bool) : Bool → List Vl → Bool
 | b, [] => b
 | _, q :: K => lastS g (g q) K
def lastR (ro : Vl → Rg) : Rg → List Vl → Rg
 | d, [] => d
 | _, q :: K => lastR ro (ro q) K
theorem lastR_snoc (ro : Vl → Rg) (p : Vl) : ∀ (K : List Vl) (d : Rg), lastR ro d (K ++ [p]) = ro p
 | [], _ => rfl
 | q :: K, _ => lastR_snoc ro p K (ro q)
theorem lastR_mem (ro : Vl → Rg) : ∀ (K : List Vl) (d : Rg), lastR ro d K = d ∨ lastR ro d K ∈ K.map ro
 | [], _ => .inl rfl
 | q :: K, _ => by
   rcases lastR_mem ro K (ro q) with h | h
   · right; rw [lastR, h]; simp
   · right; rw [lastR, List.map_cons]; exact List.mem_cons_of_mem _ h
theorem lastS_R (ro : Vl → Rg) (s : Rg) : ∀ (K : List Vl) (d : Rg), lastS (fun p => decide (ro p = s)) (decide (d = s)) K = decide (lastR ro d K = s)
 | [], _ => rfl
 | q :: K, _ => lastS_R ro s K (ro q)
theorem chg_snoc (g : Vl → Bool) (p : Vl) : ∀ (K : List Vl) (b : Bool), chg g b (K ++ [p]) = chg g b K ++ (if g p = lastS g b K then [] else [p])
 | [], b => by simp only [List.nil_append, chg, lastS]; split <;> simp_all
 | q :: K, b => by
   have ih := chg_snoc g p K
   simp only [List.cons_append, chg, lastS]
   split
   · rename_i h
     rw [← h]; exact ih _
   · rw [ih]; rfl
theorem chg_parity (g : Vl → Bool) : ∀ (K : List Vl) (b : Bool), ((chg g b K).length % 2 = 1) ↔ lastS g b K ≠ b
 | [], b => by simp [chg, lastS]
 | q :: K, b => by
   simp only [chg, lastS]
   split
   · rename_i h; rw [← h]; exact chg_parity g K (g q)
   · rename_i h
     have ih := chg_parity g K (g q)
     rw [List.length_cons]
     have : ((chg g (g q) K).length + 1) % 2 = 1 ↔ ¬ (chg g (g q) K).length % 2 = 1 := by omega
     rw [this, ih]
     cases hb : b <;> cases hq : g q <;> cases hl : lastS g (g q) K <;> simp_all
theorem ivs_even (p : Vl) : ∀ P : List Vl, P.length % 2 = 0 → ivsOf (P ++ [p]) = ivsOf P ++ [⟨p, zeroV, true⟩]
 | [], _ => rfl
 | [x], h => by simp at h
 | x :: y :: P, h => by
   simp only [List.cons_append, ivsOf]
   rw [ivs_even p P (by simp at h; omega)]
theorem ivs_ne : ∀ P : List Vl, P ≠ [] → ivsOf P ≠ []
 | [], h => absurd rfl h
 | [x], _ => by simp [ivsOf]
 | x :: y :: P, _ => by simp [ivsOf]
theorem setLast_cons (x : Iv) {l : List Iv} (h : l ≠ []) (p : Vl) : setLast (x :: l) p = x :: setLast l p := by
 obtain ⟨y, l', rfl⟩ : ∃ y l', l = y :: l' := by cases l with | nil => exact absurd rfl h | cons y l' => exact ⟨y, l', rfl⟩
 unfold setLast
 rw [List.getLast?_cons_cons]
 cases hg : (y :: l').getLast? with
 | none => simp at hg
 | some z => simp
theorem ivs_odd (p : Vl) : ∀ P : List Vl, P.length % 2 = 1 → ivsOf (P ++ [p]) = setLast (ivsOf P) p
 | [], h => by simp at h
 | [x], _ => by simp [ivsOf, setLast]
 | x :: y :: P, h => by
   have hP : P ≠ [] := fun e => by subst e; simp at h
   simp only [List.cons_append, ivsOf]
   rw [ivs_odd p P (by simp at h; omega), setLast_cons _ (ivs_ne P hP)]
theorem setLast_len (l : List Iv) (p : Vl) : (setLast l p).length = l.length := by
 unfold setLast
 cases h : l.getLast? with
 | none => rfl
 | some x =>
   have : l ≠ [] := fun e => by subst e; simp at h
   have hl := List.length_pos_iff.2 this
   simp; omega
theorem vals_snoc {ro : Vl → Rg} {n : Nat} {K : List Vl} {p : Vl} {s : Rg} (hs : s.nix = false) : valsAt ro (K ++ [p]) s =
 if ro p = s then (if lastR ro (.nil (n : Int) false) K = s then valsAt ro K s else valsAt ro K s ++ [⟨p, zeroV, true⟩])
 else (if lastR ro (.nil (n : Int) false) K = s then setLast (valsAt ro K s) p else valsAt ro K s) := by
 have hd : decide (Rg.nil (n : Int) false = s) = false := decide_eq_false (fun e => by rw [← e] at hs; cases hs)
 have h1 := lastS_R ro s K (.nil (n : Int) false)
 rw [hd] at h1
 have h2 := chg_parity (fun p => decide (ro p = s)) K false
 rw [h1] at h2
 unfold valsAt
 rw [chg_snoc, h1]
 by_cases e1 : ro p = s <;> by_cases e2 : lastR ro (.nil (n : Int) false) K = s
 · simp [e1, e2]
 · simp only [e1, e2, decide_true, decide_false, if_true, if_false]
   rw [if_neg (by simp)]
   refine ivs_even p _ ?_
   simp only [e2, decide_false, ne_eq, not_true_eq_false, iff_false] at h2
   omega
 · simp only [e1, e2, decide_true, decide_false, if_true, if_false]
   rw [if_neg (by simp)]
   refine ivs_odd p _ ?_
   simp only [e2, decide_true, ne_eq, Bool.true_eq_false, not_false_eq_true, iff_true] at h2
   exact h2
 · simp [e1, e2]
theorem vals_new {ro : Vl → Rg} {s : Rg} : ∀ {K : List Vl}, (∀ q ∈ K, ro q ≠ s) → valsAt ro K s = []
 | [], _ => rfl
 | q :: K, h => by
   have ih := vals_new (K := K) (fun q hq => h q (List.mem_cons_of_mem _ hq))
   have : decide (ro q = s) = false := decide_eq_false (h q List.mem_cons_self)
   unfold valsAt at ih ⊢
   rw [chg, if_pos this]
   exact ih
def idxR : List Rg → Rg → Int
 | [], _ => -1
 | x :: l, r => if x = r then 0 else if idxR l r < 0 then -1 else idxR l r + 1
theorem idxR_spec (r : Rg) : ∀ U : List Rg, (idxR U r = -1 ∧ r ∉ U) ∨ ∃ j : Nat, U[j]? = some r ∧ idxR U r = (j : Int)
 | [] => .inl ⟨rfl, by simp⟩
 | x :: U => by
   unfold idxR
   by_cases h : x = r
   · exact .inr ⟨0, by simp [h], by rw [if_pos h]; rfl⟩
   · rw [if_neg h]
     rcases idxR_spec r U with ⟨h1, h2⟩ | ⟨j, h1, h2⟩
     · exact .inl ⟨by rw [if_pos (by omega)], by simp [Ne.symm h, h2]⟩
     · exact .inr ⟨j + 1, by simpa using h1, by rw [if_neg (by omega)]; omega⟩
theorem idxR_of {r : Rg} {U : List Rg} (hn : U.Nodup) {j : Nat} (h : U[j]? = some r) : idxR U r = (j : Int) := by
 rcases idxR_spec r U with ⟨_, h2⟩ | ⟨i, h1, h2⟩
 · exact absurd (List.mem_of_getElem? h) h2
 · rw [h2]
   have a := List.getElem?_eq_some_iff.1 h
   have b := List.getElem?_eq_some_iff.1 h1
   rcases Nat.lt_trichotomy i j with hl | hl | hl
   · exact absurd (b.2.trans a.2.symm) (List.pairwise_iff_getElem.1 hn i j b.1 a.1 hl)
   · rw [hl]
   · exact absurd (a.2.trans b.2.symm) (List.pairwise_iff_getElem.1 hn j i a.1 b.1 hl)
def resU (ro : Vl → Rg) (K : List Vl) : List Rg := uniq (K.map ro)
theorem resU_snoc (ro : Vl → Rg) (K : List Vl) (p : Vl) : resU ro (K ++ [p]) = if (ro p).nix || decide (ro p ∈ resU ro K) then resU ro K else resU ro K ++ [ro p] := by
 unfold resU
 rw [List.map_append]
 exact uniq_snoc (ro p) (K.map ro)
theorem partsAt_U (ro : Vl → Rg) (K : List Vl) : partsAt ro K = (resU ro K).map fun r => (valsAt ro K r, r) := rfl
def roomP (L : List (List Iv × Rg)) (r : Rg) : List (List Iv × Rg) := if r.nix || decide (r ∈ L.map (·.2)) then L else L ++ [([], r)]
def closeAt (o : Int) (p : Vl) (L : List (List Iv × Rg)) : List (List Iv × Rg) := if o < 0 then L else L.modify o.toNat (fun q => (setLast q.1 p, q.2))
def openAt (o : Int) (p : Vl) (L : List (List Iv × Rg)) : List (List Iv × Rg) := if o < 0 then L else L.modify o.toNat (fun q => (q.1 ++ [⟨p, zeroV, true⟩], q.2))
theorem partsAt_rests (ro : Vl → Rg) (K : List Vl) : (partsAt ro K).map (·.2) = resU ro K := by
 rw [partsAt_U, List.map_map]
 exact List.map_id' _
theorem lastR_in {ro : Vl → Rg} {n : Nat} {K : List Vl} (hf : ∀ q ∈ K, Form n (ro q)) : lastR ro (.nil (n : Int) false) K ∈ resU ro K ∨ lastR ro (.nil (n : Int) false) K = .nil (n : Int) false := by
 rcases lastR_mem ro K (.nil (n : Int) false) with h | h
 · exact .inr h
 · cases hn : (lastR ro (.nil (n : Int) false) K).nix
   · exact .inl ((uniq_mem _ _).2 ⟨h, hn⟩)
   · obtain ⟨q, hq, he⟩ := List.mem_map.1 h
     right
     refine form_nil' n _ ?_ hn
     rw [← he]; exact hf q hq
section
variable {ro : Vl → Rg} {n : Nat} {K : List Vl} {p : Vl}
theorem now_open (hf : ∀ q ∈ K ++ [p], Form n (ro q)) : idxR (resU ro (K ++ [p])) (ro p) = idxR (resU ro K) (lastR ro (.nil (n : Int) false) K) ↔ ro p = lastR ro (.nil (n : Int) false) K := by
 have hfK : ∀ q ∈ K, Form n (ro q) := fun q hq => hf q (List.mem_append_left _ hq)
 have hfp : Form n (ro p) := hf p (by simp)
 have hnd : (resU ro (K ++ [p])).Nodup := uniq_nodup _
 have hndK : (resU ro K).Nodup := uniq_nodup _
 have hsn := resU_snoc ro K p
 have hnil : ∀ K, Rg.nil (n : Int) false ∉ resU ro K := fun K h => by have := ((uniq_mem _ _).1 h).2; cases this
 constructor
 · intro h
   rcases idxR_spec (ro p) (resU ro (K ++ [p])) with ⟨h1, h2⟩ | ⟨j, h1, h2⟩
   · have hn : (ro p).nix = true := by
      cases hn : (ro p).nix
      · exact absurd ((uniq_mem _ _).2 ⟨List.mem_map.2 ⟨p, by simp, rfl⟩, hn⟩) h2
      · rfl
     rw [form_nil' n _ hfp hn]
     rcases lastR_in hfK with h3 | h3
     · rcases idxR_spec (lastR ro (.nil (n : Int) false) K) (resU ro K) with ⟨_, h4⟩ | ⟨j, _, h4⟩
       · exact absurd h3 h4
       · omega
     · exact h3.symm
   · rcases idxR_spec (lastR ro (.nil (n : Int) false) K) (resU ro K) with ⟨h3, _⟩ | ⟨i, h3, h4⟩
     · omega
     · have hij : i = j := by omega
       subst hij
       have : (resU ro (K ++ [p]))[i]? = some (lastR ro (.nil (n : Int) false) K) := by
        rw [hsn]
        split
        · exact h3
        · rw [List.getElem?_append_left (List.getElem?_eq_some_iff.1 h3).1]; exact h3
       rw [h1] at this
       injection this
 · intro h
   rcases lastR_in hfK with h3 | h3
   · rw [h, hsn, if_pos (by rw [h]; simp [h3])]
   · rw [h, h3, hsn, if_pos (by rw [h, h3]; rfl)]
theorem room_at (K : List Vl) (p : Vl) : roomP (partsAt ro K) (ro p) = (resU ro (K ++ [p])).map fun r => (valsAt ro K r, r) := by
 unfold roomP
 rw [partsAt_rests, resU_snoc]
 split
 · rfl
 · rename_i h
   simp only [Bool.or_eq_true, decide_eq_true_eq, not_or] at h
   rw [List.map_append, ← partsAt_U, List.map_cons, List.map_nil]
   congr 2
   rw [vals_new]
   intro q hq e
   refine h.2 ((uniq_mem _ _).2 ⟨List.mem_map.2 ⟨q, hq, e⟩, by simpa using h.1⟩)
theorem step_same (hf : ∀ q ∈ K ++ [p], Form n (ro q)) (h : ro p = lastR ro (.nil (n : Int) false) K) : roomP (partsAt ro K) (ro p) = partsAt ro K ∧ partsAt ro (K ++ [p]) = partsAt ro K := by
 have hfK : ∀ q ∈ K, Form n (ro q) := fun q hq => hf q (List.mem_append_left _ hq)
 have hU : resU ro (K ++ [p]) = resU ro K := by
  rw [resU_snoc]
  rcases lastR_in hfK with h3 | h3
  · rw [if_pos (by rw [h]; simp [h3])]
  · rw [if_pos (by rw [h, h3]; rfl)]
 refine ⟨by rw [room_at, hU]; rfl, ?_⟩
 rw [partsAt_U, hU, partsAt_U]
 refine List.map_congr_left fun s hs => ?_
 have hn := ((uniq_mem _ _).1 hs).2
 rw [vals_snoc (n := n) hn, h]
 split
 · rfl
 · rfl
theorem step_turn (hf : ∀ q ∈ K ++ [p], Form n (ro q)) (h : ro p ≠ lastR ro (.nil (n : Int) false) K) :
 partsAt ro (K ++ [p]) = openAt (idxR (resU ro (K ++ [p])) (ro p)) p (closeAt (idxR (resU ro K) (lastR ro (.nil (n : Int) false) K)) p (roomP (partsAt ro K) (ro p))) := by
 have hnd : (resU ro (K ++ [p])).Nodup := uniq_nodup _
 have hndK : (resU ro K).Nodup := uniq_nodup _
 apply List.ext_getElem?
 intro j
 have hco : ∀ (o : Int) (f : (List Iv × Rg) → (List Iv × Rg)) (L : List (List Iv × Rg)), (if o < 0 then L else L.modify o.toNat f)[j]? = (L[j]?).map fun q => if o = (j : Int) then f q else q := fun o f L => by
  split
  · rename_i ho
    have hne : ¬ o = (j : Int) := by omega
    simp [hne]
  · rename_i ho
    rw [List.getElem?_modify]
    have : o.toNat = j ↔ o = (j : Int) := by omega
    simp only [this]
    rfl
 unfold openAt closeAt
 rw [hco, hco, room_at, partsAt_U, List.getElem?_map, List.getElem?_map]
 cases hs : (resU ro (K ++ [p]))[j]? with
 | none => rfl
 | some s =>
   simp only [Option.map_some]
   congr 1
   have hn := ((uniq_mem _ _).1 (List.mem_of_getElem? hs)).2
   have hs1 : idxR (resU ro (K ++ [p])) (ro p) = (j : Int) ↔ ro p = s := by
    constructor
    · intro e
      rcases idxR_spec (ro p) (resU ro (K ++ [p])) with ⟨h1, _⟩ | ⟨i, h1, h2⟩
      · omega
      · have : i = j := by omega
        subst this
        rw [hs] at h1
        injection h1 with h1
        exact h1.symm
    · intro e
      rw [e]; exact idxR_of hnd hs
   have hs2 : idxR (resU ro K) (lastR ro (.nil (n : Int) false) K) = (j : Int) ↔ lastR ro (.nil (n : Int) false) K = s := by
    have hpre : ∀ i x, (resU ro K)[i]? = some x → (resU ro (K ++ [p]))[i]? = some x := fun i x hx => by
     rw [resU_snoc]
     split
     · exact hx
     · rw [List.getElem?_append_left (List.getElem?_eq_some_iff.1 hx).1]; exact hx
    constructor
    · intro e
      rcases idxR_spec (lastR ro (.nil (n : Int) false) K) (resU ro K) with ⟨h1, _⟩ | ⟨i, h1, h2⟩
      · omega
      · have : i = j := by omega
        subst this
        have := hpre _ _ h1
        rw [hs] at this
        injection this with this
        exact this.symm
    · intro e
      rcases lastR_in (n := n) (K := K) (fun q hq => hf q (List.mem_append_left _ hq)) with h3 | h3
      · obtain ⟨i, hi⟩ := List.mem_iff_getElem?.1 h3
        have h4 := hpre _ _ hi
        rw [e] at h4
        have h5 := idxR_of hnd h4
        have h6 := idxR_of hnd hs
        rw [idxR_of hndK hi]
        omega
      · rw [h3] at e
        rw [← e] at hn
        cases hn
   simp only [hs1, hs2]
   rw [vals_snoc (n := n) hn]
   by_cases e1 : ro p = s
   · have e2 : lastR ro (.nil (n : Int) false) K ≠ s := fun e => h (e1.trans e.symm)
     simp [e1, e2]
   · by_cases e2 : lastR ro (.nil (n : Int) false) K = s
     · simp [e1, e2]
     · simp [e1, e2]
end
def within (r : Rg) : Prop := r.size ≤ 64 ∧ r.fits = true
theorem fits_mk (w : Int) (f : Bool) : ∀ L : List (List Iv × Rg), (mkR w f L).fits = true ↔ ∀ q ∈ L, q.1.length ≤ 64 ∧ q.2.fits = true
 | [] => by simp [mkR, Rg.fits]
 | q :: L => by
   have ih := fits_mk w f L
   simp only [mkR, Rg.fits, Bool.and_eq_true, decide_eq_true_eq, List.mem_cons, forall_eq_or_imp, ih]
theorem within_mk (w : Int) (f : Bool) (L : List (List Iv × Rg)) : within (mkR w f L) ↔ sizeL L ≤ 64 ∧ ∀ q ∈ L, q.1.length ≤ 64 ∧ q.2.fits = true := by
 unfold within
 rw [fits_mk, size_parts, parts_mk]
theorem sizeL_U (ro : Vl → Rg) (K : List Vl) : sizeL (partsAt ro K) = ((resU ro K).map fun r => 1 + r.size).sum := by
 unfold sizeL
 rw [partsAt_U, List.map_map]
 rfl
theorem sum_snoc (U : List Rg) (r : Rg) : ((U ++ [r]).map fun r => 1 + r.size).sum = (U.map fun r => 1 + r.size).sum + (1 + r.size) := by simp [List.sum_append]
theorem mono_size (ro : Vl → Rg) (K : List Vl) : ∀ R, sizeL (partsAt ro K) ≤ sizeL (partsAt ro (K ++ R)) := by
 refine snoc_ind (by simp) fun R x ih => ?_
 refine Nat.le_trans ih ?_
 rw [← List.append_assoc, sizeL_U, sizeL_U, resU_snoc]
 split
 · exact Nat.le_refl _
 · rw [sum_snoc]; omega
theorem mono_vals (ro : Vl → Rg) (K : List Vl) {s : Rg} (hs : s.nix = false) : ∀ R, (valsAt ro K s).length ≤ (valsAt ro (K ++ R) s).length := by
 refine snoc_ind (by simp) fun R x ih => ?_
 refine Nat.le_trans ih ?_
 rw [← List.append_assoc, vals_snoc (n := 0) hs]
 split
 · split
   · exact Nat.le_refl _
   · simp
 · split
   · rw [setLast_len]; exact Nat.le_refl _
   · exact Nat.le_refl _
theorem nix_within {n : Nat} {r : Rg} (hf : Form n r) (h : r.nix = true) : within r := by
 rw [form_nil' n r hf h]
 exact ⟨by simp [Rg.size], rfl⟩
theorem res_part {ro : Vl → Rg} {K : List Vl} {s : Rg} (h : s ∈ resU ro K) : (valsAt ro K s, s) ∈ partsAt ro K := List.mem_map.2 ⟨s, h, rfl⟩
theorem size_part {ro : Vl → Rg} {K : List Vl} {s : Rg} (h : s ∈ resU ro K) : 1 + s.size ≤ sizeL (partsAt ro K) := by
 rw [sizeL_U]
 generalize resU ro K = U at h
 induction U with
 | nil => cases h
 | cons x U ih =>
   rw [List.map_cons, List.sum_cons]
   rcases List.mem_cons.1 h with rfl | h
   · omega
   · have := ih h; omega
theorem fail_rest {ro : Vl → Rg} {n : Nat} {w : Int} {K R : List Vl} {p : Vl} (hf : Form n (ro p)) (h : ¬ within (ro p)) : ¬ within (mkR w false (partsAt ro (K ++ p :: R))) := by
 have hn : (ro p).nix = false := by
  cases hn : (ro p).nix
  · rfl
  · exact absurd (nix_within hf hn) h
 have hm : ro p ∈ resU ro (K ++ p :: R) := (uniq_mem _ _).2 ⟨List.mem_map.2 ⟨p, by simp, rfl⟩, hn⟩
 rw [within_mk]
 rintro ⟨h1, h2⟩
 refine h ⟨?_, (h2 _ (res_part hm)).2⟩
 have := size_part hm
 omega
theorem fail_size {ro : Vl → Rg} {w : Int} {K R : List Vl} {p : Vl} (hn : (ro p).nix = false) (hm : ro p ∉ resU ro K) (h : 64 < sizeL (partsAt ro K) + (1 + (ro p).size)) : ¬ within (mkR w false (partsAt ro (K ++ p :: R))) := by
 rw [within_mk]
 rintro ⟨h1, _⟩
 have h2 := mono_size ro (K ++ [p]) R
 rw [List.append_assoc, List.singleton_append] at h2
 have h3 : sizeL (partsAt ro (K ++ [p])) = sizeL (partsAt ro K) + (1 + (ro p).size) := by
  rw [sizeL_U, resU_snoc, if_neg (by simp [hn, hm]), sum_snoc, ← sizeL_U]
 omega
theorem fail_vals {ro : Vl → Rg} {n : Nat} {w : Int} {K R : List Vl} {p : Vl} (hn : (ro p).nix = false) (hl : ro p ≠ lastR ro (.nil (n : Int) false) K) (h : 64 ≤ (valsAt ro K (ro p)).length) : ¬ within (mkR w false (partsAt ro (K ++ p :: R))) := by
 rw [within_mk]
 rintro ⟨_, h1⟩
 have hm : ro p ∈ resU ro (K ++ p :: R) := (uniq_mem _ _).2 ⟨List.mem_map.2 ⟨p, by simp, rfl⟩, hn⟩
 have h2 := (h1 _ (res_part hm)).1
 have h3 := mono_vals ro (K ++ [p]) hn R
 rw [List.append_assoc, List.singleton_append, vals_snoc (n := n) hn, if_pos rfl, if_neg (Ne.symm hl), List.length_append] at h3
 simp only [List.length_cons, List.length_nil] at h3
 simp only at h2
 omega
end Go.Proofs.YtnnmlhmffnfjfaaGreat
namespace Go.Proofs.YtnnmlhmffnfjfaaGreat
open Go.RowKit Go.Maps
section
variable {κ : Type}
def MapIs (w : World) (kT : TypeId) (kv : κ → Value) (b n : Nat) (M : κ → Option Int) : Prop :=
 ∃ D : DataW Unit, w.ownsMap Tryz.prog kT (plainElem Tryz.prog 3) b n D ∧ ∀ k kl, keyOf Tryz.prog kT (kv k) = some kl → Maps.has D kl = (M k).isSome ∧ ∀ c, M k = some c → D.atKey kl (.lit (.int .i64 0)) = .lit (.int .i64 c)
variable {w w' : World} {kT : TypeId} {kv : κ → Value} {b n : Nat} {M : κ → Option Int}
theorem MapIs.lt (h : MapIs w kT kv b n M) : b < w.heap.size := by obtain ⟨D, h1, _⟩ := h; exact h1.lt
theorem MapIs.block (h : MapIs w kT kv b n M) (hb : w'.heap[b]? = w.heap[b]?) : MapIs w' kT kv b n M := by
 obtain ⟨D, ⟨es, clock, h1, h2⟩, h3⟩ := h
 exact ⟨D, ⟨es, clock, hb.trans h1, h2⟩, h3⟩
theorem MapIs.below (h : MapIs w kT kv b n M) (hb : Below w.heap.size w w') : MapIs w' kT kv b n M := h.block (hb.block b h.lt)
theorem MapIs.but {S : Nat → Prop} (h : MapIs w kT kv b n M) (hb : But S w w') (hs : ¬ S b) : MapIs w' kT kv b n M := h.block (hb.block b h.lt hs)
theorem MapIs.mono (h : MapIs w kT kv b n M) {n' : Nat} (hn : n ≤ n') : MapIs w kT kv b n' M := by
 obtain ⟨D, h1, h2⟩ := h
 exact ⟨D, h1.mono hn, h2⟩
theorem MapIs.made (w : World) (kT : TypeId) (kv : κ → Value) : MapIs (w.alloc (.map #[] 0)) kT kv w.heap.size 0 (fun _ => none) :=
 ⟨.map [], World.ownsMap_made w _ _ _, fun k kl _ => ⟨rfl, fun c h => by cases h⟩⟩
theorem MapIs.norow (h : MapIs w kT kv b n M) (cs : Array Value) (e : TypeId) (fz : Nat × Nat) : w.heap[b]? ≠ some (.cells cs e fz) := by
 obtain ⟨D, ⟨es, clock, h1, h2⟩, h3⟩ := h
 rw [h1]
 intro h
 injection h with h
 cases h
theorem wpList_map_look {P : Program} {ops : Array Oper} {rest : List Oper} {o : Oper} {a : Act} {Q : Exit → Act → World → Prop} (hP : P = Tryz.prog) (hg : o.guard = none) (m x : Operand) (t : TypeId) (hop : o.op = Op.lookup t m x true)
 (K : Keyed Tryz.prog kT) (ht : Tryz.prog.underlying t = some (.map kT 3)) (hm : a.eval m = .map (some b)) (h : MapIs w kT kv b n M) (k : κ) (kl : Lit) (hx : a.eval x = kv k) (hkey : keyOf Tryz.prog kT (kv k) = some kl)
 (hK : wpList P ops Q rest (a.put o.dst (.tuple #[.int .i64 ((M k).getD 0), .bool (M k).isSome])) w) : wpList P ops Q (o :: rest) a w := by
 subst hP
 obtain ⟨D, h1, h2⟩ := h
 obtain ⟨h3, h4⟩ := h2 k kl hkey
 refine wpList_lookup_own_ok_int w hg m x t hop kT 3 .i64 K ht Tryz.underlying3 (by kernel_rfl) b n D hm h1 (kv k) kl hx hkey ?_
 intro c hc _
 rw [h3]
 cases hM : M k with
 | none =>
   rw [hM] at h3 hK
   have h5 := atKey_of_not_has (D := D) (k := kl) h3 (.lit (.int .i64 0))
   rw [h5] at hc
   injection hc with hc
   injection hc with _ hc
   rw [← hc]
   exact hK
 | some v =>
   rw [hM] at hK
   have h5 := h4 v hM
   rw [h5] at hc
   injection hc with hc
   injection hc with _ hc
   rw [← hc]
   exact hK
set_option maxRecDepth 100000 in
theorem wpList_map_put [DecidableEq κ] {P : Program} {ops : Array Oper} {rest : List Oper} {o : Oper} {a : Act} {Q : Exit → Act → World → Prop} (hP : P = Tryz.prog) (hg : o.guard = none) (m x v : Operand) (t : TypeId) (hop : o.op = Op.mapUpdate t m x v)
 (K : Keyed Tryz.prog kT) (ht : Tryz.prog.underlying t = some (.map kT 3)) (hm : a.eval m = .map (some b)) (h : MapIs w kT kv b n M) (hn : n < 1000000) (k : κ) (kl : Lit) (hx : a.eval x = kv k) (hkey : keyOf Tryz.prog kT (kv k) = some kl)
 (z : Int) (hz : -9223372036854775808 ≤ z ∧ z < 9223372036854775808) (hv : a.eval v = .int .i64 z) (hinj : ∀ k', kv k' = kv k → k' = k)
 (hK : ∀ w', MapIs w' kT kv b (n + 1) (fun k' => if k' = k then some z else M k') → But (· = b) w w' → wpList P ops Q rest (a.put o.dst undef) w') : wpList P ops Q (o :: rest) a w := by
 subst hP
 obtain ⟨D, h1, h2⟩ := h
 refine wpList_mapUpdate_own w hg m x v t hop kT 3 K ht _ b n D hm h1 (by simp only [maxLen]; omega) (kv k) (.int .i64 z) kl hx hv hkey (.lit (.int .i64 z)) [] (plainElem_int Tryz.underlying3 (WalkArith.wf_i64 (by omega))) ?_
 intro w' ho hg'
 refine hK w' ⟨_, ho, fun k' kl' hk' => ?_⟩ (But.of_grown hg' (fun j hj => by injection hj with hj; exact hj.symm))
 have hmap := h1.isMap
 dsimp only
 by_cases e : k' = k
 · subst e
   rw [hkey] at hk'
   injection hk' with hk'
   subst hk'
   rw [if_pos rfl]
   exact ⟨has_put_same hmap (K.key hkey) _, fun c hc => by injection hc with hc; rw [← hc]; exact atKey_put_same hmap (K.key hkey) _ _⟩
 · have hne : kl' ≠ kl := fun h => e (hinj k' (K.inj hk' (by rw [h]; exact hkey)))
   rw [if_neg e, has_put_other hne, atKey_put_other hne]
   exact h2 k' kl' hk'
end
def kv2 (k : Int × Int) : Value := .agg #[.int .i64 k.1, .int .i64 k.2]
theorem kv2_inj (k k' : Int × Int) (h : kv2 k' = kv2 k) : k' = k := by
 obtain ⟨a, b⟩ := k
 obtain ⟨c, d⟩ := k'
 simp only [kv2, Value.agg.injEq, Array.mk.injEq, List.cons.injEq, Value.int.injEq, true_and, and_true] at h
 rw [h.1, h.2]
theorem keyed2 : Keyed Tryz.prog 225 := Keyed.of_law (deep_law_laid (P := Tryz.prog) (by kernel_rfl) (m := 2) (by omega) (of_decide_eq_true (by kernel_rfl)) (by kernel_rfl) (by rw [Tryz.underlying225]))
theorem keyedS : Keyed Tryz.prog 9 := string_keyed Tryz.underlying9
theorem key2 (i k : Int) (hi : -9223372036854775808 ≤ i ∧ i < 9223372036854775808) (hk : -9223372036854775808 ≤ k ∧ k < 9223372036854775808) : ∃ kl, keyOf Tryz.prog 225 (kv2 (i, k)) = some kl := by
 have ht : Tryz.prog.keyType 225 = true := by kernel_rfl
 have hc : Tryz.prog.cellsOf 225 = 2 := by kernel_rfl
 have hc1 : Tryz.prog.cellsOf 3 = 1 := by kernel_rfl
 have hf : (Value.agg #[.int .i64 i, .int .i64 k]).formed Tryz.prog 225 = true := by simp [Value.formed, Tryz.underlying225, hc]
 obtain ⟨s, hs⟩ : ∃ s, Tryz.prog.types.size = s + 1 := Nat.exists_eq_succ_of_ne_zero (Nat.pos_iff_ne_zero.1 (of_decide_eq_true (by kernel_rfl)))
 have w1 : (Lit.int .i64 i).wf = true := WalkArith.wf_i64 (by omega)
 have w2 : (Lit.int .i64 k).wf = true := WalkArith.wf_i64 (by omega)
 refine ⟨.string (keyBytes [.int .i64 i, .int .i64 k]), ?_⟩
 unfold keyOf kv2
 rw [Tryz.underlying225]
 simp only [ht, hf, Bool.and_self, if_true, hs]
 simp [Program.keyLits, Tryz.underlying225, Tryz.underlying3, hc, hc1, w1, w2, Value.cells, List.range, List.range.loop]
end Go.Proofs.YtnnmlhmffnfjfaaGreat
namespace Go.Proofs
open Go.Shelf
def Tryz.sortE_ren : Go.Shelf.Ren := ⟨fun | 6 => 245 | 15 => 168 | 14 => 267 | 28 => 214 | 29 => 215 | 20 => 277 | 21 => 278 | 22 => 279 | 23 => 280 | 24 => 281 | 25 => 282 | 26 => 283 | 27 => 284 | 46 => 286 | 47 => 248 | 48 => 249 | 49 => 287 | 50 => 288 | 57 => 289 | n => n, fun | 22 => 223 | 24 => 227 | 25 => 263 | 3 => 3 | 39 => 203 | 0 => 0 | 53 => 238 | 55 => 240 | 4 => 4 | 46 => 232 | 45 => 231 | 50 => 164 | 5 => 5 | 9 => 9 | 66 => 264 | 70 => 173 | 76 => 278 | 77 => 279 | n => n, fun | n => n⟩
theorem Tryz.sortE : Go.Proofs.SlLaysF0.n6 Tryz.prog Tryz.sortE_ren := {
 mixed := by kernel_rfl
 f6 := ⟨Tryz.f245.name, by decide, Tryz.func245.trans (congrArg some (by kernel_rfl))⟩
 f14 := ⟨Tryz.f267.name, by decide, Tryz.func267.trans (congrArg some (by kernel_rfl))⟩
 f15 := Tryz.func168.trans (congrArg some (by kernel_rfl))
 f20 := ⟨Tryz.f277.name, by decide, Tryz.func277.trans (congrArg some (by kernel_rfl))⟩
 f21 := ⟨Tryz.f278.name, by decide, Tryz.func278.trans (congrArg some (by kernel_rfl))⟩
 f22 := ⟨Tryz.f279.name, by decide, Tryz.func279.trans (congrArg some (by kernel_rfl))⟩
 f23 := ⟨Tryz.f280.name, by decide, Tryz.func280.trans (congrArg some (by kernel_rfl))⟩
 f24 := ⟨Tryz.f281.name, by decide, Tryz.func281.trans (congrArg some (by kernel_rfl))⟩
 f25 := ⟨Tryz.f282.name, by decide, Tryz.func282.trans (congrArg some (by kernel_rfl))⟩
 f26 := ⟨Tryz.f283.name, by decide, Tryz.func283.trans (congrArg some (by kernel_rfl))⟩
 f27 := ⟨Tryz.f284.name, by decide, Tryz.func284.trans (congrArg some (by kernel_rfl))⟩
 f28 := Tryz.func214.trans (congrArg some (by kernel_rfl))
 f29 := Tryz.func215.trans (congrArg some (by kernel_rfl))
 f46 := ⟨Tryz.f286.name, by decide, Tryz.func286.trans (congrArg some (by kernel_rfl))⟩
 f47 := Tryz.func248.trans (congrArg some (by kernel_rfl))
 f48 := Tryz.func249.trans (congrArg some (by kernel_rfl))
 f49 := ⟨Tryz.f287.name, by decide, Tryz.func287.trans (congrArg some (by kernel_rfl))⟩
 f50 := ⟨Tryz.f288.name, by decide, Tryz.func288.trans (congrArg some (by kernel_rfl))⟩
 f57 := ⟨Tryz.f289.name, by decide, Tryz.func289.trans (congrArg some (by kernel_rfl))⟩
 t0 := Tryz.underlying0
 a0 := Tryz.isAgg0
 z0 := Tryz.sizeOf0
 v0 := Tryz.zeroValue0
 t3 := Tryz.underlying3
 a3 := Tryz.isAgg3
 z3 := Tryz.sizeOf3
 v3 := Tryz.zeroValue3
 t4 := Tryz.underlying4
 a4 := Tryz.isAgg4
 z4 := Tryz.sizeOf4
 v4 := Tryz.zeroValue4
 t5 := Tryz.underlying5
 a5 := Tryz.isAgg5
 z5 := Tryz.sizeOf5
 v5 := Tryz.zeroValue5
 t9 := Tryz.underlying9
 a9 := Tryz.isAgg9
 z9 := Tryz.sizeOf9
 v9 := Tryz.zeroValue9
 t22 := Tryz.underlying223
 a22 := Tryz.isAgg223
 z22 := Tryz.sizeOf223
 v22 := Tryz.zeroValue223
 t25 := Tryz.underlying263
 a25 := Tryz.isAgg263
 z25 := Tryz.sizeOf263
 v25 := Tryz.zeroValue263
 t39 := Tryz.underlying203
 a39 := Tryz.isAgg203
 z39 := Tryz.sizeOf203
 v39 := Tryz.zeroValue203
 t45 := Tryz.underlying231
 a45 := Tryz.isAgg231
 z45 := Tryz.sizeOf231
 v45 := Tryz.zeroValue231
 t46 := Tryz.underlying232
 a46 := Tryz.isAgg232
 z46 := Tryz.sizeOf232
 v46 := Tryz.zeroValue232
 t50 := Tryz.underlying164
 a50 := Tryz.isAgg164
 z50 := Tryz.sizeOf164
 v50 := Tryz.zeroValue164
 t53 := Tryz.underlying238
 a53 := Tryz.isAgg238
 z53 := Tryz.sizeOf238
 v53 := Tryz.zeroValue238
 t55 := Tryz.underlying240
 a55 := Tryz.isAgg240
 z55 := Tryz.sizeOf240
 v55 := Tryz.zeroValue240
 t66 := Tryz.underlying264
 a66 := Tryz.isAgg264
 z66 := Tryz.sizeOf264
 v66 := Tryz.zeroValue264
 t70 := Tryz.underlying173
 a70 := Tryz.isAgg173
 z70 := Tryz.sizeOf173
 v70 := Tryz.zeroValue173
 t76 := Tryz.underlying278
 a76 := Tryz.isAgg278
 z76 := Tryz.sizeOf278
 v76 := Tryz.zeroValue278
 t77 := Tryz.underlying279
 a77 := Tryz.isAgg279
 z77 := Tryz.sizeOf279
 v77 := Tryz.zeroValue279 }
end Go.Proofs
namespace Go.Proofs.YtnnmlhmffnfjfaaGreat
open Go.RowKit Go.Sort Go.Shelf
theorem lay_of {W w' : World} (h : Lay W w') : ∃ q os', w' = grow (W.drewN q) os' := by
 refine ⟨w'.drawn - W.drawn, w'.heap.extract W.heap.size w'.heap.size, ?_⟩
 have hh : w'.heap = W.heap ++ w'.heap.extract W.heap.size w'.heap.size := by
  apply Array.ext_getElem?
  intro k
  rw [Array.getElem?_append]
  by_cases hk : k < W.heap.size
  · rw [if_pos hk]
    exact h.bel.block k hk
  · rw [if_neg hk, Array.getElem?_extract]
    have hs := h.bel.size
    split
    · congr 1; omega
    · rw [Array.getElem?_eq_none]; omega
 have h1 := h.bel.os
 have h2 := h.bel.tape
 have h3 := h.bel.output
 have h4 := h.dr
 obtain ⟨heap, tape, drawn, os, out⟩ := w'
 obtain ⟨heap0, tape0, drawn0, os0, out0⟩ := W
 simp only at h1 h2 h3 h4 hh
 subst h1 h2 h3
 simp only [grow, World.drewN, World.mk.injEq, true_and, and_true]
 refine ⟨hh, ?_⟩
 omega
instance : Inhabited Ev := ⟨⟨zeroV, 0, 0, false⟩⟩
theorem cmpE_lt (a b : Ev) : cmpE a b < 0 ↔ cmpV a.v b.v < 0 ∨ (cmpV a.v b.v = 0 ∧ a.e = false ∧ b.e = true) := by
 unfold cmpE
 have := cmpV_range a.v b.v
 cases a.e <;> cases b.e <;> split <;> simp_all <;> omega
theorem cmpE_ge (a b : Ev) : ¬ cmpE a b < 0 ↔ cmpV b.v a.v < 0 ∨ (cmpV a.v b.v = 0 ∧ (b.e = true → a.e = true)) := by
 rw [cmpE_lt]
 have h1 := cmpV_range a.v b.v
 have h2 := cmpV_anti a.v b.v
 constructor
 · intro h
   rcases Int.lt_trichotomy (cmpV a.v b.v) 0 with h3 | h3 | h3
   · exact absurd (.inl h3) h
   · refine .inr ⟨h3, fun hb => ?_⟩
     cases ha : a.e
     · exact absurd (.inr ⟨h3, ha, hb⟩) h
     · rfl
   · exact .inl (by omega)
 · rintro (h | ⟨h, h'⟩) (h3 | ⟨h3, h4, h5⟩)
   · omega
   · omega
   · omega
   · rw [h' h5] at h4; cases h4
theorem swoE : SWO (ltOf cmpE) where
 irrefl x := decide_eq_false (p := cmpE x x < 0) (by rw [cmpE_ge]; exact .inr ⟨cmpV_self _, fun h => h⟩)
 trans x y z h1 h2 := by
  have h1' := (cmpE_lt x y).1 (of_decide_eq_true h1)
  have h2' := (cmpE_lt y z).1 (of_decide_eq_true h2)
  refine decide_eq_true (p := cmpE x z < 0) ((cmpE_lt x z).2 ?_)
  rcases h1' with h1 | ⟨h1, e1, f1⟩ <;> rcases h2' with h2 | ⟨h2, e2, f2⟩
  · exact .inl (cmpV_lt_trans h1 h2)
  · exact .inl (cmpV_lt_of_lt h1 (by omega))
  · exact .inl (cmpV_lt_of_le (by omega) h2)
  · rw [f1] at e2; cases e2
 ntrans x y z h1 h2 := by
  have h1' := (cmpE_ge x y).1 (of_decide_eq_false h1)
  have h2' := (cmpE_ge y z).1 (of_decide_eq_false h2)
  refine decide_eq_false (p := cmpE x z < 0) ((cmpE_ge x z).2 ?_)
  rcases h1' with h1 | ⟨h1, e1⟩ <;> rcases h2' with h2 | ⟨h2, e2⟩
  · exact .inl (cmpV_lt_trans h2 h1)
  · have := (cmpV_zero _ _).1 h2; rw [this] at h1; exact .inl h1
  · have := (cmpV_zero _ _).1 h1; rw [← this] at h2; exact .inl h2
  · exact .inr ⟨by have := (cmpV_zero _ _).1 h1; rw [this]; exact h2, fun h => e1 (e2 h)⟩
theorem cmpLaysE {w : World} (blk off size : Nat) : CmpLays Tryz.prog 246 #[] Ev.cs 6 cmpE blk off size w := by
 intro m os dk hs x y
 exact (cmpE_any x y _).mono fun e w' ⟨he, hl⟩ => ⟨he, lay_of hl⟩
theorem swk_block {w : World} {blk off m : Nat} {d : Array Ev} {os : Array Obj} {k : Nat} (hk : k < w.heap.size) (hne : k ≠ blk) : (sortWorldK Ev.cs 6 w blk off m d os).heap[k]? = w.heap[k]? := by
 unfold sortWorldK putRowK
 rw [heap_grow_old _ _ (by simpa using hk)]
 simp only [putRow, mapBlock, heap_ahead, Array.getElem?_modify]
 rw [if_neg (fun e => hne e.symm)]
theorem swk_but {w : World} {blk off m : Nat} {d : Array Ev} {os : Array Obj} : But (· = blk) w (sortWorldK Ev.cs 6 w blk off m d os) :=
 ⟨rfl, rfl, rfl, by simp [sortWorldK, putRowK], fun k hk hs => swk_block hk hs⟩
def SortedE (w : World) (blk off n : Nat) (es : List Ev) (w' : World) : Prop := ∃ qs : List Ev, qs.Perm es ∧ EvUp qs ∧ Sl 6 Ev.cs w' (some ⟨blk, off, none⟩) n qs ∧ But (· = blk) w w'
theorem sortE_any (blk off cap n : Nat) (es : List Ev) (w : World) (hsl : Sl 6 Ev.cs w (some ⟨blk, off, none⟩) n es) (hfz : ∀ j, w.frozen? ⟨blk, j, none⟩ = false) (hblk : blk < w.heap.size) (hn : n ≤ 1000000) (hn0 : 0 < n) :
 Calls Tryz.prog 245 #[.slice (some ⟨blk, off, none⟩) n cap, .func (.func 246) #[] #[]] w fun e w' => e = .returned (.tuple #[]) ∧ SortedE w blk off n es w' := by
 have hlen := hsl.len
 have hcell : ∀ k x, es[k]? = some x → ∀ (j : Nat) (u : Value), (Ev.cs x)[j]? = some u → w.cell? ⟨blk, off + k * 6 + j, none⟩ = some u := by
  obtain ⟨b, o, e, hc⟩ := hsl.2 hn0
  injection e with e
  injection e with e1 e2
  subst e1 e2
  exact hc
 have hH : HoldsK Ev.cs 6 w blk off es.toArray := by
  intro t ht
  have ht' : t < es.length * 6 := by simpa [flatK] using ht
  have hq : t / 6 < es.length := (Nat.div_lt_iff_lt_mul (by omega)).2 ht'
  have hr : t % 6 < 6 := Nat.mod_lt _ (by omega)
  refine ⟨?_, hfz _⟩
  have h1 := hcell (t / 6) _ (List.getElem?_eq_getElem hq) (t % 6) _ (List.getElem?_eq_getElem (by rw [Ev.cs_len]; exact hr))
  rw [show off + t / 6 * 6 + t % 6 = off + t by omega] at h1
  rw [h1]
  rw [getElem!_pos (flatK Ev.cs 6 es.toArray) t ht]
  simp only [flatK, Array.getElem_map, Array.getElem_range, id_eq]
  rw [getElem!_pos es.toArray (t / 6) (by simpa using hq), getElem!_pos _ (t % 6) (by rw [Ev.cs_len]; exact hr)]
  simp
 have hcon := AnyQ.slices_SortFunc Tryz.sortE 6 Tryz.isAgg227 Tryz.sizeOf227 Ev.cs Ev.cs_len one_ev cmpE swoE 246 #[] blk off cap es.toArray w entE (cmpLaysE blk off _) hH hblk (by simp; omega)
 rw [show es.toArray.size = n by simp [hlen]] at hcon
 change Calls Tryz.prog 245 _ _ _ at hcon
 refine hcon.mono fun e w' ⟨he, d', m, os, hp, hs, hw⟩ => ⟨he, ?_⟩
 have hds : d'.size = n := by rw [hp.1]; simp [hlen]
 have hHs : HoldsK Ev.cs 6 w' blk off d' := by
  rw [hw]
  exact SWK.holds ⟨m, os, rfl⟩ hblk hH (by rw [hds]; simp [hlen])
 refine ⟨d'.toList, ?_, ?_, ⟨by simp [hds], fun _ => ⟨blk, off, rfl, fun k x hx j u hu => ?_⟩⟩, by rw [hw]; exact swk_but⟩
 · have h1 := hp.2.2
   rw [Array.extract_eq_self_of_le (by omega), Array.extract_eq_self_of_le (by simp; omega)] at h1
   simpa using h1
 · refine List.pairwise_iff_getElem.2 fun i j hi hj hij => ?_
   have hi' : i < d'.size := by simpa using hi
   have hj' : j < d'.size := by simpa using hj
   have h1 := hs i j (Nat.zero_le _) hij (by omega)
   rw [getElem!_pos d' i hi', getElem!_pos d' j hj'] at h1
   have h2 : ¬ cmpE d'[j] d'[i] < 0 := of_decide_eq_false h1
   simpa using h2
 · have hk : k < d'.size := by have := (List.getElem?_eq_some_iff.1 hx).1; simpa using this
   have hx' : d'[k]! = x := by
    rw [getElem!_pos d' k hk]
    have := (List.getElem?_eq_some_iff.1 hx).2
    simpa using this
   have h1 := HoldsK.cells hHs Ev.cs_len hk j u (by rw [hx']; exact hu)
   rw [add_at] at h1
   exact h1
theorem sortE_none (p : Option Addr) (cap : Nat) (w : World) : Calls Tryz.prog 245 #[.slice p 0 cap, .func (.func 246) #[] #[]] w fun e w' => e = .returned (.tuple #[]) ∧ w' = w := AnyF.slices_SortFunc_none Tryz.sortE p cap (.func (.func 246) #[] #[]) w
end Go.Proofs.YtnnmlhmffnfjfaaGreat
