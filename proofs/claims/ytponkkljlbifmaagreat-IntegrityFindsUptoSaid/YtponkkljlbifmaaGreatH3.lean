/-
  Texts: AlgP, Rg.
-/
import Derived.Test.YtponkkljlbifmaaGreatH2
set_option linter.unusedVariables false
/-
  Plain mathematics: a canonical list of intervals is a strictly ascending list of points; what merge computes. No program here.
-/
namespace Go.Proofs.YtponkkljlbifmaaGreat
open Go.RowKit
set_option maxRecDepth 100000

abbrev ascV (l : List Vl) : Prop := l.Pairwise (fun a b => cmpV a b < 0)
/-- the number of points up to v is odd -/
def par : List Vl → Vl → Bool
  | [], _ => false
  | x :: P, v => xor (decide (cmpV x v ≤ 0)) (par P v)
theorem par_none {v : Vl} : ∀ {P : List Vl}, (∀ p ∈ P, ¬ cmpV p v ≤ 0) → par P v = false
  | [], _ => rfl
  | x :: P, h => by
    rw [par, par_none (P := P) (fun p hp => h p (List.mem_cons_of_mem _ hp)), decide_eq_false (h x List.mem_cons_self)]
    rfl
theorem par_same {v u : Vl} : ∀ {P : List Vl}, (∀ p ∈ P, cmpV p v ≤ 0 ↔ cmpV p u ≤ 0) → par P v = par P u
  | [], _ => rfl
  | x :: P, h => by
    rw [par, par, par_same (P := P) (fun p hp => h p (List.mem_cons_of_mem _ hp))]
    have := h x List.mem_cons_self
    rw [decide_eq_decide.2 this]
theorem par_head {x : Vl} {P : List Vl} {v : Vl} (h : ascV (x :: P)) (hx : ¬ cmpV x v ≤ 0) : par (x :: P) v = false := by
  refine par_none fun p hp => ?_
  rcases List.mem_cons.1 hp with rfl | hp
  · exact hx
  · exact cmpV_not (cmpV_lt_trans (cmpV_gt hx) ((List.pairwise_cons.1 h).1 p hp))

def ivsOf : List Vl → List Iv
  | [] => []
  | [x] => [⟨x, zeroV, true⟩]
  | x :: y :: P => ⟨x, y, false⟩ :: ivsOf P
theorem pts_ivs : ∀ P : List Vl, ptsL (ivsOf P) = P
  | [] => rfl
  | [x] => rfl
  | x :: y :: P => by simp [ivsOf, ptsL, pts_ivs P]
theorem ivs_len : ∀ P : List Vl, 2 * (ivsOf P).length ≤ P.length + 1
  | [] => by simp [ivsOf]
  | [x] => by simp [ivsOf]
  | x :: y :: P => by have := ivs_len P; simp [ivsOf]; omega
theorem inL_cons (x : Iv) (l : List Iv) (v : Vl) : inL (x :: l) v = (inI x v || inL l v) := by simp [inL]
theorem in_ivs (v : Vl) : ∀ P : List Vl, ascV P → inL (ivsOf P) v = par P v
  | [], _ => rfl
  | [x], _ => by simp [ivsOf, inL, inI, par]
  | x :: y :: P, h => by
    have k1 := List.pairwise_cons.1 h
    have k2 := List.pairwise_cons.1 k1.2
    have ih := in_ivs v P k2.2
    rw [ivsOf, inL_cons, ih, par, par]
    have hxy := k1.1 y List.mem_cons_self
    by_cases hy : cmpV y v ≤ 0
    · have hx : cmpV x v ≤ 0 := by have := cmpV_lt_of_lt hxy hy; omega
      have hn : ¬ cmpV v y < 0 := by have := cmpV_anti y v; omega
      simp [inI, hx, hy, hn]
    · have hv := cmpV_gt hy
      have hp : par P v = false := par_none fun p hp => cmpV_not (cmpV_lt_trans hv (k2.1 p hp))
      rw [hp]
      simp [inI, hy, hv]
theorem ord_pts : ∀ (l : List Iv) (p : Option Iv), ordFrom p l = true → ivsOf (ptsL l) = l ∧ ascV (ptsL l) ∧ (∀ v ∈ ptsL l, validV v = true) ∧ ∀ y, p = some y → ∀ v ∈ ptsL l, cmpV y.t v < 0
  | [], p, _ => ⟨rfl, List.Pairwise.nil, fun v h => (by simp [ptsL] at h), fun y _ v h => (by simp [ptsL] at h)⟩
  | x :: r, p, h => by
    rw [ordFrom_cons, Bool.and_eq_true] at h
    obtain ⟨h1, h2⟩ := h
    obtain ⟨xf, xt, xo⟩ := x
    unfold okI at h1
    rw [Bool.and_eq_true, Bool.and_eq_true] at h1
    obtain ⟨⟨hf, hp⟩, ht⟩ := h1
    have hpy : ∀ y, p = some y → cmpV y.t xf < 0 := by
      rintro y rfl
      simpa using hp
    cases xo with
    | true =>
      simp only [if_true, Bool.and_eq_true, decide_eq_true_eq] at ht
      obtain ⟨hr, hz⟩ := ht
      have hr' : r = [] := by simpa using hr
      subst hr'
      subst hz
      refine ⟨rfl, List.pairwise_singleton _ _, fun v hv => ?_, fun y hy v hv => ?_⟩
      · have : v = xf := by simpa [ptsL] using hv
        rw [this]; exact hf
      · have : v = xf := by simpa [ptsL] using hv
        rw [this]; exact hpy y hy
    | false =>
      simp only [Bool.false_eq_true, if_false, Bool.and_eq_true, decide_eq_true_eq] at ht
      obtain ⟨hv, hlt⟩ := ht
      obtain ⟨i1, i2, i3, i4⟩ := ord_pts r _ h2
      have i5 := i4 _ rfl
      have e : ptsL (⟨xf, xt, false⟩ :: r) = xf :: xt :: ptsL r := by simp [ptsL]
      rw [e]
      refine ⟨by rw [ivsOf, i1], ?_, ?_, ?_⟩
      · refine List.pairwise_cons.2 ⟨fun q hq => ?_, List.pairwise_cons.2 ⟨i5, i2⟩⟩
        rcases List.mem_cons.1 hq with rfl | hq
        · exact hlt
        · exact cmpV_lt_trans hlt (i5 q hq)
      · intro q hq
        rcases List.mem_cons.1 hq with rfl | hq
        · exact hf
        · rcases List.mem_cons.1 hq with rfl | hq
          · exact hv
          · exact i3 q hq
      · intro y hy q hq
        have h0 := hpy y hy
        rcases List.mem_cons.1 hq with rfl | hq
        · exact h0
        · rcases List.mem_cons.1 hq with rfl | hq
          · exact cmpV_lt_trans h0 hlt
          · exact cmpV_lt_trans h0 (cmpV_lt_trans hlt (i5 q hq))
theorem ord_ivs : ∀ (P : List Vl) (p : Option Iv), ascV P → (∀ v ∈ P, validV v = true) → (∀ y, p = some y → ∀ v ∈ P, cmpV y.t v < 0) → ordFrom p (ivsOf P) = true
  | [], p, _, _, _ => by simp [ivsOf, ordFrom]
  | [x], p, _, hv, hp => by
    rw [ivsOf, ordFrom_cons, Bool.and_eq_true]
    refine ⟨?_, rfl⟩
    have h1 := hv x List.mem_cons_self
    cases p with
    | none => simp [okI, h1]
    | some y => simp [okI, h1, hp y rfl x List.mem_cons_self]
  | x :: y :: P, p, h, hv, hp => by
    have k1 := List.pairwise_cons.1 h
    have k2 := List.pairwise_cons.1 k1.2
    rw [ivsOf, ordFrom_cons, Bool.and_eq_true]
    refine ⟨?_, ord_ivs P _ k2.2 (fun v h => hv v (List.mem_cons_of_mem _ (List.mem_cons_of_mem _ h))) (fun z hz v h => ?_)⟩
    · have h1 := hv x List.mem_cons_self
      have h2 := hv y (List.mem_cons_of_mem _ List.mem_cons_self)
      have h3 := k1.1 y List.mem_cons_self
      cases p with
      | none => simp [okI, h1, h2, h3]
      | some z => simp [okI, h1, h2, h3, hp z rfl x List.mem_cons_self]
    · injection hz with hz
      rw [← hz]
      exact k2.1 v h
/-- points that part the valid values alike are the same -/
theorem asc_ext : ∀ (P Q : List Vl), ascV P → ascV Q → (∀ v ∈ P, validV v = true) → (∀ v ∈ Q, validV v = true) → (∀ v, validV v = true → par P v = par Q v) → P = Q
  | [], [], _, _, _, _, _ => rfl
  | [], y :: Q, _, hq, _, vq, h => by
    have := h y (vq y List.mem_cons_self)
    have k := List.pairwise_cons.1 hq
    rw [par, par, par_none (P := Q) (fun p hp => cmpV_not (k.1 p hp))] at this
    simp [cmpV_self] at this
  | x :: P, [], hp, _, vp, _, h => by
    have := h x (vp x List.mem_cons_self)
    have k := List.pairwise_cons.1 hp
    rw [par, par, par_none (P := P) (fun p hp => cmpV_not (k.1 p hp))] at this
    simp [cmpV_self] at this
  | x :: P, y :: Q, hp, hq, vp, vq, h => by
    have k1 := List.pairwise_cons.1 hp
    have k2 := List.pairwise_cons.1 hq
    have hx := h x (vp x List.mem_cons_self)
    have hy := h y (vq y List.mem_cons_self)
    have ex : par (x :: P) x = true := by rw [par, par_none (P := P) (fun p hp => cmpV_not (k1.1 p hp))]; simp [cmpV_self]
    have ey : par (y :: Q) y = true := by rw [par, par_none (P := Q) (fun p hp => cmpV_not (k2.1 p hp))]; simp [cmpV_self]
    have hyx : cmpV y x ≤ 0 := by
      rcases Int.lt_or_le 0 (cmpV y x) with h' | h'
      · rw [ex, par_head hq (by omega)] at hx; cases hx
      · exact h'
    have hxy : cmpV x y ≤ 0 := by
      rcases Int.lt_or_le 0 (cmpV x y) with h' | h'
      · rw [ey, par_head hp (by omega)] at hy; cases hy
      · exact h'
    have e : x = y := (cmpV_zero x y).1 (by have := cmpV_anti x y; omega)
    subst e
    congr 1
    refine asc_ext P Q k1.2 k2.2 (fun v h => vp v (List.mem_cons_of_mem _ h)) (fun v h => vq v (List.mem_cons_of_mem _ h)) fun v hv => ?_
    by_cases hxv : cmpV x v ≤ 0
    · have := h v hv
      rw [par, par, decide_eq_true hxv] at this
      simpa using this
    · have hgt := cmpV_gt hxv
      rw [par_none (P := P) (fun p hp => cmpV_not (cmpV_lt_trans hgt (k1.1 p hp))), par_none (P := Q) (fun p hp => cmpV_not (cmpV_lt_trans hgt (k2.1 p hp)))]
/-- canonical lists with the same valid values are equal -/
theorem ord_ext {a b : List Iv} (ha : ordFrom none a = true) (hb : ordFrom none b = true) (h : ∀ v, validV v = true → inL a v = inL b v) : a = b := by
  obtain ⟨a1, a2, a3, _⟩ := ord_pts a none ha
  obtain ⟨b1, b2, b3, _⟩ := ord_pts b none hb
  have : ptsL a = ptsL b := asc_ext _ _ a2 b2 a3 b3 fun v hv => by
    rw [← in_ivs v _ a2, ← in_ivs v _ b2, a1, b1]
    exact h v hv
  rw [← a1, ← b1, this]

/-! merge -/
def mp (op : Bool → Bool → Bool) : Nat → List Vl → List Vl → Bool → Bool → Bool → List Vl
  | 0, _, _, _, _, _ => []
  | f + 1, la, lb, ia, ib, ins =>
    if la.isEmpty && lb.isEmpty then [] else
      if op (xor (hitL la (leastL la lb)) ia) (xor (hitL lb (leastL la lb)) ib) = ins then
        mp op f (if hitL la (leastL la lb) then la.tail else la) (if hitL lb (leastL la lb) then lb.tail else lb) (xor (hitL la (leastL la lb)) ia) (xor (hitL lb (leastL la lb)) ib) ins
      else leastL la lb :: mp op f (if hitL la (leastL la lb) then la.tail else la) (if hitL lb (leastL la lb) then lb.tail else lb) (xor (hitL la (leastL la lb)) ia) (xor (hitL lb (leastL la lb)) ib)
        (op (xor (hitL la (leastL la lb)) ia) (xor (hitL lb (leastL la lb)) ib))
theorem setLast_snoc (out : List Iv) (x : Iv) (p : Vl) : setLast (out ++ [x]) p = out ++ [⟨x.f, p, false⟩] := by simp [setLast]
theorem mergeF_eq (op : Bool → Bool → Bool) : ∀ (f : Nat) (la lb : List Vl) (ia ib : Bool),
    (∀ out, mergeF op f la lb ia ib false out = out ++ ivsOf (mp op f la lb ia ib false)) ∧
    (∀ out x, mergeF op f la lb ia ib true (out ++ [⟨x, zeroV, true⟩]) = out ++ ivsOf (x :: mp op f la lb ia ib true))
  | 0, la, lb, ia, ib => ⟨fun out => by simp [mergeF, mp, ivsOf], fun out x => by simp [mergeF, mp, ivsOf]⟩
  | f + 1, la, lb, ia, ib => by
    unfold mergeF mp
    by_cases he : (la.isEmpty && lb.isEmpty) = true
    · simp only [he, if_true]
      exact ⟨fun out => by simp [ivsOf], fun out x => by simp [ivsOf]⟩
    · simp only [he, Bool.false_eq_true, if_false]
      generalize leastL la lb = p
      generalize (if hitL la p = true then la.tail else la) = la'
      generalize (if hitL lb p = true then lb.tail else lb) = lb'
      generalize ((hitL la p).xor ia) = ia'
      generalize ((hitL lb p).xor ib) = ib'
      obtain ⟨i1, i2⟩ := mergeF_eq op f la' lb' ia' ib'
      cases hn : op ia' ib'
      · refine ⟨fun out => ?_, fun out x => ?_⟩
        · simp only [outStep, Bool.false_and, Bool.not_false, Bool.and_false, Bool.false_eq_true, if_false, if_true]
          exact i1 out
        · simp only [outStep, Bool.false_and, Bool.not_false, Bool.and_true, Bool.false_eq_true, if_false, if_true, setLast_snoc]
          rw [i1, ivsOf, List.append_assoc]
          rfl
      · refine ⟨fun out => ?_, fun out x => ?_⟩
        · simp only [outStep, Bool.not_false, Bool.and_true, if_true, Bool.true_eq_false, if_false]
          exact i2 out p
        · simp only [outStep, Bool.not_true, Bool.and_false, Bool.false_and, Bool.false_eq_true, if_false, if_true]
          exact i2 out x
theorem least_mem {la lb : List Vl} (h : ¬ (la.isEmpty && lb.isEmpty) = true) : leastL la lb ∈ la ∨ leastL la lb ∈ lb := by
  match la, lb with
  | [], [] => simp at h
  | x :: _, [] => simp [leastL]
  | [], y :: _ => simp [leastL]
  | x :: _, y :: _ =>
    simp only [leastL]
    split
    · left; simp
    · right; simp
theorem least_le {la lb : List Vl} (ha : ascV la) (hb : ascV lb) : (∀ q ∈ la, cmpV (leastL la lb) q ≤ 0) ∧ (∀ q ∈ lb, cmpV (leastL la lb) q ≤ 0) := by
  have hd : ∀ (x : Vl) (l : List Vl), ascV (x :: l) → ∀ q ∈ x :: l, cmpV x q ≤ 0 := by
    intro x l h q hq
    rcases List.mem_cons.1 hq with rfl | hq
    · have := cmpV_self q; omega
    · have := (List.pairwise_cons.1 h).1 q hq; omega
  match la, lb, ha, hb with
  | [], [], _, _ => exact ⟨(fun q h => by cases h), (fun q h => by cases h)⟩
  | x :: l, [], ha, _ => exact ⟨hd x l ha, fun q h => by cases h⟩
  | [], y :: l, _, hb => exact ⟨(fun q h => by cases h), hd y l hb⟩
  | x :: l, y :: m, ha, hb =>
    simp only [leastL]
    have e := cmpV_anti x y
    split
    · exact ⟨hd x l ha, fun q hq => cmpV_trans (b := y) (by omega) (hd y m hb q hq)⟩
    · exact ⟨fun q hq => cmpV_trans (b := x) (by omega) (hd x l ha q hq), hd y m hb⟩
/-- what is left of a list behind its least point -/
theorem hit_part {l : List Vl} {p : Vl} (h : ascV l) (hp : ∀ q ∈ l, cmpV p q ≤ 0) : ascV (if hitL l p = true then l.tail else l) ∧ (∀ q ∈ (if hitL l p = true then l.tail else l), cmpV p q < 0 ∧ q ∈ l) ∧
    (∀ v, cmpV p v ≤ 0 → par l v = xor (hitL l p) (par (if hitL l p = true then l.tail else l) v)) ∧ l.length = (if hitL l p = true then l.tail else l).length + (if hitL l p = true then 1 else 0) := by
  match l, h, hp with
  | [], _, _ => simp [hitL, par]
  | x :: l, h, hp =>
    have k := List.pairwise_cons.1 h
    by_cases hx : x = p
    · have hh : hitL (x :: l) p = true := by simp [hitL, hx]
      simp only [hh, if_true, List.tail_cons]
      refine ⟨k.2, fun q hq => ⟨by rw [← hx]; exact k.1 q hq, List.mem_cons_of_mem _ hq⟩, fun v hv => ?_, by simp⟩
      rw [par, hx, decide_eq_true hv]
    · have hh : hitL (x :: l) p = false := by simp [hitL, hx]
      simp only [hh, Bool.false_eq_true, if_false]
      refine ⟨h, fun q hq => ⟨?_, hq⟩, fun v hv => by simp, by simp⟩
      have hpx : cmpV p x < 0 := by
        have h1 := hp x List.mem_cons_self
        have h2 : cmpV p x ≠ 0 := fun e => hx ((cmpV_zero p x).1 e).symm
        omega
      rcases List.mem_cons.1 hq with rfl | hq
      · exact hpx
      · exact cmpV_lt_trans hpx (k.1 q hq)
theorem mp_spec (op : Bool → Bool → Bool) : ∀ (f : Nat) (la lb : List Vl) (ia ib : Bool), la.length + lb.length ≤ f → ascV la → ascV lb →
    ascV (mp op f la lb ia ib (op ia ib)) ∧ (∀ q ∈ mp op f la lb ia ib (op ia ib), q ∈ la ∨ q ∈ lb) ∧ (mp op f la lb ia ib (op ia ib)).length ≤ la.length + lb.length ∧
      ∀ v, xor (op ia ib) (par (mp op f la lb ia ib (op ia ib)) v) = op (xor ia (par la v)) (xor ib (par lb v))
  | 0, la, lb, ia, ib, hf, _, _ => by
    have e1 : la = [] := List.eq_nil_of_length_eq_zero (by omega)
    have e2 : lb = [] := List.eq_nil_of_length_eq_zero (by omega)
    subst e1 e2
    simp [mp, par]
  | f + 1, la, lb, ia, ib, hf, ha, hb => by
    unfold mp
    by_cases he : (la.isEmpty && lb.isEmpty) = true
    · have e1 : la = [] := by simp at he; exact he.1
      have e2 : lb = [] := by simp at he; exact he.2
      subst e1 e2
      simp [par]
    · simp only [he, Bool.false_eq_true, if_false]
      obtain ⟨hla, hlb⟩ := least_le ha hb
      have hm := least_mem he
      have hone := hit_one he
      generalize leastL la lb = p at *
      obtain ⟨a1, a2, a3, a4⟩ := hit_part ha hla
      obtain ⟨b1, b2, b3, b4⟩ := hit_part hb hlb
      have hlen : (if hitL la p = true then la.tail else la).length + (if hitL lb p = true then lb.tail else lb).length + 1 ≤ la.length + lb.length := by
        rcases hone with h | h
        · have e : (if hitL la p = true then 1 else 0) = 1 := if_pos h
          omega
        · have e : (if hitL lb p = true then 1 else 0) = 1 := if_pos h
          omega
      have hnv : ∀ v, ¬ cmpV p v ≤ 0 → par la v = false ∧ par lb v = false := fun v hv =>
        ⟨par_none fun q hq => cmpV_not (cmpV_lt_of_lt (cmpV_gt hv) (hla q hq)), par_none fun q hq => cmpV_not (cmpV_lt_of_lt (cmpV_gt hv) (hlb q hq))⟩
      generalize (if hitL la p = true then la.tail else la) = la' at *
      generalize (if hitL lb p = true then lb.tail else lb) = lb' at *
      obtain ⟨c1, c2, c3, c4⟩ := mp_spec op f la' lb' ((hitL la p).xor ia) ((hitL lb p).xor ib) (by omega) a1 b1
      have hbig : ∀ q ∈ mp op f la' lb' ((hitL la p).xor ia) ((hitL lb p).xor ib) (op ((hitL la p).xor ia) ((hitL lb p).xor ib)), cmpV p q < 0 := fun q hq => by
        rcases c2 q hq with h | h
        · exact (a2 q h).1
        · exact (b2 q h).1
      have hsub : ∀ q ∈ mp op f la' lb' ((hitL la p).xor ia) ((hitL lb p).xor ib) (op ((hitL la p).xor ia) ((hitL lb p).xor ib)), q ∈ la ∨ q ∈ lb := fun q hq => by
        rcases c2 q hq with h | h
        · exact .inl (a2 q h).2
        · exact .inr (b2 q h).2
      have hge : ∀ v, cmpV p v ≤ 0 → op ((hitL la p).xor ia |>.xor (par la' v)) ((hitL lb p).xor ib |>.xor (par lb' v)) = op (ia.xor (par la v)) (ib.xor (par lb v)) := fun v hv => by
        rw [a3 v hv, b3 v hv]
        congr 1
        · cases hitL la p <;> cases ia <;> cases par la' v <;> rfl
        · cases hitL lb p <;> cases ib <;> cases par lb' v <;> rfl
      by_cases hn : op ((hitL la p).xor ia) ((hitL lb p).xor ib) = op ia ib
      · rw [if_pos hn]
        rw [hn] at c1 c2 c3 c4 hbig hsub
        refine ⟨c1, hsub, by omega, fun v => ?_⟩
        by_cases hv : cmpV p v ≤ 0
        · rw [c4 v, hge v hv]
        · rw [(hnv v hv).1, (hnv v hv).2, par_none fun q hq => cmpV_not (cmpV_lt_trans (cmpV_gt hv) (hbig q hq))]
          simp
      · rw [if_neg hn]
        refine ⟨List.pairwise_cons.2 ⟨hbig, c1⟩, fun q hq => ?_, by rw [List.length_cons]; omega, fun v => ?_⟩
        · rcases List.mem_cons.1 hq with rfl | hq
          · exact hm
          · exact hsub q hq
        · by_cases hv : cmpV p v ≤ 0
          · rw [← hge v hv, ← c4 v, par, decide_eq_true hv]
            revert hn
            cases op ((hitL la p).xor ia) ((hitL lb p).xor ib) <;> cases op ia ib <;> simp
          · rw [(hnv v hv).1, (hnv v hv).2, par_head (List.pairwise_cons.2 ⟨hbig, c1⟩) hv]
            simp
/-- what merge computes of two canonical lists -/
theorem merge_spec (op : Bool → Bool → Bool) (hop : op false false = false) {a b : List Iv} (ha : ordFrom none a = true) (hb : ordFrom none b = true) :
    ordFrom none (mergeL op a b) = true ∧ (ptsL (mergeL op a b)).length ≤ (ptsL a).length + (ptsL b).length ∧ ∀ v, inL (mergeL op a b) v = op (inL a v) (inL b v) := by
  obtain ⟨a1, a2, a3, _⟩ := ord_pts a none ha
  obtain ⟨b1, b2, b3, _⟩ := ord_pts b none hb
  have e : mergeL op a b = ivsOf (mp op ((ptsL a).length + (ptsL b).length) (ptsL a) (ptsL b) false false false) := by
    unfold mergeL
    rw [(mergeF_eq op _ _ _ _ _).1 []]
    rfl
  obtain ⟨c1, c2, c3, c4⟩ := mp_spec op ((ptsL a).length + (ptsL b).length) (ptsL a) (ptsL b) false false (Nat.le_refl _) a2 b2
  rw [hop] at c1 c2 c3 c4
  rw [e]
  refine ⟨ord_ivs _ _ c1 (fun v hv => (c2 v hv).elim (a3 v) (b3 v)) (fun y h => by cases h), by rw [pts_ivs]; exact c3, fun v => ?_⟩
  rw [in_ivs v _ c1]
  have := c4 v
  rw [← in_ivs v _ a2, ← in_ivs v _ b2, a1, b1] at this
  simpa using this

def chg (g : Vl → Bool) : Bool → List Vl → List Vl
  | _, [] => []
  | ins, p :: P => if g p = ins then chg g ins P else p :: chg g (g p) P
/-- the greatest of the points up to v -/
def lastLe : List Vl → Vl → Option Vl
  | [], _ => none
  | p :: P, v => if cmpV p v ≤ 0 then some ((lastLe P v).getD p) else none
theorem lastLe_some {v : Vl} : ∀ {P : List Vl}, ascV P → ∀ u, lastLe P v = some u → u ∈ P ∧ cmpV u v ≤ 0 ∧ ∀ q ∈ P, cmpV q v ≤ 0 → cmpV q u ≤ 0
  | [], _, u, h => by cases h
  | p :: P, hs, u, h => by
    have k := List.pairwise_cons.1 hs
    unfold lastLe at h
    split at h
    · rename_i hp
      injection h with h
      cases hl : lastLe P v with
      | none =>
        rw [hl] at h
        have e : p = u := h
        subst e
        refine ⟨List.mem_cons_self, hp, fun q hq hqv => ?_⟩
        rcases List.mem_cons.1 hq with rfl | hq
        · have := cmpV_self q; omega
        · cases P with
          | nil => cases hq
          | cons r P' =>
            unfold lastLe at hl
            split at hl
            · cases hl
            · rename_i hr
              have k' := List.pairwise_cons.1 k.2
              rcases List.mem_cons.1 hq with rfl | hq
              · exact absurd hqv hr
              · exact absurd hqv (cmpV_not (cmpV_lt_trans (cmpV_gt hr) (k'.1 q hq)))
      | some u' =>
        rw [hl] at h
        have e : u' = u := h
        subst e
        obtain ⟨h1, h2, h3⟩ := lastLe_some k.2 u' hl
        refine ⟨List.mem_cons_of_mem _ h1, h2, fun q hq hqv => ?_⟩
        rcases List.mem_cons.1 hq with rfl | hq
        · have := k.1 u' h1; omega
        · exact h3 q hq hqv
    · cases h
theorem lastLe_none {v : Vl} : ∀ {P : List Vl}, ascV P → lastLe P v = none → ∀ q ∈ P, ¬ cmpV q v ≤ 0
  | [], _, _, q, hq => by cases hq
  | p :: P, hs, h, q, hq => by
    have k := List.pairwise_cons.1 hs
    unfold lastLe at h
    split at h
    · cases h
    · rename_i hp
      rcases List.mem_cons.1 hq with rfl | hq
      · exact hp
      · exact cmpV_not (cmpV_lt_trans (cmpV_gt hp) (k.1 q hq))
theorem chg_sub (g : Vl → Bool) : ∀ (P : List Vl) (ins : Bool), (∀ q ∈ chg g ins P, q ∈ P) ∧ (chg g ins P).length ≤ P.length
  | [], ins => ⟨(fun q h => by cases h), by simp [chg]⟩
  | p :: P, ins => by
    unfold chg
    split
    · have ih := chg_sub g P ins
      exact ⟨fun q h => List.mem_cons_of_mem _ (ih.1 q h), by rw [List.length_cons]; omega⟩
    · have ih := chg_sub g P (g p)
      refine ⟨fun q h => ?_, by rw [List.length_cons, List.length_cons]; omega⟩
      rcases List.mem_cons.1 h with rfl | h
      · exact List.mem_cons_self
      · exact List.mem_cons_of_mem _ (ih.1 q h)
theorem chg_asc (g : Vl → Bool) : ∀ (P : List Vl) (ins : Bool), ascV P → ascV (chg g ins P)
  | [], _, _ => List.Pairwise.nil
  | p :: P, ins, h => by
    have k := List.pairwise_cons.1 h
    unfold chg
    split
    · exact chg_asc g P ins k.2
    · exact List.pairwise_cons.2 ⟨fun q hq => k.1 q ((chg_sub g P _).1 q hq), chg_asc g P _ k.2⟩
theorem chg_par (g : Vl → Bool) (v : Vl) : ∀ (P : List Vl) (ins : Bool), ascV P → xor ins (par (chg g ins P) v) = match lastLe P v with | none => ins | some u => g u
  | [], ins, _ => by simp [chg, par, lastLe]
  | p :: P, ins, h => by
    have k := List.pairwise_cons.1 h
    by_cases hp : cmpV p v ≤ 0
    · have e : (match lastLe (p :: P) v with | none => ins | some u => g u) = (match lastLe P v with | none => g p | some u => g u) := by
        rw [lastLe, if_pos hp]
        cases lastLe P v <;> rfl
      rw [e, ← chg_par g v P (g p) k.2, chg]
      by_cases hg : g p = ins
      · rw [if_pos hg, hg]
      · rw [if_neg hg, par, decide_eq_true hp]
        revert hg
        generalize par (chg g (g p) P) v = z
        generalize g p = y
        cases ins <;> cases y <;> cases z <;> simp
    · rw [lastLe, if_neg hp, par_none (fun q hq => ?_)]
      · simp
      · rcases List.mem_cons.1 ((chg_sub g (p :: P) ins).1 q hq) with rfl | hq
        · exact hp
        · exact cmpV_not (cmpV_lt_trans (cmpV_gt hp) (k.1 q hq))
theorem par_last {Q P : List Vl} (hP : ascV P) (hs : ∀ q ∈ Q, q ∈ P) (v : Vl) : par Q v = match lastLe P v with | none => false | some u => par Q u := by
  cases hl : lastLe P v with
  | none => exact par_none fun q hq => lastLe_none hP hl q (hs q hq)
  | some u =>
    obtain ⟨_, h2, h3⟩ := lastLe_some hP u hl
    exact par_same fun q hq => ⟨fun h => h3 q (hs q hq) h, fun h => cmpV_trans h h2⟩
end Go.Proofs.YtponkkljlbifmaaGreat

/-
  Plain mathematics of regions: trees of parts, which rows they contain, the canonical form and that it is unique. No program here.
-/
namespace Go.Proofs.YtponkkljlbifmaaGreat
open Go.RowKit
set_option maxRecDepth 100000

/-- a region: its parts one after another, then its width and whether it is full -/
inductive Rg where
  | nil (w : Int) (f : Bool)
  | cons (vs : List Iv) (rest tail : Rg)
  deriving DecidableEq
namespace Rg
def w : Rg → Int
  | nil w _ => w
  | cons _ _ t => t.w
def f : Rg → Bool
  | nil _ f => f
  | cons _ _ t => t.f
def len : Rg → Nat
  | nil _ _ => 0
  | cons _ _ t => t.len + 1
def parts : Rg → List (List Iv × Rg)
  | nil _ _ => []
  | cons vs r t => (vs, r) :: t.parts
def mkR (w : Int) (f : Bool) : List (List Iv × Rg) → Rg
  | [] => nil w f
  | p :: l => cons p.1 p.2 (mkR w f l)
def size : Rg → Nat
  | nil _ _ => 0
  | cons _ r t => 1 + r.size + t.size
def fits : Rg → Bool
  | nil _ _ => true
  | cons vs r t => decide (vs.length ≤ 64) && r.fits && t.fits
def nix (r : Rg) : Bool := !r.f && decide (r.len = 0)
/-- which rows it contains: the first part that contains the first cell decides -/
def den : Rg → List Vl → Bool
  | nil _ f, [] => f
  | nil _ _, _ :: _ => false
  | cons _ _ t, [] => den t []
  | cons vs r t, v :: row => if inL vs v then den r row else den t (v :: row)
/-- the rest behind a first cell -/
def at_ (n : Int) : Rg → Vl → Rg
  | nil _ _, _ => nil n false
  | cons vs r t, v => if inL vs v then r else at_ n t v
theorem len_parts : ∀ r : Rg, r.parts.length = r.len
  | nil _ _ => rfl
  | cons _ _ t => by simp [parts, len, len_parts t]
theorem mk_parts : ∀ r : Rg, mkR r.w r.f r.parts = r
  | nil _ _ => rfl
  | cons _ _ t => by simp only [parts, mkR, w, f, mk_parts t]
theorem w_mk (w : Int) (f : Bool) : ∀ l, (mkR w f l).w = w
  | [] => rfl
  | _ :: l => w_mk w f l
theorem f_mk (w : Int) (f : Bool) : ∀ l, (mkR w f l).f = f
  | [] => rfl
  | _ :: l => f_mk w f l
theorem parts_mk (w : Int) (f : Bool) : ∀ l, (mkR w f l).parts = l
  | [] => rfl
  | p :: l => by simp [mkR, parts, parts_mk w f l]
theorem ext {a b : Rg} (h1 : a.w = b.w) (h2 : a.f = b.f) (h3 : a.parts = b.parts) : a = b := by rw [← mk_parts a, ← mk_parts b, h1, h2, h3]
theorem none_iff (r : Rg) : r.nix = true ↔ r.f = false ∧ r.parts = [] := by
  unfold nix
  rw [← len_parts]
  simp
theorem at_spec (n : Int) (v : Vl) : ∀ r : Rg, (∃ p ∈ r.parts, inL p.1 v = true ∧ r.at_ n v = p.2) ∨ (r.at_ n v = nil n false ∧ ∀ p ∈ r.parts, inL p.1 v = false)
  | nil _ _ => .inr ⟨rfl, by simp [parts]⟩
  | cons vs r t => by
    cases h : inL vs v
    · rcases at_spec n v t with ⟨p, hp, h1, h2⟩ | ⟨h1, h2⟩
      · exact .inl ⟨p, List.mem_cons_of_mem _ hp, h1, by simp [at_, h, h2]⟩
      · refine .inr ⟨by simp [at_, h, h1], fun p hp => ?_⟩
        rcases List.mem_cons.1 hp with rfl | hp
        · exact h
        · exact h2 p hp
    · exact .inl ⟨(vs, r), List.mem_cons_self, h, by simp [at_, h]⟩
end Rg
open Rg
def lo (l : List Iv) : Vl := match l with | [] => zeroV | x :: _ => x.f
def disj (a b : List Iv) : Prop := ∀ v, validV v = true → inL a v = true → inL b v = false
/-- the canonical form of a width, whatever its size -/
def Form : Nat → Rg → Prop
  | 0, r => r.w = 0 ∧ r.parts = []
  | n + 1, r => r.w = ((n + 1 : Nat) : Int) ∧ r.f = false ∧ (∀ p ∈ r.parts, p.1 ≠ [] ∧ ordFrom none p.1 = true ∧ Form n p.2 ∧ p.2.nix = false) ∧
      r.parts.Pairwise (fun p q => cmpV (lo p.1) (lo q.1) < 0 ∧ disj p.1 q.1 ∧ p.2 ≠ q.2)
theorem Form.width : ∀ {n : Nat} {r : Rg}, Form n r → r.w = (n : Int)
  | 0, _, h => h.1
  | _ + 1, _, h => h.1
theorem form_nil : ∀ n : Nat, Form n (.nil (n : Int) false)
  | 0 => ⟨rfl, rfl⟩
  | n + 1 => ⟨rfl, rfl, (fun p h => by cases h), List.Pairwise.nil⟩
theorem form_nil' (n : Nat) (r : Rg) (h : Form n r) (hn : r.nix = true) : r = .nil (n : Int) false := by
  have := (none_iff r).1 hn
  exact Rg.ext h.width this.1 this.2
theorem Form.at_ {n : Nat} {r : Rg} (h : Form (n + 1) r) (v : Vl) : Form n (r.at_ (n : Int) v) := by
  rcases at_spec (n : Int) v r with ⟨p, hp, _, e⟩ | ⟨e, _⟩
  · rw [e]; exact (h.2.2.1 p hp).2.2.1
  · rw [e]; exact form_nil n
def goodRow (n : Nat) (row : List Vl) : Prop := row.length = n ∧ ∀ v ∈ row, validV v = true
end Go.Proofs.YtponkkljlbifmaaGreat
