/-
  Texts: RCombine, AlgC, FStep, Ordered.
-/
import Derived.Test.YtmnmckblmoalkaaGreatB25
set_option linter.unusedVariables false
namespace Go.Proofs.YtmnmckblmoalkaaGreat
open Go.RowKit
set_option maxRecDepth 100000

/-- the distinct ends of the intervals of two lists, ascending -/
def ptsSet (a b : List Iv) : List Vl := (setL ((ptsR [a, b]).map fun v => [v])).map (fun r => r.headD zeroV)
theorem ptsSet_eq {a b : List Iv} {L : List Vl} (h : L.map (fun v => [v]) = setL ((ptsR [a, b]).map fun v => [v])) : ptsSet a b = L := by
  unfold ptsSet
  rw [← h, List.map_map]
  conv => rhs; rw [← List.map_id L]
  exact List.map_congr_left (fun _ _ => rfl)
def combStep (op : Bool → Bool → Bool) (a b : List Iv) (P : List Vl) (acc : List Iv) (i : Nat) : List Iv := if op (inL a (P.getD i zeroV)) (inL b (P.getD i zeroV)) then joinL acc (segI P i) else acc
def combTo (op : Bool → Bool → Bool) (a b : List Iv) (P : List Vl) (k : Nat) : List Iv := (List.range k).foldl (combStep op a b P) []
def combR (op : Bool → Bool → Bool) (a b : List Iv) : List Iv := combTo op a b (ptsSet a b) (ptsSet a b).length
theorem combTo_succ (op : Bool → Bool → Bool) (a b : List Iv) (P : List Vl) (k : Nat) : combTo op a b P (k + 1) = combStep op a b P (combTo op a b P k) k := by
  unfold combTo; rw [List.range_succ, List.foldl_append]; rfl
theorem joinL_len (L : List Iv) (x : Iv) : (joinL L x).length ≤ L.length + 1 := by
  unfold joinL
  split
  · simp
  · split <;> simp
theorem combTo_len (op : Bool → Bool → Bool) (a b : List Iv) (P : List Vl) (k : Nat) : (combTo op a b P k).length ≤ k := by
  induction k with
  | zero => simp [combTo]
  | succ k ih =>
    rw [combTo_succ]
    unfold combStep
    split
    · have := joinL_len (combTo op a b P k) (segI P k); omega
    · omega
theorem ptsSet_len (a b : List Iv) : (ptsSet a b).length ≤ 2 * a.length + 2 * b.length := by
  unfold ptsSet
  rw [List.length_map]
  have h := setL_len ((ptsR [a, b]).map fun v => [v])
  have h1 := ptsL_len a
  have h2 := ptsL_len b
  simp [ptsR] at h
  simp [ptsR]
  omega
theorem lsts_two {w : World} {g : Nat} {p q : LstP} (h : Blk w g 72 #[.slice p.1.1 p.1.2.1 p.1.2.2, .slice q.1.1 q.1.2.1 q.1.2.2]) (hp : LstOk w p) (hq : LstOk w q) : LstsS w (some ⟨g, 0, none⟩) 2 [p, q] := by
  refine ⟨⟨rfl, fun _ => ⟨g, 0, rfl, fun k x hx j u hu => ?_⟩⟩, fun r hr => ?_⟩
  · have hj : j = 0 := by
      rcases j with _ | j
      · rfl
      · simp [lstc] at hu
    subst hj
    simp [lstc] at hu
    rw [show 0 + k * 1 + 0 = k by omega, h.cell]
    rcases k with _ | _ | k
    · simp only [List.getElem?_cons_zero, Option.some.injEq] at hx; subst hx; simp [hu]
    · simp only [List.getElem?_cons_succ, List.getElem?_cons_zero, Option.some.injEq] at hx; subst hx; simp [hu]
    · simp at hx
  · simp only [List.mem_cons, List.not_mem_nil, or_false] at hr
    rcases hr with rfl | rfl
    · exact hp
    · exact hq

def CombPost (w : World) (R : List Iv) (e : Ending) (w' : World) : Prop :=
  ∃ (A' : Option Addr) (c' : Nat), e = .returned (.slice A' R.length c') ∧ w'.ownsRow w.heap.size 90 7 (.slice A' R.length c') R.length (R.flatMap Iv.cs) ∧ Below w.heap.size w w'

set_option maxHeartbeats 4000000 in
theorem rcombine_any (k : Int) (A B : Option Addr) (n m ca cb : Nat) (la lb : List Iv) (w : World) (hA : IvS w A n la) (hB : IvS w B m lb) (hn : n ≤ 64) (hm : m ≤ 64) :
    Calls Tryz.prog 97 #[.int .i64 k, .slice A n ca, .slice B m cb] w fun e w' => CombPost w (combR (opR k) la lb) e w' := by
  have HA := Lib.hid hA
  have HB := Lib.hid hB
  have Hla := Lib.hid hA.len
  have Hlb := Lib.hid hB.len
  clear hA hB
  go_enter Tryz.func97, Tryz.ntmps97
  go_wp2_with fail
  have hB0 : Below w.heap.size w (w.alloc (.cells #[.slice A n ca, .slice B m cb] 72)) := (Below.refl _ _).alloc (Nat.le_refl _) _
  have hK0 := keeps_of hB0
  refine (rpoints_any (some ⟨w.heap.size, 0, none⟩) 2 2 [((A, n, ca), la), ((B, m, cb), lb)] _ (lsts_two (Blk.new w _ _) ⟨HA.out.keep hK0, hn⟩ ⟨HB.out.keep hK0, hm⟩) (by omega)).mono ?_
  rintro e w1 ⟨A1, c1, P, hP, rfl, hS1, hb1⟩
  have HPe : Hid (ptsSet la lb = P) := ptsSet_eq (by simpa using hP)
  have hPl : P.length ≤ 256 := by
    have := ptsSet_len la lb
    rw [HPe.out] at this
    have := Hla.out
    have := Hlb.out
    omega
  have HR : Hid (combR (opR k) la lb = combTo (opR k) la lb P P.length) := by
    show _ = _
    unfold combR; rw [HPe.out]
  have HB1 := Lib.hid (Below.next hB0 hb1)
  have HS1 := Lib.hid hS1
  clear hP hS1 hK0 hB0 hb1
  go_wp2
  go_loopw [8, 17] (fun x i wr => ∃ (t nn : Nat) (A' : Option Addr) (c' : Nat), t ≤ P.length ∧ i = .int .i64 (t : Int) ∧ x = .slice A' nn c' ∧ nn ≤ t ∧ Hid ((combTo (opR k) la lb P t).length = nn) ∧ wr.ownsRow w1.heap.size 90 7 (.slice A' nn c') nn ((combTo (opR k) la lb P t).flatMap Iv.cs) ∧ Below w1.heap.size w1 wr) (fun _ i _ => P.length - (intOf i).toNat)
  case atStart => exact ⟨0, 0, none, 0, by omega, rfl, rfl, by omega, rfl, ⟨by simp [combTo], .inl ⟨rfl, rfl⟩⟩, Below.refl _ _⟩
  case round =>
    obtain ⟨t, nn, A', c', ht, rfl, rfl, hnn, hlen, ho, hb⟩ := hrel
    by_cases htl : t < P.length
    · obtain ⟨b, o, p, rfl, hp, hpc⟩ := (HS1.out.keep (keeps_of hb)).at htl
      have Hpt : Hid (P.getD t zeroV = p) := by
        show _ = _
        rw [List.getD_eq_getElem?_getD, hp]; rfl
      have Hst := Lib.hid (combTo_succ (opR k) la lb P t)
      obtain ⟨pk, pi, pt⟩ := p
      obtain ⟨x0, x1, x2⟩ := VlAt.of hpc
      dsimp only at x0 x1 x2
      clear hp hpc
      have HO := Lib.hid ho
      clear ho
      have hsz := hb.size
      obtain ⟨q1, Q1⟩ : ∃ q, Hid (inL la ⟨pk, pi, pt⟩ = q) := ⟨_, rfl⟩
      obtain ⟨q2, Q2⟩ : ∃ q, Hid (inL lb ⟨pk, pi, pt⟩ = q) := ⟨_, rfl⟩
      obtain ⟨q3, Q3⟩ : ∃ q, Hid (opR k q1 q2 = q) := ⟨_, rfl⟩
      have HBw := Lib.hid (Below.next HB1.out hb)
      go_wp2
      have hX := Blk.new wr 49 #[.int .i64 pk, .int .i64 pi, .string pt]
      have hBe : Below wr.heap.size wr (wr.alloc (.cells #[.int .i64 pk, .int .i64 pi, .string pt] 49)) := (Below.refl _ _).alloc (Nat.le_refl _) _
      generalize wr.alloc (.cells #[.int .i64 pk, .int .i64 pi, .string pt] 49) = W at *
      generalize hz : wr.heap.size = z at *
      have Hz := Lib.hid hz
      clear hz
      have hXc := hX.cell
      have hca := @cell_after W.drew
      refine wp_region_seg [([0, 1, 2, 4, 5], 3), ([], 6), ([], 7)] [] (by kernel_rfl) (by kernel_rfl) (fun _ _ d _ _ h => by cases d <;> exact h) ?_
      simp only [pickSegs, pickOps, opAt, List.map_cons, List.map_nil, List.getElem?_toArray, List.getElem?_cons_zero, List.getElem?_cons_succ, Option.getD_some]
      unfold wpBlocks
      repeat (go_big_quiet_step (fail))
      refine wpQuiet_nil ?_
      clear hca
      have hBw2 : Below w.heap.size w W.drew := by
        have h1 : Below wr.heap.size wr W := by rw [Hz.out]; exact hBe
        exact (Below.next HBw.out h1).drew
      go_wp2_with (first | (go_at_call 145; refine (rin_any A n ca la ⟨pk, pi, pt⟩ _ (HA.out.keep (keeps_of hBw2)) (by omega)).mono ?_; rintro e w3 ⟨rfl, hb3⟩; rw [Q1.out]))
      refine ⟨hb3, ?_⟩
      unfold wpBlocks
      refine wpQuiet_nil ?_
      have hBw3 := Below.next hBw2 hb3
      go_wp2_with (first | (go_at_call 145; refine (rin_any B m cb lb ⟨pk, pi, pt⟩ _ (HB.out.keep (keeps_of hBw3)) (by omega)).mono ?_; rintro e w4 ⟨rfl, hb4⟩; rw [Q2.out]))
      refine ⟨hb4, ?_⟩
      unfold wpBlocks
      refine wpQuiet_nil ?_
      go_wp2_with (first | (go_at_call 144; refine (apply_any k q1 q2 _).mono ?_; rintro e w5 ⟨rfl, rfl⟩; rw [Q3.out]))
      refine ⟨Below.refl _ _, ?_⟩
      unfold wpBlocks
      refine wpQuiet_nil ?_
      have hWr : Below wr.heap.size wr w4 := by
        have h1 : Below wr.heap.size wr W := by rw [Hz.out]; exact hBe
        exact Below.next (Below.next h1.drew hb3) hb4
      have HO4 := Lib.hid (own_at HO.out (fun g _ hl _ => hWr.block g hl))
      have hb14 : Below w1.heap.size w1 w4 := Below.next hb hWr
      have hs4 := hb14.size
      clear hb3 hb4 hBw2 hBw3 hBe hX hXc
      cases q3
      · go_wp2
        go_roundw
        case rel =>
          have hs := Hst.out
          unfold combStep at hs
          rw [Hpt.out, Q1.out, Q2.out, Q3.out] at hs
          simp only [Bool.false_eq_true, if_false] at hs
          refine ⟨t + 1, nn, A', c', by omega, by go_num, rfl, by omega, ?_, ?_, hb14⟩
          · show _ = _
            rw [hs]; exact hlen.out
          · rw [hs]; exact HO4.out
        case measure => simp [intOf]; omega
      · go_wp2_with fail
        refine (join_any A' nn c' w1.heap.size (combTo (opR k) la lb P t) (some ⟨b, o, none⟩) P.length c1 P t _ HO4.out hlen.out (HS1.out.keep (keeps_of hb14)) htl (by omega) (by omega) hs4).mono ?_
        rintro e w6 ⟨A6, c6, rfl, hown6, hb6⟩
        have hs := Hst.out
        unfold combStep at hs
        rw [Hpt.out, Q1.out, Q2.out, Q3.out] at hs
        simp only [if_true] at hs
        rw [← hs] at hown6
        rw [← hs]
        have hl6 := combTo_len (opR k) la lb P (t + 1)
        have HOW := Lib.hid hown6
        clear hs hown6
        generalize hT : combTo (opR k) la lb P (t + 1) = T at *
        have HT := Lib.hid hT
        clear hT
        go_wp2
        go_roundw
        case rel =>
          refine ⟨t + 1, _, A6, c6, by omega, by go_num, rfl, hl6, ?_, ?_, hb14.trans hb6⟩
          · show _ = _
            rw [HT.out]
          · rw [HT.out]; exact HOW.out
        case measure => simp [intOf]; omega
    · go_wp2
      go_ret
      obtain rfl : t = P.length := by omega
      rw [HR.out]
      have hl := hlen.out
      refine ⟨A', c', ret_slice hl.symm, ?_, Below.next HB1.out hb⟩
      rw [hl]
      exact own_weaken ho HB1.out.size
end Go.Proofs.YtmnmckblmoalkaaGreat

/-
  Plain mathematics: the points at which a value changes, joined interval by interval, as the reference does. No program here.
-/
namespace Go.Proofs.YtmnmckblmoalkaaGreat
open Go.RowKit
set_option maxRecDepth 100000

/-! the reference's Combine -/
def seg : Vl → List Vl → Iv
  | p, [] => ⟨p, zeroV, true⟩
  | p, q :: _ => ⟨p, q, false⟩
def cmb (g : Vl → Bool) : List Iv → List Vl → List Iv
  | acc, [] => acc
  | acc, p :: P => cmb g (if g p then joinL acc (seg p P) else acc) P
theorem joinL_snoc (out : List Iv) (y x : Iv) : joinL (out ++ [y]) x = if !y.o && decide (cmpV y.t x.f = 0) then out ++ [⟨y.f, x.t, x.o⟩] else out ++ [y] ++ [x] := by
  simp [joinL]
/-- the end of the last interval is below every point to come -/
def lowEnd (acc : List Iv) (P : List Vl) : Prop := ∀ y, acc.getLast? = some y → y.o = false ∧ ∀ p ∈ P, cmpV y.t p < 0
theorem joinL_low {acc : List Iv} {p : Vl} {P : List Vl} (h : lowEnd acc (p :: P)) : joinL acc (seg p P) = acc ++ [seg p P] := by
  unfold joinL
  cases hl : acc.getLast? with
  | none => rfl
  | some y =>
    have h1 := (h y hl).2 p List.mem_cons_self
    have e : (seg p P).f = p := by cases P <;> rfl
    have : ¬ cmpV y.t p = 0 := by omega
    simp [e, this]
theorem cmb_eq (g : Vl → Bool) : ∀ (P : List Vl), ascV P →
    (∀ acc, lowEnd acc P → cmb g acc P = acc ++ ivsOf (chg g false P)) ∧
    (∀ out x p P', P = p :: P' → cmb g (out ++ [⟨x, p, false⟩]) P = out ++ ivsOf (x :: chg g true P)) ∧ (P = [] → ∀ out x, cmb g (out ++ [⟨x, zeroV, true⟩]) P = out ++ ivsOf (x :: chg g true P))
  | [], _ => ⟨fun acc _ => by simp [cmb, chg, ivsOf], (fun out x p P' h => by cases h), fun _ out x => by simp [cmb, chg, ivsOf]⟩
  | p :: P, h => by
    have k := List.pairwise_cons.1 h
    obtain ⟨i1, i2, i3⟩ := cmb_eq g P k.2
    have go : ∀ out x, cmb g (out ++ [⟨x, (seg p P).t, (seg p P).o⟩]) P = out ++ ivsOf (x :: chg g true P) := by
      intro out x
      cases P with
      | nil => exact i3 rfl out x
      | cons q P' => exact i2 out x q P' rfl
    refine ⟨fun acc hacc => ?_, fun out x p' P' e => ?_, fun h => by cases h⟩
    · rw [cmb, chg]
      cases hg : g p
      · simp only [Bool.false_eq_true, if_false, if_true]
        exact i1 acc (fun y hy => ⟨(hacc y hy).1, fun q hq => (hacc y hy).2 q (List.mem_cons_of_mem _ hq)⟩)
      · simp only [if_true, Bool.true_eq_false, if_false]
        rw [joinL_low hacc, ← go acc p]
        cases P <;> rfl
    · injection e with e1 e2
      subst e1 e2
      rw [cmb, chg]
      cases hg : g p
      · simp only [Bool.false_eq_true, if_false]
        rw [i1 _ (fun y hy => ?_), ivsOf, List.append_assoc]
        · rfl
        · have : y = ⟨x, p, false⟩ := by simpa using hy.symm
          subst this
          exact ⟨rfl, k.1⟩
      · simp only [if_true]
        rw [joinL_snoc]
        have e : (seg p P).f = p := by cases P <;> rfl
        simp only [e, cmpV_self, Bool.not_false, decide_true, Bool.and_self, if_true]
        exact go out x
theorem comb_fold (op : Bool → Bool → Bool) (a b : List Iv) (P : List Vl) : ∀ (R S : List Vl) (acc : List Iv), P = S ++ R →
    ((List.range' S.length R.length).foldl (combStep op a b P) acc) = cmb (fun p => op (inL a p) (inL b p)) acc R
  | [], S, acc, _ => by simp [cmb]
  | p :: R, S, acc, h => by
    have e1 : P.getD S.length zeroV = p := by rw [h]; simp
    have e2 : segI P S.length = seg p R := by
      unfold segI
      rw [e1]
      have : P[S.length + 1]? = R[0]? := by rw [h, List.getElem?_append_right (by omega)]; simp
      rw [this]
      cases R <;> rfl
    have ih := comb_fold op a b P R (S ++ [p]) (combStep op a b P acc S.length) (by rw [h]; simp)
    rw [List.length_cons, List.range'_succ, List.foldl_cons, cmb]
    rw [List.length_append, List.length_singleton] at ih
    rw [ih]
    unfold combStep
    rw [e1, e2]
theorem combR_eq (op : Bool → Bool → Bool) (a b : List Iv) : combR op a b = cmb (fun p => op (inL a p) (inL b p)) [] (ptsSet a b) := by
  have := comb_fold op a b (ptsSet a b) (ptsSet a b) [] [] rfl
  unfold combR combTo
  rw [List.range_eq_range']
  exact this
end Go.Proofs.YtmnmckblmoalkaaGreat

/-
  Plain: what the reference's Combine of regions makes, point by point. No program here.
-/
namespace Go.Proofs.YtmnmckblmoalkaaGreat
open Go.RowKit
set_option maxRecDepth 100000
open Rg

/-- the values with the result r after k points, each with the whole interval behind it -/
def valsTo (ro : Vl → Rg) (P : List Vl) (r : Rg) : Nat → List Iv
  | 0 => []
  | k + 1 => if decide (ro (P.getD k zeroV) = r) then joinL (valsTo ro P r k) (segI P k) else valsTo ro P r k
def partsTo (ro : Vl → Rg) (P : List Vl) (k : Nat) : List (List Iv × Rg) := (resU ro (P.take k)).map fun r => (valsTo ro P r k, r)
theorem getD_at {P : List Vl} {k : Nat} {p : Vl} (h : P[k]? = some p) : P.getD k zeroV = p := by rw [List.getD_eq_getElem?_getD, h]; rfl
theorem valsTo_cmb (ro : Vl → Rg) (P : List Vl) (r : Rg) : ∀ (R S : List Vl), P = S ++ R → cmb (fun p => decide (ro p = r)) (valsTo ro P r S.length) R = valsTo ro P r P.length
  | [], S, h => by rw [h, List.append_nil]; rfl
  | p :: R, S, h => by
    have e1 : P.getD S.length zeroV = p := by rw [h]; simp
    have e2 : segI P S.length = seg p R := by
      unfold segI
      rw [e1]
      have : P[S.length + 1]? = R[0]? := by rw [h, List.getElem?_append_right (by omega)]; simp
      rw [this]
      cases R <;> rfl
    have ih := valsTo_cmb ro P r R (S ++ [p]) (by rw [h]; simp)
    rw [List.length_append, List.length_singleton, valsTo, e1, e2] at ih
    rw [cmb]
    exact ih
theorem valsTo_full {P : List Vl} (h : ascV P) (ro : Vl → Rg) (r : Rg) : valsTo ro P r P.length = valsAt ro P r := by
  rw [← valsTo_cmb ro P r P [] rfl]
  have := (cmb_eq (fun p => decide (ro p = r)) P h).1 [] (fun y h => by cases h)
  exact this
theorem valsTo_len (ro : Vl → Rg) (P : List Vl) (r : Rg) : ∀ k, (valsTo ro P r k).length ≤ k
  | 0 => Nat.le_refl _
  | k + 1 => by
    have ih := valsTo_len ro P r k
    unfold valsTo
    split
    · have := joinL_len (valsTo ro P r k) (segI P k); omega
    · omega
theorem valsTo_new {ro : Vl → Rg} {P : List Vl} {r : Rg} : ∀ k, k ≤ P.length → (∀ q ∈ P.take k, ro q ≠ r) → valsTo ro P r k = []
  | 0, _, _ => rfl
  | k + 1, hk, h => by
    have hp := List.getElem?_eq_getElem (show k < P.length by omega)
    have ht := take_snoc' hp
    rw [ht] at h
    have h1 : ro (P.getD k zeroV) ≠ r := by rw [getD_at hp]; exact h _ (List.mem_append.2 (.inr (List.mem_singleton.2 rfl)))
    rw [valsTo, decide_eq_false h1]
    exact valsTo_new k (by omega) fun q hq => h q (List.mem_append.2 (.inl hq))
theorem partsTo_rests (ro : Vl → Rg) (P : List Vl) (k : Nat) : (partsTo ro P k).map (·.2) = resU ro (P.take k) := by
  unfold partsTo
  rw [List.map_map]
  exact List.map_id' _
theorem partsTo_full {P : List Vl} (h : ascV P) (ro : Vl → Rg) : partsTo ro P P.length = partsAt ro P := by
  unfold partsTo
  rw [List.take_length, partsAt_U]
  exact List.map_congr_left fun r _ => by rw [valsTo_full h]
theorem resU_nix {ro : Vl → Rg} {K : List Vl} {s : Rg} (h : s ∈ resU ro K) : s.nix = false := ((uniq_mem s _).1 h).2
theorem partsTo_nix {ro : Vl → Rg} {P : List Vl} {k : Nat} {p : Vl} (hp : P[k]? = some p) (h : (ro p).nix = true) : partsTo ro P (k + 1) = partsTo ro P k := by
  unfold partsTo
  rw [take_snoc' hp, resU_snoc, h]
  simp only [Bool.true_or, if_true]
  refine List.map_congr_left fun r hr => ?_
  have h1 : ro (P.getD k zeroV) ≠ r := by
    rw [getD_at hp]
    intro e
    have := resU_nix hr
    rw [← e, h] at this
    cases this
  rw [valsTo, decide_eq_false h1]
  rfl
theorem roomTo {ro : Vl → Rg} {P : List Vl} {k : Nat} {p : Vl} (hp : P[k]? = some p) (hn : (ro p).nix = false) : roomP (partsTo ro P k) (ro p) = (resU ro (P.take (k + 1))).map fun r => (valsTo ro P r k, r) := by
  unfold roomP
  rw [partsTo_rests, hn, take_snoc' hp, resU_snoc, hn]
  simp only [Bool.false_or, decide_eq_true_eq]
  by_cases hm : ro p ∈ resU ro (P.take k)
  · rw [if_pos hm, if_pos hm]; rfl
  · rw [if_neg hm, if_neg hm, List.map_append, List.map_cons, List.map_nil, valsTo_new k (by have := (List.getElem?_eq_some_iff.1 hp).1; omega) fun q hq e => hm ((uniq_mem _ _).2 ⟨List.mem_map.2 ⟨q, hq, e⟩, hn⟩)]
    rfl
theorem partsTo_step {ro : Vl → Rg} {P : List Vl} {k : Nat} {p : Vl} (hp : P[k]? = some p) (hn : (ro p).nix = false) {j : Nat} (hj : (resU ro (P.take (k + 1)))[j]? = some (ro p)) :
    partsTo ro P (k + 1) = (roomP (partsTo ro P k) (ro p)).modify j (fun q => (joinL q.1 (segI P k), q.2)) := by
  rw [roomTo hp hn]
  have hnd : (resU ro (P.take (k + 1))).Nodup := uniq_nodup _
  unfold partsTo
  refine List.ext_getElem? fun i => ?_
  rw [List.getElem?_map, List.getElem?_modify, List.getElem?_map]
  cases hi : (resU ro (P.take (k + 1)))[i]? with
  | none => rfl
  | some s =>
    simp only [Option.map_some, Option.map_eq_map, Option.some.injEq]
    by_cases e : j = i
    · subst e
      rw [hj] at hi
      injection hi with hi
      subst hi
      rw [valsTo, getD_at hp]
      simp
    · have h1 : ro p ≠ s := fun h => by
        subst h
        have a := idxR_of hnd hj
        have b := idxR_of hnd hi
        omega
      rw [valsTo, getD_at hp, decide_eq_false h1]
      simp [e]
theorem roomP_of {L : List (List Iv × Rg)} {r : Rg} (hn : r.nix = false) : roomP L r = if r ∈ L.map (·.2) then L else L ++ [([], r)] := by
  unfold roomP
  by_cases hm : r ∈ L.map (·.2)
  · rw [if_pos hm, if_pos (by rw [hn, decide_eq_true hm]; rfl)]
  · rw [if_neg hm, if_neg (by rw [hn, decide_eq_false hm]; decide)]
end Go.Proofs.YtmnmckblmoalkaaGreat

namespace Go.Proofs.YtmnmckblmoalkaaGreat
open Go.RowKit
set_option maxRecDepth 100000

set_option maxHeartbeats 1000000 in
theorem ordered_any (A : Option Addr) (n c : Nat) (l : List Iv) (w : World) (hn : n ≤ 1000000) (hs : IvS w A n l) :
    Calls Tryz.prog 147 #[.slice A n c] w fun e w' => e = .returned (.bool (ordFrom none l)) ∧ Below w.heap.size w w' := by
  have Hs := Lib.hid hs
  have hln := hs.len
  clear hs
  go_enter Tryz.func147, Tryz.ntmps147
  go_wp2
  go_loopw [7] (fun i wr => ∃ k : Nat, k ≤ n ∧ i = .int .i64 (k : Int) ∧ Hid (ordFrom none l = ordFrom (prevI l k) (l.drop k)) ∧ Below w.heap.size w wr) (fun i _ => n - (intOf i).toNat)
  case atStart => exact ⟨0, by omega, rfl, by simp [Hid, prevI], Below.refl _ _⟩
  case round =>
    obtain ⟨k, hk, rfl, hinv, hb⟩ := hrel
    by_cases hlt : k < n
    · have hS := Hs.out.keep (keeps_of hb)
      obtain ⟨b, o, x, rfl, hx, hc⟩ := hS.at hlt
      have hi := ord_step hx hinv.out
      obtain ⟨⟨fk, fi, ft⟩, ⟨tk, ti, tt⟩, xo⟩ := x
      obtain ⟨c0, c1, c2, c3, c4, c5, c6⟩ := IvAt.of hc
      dsimp only at c0 c1 c2 c3 c4 c5 c6
      rw [okI_eq] at hi
      obtain ⟨lst, Hl⟩ : ∃ lst, Hid (decide (k + 1 = l.length) = lst) := ⟨_, rfl⟩
      rw [Hl.out] at hi
      obtain ⟨pok, Hp⟩ : ∃ pok, Hid (prevOk (prevI l k) ⟨fk, fi, ft⟩ = pok) := ⟨_, rfl⟩
      rw [Hp.out] at hi
      have Hi := Lib.hid hi
      have HSS := Lib.hid hS
      clear hi hinv hc hx hS
      obtain ⟨v1, V1⟩ : ∃ v, Hid (validV ⟨fk, fi, ft⟩ = v) := ⟨_, rfl⟩
      go_wp2_with fail
      refine (rvalid_any ⟨fk, fi, ft⟩ _).mono ?_
      rintro e w1 ⟨rfl, hb1⟩
      rw [V1.out]
      have hB := Below.next (hb.alloc hb.size _) hb1
      have hKW := (keeps_alloc wr (.cells #[.int .i64 fk, .int .i64 fi, .string ft, .int .i64 tk, .int .i64 ti, .string tt, .bool xo] 90)).trans (keeps_of hb1)
      have hXX := (IvAt.new wr 90 ⟨⟨fk, fi, ft⟩, ⟨tk, ti, tt⟩, xo⟩).keep (keeps_of hb1)
      have HXX := Lib.hid hXX
      clear c0 c1 c2 c3 c4 c5 c6 hb1 hb
      cases v1
      · go_wp2
        go_ret
        exact ⟨ret_bool (by rw [Hi.out, V1.out]; simp), hB⟩
      · obtain ⟨e0, e1, e2, e3, e4, e5, e6⟩ := hXX
        dsimp only at e0 e1 e2 e3 e4 e5 e6
        simp only [Nat.zero_add] at e1 e2 e3 e4 e5 e6
        cases xo
        · obtain ⟨v2, V2⟩ : ∃ v, Hid (validV ⟨tk, ti, tt⟩ = v) := ⟨_, rfl⟩
          obtain ⟨v3, V3⟩ : ∃ v, Hid (cmpV ⟨fk, fi, ft⟩ ⟨tk, ti, tt⟩ = v) := ⟨_, rfl⟩
          go_wp2_with fail
          refine (rvalid_any ⟨tk, ti, tt⟩ _).mono ?_
          rintro e w2 ⟨rfl, hb2⟩
          rw [V2.out]
          replace hB := Below.next hB hb2
          have hK2 := bcell hb2
          cases v2
          · go_wp2
            go_ret
            exact ⟨ret_bool (by rw [Hi.out, V2.out]; simp), hB⟩
          · go_wp2_with fail
            refine (rcompare_any ⟨fk, fi, ft⟩ ⟨tk, ti, tt⟩ _).mono ?_
            rintro e w3 ⟨rfl, hb3⟩
            rw [V3.out]
            replace hB := Below.next hB hb3
            have hKK := (keeps_of hb2).trans (keeps_of hb3)
            replace hKW := hKW.trans hKK
            have hXX := HXX.out.keep hKK
            clear e0 e1 e2 e3 e4 e5 e6 hK2 hb2 hb3 hKK
            rcases Int.lt_or_le v3 0 with h3 | h3
            · have Hfin : Hid (ordFrom none l = (pok && ordFrom (prevI l (k + 1)) (l.drop (k + 1)))) := by
                show _ = _
                rw [Hi.out, V1.out, V2.out, V3.out]; simp [h3]
              go_wp2
              obtain ⟨e0, e1, e2, e3, e4, e5, e6⟩ := hXX
              dsimp only at e0 e1 e2 e3 e4 e5 e6
              simp only [Nat.zero_add] at e1 e2 e3 e4 e5 e6
              rcases Nat.eq_zero_or_pos k with hk0 | hk0
              · have g0 : decide (0 < k) = false := by simp [hk0]
                obtain rfl : pok = true := by rw [← Hp.out, hk0]; rfl
                have HK0 := Lib.hid hk0
                clear hk0
                have hca := @cell_after w3.drew
                refine wp_region_seg [([0, 1, 2, 3, 4, 5, 6, 7, 8, 9, 10], 11)] [12, 13] (by kernel_rfl) (by kernel_rfl) (fun _ _ d _ _ h => by cases d <;> exact h) ?_
                simp only [pickSegs, pickOps, opAt, List.map_cons, List.map_nil, List.getElem?_toArray, List.getElem?_cons_zero, List.getElem?_cons_succ, Option.getD_some]
                unfold wpBlocks
                repeat (go_big_quiet_step (fail))
                refine wpQuiet_nil ?_
                clear hca
                go_wp2
                refine ⟨Below.refl _ _, ?_⟩
                unfold wpBlocks
                repeat (go_big_quiet_step (fail))
                refine wpQuiet_nil ?_
                go_wp2
                go_roundw
                case rel => exact ⟨k + 1, by omega, by go_num, (by show _ = _; rw [Hfin.out]; simp), hB.drew⟩
                case measure => simp [intOf]; omega
              · have g0 : decide (0 < k) = true := by simp [hk0]
                obtain ⟨b', o', y, hA, hy, hd⟩ := HSS.out.at (show k - 1 < n by omega)
                obtain ⟨rfl, rfl⟩ : b = b' ∧ o = o' := by injection hA with h; injection h with h1 h2; exact ⟨h1, h2⟩
                obtain ⟨⟨pk, pi, pt⟩, ⟨qk, qi, qt⟩, yo⟩ := y
                obtain ⟨d3, d4, d5⟩ := (IvAt.of hd).to_.keep hKW
                dsimp only at d3 d4 d5
                obtain ⟨v, Hv⟩ : ∃ v, Hid (cmpV ⟨qk, qi, qt⟩ ⟨fk, fi, ft⟩ = v) := ⟨_, rfl⟩
                have Hpok : Hid (pok = decide (v < 0)) := by
                  show _ = _
                  rw [← Hp.out, ← Hv.out]
                  have : prevI l k = l[k - 1]? := by obtain ⟨j, rfl⟩ : ∃ j, k = j + 1 := ⟨k - 1, by omega⟩; rfl
                  rw [this, hy]; rfl
                clear hy hd hA
                have hca := @cell_after w3.drew
                refine wp_region_seg [([0, 1, 2, 3, 4, 5, 6, 7, 8, 9, 10], 11)] [12, 13] (by kernel_rfl) (by kernel_rfl) (fun _ _ d _ _ h => by cases d <;> exact h) ?_
                simp only [pickSegs, pickOps, opAt, List.map_cons, List.map_nil, List.getElem?_toArray, List.getElem?_cons_zero, List.getElem?_cons_succ, Option.getD_some]
                unfold wpBlocks
                repeat (go_big_quiet_step (fail))
                refine wpQuiet_nil ?_
                clear hca
                go_wp2_with (first | (go_at_call 93; refine (rcompare_any ⟨_, _, _⟩ ⟨_, _, _⟩ _).mono ?_; rintro e w9 ⟨rfl, hb9⟩; rw [Hv.out]))
                refine ⟨hb9, ?_⟩
                unfold wpBlocks
                repeat (go_big_quiet_step (fail))
                refine wpQuiet_nil ?_
                have hB9 := Below.next hB.drew hb9
                rcases Int.lt_or_le v 0 with hv | hv
                · go_wp2
                  go_roundw
                  case rel => exact ⟨k + 1, by omega, by go_num, (by show _ = _; rw [Hfin.out, Hpok.out]; simp [hv]), hB9⟩
                  case measure => simp [intOf]; omega
                · go_wp2
                  go_ret
                  exact ⟨ret_bool (by rw [Hfin.out, Hpok.out]; simp; intros; omega), hB9⟩
            · go_wp2
              go_ret
              exact ⟨ret_bool (by rw [Hi.out, V1.out, V2.out, V3.out]; simp; omega), hB⟩
        · by_cases hlast : k + 1 < n
          · go_wp2
            go_ret
            exact ⟨ret_bool (by rw [Hi.out, ← Hl.out]; simp; omega), hB⟩
          · obtain rfl : lst = true := by rw [← Hl.out]; simp; omega
            by_cases hz : tk = 0 ∧ ti = 0 ∧ tt.toList = []
            · obtain ⟨h1, h2, h3⟩ := hz
              have Hfin : Hid (ordFrom none l = (pok && ordFrom (prevI l (k + 1)) (l.drop (k + 1)))) := by
                show _ = _
                rw [Hi.out, V1.out]; simp [h1, h2, h3]
              subst h1 h2
              have H3 := Lib.hid h3
              have h3' : (!tt.toList.isEmpty) = false := by simp [h3]
              clear h3
              have hXX := HXX.out
              go_wp2
              clear e0 e1 e2 e3 e4 e5 e6
              obtain ⟨e0, e1, e2, e3, e4, e5, e6⟩ := hXX
              dsimp only at e0 e1 e2 e3 e4 e5 e6
              simp only [Nat.zero_add] at e1 e2 e3 e4 e5 e6
              rcases Nat.eq_zero_or_pos k with hk0 | hk0
              · have g0 : decide (0 < k) = false := by simp [hk0]
                obtain rfl : pok = true := by rw [← Hp.out, hk0]; rfl
                have HK0 := Lib.hid hk0
                clear hk0
                have hca := @cell_after w1.drew
                refine wp_region_seg [([0, 1, 2, 3, 4, 5, 6, 7, 8, 9, 10], 11)] [12, 13] (by kernel_rfl) (by kernel_rfl) (fun _ _ d _ _ h => by cases d <;> exact h) ?_
                simp only [pickSegs, pickOps, opAt, List.map_cons, List.map_nil, List.getElem?_toArray, List.getElem?_cons_zero, List.getElem?_cons_succ, Option.getD_some]
                unfold wpBlocks
                repeat (go_big_quiet_step (fail))
                refine wpQuiet_nil ?_
                clear hca
                go_wp2
                refine ⟨Below.refl _ _, ?_⟩
                unfold wpBlocks
                repeat (go_big_quiet_step (fail))
                refine wpQuiet_nil ?_
                go_wp2
                go_roundw
                case rel => exact ⟨k + 1, by omega, by go_num, (by show _ = _; rw [Hfin.out]; simp), hB.drew⟩
                case measure => simp [intOf]; omega
              · have g0 : decide (0 < k) = true := by simp [hk0]
                obtain ⟨b', o', y, hA, hy, hd⟩ := HSS.out.at (show k - 1 < n by omega)
                obtain ⟨rfl, rfl⟩ : b = b' ∧ o = o' := by injection hA with h; injection h with h1 h2; exact ⟨h1, h2⟩
                obtain ⟨⟨pk, pi, pt⟩, ⟨qk, qi, qt⟩, yo⟩ := y
                obtain ⟨d3, d4, d5⟩ := (IvAt.of hd).to_.keep hKW
                dsimp only at d3 d4 d5
                obtain ⟨v, Hv⟩ : ∃ v, Hid (cmpV ⟨qk, qi, qt⟩ ⟨fk, fi, ft⟩ = v) := ⟨_, rfl⟩
                have Hpok : Hid (pok = decide (v < 0)) := by
                  show _ = _
                  rw [← Hp.out, ← Hv.out]
                  have : prevI l k = l[k - 1]? := by obtain ⟨j, rfl⟩ : ∃ j, k = j + 1 := ⟨k - 1, by omega⟩; rfl
                  rw [this, hy]; rfl
                clear hy hd hA
                have hca := @cell_after w1.drew
                refine wp_region_seg [([0, 1, 2, 3, 4, 5, 6, 7, 8, 9, 10], 11)] [12, 13] (by kernel_rfl) (by kernel_rfl) (fun _ _ d _ _ h => by cases d <;> exact h) ?_
                simp only [pickSegs, pickOps, opAt, List.map_cons, List.map_nil, List.getElem?_toArray, List.getElem?_cons_zero, List.getElem?_cons_succ, Option.getD_some]
                unfold wpBlocks
                repeat (go_big_quiet_step (fail))
                refine wpQuiet_nil ?_
                clear hca
                go_wp2_with (first | (go_at_call 93; refine (rcompare_any ⟨_, _, _⟩ ⟨_, _, _⟩ _).mono ?_; rintro e w9 ⟨rfl, hb9⟩; rw [Hv.out]))
                refine ⟨hb9, ?_⟩
                unfold wpBlocks
                repeat (go_big_quiet_step (fail))
                refine wpQuiet_nil ?_
                have hB9 := Below.next hB.drew hb9
                rcases Int.lt_or_le v 0 with hv | hv
                · go_wp2
                  go_roundw
                  case rel => exact ⟨k + 1, by omega, by go_num, (by show _ = _; rw [Hfin.out, Hpok.out]; simp [hv]), hB9⟩
                  case measure => simp [intOf]; omega
                · go_wp2
                  go_ret
                  exact ⟨ret_bool (by rw [Hfin.out, Hpok.out]; simp; intros; omega), hB9⟩
            · have Hbad : Hid (ordFrom none l = false) := by
                show _ = _
                rw [Hi.out]
                simp
                grind
              have HZ := Lib.hid hz
              clear hz
              go_wp2
              all_goals
                first
                  | (go_ret; exact ⟨ret_bool (Hbad.out.symm), hB⟩)
                  | (exfalso; apply HZ.out; refine ⟨?_, ?_, ?_⟩ <;> first | rfl | assumption)
    · go_wp2
      go_ret
      exact ⟨ret_bool (by rw [hinv.out]; have hkl : k = l.length := (by have := Hs.out.len; omega); subst hkl; simp [ordFrom]), hb⟩
end Go.Proofs.YtmnmckblmoalkaaGreat
