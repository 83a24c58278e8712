import Derived.Test.YtjlbnbljimmbeaaJoin
namespace Go.Proofs.Ytjlbnbljimmbeaa
open Go.RowKit

/-- the distinct ends of the intervals of two lists, ascending -/
def ptsSet (a b : List Iv) : List Vl := (setL ((ptsR [a, b]).map fun v => [v])).map (fun r => r.headD zeroV)
theorem ptsSet_eq {a b : List Iv} {L : List Vl} (h : L.map (fun v => [v]) = setL ((ptsR [a, b]).map fun v => [v])) : ptsSet a b = L := by
  unfold ptsSet
  rw [← h, List.map_map]
  conv => rhs; rw [← List.map_id L]
  exact List.map_congr_left (fun _ _ => rfl)
def combStep (op : Bool → Bool → Bool) (a b : List Iv) (P : List Vl) (acc : List Iv) (i : Nat) : List Iv := if op (inL a (P.getD i zeroV)) (inL b (P.getD i zeroV)) then joinL acc (segI P i) else acc
def combTo (op : Bool → Bool → Bool) (a b : List Iv) (P : List Vl) (k : Nat) : List Iv := (List.range k).foldl (combStep op a b P) []
def combR (op : Bool → Bool → Bool) (a b : List Iv) : List Iv := combTo op a b (ptsSet a b) (ptsSet a b).length
theorem combTo_succ (op : Bool → Bool → Bool) (a b : List Iv) (P : List Vl) (k : Nat) : combTo op a b P (k + 1) = combStep op a b P (combTo op a b P k) k := by
  unfold combTo; rw [List.range_succ, List.foldl_append]; rfl
theorem joinL_len (L : List Iv) (x : Iv) : (joinL L x).length ≤ L.length + 1 := by
  unfold joinL
  split
  · simp
  · split <;> simp
theorem combTo_len (op : Bool → Bool → Bool) (a b : List Iv) (P : List Vl) (k : Nat) : (combTo op a b P k).length ≤ k := by
  induction k with
  | zero => simp [combTo]
  | succ k ih =>
    rw [combTo_succ]
    unfold combStep
    split
    · have := joinL_len (combTo op a b P k) (segI P k); omega
    · omega
theorem ptsSet_len (a b : List Iv) : (ptsSet a b).length ≤ 2 * a.length + 2 * b.length := by
  unfold ptsSet
  rw [List.length_map]
  have h := setL_len ((ptsR [a, b]).map fun v => [v])
  have h1 := ptsL_len a
  have h2 := ptsL_len b
  simp [ptsR] at h
  simp [ptsR]
  omega
theorem lsts_two {w : World} {g : Nat} {p q : LstP} (h : Blk w g 22 #[.slice p.1.1 p.1.2.1 p.1.2.2, .slice q.1.1 q.1.2.1 q.1.2.2]) (hp : LstOk w p) (hq : LstOk w q) : LstsS w (some ⟨g, 0, none⟩) 2 [p, q] := by
  refine ⟨⟨rfl, fun _ => ⟨g, 0, rfl, fun k x hx j u hu => ?_⟩⟩, fun r hr => ?_⟩
  · have hj : j = 0 := by
      rcases j with _ | j
      · rfl
      · simp [lstc] at hu
    subst hj
    simp [lstc] at hu
    rw [show 0 + k * 1 + 0 = k by omega, h.cell]
    rcases k with _ | _ | k
    · simp only [List.getElem?_cons_zero, Option.some.injEq] at hx; subst hx; simp [hu]
    · simp only [List.getElem?_cons_succ, List.getElem?_cons_zero, Option.some.injEq] at hx; subst hx; simp [hu]
    · simp at hx
  · simp only [List.mem_cons, List.not_mem_nil, or_false] at hr
    rcases hr with rfl | rfl
    · exact hp
    · exact hq

def CombPost (w : World) (R : List Iv) (e : Ending) (w' : World) : Prop :=
  ∃ (A' : Option Addr) (c' : Nat), e = .returned (.slice A' R.length c') ∧ w'.ownsRow w.heap.size 26 7 (.slice A' R.length c') R.length (R.flatMap Iv.cs) ∧ Below w.heap.size w w'

set_option maxHeartbeats 4000000 in
theorem rcombine_any (k : Int) (A B : Option Addr) (n m ca cb : Nat) (la lb : List Iv) (w : World) (hA : IvS w A n la) (hB : IvS w B m lb) (hn : n ≤ 64) (hm : m ≤ 64) :
    Calls Try.prog 50 #[.int .i64 k, .slice A n ca, .slice B m cb] w fun e w' => CombPost w (combR (opR k) la lb) e w' := by
  have HA := Lib.hid hA
  have HB := Lib.hid hB
  have Hla := Lib.hid hA.len
  have Hlb := Lib.hid hB.len
  clear hA hB
  go_enter Try.func50, Try.ntmps50
  go_wp2_with fail
  have hB0 : Below w.heap.size w (w.alloc (.cells #[.slice A n ca, .slice B m cb] 22)) := (Below.refl _ _).alloc (Nat.le_refl _) _
  have hK0 := keeps_of hB0
  refine (rpoints_any (some ⟨w.heap.size, 0, none⟩) 2 2 [((A, n, ca), la), ((B, m, cb), lb)] _ (lsts_two (Blk.new w _ _) ⟨HA.out.keep hK0, hn⟩ ⟨HB.out.keep hK0, hm⟩) (by omega)).mono ?_
  rintro e w1 ⟨A1, c1, P, hP, rfl, hS1, hb1⟩
  have HPe : Hid (ptsSet la lb = P) := ptsSet_eq (by simpa using hP)
  have hPl : P.length ≤ 256 := by
    have := ptsSet_len la lb
    rw [HPe.out] at this
    have := Hla.out
    have := Hlb.out
    omega
  have HR : Hid (combR (opR k) la lb = combTo (opR k) la lb P P.length) := by
    show _ = _
    unfold combR; rw [HPe.out]
  have HB1 := Lib.hid (Below.next hB0 hb1)
  have HS1 := Lib.hid hS1
  clear hP hS1 hK0 hB0 hb1
  go_wp2
  go_loopw [8, 17] (fun x i wr => ∃ (t nn : Nat) (A' : Option Addr) (c' : Nat), t ≤ P.length ∧ i = .int .i64 (t : Int) ∧ x = .slice A' nn c' ∧ nn ≤ t ∧ Hid ((combTo (opR k) la lb P t).length = nn) ∧ wr.ownsRow w1.heap.size 26 7 (.slice A' nn c') nn ((combTo (opR k) la lb P t).flatMap Iv.cs) ∧ Below w1.heap.size w1 wr) (fun _ i _ => P.length - (intOf i).toNat)
  case atStart => exact ⟨0, 0, none, 0, by omega, rfl, rfl, by omega, rfl, ⟨by simp [combTo], .inl ⟨rfl, rfl⟩⟩, Below.refl _ _⟩
  case round =>
    obtain ⟨t, nn, A', c', ht, rfl, rfl, hnn, hlen, ho, hb⟩ := hrel
    by_cases htl : t < P.length
    · obtain ⟨b, o, p, rfl, hp, hpc⟩ := (HS1.out.keep (keeps_of hb)).at htl
      have Hpt : Hid (P.getD t zeroV = p) := by
        show _ = _
        rw [List.getD_eq_getElem?_getD, hp]; rfl
      have Hst := Lib.hid (combTo_succ (opR k) la lb P t)
      obtain ⟨pk, pi, pt⟩ := p
      obtain ⟨x0, x1, x2⟩ := VlAt.of hpc
      dsimp only at x0 x1 x2
      clear hp hpc
      have HO := Lib.hid ho
      clear ho
      have hsz := hb.size
      obtain ⟨q1, Q1⟩ : ∃ q, Hid (inL la ⟨pk, pi, pt⟩ = q) := ⟨_, rfl⟩
      obtain ⟨q2, Q2⟩ : ∃ q, Hid (inL lb ⟨pk, pi, pt⟩ = q) := ⟨_, rfl⟩
      obtain ⟨q3, Q3⟩ : ∃ q, Hid (opR k q1 q2 = q) := ⟨_, rfl⟩
      have HBw := Lib.hid (Below.next HB1.out hb)
      go_wp2
      have hX := Blk.new wr 24 #[.int .i64 pk, .int .i64 pi, .string pt]
      have hBe : Below wr.heap.size wr (wr.alloc (.cells #[.int .i64 pk, .int .i64 pi, .string pt] 24)) := (Below.refl _ _).alloc (Nat.le_refl _) _
      generalize wr.alloc (.cells #[.int .i64 pk, .int .i64 pi, .string pt] 24) = W at *
      generalize hz : wr.heap.size = z at *
      have Hz := Lib.hid hz
      clear hz
      have hXc := hX.cell
      have hca := @cell_after W.drew
      refine wp_region_seg [([0, 1, 2, 4, 5], 3), ([], 6), ([], 7)] [] (by kernel_rfl) (by kernel_rfl) (fun _ _ d _ _ h => by cases d <;> exact h) ?_
      simp only [pickSegs, pickOps, opAt, List.map_cons, List.map_nil, List.getElem?_toArray, List.getElem?_cons_zero, List.getElem?_cons_succ, Option.getD_some]
      unfold wpBlocks
      repeat (go_big_quiet_step (fail))
      refine wpQuiet_nil ?_
      clear hca
      have hBw2 : Below w.heap.size w W.drew := by
        have h1 : Below wr.heap.size wr W := by rw [Hz.out]; exact hBe
        exact (Below.next HBw.out h1).drew
      go_wp2_with (first | (go_at_call 57; refine (rin_any A n ca la ⟨pk, pi, pt⟩ _ (HA.out.keep (keeps_of hBw2)) (by omega)).mono ?_; rintro e w3 ⟨rfl, hb3⟩; rw [Q1.out]))
      refine ⟨hb3, ?_⟩
      unfold wpBlocks
      refine wpQuiet_nil ?_
      have hBw3 := Below.next hBw2 hb3
      go_wp2_with (first | (go_at_call 57; refine (rin_any B m cb lb ⟨pk, pi, pt⟩ _ (HB.out.keep (keeps_of hBw3)) (by omega)).mono ?_; rintro e w4 ⟨rfl, hb4⟩; rw [Q2.out]))
      refine ⟨hb4, ?_⟩
      unfold wpBlocks
      refine wpQuiet_nil ?_
      go_wp2_with (first | (go_at_call 67; refine (apply_any k q1 q2 _).mono ?_; rintro e w5 ⟨rfl, rfl⟩; rw [Q3.out]))
      refine ⟨Below.refl _ _, ?_⟩
      unfold wpBlocks
      refine wpQuiet_nil ?_
      have hWr : Below wr.heap.size wr w4 := by
        have h1 : Below wr.heap.size wr W := by rw [Hz.out]; exact hBe
        exact Below.next (Below.next h1.drew hb3) hb4
      have HO4 := Lib.hid (own_at HO.out (fun g _ hl _ => hWr.block g hl))
      have hb14 : Below w1.heap.size w1 w4 := Below.next hb hWr
      have hs4 := hb14.size
      clear hb3 hb4 hBw2 hBw3 hBe hX hXc
      cases q3
      · go_wp2
        go_roundw
        case rel =>
          have hs := Hst.out
          unfold combStep at hs
          rw [Hpt.out, Q1.out, Q2.out, Q3.out] at hs
          simp only [Bool.false_eq_true, if_false] at hs
          refine ⟨t + 1, nn, A', c', by omega, by go_num, rfl, by omega, ?_, ?_, hb14⟩
          · show _ = _
            rw [hs]; exact hlen.out
          · rw [hs]; exact HO4.out
        case measure => simp [intOf]; omega
      · go_wp2_with fail
        refine (join_any A' nn c' w1.heap.size (combTo (opR k) la lb P t) (some ⟨b, o, none⟩) P.length c1 P t _ HO4.out hlen.out (HS1.out.keep (keeps_of hb14)) htl (by omega) (by omega) hs4).mono ?_
        rintro e w6 ⟨A6, c6, rfl, hown6, hb6⟩
        have hs := Hst.out
        unfold combStep at hs
        rw [Hpt.out, Q1.out, Q2.out, Q3.out] at hs
        simp only [if_true] at hs
        rw [← hs] at hown6
        rw [← hs]
        have hl6 := combTo_len (opR k) la lb P (t + 1)
        have HOW := Lib.hid hown6
        clear hs hown6
        generalize hT : combTo (opR k) la lb P (t + 1) = T at *
        have HT := Lib.hid hT
        clear hT
        go_wp2
        go_roundw
        case rel =>
          refine ⟨t + 1, _, A6, c6, by omega, by go_num, rfl, hl6, ?_, ?_, hb14.trans hb6⟩
          · show _ = _
            rw [HT.out]
          · rw [HT.out]; exact HOW.out
        case measure => simp [intOf]; omega
    · go_wp2
      go_ret
      obtain rfl : t = P.length := by omega
      rw [HR.out]
      have hl := hlen.out
      refine ⟨A', c', ret_slice hl.symm, ?_, Below.next HB1.out hb⟩
      rw [hl]
      exact own_weaken ho HB1.out.size
end Go.Proofs.Ytjlbnbljimmbeaa
