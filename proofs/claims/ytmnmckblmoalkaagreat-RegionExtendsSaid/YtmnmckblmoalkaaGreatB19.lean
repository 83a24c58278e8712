/-
  Texts: Sorted.
-/
import Derived.Test.YtmnmckblmoalkaaGreatB18
set_option linter.unusedVariables false
namespace Go.Proofs.YtmnmckblmoalkaaGreat
open Go.RowKit
set_option maxRecDepth 100000
set_option linter.unusedVariables false

def mergeP : List RowP → List RowP → List RowP
  | [], b => b
  | x :: a, [] => x :: a
  | x :: a, y :: b => if cmpR x.2 y.2 ≤ 0 then x :: mergeP a (y :: b) else y :: mergeP (x :: a) b
termination_by a b => a.length + b.length
theorem mergeP_nil (a : List RowP) : mergeP a [] = a := by cases a <;> simp [mergeP]
theorem mergeP_cons (x : RowP) (a : List RowP) (y : RowP) (b : List RowP) : mergeP (x :: a) (y :: b) = if cmpR x.2 y.2 ≤ 0 then x :: mergeP a (y :: b) else y :: mergeP (x :: a) b := by rw [mergeP]
theorem mergeP_mem : ∀ (a b : List RowP) (p : RowP), p ∈ mergeP a b ↔ p ∈ a ∨ p ∈ b
  | [], b, p => by simp [mergeP]
  | x :: a, [], p => by simp [mergeP]
  | x :: a, y :: b, p => by
    rw [mergeP_cons]
    split
    · rw [List.mem_cons, mergeP_mem a (y :: b) p]; simp only [List.mem_cons]; grind
    · rw [List.mem_cons, mergeP_mem (x :: a) b p]; simp only [List.mem_cons]; grind
termination_by a b => a.length + b.length
theorem mergeP_len : ∀ (a b : List RowP), (mergeP a b).length = a.length + b.length
  | [], b => by simp [mergeP]
  | x :: a, [] => by simp [mergeP]
  | x :: a, y :: b => by
    rw [mergeP_cons]
    split
    · rw [List.length_cons, mergeP_len a (y :: b)]; simp; omega
    · rw [List.length_cons, mergeP_len (x :: a) b]; simp; omega
termination_by a b => a.length + b.length
def sortP (ps : List RowP) : List RowP :=
  if h : ps.length < 2 then ps else mergeP (sortP (ps.take (ps.length / 2))) (sortP (ps.drop (ps.length / 2)))
termination_by ps.length
decreasing_by
  · simp; omega
  · simp; omega
theorem sortP_short {ps : List RowP} (h : ps.length < 2) : sortP ps = ps := by rw [sortP]; simp [h]
theorem sortP_long {ps : List RowP} (h : 2 ≤ ps.length) : sortP ps = mergeP (sortP (ps.take (ps.length / 2))) (sortP (ps.drop (ps.length / 2))) := by
  rw [sortP, dif_neg (by omega)]
theorem sortP_len (ps : List RowP) : (sortP ps).length = ps.length := by
  induction h : ps.length using Nat.strongRecOn generalizing ps with
  | _ n ih =>
    subst h
    by_cases h2 : ps.length < 2
    · rw [sortP_short h2]
    · rw [sortP_long (by omega), mergeP_len, ih _ (by simp; omega) (ps.take (ps.length / 2)) rfl, ih _ (by simp; omega) (ps.drop (ps.length / 2)) rfl]
      simp; omega
theorem sortP_mem (ps : List RowP) (p : RowP) : p ∈ sortP ps ↔ p ∈ ps := by
  induction h : ps.length using Nat.strongRecOn generalizing ps with
  | _ n ih =>
    subst h
    by_cases h2 : ps.length < 2
    · rw [sortP_short h2]
    · rw [sortP_long (by omega), mergeP_mem, ih _ (by simp; omega) (ps.take (ps.length / 2)) rfl, ih _ (by simp; omega) (ps.drop (ps.length / 2)) rfl]
      rw [← List.mem_append, List.take_append_drop]

theorem Sl.drop {α : Type} {sz : Nat} {cs : α → List Value} {w : World} {b o n : Nat} {l : List α} (h : Sl sz cs w (some ⟨b, o, none⟩) n l) (k : Nat) (hk : k ≤ n) : Sl sz cs w (some ⟨b, o + k * sz, none⟩) (n - k) (l.drop k) := by
  have hl := h.1
  refine ⟨by simp; omega, fun h0 => ?_⟩
  obtain ⟨b', o', e, hc⟩ := h.2 (by omega)
  injection e with e
  injection e with e1 e2
  subst e1 e2
  refine ⟨b, o + k * sz, rfl, fun i x hx j u hu => ?_⟩
  rw [List.getElem?_drop] at hx
  have := hc (k + i) x hx j u hu
  rw [← this, Nat.add_mul]
  congr 2
  omega
theorem info_row : (Tryz.prog.info? 44).map (fun i => (i.zero, i.size, i.bytes)) = some (some (.slice none 0 0), 1, 24) := by kernel_rfl
theorem one_row (p : RowP) : ∀ u ∈ rowc p, u.oneCell' = true := by simp [rowc, Value.oneCell']

def SortPost (w : World) (n : Nat) (R : List RowP) (e : Ending) (w' : World) : Prop :=
  ∃ (A' : Option Addr) (c' : Nat), e = .returned (.slice A' n c') ∧ w'.ownsRow w.heap.size 44 1 (.slice A' n c') n (R.flatMap rowc) ∧ Below w.heap.size w w'

set_option maxHeartbeats 1000000 in
theorem sorted_short (A : Option Addr) (n c : Nat) (ps : List RowP) (w : World) (hs : RowsS w A n ps) (hnil : A = none → n = 0 ∧ c = 0) (hsp : ∀ ad, A = some ad → ad.spot = none) (hnc : n ≤ c) (hcm : c ≤ 9223372036854775807) (h2 : n < 2) :
    Calls Tryz.prog 186 #[.slice A n c] w fun e w' => SortPost w n (sortP ps) e w' := by
  obtain ⟨i0, hi, hz0, hz1, hz2⟩ := info_parts info_row
  have HS := Lib.hid hs
  have HN := Lib.hid hnil
  have HP := Lib.hid hsp
  have hr : sortP ps = ps := sortP_short (by have := hs.sl.len; omega)
  clear hs hnil hsp
  rw [hr]
  go_enter Tryz.func186, Tryz.ntmps186
  go_wp2_with (at_builtin; refine wpList_append_sl (cs := rowc) w (by rfl) _ (.tmp 9) _ (by rfl) w.heap.size 44 i0 _ 1 24 Tryz.underlying172 hi hz0 hz1 hz2 (by rfl) (by omega) (.slice none 0 0) 0 [] (by rfl) ⟨by simp, .inl ⟨rfl, rfl⟩⟩ A n c ps (by rfl) HS.out.sl HN.out HP.out (fun _ => rfl) one_row (by simp only [maxLen]; omega) (by omega) (Nat.le_refl _) ?_; intro A1 c1 w1 hown1 hg1 hB1 hat1 hn1; simp only [Nat.zero_add, List.nil_append] at hown1)
  go_ret
  exact ⟨A1, c1, rfl, hown1, hB1⟩

/-- one of the two slices that are merged -/
structure SPart (w : World) (A : Option Addr) (n c : Nat) (l : List RowP) : Prop where
  rd : RowsS w A n l
  nl : A = none → n = 0 ∧ c = 0
  sp : ∀ ad, A = some ad → ad.spot = none
  le : n ≤ c
  mx : c ≤ 9223372036854775807
theorem SPart.keep {w w' : World} {A : Option Addr} {n c : Nat} {l : List RowP} (h : SPart w A n c l) (hk : Keeps w w') : SPart w' A n c l := ⟨h.rd.keep hk, h.nl, h.sp, h.le, h.mx⟩
theorem SPart.tail {w : World} {b o n c : Nat} {p : RowP} {l : List RowP} (h : SPart w (some ⟨b, o, none⟩) n c (p :: l)) : SPart w (if c = 1 then some ⟨b, o, none⟩ else some ⟨b, o + 1, none⟩) (n - 1) (c - 1) l := by
  have hl := h.rd.sl.len
  have hle := h.le
  simp only [List.length_cons] at hl
  refine ⟨⟨?_, fun q hq => h.rd.ok q (List.mem_cons_of_mem _ hq)⟩, fun e => ?_, fun ad e => ?_, by omega, by have := h.mx; omega⟩
  · split
    · obtain rfl : l = [] := List.eq_nil_of_length_eq_zero (by omega)
      rw [show n - 1 = 0 by omega]
      exact Sl.nil
    · have := h.rd.sl.drop 1 (by omega)
      simpa using this
  · split at e <;> cases e
  · split at e <;> (injection e with e; rw [← e])
structure SState (w2 : World) (R : List RowP) (la lb lo : List RowP) (Aa : Option Addr) (na ca : Nat) (Ab : Option Addr) (nb cb : Nat) (Ao : Option Addr) (no co : Nat) (wr : World) : Prop where
  a : SPart w2 Aa na ca la
  b : SPart w2 Ab nb cb lb
  own : wr.ownsRow w2.heap.size 44 1 (.slice Ao no co) no (lo.flatMap rowc)
  len : lo.length = no
  run : lo ++ mergeP la lb = R
  bel : Below w2.heap.size w2 wr
def SRel (w2 : World) (R : List RowP) (n : Nat) (x y z : Value) (wr : World) : Prop :=
  ∃ (la lb lo : List RowP) (Aa : Option Addr) (na ca : Nat) (Ab : Option Addr) (nb cb : Nat) (Ao : Option Addr) (no co : Nat), x = .slice Aa na ca ∧ y = .slice Ab nb cb ∧ z = .slice Ao no co ∧ na + nb + no = n ∧ SState w2 R la lb lo Aa na ca Ab nb cb Ao no co wr
def lenOf : Value → Nat | .slice _ n _ => n | _ => 0

theorem own_weaken {w : World} {base base' : Nat} {e : TypeId} {size n : Nat} {v : Value} {xs : List Value} (h : w.ownsRow base e size v n xs) (hb : base' ≤ base) : w.ownsRow base' e size v n xs := by
  refine ⟨h.1, ?_⟩
  rcases h.2 with h2 | ⟨g, cap, cur, hv, hg, r⟩
  · exact .inl h2
  · exact .inr ⟨g, cap, cur, hv, by omega, r⟩
theorem sclose_a {w2 : World} {R : List RowP} {p : RowP} {la' lb lo : List RowP} {Aa : Option Addr} {na ca : Nat} {Ab : Option Addr} {nb cb : Nat} {Ao : Option Addr} {no co n : Nat} {wr : World}
    (hM : SState w2 R (p :: la') lb lo Aa na ca Ab nb cb Ao no co wr) (hs : na + nb + no = n) (hle : mergeP (p :: la') lb = p :: mergeP la' lb) (A'' : Option Addr) (n'' c'' : Nat) (hp : SPart w2 A'' n'' c'' la') (hn : n'' + 1 = na) (g6 cap6 : Nat) (w6 : World)
    (hown6 : w6.ownsRow w2.heap.size 44 1 (.slice (some ⟨g6, 0, none⟩) (no + 1) cap6) (no + 1) (lo.flatMap rowc ++ rowc p)) (hbel : Below w2.heap.size w2 w6) :
    SRel w2 R n (.slice A'' n'' c'') (.slice Ab nb cb) (.slice (some ⟨g6, 0, none⟩) (no + 1) cap6) w6 ∧ lenOf (.slice A'' n'' c'') + lenOf (.slice Ab nb cb) < lenOf (.slice Aa na ca) + lenOf (.slice Ab nb cb) := by
  refine ⟨⟨la', lb, lo ++ [p], A'', n'', c'', Ab, nb, cb, _, no + 1, cap6, rfl, rfl, rfl, by omega, ⟨hp, hM.b, ?_, by simp [hM.len], ?_, hbel⟩⟩, by simp only [lenOf]; omega⟩
  · rw [List.flatMap_append]; simpa using hown6
  · rw [← hM.run, hle]; simp
theorem sclose_b {w2 : World} {R : List RowP} {q : RowP} {la lb' lo : List RowP} {Aa : Option Addr} {na ca : Nat} {Ab : Option Addr} {nb cb : Nat} {Ao : Option Addr} {no co n : Nat} {wr : World}
    (hM : SState w2 R la (q :: lb') lo Aa na ca Ab nb cb Ao no co wr) (hs : na + nb + no = n) (hle : mergeP la (q :: lb') = q :: mergeP la lb') (A'' : Option Addr) (n'' c'' : Nat) (hp : SPart w2 A'' n'' c'' lb') (hn : n'' + 1 = nb) (g6 cap6 : Nat) (w6 : World)
    (hown6 : w6.ownsRow w2.heap.size 44 1 (.slice (some ⟨g6, 0, none⟩) (no + 1) cap6) (no + 1) (lo.flatMap rowc ++ rowc q)) (hbel : Below w2.heap.size w2 w6) :
    SRel w2 R n (.slice Aa na ca) (.slice A'' n'' c'') (.slice (some ⟨g6, 0, none⟩) (no + 1) cap6) w6 ∧ lenOf (.slice Aa na ca) + lenOf (.slice A'' n'' c'') < lenOf (.slice Aa na ca) + lenOf (.slice Ab nb cb) := by
  refine ⟨⟨la, lb', lo ++ [q], Aa, na, ca, A'', n'', c'', _, no + 1, cap6, rfl, rfl, rfl, by omega, ⟨hM.a, hp, ?_, by simp [hM.len], ?_, hbel⟩⟩, by simp only [lenOf]; omega⟩
  · rw [List.flatMap_append]; simpa using hown6
  · rw [← hM.run, hle]; simp

set_option maxHeartbeats 4000000 in
theorem sorted_any (N : Nat) : ∀ (A : Option Addr) (n c : Nat) (ps : List RowP) (w : World), n ≤ N → RowsS w A n ps → (A = none → n = 0 ∧ c = 0) → (∀ ad, A = some ad → ad.spot = none) → n ≤ c → c ≤ 9223372036854775807 → n ≤ 1000000 →
    Calls Tryz.prog 186 #[.slice A n c] w fun e w' => SortPost w n (sortP ps) e w' := by
  induction N with
  | zero =>
    intro A n c ps w hN hs hnil hsp hnc hcm hn
    exact sorted_short A n c ps w hs hnil hsp hnc hcm (by omega)
  | succ N ih =>
    intro A n c ps w hN hs hnil hsp hnc hcm hn
    rcases Nat.lt_or_ge n 2 with h2 | h2
    · exact sorted_short A n c ps w hs hnil hsp hnc hcm h2
    obtain ⟨i0, hi, hz0, hz1, hz2⟩ := info_parts info_row
    have IH := Lib.hid ih
    have HS := Lib.hid hs
    have Hln := Lib.hid hs.sl.len
    clear ih hs hnil hsp
    obtain ⟨b, o, x, rfl, hx, hxc⟩ := HS.out.sl.at (show 0 < n by omega)
    clear hx hxc
    have hhalf : n / 2 ≤ n := by omega
    have H1 : Hid (RowsS w (some ⟨b, o, none⟩) (n / 2) (ps.take (n / 2))) := ⟨HS.out.sl.take _ hhalf, fun p hp => HS.out.ok p (List.mem_of_mem_take hp)⟩
    have H2 : Hid (RowsS w (some ⟨b, o + n / 2, none⟩) (n - n / 2) (ps.drop (n / 2))) := ⟨by have := HS.out.sl.drop (n / 2) hhalf; simpa using this, fun p hp => HS.out.ok p (List.mem_of_mem_drop hp)⟩
    have HR : Hid (mergeP (sortP (ps.take (n / 2))) (sortP (ps.drop (n / 2))) = sortP ps) := by
      show _ = _
      have hl := Hln.out
      rw [sortP_long (ps := ps) (by omega), hl]
    generalize sortP ps = R at *
    go_enter Tryz.func186, Tryz.ntmps186
    go_wp2
    have hca := @cell_after w.drew
    refine wp_region_seg [([0, 1, 2, 3, 4, 6, 7, 8, 9, 10], 5), ([], 11)] [12, 13] (by kernel_rfl) (by kernel_rfl) (fun _ _ d _ _ h => by cases d <;> exact h) ?_
    simp only [pickSegs, pickOps, opAt, List.map_cons, List.map_nil, List.getElem?_toArray, List.getElem?_cons_zero, List.getElem?_cons_succ, Option.getD_some]
    unfold wpBlocks
    repeat (go_big_quiet_step (fail))
    refine wpQuiet_nil ?_
    clear hca
    go_wp2_with (first | (go_at_call 186; refine (IH.out _ _ _ (ps.take (n / 2)) _ (by omega) (H1.out.keep (Keeps.refl _).drew) (fun h => by cases h) (fun ad h => by injection h with h; rw [← h]) (by omega) hcm (by omega)).mono ?_; rintro e w1 ⟨A1, c1, rfl, hown1, hb1⟩))
    refine ⟨hb1, ?_⟩
    unfold wpBlocks
    refine wpQuiet_nil ?_
    go_wp2_with (first | (go_at_call 186; refine (IH.out _ _ _ (ps.drop (n / 2)) _ (by omega) (H2.out.keep ((Keeps.refl _).drew.trans (keeps_of hb1))) (fun h => by cases h) (fun ad h => by injection h with h; rw [← h]) (by omega) (by omega) (by omega)).mono ?_; rintro e w2 ⟨A2, c2, rfl, hown2, hb2⟩))
    refine ⟨hb2, ?_⟩
    unfold wpBlocks
    repeat (go_big_quiet_step (fail))
    refine wpQuiet_nil ?_
    have hB2 := Below.next ((Below.refl _ w).drew) (Below.next hb1 hb2)
    have hpa : SPart w2 A1 (n / 2) c1 (sortP (ps.take (n / 2))) := by
      obtain ⟨f1, f2, f3⟩ := own_forms hown1
      refine ⟨⟨(Sl.of_own (cs := rowc) (fun _ => rfl) (by rw [sortP_len, H1.out.sl.len]) hown1).keep (keeps_of hb2), fun p hp => ?_⟩, f1, f2, f3, ?_⟩
      · exact (HS.out.ok p (List.mem_of_mem_take ((sortP_mem _ _).1 hp))).keep (keeps_of hB2)
      · rcases hown1.2 with ⟨hv, _⟩ | ⟨g, cap, cur, hv, _, _, _, hm, _⟩
        · injection hv with _ _ h3; omega
        · injection hv with _ _ h3; simp only [maxLen] at hm; omega
    have hpb : SPart w2 A2 (n - n / 2) c2 (sortP (ps.drop (n / 2))) := by
      obtain ⟨f1, f2, f3⟩ := own_forms hown2
      refine ⟨⟨Sl.of_own (cs := rowc) (fun _ => rfl) (by rw [sortP_len, H2.out.sl.len]) hown2, fun p hp => ?_⟩, f1, f2, f3, ?_⟩
      · exact (HS.out.ok p (List.mem_of_mem_drop ((sortP_mem _ _).1 hp))).keep (keeps_of hB2)
      · rcases hown2.2 with ⟨hv, _⟩ | ⟨g, cap, cur, hv, _, _, _, hm, _⟩
        · injection hv with _ _ h3; omega
        · injection hv with _ _ h3; simp only [maxLen] at hm; omega
    have HPA := Lib.hid hpa
    have HPB := Lib.hid hpb
    clear hpa hpb hown1 hown2 hb1 hb2
    generalize sortP (ps.take (n / 2)) = la0 at *
    generalize sortP (ps.drop (n / 2)) = lb0 at *
    clear IH H1 H2 HS
    go_wp2_with (at_make; refine wpList_make_own w2 rfl _ _ _ rfl w2.heap.size 44 i0 _ 1 Tryz.underlying172 hi hz0 hz1 .i64 .i64 _ n rfl rfl (by omega) (by rw [hz2]; omega) (by simp only [maxLen]; omega) (Nat.le_refl _) ?_; intro w3 hown3 hg3)
    have hB3 : Below w2.heap.size w2 w3 := (Below.refl _ _).grown hg3 (Nat.le_refl _) (by simp)
    clear hg3
    go_loopw [3, 4, 5] (fun x y z wr => SRel w2 R n x y z wr) (fun x y _ _ => lenOf x + lenOf y)
    case atStart => exact ⟨la0, lb0, [], A1, n / 2, c1, A2, n - n / 2, c2, _, 0, n, rfl, rfl, rfl, by omega, ⟨HPA.out, HPB.out, hown3, rfl, by simpa using HR.out, hB3⟩⟩
    case round =>
      obtain ⟨la, lb, lo, Aa, na, ca, Ab, nb, cb, Ao, no, co, rfl, rfl, rfl, hsum, hM⟩ := hrel
      have HM := Lib.hid hM
      have hac := hM.a.le
      have hbc := hM.b.le
      have ham := hM.a.mx
      have hbm := hM.b.mx
      have HSum := Lib.hid hsum
      have hno : no ≤ 1000000 := by omega
      clear hM hsum
      by_cases hend : 0 < na ∧ 0 < nb
      · obtain ⟨ha0, hb0⟩ := hend
        have g1 : decide (0 < na) = true := by simp [ha0]
        have g2 : decide (0 < nb) = true := by simp [hb0]
        have hkr := keeps_of HM.out.bel
        obtain ⟨b1, o1, p, rfl, hp, hpc⟩ := HM.out.a.rd.sl.at ha0
        obtain ⟨b2, o2, q, rfl, hq, hqc⟩ := HM.out.b.rd.sl.at hb0
        have e1 := keep_cell hkr (hpc 0 _ rfl)
        have e2 := keep_cell hkr (hqc 0 _ rfl)
        simp only [Nat.zero_mul, Nat.add_zero] at e1 e2
        obtain ⟨la', rfl⟩ : ∃ la', la = p :: la' := by
          cases la with
          | nil => simp at hp
          | cons x l => simp only [List.getElem?_cons_zero, Option.some.injEq] at hp; exact ⟨l, by rw [hp]⟩
        obtain ⟨lb', rfl⟩ : ∃ lb', lb = q :: lb' := by
          cases lb with
          | nil => simp at hq
          | cons x l => simp only [List.getElem?_cons_zero, Option.some.injEq] at hq; exact ⟨l, by rw [hq]⟩
        have hpo := (HM.out.a.rd.ok p (List.mem_cons_self)).keep hkr
        have hqo := (HM.out.b.rd.ok q (List.mem_cons_self)).keep hkr
        have hbl1 : b1 < w2.heap.size := Sl.lt (cs := rowc) (sz := 1) (fun _ => rfl) (by omega) HM.out.a.rd.sl ha0 b1 o1 rfl
        have hbl2 : b2 < w2.heap.size := Sl.lt (cs := rowc) (sz := 1) (fun _ => rfl) (by omega) HM.out.b.rd.sl hb0 b2 o2 rfl
        obtain ⟨⟨p1, p2, p3⟩, pr⟩ := p
        obtain ⟨⟨q1, q2, q3⟩, qr⟩ := q
        dsimp only [rowc] at e1 e2
        have HPO := Lib.hid hpo
        have HQO := Lib.hid hqo
        obtain ⟨v, Hv⟩ : ∃ v, Hid (cmpR pr qr = v) := ⟨_, rfl⟩
        clear hp hq hpc hqc hpo hqo hkr
        go_wp2
        have hca := @cell_after wr.drew
        refine wp_region_seg [([0, 1, 2, 3, 4, 5], 6)] [7] (by kernel_rfl) (by kernel_rfl) (fun _ _ d _ _ h => by cases d <;> exact h) ?_
        simp only [pickSegs, pickOps, opAt, List.map_cons, List.map_nil, List.getElem?_toArray, List.getElem?_cons_zero, List.getElem?_cons_succ, Option.getD_some]
        unfold wpBlocks
        repeat (go_big_quiet_step (fail))
        refine wpQuiet_nil ?_
        clear hca
        go_wp2_with (first | (go_at_call 187; refine (rcomprows_any p1 q1 p2 q2 p3 q3 pr qr _ (HPO.out.rd.keep (Keeps.refl _).drew) (HQO.out.rd.keep (Keeps.refl _).drew) (by have := HPO.out.le; have := HPO.out.mx; dsimp only at *; omega) (by have := HQO.out.le; have := HQO.out.mx; dsimp only at *; omega)).mono ?_; rintro e w4 ⟨rfl, hb4⟩; rw [Hv.out]))
        refine ⟨hb4, ?_⟩
        unfold wpBlocks
        repeat (go_big_quiet_step (fail))
        refine wpQuiet_nil ?_
        have hK4 : Keeps wr w4 := (Keeps.refl _).drew.trans (keeps_of hb4)
        replace e1 := keep_cell hK4 e1
        replace e2 := keep_cell hK4 e2
        have HB4 := Lib.hid (Below.next HM.out.bel.drew hb4)
        have HO4 : Hid (w4.ownsRow w2.heap.size 44 1 (.slice Ao no co) no (lo.flatMap rowc)) := own_at (HM.out.own.drew) (fun g _ hl _ => hb4.block g hl)
        obtain ⟨S, HSd, hS1, hS2⟩ : ∃ S : Nat → Prop, Hid (∀ k, (Value.slice Ao no co).ownBlock = some k → S k) ∧ ¬ S b1 ∧ ¬ S b2 := ⟨fun k => (Value.slice Ao no co).ownBlock = some k, fun _ h => h, fun h => by have := own_base HM.out.own b1 h; omega, fun h => by have := own_base HM.out.own b2 h; omega⟩
        clear hb4 hK4
        rcases Int.lt_or_le 0 v with hv | hv
        · go_wp2
          rcases (show cb = 1 ∨ 1 < cb from by omega) with hcap | hcap
          all_goals
            have hca := @cell_afterS S w4.drew
            refine wp_region_segS S [([0, 1, 2, 3, 6, 7], 4), ([], 5)] [8, 9] (by kernel_rfl) (by kernel_rfl) (fun _ _ d _ _ h => by cases d <;> exact h) ?_
            simp only [pickSegs, pickOps, opAt, List.map_cons, List.map_nil, List.getElem?_toArray, List.getElem?_cons_zero, List.getElem?_cons_succ, Option.getD_some]
            unfold wpBlocksS
            first
              | (obtain rfl := hcap
                 repeat (go_big_quiet_step (fail)))
              | (repeat (go_big_quiet_step (fail)))
            refine wpQuiet_nil ?_
            clear hca
            go_wp2_with fail
            refine ⟨But.alloc _ _, ?_⟩
            unfold wpBlocksS
            refine wpQuiet_nil ?_
            go_wp2_with (at_builtin; refine wpList_append_one2 (by rfl) (.tmp 50) (.tmp 54) _ (by rfl) w2.heap.size 44 i0 _ 1 24 Tryz.underlying172 hi hz0 hz1 hz2 (by rfl) (by omega) (.slice Ao no co) no _ (by rfl) w4.drew _ HO4.out.drew w4.heap.size (by rfl) (by rfl) (by rfl) (one_row ((q1, q2, q3), [])) (by simp only [maxLen]; omega) (by omega) (by have := HB4.out.size; simpa using this) ?_; intro g6 cap6 w6 hown6 hg6 hB6 hat6 hlt6)
            refine ⟨But.of_grown hg6 HSd.out, ?_⟩
            unfold wpBlocksS
            repeat (go_big_quiet_step (fail))
            refine wpQuiet_nil ?_
            go_wp2
            have ht := HM.out.b.tail
            have hbel6 : Below w2.heap.size w2 w6 := HB4.out.drew.trans hB6
            first
              | exact sclose_b HM.out HSum.out (by rw [mergeP_cons]; simp only [Hv.out]; rw [if_neg (by omega)]) _ _ _ (by rw [if_neg (by omega)] at ht; exact ht) (by omega) g6 cap6 w6 hown6 hbel6
              | (obtain rfl : nb = 1 := by omega
                 exact sclose_b HM.out HSum.out (by rw [mergeP_cons]; simp only [Hv.out]; rw [if_neg (by omega)]) _ _ _ (by rw [if_pos rfl] at ht; exact ht) (by omega) g6 cap6 w6 hown6 hbel6)
        · go_wp2
          rcases (show ca = 1 ∨ 1 < ca from by omega) with hcap | hcap
          all_goals
            have hca := @cell_afterS S w4.drew
            refine wp_region_segS S [([0, 1, 2, 3, 6, 7], 4), ([], 5)] [8, 9] (by kernel_rfl) (by kernel_rfl) (fun _ _ d _ _ h => by cases d <;> exact h) ?_
            simp only [pickSegs, pickOps, opAt, List.map_cons, List.map_nil, List.getElem?_toArray, List.getElem?_cons_zero, List.getElem?_cons_succ, Option.getD_some]
            unfold wpBlocksS
            first
              | (obtain rfl := hcap
                 repeat (go_big_quiet_step (fail)))
              | (repeat (go_big_quiet_step (fail)))
            refine wpQuiet_nil ?_
            clear hca
            go_wp2_with fail
            refine ⟨But.alloc _ _, ?_⟩
            unfold wpBlocksS
            refine wpQuiet_nil ?_
            go_wp2_with (at_builtin; refine wpList_append_one2 (by rfl) (.tmp 42) (.tmp 46) _ (by rfl) w2.heap.size 44 i0 _ 1 24 Tryz.underlying172 hi hz0 hz1 hz2 (by rfl) (by omega) (.slice Ao no co) no _ (by rfl) w4.drew _ HO4.out.drew w4.heap.size (by rfl) (by rfl) (by rfl) (one_row ((p1, p2, p3), [])) (by simp only [maxLen]; omega) (by omega) (by have := HB4.out.size; simpa using this) ?_; intro g6 cap6 w6 hown6 hg6 hB6 hat6 hlt6)
            refine ⟨But.of_grown hg6 HSd.out, ?_⟩
            unfold wpBlocksS
            repeat (go_big_quiet_step (fail))
            refine wpQuiet_nil ?_
            go_wp2
            have ht := HM.out.a.tail
            have hbel6 : Below w2.heap.size w2 w6 := HB4.out.drew.trans hB6
            first
              | exact sclose_a HM.out HSum.out (by rw [mergeP_cons]; simp only [Hv.out]; rw [if_pos hv]) _ _ _ (by rw [if_neg (by omega)] at ht; exact ht) (by omega) g6 cap6 w6 hown6 hbel6
              | (obtain rfl : na = 1 := by omega
                 exact sclose_a HM.out HSum.out (by rw [mergeP_cons]; simp only [Hv.out]; rw [if_pos hv]) _ _ _ (by rw [if_pos rfl] at ht; exact ht) (by omega) g6 cap6 w6 hown6 hbel6)
      · have hk := keeps_of HM.out.bel
        have hpa := HM.out.a.keep hk
        have hpb := HM.out.b.keep hk
        have HPA2 := Lib.hid hpa
        have HPB2 := Lib.hid hpb
        have hfin : Hid ((lo ++ la) ++ lb = R) := by
          show _ = _
          rw [← HM.out.run]
          have h1 := HM.out.a.rd.sl.len
          have h2 := HM.out.b.rd.sl.len
          rcases Nat.eq_zero_or_pos na with h0 | h0
          · obtain rfl : la = [] := List.eq_nil_of_length_eq_zero (by omega)
            simp [mergeP]
          · obtain rfl : lb = [] := List.eq_nil_of_length_eq_zero (by omega)
            simp [mergeP_nil]
        have hsz := HM.out.bel.size
        have hnn : na + nb + no ≤ 1000000 := by have := HSum.out; omega
        clear hk hpa hpb
        have HO := Lib.hid HM.out.own
        rcases Nat.eq_zero_or_pos na with h0 | h0
        · have g1 : decide (0 < na) = false := by simp; omega
          have H0 := Lib.hid h0
          clear h0
          go_wp2_with (first
            | (at_builtin; refine wpList_append_sl (cs := rowc) wr (by rfl) (.tmp 58) (.tmp 59) _ (by rfl) w2.heap.size 44 i0 _ 1 24 Tryz.underlying172 hi hz0 hz1 hz2 (by rfl) (by omega) (.slice Ao no co) no lo (by rfl) HO.out Aa na ca la (by rfl) HPA2.out.rd.sl HPA2.out.nl HPA2.out.sp (fun _ => rfl) one_row (by simp only [maxLen]; omega) (by omega) hsz ?_; intro A5 c5 w5 hown5 hg5 hB5 hat5 hn5)
            | (at_builtin; refine wpList_append_sl (cs := rowc) w5 (by rfl) (.tmp 60) (.tmp 61) _ (by rfl) w2.heap.size 44 i0 _ 1 24 Tryz.underlying172 hi hz0 hz1 hz2 (by rfl) (by omega) (.slice A5 (no + na) c5) (no + na) (lo ++ la) (by rfl) hown5 Ab nb cb lb (by rfl) (HM.out.b.rd.keep (keeps_of (HM.out.bel.trans hB5))).sl HPB2.out.nl HPB2.out.sp (fun _ => rfl) one_row (by simp only [maxLen]; omega) (by omega) (Nat.le_trans hsz hB5.size) ?_; intro A6 c6 w6 hown6 hg6 hB6 hat6 hn6))
          go_ret
          have hs := HSum.out
          rw [hfin.out, show no + na + nb = n by omega] at hown6
          have hr : Ending.returned (Value.slice A6 (no + na + nb) c6) = .returned (.slice A6 n c6) := by rw [show no + na + nb = n by omega]
          exact ⟨A6, c6, hr, own_weaken hown6 hB2.size, Below.next hB2 ((HM.out.bel.trans hB5).trans hB6)⟩
        · have g1 : decide (0 < na) = true := by simp [h0]
          have g2 : decide (0 < nb) = false := by simp; omega
          clear hend
          go_wp2_with (first
            | (at_builtin; refine wpList_append_sl (cs := rowc) wr (by rfl) (.tmp 58) (.tmp 59) _ (by rfl) w2.heap.size 44 i0 _ 1 24 Tryz.underlying172 hi hz0 hz1 hz2 (by rfl) (by omega) (.slice Ao no co) no lo (by rfl) HO.out Aa na ca la (by rfl) HPA2.out.rd.sl HPA2.out.nl HPA2.out.sp (fun _ => rfl) one_row (by simp only [maxLen]; omega) (by omega) hsz ?_; intro A5 c5 w5 hown5 hg5 hB5 hat5 hn5)
            | (at_builtin; refine wpList_append_sl (cs := rowc) w5 (by rfl) (.tmp 60) (.tmp 61) _ (by rfl) w2.heap.size 44 i0 _ 1 24 Tryz.underlying172 hi hz0 hz1 hz2 (by rfl) (by omega) (.slice A5 (no + na) c5) (no + na) (lo ++ la) (by rfl) hown5 Ab nb cb lb (by rfl) (HM.out.b.rd.keep (keeps_of (HM.out.bel.trans hB5))).sl HPB2.out.nl HPB2.out.sp (fun _ => rfl) one_row (by simp only [maxLen]; omega) (by omega) (Nat.le_trans hsz hB5.size) ?_; intro A6 c6 w6 hown6 hg6 hB6 hat6 hn6))
          go_ret
          have hs := HSum.out
          rw [hfin.out, show no + na + nb = n by omega] at hown6
          have hr : Ending.returned (Value.slice A6 (no + na + nb) c6) = .returned (.slice A6 n c6) := by rw [show no + na + nb = n by omega]
          exact ⟨A6, c6, hr, own_weaken hown6 hB2.size, Below.next hB2 ((HM.out.bel.trans hB5).trans hB6)⟩
end Go.Proofs.YtmnmckblmoalkaaGreat
