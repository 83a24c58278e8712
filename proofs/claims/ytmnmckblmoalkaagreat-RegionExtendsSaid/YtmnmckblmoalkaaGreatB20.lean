/-
  Texts: SetR, SetL.
-/
import Derived.Test.YtmnmckblmoalkaaGreatB19
set_option linter.unusedVariables false
namespace Go.Proofs.YtmnmckblmoalkaaGreat
open Go.RowKit
set_option maxRecDepth 100000

def keepR (acc : List (List Vl)) (r : List Vl) : Bool := match acc.getLast? with
  | none => true
  | some x => decide (cmpR x r ≠ 0)
def dedup : List (List Vl) → List (List Vl) → List (List Vl)
  | acc, [] => acc
  | acc, r :: l => if keepR acc r then dedup (acc ++ [r]) l else dedup acc l
def setR (ps : List RowP) : List (List Vl) := dedup [] ((sortP ps).map (·.2))

/-- rows of the call's own -/
def OwnRow (w : World) (base : Nat) (q : RowP) : Prop := w.ownsRow base 49 3 (.slice q.1.1 q.1.2.1 q.1.2.2) q.1.2.1 (q.2.flatMap Vl.cs) ∧ q.2.length = q.1.2.1
theorem OwnRow.ok {w : World} {base : Nat} {q : RowP} (h : OwnRow w base q) : RowOk w q := by
  obtain ⟨f1, f2, f3⟩ := own_forms h.1
  refine ⟨Sl.of_own Vl.cs_len h.2 h.1, f1, f3, ?_⟩
  rcases h.1.2 with ⟨hv, _⟩ | ⟨g, cap, cur, hv, _, _, _, hm, _⟩
  · injection hv with _ _ h3; omega
  · injection hv with _ _ h3; simp only [maxLen] at hm; omega
theorem OwnRow.grown {w w' : World} {base : Nat} {q : RowP} (h : OwnRow w base q) {base' : Nat} {v : Value} {n size : Nat} {xs : List Value} (ho : w.ownsRow base' 44 size v n xs) (hg : w.grownBy w' v.ownBlock) : OwnRow w' base q := by
  refine ⟨own_at h.1 (fun g _ hlt hv => hg.block g hlt (fun e => ?_)), h.2⟩
  rcases h.1.2 with ⟨hq, _⟩ | ⟨g1, cap1, cur1, hq, _, hh1, _⟩
  · rw [hq] at hv; simp [Value.ownBlock] at hv
  · rw [hq] at hv
    simp only [Value.ownBlock, Option.some.injEq] at hv
    rcases ho.2 with ⟨hv2, _⟩ | ⟨g2, cap2, cur2, hv2, _, hh2, _⟩
    · rw [hv2] at e; simp [Value.ownBlock] at e
    · rw [hv2] at e
      simp only [Value.ownBlock, Option.some.injEq] at e
      rw [← hv] at e
      subst e
      rw [hh1] at hh2
      injection hh2 with hh2
      injection hh2 with _ ht
      exact absurd ht (by decide)
theorem OwnRow.below {w w' : World} {base : Nat} {q : RowP} (h : OwnRow w base q) (hb : Below w.heap.size w w') : OwnRow w' base q := ⟨own_at h.1 (fun g _ hlt _ => hb.block g hlt), h.2⟩

structure TState (w1 : World) (R : List (List Vl)) (ps : List RowP) (k : Nat) (qs : List RowP) (Ao : Option Addr) (no co : Nat) (wr : World) : Prop where
  own : wr.ownsRow w1.heap.size 44 1 (.slice Ao no co) no (qs.flatMap rowc)
  len : qs.length = no
  kle : no ≤ k
  rows : ∀ q ∈ qs, OwnRow wr w1.heap.size q
  run : dedup (qs.map (·.2)) ((ps.drop k).map (·.2)) = R
  bel : Below w1.heap.size w1 wr
def TRel (w1 : World) (R : List (List Vl)) (ps : List RowP) (n : Nat) (x i : Value) (wr : World) : Prop :=
  ∃ (k : Nat) (qs : List RowP) (Ao : Option Addr) (no co : Nat), k ≤ n ∧ i = .int .i64 (k : Int) ∧ x = .slice Ao no co ∧ TState w1 R ps k qs Ao no co wr
def SetPost (w : World) (R : List (List Vl)) (e : Ending) (w' : World) : Prop :=
  ∃ (qs : List RowP) (A' : Option Addr) (c' : Nat), e = .returned (.slice A' R.length c') ∧ qs.map (·.2) = R ∧ w'.ownsRow w.heap.size 44 1 (.slice A' R.length c') R.length (qs.flatMap rowc) ∧ (∀ q ∈ qs, OwnRow w' w.heap.size q) ∧ Below w.heap.size w w'
theorem SetPost.rows {w w' : World} {R : List (List Vl)} {e : Ending} (h : SetPost w R e w') : ∃ (qs : List RowP) (A' : Option Addr) (c' : Nat), e = .returned (.slice A' R.length c') ∧ qs.map (·.2) = R ∧ RowsS w' A' R.length qs ∧ Below w.heap.size w w' := by
  obtain ⟨qs, A', c', h1, h2, h3, h4, h5⟩ := h
  exact ⟨qs, A', c', h1, h2, ⟨Sl.of_own (cs := rowc) (fun _ => rfl) (by rw [← h2]; simp) h3, fun q hq => (h4 q hq).ok⟩, h5⟩

set_option maxHeartbeats 2000000 in
theorem rset_any (A : Option Addr) (n c : Nat) (ps : List RowP) (w : World) (hs : RowsS w A n ps) (hnil : A = none → n = 0 ∧ c = 0) (hsp : ∀ ad, A = some ad → ad.spot = none) (hnc : n ≤ c) (hcm : c ≤ 9223372036854775807) (hn : n ≤ 1000000) (hsm : ∀ p ∈ ps, p.1.2.1 ≤ 4398046511104) :
    Calls Tryz.prog 167 #[.slice A n c] w fun e w' => SetPost w (setR ps) e w' := by
  obtain ⟨i0, hi, hz0, hz1, hz2⟩ := info_parts info_row
  have HS := Lib.hid hs
  have HN := Lib.hid hnil
  have HP := Lib.hid hsp
  have Hln := Lib.hid hs.sl.len
  have Hsm := Lib.hid (fun p (hp : p ∈ sortP ps) => hsm p ((sortP_mem ps p).1 hp))
  clear hs hnil hsp hsm
  have HR : Hid (dedup [] ((sortP ps).map (·.2)) = setR ps) := rfl
  have Hsl : Hid ((sortP ps).length = n) := by show _ = _; rw [sortP_len, Hln.out]
  generalize setR ps = R at *
  go_enter Tryz.func167, Tryz.ntmps167
  go_wp2_with fail
  refine (sorted_any n A n c ps _ (Nat.le_refl _) HS.out HN.out HP.out hnc hcm hn).mono ?_
  rintro e w1 ⟨A1, c1, rfl, hown1, hb1⟩
  have hss : RowsS w1 A1 n (sortP ps) := ⟨Sl.of_own (cs := rowc) (fun _ => rfl) Hsl.out hown1, fun p hp => (HS.out.ok p ((sortP_mem _ _).1 hp)).keep (keeps_of hb1)⟩
  have HSS := Lib.hid hss
  clear hss hown1 HS HN HP Hln
  generalize sortP ps = sp at *
  go_wp2
  go_loopw [3, 9] (fun x i wr => TRel w1 R sp n x i wr) (fun _ i _ => n - (intOf i).toNat)
  case atStart => exact ⟨0, [], none, 0, 0, by omega, rfl, rfl, ⟨⟨by simp, .inl ⟨rfl, rfl⟩⟩, rfl, by omega, by simp, by simpa using HR.out, Below.refl _ _⟩⟩
  case round =>
    obtain ⟨k, qs, Ao, no, co, hk, rfl, rfl, hT⟩ := hrel
    have HT := Lib.hid hT
    have hno : no ≤ k := hT.kle
    clear hT
    by_cases hlt : k < n
    · have hkr := keeps_of HT.out.bel
      obtain ⟨b, o, p, rfl, hp, hpc⟩ := HSS.out.sl.at hlt
      have e1 := keep_cell hkr (hpc 0 _ rfl)
      simp only [Nat.mul_one, Nat.add_zero] at e1
      have hpm : p ∈ sp := List.mem_of_getElem? hp
      have hpo := (HSS.out.ok p hpm).keep hkr
      have hps := Hsm.out p hpm
      have Hrun : Hid (R = if keepR (qs.map (·.2)) p.2 then dedup (qs.map (·.2) ++ [p.2]) ((sp.drop (k + 1)).map (·.2)) else dedup (qs.map (·.2)) ((sp.drop (k + 1)).map (·.2))) := by
        show _ = _
        rw [← HT.out.run, drop_at hp]; rfl
      obtain ⟨⟨p1, p2, p3⟩, pr⟩ := p
      dsimp only [rowc] at e1 hps Hrun
      have HPO := Lib.hid hpo
      clear hp hpc hpm hpo hkr
      have hwz := HT.out.bel.size
      obtain ⟨kr, Hkr⟩ : ∃ b, Hid (keepR (qs.map (·.2)) pr = b) := ⟨_, rfl⟩
      rw [Hkr.out] at Hrun
      rcases Nat.eq_zero_or_pos no with h0 | h0
      · have g0 : ((no : Int) == 0) = true := by simp [h0]
        have HKT : Hid (kr = true) := by
          show _ = _
          rw [← Hkr.out]
          obtain rfl : qs = [] := List.eq_nil_of_length_eq_zero (by have := HT.out.len; omega)
          rfl
        have H0 := Lib.hid h0
        clear h0
        go_wp2_with fail
        refine (copy_any ((p1, p2, p3), pr) _ HPO.out hps).mono ?_
        rintro e w3 ⟨A3, c3, rfl, hown3, hb3⟩
        have hO3 := own_at HT.out.own (fun g _ hl _ => hb3.block g hl)
        have hsz3 : w1.heap.size ≤ w3.heap.size := Nat.le_trans HT.out.bel.size hb3.size
        have HN3 : Hid (OwnRow w3 w1.heap.size ((A3, p2, c3), pr)) := ⟨own_weaken hown3 HT.out.bel.size, (HPO.out).rd.len⟩
        go_wp2_with (at_builtin; refine wpList_append_one2 (by rfl) (.tmp 27) (.tmp 30) _ (by rfl) w1.heap.size 44 i0 _ 1 24 Tryz.underlying172 hi hz0 hz1 hz2 (by rfl) (by omega) (.slice Ao no co) no _ (by rfl) w3 _ hO3 w3.heap.size (by rfl) (by rfl) (by rfl) (one_row ((A3, p2, c3), [])) (by simp only [maxLen]; omega) (by omega) hsz3 ?_; intro g6 cap6 w6 hown6 hg6 hB6 hat6 hlt6)
        go_roundw
        case rel =>
          refine ⟨k + 1, qs ++ [((A3, p2, c3), pr)], _, no + 1, cap6, by omega, by go_num, rfl, ⟨?_, by simp [HT.out.len], by omega, ?_, ?_, (HT.out.bel.trans (hb3.mono HT.out.bel.size)).trans hB6⟩⟩
          · rw [List.flatMap_append]; simpa [rowc] using hown6
          · intro q hq
            have ho4 := hO3.alloc (.cells #[.slice A3 p2 c3] 44)
            rw [List.mem_append, List.mem_singleton] at hq
            rcases hq with hq | rfl
            · exact ((((HT.out.rows) q hq).below hb3).below ((Below.refl _ _).alloc (Nat.le_refl _) _)).grown ho4 hg6
            · exact (HN3.out.below ((Below.refl _ _).alloc (Nat.le_refl _) _)).grown ho4 hg6
          · have := Hrun.out
            rw [if_pos HKT.out] at this
            rw [this]; simp
        case measure => simp [intOf]; omega
      · have g0 : ((no : Int) == 0) = false := by simp; omega
        obtain ⟨bo, oo, q, hAo, hq, hqc⟩ := (Sl.of_own (cs := rowc) (fun _ => rfl) HT.out.len HT.out.own).at (show no - 1 < no by omega)
        subst hAo
        have e2 := hqc 0 _ rfl
        simp only [Nat.mul_one, Nat.add_zero] at e2
        have hqo := (HT.out.rows q (List.mem_of_getElem? hq)).ok
        have Hlast : Hid (keepR (qs.map (·.2)) pr = decide (cmpR q.2 pr ≠ 0)) := by
          show _ = _
          unfold keepR
          rw [List.getLast?_eq_getElem?, List.getElem?_map, List.length_map, HT.out.len, hq]
          rfl
        obtain ⟨⟨q1, q2, q3⟩, qr⟩ := q
        dsimp only [rowc] at e2 Hlast
        have HQO := Lib.hid hqo
        clear hq hqc hqo
        obtain ⟨v, Hv⟩ : ∃ v, Hid (cmpR qr pr = v) := ⟨_, rfl⟩
        have hno2 : (1 : Int) ≤ (no : Int) := by omega
        go_wp2_with fail
        refine (rcomprows_any q1 p1 q2 p2 q3 p3 qr pr _ HQO.out.rd HPO.out.rd (by have := HQO.out.le; have := HQO.out.mx; dsimp only at *; omega) (by have := HPO.out.le; have := HPO.out.mx; dsimp only at *; omega)).mono ?_
        rintro e w2 ⟨rfl, hb2⟩
        rw [Hv.out]
        have HO2 := Lib.hid (own_at HT.out.own (fun g _ hl _ => hb2.block g hl))
        have HR2 : Hid (∀ q ∈ qs, OwnRow w2 w1.heap.size q) := fun q hq => (HT.out.rows q hq).below hb2
        have HB2 := Lib.hid (HT.out.bel.trans (hb2.mono HT.out.bel.size))
        have HP2 := Lib.hid (HPO.out.keep (keeps_of hb2))
        by_cases hv : v = 0
        · have gv : (v != 0) = false := by simp [hv]
          have HKF : Hid (kr = false) := by
            show _ = _
            rw [← Hkr.out, Hlast.out, Hv.out]; simp [hv]
          have HV := Lib.hid hv
          clear hv
          go_wp2
          go_roundw
          case rel =>
            refine ⟨k + 1, qs, _, no, co, by omega, by go_num, rfl, ⟨HO2.out, HT.out.len, by omega, HR2.out, ?_, HB2.out⟩⟩
            have := Hrun.out
            rw [HKF.out] at this
            simpa using this.symm
          case measure => simp [intOf]; omega
        · have gv : (v != 0) = true := by simp [hv]
          have HKT : Hid (kr = true) := by
            show _ = _
            rw [← Hkr.out, Hlast.out, Hv.out]; simp [hv]
          go_wp2_with fail
          refine (copy_any ((p1, p2, p3), pr) _ HP2.out hps).mono ?_
          rintro e w3 ⟨A3, c3, rfl, hown3, hb3⟩
          have hO3 := own_at HO2.out (fun g _ hl _ => hb3.block g hl)
          have hsz3 : w1.heap.size ≤ w3.heap.size := Nat.le_trans HB2.out.size hb3.size
          have HN3 : Hid (OwnRow w3 w1.heap.size ((A3, p2, c3), pr)) := ⟨own_weaken hown3 HB2.out.size, (HP2.out).rd.len⟩
          go_wp2_with (at_builtin; refine wpList_append_one2 (by rfl) (.tmp 27) (.tmp 30) _ (by rfl) w1.heap.size 44 i0 _ 1 24 Tryz.underlying172 hi hz0 hz1 hz2 (by rfl) (by omega) (.slice (some ⟨bo, oo, none⟩) no co) no _ (by rfl) w3 _ hO3 w3.heap.size (by rfl) (by rfl) (by rfl) (one_row ((A3, p2, c3), [])) (by simp only [maxLen]; omega) (by omega) hsz3 ?_; intro g6 cap6 w6 hown6 hg6 hB6 hat6 hlt6)
          go_roundw
          case rel =>
            refine ⟨k + 1, qs ++ [((A3, p2, c3), pr)], _, no + 1, cap6, by omega, by go_num, rfl, ⟨?_, by simp [HT.out.len], by omega, ?_, ?_, (HB2.out.trans (hb3.mono HB2.out.size)).trans hB6⟩⟩
            · rw [List.flatMap_append]; simpa [rowc] using hown6
            · intro q hq
              have ho4 := hO3.alloc (.cells #[.slice A3 p2 c3] 44)
              rw [List.mem_append, List.mem_singleton] at hq
              rcases hq with hq | rfl
              · exact ((((HR2.out) q hq).below hb3).below ((Below.refl _ _).alloc (Nat.le_refl _) _)).grown ho4 hg6
              · exact (HN3.out.below ((Below.refl _ _).alloc (Nat.le_refl _) _)).grown ho4 hg6
            · have := Hrun.out
              rw [if_pos HKT.out] at this
              rw [this]; simp
          case measure => simp [intOf]; omega
    · have HTT := HT
      go_wp2
      go_ret
      obtain rfl : k = n := by omega
      have hfin : qs.map (·.2) = R := by
        rw [← HT.out.run, List.drop_eq_nil_of_le (by have := Hsl.out; omega)]; rfl
      have hRl : R.length = no := by rw [← hfin]; simp [HT.out.len]
      have hr : Ending.returned (Value.slice Ao no co) = .returned (.slice Ao R.length co) := by rw [hRl]
      refine ⟨qs, Ao, co, hr, hfin, ?_, fun q hq => ⟨own_weaken (HT.out.rows q hq).1 hb1.size, (HT.out.rows q hq).2⟩, Below.next hb1 HT.out.bel⟩
      rw [hRl]
      exact own_weaken HT.out.own hb1.size
end Go.Proofs.YtmnmckblmoalkaaGreat

namespace Go.Proofs.YtmnmckblmoalkaaGreat
open Go.RowKit
set_option maxRecDepth 100000

def mrgR : List (List Vl) → List (List Vl) → List (List Vl)
  | [], b => b
  | x :: a, [] => x :: a
  | x :: a, y :: b => if cmpR x y ≤ 0 then x :: mrgR a (y :: b) else y :: mrgR (x :: a) b
termination_by a b => a.length + b.length
theorem mrgR_cons (x : List Vl) (a : List (List Vl)) (y : List Vl) (b : List (List Vl)) : mrgR (x :: a) (y :: b) = if cmpR x y ≤ 0 then x :: mrgR a (y :: b) else y :: mrgR (x :: a) b := by rw [mrgR]
def srtR (l : List (List Vl)) : List (List Vl) :=
  if h : l.length < 2 then l else mrgR (srtR (l.take (l.length / 2))) (srtR (l.drop (l.length / 2)))
termination_by l.length
decreasing_by
  · simp; omega
  · simp; omega
theorem mergeP_map : ∀ (a b : List RowP), (mergeP a b).map (·.2) = mrgR (a.map (·.2)) (b.map (·.2))
  | [], b => by simp [mergeP, mrgR]
  | x :: a, [] => by simp [mergeP, mrgR]
  | x :: a, y :: b => by
    rw [mergeP_cons, List.map_cons, List.map_cons, mrgR_cons]
    split
    · rw [List.map_cons, mergeP_map a (y :: b)]; rfl
    · rw [List.map_cons, mergeP_map (x :: a) b]; rfl
termination_by a b => a.length + b.length
theorem sortP_map (ps : List RowP) : (sortP ps).map (·.2) = srtR (ps.map (·.2)) := by
  induction h : ps.length using Nat.strongRecOn generalizing ps with
  | _ n ih =>
    subst h
    by_cases h2 : ps.length < 2
    · rw [sortP_short h2, srtR]; simp [h2]
    · rw [sortP_long (by omega), mergeP_map, ih _ (by simp; omega) (ps.take (ps.length / 2)) rfl, ih _ (by simp; omega) (ps.drop (ps.length / 2)) rfl]
      conv => rhs; rw [srtR]
      simp [h2]
def setL (l : List (List Vl)) : List (List Vl) := dedup [] (srtR l)
theorem setR_eq (ps : List RowP) : setR ps = setL (ps.map (·.2)) := by unfold setR setL; rw [sortP_map]

theorem mrgR_mem : ∀ (a b : List (List Vl)) (r : List Vl), r ∈ mrgR a b ↔ r ∈ a ∨ r ∈ b
  | [], b, r => by simp [mrgR]
  | x :: a, [], r => by simp [mrgR]
  | x :: a, y :: b, r => by
    rw [mrgR_cons]
    split
    · rw [List.mem_cons, mrgR_mem a (y :: b) r]; simp only [List.mem_cons]; grind
    · rw [List.mem_cons, mrgR_mem (x :: a) b r]; simp only [List.mem_cons]; grind
termination_by a b => a.length + b.length
theorem srtR_short {l : List (List Vl)} (h : l.length < 2) : srtR l = l := by rw [srtR]; simp [h]
theorem srtR_long {l : List (List Vl)} (h : 2 ≤ l.length) : srtR l = mrgR (srtR (l.take (l.length / 2))) (srtR (l.drop (l.length / 2))) := by
  rw [srtR, dif_neg (by omega)]
theorem srtR_mem (l : List (List Vl)) (r : List Vl) : r ∈ srtR l ↔ r ∈ l := by
  induction h : l.length using Nat.strongRecOn generalizing l with
  | _ n ih =>
    subst h
    by_cases h2 : l.length < 2
    · rw [srtR_short h2]
    · rw [srtR_long (by omega), mrgR_mem, ih _ (by simp; omega) (l.take (l.length / 2)) rfl, ih _ (by simp; omega) (l.drop (l.length / 2)) rfl]
      rw [← List.mem_append, List.take_append_drop]
theorem dedup_sub : ∀ (l acc : List (List Vl)) (r : List Vl), r ∈ dedup acc l → r ∈ acc ∨ r ∈ l
  | [], acc, r, h => .inl h
  | x :: l, acc, r, h => by
    unfold dedup at h
    split at h
    · rcases dedup_sub l _ r h with h1 | h1
      · rw [List.mem_append, List.mem_singleton] at h1
        rcases h1 with h1 | rfl
        · exact .inl h1
        · exact .inr List.mem_cons_self
      · exact .inr (List.mem_cons_of_mem _ h1)
    · rcases dedup_sub l _ r h with h1 | h1
      · exact .inl h1
      · exact .inr (List.mem_cons_of_mem _ h1)
theorem mrgR_len : ∀ (a b : List (List Vl)), (mrgR a b).length = a.length + b.length
  | [], b => by simp [mrgR]
  | x :: a, [] => by simp [mrgR]
  | x :: a, y :: b => by
    rw [mrgR_cons]
    split
    · rw [List.length_cons, mrgR_len a (y :: b)]; simp; omega
    · rw [List.length_cons, mrgR_len (x :: a) b]; simp; omega
termination_by a b => a.length + b.length
theorem srtR_len (l : List (List Vl)) : (srtR l).length = l.length := by
  induction h : l.length using Nat.strongRecOn generalizing l with
  | _ n ih =>
    subst h
    by_cases h2 : l.length < 2
    · rw [srtR_short h2]
    · rw [srtR_long (by omega), mrgR_len, ih _ (by simp; omega) (l.take (l.length / 2)) rfl, ih _ (by simp; omega) (l.drop (l.length / 2)) rfl]
      simp; omega
theorem dedup_len : ∀ (l acc : List (List Vl)), (dedup acc l).length ≤ acc.length + l.length
  | [], acc => by simp [dedup]
  | x :: l, acc => by
    unfold dedup
    split
    · have := dedup_len l (acc ++ [x]); simp at this ⊢; omega
    · have := dedup_len l acc; simp at this ⊢; omega
theorem setL_len (l : List (List Vl)) : (setL l).length ≤ l.length := by
  have := dedup_len (srtR l) []
  rw [srtR_len] at this
  simpa [setL] using this
theorem setL_sub (l : List (List Vl)) (r : List Vl) (h : r ∈ setL l) : r ∈ l := by
  rcases dedup_sub _ _ r h with h1 | h1
  · simp at h1
  · exact (srtR_mem l r).1 h1
theorem setL_ones (c : List Vl) : ∃ L : List Vl, L.map (fun v => [v]) = setL (c.map fun v => [v]) := by
  refine ⟨(setL (c.map fun v => [v])).map (fun r => r.headD zeroV), ?_⟩
  rw [List.map_map]
  conv => rhs; rw [← List.map_id (setL (c.map fun v => [v]))]
  apply List.map_congr_left
  intro r hr
  have := setL_sub _ r hr
  rw [List.mem_map] at this
  obtain ⟨v, _, rfl⟩ := this
  rfl

end Go.Proofs.YtmnmckblmoalkaaGreat
