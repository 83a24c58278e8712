/-
  Texts: IgRow, IgRk, IgO, IgPut, IgCnt, IgFit.
-/
import Derived.Test.YtponkkljlbifmaaGreatH10
set_option linter.unusedVariables false
/-
  Case.Row in the mode of the server: a row that fits.
-/
namespace Go.Proofs.YtponkkljlbifmaaGreat
open Go.RowKit
set_option maxRecDepth 100000
open Pd

theorem fitL_snoc : ∀ {l : Rw} {ks : List Int} {v : Vl} {k : Int}, fitL l ks = true → fitC v k = true → fitL (l ++ [v]) (ks ++ [k]) = true
  | [], [], v, k, _, h => by simp [fitL, h]
  | x :: l, y :: ks, v, k, h, hv => by
    simp only [fitL, Bool.and_eq_true] at h
    simp only [List.cons_append, fitL, Bool.and_eq_true]
    exact ⟨h.1, fitL_snoc h.2 hv⟩
  | [], _ :: _, _, _, h, _ => by simp [fitL] at h
  | _ :: _, [], _, _, h, _ => by simp [fitL] at h
def RowK (kinds : List Int) (w : World) (g : Nat) (e : Ending) (w' : World) : Prop := ∃ (A : Option Addr) (c : Nat) (r : Rw), e = .returned (.slice A r.length c) ∧ OwnRow w' w.heap.size ((A, r.length, c), r) ∧ fitL r kinds = true ∧ CaseAt w' g ∧ But (· = g) w w'
set_option maxRecDepth 100000 in
set_option maxHeartbeats 8000000 in
theorem crow_any (g : Nat) (cols : List Int) (Ac : Option Addr) (nc cc : Nat) (K : Int) (w : World) (hc : CaseAt w g) (hl : ClN g w Ac nc cols) (hn : nc ≤ 12) (hk : ∀ k ∈ cols, k = 3 ∨ k = 4 ∨ k = 5) : Calls Tryz.prog 24 #[.pointer (some ⟨g, 0, none⟩), .slice Ac nc cc, .int .i64 K, .int .i64 1] w fun e w' => RowK cols w g e w' := by
  obtain ⟨i1, hi, hz0, hz1, hz2⟩ := info_parts info_vl
  have hgl := hc.lt
  have HC0 := Lib.hid hc
  have HL0 := Lib.hid hl
  have HKK := Lib.hid hk
  have Hlc := Lib.hid hl.sl.len
  clear hc hl hk
  go_enter Tryz.func24, Tryz.ntmps24
  go_wp2_with fail
  go_loopw [9, 14] (fun x i wr => ∃ (k : Nat) (l : List Vl) (A : Option Addr) (c : Nat), k ≤ nc ∧ i = .int .i64 (k : Int) ∧ x = .slice A k c ∧ Hid (wr.ownsRow w.heap.size 67 3 (.slice A k c) k (l.flatMap Vl.cs)) ∧ Hid (l.length = k ∧ fitL l (cols.take k) = true) ∧ Hid (CaseAt wr g) ∧ Hid (But (· = g) w wr)) (fun _ i _ => nc - (intOf i).toNat)
  case atStart => exact ⟨0, [], none, 0, by omega, rfl, rfl, Lib.hid ⟨by simp, .inl ⟨rfl, rfl⟩⟩, Lib.hid ⟨rfl, by simp [fitL]⟩, HC0, Lib.hid (But.refl _ _)⟩
  case round =>
    clear HC0
    obtain ⟨k, l, A, c, hk, rfl, rfl, HO, HT, HC, HB⟩ := hrel
    by_cases hlt : k < nc
    rotate_left
    · obtain rfl : k = nc := by omega
      have HE : Hid (RowK cols w g (.returned (.slice A k c)) wr) := Lib.hid ⟨A, c, l, by rw [HT.out.1], ⟨by rw [HT.out.1]; exact HO.out, rfl⟩, by
        have h := HT.out.2
        rwa [List.take_of_length_le (by rw [Hlc.out]; exact Nat.le_refl _)] at h, HC.out, HB.out⟩
      go_wp2
      go_ret
      exact HE.out
    obtain ⟨bc, oc, kk, rfl, hx, hxc⟩ := (HL0.out.case HB.out).sl.at hlt
    have d0 := hxc 0 _ rfl
    simp only [Nat.mul_one, Nat.add_zero] at d0
    have Hx := Lib.hid (take_snocI hx)
    have Hkk := Lib.hid (HKK.out kk (List.mem_of_getElem? hx))
    clear hx hxc
    obtain ⟨bq, hbq⟩ : ∃ z, decide (K ≤ (k : Int)) = z := ⟨_, rfl⟩
    cases bq
    all_goals
      go_wp2_with fail
      refine (value3_any g kk _ HC.out Hkk.out).mono ?_
      rintro e w4 ⟨⟨⟨vk, vi, vt⟩, hv1, hv2, hv3, rfl⟩, hc4, hb4⟩
      have HF : Hid (fitL (l ++ [⟨vk, vi, vt⟩]) (cols.take (k + 1)) = true) := Lib.hid (by
        rw [Hx.out]
        refine fitL_snoc HT.out.2 ?_
        unfold fitC
        rw [hv1, hv3]
        simp)
      clear d0 hv1 hv2 hv3
      replace HO := Lib.hid (own_but HO.out hb4 (fun q hq => by have := (own_lt HO.out hq).1; omega))
      replace HB := Lib.hid (HB.out.trans hb4)
      replace HC := Lib.hid hc4
      clear hc4 hb4 hbq
      have hsz : w.heap.size ≤ w4.heap.size := HB.out.size
      go_wp2_with (at_builtin; refine wpList_append_one2 (by rfl) (.tmp 19) (.tmp 23) _ (by rfl) w.heap.size 67 i1 _ 3 32 Tryz.underlying75 hi hz0 hz1 hz2 (by rfl) (by omega) (.slice A k c) k _ (by rfl) w4 _ HO.out w4.heap.size (by rfl) (by rfl) (by rfl) (one_vl ⟨vk, vi, vt⟩) (by simp only [maxLen]; omega) (by omega) hsz ?_; intro g6 cap6 w6 hown6 hg6 hB6 hat6 hlt6)
      go_roundw
      case rel =>
        refine ⟨k + 1, l ++ [⟨vk, vi, vt⟩], some ⟨g6, 0, none⟩, cap6, by omega, by go_num, rfl, Lib.hid ?_, Lib.hid ⟨by rw [List.length_append, HT.out.1]; rfl, HF.out⟩, Lib.hid (gcase_belowB HC.out hB6 hgl), Lib.hid (gbut_belowB HB.out hB6 (Nat.le_refl _))⟩
        rw [List.flatMap_append]
        exact hown6
      case measure => simp [intOf]; omega
end Go.Proofs.YtponkkljlbifmaaGreat

/-
  The reference's Kinds and Key of a table.
-/
namespace Go.Proofs.YtponkkljlbifmaaGreat
open Go.RowKit
set_option maxRecDepth 100000
open Pd

set_option maxHeartbeats 2000000 in
theorem rkinds_any (ver : Int) (A : Option Addr) (n c : Nat) (tbs : List Tb) (t : Nat) (T : Tb) (w : World) (hs : ScS w A n tbs) (hn : n ≤ 8) (hT : tbs[t]? = some T) (h8 : T.cols.length ≤ 8) :
    Calls Tryz.prog 23 #[.agg #[.int .i64 ver, .slice A n c], .int .i64 (t : Int)] w fun e w' => KdsO T w e w' := by
  obtain ⟨i0, hi, hz0, hz1, hz2⟩ := info_parts info_i64
  have ht : t < n := by rw [← hs.len]; exact (List.getElem?_eq_some_iff.1 hT).1
  obtain ⟨b, o, e, rfl, he, hok, c0, c1, c2, c3, c4⟩ := hs.at ht
  obtain rfl : T = e.T := by rw [hT] at he; injection he
  have HC := Lib.hid hok.cs
  have Hln := Lib.hid (hok.cs.len)
  clear hs hok hT he
  obtain ⟨T, ⟨A1, n1, k1⟩, ⟨A2, n2, k2⟩, ⟨A3, n3, k3⟩⟩ := e
  dsimp only at HC Hln c0 c1 c2 c3 c4 h8 ⊢
  have HZ := Lib.hid (Blk.new w 30 #[.int .i64 ver, .slice (some ⟨b, o, none⟩) n c])
  have HB := Lib.hid ((Below.refl _ w).alloc (Nat.le_refl _) (.cells #[.int .i64 ver, .slice (some ⟨b, o, none⟩) n c] 30))
  have hk := keeps_of HB.out
  have d1 := (hk _ (by rw [c1]; rfl)).trans c1
  have g0 : decide ((t : Int) < 0) = false := by simp
  have g1 : decide (n ≤ t) = false := by simp; omega
  have HC1 := Lib.hid (HC.out.keep hk)
  have z := HZ.out.cell
  have hn1 : n1 ≤ 8 := by have := Hln.out; omega
  clear c0 c1 c2 c3 c4 hk HC
  go_enter Tryz.func23, Tryz.ntmps23
  go_upto_region 1 with fail
  obtain ⟨w1, HW⟩ : ∃ z, Hid (w.alloc (.cells #[.int .i64 ver, .slice (some ⟨b, o, none⟩) n c] 30) = z) := ⟨_, Lib.hid rfl⟩
  rw [HW.out] at d1 HC1 z HB ⊢
  have hw1 : w.heap.size < w1.heap.size := by rw [← HW.out]; simp
  go_wp2_with fail
  go_loopw [5, 24] (fun v i wr => ∃ (k : Nat) (A : Option Addr) (c : Nat), k ≤ n1 ∧ i = .int .i64 (k : Int) ∧ v = .slice A k c ∧ Hid (wr.ownsRow w1.heap.size 3 1 (.slice A k c) k ((T.kinds.take k).flatMap i64c)) ∧ Hid (Below w1.heap.size w1 wr)) (fun _ i _ => n1 - (intOf i).toNat)
  case atStart => exact ⟨0, none, 0, by omega, rfl, rfl, Lib.hid ⟨by simp, .inl ⟨rfl, rfl⟩⟩, Lib.hid (Below.refl _ _)⟩
  case round =>
    obtain ⟨k, A, c', hk, rfl, rfl, HO, HBr⟩ := hrel
    have HBw := Lib.hid (HB.out.trans (HBr.out.mono HB.out.size))
    clear z
    by_cases hlt : k < n1
    · obtain ⟨b', o', x, rfl, hx, e0, e1⟩ := Cm.at (HC1.out.keep (keeps_of HBr.out)) hlt
      have HX := Lib.hid (Blk.new wr 56 #[.string x.nm, .int .i64 x.k])
      have HO3 := HO.out.alloc (.cells #[.string x.nm, .int .i64 x.k] 56)
      have HB3 := HBr.out.alloc HBr.out.size (.cells #[.string x.nm, .int .i64 x.k] 56)
      have Hx := Lib.hid (take_kinds hx)
      have zx := HX.out.cell
      clear hx HO
      go_wp2_with (at_builtin; refine wpList_append_one2 (by rfl) (.tmp 28) (.tmp 31) _ (by rfl) w1.heap.size 3 i0 _ 1 8 Tryz.underlying63 hi hz0 hz1 hz2 (by rfl) (by omega) (.slice A k c') k _ (by rfl) (wr.alloc (.cells #[.string x.nm, .int .i64 x.k] 56)) #[.int .i64 x.k] HO3 (wr.heap.size + 1) (by simp) (by rfl) (by rfl) (one_i64 x.k) (by simp only [maxLen]; omega) (by omega) HB3.size ?_; intro g6 cap6 w6 hown6 hg6 hB6 hat6 hlt6)
      have HB6 := Lib.hid (HB3.trans hB6)
      go_wp2
      go_roundw
      case rel =>
        refine ⟨k + 1, _, cap6, by omega, by go_num, rfl, Lib.hid ?_, Lib.hid ?_⟩
        · rw [Hx.out]; exact hown6
        · exact HB6.out
      case measure => simp [intOf]; omega
    · obtain rfl : k = n1 := by omega
      have hE : KdsO T w (.returned (.slice A k c')) wr := by
        refine ⟨A, c', by rw [Hln.out], own_weaken ?_ HB.out.size, HBw.out⟩
        rw [Hln.out]
        have := HO.out
        rwa [List.take_of_length_le (by unfold Tb.kinds; rw [List.length_map, Hln.out]; exact Nat.le_refl _)] at this
      have HE := Lib.hid hE
      clear hE HO
      go_wp2
      go_ret
      exact HE.out
set_option maxHeartbeats 2000000 in
theorem rkey_any (ver : Int) (A : Option Addr) (n c : Nat) (tbs : List Tb) (t : Nat) (T : Tb) (B : Option Addr) (m cb : Nat) (r : Rw) (w : World) (hs : ScS w A n tbs) (hn : n ≤ 8) (hT : tbs[t]? = some T) (h0 : 0 ≤ T.key) (h8 : T.key ≤ 8) (hr : RowOk w ((B, m, cb), r)) :
    Calls Tryz.prog 26 #[.agg #[.int .i64 ver, .slice A n c], .int .i64 (t : Int), .slice B m cb] w fun e w' => RowN (keyT T r) w e w' := by
  have ht : t < n := by rw [← hs.len]; exact (List.getElem?_eq_some_iff.1 hT).1
  obtain ⟨b, o, e, rfl, he, hok, c0, c1, c2, c3, c4⟩ := hs.at ht
  obtain rfl : T = e.T := by rw [hT] at he; injection he
  clear hs hok hT he c0 c1 c3 c4
  obtain ⟨T, x1, x2, x3⟩ := e
  dsimp only at c2 h0 h8
  obtain ⟨K, hK⟩ := Int.eq_ofNat_of_zero_le h0
  rw [hK] at c2
  have HK := rowok_key hr T
  rw [hK, Int.toNat_natCast] at HK
  have hmc := hr.le
  have hmx := hr.mx
  have hnl := hr.nl
  simp only at hmc hmx hnl
  have hkl := keyT_len T r
  rw [hr.rd.len] at hkl
  simp only at hkl
  rw [hK, Int.toNat_natCast] at hkl
  have hK8 : K ≤ 8 := by omega
  clear hr h0
  have HB : Hid (Below w.heap.size w (w.alloc (.cells #[.int .i64 ver, .slice (some ⟨b, o, none⟩) n c] 30))) := Lib.hid ((Below.refl _ w).alloc (Nat.le_refl _) _)
  have d2 := (keeps_of HB.out _ (by rw [c2]; rfl)).trans c2
  clear c2
  have hz : (max (0 : Int) (min (K : Int) (m : Int))).toNat = min K m := by omega
  have hz0 : (max (0 : Int) (min (K : Int) 0)).toNat = 0 := by omega
  have g0 : decide ((t : Int) < 0) = false := by simp
  have g1 : decide ((n : Int) ≤ (t : Int)) = false := by simp; omega
  obtain ⟨q, hq⟩ : ∃ q, min K m = q := ⟨_, rfl⟩
  rw [hq] at hz HK hkl
  have hq8 : q ≤ 8 := by omega
  have Hkl := Lib.hid hkl
  clear hkl
  have hqc : q ≤ cb := by omega
  have HK2 := Lib.hid HK
  clear HK
  go_enter Tryz.func26, Tryz.ntmps26
  cases B with
  | none =>
    obtain ⟨rfl, rfl⟩ := hnl rfl
    obtain rfl : q = 0 := by omega
    go_wp2_with fail
    refine (copy_any ((none, 0, 0), keyT T r) _ (HK2.out.keep (keeps_of HB.out)) (by show 0 ≤ _; omega)).mono ?_
    rintro e w2 ⟨A', c', rfl, hown, hb2⟩
    have HE := Lib.hid (Below.next HB.out hb2)
    have HO : Hid (OwnRow w2 w.heap.size ((A', (keyT T r).length, c'), keyT T r)) := Lib.hid ⟨by rw [Hkl.out]; exact own_weaken hown (by simp), rfl⟩
    clear hown hb2
    go_wp2
    go_ret
    exact ⟨A', c', by rw [Hkl.out]; rfl, HO.out, HE.out⟩
  | some ad =>
    go_wp2_with fail
    refine (copy_any ((some ad, q, cb), keyT T r) _ (HK2.out.keep (keeps_of HB.out)) (by show q ≤ _; omega)).mono ?_
    rintro e w2 ⟨A', c', rfl, hown, hb2⟩
    have HE := Lib.hid (Below.next HB.out hb2)
    have HO : Hid (OwnRow w2 w.heap.size ((A', (keyT T r).length, c'), keyT T r)) := Lib.hid ⟨by rw [Hkl.out]; exact own_weaken hown (by simp), rfl⟩
    clear hown hb2
    go_wp2
    go_ret
    exact ⟨A', c', by rw [Hkl.out]; rfl, HO.out, HE.out⟩
end Go.Proofs.YtponkkljlbifmaaGreat

/-
  Plain mathematics: the violations of a valid state come in their order. No program here.
-/
namespace Go.Proofs.YtponkkljlbifmaaGreat
open Go.RowKit
set_option maxRecDepth 100000
open Pd

theorem cmpI_lt {a b : Int} (h : a < b) : cmpI a b = -1 := by simp [cmpI, h]
theorem cmpO_t {a b : Vo} (h : a.t < b.t) : cmpO a b < 0 := by
  unfold cmpO; rw [if_pos (by rw [cmpI_lt h]; omega), cmpI_lt h]; omega
theorem cmpO_key {a b : Vo} (ht : a.t = b.t) (h : cmpR a.key b.key < 0) : cmpO a b < 0 := by
  unfold cmpO; rw [if_neg (by rw [ht, cmpI_self]; simp), if_pos (by omega)]; exact h
theorem cmpO_k {a b : Vo} (ht : a.t = b.t) (hk : a.key = b.key) (h : a.k < b.k) : cmpO a b < 0 := by
  unfold cmpO; rw [if_neg (by rw [ht, cmpI_self]; simp), if_neg (by rw [hk, cmpR_self]; simp), if_pos (by rw [cmpI_lt h]; omega), cmpI_lt h]; omega
theorem cmpO_ix {a b : Vo} (ht : a.t = b.t) (hk : a.key = b.key) (h1 : a.k = b.k) (h : a.ix < b.ix) : cmpO a b < 0 := by
  unfold cmpO; rw [if_neg (by rw [ht, cmpI_self]; simp), if_neg (by rw [hk, cmpR_self]; simp), if_neg (by rw [h1, cmpI_self]; simp), cmpI_lt h]; omega
abbrev ascO (l : List Vo) : Prop := l.Pairwise fun a b => cmpO a b < 0

section
variable {hit : Bool} {wr rm gt : Int → Rw → Bool} {t : Int} {key r : Rw} {T : Tb}
theorem vRefs_mem : ∀ (l : List Rf) (i : Int) (v : Vo), v ∈ vRefs hit rm gt t key r i l → v.k = 1 ∧ v.t = t ∧ v.key = key ∧ i ≤ v.ix
  | [], _, _, h => by simp [vRefs] at h
  | x :: l, i, v, h => by
    simp only [vRefs, List.mem_append] at h
    rcases h with h | h
    · split at h
      · simp only [List.mem_singleton] at h
        subst h
        exact ⟨rfl, rfl, rfl, Int.le_refl _⟩
      · simp at h
    · have := vRefs_mem l (i + 1) v h
      exact ⟨this.1, this.2.1, this.2.2.1, by omega⟩
theorem vRefs_asc : ∀ (l : List Rf) (i : Int), ascO (vRefs hit rm gt t key r i l)
  | [], _ => List.Pairwise.nil
  | x :: l, i => by
    refine List.pairwise_append.2 ⟨?_, vRefs_asc l _, fun a ha b hb => ?_⟩
    · split <;> simp
    · have hb := vRefs_mem l _ b hb
      split at ha
      · rw [List.mem_singleton] at ha
        subst ha
        exact cmpO_ix hb.2.1.symm hb.2.2.1.symm hb.1.symm (by have := hb.2.2.2; show i < _; omega)
      · cases ha
theorem vChks_mem : ∀ (l : List Pd) (i : Int) (v : Vo), v ∈ vChks hit t key r i l → v.k = 2 ∧ v.t = t ∧ v.key = key ∧ i ≤ v.ix
  | [], _, _, h => by simp [vChks] at h
  | x :: l, i, v, h => by
    simp only [vChks, List.mem_append] at h
    rcases h with h | h
    · split at h
      · simp only [List.mem_singleton] at h
        subst h
        exact ⟨rfl, rfl, rfl, Int.le_refl _⟩
      · simp at h
    · have := vChks_mem l (i + 1) v h
      exact ⟨this.1, this.2.1, this.2.2.1, by omega⟩
theorem vChks_asc : ∀ (l : List Pd) (i : Int), ascO (vChks hit t key r i l)
  | [], _ => List.Pairwise.nil
  | x :: l, i => by
    refine List.pairwise_append.2 ⟨?_, vChks_asc l _, fun a ha b hb => ?_⟩
    · split <;> simp
    · have hb := vChks_mem l _ b hb
      split at ha
      · rw [List.mem_singleton] at ha
        subst ha
        exact cmpO_ix hb.2.1.symm hb.2.2.1.symm hb.1.symm (by have := hb.2.2.2; show i < _; omega)
      · cases ha
theorem vRow_mem {v : Vo} (h : v ∈ vRow wr rm gt t T r) : v.t = t ∧ v.key = keyT T r := by
  rcases List.mem_append.1 h with h | h
  · have := vRefs_mem _ _ _ h; exact ⟨this.2.1, this.2.2.1⟩
  · have := vChks_mem _ _ _ h; exact ⟨this.2.1, this.2.2.1⟩
theorem vRow_asc : ascO (vRow wr rm gt t T r) := by
  refine List.pairwise_append.2 ⟨vRefs_asc _ _, vChks_asc _ _, fun a ha b hb => ?_⟩
  have ha := vRefs_mem _ _ _ ha
  have hb := vChks_mem _ _ _ hb
  exact cmpO_k (ha.2.1.trans hb.2.1.symm) (ha.2.2.1.trans hb.2.2.1.symm) (by rw [ha.1, hb.1]; omega)
theorem vRows_mem : ∀ (l : List Rw) (v : Vo), v ∈ vRows wr rm gt t T l → v.t = t ∧ ∃ x ∈ l, v.key = keyT T x
  | [], _, h => by simp [vRows] at h
  | x :: l, v, h => by
    rcases List.mem_append.1 h with h | h
    · have := vRow_mem h
      exact ⟨this.1, x, by simp, this.2⟩
    · obtain ⟨h1, y, hy, h2⟩ := vRows_mem l v h
      exact ⟨h1, y, by simp [hy], h2⟩
theorem rowsB_cons {p : Option Rw} {x : Rw} {l : List Rw} (h : rowsB T p (x :: l) = true) : fitsB T x = true ∧ (∀ q, p = some q → cmpR (keyT T q) (keyT T x) < 0) ∧ rowsB T (some x) l = true := by
  simp only [rowsB, Bool.and_eq_true] at h
  refine ⟨h.1.1, fun q hq => ?_, h.2⟩
  subst hq
  simpa using h.1.2
theorem rowsB_lt : ∀ (l : List Rw) (q : Rw), rowsB T (some q) l = true → ∀ x ∈ l, cmpR (keyT T q) (keyT T x) < 0
  | [], _, _, x, hx => by cases hx
  | y :: l, q, h, x, hx => by
    obtain ⟨_, h2, h3⟩ := rowsB_cons h
    have h2 := h2 q rfl
    rcases List.mem_cons.1 hx with rfl | hx
    · exact h2
    · exact cmpR_lt_of_le (by omega) (rowsB_lt l y h3 x hx)
theorem rowsB_fit : ∀ (l : List Rw) (p : Option Rw), rowsB T p l = true → ∀ x ∈ l, fitsB T x = true
  | [], _, _, x, hx => by cases hx
  | y :: l, q, h, x, hx => by
    obtain ⟨h1, _, h3⟩ := rowsB_cons h
    rcases List.mem_cons.1 hx with rfl | hx
    · exact h1
    · exact rowsB_fit l _ h3 x hx
theorem vRows_asc : ∀ (l : List Rw) (p : Option Rw), rowsB T p l = true → ascO (vRows wr rm gt t T l)
  | [], _, _ => List.Pairwise.nil
  | x :: l, p, h => by
    obtain ⟨_, _, h3⟩ := rowsB_cons h
    refine List.pairwise_append.2 ⟨vRow_asc, vRows_asc l _ h3, fun a ha b hb => ?_⟩
    obtain ⟨h4, h5⟩ := vRow_mem ha
    obtain ⟨h6, y, hy, h7⟩ := vRows_mem l _ hb
    refine cmpO_key (h4.trans h6.symm) ?_
    rw [h5, h7]
    exact rowsB_lt l x h3 y hy
end
theorem vTabs_mem {wr rm gt : Int → Rw → Bool} : ∀ (ts : List Tb) (ls : List (List Rw)) (i : Int) (v : Vo), v ∈ vTabs wr rm gt i ts ls → i ≤ v.t
  | [], _, _, _, h => by simp [vTabs] at h
  | _ :: _, [], _, _, h => by simp [vTabs] at h
  | T :: ts, l :: ls, i, v, h => by
    rcases List.mem_append.1 h with h | h
    · rw [(vRows_mem l v h).1]; exact Int.le_refl _
    · have := vTabs_mem ts ls (i + 1) v h; omega
theorem vTabs_asc {wr rm gt : Int → Rw → Bool} : ∀ (ts : List Tb) (ls : List (List Rw)) (i : Int), tabsB ts ls = true → ascO (vTabs wr rm gt i ts ls)
  | [], _, _, _ => List.Pairwise.nil
  | _ :: _, [], _, _ => List.Pairwise.nil
  | T :: ts, l :: ls, i, h => by
    simp only [tabsB, Bool.and_eq_true] at h
    refine List.pairwise_append.2 ⟨vRows_asc l none h.1, vTabs_asc ts ls _ h.2, fun a ha b hb => ?_⟩
    have h1 := (vRows_mem l a ha).1
    have h2 := vTabs_mem ts ls _ b hb
    exact cmpO_t (by omega)
theorem vioS_asc {wr rm : Int → Rw → Bool} {tbs : List Tb} {st : List (List Rw)} (h : tabsB tbs st = true) : ascO (vioS wr rm tbs st) := vTabs_asc _ _ _ h
end Go.Proofs.YtponkkljlbifmaaGreat

/-
  Plain mathematics: a row put into a list of rows, or taken away; what it keeps. No program here.
-/
namespace Go.Proofs.YtponkkljlbifmaaGreat
open Go.RowKit
set_option maxRecDepth 100000
open Pd

/-- Put of the reference on one list -/
def putF (T : Tb) (key row : Rw) : Bool → List Rw → List Rw
  | done, [] => if done then [] else [row]
  | done, r :: l => (if decide (0 ≤ cmpR (keyT T r) key) && !done then [row] else []) ++ (if cmpR (keyT T r) key = 0 then [] else [r]) ++ putF T key row (done || decide (0 ≤ cmpR (keyT T r) key)) l
abbrev putRw (T : Tb) (key row : Rw) (l : List Rw) : List Rw := putF T key row (decide (row.length = 0)) l
def dropL (T : Tb) (key : Rw) (l : List Rw) : List Rw := l.filter fun r => decide (cmpR (keyT T r) key ≠ 0)
theorem putF_true (T : Tb) (key row : Rw) : ∀ l : List Rw, putF T key row true l = dropL T key l
  | [] => rfl
  | r :: l => by
    have ih := putF_true T key row l
    simp only [putF, dropL, Bool.not_true, Bool.and_false, Bool.true_or, Bool.false_eq_true, if_false, List.nil_append, List.filter_cons] at ih ⊢
    rw [ih]
    by_cases h : cmpR (keyT T r) key = 0
    · simp [h]
    · simp [h]
section
variable {T : Tb} {key row : Rw}
theorem dropL_gt : ∀ (l : List Rw), (∀ x ∈ l, 0 < cmpR (keyT T x) key) → dropL T key l = l := by
  intro l h
  refine List.filter_eq_self.2 fun x hx => ?_
  have := h x hx
  simp; omega
theorem dropL_len (l : List Rw) : (dropL T key l).length ≤ l.length := List.length_filter_le _ _
theorem putF_len : ∀ (l : List Rw) (d : Bool), (putF T key row d l).length ≤ l.length + 1
  | [], d => by cases d <;> simp [putF]
  | r :: l, true => by
    rw [putF_true]
    exact Nat.le_succ_of_le (dropL_len _)
  | r :: l, false => by
    unfold putF
    by_cases h : 0 ≤ cmpR (keyT T r) key
    · rw [decide_eq_true h, Bool.false_or, putF_true]
      have := dropL_len (T := T) (key := key) l
      by_cases h2 : cmpR (keyT T r) key = 0 <;> simp [h2] <;> omega
    · rw [decide_eq_false h, Bool.false_or]
      have := putF_len l false
      by_cases h2 : cmpR (keyT T r) key = 0 <;> simp [h2] <;> omega
theorem putRw_len (l : List Rw) : (putRw T key row l).length ≤ l.length + 1 := putF_len l _
theorem rowsB_mk {p : Option Rw} {x : Rw} {l : List Rw} (h1 : fitsB T x = true) (h2 : ∀ q, p = some q → cmpR (keyT T q) (keyT T x) < 0) (h3 : rowsB T (some x) l = true) : rowsB T p (x :: l) = true := by
  cases p with
  | none => simp [rowsB, h1, h3]
  | some q => simp [rowsB, h1, h3, h2 q rfl]
theorem rowsB_weak : ∀ (l : List Rw) (p q : Option Rw), rowsB T p l = true → (∀ x, q = some x → ∃ y, p = some y ∧ cmpR (keyT T x) (keyT T y) ≤ 0) → rowsB T q l = true
  | [], _, _, _, _ => rfl
  | r :: l, p, q, h, hq => by
    obtain ⟨h1, h2, h3⟩ := rowsB_cons h
    refine rowsB_mk h1 (fun x hx => ?_) h3
    obtain ⟨y, hy, hle⟩ := hq x hx
    exact cmpR_lt_of_le hle (h2 y hy)
theorem rowsB_filter (f : Rw → Bool) : ∀ (l : List Rw) (p : Option Rw), rowsB T p l = true → rowsB T p (l.filter f) = true
  | [], _, _ => rfl
  | r :: l, p, h => by
    obtain ⟨h1, h2, h3⟩ := rowsB_cons h
    rw [List.filter_cons]
    split
    · exact rowsB_mk h1 h2 (rowsB_filter f l _ h3)
    · refine rowsB_filter f l _ (rowsB_weak l (some r) p h3 fun x hx => ⟨r, rfl, ?_⟩)
      have := h2 x hx
      omega
theorem rowsB_put (hf : fitsB T row = true) (hk : keyT T row = key) : ∀ (l : List Rw) (p : Option Rw), rowsB T p l = true → (∀ q, p = some q → cmpR (keyT T q) key < 0) → rowsB T p (putF T key row false l) = true
  | [], p, _, hp => rowsB_mk hf (fun q hq => by rw [hk]; exact hp q hq) rfl
  | r :: l, p, h, hp => by
    obtain ⟨h1, h2, h3⟩ := rowsB_cons h
    have hgt : ∀ x ∈ l, cmpR (keyT T r) (keyT T x) < 0 := rowsB_lt l r h3
    unfold putF
    by_cases hc : 0 ≤ cmpR (keyT T r) key
    · have h4 : dropL T key l = l := dropL_gt l fun x hx => by
        have h5 := hgt x hx
        have h6 := cmpR_anti (keyT T r) key
        have h7 := cmpR_lt_of_le (a := key) (by omega) h5
        have h8 := cmpR_anti key (keyT T x)
        omega
      rw [decide_eq_true hc, Bool.false_or, putF_true, h4]
      by_cases h0 : cmpR (keyT T r) key = 0
      · rw [if_pos h0]
        simp only [Bool.not_false, Bool.and_self, if_true, List.nil_append, List.append_nil, List.cons_append]
        refine rowsB_mk hf (fun q hq => by rw [hk]; exact hp q hq) (rowsB_weak l (some r) _ h3 fun x hx => ⟨r, rfl, ?_⟩)
        injection hx with hx
        subst hx
        rw [hk, ← (cmpR_zero _ _).1 h0, cmpR_self]
        omega
      · rw [if_neg h0]
        simp only [Bool.not_false, Bool.and_self, if_true, List.nil_append, List.cons_append]
        refine rowsB_mk hf (fun q hq => by rw [hk]; exact hp q hq) (rowsB_mk h1 (fun q hq => ?_) h3)
        injection hq with hq
        subst hq
        have := cmpR_anti (keyT T r) key
        rw [hk]
        omega
    · rw [decide_eq_false hc, Bool.false_or, if_neg (show ¬ cmpR (keyT T r) key = 0 by omega)]
      simp only [Bool.not_false, Bool.and_true, Bool.false_eq_true, if_false, List.nil_append, List.cons_append]
      refine rowsB_mk h1 h2 (rowsB_put hf hk l (some r) h3 fun q hq => ?_)
      injection hq with hq
      subst hq
      omega
end
theorem tabsB_at : ∀ (ts : List Tb) (ls : List (List Rw)) (t : Nat) (T : Tb) (l : List Rw), tabsB ts ls = true → ts[t]? = some T → ls[t]? = some l → rowsB T none l = true
  | [], _, _, _, _, _, h, _ => by simp at h
  | _ :: _, [], _, _, _, _, _, h => by simp at h
  | T :: ts, l :: ls, 0, U, m, h, hT, hl => by
    simp only [tabsB, Bool.and_eq_true] at h
    simp only [List.getElem?_cons_zero, Option.some.injEq] at hT hl
    subst hT hl
    exact h.1
  | T :: ts, l :: ls, t + 1, U, m, h, hT, hl => by
    simp only [tabsB, Bool.and_eq_true] at h
    exact tabsB_at ts ls t U m h.2 hT hl
theorem tabsB_set : ∀ (ts : List Tb) (ls : List (List Rw)) (t : Nat) (T : Tb) (m : List Rw), tabsB ts ls = true → ts[t]? = some T → rowsB T none m = true → tabsB ts (ls.set t m) = true
  | [], _, _, _, _, _, h, _ => by simp at h
  | _ :: _, [], _, _, _, _, _, _ => by simp [tabsB]
  | T :: ts, l :: ls, 0, U, m, h, hT, hl => by
    simp only [tabsB, Bool.and_eq_true] at h
    simp only [List.getElem?_cons_zero, Option.some.injEq] at hT
    subst hT
    simp [tabsB, hl, h.2]
  | T :: ts, l :: ls, t + 1, U, m, h, hT, hl => by
    simp only [tabsB, Bool.and_eq_true] at h
    simp only [List.set_cons_succ, tabsB, Bool.and_eq_true]
    exact ⟨h.1, tabsB_set ts ls t U m h.2 hT hl⟩
theorem cntS_set : ∀ (ls : List (List Rw)) (t : Nat) (l m : List Rw), ls[t]? = some l → cntS (ls.set t m) + l.length = cntS ls + m.length
  | [], _, _, _, h => by simp at h
  | x :: ls, 0, l, m, h => by
    simp only [List.getElem?_cons_zero, Option.some.injEq] at h
    subst h
    simp [cntS]
    omega
  | x :: ls, t + 1, l, m, h => by
    have := cntS_set ls t l m h
    simp [cntS] at this ⊢
    omega
end Go.Proofs.YtponkkljlbifmaaGreat

/-
  The program's Count of a state's rows; get and Get of a row with a key.
-/
namespace Go.Proofs.YtponkkljlbifmaaGreat
open Go.RowKit
set_option maxRecDepth 100000
open Pd

theorem cnt_take {ls : List TlP} {k : Nat} {p : TlP} (h : ls[k]? = some p) : cntS (stR (ls.take (k + 1))) = cntS (stR (ls.take k)) + (tlR p).length := by
  rw [List.take_add_one, h]
  simp [stR, cntS]
theorem tlR_at {ps : List RowP} {k : Nat} {p : RowP} {h : Hd} (hp : ps[k]? = some p) : (tlR (h, ps))[k]? = some p.2 := by unfold tlR; rw [List.getElem?_map, hp]; rfl
theorem stR_at {ls : List TlP} {k : Nat} {p : TlP} (h : ls[k]? = some p) : (stR ls)[k]? = some (tlR p) := by unfold stR; rw [List.getElem?_map, h]; rfl
theorem cnt_le {ls : List TlP} (k : Nat) : cntS (stR (ls.take k)) ≤ cntS (stR ls) := by
  conv => rhs; rw [← List.take_append_drop k ls]
  unfold stR cntS
  rw [List.map_append, List.map_append, List.sum_append]
  omega
set_option maxHeartbeats 2000000 in
theorem count_any (A : Option Addr) (n c : Nat) (ls : List TlP) (w : World) (hs : StS w A n ls) (hb : cntS (stR ls) ≤ 4611686018427387904) (hn : n ≤ 1000000) :
    Calls Tryz.prog 46 #[.agg #[.slice A n c]] w fun e w' => e = .returned (.int .i64 (cntS (stR ls) : Int)) ∧ Below w.heap.size w w' := by
  have HS := Lib.hid (hs.keep (keeps_alloc w (.cells #[.slice A n c] 25)))
  have HB := Lib.hid ((Below.refl w.heap.size w).alloc (Nat.le_refl _) (.cells #[.slice A n c] 25))
  have Hln := Lib.hid hs.sl.len
  clear hs
  go_enter Tryz.func46, Tryz.ntmps46
  go_wp2_with fail
  generalize hW : w.alloc (.cells #[.slice A n c] 25) = w1 at *
  go_loopw [3, 9] (fun v i wr => ∃ k : Nat, k ≤ n ∧ i = .int .i64 (k : Int) ∧ v = .int .i64 (cntS (stR (ls.take k)) : Int) ∧ wr = w1) (fun _ i _ => n - (intOf i).toNat)
  case atStart => exact ⟨0, by omega, rfl, rfl, rfl⟩
  case round =>
    obtain ⟨k, hk, rfl, rfl, rfl⟩ := hrel
    by_cases hlt : k < n
    · obtain ⟨b, o, ⟨⟨B, m, cb⟩, ps⟩, rfl, hp, hok, c0⟩ := HS.out.at hlt
      dsimp only at c0
      have hc := cnt_take hp
      have hle := cnt_le (ls := ls) (k + 1)
      rw [hok.len] at hc
      dsimp only at hc
      have Hc := Lib.hid hc
      generalize cntS (stR (ls.take k)) = x at *
      have hbb : x + m ≤ 4611686018427387904 := by omega
      clear hp hok hc
      go_wp2
      go_roundw
      case rel => exact ⟨k + 1, by omega, by go_num, by rw [Hc.out]; go_num, trivial⟩
      case measure => simp [intOf]; omega
    · obtain rfl : k = n := by omega
      rw [List.take_of_length_le (by rw [Hln.out]; exact Nat.le_refl _)]
      go_wp2
      go_ret
      exact ⟨rfl, HB.out⟩
end Go.Proofs.YtponkkljlbifmaaGreat

/-
  The program's Fits of a row, in the mode of the server.
-/
namespace Go.Proofs.YtponkkljlbifmaaGreat
open Go.RowKit
set_option maxRecDepth 100000
open Pd

theorem drop_at' {α : Type} {l : List α} {k : Nat} {v : α} (h : l[k]? = some v) : l.drop k = v :: l.drop (k + 1) := by
  obtain ⟨hk, he⟩ := List.getElem?_eq_some_iff.1 h
  rw [List.drop_eq_getElem_cons hk, he]
theorem kinds_at {T : Tb} {k : Nat} {x : Cm} (h : T.cols[k]? = some x) : T.kinds[k]? = some x.k := by unfold Tb.kinds; rw [List.getElem?_map, h]; rfl
set_option maxHeartbeats 4000000 in
theorem fits_any (ver : Int) (A : Option Addr) (n c : Nat) (tbs : List Tb) (t : Nat) (T : Tb) (B : Option Addr) (m cb : Nat) (r : Rw) (w : World) (hs : ScS w A n tbs) (hn : n ≤ 8) (hT : tbs[t]? = some T) (h8 : T.cols.length ≤ 8) (hr : VlS w B m r) :
    Calls Tryz.prog 53 #[.agg #[.int .i64 ver, .slice A n c], .int .i64 (t : Int), .slice B m cb, .int .i64 1] w fun e w' => e = .returned (.bool (fitsB T r)) ∧ Below w.heap.size w w' := by
  have ht : t < n := by rw [← hs.len]; exact (List.getElem?_eq_some_iff.1 hT).1
  obtain ⟨b, o, e, rfl, he, hok, c0, c1, c2, c3, c4⟩ := hs.at ht
  obtain rfl : T = e.T := by rw [hT] at he; injection he
  have HC := Lib.hid hok.cs
  have Hln := Lib.hid hok.cs.len
  have HR := Lib.hid hr
  have Hrl := Lib.hid hr.len
  clear hs hok hT he hr
  obtain ⟨T, ⟨A1, n1, k1⟩, ⟨A2, n2, k2⟩, ⟨A3, n3, k3⟩⟩ := e
  dsimp only at HC Hln c0 c1 c2 c3 c4 h8 ⊢
  have hn1 : n1 ≤ 8 := by have := Hln.out; omega
  obtain ⟨rr, Hrr⟩ : ∃ z, Hid (fitsB T r = z) := ⟨_, Lib.hid rfl⟩
  rw [Hrr.out]
  have HZ := Lib.hid (Blk.new w 30 #[.int .i64 ver, .slice (some ⟨b, o, none⟩) n c])
  have HB := Lib.hid ((Below.refl w.heap.size w).alloc (Nat.le_refl _) (.cells #[.int .i64 ver, .slice (some ⟨b, o, none⟩) n c] 30))
  go_enter Tryz.func53, Tryz.ntmps53
  go_wp2_with fail
  refine (shas_any ver _ n c (t : Int) _ hn).mono ?_
  rintro e w1 ⟨rfl, hb1⟩
  have g1 : decide (0 ≤ (t : Int) ∧ (t : Int) < (n : Int)) = true := by simp; omega
  rw [g1]
  have HB1 := Lib.hid (Below.next HB.out hb1)
  have hk := keeps_of HB1.out
  have d0 := (hk _ (by rw [c0]; rfl)).trans c0
  have d1 := (hk _ (by rw [c1]; rfl)).trans c1
  have d2 := (hk _ (by rw [c2]; rfl)).trans c2
  have d3 := (hk _ (by rw [c3]; rfl)).trans c3
  have d4 := (hk _ (by rw [c4]; rfl)).trans c4
  have z := (HZ.out.below hb1).cell
  have HT := Lib.hid (Blk.new w1 62 #[.string T.nm, .slice A1 n1 k1, .int .i64 T.key, .slice A2 n2 k2, .slice A3 n3 k3])
  have HB2 := Lib.hid (HB1.out.alloc HB1.out.size (.cells #[.string T.nm, .slice A1 n1 k1, .int .i64 T.key, .slice A2 n2 k2, .slice A3 n3 k3] 62))
  have HC2 := Lib.hid (HC.out.keep (keeps_of HB2.out))
  have HR2 := Lib.hid (HR.out.keep (keeps_of HB2.out))
  have zt := HT.out.cell
  clear c0 c1 c2 c3 c4 hb1 hk HZ HC HR HB
  by_cases hm : (m : Int) = (n1 : Int)
  · obtain rfl : m = n1 := by omega
    have Hf : Hid (fitL (r.drop 0) (T.kinds.drop 0) = rr) := Lib.hid Hrr.out
    go_upto_region 6 with fail
    generalize hW : w1.alloc (.cells #[.string T.nm, .slice A1 m k1, .int .i64 T.key, .slice A2 n2 k2, .slice A3 n3 k3] 62) = w2 at *
    have hHW : w1.heap.size < w2.heap.size := HT.out.lt
    clear hW z
    go_wp2_with fail
    go_loopw [43] (fun i wr => ∃ k : Nat, k ≤ m ∧ i = .int .i64 (k : Int) ∧ Hid (fitL (r.drop k) (T.kinds.drop k) = rr) ∧ Hid (Below w2.heap.size w2 wr)) (fun i _ => m - (intOf i).toNat)
    case atStart => exact ⟨0, by omega, rfl, Hf, Lib.hid (Below.refl _ _)⟩
    case round =>
      obtain ⟨k, hk, rfl, Hq, HBr⟩ := hrel
      clear zt
      by_cases hlt : k < m
      · obtain ⟨b1, o1, ⟨vk, vi, vt⟩, rfl, hv, hvc⟩ := (HR2.out.keep (keeps_of HBr.out)).at hlt
        obtain ⟨b2, o2, x, rfl, hx, x0, x1⟩ := Cm.at (HC2.out.keep (keeps_of HBr.out)) hlt
        have e0 : wr.cell? ⟨b1, o1 + k * 3, none⟩ = some (.int .i64 vk) := hvc 0 (.int .i64 vk) rfl
        have e1 : wr.cell? ⟨b1, o1 + k * 3 + 1, none⟩ = some (.int .i64 vi) := hvc 1 (.int .i64 vi) rfl
        have e2 : wr.cell? ⟨b1, o1 + k * 3 + 2, none⟩ = some (.string vt) := hvc 2 (.string vt) rfl
        have Hs : Hid ((fitC ⟨vk, vi, vt⟩ x.k && fitL (r.drop (k + 1)) (T.kinds.drop (k + 1))) = rr) := Lib.hid (by rw [← Hq.out, drop_at' hv, drop_at' (kinds_at hx)]; rfl)
        have HX := Lib.hid (Blk.new wr 67 #[.int .i64 vk, .int .i64 vi, .string vt])
        have HTx := Lib.hid ((HT.out.below HBr.out).alloc (.cells #[.int .i64 vk, .int .i64 vi, .string vt] 67))
        have HBx := Lib.hid (HBr.out.alloc HBr.out.size (.cells #[.int .i64 vk, .int .i64 vi, .string vt] 67))
        have zx := HX.out.cell
        clear hv hx hvc Hq
        go_wp2_with fail
        refine (valid_any ⟨vk, vi, vt⟩ _).mono ?_
        rintro e w4 ⟨rfl, hb4⟩
        have x5 := (keeps_alloc wr (.cells #[.int .i64 vk, .int .i64 vi, .string vt] 67) _ (by rw [x1]; rfl)).trans x1
        have x6 := (keeps_of hb4 _ (by rw [x5]; rfl)).trans x5
        have zx4 := (HX.out.below hb4).cell
        have zt4 := (HTx.out.below hb4).cell
        have HB4 := Lib.hid (Below.next HBx.out hb4)
        have HE := Lib.hid (HB2.out.trans (HB4.out.mono (by have := HB2.out.size; omega)))
        clear x0 x1 x5 e0 e1 e2 zx hb4 HX HTx HBx HBr
        cases hval : validV ⟨vk, vi, vt⟩
        · have hf : rr = false := by rw [← Hs.out]; unfold fitC; rw [hval]; rfl
          subst hf
          clear hval
          go_wp2
          go_ret
          exact ⟨rfl, HE.out⟩
        · obtain ⟨xk, hxk⟩ : ∃ z, x.k = z := ⟨_, rfl⟩
          rw [hxk] at x6
          have Hs2 : Hid ((decide (vk = xk) && fitL (r.drop (k + 1)) (T.kinds.drop (k + 1))) = rr) := Lib.hid (by rw [← Hs.out]; unfold fitC; rw [hval, hxk]; rfl)
          clear hval hxk Hs
          cases h2 : (vk == 2) <;> cases h1 : (vk == 1)
          all_goals
            go_wp2_with fail
            have x7 : w4.drew.cell? ⟨b2, o2 + k * 2 + 1, none⟩ = some (.int .i64 xk) := x6
            have zx5 : ∀ j, w4.drew.cell? ⟨wr.heap.size, j, none⟩ = (#[.int .i64 vk, .int .i64 vi, .string vt] : Array Value)[j]? := zx4
            have zt5 : ∀ j, w4.drew.cell? ⟨w1.heap.size, j, none⟩ = (#[.string T.nm, .slice (some ⟨b2, o2, none⟩) m k1, .int .i64 T.key, .slice A2 n2 k2, .slice A3 n3 k3] : Array Value)[j]? := zt4
            have HE5 : Hid (Below w.heap.size w w4.drew) := Lib.hid HE.out.drew
            have HB5 : Hid (Below w2.heap.size w2 w4.drew) := Lib.hid HB4.out.drew
            clear x6 zx4 zt4 HE HB4
            by_cases hxx : vk = xk
            · have g5 : (vk == xk) = true := by simp [hxx]
              have g6 : (vk != xk) = false := by simp [hxx]
              rw [decide_eq_true hxx, Bool.true_and] at Hs2
              clear hxx
              generalize hWn : w4.drew = Wn at *
              have hca := @cell_after Wn
              refine wp_region_seg [] [0, 1, 2, 3, 4, 5, 6, 7, 8, 9, 10, 11, 12, 13, 14, 15, 16] (by kernel_rfl) (by kernel_rfl) (fun _ _ d _ _ h => by cases d <;> exact h) ?_
              rw [hWn]
              clear hWn
              simp only [pickSegs, pickOps, opAt, List.map_cons, List.map_nil, List.getElem?_toArray, List.getElem?_cons_zero, List.getElem?_cons_succ, Option.getD_some]
              unfold wpBlocks
              repeat (go_big_quiet_step (fail))
              refine wpQuiet_nil ?_
              clear hca x7 zx5 zt5
              go_wp2
              go_roundw
              case rel => exact ⟨k + 1, by omega, by go_num, Lib.hid Hs2.out, HB5⟩
              case measure => simp [intOf]; omega
            · have g5 : (vk == xk) = false := by simp [hxx]
              have g6 : (vk != xk) = true := by simp [hxx]
              rw [decide_eq_false hxx, Bool.false_and] at Hs2
              have hf : rr = false := Hs2.out.symm
              subst hf
              clear hxx
              generalize hWn : w4.drew = Wn at *
              have hca := @cell_after Wn
              refine wp_region_seg [] [0, 1, 2, 3, 4, 5, 6, 7, 8, 9, 10, 11, 12, 13, 14, 15, 16] (by kernel_rfl) (by kernel_rfl) (fun _ _ d _ _ h => by cases d <;> exact h) ?_
              rw [hWn]
              clear hWn
              simp only [pickSegs, pickOps, opAt, List.map_cons, List.map_nil, List.getElem?_toArray, List.getElem?_cons_zero, List.getElem?_cons_succ, Option.getD_some]
              unfold wpBlocks
              repeat (go_big_quiet_step (fail))
              refine wpQuiet_nil ?_
              clear hca x7 zx5 zt5
              go_wp2
              go_ret
              exact ⟨rfl, HE5.out⟩
      · obtain rfl : k = m := by omega
        have hf : rr = true := by
          rw [← Hq.out, List.drop_of_length_le (by rw [Hrl.out]; exact Nat.le_refl _), List.drop_of_length_le (by unfold Tb.kinds; rw [List.length_map, Hln.out]; exact Nat.le_refl _)]
          rfl
        have HE := Lib.hid (HB2.out.trans (HBr.out.mono (by have := HB2.out.size; omega)))
        subst hf
        go_wp2
        go_ret
        exact ⟨rfl, HE.out⟩
  · have hf : rr = false := by
      rw [← Hrr.out]
      unfold fitsB
      rw [Bool.eq_false_iff]
      intro h
      have := fitL_len h
      unfold Tb.kinds at this
      rw [List.length_map, Hln.out, Hrl.out] at this
      omega
    subst hf
    go_wp2
    go_ret
    exact ⟨rfl, HB2.out⟩
end Go.Proofs.YtponkkljlbifmaaGreat
