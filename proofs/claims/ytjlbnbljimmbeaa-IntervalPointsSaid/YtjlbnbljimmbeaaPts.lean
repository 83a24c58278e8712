import Derived.Test.YtjlbnbljimmbeaaRep
namespace Go.Proofs.Ytjlbnbljimmbeaa
open Go.RowKit

/-- a round of the loop over drawn values: the lists stay -/
def PtRel (w : World) (g : Nat) (L : List (Option Addr × List Iv)) (i : Value) (wr : World) : Prop := ∃ k : Nat, k ≤ 6 ∧ i = .int .i64 (k : Int) ∧ CaseAt wr g ∧ (∀ p ∈ L, IvS wr p.1 p.2.length p.2) ∧ Below w.heap.size w wr
theorem has_rep {l : List Iv} {f : Vl → Bool} {m : Nat} {v : Vl} (h : Rep l f m) (hm : m ≤ 127) (hv : validV v = true) : hasL l v = f v := by
  unfold hasL
  rw [hv, h.good.valid hm, h.eq v hv]
  rfl
theorem covers_pt {a b : List Iv} {m n : Nat} (ha : Good a m) (hb : Good b n) {v : Vl} (hv : validV v = true) {x y : Bool} (hx : inL a v = x) (hy : inL b v = y) (hu : (mergeL opM b a).isEmpty = true) (h1 : y = true) (h2 : x = false) : False := by
  have := (merge_empty hb ha).1 hu v hv (by rw [hy, h1])
  rw [hx, h2] at this
  cases this
set_option maxRecDepth 100000 in
set_option maxHeartbeats 8000000 in
theorem points_walk (A : Option Addr) (n c : Nat) (zs : List Int) (w : World) (hs : Sl 1 u8c w A n zs) (hz : ∀ z ∈ zs, 0 ≤ z ∧ z ≤ 255) (hnil : A = none → n = 0 ∧ c = 0) (hsp : ∀ ad, A = some ad → ad.spot = none) (hnc : n ≤ c) (hcm : c ≤ 9223372036854775807) :
    Calls Try.prog 8 #[.slice A n c] w fun e w' => e = .returned (.bool true) ∧ Below w.heap.size w w' := by
  have HS := Lib.hid hs
  have HZ := Lib.hid hz
  have HN := Lib.hid hnil
  have HP := Lib.hid hsp
  clear hs hz hnil hsp
  go_enter Try.func8, Try.ntmps8
  go_wp2_with fail
  refine (new_any A n c zs 120 _ HS.out HZ.out HN.out HP.out hnc hcm (by omega)).mono ?_
  rintro e w0 ⟨g, hg, rfl, hc, hB⟩
  clear HS HZ HN HP
  go_wp2_with fail
  refine (cinterval_any g _ hc).mono ?_
  rintro e w1 ⟨la, Aa, ca, hGa, rfl, hSa, hNa, hPa, hc1, hb1⟩
  have HSa := Lib.hid hSa
  have HRa := Lib.hid hGa.rep
  clear hSa hGa hNa hPa
  replace hB := hb1.below hB hB.size (fun k hk => by subst hk; exact hg)
  replace hc := hc1
  clear hb1
  go_wp2_with fail
  refine (cinterval_any g _ hc).mono ?_
  rintro e w2 ⟨lb, Ab, cb, hGb, rfl, hSb, hNb, hPb, hc2, hb2⟩
  have HSb := Lib.hid hSb
  have HRb := Lib.hid hGb.rep
  clear hSb hGb hNb hPb
  replace HSa := Lib.hid (HSa.out.but hb2 (iv_ne hc HSa.out))
  replace hB := hb2.below hB hB.size (fun k hk => by subst hk; exact hg)
  replace hc := hc2
  clear hb2
  go_wp2_with fail
  refine (union_any Aa Ab _ _ ca cb la lb _ HSa.out HSb.out).mono ?_
  rintro e w3 ⟨Au, cu, rfl, hSu, hb3⟩
  have HSu := Lib.hid hSu
  clear hSu
  have HRu : Hid (Rep (combineL opU la lb).1 (fun v => (opU (inL la v) (inL lb v))) 14) := Lib.hid (HRa.out.op HRb.out rfl (by omega))
  have hEu := HRa.out.err (o := opU) HRb.out rfl (by omega)
  rw [hEu]
  clear hEu
  generalize (combineL opU la lb).1 = lu at *
  replace HSa := Lib.hid (HSa.out.keep (keeps_of hb3))
  replace HSb := Lib.hid (HSb.out.keep (keeps_of hb3))
  replace hB := Below.next hB hb3
  replace hc := hc.below hb3
  clear hb3
  go_wp2_with fail
  refine (intersect_any Aa Ab _ _ ca cb la lb _ HSa.out HSb.out).mono ?_
  rintro e w4 ⟨Ai, ci, rfl, hSi, hb4⟩
  have HSi := Lib.hid hSi
  clear hSi
  have HRi : Hid (Rep (combineL opI la lb).1 (fun v => (opI (inL la v) (inL lb v))) 14) := Lib.hid (HRa.out.op HRb.out rfl (by omega))
  have hEi := HRa.out.err (o := opI) HRb.out rfl (by omega)
  rw [hEi]
  clear hEi
  generalize (combineL opI la lb).1 = li at *
  replace HSa := Lib.hid (HSa.out.keep (keeps_of hb4))
  replace HSb := Lib.hid (HSb.out.keep (keeps_of hb4))
  replace HSu := Lib.hid (HSu.out.keep (keeps_of hb4))
  replace hB := Below.next hB hb4
  replace hc := hc.below hb4
  clear hb4
  go_wp2_with fail
  refine (minus_any Aa Ab _ _ ca cb la lb _ HSa.out HSb.out).mono ?_
  rintro e w5 ⟨Am, cm, rfl, hSm, hb5⟩
  have HSm := Lib.hid hSm
  clear hSm
  have HRm : Hid (Rep (combineL opM la lb).1 (fun v => (opM (inL la v) (inL lb v))) 14) := Lib.hid (HRa.out.op HRb.out rfl (by omega))
  have hEm := HRa.out.err (o := opM) HRb.out rfl (by omega)
  rw [hEm]
  clear hEm
  generalize (combineL opM la lb).1 = lm at *
  replace HSa := Lib.hid (HSa.out.keep (keeps_of hb5))
  replace HSb := Lib.hid (HSb.out.keep (keeps_of hb5))
  replace HSu := Lib.hid (HSu.out.keep (keeps_of hb5))
  replace HSi := Lib.hid (HSi.out.keep (keeps_of hb5))
  replace hB := Below.next hB hb5
  replace hc := hc.below hb5
  clear hb5
  go_wp2_with fail
  refine (complement_any Aa _ ca la _ HSa.out).mono ?_
  rintro e w6 ⟨An, cn, rfl, hSn, hb6⟩
  have HSn := Lib.hid hSn
  clear hSn
  have HRn : Hid (Rep (combineL opM allL la).1 (fun v => (opM true (inL la v))) 8) := Lib.hid (Rep.all.op HRa.out rfl (by omega))
  have hEn := Rep.all.err (o := opM) HRa.out rfl (by omega)
  rw [hEn]
  clear hEn
  generalize (combineL opM allL la).1 = ln at *
  replace HSa := Lib.hid (HSa.out.keep (keeps_of hb6))
  replace HSb := Lib.hid (HSb.out.keep (keeps_of hb6))
  replace HSu := Lib.hid (HSu.out.keep (keeps_of hb6))
  replace HSi := Lib.hid (HSi.out.keep (keeps_of hb6))
  replace HSm := Lib.hid (HSm.out.keep (keeps_of hb6))
  replace hB := Below.next hB hb6
  replace hc := hc.below hb6
  clear hb6
  go_wp2_with fail
  refine (covers_any Aa Ab _ _ ca cb la lb _ HSa.out HSb.out).mono ?_
  rintro e w7 ⟨rfl, hb7⟩
  rw [covers_good HRa.out.good HRb.out.good (by omega) (by omega)]
  dsimp only
  replace HSa := Lib.hid (HSa.out.keep (keeps_of hb7))
  replace HSb := Lib.hid (HSb.out.keep (keeps_of hb7))
  replace HSu := Lib.hid (HSu.out.keep (keeps_of hb7))
  replace HSi := Lib.hid (HSi.out.keep (keeps_of hb7))
  replace HSm := Lib.hid (HSm.out.keep (keeps_of hb7))
  replace HSn := Lib.hid (HSn.out.keep (keeps_of hb7))
  replace hB := Below.next hB hb7
  replace hc := hc.below hb7
  clear hb7
  obtain ⟨q, HQ⟩ : ∃ u, Hid ((mergeL opM lb la).isEmpty = u) := ⟨_, rfl⟩
  rw [HQ.out]
  go_wp2_with fail
  go_loopw [16] (fun i wr => PtRel w g [(Aa, la), (Ab, lb), (Au, lu), (Ai, li), (Am, lm), (An, ln)] i wr) (fun i _ => 6 - (intOf i).toNat)
  case atStart => exact ⟨0, by omega, rfl, hc, (by intro p hp; simp only [List.mem_cons, List.not_mem_nil, or_false] at hp; rcases hp with rfl | rfl | rfl | rfl | rfl | rfl; exact HSa.out; exact HSb.out; exact HSu.out; exact HSi.out; exact HSm.out; exact HSn.out), hB⟩
  case round =>
    obtain ⟨k, hk, rfl, hc, hL, hB⟩ := hrel
    replace HSa := Lib.hid (hL (Aa, la) (by simp))
    replace HSb := Lib.hid (hL (Ab, lb) (by simp))
    replace HSu := Lib.hid (hL (Au, lu) (by simp))
    replace HSi := Lib.hid (hL (Ai, li) (by simp))
    replace HSm := Lib.hid (hL (Am, lm) (by simp))
    replace HSn := Lib.hid (hL (An, ln) (by simp))
    clear hL
    by_cases hlt : k < 6
    · go_wp2_with fail
      refine (any2_any g _ hc).mono ?_
      rintro e w8 ⟨⟨⟨vk, vi, vt⟩, hv, hvr, rfl⟩, hc8, hb8⟩
      have HV := Lib.hid hv
      clear hv hvr
      replace HSa := Lib.hid (HSa.out.but hb8 (iv_ne hc HSa.out))
      replace HSb := Lib.hid (HSb.out.but hb8 (iv_ne hc HSb.out))
      replace HSu := Lib.hid (HSu.out.but hb8 (iv_ne hc HSu.out))
      replace HSi := Lib.hid (HSi.out.but hb8 (iv_ne hc HSi.out))
      replace HSm := Lib.hid (HSm.out.but hb8 (iv_ne hc HSm.out))
      replace HSn := Lib.hid (HSn.out.but hb8 (iv_ne hc HSn.out))
      replace hB := hb8.below hB hB.size (fun k hk => by subst hk; exact hg)
      replace hc := hc8
      clear hb8
      have hA0 := (Below.refl w8.heap.size w8).alloc (Nat.le_refl _) (.cells #[.int .i64 vk, .int .i64 vi, .string vt] 24)
      have hX := Blk.new w8 24 #[.int .i64 vk, .int .i64 vi, .string vt]
      go_wp2_with fail
      generalize (w8.alloc (.cells #[.int .i64 vk, .int .i64 vi, .string vt] 24)) = W at *
      replace HSa := Lib.hid (HSa.out.keep (keeps_of hA0))
      replace HSb := Lib.hid (HSb.out.keep (keeps_of hA0))
      replace HSu := Lib.hid (HSu.out.keep (keeps_of hA0))
      replace HSi := Lib.hid (HSi.out.keep (keeps_of hA0))
      replace HSm := Lib.hid (HSm.out.keep (keeps_of hA0))
      replace HSn := Lib.hid (HSn.out.keep (keeps_of hA0))
      replace hB := Below.next hB hA0
      replace hc := hc.below hA0
      clear hA0
      obtain ⟨z, HZ⟩ : ∃ z, Hid (w8.heap.size = z) := ⟨_, rfl⟩
      rw [HZ.out] at hX ⊢
      obtain ⟨x, HX⟩ : ∃ x, Hid (inL la ⟨vk, vi, vt⟩ = x) := ⟨_, rfl⟩
      obtain ⟨y, HY⟩ : ∃ x, Hid (inL lb ⟨vk, vi, vt⟩ = x) := ⟨_, rfl⟩
      have HHa : Hid (hasL la ⟨vk, vi, vt⟩ = x) := Lib.hid (by have h := has_rep HRa.out (by omega) HV.out; rw [HX.out] at h; exact h)
      have HHb : Hid (hasL lb ⟨vk, vi, vt⟩ = y) := Lib.hid (by have h := has_rep HRb.out (by omega) HV.out; rw [HY.out] at h; exact h)
      have HHu : Hid (hasL lu ⟨vk, vi, vt⟩ = opU x y) := Lib.hid (by have h := has_rep HRu.out (by omega) HV.out; rw [HX.out, HY.out] at h; exact h)
      have HHi : Hid (hasL li ⟨vk, vi, vt⟩ = opI x y) := Lib.hid (by have h := has_rep HRi.out (by omega) HV.out; rw [HX.out, HY.out] at h; exact h)
      have HHm : Hid (hasL lm ⟨vk, vi, vt⟩ = opM x y) := Lib.hid (by have h := has_rep HRm.out (by omega) HV.out; rw [HX.out, HY.out] at h; exact h)
      have HHn : Hid (hasL ln ⟨vk, vi, vt⟩ = opM true x) := Lib.hid (by have h := has_rep HRn.out (by omega) HV.out; rw [HX.out] at h; exact h)
      have hXc := hX.cell
      have hca := @cell_after W.drew
      refine wp_region_seg [([0, 1, 3, 4], 2), ([], 5)] [6, 7] (by kernel_rfl) (by kernel_rfl) (fun _ _ d _ _ h => by cases d <;> exact h) ?_
      simp only [pickSegs, pickOps, opAt, List.map_cons, List.map_nil, List.getElem?_toArray, List.getElem?_cons_zero, List.getElem?_cons_succ, Option.getD_some]
      unfold wpBlocks
      repeat (go_big_quiet_step (fail))
      refine wpQuiet_nil ?_
      clear hca hXc
      have hD : Below W.heap.size W W.drew := (Below.refl _ _).drew
      replace HSa := Lib.hid (HSa.out.keep (keeps_of hD))
      replace HSb := Lib.hid (HSb.out.keep (keeps_of hD))
      replace HSu := Lib.hid (HSu.out.keep (keeps_of hD))
      replace HSi := Lib.hid (HSi.out.keep (keeps_of hD))
      replace HSm := Lib.hid (HSm.out.keep (keeps_of hD))
      replace HSn := Lib.hid (HSn.out.keep (keeps_of hD))
      replace hB := Below.next hB hD
      replace hc := hc.below hD
      clear hD
      replace hX := hX.drew
      go_wp2_with fail
      refine (has_any Aa _ ca la ⟨vk, vi, vt⟩ _ HSa.out).mono ?_
      rintro e w9 ⟨rfl, hb9⟩
      rw [HHa.out]
      replace hX := hX.below hb9
      go_wp2_with fail
      refine ⟨hb9, ?_⟩
      replace HSa := Lib.hid (HSa.out.keep (keeps_of hb9))
      replace HSb := Lib.hid (HSb.out.keep (keeps_of hb9))
      replace HSu := Lib.hid (HSu.out.keep (keeps_of hb9))
      replace HSi := Lib.hid (HSi.out.keep (keeps_of hb9))
      replace HSm := Lib.hid (HSm.out.keep (keeps_of hb9))
      replace HSn := Lib.hid (HSn.out.keep (keeps_of hb9))
      replace hB := Below.next hB hb9
      replace hc := hc.below hb9
      clear hb9
      unfold wpBlocks
      refine wpQuiet_nil ?_
      go_wp2_with fail
      refine (has_any Ab _ cb lb ⟨vk, vi, vt⟩ _ HSb.out).mono ?_
      rintro e w10 ⟨rfl, hb10⟩
      rw [HHb.out]
      replace hX := hX.below hb10
      go_wp2_with fail
      refine ⟨hb10, ?_⟩
      replace HSa := Lib.hid (HSa.out.keep (keeps_of hb10))
      replace HSb := Lib.hid (HSb.out.keep (keeps_of hb10))
      replace HSu := Lib.hid (HSu.out.keep (keeps_of hb10))
      replace HSi := Lib.hid (HSi.out.keep (keeps_of hb10))
      replace HSm := Lib.hid (HSm.out.keep (keeps_of hb10))
      replace HSn := Lib.hid (HSn.out.keep (keeps_of hb10))
      replace hB := Below.next hB hb10
      replace hc := hc.below hb10
      clear hb10
      unfold wpBlocks
      repeat (go_big_quiet_step (fail))
      refine wpQuiet_nil ?_
      have HF : Hid (q = true → y = true → x = false → False) := Lib.hid (fun h1 => covers_pt HRa.out.good HRb.out.good HV.out HX.out HY.out (by rw [HQ.out]; exact h1))
      clear HX HY HQ HHa HHb HV
      cases x <;> cases y <;> cases q
      all_goals try exact absurd (HF.out rfl rfl rfl) id
      all_goals
        have hXc := hX.cell
        go_wp2_with fail
        clear hXc
        refine (has_any Au _ cu lu ⟨vk, vi, vt⟩ _ HSu.out).mono ?_
        rintro e w11 ⟨rfl, hb11⟩
        rw [HHu.out]
        replace hX := hX.below hb11
        replace HSa := Lib.hid (HSa.out.keep (keeps_of hb11))
        replace HSb := Lib.hid (HSb.out.keep (keeps_of hb11))
        replace HSu := Lib.hid (HSu.out.keep (keeps_of hb11))
        replace HSi := Lib.hid (HSi.out.keep (keeps_of hb11))
        replace HSm := Lib.hid (HSm.out.keep (keeps_of hb11))
        replace HSn := Lib.hid (HSn.out.keep (keeps_of hb11))
        replace hB := Below.next hB hb11
        replace hc := hc.below hb11
        clear hb11
        have hXc := hX.cell
        go_wp2_with fail
        clear hXc
        refine (has_any Ai _ ci li ⟨vk, vi, vt⟩ _ HSi.out).mono ?_
        rintro e w12 ⟨rfl, hb12⟩
        rw [HHi.out]
        replace hX := hX.below hb12
        replace HSa := Lib.hid (HSa.out.keep (keeps_of hb12))
        replace HSb := Lib.hid (HSb.out.keep (keeps_of hb12))
        replace HSu := Lib.hid (HSu.out.keep (keeps_of hb12))
        replace HSi := Lib.hid (HSi.out.keep (keeps_of hb12))
        replace HSm := Lib.hid (HSm.out.keep (keeps_of hb12))
        replace HSn := Lib.hid (HSn.out.keep (keeps_of hb12))
        replace hB := Below.next hB hb12
        replace hc := hc.below hb12
        clear hb12
        have hXc := hX.cell
        go_wp2_with fail
        clear hXc
        refine (has_any Am _ cm lm ⟨vk, vi, vt⟩ _ HSm.out).mono ?_
        rintro e w13 ⟨rfl, hb13⟩
        rw [HHm.out]
        replace hX := hX.below hb13
        replace HSa := Lib.hid (HSa.out.keep (keeps_of hb13))
        replace HSb := Lib.hid (HSb.out.keep (keeps_of hb13))
        replace HSu := Lib.hid (HSu.out.keep (keeps_of hb13))
        replace HSi := Lib.hid (HSi.out.keep (keeps_of hb13))
        replace HSm := Lib.hid (HSm.out.keep (keeps_of hb13))
        replace HSn := Lib.hid (HSn.out.keep (keeps_of hb13))
        replace hB := Below.next hB hb13
        replace hc := hc.below hb13
        clear hb13
        have hXc := hX.cell
        go_wp2_with fail
        clear hXc
        refine (has_any An _ cn ln ⟨vk, vi, vt⟩ _ HSn.out).mono ?_
        rintro e w14 ⟨rfl, hb14⟩
        rw [HHn.out]
        replace hX := hX.below hb14
        replace HSa := Lib.hid (HSa.out.keep (keeps_of hb14))
        replace HSb := Lib.hid (HSb.out.keep (keeps_of hb14))
        replace HSu := Lib.hid (HSu.out.keep (keeps_of hb14))
        replace HSi := Lib.hid (HSi.out.keep (keeps_of hb14))
        replace HSm := Lib.hid (HSm.out.keep (keeps_of hb14))
        replace HSn := Lib.hid (HSn.out.keep (keeps_of hb14))
        replace hB := Below.next hB hb14
        replace hc := hc.below hb14
        clear hb14
        go_wp2_with fail
        go_roundw
        case rel => exact ⟨k + 1, by omega, by go_num, hc, (by intro p hp; simp only [List.mem_cons, List.not_mem_nil, or_false] at hp; rcases hp with rfl | rfl | rfl | rfl | rfl | rfl; exact HSa.out; exact HSb.out; exact HSu.out; exact HSi.out; exact HSm.out; exact HSn.out), hB⟩
        case measure => simp [intOf]; omega
    · clear hc
      go_wp2_with fail
      refine (begun_any _).mono ?_
      rintro e w15 ⟨rfl, hb15⟩
      replace HSa := Lib.hid (HSa.out.keep (keeps_of hb15))
      replace HSb := Lib.hid (HSb.out.keep (keeps_of hb15))
      replace HSu := Lib.hid (HSu.out.keep (keeps_of hb15))
      replace HSi := Lib.hid (HSi.out.keep (keeps_of hb15))
      replace HSm := Lib.hid (HSm.out.keep (keeps_of hb15))
      replace HSn := Lib.hid (HSn.out.keep (keeps_of hb15))
      replace hB := Below.next hB hb15
      clear hb15
      go_wp2_with fail
      refine (validL_any Au _ cu lu _ HSu.out).mono ?_
      rintro e w16 ⟨rfl, hb16⟩
      rw [HRu.out.good.valid (by omega)]
      replace HSa := Lib.hid (HSa.out.keep (keeps_of hb16))
      replace HSb := Lib.hid (HSb.out.keep (keeps_of hb16))
      replace HSu := Lib.hid (HSu.out.keep (keeps_of hb16))
      replace HSi := Lib.hid (HSi.out.keep (keeps_of hb16))
      replace HSm := Lib.hid (HSm.out.keep (keeps_of hb16))
      replace HSn := Lib.hid (HSn.out.keep (keeps_of hb16))
      replace hB := Below.next hB hb16
      clear hb16
      go_wp2_with fail
      refine (validL_any Ai _ ci li _ HSi.out).mono ?_
      rintro e w17 ⟨rfl, hb17⟩
      rw [HRi.out.good.valid (by omega)]
      replace HSa := Lib.hid (HSa.out.keep (keeps_of hb17))
      replace HSb := Lib.hid (HSb.out.keep (keeps_of hb17))
      replace HSu := Lib.hid (HSu.out.keep (keeps_of hb17))
      replace HSi := Lib.hid (HSi.out.keep (keeps_of hb17))
      replace HSm := Lib.hid (HSm.out.keep (keeps_of hb17))
      replace HSn := Lib.hid (HSn.out.keep (keeps_of hb17))
      replace hB := Below.next hB hb17
      clear hb17
      go_wp2_with fail
      refine (validL_any Am _ cm lm _ HSm.out).mono ?_
      rintro e w18 ⟨rfl, hb18⟩
      rw [HRm.out.good.valid (by omega)]
      replace HSa := Lib.hid (HSa.out.keep (keeps_of hb18))
      replace HSb := Lib.hid (HSb.out.keep (keeps_of hb18))
      replace HSu := Lib.hid (HSu.out.keep (keeps_of hb18))
      replace HSi := Lib.hid (HSi.out.keep (keeps_of hb18))
      replace HSm := Lib.hid (HSm.out.keep (keeps_of hb18))
      replace HSn := Lib.hid (HSn.out.keep (keeps_of hb18))
      replace hB := Below.next hB hb18
      clear hb18
      go_wp2_with fail
      refine (validL_any An _ cn ln _ HSn.out).mono ?_
      rintro e w19 ⟨rfl, hb19⟩
      rw [HRn.out.good.valid (by omega)]
      replace HSa := Lib.hid (HSa.out.keep (keeps_of hb19))
      replace HSb := Lib.hid (HSb.out.keep (keeps_of hb19))
      replace HSu := Lib.hid (HSu.out.keep (keeps_of hb19))
      replace HSi := Lib.hid (HSi.out.keep (keeps_of hb19))
      replace HSm := Lib.hid (HSm.out.keep (keeps_of hb19))
      replace HSn := Lib.hid (HSn.out.keep (keeps_of hb19))
      replace hB := Below.next hB hb19
      clear hb19
      go_wp2
      go_ret
      exact ⟨rfl, hB⟩
end Go.Proofs.Ytjlbnbljimmbeaa
