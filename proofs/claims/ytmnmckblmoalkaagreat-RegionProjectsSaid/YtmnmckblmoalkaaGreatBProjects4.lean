/-
  The walk of the law RegionProjects.
-/
import Derived.Test.YtmnmckblmoalkaaGreatB49
import Derived.Test.YtmnmckblmoalkaaGreatB50
import Derived.Test.YtmnmckblmoalkaaGreatB54
set_option linter.unusedVariables false
namespace Go.Proofs.YtmnmckblmoalkaaGreat
open Go.RowKit
set_option maxRecDepth 100000
open Rg

theorem sm_uni : ∀ (bs : List (List (List Iv))) (r : Rg), Sm r → Sm (uniR bs r)
  | [], _, h => h
  | b :: l, r, h => by
    unfold uniR
    split
    · exact sm_uni l _ (sm_op _ _ _)
    · exact sm_nil _ _
theorem sm_pj (r : Rg) (cs : List Int) : Sm (pjR r cs) := by
  unfold pjR
  split
  · split
    · exact sm_uni _ _ (sm_nil _ _)
    · exact sm_nil _ _
  · exact sm_nil _ _
theorem sm_lf (r : Rg) (cs : List Int) (W : Int) : Sm (lfR r cs W) := by
  unfold lfR
  split
  · split
    · exact sm_uni _ _ (sm_nil _ _)
    · exact sm_nil _ _
  · exact sm_nil _ _
theorem sm_fa (r : Rg) (cs : List Int) : Sm (faR r cs) := by
  unfold faR
  split
  · exact sm_cp _
  · exact sm_nil _ _
set_option maxHeartbeats 16000000 in
theorem projects4_walk (A : Option Addr) (n c : Nat) (zs : List Int) (w : World) (hs : Sl 1 u8c w A n zs) (hz : ∀ z ∈ zs, 0 ≤ z ∧ z ≤ 255) (hnil : A = none → n = 0 ∧ c = 0) (hsp : ∀ ad, A = some ad → ad.spot = none) (hnc : n ≤ c) (hcm : c ≤ 9223372036854775807) (xw : Int) (fw : Bool) (Aw : Option Addr) (nw cw : Nat) (rw_ : Rg) (hR : RgS w xw fw Aw nw cw rw_) (hWf : WfR rw_) (A2 : Option Addr) (n2 c2 : Nat) (cs2 : List Int) (hc2 : ClS w A2 n2 cs2) (hn2 : n2 ≤ 9223372036854775807) (wi : Int) :
    Calls Tryz.prog 5 #[.slice A n c, .agg #[.int .i64 xw, .bool fw, .slice Aw nw cw], .slice A2 n2 c2, .int .i64 wi] w fun e w' => e = .returned (.bool true) ∧ Below w.heap.size w w' := by
  have hba : Below w.heap.size w (w.alloc (.cells #[.int .i64 xw, .bool fw, .slice Aw nw cw] 27)) := (Below.refl _ _).alloc (Nat.le_refl _) _
  have HB0 := Lib.hid hba
  have HS := Lib.hid (hs.keep (keeps_of hba))
  have HZ := Lib.hid hz
  have HN := Lib.hid hnil
  have HP := Lib.hid hsp
  have HC2 := Lib.hid hc2
  have HW0 : Hid (BxJ (w.alloc (.cells #[.int .i64 xw, .bool fw, .slice Aw nw cw] 27)) w.heap.size xw fw Aw nw cw rw_) := Lib.hid ⟨Blk.new _ _ _, hR.keep (keeps_of hba), hWf⟩
  have Hsz := Lib.hid (World.size_alloc w (.cells #[.int .i64 xw, .bool fw, .slice Aw nw cw] 27))
  clear hs hz hnil hsp hR hWf hba hc2
  go_enter Tryz.func5, Tryz.ntmps5
  go_upto_region 1 with fail
  generalize hWW : w.alloc (.cells #[.int .i64 xw, .bool fw, .slice Aw nw cw] 27) = W0 at *
  clear hWW
  go_wp2_with fail
  refine (new_any A n c zs 160 _ HS.out HZ.out HN.out HP.out hnc hcm (by omega)).mono ?_
  rintro e w0 ⟨g, hg, rfl, hc, hb0⟩
  have HW1 := Lib.hid (HW0.out.below hb0)
  have hB := Below.next HB0.out hb0
  have hgw : w.heap.size ≤ g := by have := Hsz.out; omega
  clear HS HZ HN HP HW0 HB0 hb0
  go_wp2_with fail
  refine (int_any g 4 _ hc (by omega) (by omega)).mono ?_
  rintro e w1 ⟨⟨y, hy1, hy2, rfl⟩, hc1, hb1⟩
  replace HW1 := Lib.hid (HW1.out.case hc hb1)
  replace hB := hb1.below hB hB.size (fun k hk => by subst hk; exact hgw)
  replace hc := hc1
  clear hb1
  obtain ⟨wd, rfl⟩ := Int.eq_ofNat_of_zero_le hy1
  go_wp2_with fail
  refine (cregion_any g wd (by omega) _ hc).mono ?_
  rintro e w3 ⟨xa, fa, Aa, na, ca, ra, rfl, hSa, hOa, hWa, hFa, hc2, hb2⟩
  replace HW1 := Lib.hid (HW1.out.case hc hb2)
  replace hB := hb2.below hB hB.size (fun k hk => by subst hk; exact hgw)
  replace hc := hc2
  obtain rfl : xa = (wd : Int) := by have := hSa.hw; omega
  have HSa := Lib.hid hSa
  have HKa := Lib.hid (And.intro hOa hFa)
  clear hb2 hSa hOa hWa hFa
  have hVw : w.heap.size < w3.heap.size := HW1.out.b.lt
  have hwd3 : wd ≤ 12 := by omega
  clear hy1 hy2
  have HQ0 : Hid (BxJ (w3.alloc (.cells #[.int .i64 (wd : Int), .bool fa, .slice Aa na ca] 27)) w3.heap.size (wd : Int) fa Aa na ca ra ∧ BxJ (w3.alloc (.cells #[.int .i64 (wd : Int), .bool fa, .slice Aa na ca] 27)) w.heap.size xw fw Aw nw cw rw_ ∧ CaseAt (w3.alloc (.cells #[.int .i64 (wd : Int), .bool fa, .slice Aa na ca] 27)) g ∧ Below w.heap.size w (w3.alloc (.cells #[.int .i64 (wd : Int), .bool fa, .slice Aa na ca] 27))) := by
    have h1 : Below w3.heap.size w3 (w3.alloc (.cells #[.int .i64 (wd : Int), .bool fa, .slice Aa na ca] 27)) := (Below.refl _ _).alloc (Nat.le_refl _) _
    exact Lib.hid ⟨⟨Blk.new _ _ _, HSa.out.keep (keeps_of h1), HKa.out.2⟩, HW1.out.alloc _, hc.below h1, Below.next hB h1⟩
  obtain ⟨Va, HVa⟩ : ∃ z, Hid (w3.heap.size = z) := ⟨_, rfl⟩
  rw [HVa.out] at HQ0
  have hVa1 : w.heap.size < Va := by rw [← HVa.out]; exact hVw
  go_upto_region 3 with fail
  rw [HVa.out]
  generalize hWW : w3.alloc (.cells #[.int .i64 (wd : Int), .bool fa, .slice Aa na ca] 27) = W3 at *
  clear hWW HW1 HSa HVa hB hc hVw HKa
  have z0 := HQ0.out.1.b.cell
  go_wp2_with fail
  refine (gcolsJ_any w.heap.size g wd hwd3 _ HQ0.out.2.2.1).mono ?_
  rintro e w4 ⟨Al, nl, cl, cs, rfl, hnl, hcl, hdl, hnl2, hc4, hb4⟩
  have HQ : Hid (PjS w g Va w.heap.size (wd : Int) fa Aa na ca ra xw fw Aw nw cw rw_ Al nl cs w4) := Lib.hid ⟨HQ0.out.1.case HQ0.out.2.2.1 hb4, HQ0.out.2.1.case HQ0.out.2.2.1 hb4, hc4, hcl, hb4.below HQ0.out.2.2.2 HQ0.out.2.2.2.size (fun k hk => by subst hk; exact hgw), hgw, by omega, by omega⟩
  have Hnl : Hid (nl ≤ 9223372036854775807) := Lib.hid (by omega)
  clear hnl hcl hdl hnl2 hc4 hb4 z0 HQ0
  go_wp2_with fail
  refine (bool_any g 4 _ HQ.out.kk (by omega) (by omega)).mono ?_
  rintro e w5 ⟨⟨b1, rfl⟩, hc5, hb5⟩
  have HQ5 := Lib.hid (HQ.out.case hc5 hb5)
  clear hc5 hb5 HQ
  go_upto_if 37 with fail
  go_cut [11] (fun l w8 => ∃ (Al : Option Addr) (nl cl : Nat) (cs : List Int), l = .slice Al nl cl ∧ Hid (nl ≤ 9223372036854775807) ∧ Hid (PjS w g Va w.heap.size (wd : Int) fa Aa na ca ra xw fw Aw nw cw rw_ Al nl cs w8))
  case first =>
    cases b1
    · go_wp2_with fail
      go_meet
      case rel => exact ⟨_, _, _, _, rfl, Hnl, HQ5⟩
    · have HE := Lib.hid (HQ5.out.arg HC2.out)
      go_wp2_with fail
      go_meet
      case rel => exact ⟨_, _, _, _, rfl, Lib.hid hn2, HE⟩
  case rest =>
    obtain ⟨Al, nl, cl, cs, rfl, Hnl, HQ6⟩ := hcut
    clear HQ5
    go_wp2_with fail
    refine (bool_any g 8 _ HQ6.out.kk (by omega) (by omega)).mono ?_
    rintro e w7 ⟨⟨b3, rfl⟩, hc7, hb7⟩
    have HQ7 := Lib.hid (HQ6.out.case hc7 hb7)
    clear hc7 hb7 HQ6
    go_upto_if 40 with fail
    go_cut [] (fun w8 => ∃ (x : Int) (f : Bool) (A : Option Addr) (n c : Nat) (r : Rg), Hid (PjS w g Va w.heap.size x f A n c r xw fw Aw nw cw rw_ Al nl cs w8))
    case first =>
      cases b3
      · go_wp2_with fail
        go_meet
        case rel => exact ⟨_, _, _, _, _, _, HQ7⟩
      · have zw := HQ7.out.r.b.cell
        have HE := Lib.hid (HQ7.out.puta HQ7.out.r.s HQ7.out.r.wf)
        have zr := HQ7.out.a.b.cell
        obtain ⟨ff1, ff2, ff3⟩ := put3R_free HQ7.out.a.b (.int .i64 xw) (.bool fw)
        have y3 := (put3R_blk (a' := (.int .i64 xw)) (b' := (.bool fw)) (c' := (.slice Aw nw cw)) HQ7.out.a.b).cell
        have y1 := (HQ7.out.a.b.set_ 0 (.int .i64 xw)).cell
        have y2 := ((HQ7.out.a.b.set_ 0 (.int .i64 xw)).set_ 1 (.bool fw)).cell
        unfold put3R at y3
        go_wp2_with fail
        go_meet
        case rel => exact ⟨_, _, _, _, _, _, HE⟩
    case rest =>
      obtain ⟨xa, fa, Aa, na, ca, ra, HQ7⟩ := hcut
      have hB := HQ7.out.bel
      have hc := HQ7.out.kk
      have hg := HQ7.out.hg
      have HCl := Lib.hid HQ7.out.cl
      have HSa := Lib.hid HQ7.out.a.s
      have HVa := Lib.hid HQ7.out.a.b
      have HWa := Lib.hid HQ7.out.a.wf
      clear HQ7
      have za := HVa.out.cell
      go_wp2_with fail
      refine (gproject_any ra xa fa Aa na ca Al nl cl cs _ HSa.out HWa.out HCl.out.sl).mono ?_
      rintro e w101 ⟨xp, fp, Ap, np, cp, rfl, hSp, hb1⟩
      obtain ⟨ep, Hep⟩ : ∃ z, Hid (pjE ra cs = z) := ⟨_, rfl⟩
      obtain ⟨rp, Hrp⟩ : ∃ z, Hid (pjR ra cs = z) := ⟨_, rfl⟩
      rw [Hep.out]
      rw [Hrp.out] at hSp
      clear za
      replace HSa := Lib.hid (HSa.out.keep (keeps_of hb1))
      replace HVa := Lib.hid (HVa.out.below hb1)
      replace hB := Below.next hB hb1
      replace hc := hc.below hb1
      replace HCl := Lib.hid (HCl.out.below hb1)
      have HSp := Lib.hid hSp
      clear hSp hb1
      replace HCl := Lib.hid (HCl.out.below ((Below.refl _ _).alloc (Nat.le_refl _) (.cells #[.int .i64 xp, .bool fp, .slice Ap np cp] 27)))
      replace HSa := Lib.hid (HSa.out.keep (keeps_alloc w101 (.cells #[.int .i64 xp, .bool fp, .slice Ap np cp] 27)))
      replace HVa := Lib.hid (HVa.out.alloc (.cells #[.int .i64 xp, .bool fp, .slice Ap np cp] 27))
      replace HSp := Lib.hid (HSp.out.keep (keeps_alloc w101 (.cells #[.int .i64 xp, .bool fp, .slice Ap np cp] 27)))
      have HVp := Lib.hid (Blk.new w101 27 #[.int .i64 xp, .bool fp, .slice Ap np cp])
      obtain ⟨Vp, HXp⟩ : ∃ z, Hid (w101.heap.size = z) := ⟨_, rfl⟩
      rw [HXp.out] at HVp
      replace hB := hB.alloc hB.size (.cells #[.int .i64 xp, .bool fp, .slice Ap np cp] 27)
      replace hc := hc.below ((Below.refl _ _).alloc (Nat.le_refl _) (.cells #[.int .i64 xp, .bool fp, .slice Ap np cp] 27))
      go_upto_region 9 with fail
      rw [HXp.out]
      generalize hWW : (w101.alloc (.cells #[.int .i64 xp, .bool fp, .slice Ap np cp] 27)) = WW2 at *
      clear hWW
      have za := HVa.out.cell
      go_wp2_with fail
      refine (fproject_any ra xa fa Aa na ca Al nl cl cs _ HSa.out HCl.out.sl).mono ?_
      rintro e w103 ⟨xq, fq, Aq, nq, cq, rfl, hSq, hb3⟩
      rw [Hep.out]
      rw [Hrp.out] at hSq
      clear za
      replace HSa := Lib.hid (HSa.out.keep (keeps_of hb3))
      replace HVa := Lib.hid (HVa.out.below hb3)
      replace HSp := Lib.hid (HSp.out.keep (keeps_of hb3))
      replace HVp := Lib.hid (HVp.out.below hb3)
      replace hB := Below.next hB hb3
      replace hc := hc.below hb3
      replace HCl := Lib.hid (HCl.out.below hb3)
      have HSq := Lib.hid hSq
      clear hSq hb3
      replace HCl := Lib.hid (HCl.out.below ((Below.refl _ _).alloc (Nat.le_refl _) (.cells #[.int .i64 xq, .bool fq, .slice Aq nq cq] 27)))
      replace HSa := Lib.hid (HSa.out.keep (keeps_alloc w103 (.cells #[.int .i64 xq, .bool fq, .slice Aq nq cq] 27)))
      replace HVa := Lib.hid (HVa.out.alloc (.cells #[.int .i64 xq, .bool fq, .slice Aq nq cq] 27))
      replace HSp := Lib.hid (HSp.out.keep (keeps_alloc w103 (.cells #[.int .i64 xq, .bool fq, .slice Aq nq cq] 27)))
      replace HVp := Lib.hid (HVp.out.alloc (.cells #[.int .i64 xq, .bool fq, .slice Aq nq cq] 27))
      replace HSq := Lib.hid (HSq.out.keep (keeps_alloc w103 (.cells #[.int .i64 xq, .bool fq, .slice Aq nq cq] 27)))
      have HVq := Lib.hid (Blk.new w103 27 #[.int .i64 xq, .bool fq, .slice Aq nq cq])
      obtain ⟨Vq, HXq⟩ : ∃ z, Hid (w103.heap.size = z) := ⟨_, rfl⟩
      rw [HXq.out] at HVq
      replace hB := hB.alloc hB.size (.cells #[.int .i64 xq, .bool fq, .slice Aq nq cq] 27)
      replace hc := hc.below ((Below.refl _ _).alloc (Nat.le_refl _) (.cells #[.int .i64 xq, .bool fq, .slice Aq nq cq] 27))
      go_upto_region 10 with fail
      rw [HXq.out]
      generalize hWW : (w103.alloc (.cells #[.int .i64 xq, .bool fq, .slice Aq nq cq] 27)) = WW4 at *
      clear hWW
      have za := HVa.out.cell
      go_wp2_with fail
      refine (gforall_any ra xa fa Aa na ca Al nl cl cs _ HSa.out HWa.out HCl.out.sl).mono ?_
      rintro e w105 ⟨xo, fo, Ao, no, co, rfl, hSo, hb5⟩
      obtain ⟨es, Hes⟩ : ∃ z, Hid (faE ra cs = z) := ⟨_, rfl⟩
      obtain ⟨rs, Hrs⟩ : ∃ z, Hid (faR ra cs = z) := ⟨_, rfl⟩
      rw [Hes.out]
      rw [Hrs.out] at hSo
      clear za
      replace HSa := Lib.hid (HSa.out.keep (keeps_of hb5))
      replace HVa := Lib.hid (HVa.out.below hb5)
      replace HSp := Lib.hid (HSp.out.keep (keeps_of hb5))
      replace HVp := Lib.hid (HVp.out.below hb5)
      replace HSq := Lib.hid (HSq.out.keep (keeps_of hb5))
      replace HVq := Lib.hid (HVq.out.below hb5)
      replace hB := Below.next hB hb5
      replace hc := hc.below hb5
      replace HCl := Lib.hid (HCl.out.below hb5)
      have HSo := Lib.hid hSo
      clear hSo hb5
      replace HCl := Lib.hid (HCl.out.below ((Below.refl _ _).alloc (Nat.le_refl _) (.cells #[.int .i64 xo, .bool fo, .slice Ao no co] 27)))
      replace HSa := Lib.hid (HSa.out.keep (keeps_alloc w105 (.cells #[.int .i64 xo, .bool fo, .slice Ao no co] 27)))
      replace HVa := Lib.hid (HVa.out.alloc (.cells #[.int .i64 xo, .bool fo, .slice Ao no co] 27))
      replace HSp := Lib.hid (HSp.out.keep (keeps_alloc w105 (.cells #[.int .i64 xo, .bool fo, .slice Ao no co] 27)))
      replace HVp := Lib.hid (HVp.out.alloc (.cells #[.int .i64 xo, .bool fo, .slice Ao no co] 27))
      replace HSq := Lib.hid (HSq.out.keep (keeps_alloc w105 (.cells #[.int .i64 xo, .bool fo, .slice Ao no co] 27)))
      replace HVq := Lib.hid (HVq.out.alloc (.cells #[.int .i64 xo, .bool fo, .slice Ao no co] 27))
      replace HSo := Lib.hid (HSo.out.keep (keeps_alloc w105 (.cells #[.int .i64 xo, .bool fo, .slice Ao no co] 27)))
      have HVo := Lib.hid (Blk.new w105 27 #[.int .i64 xo, .bool fo, .slice Ao no co])
      obtain ⟨Vo, HXo⟩ : ∃ z, Hid (w105.heap.size = z) := ⟨_, rfl⟩
      rw [HXo.out] at HVo
      replace hB := hB.alloc hB.size (.cells #[.int .i64 xo, .bool fo, .slice Ao no co] 27)
      replace hc := hc.below ((Below.refl _ _).alloc (Nat.le_refl _) (.cells #[.int .i64 xo, .bool fo, .slice Ao no co] 27))
      go_upto_region 11 with fail
      rw [HXo.out]
      generalize hWW : (w105.alloc (.cells #[.int .i64 xo, .bool fo, .slice Ao no co] 27)) = WW6 at *
      clear hWW
      have za := HVa.out.cell
      go_wp2_with fail
      refine (fforall_any ra xa fa Aa na ca Al nl cl cs _ HSa.out HCl.out.sl).mono ?_
      rintro e w107 ⟨xt, ft, At, nt, ct, rfl, hSt, hb7⟩
      rw [Hes.out]
      rw [Hrs.out] at hSt
      clear za
      replace HSa := Lib.hid (HSa.out.keep (keeps_of hb7))
      replace HVa := Lib.hid (HVa.out.below hb7)
      replace HSp := Lib.hid (HSp.out.keep (keeps_of hb7))
      replace HVp := Lib.hid (HVp.out.below hb7)
      replace HSq := Lib.hid (HSq.out.keep (keeps_of hb7))
      replace HVq := Lib.hid (HVq.out.below hb7)
      replace HSo := Lib.hid (HSo.out.keep (keeps_of hb7))
      replace HVo := Lib.hid (HVo.out.below hb7)
      replace hB := Below.next hB hb7
      replace hc := hc.below hb7
      replace HCl := Lib.hid (HCl.out.below hb7)
      have HSt := Lib.hid hSt
      clear hSt hb7
      replace HCl := Lib.hid (HCl.out.below ((Below.refl _ _).alloc (Nat.le_refl _) (.cells #[.int .i64 xt, .bool ft, .slice At nt ct] 27)))
      replace HSa := Lib.hid (HSa.out.keep (keeps_alloc w107 (.cells #[.int .i64 xt, .bool ft, .slice At nt ct] 27)))
      replace HVa := Lib.hid (HVa.out.alloc (.cells #[.int .i64 xt, .bool ft, .slice At nt ct] 27))
      replace HSp := Lib.hid (HSp.out.keep (keeps_alloc w107 (.cells #[.int .i64 xt, .bool ft, .slice At nt ct] 27)))
      replace HVp := Lib.hid (HVp.out.alloc (.cells #[.int .i64 xt, .bool ft, .slice At nt ct] 27))
      replace HSq := Lib.hid (HSq.out.keep (keeps_alloc w107 (.cells #[.int .i64 xt, .bool ft, .slice At nt ct] 27)))
      replace HVq := Lib.hid (HVq.out.alloc (.cells #[.int .i64 xt, .bool ft, .slice At nt ct] 27))
      replace HSo := Lib.hid (HSo.out.keep (keeps_alloc w107 (.cells #[.int .i64 xt, .bool ft, .slice At nt ct] 27)))
      replace HVo := Lib.hid (HVo.out.alloc (.cells #[.int .i64 xt, .bool ft, .slice At nt ct] 27))
      replace HSt := Lib.hid (HSt.out.keep (keeps_alloc w107 (.cells #[.int .i64 xt, .bool ft, .slice At nt ct] 27)))
      have HVt := Lib.hid (Blk.new w107 27 #[.int .i64 xt, .bool ft, .slice At nt ct])
      obtain ⟨Vt, HXt⟩ : ∃ z, Hid (w107.heap.size = z) := ⟨_, rfl⟩
      rw [HXt.out] at HVt
      replace hB := hB.alloc hB.size (.cells #[.int .i64 xt, .bool ft, .slice At nt ct] 27)
      replace hc := hc.below ((Below.refl _ _).alloc (Nat.le_refl _) (.cells #[.int .i64 xt, .bool ft, .slice At nt ct] 27))
      go_upto_region 12 with fail
      rw [HXt.out]
      generalize hWW : (w107.alloc (.cells #[.int .i64 xt, .bool ft, .slice At nt ct] 27)) = WW8 at *
      clear hWW
      have hsm : Sm rp := by rw [← Hrp.out]; exact sm_pj _ _
      have hsm2 : Sm rs := by rw [← Hrs.out]; exact sm_fa _ _
      have zp := HVp.out.cell
      have zq := HVq.out.cell
      have zo := HVo.out.cell
      have zt := HVt.out.cell
      go_wp2_with fail
      refine (fsame_any rp xp fp Ap np cp xq fq Aq nq cq rp _ HSp.out HSq.out hsm hsm).mono ?_
      rintro e w109 ⟨rfl, hb9⟩
      rw [decide_eq_true rfl]
      replace HSa := Lib.hid (HSa.out.keep (keeps_of hb9))
      replace HVa := Lib.hid (HVa.out.below hb9)
      replace HSp := Lib.hid (HSp.out.keep (keeps_of hb9))
      replace HVp := Lib.hid (HVp.out.below hb9)
      replace HSq := Lib.hid (HSq.out.keep (keeps_of hb9))
      replace HVq := Lib.hid (HVq.out.below hb9)
      replace HSo := Lib.hid (HSo.out.keep (keeps_of hb9))
      replace HVo := Lib.hid (HVo.out.below hb9)
      replace HSt := Lib.hid (HSt.out.keep (keeps_of hb9))
      replace HVt := Lib.hid (HVt.out.below hb9)
      replace hB := Below.next hB hb9
      replace hc := hc.below hb9
      replace HCl := Lib.hid (HCl.out.below hb9)
      clear hb9
      clear zp zq zo zt
      have zo := HVo.out.cell
      have zt := HVt.out.cell
      go_wp2_with fail
      refine (fsame_any rs xo fo Ao no co xt ft At nt ct rs _ HSo.out HSt.out hsm2 hsm2).mono ?_
      rintro e w110 ⟨rfl, hb10⟩
      rw [decide_eq_true rfl]
      replace HSa := Lib.hid (HSa.out.keep (keeps_of hb10))
      replace HVa := Lib.hid (HVa.out.below hb10)
      replace HSp := Lib.hid (HSp.out.keep (keeps_of hb10))
      replace HVp := Lib.hid (HVp.out.below hb10)
      replace HSq := Lib.hid (HSq.out.keep (keeps_of hb10))
      replace HVq := Lib.hid (HVq.out.below hb10)
      replace HSo := Lib.hid (HSo.out.keep (keeps_of hb10))
      replace HVo := Lib.hid (HVo.out.below hb10)
      replace HSt := Lib.hid (HSt.out.keep (keeps_of hb10))
      replace HVt := Lib.hid (HVt.out.below hb10)
      replace hB := Below.next hB hb10
      replace hc := hc.below hb10
      replace HCl := Lib.hid (HCl.out.below hb10)
      clear hb10
      clear zo zt hsm hsm2
      clear HSp HVp
      clear HSq HVq
      clear HSo HVo
      clear HSt HVt
      have za := HVa.out.cell
      go_wp2_with fail
      refine (bool_any g 4 _ hc (by omega) (by omega)).mono ?_
      rintro e w10 ⟨⟨b4, rfl⟩, hc10, hb10⟩
      have HT : Hid (PjT w g Al nl cs w10) := Lib.hid ⟨hc10, HCl.out.case hb10, hb10.below hB hB.size (fun k hk => by subst hk; exact hg), hg⟩
      clear za hc10 hb10 HSa HVa HWa HCl hB hc
      go_upto_if 89 with fail
      go_cut [20] (fun v w8 => ∃ W : Int, v = .int .i64 W ∧ Hid (PjT w g Al nl cs w8))
      case first =>
        cases b4
        · go_wp2_with fail
          go_meet
          case rel => exact ⟨_, rfl, HT⟩
        · go_wp2_with fail
          go_meet
          case rel => exact ⟨_, rfl, HT⟩
      case rest =>
        obtain ⟨W, rfl, HT2⟩ := hcut
        have hB := HT2.out.bel
        have hc := HT2.out.kk
        have hg := HT2.out.hg
        have HCl := Lib.hid HT2.out.cl
        clear HT HT2
        have hrem : (nl : Int).tmod 4 = ((nl % 4 : Nat) : Int) := by rw [Int.tmod_eq_emod_of_nonneg (by omega)]; rfl
        have hnl9 := Hnl.out
        go_wp2_with fail
        refine (cregion_any g (nl % 4) (by omega) _ hc).mono ?_
        rintro e w11 ⟨xb, fb, Ab, nb, cb, rb, rfl, hSb, hOb, hWb, hFb, hc11, hb11⟩
        replace hB := hb11.below hB hB.size (fun k hk => by subst hk; exact hg)
        replace HCl := Lib.hid (HCl.out.case hb11)
        replace hc := hc11
        have HSb := Lib.hid hSb
        have HWb := Lib.hid hFb
        clear hb11 hc11 hSb hOb hWb hFb hrem
        replace HCl := Lib.hid (HCl.out.below ((Below.refl _ _).alloc (Nat.le_refl _) (.cells #[.int .i64 xb, .bool fb, .slice Ab nb cb] 27)))
        replace HSb := Lib.hid (HSb.out.keep (keeps_alloc w11 (.cells #[.int .i64 xb, .bool fb, .slice Ab nb cb] 27)))
        have HVb := Lib.hid (Blk.new w11 27 #[.int .i64 xb, .bool fb, .slice Ab nb cb])
        obtain ⟨Vb, HXb⟩ : ∃ z, Hid (w11.heap.size = z) := ⟨_, rfl⟩
        rw [HXb.out] at HVb
        replace hB := hB.alloc hB.size (.cells #[.int .i64 xb, .bool fb, .slice Ab nb cb] 27)
        replace hc := hc.below ((Below.refl _ _).alloc (Nat.le_refl _) (.cells #[.int .i64 xb, .bool fb, .slice Ab nb cb] 27))
        go_upto_region 18 with fail
        rw [HXb.out]
        generalize hWW : (w11.alloc (.cells #[.int .i64 xb, .bool fb, .slice Ab nb cb] 27)) = WW11 at *
        clear hWW
        have zb := HVb.out.cell
        go_wp2_with fail
        refine (glift_any rb xb fb Ab nb cb Al nl cl cs W _ HSb.out HWb.out HCl.out.sl).mono ?_
        rintro e w112 ⟨xu, fu, Au, nu, cu, rfl, hSu, hb12⟩
        obtain ⟨eu, Heu⟩ : ∃ z, Hid (lfE rb cs W = z) := ⟨_, rfl⟩
        obtain ⟨ru, Hru⟩ : ∃ z, Hid (lfR rb cs W = z) := ⟨_, rfl⟩
        rw [Heu.out]
        rw [Hru.out] at hSu
        clear zb
        replace HSb := Lib.hid (HSb.out.keep (keeps_of hb12))
        replace HVb := Lib.hid (HVb.out.below hb12)
        replace hB := Below.next hB hb12
        replace hc := hc.below hb12
        replace HCl := Lib.hid (HCl.out.below hb12)
        have HSu := Lib.hid hSu
        clear hSu hb12
        replace HCl := Lib.hid (HCl.out.below ((Below.refl _ _).alloc (Nat.le_refl _) (.cells #[.int .i64 xu, .bool fu, .slice Au nu cu] 27)))
        replace HSb := Lib.hid (HSb.out.keep (keeps_alloc w112 (.cells #[.int .i64 xu, .bool fu, .slice Au nu cu] 27)))
        replace HVb := Lib.hid (HVb.out.alloc (.cells #[.int .i64 xu, .bool fu, .slice Au nu cu] 27))
        replace HSu := Lib.hid (HSu.out.keep (keeps_alloc w112 (.cells #[.int .i64 xu, .bool fu, .slice Au nu cu] 27)))
        have HVu := Lib.hid (Blk.new w112 27 #[.int .i64 xu, .bool fu, .slice Au nu cu])
        obtain ⟨Vu, HXu⟩ : ∃ z, Hid (w112.heap.size = z) := ⟨_, rfl⟩
        rw [HXu.out] at HVu
        replace hB := hB.alloc hB.size (.cells #[.int .i64 xu, .bool fu, .slice Au nu cu] 27)
        replace hc := hc.below ((Below.refl _ _).alloc (Nat.le_refl _) (.cells #[.int .i64 xu, .bool fu, .slice Au nu cu] 27))
        go_upto_region 19 with fail
        rw [HXu.out]
        generalize hWW : (w112.alloc (.cells #[.int .i64 xu, .bool fu, .slice Au nu cu] 27)) = WW13 at *
        clear hWW
        have zb := HVb.out.cell
        go_wp2_with fail
        refine (flift_any rb xb fb Ab nb cb Al nl cl cs W _ HSb.out HCl.out.sl).mono ?_
        rintro e w114 ⟨xv, fv, Av, nv, cv, rfl, hSv, hb14⟩
        rw [Heu.out]
        rw [Hru.out] at hSv
        clear zb
        replace HSb := Lib.hid (HSb.out.keep (keeps_of hb14))
        replace HVb := Lib.hid (HVb.out.below hb14)
        replace HSu := Lib.hid (HSu.out.keep (keeps_of hb14))
        replace HVu := Lib.hid (HVu.out.below hb14)
        replace hB := Below.next hB hb14
        replace hc := hc.below hb14
        replace HCl := Lib.hid (HCl.out.below hb14)
        have HSv := Lib.hid hSv
        clear hSv hb14
        replace HCl := Lib.hid (HCl.out.below ((Below.refl _ _).alloc (Nat.le_refl _) (.cells #[.int .i64 xv, .bool fv, .slice Av nv cv] 27)))
        replace HSb := Lib.hid (HSb.out.keep (keeps_alloc w114 (.cells #[.int .i64 xv, .bool fv, .slice Av nv cv] 27)))
        replace HVb := Lib.hid (HVb.out.alloc (.cells #[.int .i64 xv, .bool fv, .slice Av nv cv] 27))
        replace HSu := Lib.hid (HSu.out.keep (keeps_alloc w114 (.cells #[.int .i64 xv, .bool fv, .slice Av nv cv] 27)))
        replace HVu := Lib.hid (HVu.out.alloc (.cells #[.int .i64 xv, .bool fv, .slice Av nv cv] 27))
        replace HSv := Lib.hid (HSv.out.keep (keeps_alloc w114 (.cells #[.int .i64 xv, .bool fv, .slice Av nv cv] 27)))
        have HVv := Lib.hid (Blk.new w114 27 #[.int .i64 xv, .bool fv, .slice Av nv cv])
        obtain ⟨Vv, HXv⟩ : ∃ z, Hid (w114.heap.size = z) := ⟨_, rfl⟩
        rw [HXv.out] at HVv
        replace hB := hB.alloc hB.size (.cells #[.int .i64 xv, .bool fv, .slice Av nv cv] 27)
        replace hc := hc.below ((Below.refl _ _).alloc (Nat.le_refl _) (.cells #[.int .i64 xv, .bool fv, .slice Av nv cv] 27))
        go_upto_region 20 with fail
        rw [HXv.out]
        generalize hWW : (w114.alloc (.cells #[.int .i64 xv, .bool fv, .slice Av nv cv] 27)) = WW15 at *
        clear hWW
        have hsm : Sm ru := by rw [← Hru.out]; exact sm_lf _ _ _
        go_wp2_with fail
        refine (begun4_any _).mono ?_
        rintro e w16 ⟨rfl, hb16⟩
        replace HSb := Lib.hid (HSb.out.keep (keeps_of hb16))
        replace HVb := Lib.hid (HVb.out.below hb16)
        replace HSu := Lib.hid (HSu.out.keep (keeps_of hb16))
        replace HVu := Lib.hid (HVu.out.below hb16)
        replace HSv := Lib.hid (HSv.out.keep (keeps_of hb16))
        replace HVv := Lib.hid (HVv.out.below hb16)
        replace hB := Below.next hB hb16
        replace hc := hc.below hb16
        replace HCl := Lib.hid (HCl.out.below hb16)
        clear hb16
        have zu := HVu.out.cell
        have zv := HVv.out.cell
        go_wp2_with fail
        refine (fsame_any ru xu fu Au nu cu xv fv Av nv cv ru _ HSu.out HSv.out hsm hsm).mono ?_
        rintro e w117 ⟨rfl, hb17⟩
        rw [decide_eq_true rfl]
        replace HSb := Lib.hid (HSb.out.keep (keeps_of hb17))
        replace HVb := Lib.hid (HVb.out.below hb17)
        replace HSu := Lib.hid (HSu.out.keep (keeps_of hb17))
        replace HVu := Lib.hid (HVu.out.below hb17)
        replace HSv := Lib.hid (HSv.out.keep (keeps_of hb17))
        replace HVv := Lib.hid (HVv.out.below hb17)
        replace hB := Below.next hB hb17
        replace hc := hc.below hb17
        replace HCl := Lib.hid (HCl.out.below hb17)
        clear hb17
        go_wp2
        go_ret
        exact ⟨rfl, hB⟩
end Go.Proofs.YtmnmckblmoalkaaGreat
