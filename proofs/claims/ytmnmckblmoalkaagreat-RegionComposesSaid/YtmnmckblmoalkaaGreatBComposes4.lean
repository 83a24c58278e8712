/-
  The walk of the law RegionComposes.
-/
import Derived.Test.YtmnmckblmoalkaaGreatB48
import Derived.Test.YtmnmckblmoalkaaGreatB49
import Derived.Test.YtmnmckblmoalkaaGreatB47
set_option linter.unusedVariables false
namespace Go.Proofs.YtmnmckblmoalkaaGreat
open Go.RowKit
set_option maxRecDepth 100000
open Rg

set_option maxHeartbeats 8000000 in
theorem composes4_walk (A : Option Addr) (n c : Nat) (zs : List Int) (w : World) (hs : Sl 1 u8c w A n zs) (hz : ∀ z ∈ zs, 0 ≤ z ∧ z ≤ 255) (hnil : A = none → n = 0 ∧ c = 0) (hsp : ∀ ad, A = some ad → ad.spot = none) (hnc : n ≤ c) (hcm : c ≤ 9223372036854775807) :
    Calls Tryz.prog 3 #[.slice A n c] w fun e w' => e = .returned (.bool true) ∧ Below w.heap.size w w' := by
  have HS := Lib.hid hs
  have HZ := Lib.hid hz
  have HN := Lib.hid hnil
  have HP := Lib.hid hsp
  clear hs hz hnil hsp
  go_enter Tryz.func3, Tryz.ntmps3
  go_wp2_with fail
  refine (new_any A n c zs 160 _ HS.out HZ.out HN.out HP.out hnc hcm (by omega)).mono ?_
  rintro e w0 ⟨g, hg, rfl, hc, hB⟩
  clear HS HZ HN HP
  go_wp2_with fail
  refine (int_any g 3 _ hc (by omega) (by omega)).mono ?_
  rintro e w1 ⟨⟨y, hy1, hy2, rfl⟩, hc1, hb1⟩
  replace hB := hb1.below hB hB.size (fun k hk => by subst hk; exact hg)
  replace hc := hc1
  clear hb1
  obtain ⟨wd, hwd1, hwd2, hwd⟩ : ∃ wd : Nat, 1 ≤ wd ∧ wd ≤ 3 ∧ 1 + y = (wd : Int) := ⟨(1 + y).toNat, by omega, by omega, by omega⟩
  have hw1 : wd ≤ 3 := by omega
  go_wp2_with fail
  refine (cregion_any g wd (by omega) _ hc).mono ?_
  rintro e w2 ⟨xa, fa, Aa, na, ca, ra, rfl, hSa, hOa, hWa, hFa, hc2, hb2⟩
  have hxa := hSa.hw
  obtain rfl : xa = (wd : Int) := by omega
  clear hxa
  replace hB := hb2.below hB hB.size (fun k hk => by subst hk; exact hg)
  replace hc := hc2
  have HSa := Lib.hid hSa
  have HKa := Lib.hid (And.intro hOa (And.intro hWa hFa))
  clear hb2 hSa hOa hWa hFa
  replace HSa := Lib.hid (HSa.out.keep (keeps_alloc w2 (.cells #[.int .i64 (wd : Int), .bool fa, .slice Aa na ca] 27)))
  have HVa := Lib.hid (Blk.new w2 27 #[.int .i64 (wd : Int), .bool fa, .slice Aa na ca])
  obtain ⟨Va, HXa⟩ : ∃ z, Hid (w2.heap.size = z) := ⟨_, rfl⟩
  rw [HXa.out] at HVa
  replace hB := hB.alloc hB.size (.cells #[.int .i64 (wd : Int), .bool fa, .slice Aa na ca] 27)
  replace hc := hc.below ((Below.refl _ _).alloc (Nat.le_refl _) (.cells #[.int .i64 (wd : Int), .bool fa, .slice Aa na ca] 27))
  go_upto_region 3 with fail
  rw [HXa.out]
  generalize hWW : (w2.alloc (.cells #[.int .i64 (wd : Int), .bool fa, .slice Aa na ca] 27)) = WW3 at *
  clear hWW
  clear hwd hy1 hy2 hwd2
  have za := HVa.out.cell
  go_wp2_with fail
  refine (gcolsJ_any w.heap.size g wd (by omega) _ hc).mono ?_
  rintro e w4 ⟨Al, nl, cl, csl, rfl, hnl, hcl, hdl, hnl2, hc4, hb4⟩
  clear za
  replace HSa := Lib.hid (HSa.out.case hc hb4)
  replace HVa := Lib.hid (HVa.out.but hb4 (hc.ne HVa.out (by decide)))
  replace hB := hb4.below hB hB.size (fun k hk => by subst hk; exact hg)
  replace hc := hc4
  have HCll := Lib.hid hcl
  have HDl := Lib.hid hdl
  have HLl : Hid (nl = csl.length ∧ nl ≤ 3) := Lib.hid ⟨hnl, by omega⟩
  clear hnl hcl hdl hnl2 hc4 hb4
  have hl3 := HLl.out.2
  go_wp2_with fail
  refine (gcolsJ_any w.heap.size g nl (by omega) _ hc).mono ?_
  rintro e w5 ⟨Am, nm, cm, csm, rfl, hnl, hcl, hdl, hnl2, hc5, hb5⟩
  replace HSa := Lib.hid (HSa.out.case hc hb5)
  replace HVa := Lib.hid (HVa.out.but hb5 (hc.ne HVa.out (by decide)))
  replace hB := hb5.below hB hB.size (fun k hk => by subst hk; exact hg)
  replace HCll := Lib.hid (HCll.out.case hb5)
  replace hc := hc5
  have HClm := Lib.hid hcl
  have HDm := Lib.hid hdl
  have HLm : Hid (nm = csm.length ∧ nm ≤ 3) := Lib.hid ⟨hnl, by omega⟩
  clear hnl hcl hdl hnl2 hc5 hb5
  have hm3 := HLm.out.2
  clear hc
  have HDm2 : Hid (dstB (csl.length : Int) csm = true) := Lib.hid (by have h := HDm.out; rw [HLl.out.1] at h; exact h)
  clear HDm
  obtain ⟨i0, hi, hz0, hz1, hz2⟩ := info_parts info_i64
  go_upto_region 6 with fail
  obtain ⟨WL, HWL⟩ : ∃ z, Hid (w5 = z) := ⟨_, rfl⟩
  go_wp2_with fail
  go_loopw [7, 33] (fun o i wr => ∃ (k : Nat) (A : Option Addr) (c : Nat), k ≤ nm ∧ i = .int .i64 (k : Int) ∧ o = .slice A k c ∧ Hid (wr.ownsRow w5.heap.size 3 1 (.slice A k c) k ((pickC csl (csm.take k)).flatMap i64c)) ∧ Hid (Below w5.heap.size w5 wr)) (fun _ i _ => nm - (intOf i).toNat)
  case atStart => exact ⟨0, none, 0, by omega, rfl, rfl, Lib.hid ⟨by simp [pickC], .inl ⟨rfl, rfl⟩⟩, Lib.hid (Below.refl _ _)⟩
  case round =>
    obtain ⟨k, An, cn, hk, rfl, rfl, HO, HM⟩ := hrel
    by_cases hlt : k < nm
    · have HSl := Lib.hid (HCll.out.sl.keep (keeps_of HM.out))
      have HSm := Lib.hid (HClm.out.sl.keep (keeps_of HM.out))
      obtain ⟨bm, om, d, rfl, hd, hdc⟩ := HSm.out.at hlt
      have dm := hdc 0 _ rfl
      simp only [Nat.mul_one, Nat.add_zero] at dm
      obtain ⟨j, rfl, hj⟩ := dst_at HDm2.out hd
      obtain ⟨bl, ol, x, rfl, hx, hxc⟩ := HSl.out.at (show j < nl by have := HLl.out.1; omega)
      have dl := hxc 0 _ rfl
      simp only [Nat.mul_one, Nat.add_zero] at dl
      have Ht := Lib.hid (take_snocI hd)
      have Hx := Lib.hid hx
      have hjl : j < nl := by have := HLl.out.1; omega
      have hsz : w5.heap.size ≤ wr.heap.size := HM.out.size
      clear hd hdc hx hxc hj
      go_wp2_with (at_builtin; refine wpList_append_one2 (by rfl) (.tmp 37) (.tmp 42) _ (by rfl) w5.heap.size 3 i0 _ 1 8 Tryz.underlying30 hi hz0 hz1 hz2 (by rfl) (by omega) (.slice An k cn) k _ (by rfl) wr #[.int .i64 x] HO.out wr.heap.size (by rfl) (by rfl) (by rfl) (one_i64 x) (by simp only [maxLen]; omega) (by omega) hsz ?_; intro g6 cap6 w6 hown6 hg6 hB6 hat6 hlt6)
      go_roundw
      case rel =>
        refine ⟨k + 1, some ⟨g6, 0, none⟩, cap6, by omega, by go_num, rfl, Lib.hid ?_, Lib.hid (below_then HM.out hB6 (Nat.le_refl _))⟩
        rw [Ht.out]
        have e : pickC csl (csm.take k ++ [(j : Int)]) = pickC csl (csm.take k) ++ [x] := by simp [pickC, List.getD_eq_getElem?_getD, Hx.out]
        rw [e, List.flatMap_append]
        exact hown6
      case measure => simp [intOf]; omega
    · obtain rfl : nm = k := by omega
      have hcut : pickC csl (csm.take nm) = pickC csl csm := by rw [HLm.out.1, List.take_length]
      have HOn : Hid (ClS wr An nm (pickC csl csm)) := Lib.hid (by have h := HO.out; rw [hcut] at h; exact Sl.of_own i64c_len (by rw [HLm.out.1]; simp [pickC]) h)
      clear HO hcut
      replace HSa := Lib.hid (HSa.out.keep (keeps_of HM.out))
      replace HVa := Lib.hid (HVa.out.below HM.out)
      replace HCll := Lib.hid (HCll.out.below HM.out)
      replace HClm := Lib.hid (HClm.out.below HM.out)
      replace hB := Below.next hB HM.out
      clear HM HWL
      have za := HVa.out.cell
      go_wp2_with fail
      refine (gproject_any ra (wd : Int) fa Aa na ca Al nl cl csl _ HSa.out HKa.out.2.2 HCll.out.sl).mono ?_
      rintro e w106 ⟨xx, fx, Ax, nx, cx, rfl, hSx, hb6⟩
      obtain ⟨ex, Hex⟩ : ∃ z, Hid (pjE ra csl = z) := ⟨_, rfl⟩
      obtain ⟨rx, Hrx⟩ : ∃ z, Hid (pjR ra csl = z) := ⟨_, rfl⟩
      rw [Hex.out]
      rw [Hrx.out] at hSx
      clear za
      replace HSa := Lib.hid (HSa.out.keep (keeps_of hb6))
      replace HVa := Lib.hid (HVa.out.below hb6)
      replace hB := Below.next hB hb6
      replace HCll := Lib.hid (HCll.out.below hb6)
      replace HClm := Lib.hid (HClm.out.below hb6)
      replace HOn := Lib.hid (HOn.out.keep (keeps_of hb6))
      have HSx := Lib.hid hSx
      clear hSx hb6
      replace HCll := Lib.hid (HCll.out.below ((Below.refl _ _).alloc (Nat.le_refl _) (.cells #[.int .i64 xx, .bool fx, .slice Ax nx cx] 27)))
      replace HClm := Lib.hid (HClm.out.below ((Below.refl _ _).alloc (Nat.le_refl _) (.cells #[.int .i64 xx, .bool fx, .slice Ax nx cx] 27)))
      replace HOn := Lib.hid (HOn.out.keep (keeps_alloc _ (.cells #[.int .i64 xx, .bool fx, .slice Ax nx cx] 27)))
      replace HSa := Lib.hid (HSa.out.keep (keeps_alloc w106 (.cells #[.int .i64 xx, .bool fx, .slice Ax nx cx] 27)))
      replace HVa := Lib.hid (HVa.out.alloc (.cells #[.int .i64 xx, .bool fx, .slice Ax nx cx] 27))
      replace HSx := Lib.hid (HSx.out.keep (keeps_alloc w106 (.cells #[.int .i64 xx, .bool fx, .slice Ax nx cx] 27)))
      have HVx := Lib.hid (Blk.new w106 27 #[.int .i64 xx, .bool fx, .slice Ax nx cx])
      obtain ⟨Vx, HXx⟩ : ∃ z, Hid (w106.heap.size = z) := ⟨_, rfl⟩
      rw [HXx.out] at HVx
      replace hB := hB.alloc hB.size (.cells #[.int .i64 xx, .bool fx, .slice Ax nx cx] 27)
      go_upto_region 12 with fail
      rw [HXx.out]
      generalize hWW : (w106.alloc (.cells #[.int .i64 xx, .bool fx, .slice Ax nx cx] 27)) = WW7 at *
      clear hWW
      have za := HVa.out.cell
      go_wp2_with fail
      refine (gproject_any ra (wd : Int) fa Aa na ca An nm cn (pickC csl csm) _ HSa.out HKa.out.2.2 HOn.out).mono ?_
      rintro e w108 ⟨xz, fz, Az, nz, cz, rfl, hSz, hb8⟩
      obtain ⟨ez, Hez⟩ : ∃ z, Hid (pjE ra (pickC csl csm) = z) := ⟨_, rfl⟩
      obtain ⟨rz, Hrz⟩ : ∃ z, Hid (pjR ra (pickC csl csm) = z) := ⟨_, rfl⟩
      rw [Hez.out]
      rw [Hrz.out] at hSz
      clear za
      replace HSa := Lib.hid (HSa.out.keep (keeps_of hb8))
      replace HVa := Lib.hid (HVa.out.below hb8)
      replace HSx := Lib.hid (HSx.out.keep (keeps_of hb8))
      replace HVx := Lib.hid (HVx.out.below hb8)
      replace hB := Below.next hB hb8
      replace HCll := Lib.hid (HCll.out.below hb8)
      replace HClm := Lib.hid (HClm.out.below hb8)
      replace HOn := Lib.hid (HOn.out.keep (keeps_of hb8))
      have HSz := Lib.hid hSz
      clear hSz hb8
      replace HCll := Lib.hid (HCll.out.below ((Below.refl _ _).alloc (Nat.le_refl _) (.cells #[.int .i64 xz, .bool fz, .slice Az nz cz] 27)))
      replace HClm := Lib.hid (HClm.out.below ((Below.refl _ _).alloc (Nat.le_refl _) (.cells #[.int .i64 xz, .bool fz, .slice Az nz cz] 27)))
      replace HOn := Lib.hid (HOn.out.keep (keeps_alloc _ (.cells #[.int .i64 xz, .bool fz, .slice Az nz cz] 27)))
      replace HSa := Lib.hid (HSa.out.keep (keeps_alloc w108 (.cells #[.int .i64 xz, .bool fz, .slice Az nz cz] 27)))
      replace HVa := Lib.hid (HVa.out.alloc (.cells #[.int .i64 xz, .bool fz, .slice Az nz cz] 27))
      replace HSx := Lib.hid (HSx.out.keep (keeps_alloc w108 (.cells #[.int .i64 xz, .bool fz, .slice Az nz cz] 27)))
      replace HVx := Lib.hid (HVx.out.alloc (.cells #[.int .i64 xz, .bool fz, .slice Az nz cz] 27))
      replace HSz := Lib.hid (HSz.out.keep (keeps_alloc w108 (.cells #[.int .i64 xz, .bool fz, .slice Az nz cz] 27)))
      have HVz := Lib.hid (Blk.new w108 27 #[.int .i64 xz, .bool fz, .slice Az nz cz])
      obtain ⟨Vz, HXz⟩ : ∃ z, Hid (w108.heap.size = z) := ⟨_, rfl⟩
      rw [HXz.out] at HVz
      replace hB := hB.alloc hB.size (.cells #[.int .i64 xz, .bool fz, .slice Az nz cz] 27)
      go_upto_region 13 with fail
      rw [HXz.out]
      generalize hWW : (w108.alloc (.cells #[.int .i64 xz, .bool fz, .slice Az nz cz] 27)) = WW9 at *
      clear hWW
      have h1 := (pj_spec HKa.out.1 HKa.out.2.1 HDl.out).1
      have h2 := (pj_spec HKa.out.1 HKa.out.2.1 (pickC_dst HDl.out HDm2.out)).1
      rw [Hex.out] at h1
      rw [Hez.out] at h2
      by_cases hall : ex = 0 ∧ ez = 0
      · obtain ⟨rfl, rfl⟩ := hall
        clear h1 h2
        have HG := Lib.hid (composes_plain HKa.out.1 HKa.out.2.1 HDl.out HDm2.out Hex.out Hez.out)
        rw [Hrx.out, Hrz.out] at HG
        have HWx : Hid (WfR rx) := Lib.hid (by rw [← Hrx.out]; exact pj_wf HKa.out.2.2 _)
        have zx := HVx.out.cell
        go_wp2_with fail
        refine (gproject_any rx xx fx Ax nx cx Am nm cm csm _ HSx.out HWx.out HClm.out.sl).mono ?_
        rintro e w110 ⟨xy, fy, Ay, ny, cy, rfl, hSy, hb10⟩
        obtain ⟨ey, Hey⟩ : ∃ z, Hid (pjE rx csm = z) := ⟨_, rfl⟩
        obtain ⟨ry, Hry⟩ : ∃ z, Hid (pjR rx csm = z) := ⟨_, rfl⟩
        rw [Hey.out]
        rw [Hry.out] at hSy
        clear zx
        replace HSa := Lib.hid (HSa.out.keep (keeps_of hb10))
        replace HVa := Lib.hid (HVa.out.below hb10)
        replace HSx := Lib.hid (HSx.out.keep (keeps_of hb10))
        replace HVx := Lib.hid (HVx.out.below hb10)
        replace HSz := Lib.hid (HSz.out.keep (keeps_of hb10))
        replace HVz := Lib.hid (HVz.out.below hb10)
        replace hB := Below.next hB hb10
        replace HCll := Lib.hid (HCll.out.below hb10)
        replace HClm := Lib.hid (HClm.out.below hb10)
        replace HOn := Lib.hid (HOn.out.keep (keeps_of hb10))
        have HSy := Lib.hid hSy
        clear hSy hb10
        replace HCll := Lib.hid (HCll.out.below ((Below.refl _ _).alloc (Nat.le_refl _) (.cells #[.int .i64 xy, .bool fy, .slice Ay ny cy] 27)))
        replace HClm := Lib.hid (HClm.out.below ((Below.refl _ _).alloc (Nat.le_refl _) (.cells #[.int .i64 xy, .bool fy, .slice Ay ny cy] 27)))
        replace HOn := Lib.hid (HOn.out.keep (keeps_alloc _ (.cells #[.int .i64 xy, .bool fy, .slice Ay ny cy] 27)))
        replace HSa := Lib.hid (HSa.out.keep (keeps_alloc w110 (.cells #[.int .i64 xy, .bool fy, .slice Ay ny cy] 27)))
        replace HVa := Lib.hid (HVa.out.alloc (.cells #[.int .i64 xy, .bool fy, .slice Ay ny cy] 27))
        replace HSx := Lib.hid (HSx.out.keep (keeps_alloc w110 (.cells #[.int .i64 xy, .bool fy, .slice Ay ny cy] 27)))
        replace HVx := Lib.hid (HVx.out.alloc (.cells #[.int .i64 xy, .bool fy, .slice Ay ny cy] 27))
        replace HSz := Lib.hid (HSz.out.keep (keeps_alloc w110 (.cells #[.int .i64 xy, .bool fy, .slice Ay ny cy] 27)))
        replace HVz := Lib.hid (HVz.out.alloc (.cells #[.int .i64 xy, .bool fy, .slice Ay ny cy] 27))
        replace HSy := Lib.hid (HSy.out.keep (keeps_alloc w110 (.cells #[.int .i64 xy, .bool fy, .slice Ay ny cy] 27)))
        have HVy := Lib.hid (Blk.new w110 27 #[.int .i64 xy, .bool fy, .slice Ay ny cy])
        obtain ⟨Vy, HXy⟩ : ∃ z, Hid (w110.heap.size = z) := ⟨_, rfl⟩
        rw [HXy.out] at HVy
        replace hB := hB.alloc hB.size (.cells #[.int .i64 xy, .bool fy, .slice Ay ny cy] 27)
        go_upto_region 16 with fail
        rw [HXy.out]
        generalize hWW : (w110.alloc (.cells #[.int .i64 xy, .bool fy, .slice Ay ny cy] 27)) = WW11 at *
        clear hWW
        rw [Hry.out, Hey.out] at HG
        go_wp2_with fail
        refine (begun4_any _).mono ?_
        rintro e w12 ⟨rfl, hb12⟩
        replace HSa := Lib.hid (HSa.out.keep (keeps_of hb12))
        replace HVa := Lib.hid (HVa.out.below hb12)
        replace HSx := Lib.hid (HSx.out.keep (keeps_of hb12))
        replace HVx := Lib.hid (HVx.out.below hb12)
        replace HSz := Lib.hid (HSz.out.keep (keeps_of hb12))
        replace HVz := Lib.hid (HVz.out.below hb12)
        replace HSy := Lib.hid (HSy.out.keep (keeps_of hb12))
        replace HVy := Lib.hid (HVy.out.below hb12)
        replace hB := Below.next hB hb12
        replace HCll := Lib.hid (HCll.out.below hb12)
        replace HClm := Lib.hid (HClm.out.below hb12)
        replace HOn := Lib.hid (HOn.out.keep (keeps_of hb12))
        clear hb12
        rcases HG.out with h | ⟨h, h5⟩
        · subst h
          go_wp2
          go_ret
          exact ⟨rfl, hB⟩
        · subst h
          have H5 := Lib.hid h5
          clear h5
          have zy := HVy.out.cell
          have zz := HVz.out.cell
          go_wp2_with fail
          refine (gequal_any ry xy fy Ay ny cy rz xz fz Az nz cz _ HSy.out HSz.out).mono ?_
          rintro e w13 ⟨rfl, hb13⟩
          rw [H5.out]
          clear zy zz
          replace HSa := Lib.hid (HSa.out.keep (keeps_of hb13))
          replace HVa := Lib.hid (HVa.out.below hb13)
          replace HSx := Lib.hid (HSx.out.keep (keeps_of hb13))
          replace HVx := Lib.hid (HVx.out.below hb13)
          replace HSz := Lib.hid (HSz.out.keep (keeps_of hb13))
          replace HVz := Lib.hid (HVz.out.below hb13)
          replace HSy := Lib.hid (HSy.out.keep (keeps_of hb13))
          replace HVy := Lib.hid (HVy.out.below hb13)
          replace hB := Below.next hB hb13
          replace HCll := Lib.hid (HCll.out.below hb13)
          replace HClm := Lib.hid (HClm.out.below hb13)
          replace HOn := Lib.hid (HOn.out.keep (keeps_of hb13))
          clear hb13
          go_wp2
          go_ret
          exact ⟨rfl, hB⟩
      · rcases h1 with rfl | rfl <;> rcases h2 with rfl | rfl <;> first | exact absurd ⟨rfl, rfl⟩ hall | skip
        all_goals
          clear hall
          go_wp2_with fail
          refine (begun4_any _).mono ?_
          rintro e w99 ⟨rfl, hb99⟩
          replace hB := Below.next hB hb99
          clear hb99
          go_wp2
          go_ret
          exact ⟨rfl, hB⟩
end Go.Proofs.YtmnmckblmoalkaaGreat
