/-
  The walk of the law RegionMorgan.
-/
import Derived.Test.YtnocbigcdjlliaaGreatB44
import Derived.Test.YtnocbigcdjlliaaGreatB45
set_option linter.unusedVariables false
namespace Go.Proofs.YtnocbigcdjlliaaGreat
open Go.RowKit
set_option maxRecDepth 100000
open Rg

set_option maxHeartbeats 8000000 in
theorem morgan_walk (A : Option Addr) (n c : Nat) (zs : List Int) (w : World) (hs : Sl 1 u8c w A n zs) (hz : ∀ z ∈ zs, 0 ≤ z ∧ z ≤ 255) (hnil : A = none → n = 0 ∧ c = 0) (hsp : ∀ ad, A = some ad → ad.spot = none) (hnc : n ≤ c) (hcm : c ≤ 9223372036854775807) :
    Calls Tryz.prog 5 #[.slice A n c] w fun e w' => e = .returned (.bool true) ∧ Below w.heap.size w w' := by
  have HS := Lib.hid hs
  have HZ := Lib.hid hz
  have HN := Lib.hid hnil
  have HP := Lib.hid hsp
  clear hs hz hnil hsp
  go_enter Tryz.func5, Tryz.ntmps5
  go_wp2_with fail
  refine (new_any A n c zs 160 _ HS.out HZ.out HN.out HP.out hnc hcm (by omega)).mono ?_
  rintro e w0 ⟨g, hg, rfl, hc, hB⟩
  clear HS HZ HN HP
  go_wp2_with fail
  refine (int_any g 3 _ hc (by omega) (by omega)).mono ?_
  rintro e w1 ⟨⟨y, hy1, hy2, rfl⟩, hc1, hb1⟩
  replace hB := hb1.below hB hB.size (fun k hk => by subst hk; exact hg)
  replace hc := hc1
  clear hb1
  obtain ⟨wd, hwd1, hwd2, hwd⟩ : ∃ wd : Nat, 1 ≤ wd ∧ wd ≤ 3 ∧ 1 + y = (wd : Int) := ⟨(1 + y).toNat, by omega, by omega, by omega⟩
  go_wp2_with fail
  refine (cregion_any g wd (by omega) _ hc).mono ?_
  rintro e w2 ⟨xa, fa, Aa, na, ca, ra, rfl, hSa, hOa, hWa, hFa, hc2, hb2⟩
  replace hB := hb2.below hB hB.size (fun k hk => by subst hk; exact hg)
  replace hc := hc2
  have HSa := Lib.hid hSa
  have HKa := Lib.hid (And.intro hOa (And.intro hWa hFa))
  clear hb2 hSa hOa hWa hFa
  go_wp2_with fail
  refine (cregion_any g wd (by omega) _ hc).mono ?_
  rintro e w3 ⟨xb, fb, Ab, nb, cb, rb, rfl, hSb, hOb, hWb, hFb, hc3, hb3⟩
  replace HSa := Lib.hid (HSa.out.case hc hb3)
  replace hB := hb3.below hB hB.size (fun k hk => by subst hk; exact hg)
  replace hc := hc3
  have HSb := Lib.hid hSb
  have HKb := Lib.hid (And.intro hOb (And.intro hWb hFb))
  clear hb3 hSb hOb hWb hFb
  replace HSa := Lib.hid (HSa.out.keep (keeps_alloc w3 (.cells #[.int .i64 xa, .bool fa, .slice Aa na ca] 28)))
  replace HSb := Lib.hid (HSb.out.keep (keeps_alloc w3 (.cells #[.int .i64 xa, .bool fa, .slice Aa na ca] 28)))
  have HVa := Lib.hid (Blk.new w3 28 #[.int .i64 xa, .bool fa, .slice Aa na ca])
  obtain ⟨Va, HXa⟩ : ∃ z, Hid (w3.heap.size = z) := ⟨_, rfl⟩
  rw [HXa.out] at HVa
  replace hB := hB.alloc hB.size (.cells #[.int .i64 xa, .bool fa, .slice Aa na ca] 28)
  replace hc := hc.below ((Below.refl _ _).alloc (Nat.le_refl _) (.cells #[.int .i64 xa, .bool fa, .slice Aa na ca] 28))
  replace HSa := Lib.hid (HSa.out.keep (keeps_alloc (w3.alloc (.cells #[.int .i64 xa, .bool fa, .slice Aa na ca] 28)) (.cells #[.int .i64 xb, .bool fb, .slice Ab nb cb] 28)))
  replace HVa := Lib.hid (HVa.out.alloc (.cells #[.int .i64 xb, .bool fb, .slice Ab nb cb] 28))
  replace HSb := Lib.hid (HSb.out.keep (keeps_alloc (w3.alloc (.cells #[.int .i64 xa, .bool fa, .slice Aa na ca] 28)) (.cells #[.int .i64 xb, .bool fb, .slice Ab nb cb] 28)))
  have HVb := Lib.hid (Blk.new (w3.alloc (.cells #[.int .i64 xa, .bool fa, .slice Aa na ca] 28)) 28 #[.int .i64 xb, .bool fb, .slice Ab nb cb])
  obtain ⟨Vb, HXb⟩ : ∃ z, Hid (Va + 1 = z) := ⟨_, rfl⟩
  rw [World.size_alloc, HXa.out, HXb.out] at HVb
  replace hB := hB.alloc hB.size (.cells #[.int .i64 xb, .bool fb, .slice Ab nb cb] 28)
  replace hc := hc.below ((Below.refl _ _).alloc (Nat.le_refl _) (.cells #[.int .i64 xb, .bool fb, .slice Ab nb cb] 28))
  go_upto_region 4 with fail
  rw [HXa.out]
  rw [HXb.out]
  generalize hWW : ((w3.alloc (.cells #[.int .i64 xa, .bool fa, .slice Aa na ca] 28)).alloc (.cells #[.int .i64 xb, .bool fb, .slice Ab nb cb] 28)) = WW4 at *
  clear hWW
  clear hc
  clear hwd hy1 hy2
  have za := HVa.out.cell
  have zb := HVb.out.cell
  go_wp2_with fail
  refine (gunion_any ra xa fa Aa na ca rb xb fb Ab nb cb _ HSa.out HSb.out HKa.out.2.2 HKb.out.2.2).mono ?_
  rintro e w5 ⟨xu, fu, Au, nu, cu, rfl, hSu, hb5⟩
  obtain ⟨eu, Heu⟩ : ∃ z, Hid (opErr opUr ra rb = z) := ⟨_, rfl⟩
  rw [Heu.out]
  obtain ⟨ru, Hru⟩ : ∃ z, Hid (opRes opUr ra rb = z) := ⟨_, rfl⟩
  rw [Hru.out] at hSu
  clear za zb
  replace HSa := Lib.hid (HSa.out.keep (keeps_of hb5))
  replace HVa := Lib.hid (HVa.out.below hb5)
  replace HSb := Lib.hid (HSb.out.keep (keeps_of hb5))
  replace HVb := Lib.hid (HVb.out.below hb5)
  replace hB := Below.next hB hb5
  have HSu := Lib.hid hSu
  clear hSu hb5
  replace HSa := Lib.hid (HSa.out.keep (keeps_alloc w5 (.cells #[.int .i64 xu, .bool fu, .slice Au nu cu] 28)))
  replace HVa := Lib.hid (HVa.out.alloc (.cells #[.int .i64 xu, .bool fu, .slice Au nu cu] 28))
  replace HSb := Lib.hid (HSb.out.keep (keeps_alloc w5 (.cells #[.int .i64 xu, .bool fu, .slice Au nu cu] 28)))
  replace HVb := Lib.hid (HVb.out.alloc (.cells #[.int .i64 xu, .bool fu, .slice Au nu cu] 28))
  replace HSu := Lib.hid (HSu.out.keep (keeps_alloc w5 (.cells #[.int .i64 xu, .bool fu, .slice Au nu cu] 28)))
  have HVu := Lib.hid (Blk.new w5 28 #[.int .i64 xu, .bool fu, .slice Au nu cu])
  obtain ⟨Vu, HXu⟩ : ∃ z, Hid (w5.heap.size = z) := ⟨_, rfl⟩
  rw [HXu.out] at HVu
  replace hB := hB.alloc hB.size (.cells #[.int .i64 xu, .bool fu, .slice Au nu cu] 28)
  go_upto_region 5 with fail
  rw [HXu.out]
  generalize hWW : (w5.alloc (.cells #[.int .i64 xu, .bool fu, .slice Au nu cu] 28)) = WW6 at *
  clear hWW
  have za := HVa.out.cell
  go_wp2_with fail
  refine (gcomplement_any ra xa fa Aa na ca _ HSa.out HKa.out.2.2).mono ?_
  rintro e w7 ⟨xx, fx, Ax, nx, cx, rfl, hSx, hb7⟩
  obtain ⟨ex, Hex⟩ : ∃ z, Hid (cpErr ra = z) := ⟨_, rfl⟩
  rw [Hex.out]
  obtain ⟨rx, Hrx⟩ : ∃ z, Hid (cpRes ra = z) := ⟨_, rfl⟩
  rw [Hrx.out] at hSx
  clear za
  replace HSa := Lib.hid (HSa.out.keep (keeps_of hb7))
  replace HVa := Lib.hid (HVa.out.below hb7)
  replace HSb := Lib.hid (HSb.out.keep (keeps_of hb7))
  replace HVb := Lib.hid (HVb.out.below hb7)
  replace HSu := Lib.hid (HSu.out.keep (keeps_of hb7))
  replace HVu := Lib.hid (HVu.out.below hb7)
  replace hB := Below.next hB hb7
  have HSx := Lib.hid hSx
  clear hSx hb7
  replace HSa := Lib.hid (HSa.out.keep (keeps_alloc w7 (.cells #[.int .i64 xx, .bool fx, .slice Ax nx cx] 28)))
  replace HVa := Lib.hid (HVa.out.alloc (.cells #[.int .i64 xx, .bool fx, .slice Ax nx cx] 28))
  replace HSb := Lib.hid (HSb.out.keep (keeps_alloc w7 (.cells #[.int .i64 xx, .bool fx, .slice Ax nx cx] 28)))
  replace HVb := Lib.hid (HVb.out.alloc (.cells #[.int .i64 xx, .bool fx, .slice Ax nx cx] 28))
  replace HSu := Lib.hid (HSu.out.keep (keeps_alloc w7 (.cells #[.int .i64 xx, .bool fx, .slice Ax nx cx] 28)))
  replace HVu := Lib.hid (HVu.out.alloc (.cells #[.int .i64 xx, .bool fx, .slice Ax nx cx] 28))
  replace HSx := Lib.hid (HSx.out.keep (keeps_alloc w7 (.cells #[.int .i64 xx, .bool fx, .slice Ax nx cx] 28)))
  have HVx := Lib.hid (Blk.new w7 28 #[.int .i64 xx, .bool fx, .slice Ax nx cx])
  obtain ⟨Vx, HXx⟩ : ∃ z, Hid (w7.heap.size = z) := ⟨_, rfl⟩
  rw [HXx.out] at HVx
  replace hB := hB.alloc hB.size (.cells #[.int .i64 xx, .bool fx, .slice Ax nx cx] 28)
  go_upto_region 6 with fail
  rw [HXx.out]
  generalize hWW : (w7.alloc (.cells #[.int .i64 xx, .bool fx, .slice Ax nx cx] 28)) = WW8 at *
  clear hWW
  have zb := HVb.out.cell
  go_wp2_with fail
  refine (gcomplement_any rb xb fb Ab nb cb _ HSb.out HKb.out.2.2).mono ?_
  rintro e w9 ⟨xy, fy, Ay, ny, cy, rfl, hSy, hb9⟩
  obtain ⟨ey, Hey⟩ : ∃ z, Hid (cpErr rb = z) := ⟨_, rfl⟩
  rw [Hey.out]
  obtain ⟨ry, Hry⟩ : ∃ z, Hid (cpRes rb = z) := ⟨_, rfl⟩
  rw [Hry.out] at hSy
  clear zb
  replace HSa := Lib.hid (HSa.out.keep (keeps_of hb9))
  replace HVa := Lib.hid (HVa.out.below hb9)
  replace HSb := Lib.hid (HSb.out.keep (keeps_of hb9))
  replace HVb := Lib.hid (HVb.out.below hb9)
  replace HSu := Lib.hid (HSu.out.keep (keeps_of hb9))
  replace HVu := Lib.hid (HVu.out.below hb9)
  replace HSx := Lib.hid (HSx.out.keep (keeps_of hb9))
  replace HVx := Lib.hid (HVx.out.below hb9)
  replace hB := Below.next hB hb9
  have HSy := Lib.hid hSy
  clear hSy hb9
  replace HSa := Lib.hid (HSa.out.keep (keeps_alloc w9 (.cells #[.int .i64 xy, .bool fy, .slice Ay ny cy] 28)))
  replace HVa := Lib.hid (HVa.out.alloc (.cells #[.int .i64 xy, .bool fy, .slice Ay ny cy] 28))
  replace HSb := Lib.hid (HSb.out.keep (keeps_alloc w9 (.cells #[.int .i64 xy, .bool fy, .slice Ay ny cy] 28)))
  replace HVb := Lib.hid (HVb.out.alloc (.cells #[.int .i64 xy, .bool fy, .slice Ay ny cy] 28))
  replace HSu := Lib.hid (HSu.out.keep (keeps_alloc w9 (.cells #[.int .i64 xy, .bool fy, .slice Ay ny cy] 28)))
  replace HVu := Lib.hid (HVu.out.alloc (.cells #[.int .i64 xy, .bool fy, .slice Ay ny cy] 28))
  replace HSx := Lib.hid (HSx.out.keep (keeps_alloc w9 (.cells #[.int .i64 xy, .bool fy, .slice Ay ny cy] 28)))
  replace HVx := Lib.hid (HVx.out.alloc (.cells #[.int .i64 xy, .bool fy, .slice Ay ny cy] 28))
  replace HSy := Lib.hid (HSy.out.keep (keeps_alloc w9 (.cells #[.int .i64 xy, .bool fy, .slice Ay ny cy] 28)))
  have HVy := Lib.hid (Blk.new w9 28 #[.int .i64 xy, .bool fy, .slice Ay ny cy])
  obtain ⟨Vy, HXy⟩ : ∃ z, Hid (w9.heap.size = z) := ⟨_, rfl⟩
  rw [HXy.out] at HVy
  replace hB := hB.alloc hB.size (.cells #[.int .i64 xy, .bool fy, .slice Ay ny cy] 28)
  go_upto_region 7 with fail
  rw [HXy.out]
  generalize hWW : (w9.alloc (.cells #[.int .i64 xy, .bool fy, .slice Ay ny cy] 28)) = WW10 at *
  clear hWW
  by_cases hall : eu = 0 ∧ ex = 0 ∧ ey = 0
  · obtain ⟨rfl, rfl, rfl⟩ := hall
    have HM := Lib.hid (morgan_plain HKa.out.1 HKa.out.2.1 HKb.out.1 HKb.out.2.1 Heu.out Hex.out Hey.out)
    rw [Hru.out, Hrx.out, Hry.out] at HM
    have HWu : Hid (WfR ru ∧ WfR rx ∧ WfR ry) := by
      refine Lib.hid ⟨by rw [← Hru.out]; exact op_wf HKa.out.2.2 HKb.out.2.2, ?_, ?_⟩
      · rw [← Hrx.out]; exact cp_wf HKa.out.2.2
      · rw [← Hry.out]; exact cp_wf HKb.out.2.2
    have zu := HVu.out.cell
    go_wp2_with fail
    refine (gcomplement_any ru xu fu Au nu cu _ HSu.out HWu.out.1).mono ?_
    rintro e w11 ⟨xp, fp, Ap, np, cp, rfl, hSp, hb11⟩
    obtain ⟨ep, Hep⟩ : ∃ z, Hid (cpErr ru = z) := ⟨_, rfl⟩
    rw [Hep.out]
    obtain ⟨rp, Hrp⟩ : ∃ z, Hid (cpRes ru = z) := ⟨_, rfl⟩
    rw [Hrp.out] at hSp
    clear zu
    replace HSa := Lib.hid (HSa.out.keep (keeps_of hb11))
    replace HVa := Lib.hid (HVa.out.below hb11)
    replace HSb := Lib.hid (HSb.out.keep (keeps_of hb11))
    replace HVb := Lib.hid (HVb.out.below hb11)
    replace HSu := Lib.hid (HSu.out.keep (keeps_of hb11))
    replace HVu := Lib.hid (HVu.out.below hb11)
    replace HSx := Lib.hid (HSx.out.keep (keeps_of hb11))
    replace HVx := Lib.hid (HVx.out.below hb11)
    replace HSy := Lib.hid (HSy.out.keep (keeps_of hb11))
    replace HVy := Lib.hid (HVy.out.below hb11)
    replace hB := Below.next hB hb11
    have HSp := Lib.hid hSp
    clear hSp hb11
    replace HSa := Lib.hid (HSa.out.keep (keeps_alloc w11 (.cells #[.int .i64 xp, .bool fp, .slice Ap np cp] 28)))
    replace HVa := Lib.hid (HVa.out.alloc (.cells #[.int .i64 xp, .bool fp, .slice Ap np cp] 28))
    replace HSb := Lib.hid (HSb.out.keep (keeps_alloc w11 (.cells #[.int .i64 xp, .bool fp, .slice Ap np cp] 28)))
    replace HVb := Lib.hid (HVb.out.alloc (.cells #[.int .i64 xp, .bool fp, .slice Ap np cp] 28))
    replace HSu := Lib.hid (HSu.out.keep (keeps_alloc w11 (.cells #[.int .i64 xp, .bool fp, .slice Ap np cp] 28)))
    replace HVu := Lib.hid (HVu.out.alloc (.cells #[.int .i64 xp, .bool fp, .slice Ap np cp] 28))
    replace HSx := Lib.hid (HSx.out.keep (keeps_alloc w11 (.cells #[.int .i64 xp, .bool fp, .slice Ap np cp] 28)))
    replace HVx := Lib.hid (HVx.out.alloc (.cells #[.int .i64 xp, .bool fp, .slice Ap np cp] 28))
    replace HSy := Lib.hid (HSy.out.keep (keeps_alloc w11 (.cells #[.int .i64 xp, .bool fp, .slice Ap np cp] 28)))
    replace HVy := Lib.hid (HVy.out.alloc (.cells #[.int .i64 xp, .bool fp, .slice Ap np cp] 28))
    replace HSp := Lib.hid (HSp.out.keep (keeps_alloc w11 (.cells #[.int .i64 xp, .bool fp, .slice Ap np cp] 28)))
    have HVp := Lib.hid (Blk.new w11 28 #[.int .i64 xp, .bool fp, .slice Ap np cp])
    obtain ⟨Vp, HXp⟩ : ∃ z, Hid (w11.heap.size = z) := ⟨_, rfl⟩
    rw [HXp.out] at HVp
    replace hB := hB.alloc hB.size (.cells #[.int .i64 xp, .bool fp, .slice Ap np cp] 28)
    go_upto_region 10 with fail
    rw [HXp.out]
    generalize hWW : (w11.alloc (.cells #[.int .i64 xp, .bool fp, .slice Ap np cp] 28)) = WW12 at *
    clear hWW
    have zx := HVx.out.cell
    have zy := HVy.out.cell
    go_wp2_with fail
    refine (gintersect_any rx xx fx Ax nx cx ry xy fy Ay ny cy _ HSx.out HSy.out HWu.out.2.1 HWu.out.2.2).mono ?_
    rintro e w13 ⟨xq, fq, Aq, nq, cq, rfl, hSq, hb13⟩
    obtain ⟨eq, Heq⟩ : ∃ z, Hid (opErr opIr rx ry = z) := ⟨_, rfl⟩
    rw [Heq.out]
    obtain ⟨rq, Hrq⟩ : ∃ z, Hid (opRes opIr rx ry = z) := ⟨_, rfl⟩
    rw [Hrq.out] at hSq
    clear zx zy
    replace HSa := Lib.hid (HSa.out.keep (keeps_of hb13))
    replace HVa := Lib.hid (HVa.out.below hb13)
    replace HSb := Lib.hid (HSb.out.keep (keeps_of hb13))
    replace HVb := Lib.hid (HVb.out.below hb13)
    replace HSu := Lib.hid (HSu.out.keep (keeps_of hb13))
    replace HVu := Lib.hid (HVu.out.below hb13)
    replace HSx := Lib.hid (HSx.out.keep (keeps_of hb13))
    replace HVx := Lib.hid (HVx.out.below hb13)
    replace HSy := Lib.hid (HSy.out.keep (keeps_of hb13))
    replace HVy := Lib.hid (HVy.out.below hb13)
    replace HSp := Lib.hid (HSp.out.keep (keeps_of hb13))
    replace HVp := Lib.hid (HVp.out.below hb13)
    replace hB := Below.next hB hb13
    have HSq := Lib.hid hSq
    clear hSq hb13
    replace HSa := Lib.hid (HSa.out.keep (keeps_alloc w13 (.cells #[.int .i64 xq, .bool fq, .slice Aq nq cq] 28)))
    replace HVa := Lib.hid (HVa.out.alloc (.cells #[.int .i64 xq, .bool fq, .slice Aq nq cq] 28))
    replace HSb := Lib.hid (HSb.out.keep (keeps_alloc w13 (.cells #[.int .i64 xq, .bool fq, .slice Aq nq cq] 28)))
    replace HVb := Lib.hid (HVb.out.alloc (.cells #[.int .i64 xq, .bool fq, .slice Aq nq cq] 28))
    replace HSu := Lib.hid (HSu.out.keep (keeps_alloc w13 (.cells #[.int .i64 xq, .bool fq, .slice Aq nq cq] 28)))
    replace HVu := Lib.hid (HVu.out.alloc (.cells #[.int .i64 xq, .bool fq, .slice Aq nq cq] 28))
    replace HSx := Lib.hid (HSx.out.keep (keeps_alloc w13 (.cells #[.int .i64 xq, .bool fq, .slice Aq nq cq] 28)))
    replace HVx := Lib.hid (HVx.out.alloc (.cells #[.int .i64 xq, .bool fq, .slice Aq nq cq] 28))
    replace HSy := Lib.hid (HSy.out.keep (keeps_alloc w13 (.cells #[.int .i64 xq, .bool fq, .slice Aq nq cq] 28)))
    replace HVy := Lib.hid (HVy.out.alloc (.cells #[.int .i64 xq, .bool fq, .slice Aq nq cq] 28))
    replace HSp := Lib.hid (HSp.out.keep (keeps_alloc w13 (.cells #[.int .i64 xq, .bool fq, .slice Aq nq cq] 28)))
    replace HVp := Lib.hid (HVp.out.alloc (.cells #[.int .i64 xq, .bool fq, .slice Aq nq cq] 28))
    replace HSq := Lib.hid (HSq.out.keep (keeps_alloc w13 (.cells #[.int .i64 xq, .bool fq, .slice Aq nq cq] 28)))
    have HVq := Lib.hid (Blk.new w13 28 #[.int .i64 xq, .bool fq, .slice Aq nq cq])
    obtain ⟨Vq, HXq⟩ : ∃ z, Hid (w13.heap.size = z) := ⟨_, rfl⟩
    rw [HXq.out] at HVq
    replace hB := hB.alloc hB.size (.cells #[.int .i64 xq, .bool fq, .slice Aq nq cq] 28)
    go_upto_region 11 with fail
    rw [HXq.out]
    generalize hWW : (w13.alloc (.cells #[.int .i64 xq, .bool fq, .slice Aq nq cq] 28)) = WW14 at *
    clear hWW
    rw [Hep.out, Heq.out, Hrp.out, Hrq.out] at HM
    obtain rfl : ep = eq := HM.out.1
    clear HSa HVa
    clear HSb HVb
    clear HSu HVu
    clear HSx HVx
    clear HSy HVy
    go_wp2_with fail
    refine (begun4_any _).mono ?_
    rintro e w15 ⟨rfl, hb15⟩
    replace HSp := Lib.hid (HSp.out.keep (keeps_of hb15))
    replace HVp := Lib.hid (HVp.out.below hb15)
    replace HSq := Lib.hid (HSq.out.keep (keeps_of hb15))
    replace HVq := Lib.hid (HVq.out.below hb15)
    replace hB := Below.next hB hb15
    clear hb15
    rcases HM.out.2.2.1 with h | h
    · subst h
      have zp := HVp.out.cell
      have zq := HVq.out.cell
      go_wp2_with fail
      refine (gequal_any rp xp fp Ap np cp rq xq fq Aq nq cq _ HSp.out HSq.out).mono ?_
      rintro e w16 ⟨rfl, hb16⟩
      rw [HM.out.2.2.2 (by trivial)]
      clear zp zq
      replace HSp := Lib.hid (HSp.out.keep (keeps_of hb16))
      replace HVp := Lib.hid (HVp.out.below hb16)
      replace HSq := Lib.hid (HSq.out.keep (keeps_of hb16))
      replace HVq := Lib.hid (HVq.out.below hb16)
      replace hB := Below.next hB hb16
      clear hb16
      go_wp2
      go_ret
      exact ⟨rfl, hB⟩
    · subst h
      go_wp2
      go_ret
      exact ⟨rfl, hB⟩
  · have h1 := op_02 HKa.out.1 HKa.out.2.1 HKb.out.1 HKb.out.2.1 opUr
    have h2 := cp_02 HKa.out.1 HKa.out.2.1
    have h3 := cp_02 HKb.out.1 HKb.out.2.1
    rw [Heu.out] at h1
    rw [Hex.out] at h2
    rw [Hey.out] at h3
    rcases h1 with rfl | rfl <;> rcases h2 with rfl | rfl <;> rcases h3 with rfl | rfl <;> first | exact absurd ⟨rfl, rfl, rfl⟩ hall | skip
    all_goals
      clear hall
      go_wp2_with fail
      refine (begun4_any _).mono ?_
      rintro e w99 ⟨rfl, hb99⟩
      replace hB := Below.next hB hb99
      clear hb99
      go_wp2
      go_ret
      exact ⟨rfl, hB⟩
end Go.Proofs.YtnocbigcdjlliaaGreat
