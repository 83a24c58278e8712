/-
  The walk of the law RegionGalois.
-/
import Derived.Test.YtmnmckblmoalkaaGreatB48
import Derived.Test.YtmnmckblmoalkaaGreatB49
import Derived.Test.YtmnmckblmoalkaaGreatB50
set_option linter.unusedVariables false
namespace Go.Proofs.YtmnmckblmoalkaaGreat
open Go.RowKit
set_option maxRecDepth 100000
open Rg

set_option maxHeartbeats 8000000 in
theorem galois4_walk (A : Option Addr) (n c : Nat) (zs : List Int) (w : World) (hs : Sl 1 u8c w A n zs) (hz : ∀ z ∈ zs, 0 ≤ z ∧ z ≤ 255) (hnil : A = none → n = 0 ∧ c = 0) (hsp : ∀ ad, A = some ad → ad.spot = none) (hnc : n ≤ c) (hcm : c ≤ 9223372036854775807) :
    Calls Tryz.prog 6 #[.slice A n c] w fun e w' => e = .returned (.bool true) ∧ Below w.heap.size w w' := by
  have HS := Lib.hid hs
  have HZ := Lib.hid hz
  have HN := Lib.hid hnil
  have HP := Lib.hid hsp
  clear hs hz hnil hsp
  go_enter Tryz.func6, Tryz.ntmps6
  go_wp2_with fail
  refine (new_any A n c zs 160 _ HS.out HZ.out HN.out HP.out hnc hcm (by omega)).mono ?_
  rintro e w0 ⟨g, hg, rfl, hc, hB⟩
  clear HS HZ HN HP
  go_wp2_with fail
  refine (int_any g 3 _ hc (by omega) (by omega)).mono ?_
  rintro e w1 ⟨⟨y, hy1, hy2, rfl⟩, hc1, hb1⟩
  replace hB := hb1.below hB hB.size (fun k hk => by subst hk; exact hg)
  replace hc := hc1
  clear hb1
  obtain ⟨wd, hwd1, hwd2, hwd⟩ : ∃ wd : Nat, 1 ≤ wd ∧ wd ≤ 3 ∧ 1 + y = (wd : Int) := ⟨(1 + y).toNat, by omega, by omega, by omega⟩
  have hw1 : wd ≤ 3 := by omega
  go_wp2_with fail
  refine (cregion_any g wd (by omega) _ hc).mono ?_
  rintro e w2 ⟨xa, fa, Aa, na, ca, ra, rfl, hSa, hOa, hWa, hFa, hc2, hb2⟩
  have hxa := hSa.hw
  obtain rfl : xa = (wd : Int) := by omega
  clear hxa
  replace hB := hb2.below hB hB.size (fun k hk => by subst hk; exact hg)
  replace hc := hc2
  have HSa := Lib.hid hSa
  have HKa := Lib.hid (And.intro hOa (And.intro hWa hFa))
  clear hb2 hSa hOa hWa hFa
  replace HSa := Lib.hid (HSa.out.keep (keeps_alloc w2 (.cells #[.int .i64 (wd : Int), .bool fa, .slice Aa na ca] 27)))
  have HVa := Lib.hid (Blk.new w2 27 #[.int .i64 (wd : Int), .bool fa, .slice Aa na ca])
  obtain ⟨Va, HXa⟩ : ∃ z, Hid (w2.heap.size = z) := ⟨_, rfl⟩
  rw [HXa.out] at HVa
  replace hB := hB.alloc hB.size (.cells #[.int .i64 (wd : Int), .bool fa, .slice Aa na ca] 27)
  replace hc := hc.below ((Below.refl _ _).alloc (Nat.le_refl _) (.cells #[.int .i64 (wd : Int), .bool fa, .slice Aa na ca] 27))
  go_upto_region 3 with fail
  rw [HXa.out]
  generalize hWW : (w2.alloc (.cells #[.int .i64 (wd : Int), .bool fa, .slice Aa na ca] 27)) = WW3 at *
  clear hWW
  clear hwd hy1 hy2 hwd2
  have za := HVa.out.cell
  go_wp2_with fail
  refine (gcolsJ_any w.heap.size g wd (by omega) _ hc).mono ?_
  rintro e w4 ⟨Al, nl, cl, csl, rfl, hnl, hcl, hdl, hnl2, hc4, hb4⟩
  clear za
  replace HSa := Lib.hid (HSa.out.case hc hb4)
  replace HVa := Lib.hid (HVa.out.but hb4 (hc.ne HVa.out (by decide)))
  replace hB := hb4.below hB hB.size (fun k hk => by subst hk; exact hg)
  replace hc := hc4
  have HCll := Lib.hid hcl
  have HDl := Lib.hid hdl
  have HLl : Hid (nl = csl.length ∧ nl ≤ 3) := Lib.hid ⟨hnl, by omega⟩
  clear hnl hcl hdl hnl2 hc4 hb4
  have hl3 := HLl.out.2
  go_wp2_with fail
  refine (cregion_any g nl (by omega) _ hc).mono ?_
  rintro e w5 ⟨xb, fb, Ab, nb, cb, rb, rfl, hSb, hOb, hWb, hFb, hc5, hb5⟩
  have hxb := hSb.hw
  obtain rfl : xb = (nl : Int) := by omega
  clear hxb
  replace HSa := Lib.hid (HSa.out.case hc hb5)
  replace HVa := Lib.hid (HVa.out.but hb5 (hc.ne HVa.out (by decide)))
  replace hB := hb5.below hB hB.size (fun k hk => by subst hk; exact hg)
  replace HCll := Lib.hid (HCll.out.case hb5)
  replace hc := hc5
  have HSb := Lib.hid hSb
  have HKb := Lib.hid (And.intro hOb (And.intro hWb hFb))
  clear hb5 hSb hOb hWb hFb
  replace HCll := Lib.hid (HCll.out.below ((Below.refl _ _).alloc (Nat.le_refl _) (.cells #[.int .i64 (nl : Int), .bool fb, .slice Ab nb cb] 27)))
  replace HSa := Lib.hid (HSa.out.keep (keeps_alloc w5 (.cells #[.int .i64 (nl : Int), .bool fb, .slice Ab nb cb] 27)))
  replace HVa := Lib.hid (HVa.out.alloc (.cells #[.int .i64 (nl : Int), .bool fb, .slice Ab nb cb] 27))
  replace HSb := Lib.hid (HSb.out.keep (keeps_alloc w5 (.cells #[.int .i64 (nl : Int), .bool fb, .slice Ab nb cb] 27)))
  have HVb := Lib.hid (Blk.new w5 27 #[.int .i64 (nl : Int), .bool fb, .slice Ab nb cb])
  obtain ⟨Vb, HXb⟩ : ∃ z, Hid (w5.heap.size = z) := ⟨_, rfl⟩
  rw [HXb.out] at HVb
  replace hB := hB.alloc hB.size (.cells #[.int .i64 (nl : Int), .bool fb, .slice Ab nb cb] 27)
  replace hc := hc.below ((Below.refl _ _).alloc (Nat.le_refl _) (.cells #[.int .i64 (nl : Int), .bool fb, .slice Ab nb cb] 27))
  go_upto_region 5 with fail
  rw [HXb.out]
  generalize hWW : (w5.alloc (.cells #[.int .i64 (nl : Int), .bool fb, .slice Ab nb cb] 27)) = WW6 at *
  clear hWW
  have za := HVa.out.cell
  go_wp2_with fail
  refine (gproject_any ra (wd : Int) fa Aa na ca Al nl cl csl _ HSa.out HKa.out.2.2 HCll.out.sl).mono ?_
  rintro e w107 ⟨xx, fx, Ax, nx, cx, rfl, hSx, hb7⟩
  obtain ⟨ex, Hex⟩ : ∃ z, Hid (pjE ra csl = z) := ⟨_, rfl⟩
  obtain ⟨rx, Hrx⟩ : ∃ z, Hid (pjR ra csl = z) := ⟨_, rfl⟩
  rw [Hex.out]
  rw [Hrx.out] at hSx
  clear za
  replace HSa := Lib.hid (HSa.out.keep (keeps_of hb7))
  replace HVa := Lib.hid (HVa.out.below hb7)
  replace HSb := Lib.hid (HSb.out.keep (keeps_of hb7))
  replace HVb := Lib.hid (HVb.out.below hb7)
  replace hB := Below.next hB hb7
  replace hc := hc.below hb7
  replace HCll := Lib.hid (HCll.out.below hb7)
  have HSx := Lib.hid hSx
  clear hSx hb7
  replace HCll := Lib.hid (HCll.out.below ((Below.refl _ _).alloc (Nat.le_refl _) (.cells #[.int .i64 xx, .bool fx, .slice Ax nx cx] 27)))
  replace HSa := Lib.hid (HSa.out.keep (keeps_alloc w107 (.cells #[.int .i64 xx, .bool fx, .slice Ax nx cx] 27)))
  replace HVa := Lib.hid (HVa.out.alloc (.cells #[.int .i64 xx, .bool fx, .slice Ax nx cx] 27))
  replace HSb := Lib.hid (HSb.out.keep (keeps_alloc w107 (.cells #[.int .i64 xx, .bool fx, .slice Ax nx cx] 27)))
  replace HVb := Lib.hid (HVb.out.alloc (.cells #[.int .i64 xx, .bool fx, .slice Ax nx cx] 27))
  replace HSx := Lib.hid (HSx.out.keep (keeps_alloc w107 (.cells #[.int .i64 xx, .bool fx, .slice Ax nx cx] 27)))
  have HVx := Lib.hid (Blk.new w107 27 #[.int .i64 xx, .bool fx, .slice Ax nx cx])
  obtain ⟨Vx, HXx⟩ : ∃ z, Hid (w107.heap.size = z) := ⟨_, rfl⟩
  rw [HXx.out] at HVx
  replace hB := hB.alloc hB.size (.cells #[.int .i64 xx, .bool fx, .slice Ax nx cx] 27)
  replace hc := hc.below ((Below.refl _ _).alloc (Nat.le_refl _) (.cells #[.int .i64 xx, .bool fx, .slice Ax nx cx] 27))
  go_upto_region 6 with fail
  rw [HXx.out]
  generalize hWW : (w107.alloc (.cells #[.int .i64 xx, .bool fx, .slice Ax nx cx] 27)) = WW8 at *
  clear hWW
  have za := HVa.out.cell
  go_wp2_with fail
  refine (gforall_any ra (wd : Int) fa Aa na ca Al nl cl csl _ HSa.out HKa.out.2.2 HCll.out.sl).mono ?_
  rintro e w109 ⟨xy, fy, Ay, ny, cy, rfl, hSy, hb9⟩
  obtain ⟨ey, Hey⟩ : ∃ z, Hid (faE ra csl = z) := ⟨_, rfl⟩
  obtain ⟨ry, Hry⟩ : ∃ z, Hid (faR ra csl = z) := ⟨_, rfl⟩
  rw [Hey.out]
  rw [Hry.out] at hSy
  clear za
  replace HSa := Lib.hid (HSa.out.keep (keeps_of hb9))
  replace HVa := Lib.hid (HVa.out.below hb9)
  replace HSb := Lib.hid (HSb.out.keep (keeps_of hb9))
  replace HVb := Lib.hid (HVb.out.below hb9)
  replace HSx := Lib.hid (HSx.out.keep (keeps_of hb9))
  replace HVx := Lib.hid (HVx.out.below hb9)
  replace hB := Below.next hB hb9
  replace hc := hc.below hb9
  replace HCll := Lib.hid (HCll.out.below hb9)
  have HSy := Lib.hid hSy
  clear hSy hb9
  replace HCll := Lib.hid (HCll.out.below ((Below.refl _ _).alloc (Nat.le_refl _) (.cells #[.int .i64 xy, .bool fy, .slice Ay ny cy] 27)))
  replace HSa := Lib.hid (HSa.out.keep (keeps_alloc w109 (.cells #[.int .i64 xy, .bool fy, .slice Ay ny cy] 27)))
  replace HVa := Lib.hid (HVa.out.alloc (.cells #[.int .i64 xy, .bool fy, .slice Ay ny cy] 27))
  replace HSb := Lib.hid (HSb.out.keep (keeps_alloc w109 (.cells #[.int .i64 xy, .bool fy, .slice Ay ny cy] 27)))
  replace HVb := Lib.hid (HVb.out.alloc (.cells #[.int .i64 xy, .bool fy, .slice Ay ny cy] 27))
  replace HSx := Lib.hid (HSx.out.keep (keeps_alloc w109 (.cells #[.int .i64 xy, .bool fy, .slice Ay ny cy] 27)))
  replace HVx := Lib.hid (HVx.out.alloc (.cells #[.int .i64 xy, .bool fy, .slice Ay ny cy] 27))
  replace HSy := Lib.hid (HSy.out.keep (keeps_alloc w109 (.cells #[.int .i64 xy, .bool fy, .slice Ay ny cy] 27)))
  have HVy := Lib.hid (Blk.new w109 27 #[.int .i64 xy, .bool fy, .slice Ay ny cy])
  obtain ⟨Vy, HXy⟩ : ∃ z, Hid (w109.heap.size = z) := ⟨_, rfl⟩
  rw [HXy.out] at HVy
  replace hB := hB.alloc hB.size (.cells #[.int .i64 xy, .bool fy, .slice Ay ny cy] 27)
  replace hc := hc.below ((Below.refl _ _).alloc (Nat.le_refl _) (.cells #[.int .i64 xy, .bool fy, .slice Ay ny cy] 27))
  go_upto_region 7 with fail
  rw [HXy.out]
  generalize hWW : (w109.alloc (.cells #[.int .i64 xy, .bool fy, .slice Ay ny cy] 27)) = WW10 at *
  clear hWW
  have za := HVa.out.cell
  have zb := HVb.out.cell
  go_wp2_with fail
  refine (glift_any rb (nl : Int) fb Ab nb cb Al nl cl csl (wd : Int) _ HSb.out HKb.out.2.2 HCll.out.sl).mono ?_
  rintro e w111 ⟨xz, fz, Az, nz, cz, rfl, hSz, hb11⟩
  obtain ⟨ez, Hez⟩ : ∃ z, Hid (lfE rb csl (wd : Int) = z) := ⟨_, rfl⟩
  obtain ⟨rz, Hrz⟩ : ∃ z, Hid (lfR rb csl (wd : Int) = z) := ⟨_, rfl⟩
  rw [Hez.out]
  rw [Hrz.out] at hSz
  clear zb
  replace HSa := Lib.hid (HSa.out.keep (keeps_of hb11))
  replace HVa := Lib.hid (HVa.out.below hb11)
  replace HSb := Lib.hid (HSb.out.keep (keeps_of hb11))
  replace HVb := Lib.hid (HVb.out.below hb11)
  replace HSx := Lib.hid (HSx.out.keep (keeps_of hb11))
  replace HVx := Lib.hid (HVx.out.below hb11)
  replace HSy := Lib.hid (HSy.out.keep (keeps_of hb11))
  replace HVy := Lib.hid (HVy.out.below hb11)
  replace hB := Below.next hB hb11
  replace hc := hc.below hb11
  replace HCll := Lib.hid (HCll.out.below hb11)
  have HSz := Lib.hid hSz
  clear hSz hb11
  replace HCll := Lib.hid (HCll.out.below ((Below.refl _ _).alloc (Nat.le_refl _) (.cells #[.int .i64 xz, .bool fz, .slice Az nz cz] 27)))
  replace HSa := Lib.hid (HSa.out.keep (keeps_alloc w111 (.cells #[.int .i64 xz, .bool fz, .slice Az nz cz] 27)))
  replace HVa := Lib.hid (HVa.out.alloc (.cells #[.int .i64 xz, .bool fz, .slice Az nz cz] 27))
  replace HSb := Lib.hid (HSb.out.keep (keeps_alloc w111 (.cells #[.int .i64 xz, .bool fz, .slice Az nz cz] 27)))
  replace HVb := Lib.hid (HVb.out.alloc (.cells #[.int .i64 xz, .bool fz, .slice Az nz cz] 27))
  replace HSx := Lib.hid (HSx.out.keep (keeps_alloc w111 (.cells #[.int .i64 xz, .bool fz, .slice Az nz cz] 27)))
  replace HVx := Lib.hid (HVx.out.alloc (.cells #[.int .i64 xz, .bool fz, .slice Az nz cz] 27))
  replace HSy := Lib.hid (HSy.out.keep (keeps_alloc w111 (.cells #[.int .i64 xz, .bool fz, .slice Az nz cz] 27)))
  replace HVy := Lib.hid (HVy.out.alloc (.cells #[.int .i64 xz, .bool fz, .slice Az nz cz] 27))
  replace HSz := Lib.hid (HSz.out.keep (keeps_alloc w111 (.cells #[.int .i64 xz, .bool fz, .slice Az nz cz] 27)))
  have HVz := Lib.hid (Blk.new w111 27 #[.int .i64 xz, .bool fz, .slice Az nz cz])
  obtain ⟨Vz, HXz⟩ : ∃ z, Hid (w111.heap.size = z) := ⟨_, rfl⟩
  rw [HXz.out] at HVz
  replace hB := hB.alloc hB.size (.cells #[.int .i64 xz, .bool fz, .slice Az nz cz] 27)
  replace hc := hc.below ((Below.refl _ _).alloc (Nat.le_refl _) (.cells #[.int .i64 xz, .bool fz, .slice Az nz cz] 27))
  go_upto_region 8 with fail
  rw [HXz.out]
  generalize hWW : (w111.alloc (.cells #[.int .i64 xz, .bool fz, .slice Az nz cz] 27)) = WW12 at *
  clear hWW
  clear za
  clear HCll
  have hwb : rb.w = (csl.length : Int) := by rw [HKb.out.2.1, HLl.out.1]
  by_cases hall : ex = 0 ∧ ey = 0 ∧ ez = 0
  · obtain ⟨rfl, rfl, rfl⟩ := hall
    have HG := Lib.hid (galois_plain HKa.out.1 HKa.out.2.1 HDl.out HKb.out.1 hwb Hex.out Hey.out Hez.out)
    rw [Hrx.out, Hry.out, Hrz.out] at HG
    have HWw : Hid (WfR rx ∧ WfR ry ∧ WfR rz) := Lib.hid ⟨by rw [← Hrx.out]; exact pj_wf HKa.out.2.2 _, by rw [← Hry.out]; exact fa_wf HKa.out.2.2 _, by rw [← Hrz.out]; exact lf_wf HKb.out.2.2 _ _⟩
    obtain ⟨p, Hp⟩ : ∃ z, Hid (covRes rz ra = z) := ⟨_, rfl⟩
    obtain ⟨r, Hr⟩ : ∃ z, Hid (covRes ra rz = z) := ⟨_, rfl⟩
    rw [Hp.out, Hr.out] at HG
    have Hq : Hid (covRes rb rx = p) := Lib.hid HG.out.1.symm
    have Hs : Hid (covRes ry rb = r) := Lib.hid HG.out.2.symm
    clear HG hwb
    have zz := HVz.out.cell
    have za := HVa.out.cell
    go_wp2_with fail
    refine (gcovers_any rz xz fz Az nz cz ra (wd : Int) fa Aa na ca _ HSz.out HSa.out HWw.out.2.2 HKa.out.2.2).mono ?_
    rintro e w213 ⟨rfl, hb13⟩
    rw [Hp.out]
    clear zz za
    replace HSa := Lib.hid (HSa.out.keep (keeps_of hb13))
    replace HVa := Lib.hid (HVa.out.below hb13)
    replace HSb := Lib.hid (HSb.out.keep (keeps_of hb13))
    replace HVb := Lib.hid (HVb.out.below hb13)
    replace HSx := Lib.hid (HSx.out.keep (keeps_of hb13))
    replace HVx := Lib.hid (HVx.out.below hb13)
    replace HSy := Lib.hid (HSy.out.keep (keeps_of hb13))
    replace HVy := Lib.hid (HVy.out.below hb13)
    replace HSz := Lib.hid (HSz.out.keep (keeps_of hb13))
    replace HVz := Lib.hid (HVz.out.below hb13)
    replace hB := Below.next hB hb13
    replace hc := hc.below hb13
    clear hb13
    go_upto_region 11 with fail
    have zb := HVb.out.cell
    have zx := HVx.out.cell
    go_wp2_with fail
    refine (gcovers_any rb (nl : Int) fb Ab nb cb rx xx fx Ax nx cx _ HSb.out HSx.out HKb.out.2.2 HWw.out.1).mono ?_
    rintro e w214 ⟨rfl, hb14⟩
    rw [Hq.out]
    clear zb zx
    replace HSa := Lib.hid (HSa.out.keep (keeps_of hb14))
    replace HVa := Lib.hid (HVa.out.below hb14)
    replace HSb := Lib.hid (HSb.out.keep (keeps_of hb14))
    replace HVb := Lib.hid (HVb.out.below hb14)
    replace HSx := Lib.hid (HSx.out.keep (keeps_of hb14))
    replace HVx := Lib.hid (HVx.out.below hb14)
    replace HSy := Lib.hid (HSy.out.keep (keeps_of hb14))
    replace HVy := Lib.hid (HVy.out.below hb14)
    replace HSz := Lib.hid (HSz.out.keep (keeps_of hb14))
    replace HVz := Lib.hid (HVz.out.below hb14)
    replace hB := Below.next hB hb14
    replace hc := hc.below hb14
    clear hb14
    go_upto_region 12 with fail
    have za := HVa.out.cell
    have zz := HVz.out.cell
    go_wp2_with fail
    refine (gcovers_any ra (wd : Int) fa Aa na ca rz xz fz Az nz cz _ HSa.out HSz.out HKa.out.2.2 HWw.out.2.2).mono ?_
    rintro e w215 ⟨rfl, hb15⟩
    rw [Hr.out]
    clear za zz
    replace HSa := Lib.hid (HSa.out.keep (keeps_of hb15))
    replace HVa := Lib.hid (HVa.out.below hb15)
    replace HSb := Lib.hid (HSb.out.keep (keeps_of hb15))
    replace HVb := Lib.hid (HVb.out.below hb15)
    replace HSx := Lib.hid (HSx.out.keep (keeps_of hb15))
    replace HVx := Lib.hid (HVx.out.below hb15)
    replace HSy := Lib.hid (HSy.out.keep (keeps_of hb15))
    replace HVy := Lib.hid (HVy.out.below hb15)
    replace HSz := Lib.hid (HSz.out.keep (keeps_of hb15))
    replace HVz := Lib.hid (HVz.out.below hb15)
    replace hB := Below.next hB hb15
    replace hc := hc.below hb15
    clear hb15
    go_upto_region 13 with fail
    have zy := HVy.out.cell
    have zb := HVb.out.cell
    go_wp2_with fail
    refine (gcovers_any ry xy fy Ay ny cy rb (nl : Int) fb Ab nb cb _ HSy.out HSb.out HWw.out.2.1 HKb.out.2.2).mono ?_
    rintro e w216 ⟨rfl, hb16⟩
    rw [Hs.out]
    clear zy zb
    replace HSa := Lib.hid (HSa.out.keep (keeps_of hb16))
    replace HVa := Lib.hid (HVa.out.below hb16)
    replace HSb := Lib.hid (HSb.out.keep (keeps_of hb16))
    replace HVb := Lib.hid (HVb.out.below hb16)
    replace HSx := Lib.hid (HSx.out.keep (keeps_of hb16))
    replace HVx := Lib.hid (HVx.out.below hb16)
    replace HSy := Lib.hid (HSy.out.keep (keeps_of hb16))
    replace HVy := Lib.hid (HVy.out.below hb16)
    replace HSz := Lib.hid (HSz.out.keep (keeps_of hb16))
    replace HVz := Lib.hid (HVz.out.below hb16)
    replace hB := Below.next hB hb16
    replace hc := hc.below hb16
    clear hb16
    go_wp2_with fail
    refine (begun4_any _).mono ?_
    rintro e w17 ⟨rfl, hb17⟩
    replace HSa := Lib.hid (HSa.out.keep (keeps_of hb17))
    replace HVa := Lib.hid (HVa.out.below hb17)
    replace HSb := Lib.hid (HSb.out.keep (keeps_of hb17))
    replace HVb := Lib.hid (HVb.out.below hb17)
    replace HSx := Lib.hid (HSx.out.keep (keeps_of hb17))
    replace HVx := Lib.hid (HVx.out.below hb17)
    replace HSy := Lib.hid (HSy.out.keep (keeps_of hb17))
    replace HVy := Lib.hid (HVy.out.below hb17)
    replace HSz := Lib.hid (HSz.out.keep (keeps_of hb17))
    replace HVz := Lib.hid (HVz.out.below hb17)
    replace hB := Below.next hB hb17
    replace hc := hc.below hb17
    clear hb17
    cases p <;> cases r
    all_goals
      go_wp2
      go_ret
      exact ⟨rfl, hB⟩
  · have h1 := (pj_spec HKa.out.1 HKa.out.2.1 HDl.out).1
    have h2 := (fa_spec HKa.out.1 HKa.out.2.1 HDl.out).1
    have h3 := (lf_spec (N := wd) HKb.out.1 hwb (by omega) HDl.out).1
    rw [Hex.out] at h1
    rw [Hey.out] at h2
    rw [Hez.out] at h3
    rcases h1 with rfl | rfl <;> rcases h2 with rfl | rfl <;> rcases h3 with rfl | rfl <;> first | exact absurd ⟨rfl, rfl, rfl⟩ hall | skip
    all_goals
      clear hall
      go_wp2_with fail
      refine (begun4_any _).mono ?_
      rintro e w99 ⟨rfl, hb99⟩
      replace hB := Below.next hB hb99
      clear hb99
      go_wp2
      go_ret
      exact ⟨rfl, hB⟩
end Go.Proofs.YtmnmckblmoalkaaGreat
