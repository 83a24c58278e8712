/-
  The walk of the law RegionExtends.
-/
import Derived.Test.YtmnmckblmoalkaaGreatB49
import Derived.Test.YtmnmckblmoalkaaGreatB50
set_option linter.unusedVariables false
namespace Go.Proofs.YtmnmckblmoalkaaGreat
open Go.RowKit
set_option maxRecDepth 100000
open Rg

/-- what a round reads -/
structure ExS (ra : Rg) (xa : Int) (fa : Bool) (Aa : Option Addr) (na ca Va : Nat) (rx : Rg) (xx : Int) (fx : Bool) (Ax : Option Addr) (nx cx Vx : Nat) (ry : Rg) (xy : Int) (fy : Bool) (Ay : Option Addr) (ny cy Vy : Nat) (rb : Rg) (xb : Int) (fb : Bool) (Ab : Option Addr) (nb cb Vb : Nat) (rz : Rg) (xz : Int) (fz : Bool) (Az : Option Addr) (nz cz Vz : Nat) (B : Option Addr) (mr : Nat) (row : List Vl) (Ap : Option Addr) (nl : Nat) (pv : List Vl) (w : World) : Prop where
  sa : RgS w xa fa Aa na ca ra
  va : Blk w Va 27 #[.int .i64 xa, .bool fa, .slice Aa na ca]
  sx : RgS w xx fx Ax nx cx rx
  vx : Blk w Vx 27 #[.int .i64 xx, .bool fx, .slice Ax nx cx]
  sy : RgS w xy fy Ay ny cy ry
  vy : Blk w Vy 27 #[.int .i64 xy, .bool fy, .slice Ay ny cy]
  sb : RgS w xb fb Ab nb cb rb
  vb : Blk w Vb 27 #[.int .i64 xb, .bool fb, .slice Ab nb cb]
  sz : RgS w xz fz Az nz cz rz
  vz : Blk w Vz 27 #[.int .i64 xz, .bool fz, .slice Az nz cz]
  row : VlS w B mr row
  op : VlS w Ap nl pv
section
variable {ra : Rg} {xa : Int} {fa : Bool} {Aa : Option Addr} {na ca Va : Nat} {rx : Rg} {xx : Int} {fx : Bool} {Ax : Option Addr} {nx cx Vx : Nat} {ry : Rg} {xy : Int} {fy : Bool} {Ay : Option Addr} {ny cy Vy : Nat} {rb : Rg} {xb : Int} {fb : Bool} {Ab : Option Addr} {nb cb Vb : Nat} {rz : Rg} {xz : Int} {fz : Bool} {Az : Option Addr} {nz cz Vz : Nat} {B : Option Addr} {mr : Nat} {row : List Vl} {Ap : Option Addr} {nl : Nat} {pv : List Vl}
theorem ExS.below {w w1 : World} (h : ExS ra xa fa Aa na ca Va rx xx fx Ax nx cx Vx ry xy fy Ay ny cy Vy rb xb fb Ab nb cb Vb rz xz fz Az nz cz Vz B mr row Ap nl pv w) (hb : Below w.heap.size w w1) : ExS ra xa fa Aa na ca Va rx xx fx Ax nx cx Vx ry xy fy Ay ny cy Vy rb xb fb Ab nb cb Vb rz xz fz Az nz cz Vz B mr row Ap nl pv w1 :=
  ⟨h.sa.keep (keeps_of hb), h.va.below hb, h.sx.keep (keeps_of hb), h.vx.below hb, h.sy.keep (keeps_of hb), h.vy.below hb, h.sb.keep (keeps_of hb), h.vb.below hb, h.sz.keep (keeps_of hb), h.vz.below hb, h.row.keep (keeps_of hb), h.op.keep (keeps_of hb)⟩
end
set_option maxHeartbeats 100000000 in
theorem extends4_walk (A : Option Addr) (n c : Nat) (zs : List Int) (w : World) (hs : Sl 1 u8c w A n zs) (hz : ∀ z ∈ zs, 0 ≤ z ∧ z ≤ 255) (hnil : A = none → n = 0 ∧ c = 0) (hsp : ∀ ad, A = some ad → ad.spot = none) (hnc : n ≤ c) (hcm : c ≤ 9223372036854775807) :
    Calls Tryz.prog 7 #[.slice A n c] w fun e w' => e = .returned (.bool true) ∧ Below w.heap.size w w' := by
  have HS := Lib.hid hs
  have HZ := Lib.hid hz
  have HN := Lib.hid hnil
  have HP := Lib.hid hsp
  clear hs hz hnil hsp
  go_enter Tryz.func7, Tryz.ntmps7
  go_wp2_with fail
  refine (new_any A n c zs 160 _ HS.out HZ.out HN.out HP.out hnc hcm (by omega)).mono ?_
  rintro e w0 ⟨g, hg, rfl, hc, hB⟩
  clear HS HZ HN HP
  go_wp2_with fail
  refine (int_any g 3 _ hc (by omega) (by omega)).mono ?_
  rintro e w1 ⟨⟨y, hy1, hy2, rfl⟩, hc1, hb1⟩
  replace hB := hb1.below hB hB.size (fun k hk => by subst hk; exact hg)
  replace hc := hc1
  clear hb1
  obtain ⟨wd, hwd1, hwd2, hwd⟩ : ∃ wd : Nat, 1 ≤ wd ∧ wd ≤ 3 ∧ 1 + y = (wd : Int) := ⟨(1 + y).toNat, by omega, by omega, by omega⟩
  have hw1 : wd ≤ 3 := by omega
  go_wp2_with fail
  refine (cregion_any g wd (by omega) _ hc).mono ?_
  rintro e w2 ⟨xa, fa, Aa, na, ca, ra, rfl, hSa, hOa, hWa, hFa, hc2, hb2⟩
  have hxa := hSa.hw
  obtain rfl : xa = (wd : Int) := by omega
  clear hxa
  replace hB := hb2.below hB hB.size (fun k hk => by subst hk; exact hg)
  replace hc := hc2
  have HSa := Lib.hid hSa
  have HKa := Lib.hid (And.intro hOa (And.intro hWa hFa))
  clear hb2 hSa hOa hWa hFa
  replace HSa := Lib.hid (HSa.out.keep (keeps_alloc w2 (.cells #[.int .i64 (wd : Int), .bool fa, .slice Aa na ca] 27)))
  have HVa := Lib.hid (Blk.new w2 27 #[.int .i64 (wd : Int), .bool fa, .slice Aa na ca])
  obtain ⟨Va, HXa⟩ : ∃ z, Hid (w2.heap.size = z) := ⟨_, rfl⟩
  rw [HXa.out] at HVa
  replace hB := hB.alloc hB.size (.cells #[.int .i64 (wd : Int), .bool fa, .slice Aa na ca] 27)
  replace hc := hc.below ((Below.refl _ _).alloc (Nat.le_refl _) (.cells #[.int .i64 (wd : Int), .bool fa, .slice Aa na ca] 27))
  go_upto_region 3 with fail
  rw [HXa.out]
  generalize hWW : (w2.alloc (.cells #[.int .i64 (wd : Int), .bool fa, .slice Aa na ca] 27)) = WW3 at *
  clear hWW
  clear hwd hy1 hy2 hwd2
  have za := HVa.out.cell
  go_wp2_with fail
  refine (gcolsJ_any w.heap.size g wd (by omega) _ hc).mono ?_
  rintro e w4 ⟨Al, nl, cl, csl, rfl, hnl, hcl, hdl, hnl2, hc4, hb4⟩
  clear za
  replace HSa := Lib.hid (HSa.out.case hc hb4)
  replace HVa := Lib.hid (HVa.out.but hb4 (hc.ne HVa.out (by decide)))
  replace hB := hb4.below hB hB.size (fun k hk => by subst hk; exact hg)
  replace hc := hc4
  have HCll := Lib.hid hcl
  have HDl := Lib.hid hdl
  have HLl : Hid (nl = csl.length ∧ nl ≤ 3) := Lib.hid ⟨hnl, by omega⟩
  clear hnl hcl hdl hnl2 hc4 hb4
  have hl3 := HLl.out.2
  have za := HVa.out.cell
  go_wp2_with fail
  refine (gproject_any ra (wd : Int) fa Aa na ca Al nl cl csl _ HSa.out HKa.out.2.2 HCll.out.sl).mono ?_
  rintro e w105 ⟨xx, fx, Ax, nx, cx, rfl, hSx, hb5⟩
  obtain ⟨ex, Hex⟩ : ∃ z, Hid (pjE ra csl = z) := ⟨_, rfl⟩
  obtain ⟨rx, Hrx⟩ : ∃ z, Hid (pjR ra csl = z) := ⟨_, rfl⟩
  rw [Hex.out]
  rw [Hrx.out] at hSx
  clear za
  replace HSa := Lib.hid (HSa.out.keep (keeps_of hb5))
  replace HVa := Lib.hid (HVa.out.below hb5)
  replace hB := Below.next hB hb5
  replace hc := hc.below hb5
  replace HCll := Lib.hid (HCll.out.below hb5)
  have HSx := Lib.hid hSx
  clear hSx hb5
  replace HCll := Lib.hid (HCll.out.below ((Below.refl _ _).alloc (Nat.le_refl _) (.cells #[.int .i64 xx, .bool fx, .slice Ax nx cx] 27)))
  replace HSa := Lib.hid (HSa.out.keep (keeps_alloc w105 (.cells #[.int .i64 xx, .bool fx, .slice Ax nx cx] 27)))
  replace HVa := Lib.hid (HVa.out.alloc (.cells #[.int .i64 xx, .bool fx, .slice Ax nx cx] 27))
  replace HSx := Lib.hid (HSx.out.keep (keeps_alloc w105 (.cells #[.int .i64 xx, .bool fx, .slice Ax nx cx] 27)))
  have HVx := Lib.hid (Blk.new w105 27 #[.int .i64 xx, .bool fx, .slice Ax nx cx])
  obtain ⟨Vx, HXx⟩ : ∃ z, Hid (w105.heap.size = z) := ⟨_, rfl⟩
  rw [HXx.out] at HVx
  replace hB := hB.alloc hB.size (.cells #[.int .i64 xx, .bool fx, .slice Ax nx cx] 27)
  replace hc := hc.below ((Below.refl _ _).alloc (Nat.le_refl _) (.cells #[.int .i64 xx, .bool fx, .slice Ax nx cx] 27))
  go_upto_region 5 with fail
  rw [HXx.out]
  generalize hWW : (w105.alloc (.cells #[.int .i64 xx, .bool fx, .slice Ax nx cx] 27)) = WW6 at *
  clear hWW
  have za := HVa.out.cell
  go_wp2_with fail
  refine (gforall_any ra (wd : Int) fa Aa na ca Al nl cl csl _ HSa.out HKa.out.2.2 HCll.out.sl).mono ?_
  rintro e w107 ⟨xy, fy, Ay, ny, cy, rfl, hSy, hb7⟩
  obtain ⟨ey, Hey⟩ : ∃ z, Hid (faE ra csl = z) := ⟨_, rfl⟩
  obtain ⟨ry, Hry⟩ : ∃ z, Hid (faR ra csl = z) := ⟨_, rfl⟩
  rw [Hey.out]
  rw [Hry.out] at hSy
  clear za
  replace HSa := Lib.hid (HSa.out.keep (keeps_of hb7))
  replace HVa := Lib.hid (HVa.out.below hb7)
  replace HSx := Lib.hid (HSx.out.keep (keeps_of hb7))
  replace HVx := Lib.hid (HVx.out.below hb7)
  replace hB := Below.next hB hb7
  replace hc := hc.below hb7
  replace HCll := Lib.hid (HCll.out.below hb7)
  have HSy := Lib.hid hSy
  clear hSy hb7
  replace HCll := Lib.hid (HCll.out.below ((Below.refl _ _).alloc (Nat.le_refl _) (.cells #[.int .i64 xy, .bool fy, .slice Ay ny cy] 27)))
  replace HSa := Lib.hid (HSa.out.keep (keeps_alloc w107 (.cells #[.int .i64 xy, .bool fy, .slice Ay ny cy] 27)))
  replace HVa := Lib.hid (HVa.out.alloc (.cells #[.int .i64 xy, .bool fy, .slice Ay ny cy] 27))
  replace HSx := Lib.hid (HSx.out.keep (keeps_alloc w107 (.cells #[.int .i64 xy, .bool fy, .slice Ay ny cy] 27)))
  replace HVx := Lib.hid (HVx.out.alloc (.cells #[.int .i64 xy, .bool fy, .slice Ay ny cy] 27))
  replace HSy := Lib.hid (HSy.out.keep (keeps_alloc w107 (.cells #[.int .i64 xy, .bool fy, .slice Ay ny cy] 27)))
  have HVy := Lib.hid (Blk.new w107 27 #[.int .i64 xy, .bool fy, .slice Ay ny cy])
  obtain ⟨Vy, HXy⟩ : ∃ z, Hid (w107.heap.size = z) := ⟨_, rfl⟩
  rw [HXy.out] at HVy
  replace hB := hB.alloc hB.size (.cells #[.int .i64 xy, .bool fy, .slice Ay ny cy] 27)
  replace hc := hc.below ((Below.refl _ _).alloc (Nat.le_refl _) (.cells #[.int .i64 xy, .bool fy, .slice Ay ny cy] 27))
  go_upto_region 6 with fail
  rw [HXy.out]
  generalize hWW : (w107.alloc (.cells #[.int .i64 xy, .bool fy, .slice Ay ny cy] 27)) = WW8 at *
  clear hWW
  go_wp2_with fail
  refine (cregion_any g nl (by omega) _ hc).mono ?_
  rintro e w9 ⟨xb, fb, Ab, nb, cb, rb, rfl, hSb, hOb, hWb, hFb, hc9, hb9⟩
  have hxb := hSb.hw
  obtain rfl : xb = (nl : Int) := by omega
  clear hxb
  replace HSa := Lib.hid (HSa.out.case hc hb9)
  replace HVa := Lib.hid (HVa.out.but hb9 (hc.ne HVa.out (by decide)))
  replace HSx := Lib.hid (HSx.out.case hc hb9)
  replace HVx := Lib.hid (HVx.out.but hb9 (hc.ne HVx.out (by decide)))
  replace HSy := Lib.hid (HSy.out.case hc hb9)
  replace HVy := Lib.hid (HVy.out.but hb9 (hc.ne HVy.out (by decide)))
  replace hB := hb9.below hB hB.size (fun k hk => by subst hk; exact hg)
  replace HCll := Lib.hid (HCll.out.case hb9)
  replace hc := hc9
  have HSb := Lib.hid hSb
  have HKb := Lib.hid (And.intro hOb (And.intro hWb hFb))
  clear hb9 hSb hOb hWb hFb
  replace HCll := Lib.hid (HCll.out.below ((Below.refl _ _).alloc (Nat.le_refl _) (.cells #[.int .i64 (nl : Int), .bool fb, .slice Ab nb cb] 27)))
  replace HSa := Lib.hid (HSa.out.keep (keeps_alloc w9 (.cells #[.int .i64 (nl : Int), .bool fb, .slice Ab nb cb] 27)))
  replace HVa := Lib.hid (HVa.out.alloc (.cells #[.int .i64 (nl : Int), .bool fb, .slice Ab nb cb] 27))
  replace HSx := Lib.hid (HSx.out.keep (keeps_alloc w9 (.cells #[.int .i64 (nl : Int), .bool fb, .slice Ab nb cb] 27)))
  replace HVx := Lib.hid (HVx.out.alloc (.cells #[.int .i64 (nl : Int), .bool fb, .slice Ab nb cb] 27))
  replace HSy := Lib.hid (HSy.out.keep (keeps_alloc w9 (.cells #[.int .i64 (nl : Int), .bool fb, .slice Ab nb cb] 27)))
  replace HVy := Lib.hid (HVy.out.alloc (.cells #[.int .i64 (nl : Int), .bool fb, .slice Ab nb cb] 27))
  replace HSb := Lib.hid (HSb.out.keep (keeps_alloc w9 (.cells #[.int .i64 (nl : Int), .bool fb, .slice Ab nb cb] 27)))
  have HVb := Lib.hid (Blk.new w9 27 #[.int .i64 (nl : Int), .bool fb, .slice Ab nb cb])
  obtain ⟨Vb, HXb⟩ : ∃ z, Hid (w9.heap.size = z) := ⟨_, rfl⟩
  rw [HXb.out] at HVb
  replace hB := hB.alloc hB.size (.cells #[.int .i64 (nl : Int), .bool fb, .slice Ab nb cb] 27)
  replace hc := hc.below ((Below.refl _ _).alloc (Nat.le_refl _) (.cells #[.int .i64 (nl : Int), .bool fb, .slice Ab nb cb] 27))
  go_upto_region 7 with fail
  rw [HXb.out]
  generalize hWW : (w9.alloc (.cells #[.int .i64 (nl : Int), .bool fb, .slice Ab nb cb] 27)) = WW10 at *
  clear hWW
  have za := HVa.out.cell
  have zb := HVb.out.cell
  go_wp2_with fail
  refine (glift_any rb (nl : Int) fb Ab nb cb Al nl cl csl (wd : Int) _ HSb.out HKb.out.2.2 HCll.out.sl).mono ?_
  rintro e w111 ⟨xz, fz, Az, nz, cz, rfl, hSz, hb11⟩
  obtain ⟨ez, Hez⟩ : ∃ z, Hid (lfE rb csl (wd : Int) = z) := ⟨_, rfl⟩
  obtain ⟨rz, Hrz⟩ : ∃ z, Hid (lfR rb csl (wd : Int) = z) := ⟨_, rfl⟩
  rw [Hez.out]
  rw [Hrz.out] at hSz
  clear zb
  replace HSa := Lib.hid (HSa.out.keep (keeps_of hb11))
  replace HVa := Lib.hid (HVa.out.below hb11)
  replace HSx := Lib.hid (HSx.out.keep (keeps_of hb11))
  replace HVx := Lib.hid (HVx.out.below hb11)
  replace HSy := Lib.hid (HSy.out.keep (keeps_of hb11))
  replace HVy := Lib.hid (HVy.out.below hb11)
  replace HSb := Lib.hid (HSb.out.keep (keeps_of hb11))
  replace HVb := Lib.hid (HVb.out.below hb11)
  replace hB := Below.next hB hb11
  replace hc := hc.below hb11
  replace HCll := Lib.hid (HCll.out.below hb11)
  have HSz := Lib.hid hSz
  clear hSz hb11
  replace HCll := Lib.hid (HCll.out.below ((Below.refl _ _).alloc (Nat.le_refl _) (.cells #[.int .i64 xz, .bool fz, .slice Az nz cz] 27)))
  replace HSa := Lib.hid (HSa.out.keep (keeps_alloc w111 (.cells #[.int .i64 xz, .bool fz, .slice Az nz cz] 27)))
  replace HVa := Lib.hid (HVa.out.alloc (.cells #[.int .i64 xz, .bool fz, .slice Az nz cz] 27))
  replace HSx := Lib.hid (HSx.out.keep (keeps_alloc w111 (.cells #[.int .i64 xz, .bool fz, .slice Az nz cz] 27)))
  replace HVx := Lib.hid (HVx.out.alloc (.cells #[.int .i64 xz, .bool fz, .slice Az nz cz] 27))
  replace HSy := Lib.hid (HSy.out.keep (keeps_alloc w111 (.cells #[.int .i64 xz, .bool fz, .slice Az nz cz] 27)))
  replace HVy := Lib.hid (HVy.out.alloc (.cells #[.int .i64 xz, .bool fz, .slice Az nz cz] 27))
  replace HSb := Lib.hid (HSb.out.keep (keeps_alloc w111 (.cells #[.int .i64 xz, .bool fz, .slice Az nz cz] 27)))
  replace HVb := Lib.hid (HVb.out.alloc (.cells #[.int .i64 xz, .bool fz, .slice Az nz cz] 27))
  replace HSz := Lib.hid (HSz.out.keep (keeps_alloc w111 (.cells #[.int .i64 xz, .bool fz, .slice Az nz cz] 27)))
  have HVz := Lib.hid (Blk.new w111 27 #[.int .i64 xz, .bool fz, .slice Az nz cz])
  obtain ⟨Vz, HXz⟩ : ∃ z, Hid (w111.heap.size = z) := ⟨_, rfl⟩
  rw [HXz.out] at HVz
  replace hB := hB.alloc hB.size (.cells #[.int .i64 xz, .bool fz, .slice Az nz cz] 27)
  replace hc := hc.below ((Below.refl _ _).alloc (Nat.le_refl _) (.cells #[.int .i64 xz, .bool fz, .slice Az nz cz] 27))
  go_upto_region 8 with fail
  rw [HXz.out]
  generalize hWW : (w111.alloc (.cells #[.int .i64 xz, .bool fz, .slice Az nz cz] 27)) = WW12 at *
  clear hWW
  clear za
  have hwb : rb.w = (csl.length : Int) := by rw [HKb.out.2.1, HLl.out.1]
  have HX : Hid (ex = 0 ∨ ex = 2) := Lib.hid (by rw [← Hex.out]; exact (pj_spec HKa.out.1 HKa.out.2.1 HDl.out).1)
  have HY : Hid (ey = 0 ∨ ey = 2) := Lib.hid (by rw [← Hey.out]; exact (fa_spec HKa.out.1 HKa.out.2.1 HDl.out).1)
  have HZ : Hid (ez = 0 ∨ ez = 2) := Lib.hid (by rw [← Hez.out]; exact (lf_spec (N := wd) HKb.out.1 hwb (by omega) HDl.out).1)
  have HWB := Lib.hid hwb
  have HH := Lib.hid hc
  obtain ⟨i1, hi, hz0, hz1, hz2⟩ := info_parts info_vl
  clear hc hwb
  go_wp2_with fail
  go_loopw [13] (fun i wr => ∃ k : Nat, k ≤ 6 ∧ i = .int .i64 (k : Int) ∧ Hid (CaseAt wr g) ∧ Hid (But (· = g) WW12 wr)) (fun i _ => 6 - (intOf i).toNat)
  case atStart => exact ⟨0, by omega, rfl, HH, Lib.hid (But.refl _ _)⟩
  case round =>
    obtain ⟨k, hk, rfl, HC, HM⟩ := hrel
    replace HSa := Lib.hid (HSa.out.case HH.out HM.out)
    replace HVa := Lib.hid (HVa.out.but HM.out (HH.out.ne HVa.out (by decide)))
    replace HSx := Lib.hid (HSx.out.case HH.out HM.out)
    replace HVx := Lib.hid (HVx.out.but HM.out (HH.out.ne HVx.out (by decide)))
    replace HSy := Lib.hid (HSy.out.case HH.out HM.out)
    replace HVy := Lib.hid (HVy.out.but HM.out (HH.out.ne HVy.out (by decide)))
    replace HSb := Lib.hid (HSb.out.case HH.out HM.out)
    replace HVb := Lib.hid (HVb.out.but HM.out (HH.out.ne HVb.out (by decide)))
    replace HSz := Lib.hid (HSz.out.case HH.out HM.out)
    replace HVz := Lib.hid (HVz.out.but HM.out (HH.out.ne HVz.out (by decide)))
    replace HCll := Lib.hid (HCll.out.case HM.out)
    replace hB := HM.out.below hB hB.size (fun k hk => by subst hk; exact hg)
    by_cases hlt : k < 6
    · clear hB
      have za := HVa.out.cell
      go_wp2_with fail
      refine (gcells_any g wd (by omega) _ HC.out).mono ?_
      rintro e w20 ⟨B, mr, cr, row, rfl, hml, hmw, hval, hown, hrow, hc1, hb1⟩
      clear za
      have HGR : Hid (goodRow wd row) := Lib.hid ⟨by omega, hval⟩
      replace HSa := Lib.hid (HSa.out.case HC.out hb1)
      replace HVa := Lib.hid (HVa.out.but hb1 (HC.out.ne HVa.out (by decide)))
      replace HSx := Lib.hid (HSx.out.case HC.out hb1)
      replace HVx := Lib.hid (HVx.out.but hb1 (HC.out.ne HVx.out (by decide)))
      replace HSy := Lib.hid (HSy.out.case HC.out hb1)
      replace HVy := Lib.hid (HVy.out.but hb1 (HC.out.ne HVy.out (by decide)))
      replace HSb := Lib.hid (HSb.out.case HC.out hb1)
      replace HVb := Lib.hid (HVb.out.but hb1 (HC.out.ne HVb.out (by decide)))
      replace HSz := Lib.hid (HSz.out.case HC.out hb1)
      replace HVz := Lib.hid (HVz.out.but hb1 (HC.out.ne HVz.out (by decide)))
      replace HCll := Lib.hid (HCll.out.case hb1)
      replace HM := Lib.hid (HM.out.trans hb1)
      replace HC := Lib.hid hc1
      have HRow := Lib.hid hrow
      clear hval hown hrow hc1 hb1 HH hml hmw
      go_upto_region 12 with fail
      have za := HVa.out.cell
      go_wp2_with fail
      refine (gleast_any ra (wd : Int) fa Aa na ca _ HSa.out).mono ?_
      rintro e w21 ⟨AL, nL, cL, rfl, hVL, hncL, hbL⟩
      clear za
      replace HSa := Lib.hid (HSa.out.keep (keeps_of hbL))
      replace HVa := Lib.hid (HVa.out.below hbL)
      replace HSx := Lib.hid (HSx.out.keep (keeps_of hbL))
      replace HVx := Lib.hid (HVx.out.below hbL)
      replace HSy := Lib.hid (HSy.out.keep (keeps_of hbL))
      replace HVy := Lib.hid (HVy.out.below hbL)
      replace HSb := Lib.hid (HSb.out.keep (keeps_of hbL))
      replace HVb := Lib.hid (HVb.out.below hbL)
      replace HSz := Lib.hid (HSz.out.keep (keeps_of hbL))
      replace HVz := Lib.hid (HVz.out.below hbL)
      replace HRow := Lib.hid (HRow.out.keep (keeps_of hbL))
      replace HCll := Lib.hid (HCll.out.below hbL)
      replace HM := Lib.hid (gbut_belowB HM.out hbL HM.out.size)
      replace HC := Lib.hid (HC.out.below hbL)
      have HVL := Lib.hid hVL
      obtain ⟨kb, Hkb⟩ : ∃ z, Hid (lstB ra = z) := ⟨_, rfl⟩
      rw [Hkb.out]
      obtain ⟨tk, Htk⟩ : ∃ z, Hid ((kb && decide (k = 0)) = z) := ⟨_, rfl⟩
      clear hVL hbL hncL
      go_upto_region 13 with fail
      refine wp_region_lit ?_
      refine wpList_at 5 [68, 69, 70, 71, 72] (fun us w8 => us 72 = .bool tk ∧ w8 = w21) ?_ ?_
      · simp only [List.take_succ_cons, List.take_zero]
        cases kb
        · obtain rfl : tk = false := Htk.out.symm
          go_wp2_with fail
          exact EndAt.intro ⟨rfl, rfl⟩ (by kernel_rfl)
        · by_cases hk0 : k = 0
          · obtain rfl : tk = true := by have h := Htk.out; rw [decide_eq_true hk0] at h; exact h.symm
            subst hk0
            go_wp2_with fail
            exact EndAt.intro ⟨rfl, rfl⟩ (by kernel_rfl)
          · obtain rfl : tk = false := by have h := Htk.out; rw [decide_eq_false hk0] at h; exact h.symm
            have g3 : ((k : Int) == 0) = false := by simp; omega
            go_wp2_with fail
            exact EndAt.intro ⟨rfl, rfl⟩ (by kernel_rfl)
      rintro us1 w22 ⟨h72, rfl⟩
      simp only [List.drop_succ_cons, List.drop_zero, overU, List.foldl]
      go_simp
      go_upto_if 72 with fail
      go_cut [14] (fun u wx => wx = w22 ∧ ∃ (B : Option Addr) (mr cr : Nat) (row : List Vl), u = .slice B mr cr ∧ Hid (goodRow wd row) ∧ Hid (VlS w22 B mr row))
      case first =>
        cases tk
        · go_wp2_with fail
          go_meet
          case rel => exact ⟨rfl, _, _, _, _, rfl, HGR, HRow⟩
        · have hkb : lstB ra = true := by
            have h := Htk.out
            rw [← Hkb.out] at h
            simp only [Bool.and_eq_true] at h
            exact h.1
          have HGL := Lib.hid (lst_good HKa.out.1 HKa.out.2.1 hkb)
          clear hkb
          go_wp2_with fail
          go_meet
          case rel => exact ⟨rfl, _, _, _, _, rfl, HGL, HVL⟩
      case rest =>
        clear h72 HGR HRow HVL Htk Hkb
        obtain ⟨rfl, B, mr, cr, row, rfl, HGR, HRow⟩ := hcut
        go_wp2_with fail
        go_loopw [17, 76] (fun p i wr => ∃ (j : Nat) (Ap : Option Addr) (cp : Nat), j ≤ nl ∧ i = .int .i64 (j : Int) ∧ p = .slice Ap j cp ∧ Hid (wr.ownsRow wc.heap.size 49 3 (.slice Ap j cp) j ((pickV (csl.take j) row).flatMap Vl.cs)) ∧ Hid (Below wc.heap.size wc wr)) (fun _ i _ => nl - (intOf i).toNat)
        case atStart => exact ⟨0, none, 0, by omega, rfl, rfl, Lib.hid ⟨by simp [pickV], .inl ⟨rfl, rfl⟩⟩, Lib.hid (Below.refl _ _)⟩
        case round =>
          obtain ⟨j, Ap, cp, hj, rfl, rfl, HO, HN⟩ := hrel
          by_cases hjl : j < nl
          · have HSl := Lib.hid (HCll.out.sl.keep (keeps_of HN.out))
            have HSr := Lib.hid (HRow.out.keep (keeps_of HN.out))
            obtain ⟨bl, ol, x, rfl, hd, hdc⟩ := HSl.out.at hjl
            have dl := hdc 0 _ rfl
            simp only [Nat.mul_one, Nat.add_zero] at dl
            obtain ⟨i, rfl, hi7⟩ := dst_at HDl.out hd
            obtain ⟨br, orr, ⟨vk, vi, vt⟩, rfl, hx, hxc⟩ := HSr.out.at (show i < mr by have h1 := HSr.out.1; have h2 := HGR.out.1; omega)
            obtain ⟨d0, d1, d2⟩ := VlAt.of hxc
            dsimp only at d0 d1 d2
            have him : i < mr := by have h1 := HSr.out.1; have h2 := HGR.out.1; omega
            have Ht := Lib.hid (take_snocI hd)
            have Hx := Lib.hid hx
            have hsz : wc.heap.size ≤ wr.heap.size := HN.out.size
            clear hd hdc hx hxc hi7
            go_wp2_with (at_builtin; refine wpList_append_one2 (by rfl) (.tmp 80) (.tmp 85) _ (by rfl) wc.heap.size 49 i1 _ 3 32 Tryz.underlying44 hi hz0 hz1 hz2 (by rfl) (by omega) (.slice Ap j cp) j _ (by rfl) wr _ HO.out wr.heap.size (by rfl) (by rfl) (by rfl) (one_vl ⟨vk, vi, vt⟩) (by simp only [maxLen]; omega) (by omega) hsz ?_; intro g6 cap6 w6 hown6 hg6 hB6 hat6 hlt6)
            go_roundw
            case rel =>
              refine ⟨j + 1, some ⟨g6, 0, none⟩, cap6, by omega, by go_num, rfl, Lib.hid ?_, Lib.hid (below_then HN.out hB6 (Nat.le_refl _))⟩
              rw [Ht.out]
              have e : pickV (csl.take j ++ [(i : Int)]) row = pickV (csl.take j) row ++ [⟨vk, vi, vt⟩] := by simp [pickV, List.getD_eq_getElem?_getD, Hx.out]
              rw [e, List.flatMap_append]
              exact hown6
            case measure => simp [intOf]; omega
          · obtain rfl : nl = j := by omega
            have hcut : pickV (csl.take nl) row = pickV csl row := by rw [HLl.out.1, List.take_length]
            have HOp : Hid (VlS wr Ap nl (pickV csl row)) := Lib.hid (by have h := HO.out; rw [hcut] at h; exact Sl.of_own Vl.cs_len (by rw [HLl.out.1]; simp [pickV]) h)
            have HPP := Lib.hid (extends_plain HKa.out.1 HKa.out.2.1 HDl.out HKb.out.1 HWB.out HGR.out)
            rw [Hex.out, Hrx.out, Hey.out, Hry.out, Hez.out, Hrz.out] at HPP
            obtain ⟨dx, Hdx⟩ : ∃ z, Hid (hasR ra row = z) := ⟨_, rfl⟩
            obtain ⟨dp, Hdp⟩ : ∃ z, Hid (hasR rx (pickV csl row) = z) := ⟨_, rfl⟩
            obtain ⟨dy, Hdy⟩ : ∃ z, Hid (hasR ry (pickV csl row) = z) := ⟨_, rfl⟩
            obtain ⟨dz, Hdz⟩ : ∃ z, Hid (hasR rb (pickV csl row) = z) := ⟨_, rfl⟩
            obtain ⟨dt, Hdt⟩ : ∃ z, Hid (hasR rz row = z) := ⟨_, rfl⟩
            rw [Hdx.out, Hdp.out, Hdy.out, Hdz.out, Hdt.out] at HPP
            clear hcut HO
            replace HSa := Lib.hid (HSa.out.keep (keeps_of HN.out))
            replace HVa := Lib.hid (HVa.out.below HN.out)
            replace HSx := Lib.hid (HSx.out.keep (keeps_of HN.out))
            replace HVx := Lib.hid (HVx.out.below HN.out)
            replace HSy := Lib.hid (HSy.out.keep (keeps_of HN.out))
            replace HVy := Lib.hid (HVy.out.below HN.out)
            replace HSb := Lib.hid (HSb.out.keep (keeps_of HN.out))
            replace HVb := Lib.hid (HVb.out.below HN.out)
            replace HSz := Lib.hid (HSz.out.keep (keeps_of HN.out))
            replace HVz := Lib.hid (HVz.out.below HN.out)
            replace HRow := Lib.hid (HRow.out.keep (keeps_of HN.out))
            replace HCll := Lib.hid (HCll.out.below HN.out)
            replace HM := Lib.hid (gbut_belowB HM.out HN.out HM.out.size)
            replace HC := Lib.hid (HC.out.below HN.out)
            clear HN
            go_upto_region 21 with fail
            go_cut [128] (fun v w8 => v = .bool false ∧ Hid (Below wr.heap.size wr w8))
            case first =>
              refine wp_region_plan (fun _ => False) (.one [0, 1, 2, 3, 4] 5 (.one [6, 7, 8, 9] 10 (.one [11, 12, 13, 14, 15, 16, 17, 18] 19 (.one [20, 21, 22, 23] 24 (.one [25, 26, 27, 28, 29, 30, 31, 32, 33, 35, 36] 34 (.one [] 37 (.last [38, 39, 40]))))))) (by kernel_rfl) (by kernel_rfl) (fun _ _ d _ _ h => by cases d <;> exact h) ?_
              have hbd : Below wr.heap.size wr wr.drew := (Below.refl _ _).drew
              have HA : Hid (ExS _ _ _ _ _ _ _ _ _ _ _ _ _ _ _ _ _ _ _ _ _ _ _ _ _ _ _ _ _ _ _ _ _ _ _ _ _ _ _ _ _ wr.drew) := Lib.hid (ExS.below ⟨HSa.out, HVa.out, HSx.out, HVx.out, HSy.out, HVy.out, HSb.out, HVb.out, HSz.out, HVz.out, HRow.out, HOp.out⟩ hbd)
              have HE := Lib.hid hbd
              clear hbd HCll HM HC HRow HOp HSa HVa HSx HVx HSy HVy HSb HVb HSz HVz
              generalize hWd : World.drew _ = Wd at *
              clear hWd
              rcases HX.out with rfl | rfl
              · cases dx
                · skip
                  have qa : ∀ (y : LaterS (fun _ => False) Wd) z, (afterS (fun _ => False) Wd y).cell? ⟨Va, z, none⟩ = (#[.int .i64 (wd : Int), .bool fa, .slice Aa na ca] : Array Value)[z]? := fun y z => (HA.out.va.but y.but (fun h => h)).cell z
                  unfold wpPlan
                  simp only [pickOps, opAt, List.map_cons, List.map_nil, List.getElem?_toArray, List.getElem?_cons_zero, List.getElem?_cons_succ, Option.getD_some]
                  repeat (go_big_quiet_step (fail))
                  refine wpQuiet_nil ?_
                  clear qa
                  go_wp2_with fail
                  refine (ghas_any ra (wd : Int) fa Aa na ca row B mr cr _ HA.out.sa HA.out.row).mono ?_
                  rintro e w31 ⟨rfl, hb⟩
                  rw [Hdx.out]
                  go_wp2_with fail
                  refine ⟨But.of_below hb, ?_⟩
                  replace HA := Lib.hid (HA.out.below hb)
                  replace HE := Lib.hid (Below.next HE.out hb)
                  clear hb
                  unfold wpPlan
                  simp only [pickOps, opAt, List.map_cons, List.map_nil, List.getElem?_toArray, List.getElem?_cons_zero, List.getElem?_cons_succ, Option.getD_some]
                  repeat (go_big_quiet_step (fail))
                  refine wpQuiet_nil ?_
                  go_wp2_with fail
                  refine ⟨But.refl _ _, ?_⟩
                  rcases HY.out with rfl | rfl
                  · cases dy
                    · skip
                      have qy : ∀ (y : LaterS (fun _ => False) w31) z, (afterS (fun _ => False) w31 y).cell? ⟨Vy, z, none⟩ = (#[.int .i64 xy, .bool fy, .slice Ay ny cy] : Array Value)[z]? := fun y z => (HA.out.vy.but y.but (fun h => h)).cell z
                      unfold wpPlan
                      simp only [pickOps, opAt, List.map_cons, List.map_nil, List.getElem?_toArray, List.getElem?_cons_zero, List.getElem?_cons_succ, Option.getD_some]
                      repeat (go_big_quiet_step (fail))
                      refine wpQuiet_nil ?_
                      clear qy
                      go_wp2_with fail
                      refine (ghas_any ry xy fy Ay ny cy (pickV csl row) Ap nl cp _ HA.out.sy HA.out.op).mono ?_
                      rintro e w32 ⟨rfl, hb⟩
                      rw [Hdy.out]
                      go_wp2_with fail
                      refine ⟨But.of_below hb, ?_⟩
                      replace HA := Lib.hid (HA.out.below hb)
                      replace HE := Lib.hid (Below.next HE.out hb)
                      clear hb
                      unfold wpPlan
                      simp only [pickOps, opAt, List.map_cons, List.map_nil, List.getElem?_toArray, List.getElem?_cons_zero, List.getElem?_cons_succ, Option.getD_some]
                      repeat (go_big_quiet_step (fail))
                      refine wpQuiet_nil ?_
                      go_wp2_with fail
                      refine ⟨But.refl _ _, ?_⟩
                      rcases HZ.out with rfl | rfl
                      · obtain rfl : dt = dz := HPP.out.2.2 rfl
                        cases dt
                        · skip
                          have qz : ∀ (y : LaterS (fun _ => False) w32) z, (afterS (fun _ => False) w32 y).cell? ⟨Vz, z, none⟩ = (#[.int .i64 xz, .bool fz, .slice Az nz cz] : Array Value)[z]? := fun y z => (HA.out.vz.but y.but (fun h => h)).cell z
                          have qb : ∀ (y : LaterS (fun _ => False) w32) z, (afterS (fun _ => False) w32 y).cell? ⟨Vb, z, none⟩ = (#[.int .i64 (nl : Int), .bool fb, .slice Ab nb cb] : Array Value)[z]? := fun y z => (HA.out.vb.but y.but (fun h => h)).cell z
                          unfold wpPlan
                          simp only [pickOps, opAt, List.map_cons, List.map_nil, List.getElem?_toArray, List.getElem?_cons_zero, List.getElem?_cons_succ, Option.getD_some]
                          repeat (go_big_quiet_step (fail))
                          refine wpQuiet_nil ?_
                          clear qz qb
                          go_wp2_with fail
                          refine (ghas_any rz xz fz Az nz cz row B mr cr _ HA.out.sz HA.out.row).mono ?_
                          rintro e w33 ⟨rfl, hb⟩
                          rw [Hdt.out]
                          go_wp2_with fail
                          refine ⟨But.of_below hb, ?_⟩
                          replace HA := Lib.hid (HA.out.below hb)
                          replace HE := Lib.hid (Below.next HE.out hb)
                          clear hb
                          unfold wpPlan
                          simp only [pickOps, opAt, List.map_nil, List.getElem?_toArray, List.getElem?_cons_zero, List.getElem?_cons_succ, Option.getD_some]
                          repeat (go_big_quiet_step (fail))
                          refine wpQuiet_nil ?_
                          go_wp2_with fail
                          refine (ghas_any rb (nl : Int) fb Ab nb cb (pickV csl row) Ap nl cp _ HA.out.sb HA.out.op).mono ?_
                          rintro e w34 ⟨rfl, hb⟩
                          rw [Hdz.out]
                          go_wp2_with fail
                          refine ⟨But.of_below hb, ?_⟩
                          replace HA := Lib.hid (HA.out.below hb)
                          replace HE := Lib.hid (Below.next HE.out hb)
                          clear hb
                          unfold wpPlan
                          simp only [pickOps, opAt, List.map_cons, List.map_nil, List.getElem?_toArray, List.getElem?_cons_zero, List.getElem?_cons_succ, Option.getD_some]
                          repeat (go_big_quiet_step (fail))
                          refine wpQuiet_nil ?_
                          go_wp2_with fail
                          go_meet
                          case rel => exact ⟨rfl, HE⟩
                        · skip
                          have qz : ∀ (y : LaterS (fun _ => False) w32) z, (afterS (fun _ => False) w32 y).cell? ⟨Vz, z, none⟩ = (#[.int .i64 xz, .bool fz, .slice Az nz cz] : Array Value)[z]? := fun y z => (HA.out.vz.but y.but (fun h => h)).cell z
                          have qb : ∀ (y : LaterS (fun _ => False) w32) z, (afterS (fun _ => False) w32 y).cell? ⟨Vb, z, none⟩ = (#[.int .i64 (nl : Int), .bool fb, .slice Ab nb cb] : Array Value)[z]? := fun y z => (HA.out.vb.but y.but (fun h => h)).cell z
                          unfold wpPlan
                          simp only [pickOps, opAt, List.map_cons, List.map_nil, List.getElem?_toArray, List.getElem?_cons_zero, List.getElem?_cons_succ, Option.getD_some]
                          repeat (go_big_quiet_step (fail))
                          refine wpQuiet_nil ?_
                          clear qz qb
                          go_wp2_with fail
                          refine (ghas_any rz xz fz Az nz cz row B mr cr _ HA.out.sz HA.out.row).mono ?_
                          rintro e w35 ⟨rfl, hb⟩
                          rw [Hdt.out]
                          go_wp2_with fail
                          refine ⟨But.of_below hb, ?_⟩
                          replace HA := Lib.hid (HA.out.below hb)
                          replace HE := Lib.hid (Below.next HE.out hb)
                          clear hb
                          unfold wpPlan
                          simp only [pickOps, opAt, List.map_nil, List.getElem?_toArray, List.getElem?_cons_zero, List.getElem?_cons_succ, Option.getD_some]
                          repeat (go_big_quiet_step (fail))
                          refine wpQuiet_nil ?_
                          go_wp2_with fail
                          refine (ghas_any rb (nl : Int) fb Ab nb cb (pickV csl row) Ap nl cp _ HA.out.sb HA.out.op).mono ?_
                          rintro e w36 ⟨rfl, hb⟩
                          rw [Hdz.out]
                          go_wp2_with fail
                          refine ⟨But.of_below hb, ?_⟩
                          replace HA := Lib.hid (HA.out.below hb)
                          replace HE := Lib.hid (Below.next HE.out hb)
                          clear hb
                          unfold wpPlan
                          simp only [pickOps, opAt, List.map_cons, List.map_nil, List.getElem?_toArray, List.getElem?_cons_zero, List.getElem?_cons_succ, Option.getD_some]
                          repeat (go_big_quiet_step (fail))
                          refine wpQuiet_nil ?_
                          go_wp2_with fail
                          go_meet
                          case rel => exact ⟨rfl, HE⟩
                      · skip
                        unfold wpPlan
                        simp only [pickOps, opAt, List.map_cons, List.map_nil, List.getElem?_toArray, List.getElem?_cons_zero, List.getElem?_cons_succ, Option.getD_some]
                        repeat (go_big_quiet_step (fail))
                        refine wpQuiet_nil ?_
                        go_wp2_with fail
                        refine ⟨But.refl _ _, ?_⟩
                        unfold wpPlan
                        simp only [pickOps, opAt, List.map_nil, List.getElem?_toArray, List.getElem?_cons_zero, List.getElem?_cons_succ, Option.getD_some]
                        repeat (go_big_quiet_step (fail))
                        refine wpQuiet_nil ?_
                        go_wp2_with fail
                        refine ⟨But.refl _ _, ?_⟩
                        unfold wpPlan
                        simp only [pickOps, opAt, List.map_cons, List.map_nil, List.getElem?_toArray, List.getElem?_cons_zero, List.getElem?_cons_succ, Option.getD_some]
                        repeat (go_big_quiet_step (fail))
                        refine wpQuiet_nil ?_
                        go_wp2_with fail
                        go_meet
                        case rel => exact ⟨rfl, HE⟩
                    · exact absurd (HPP.out.2.1 rfl rfl) (by decide)
                  · skip
                    unfold wpPlan
                    simp only [pickOps, opAt, List.map_cons, List.map_nil, List.getElem?_toArray, List.getElem?_cons_zero, List.getElem?_cons_succ, Option.getD_some]
                    repeat (go_big_quiet_step (fail))
                    refine wpQuiet_nil ?_
                    go_wp2_with fail
                    refine ⟨But.refl _ _, ?_⟩
                    unfold wpPlan
                    simp only [pickOps, opAt, List.map_cons, List.map_nil, List.getElem?_toArray, List.getElem?_cons_zero, List.getElem?_cons_succ, Option.getD_some]
                    repeat (go_big_quiet_step (fail))
                    refine wpQuiet_nil ?_
                    go_wp2_with fail
                    refine ⟨But.refl _ _, ?_⟩
                    rcases HZ.out with rfl | rfl
                    · obtain rfl : dt = dz := HPP.out.2.2 rfl
                      cases dt
                      · skip
                        have qz : ∀ (y : LaterS (fun _ => False) w31) z, (afterS (fun _ => False) w31 y).cell? ⟨Vz, z, none⟩ = (#[.int .i64 xz, .bool fz, .slice Az nz cz] : Array Value)[z]? := fun y z => (HA.out.vz.but y.but (fun h => h)).cell z
                        have qb : ∀ (y : LaterS (fun _ => False) w31) z, (afterS (fun _ => False) w31 y).cell? ⟨Vb, z, none⟩ = (#[.int .i64 (nl : Int), .bool fb, .slice Ab nb cb] : Array Value)[z]? := fun y z => (HA.out.vb.but y.but (fun h => h)).cell z
                        unfold wpPlan
                        simp only [pickOps, opAt, List.map_cons, List.map_nil, List.getElem?_toArray, List.getElem?_cons_zero, List.getElem?_cons_succ, Option.getD_some]
                        repeat (go_big_quiet_step (fail))
                        refine wpQuiet_nil ?_
                        clear qz qb
                        go_wp2_with fail
                        refine (ghas_any rz xz fz Az nz cz row B mr cr _ HA.out.sz HA.out.row).mono ?_
                        rintro e w37 ⟨rfl, hb⟩
                        rw [Hdt.out]
                        go_wp2_with fail
                        refine ⟨But.of_below hb, ?_⟩
                        replace HA := Lib.hid (HA.out.below hb)
                        replace HE := Lib.hid (Below.next HE.out hb)
                        clear hb
                        unfold wpPlan
                        simp only [pickOps, opAt, List.map_nil, List.getElem?_toArray, List.getElem?_cons_zero, List.getElem?_cons_succ, Option.getD_some]
                        repeat (go_big_quiet_step (fail))
                        refine wpQuiet_nil ?_
                        go_wp2_with fail
                        refine (ghas_any rb (nl : Int) fb Ab nb cb (pickV csl row) Ap nl cp _ HA.out.sb HA.out.op).mono ?_
                        rintro e w38 ⟨rfl, hb⟩
                        rw [Hdz.out]
                        go_wp2_with fail
                        refine ⟨But.of_below hb, ?_⟩
                        replace HA := Lib.hid (HA.out.below hb)
                        replace HE := Lib.hid (Below.next HE.out hb)
                        clear hb
                        unfold wpPlan
                        simp only [pickOps, opAt, List.map_cons, List.map_nil, List.getElem?_toArray, List.getElem?_cons_zero, List.getElem?_cons_succ, Option.getD_some]
                        repeat (go_big_quiet_step (fail))
                        refine wpQuiet_nil ?_
                        go_wp2_with fail
                        go_meet
                        case rel => exact ⟨rfl, HE⟩
                      · skip
                        have qz : ∀ (y : LaterS (fun _ => False) w31) z, (afterS (fun _ => False) w31 y).cell? ⟨Vz, z, none⟩ = (#[.int .i64 xz, .bool fz, .slice Az nz cz] : Array Value)[z]? := fun y z => (HA.out.vz.but y.but (fun h => h)).cell z
                        have qb : ∀ (y : LaterS (fun _ => False) w31) z, (afterS (fun _ => False) w31 y).cell? ⟨Vb, z, none⟩ = (#[.int .i64 (nl : Int), .bool fb, .slice Ab nb cb] : Array Value)[z]? := fun y z => (HA.out.vb.but y.but (fun h => h)).cell z
                        unfold wpPlan
                        simp only [pickOps, opAt, List.map_cons, List.map_nil, List.getElem?_toArray, List.getElem?_cons_zero, List.getElem?_cons_succ, Option.getD_some]
                        repeat (go_big_quiet_step (fail))
                        refine wpQuiet_nil ?_
                        clear qz qb
                        go_wp2_with fail
                        refine (ghas_any rz xz fz Az nz cz row B mr cr _ HA.out.sz HA.out.row).mono ?_
                        rintro e w39 ⟨rfl, hb⟩
                        rw [Hdt.out]
                        go_wp2_with fail
                        refine ⟨But.of_below hb, ?_⟩
                        replace HA := Lib.hid (HA.out.below hb)
                        replace HE := Lib.hid (Below.next HE.out hb)
                        clear hb
                        unfold wpPlan
                        simp only [pickOps, opAt, List.map_nil, List.getElem?_toArray, List.getElem?_cons_zero, List.getElem?_cons_succ, Option.getD_some]
                        repeat (go_big_quiet_step (fail))
                        refine wpQuiet_nil ?_
                        go_wp2_with fail
                        refine (ghas_any rb (nl : Int) fb Ab nb cb (pickV csl row) Ap nl cp _ HA.out.sb HA.out.op).mono ?_
                        rintro e w40 ⟨rfl, hb⟩
                        rw [Hdz.out]
                        go_wp2_with fail
                        refine ⟨But.of_below hb, ?_⟩
                        replace HA := Lib.hid (HA.out.below hb)
                        replace HE := Lib.hid (Below.next HE.out hb)
                        clear hb
                        unfold wpPlan
                        simp only [pickOps, opAt, List.map_cons, List.map_nil, List.getElem?_toArray, List.getElem?_cons_zero, List.getElem?_cons_succ, Option.getD_some]
                        repeat (go_big_quiet_step (fail))
                        refine wpQuiet_nil ?_
                        go_wp2_with fail
                        go_meet
                        case rel => exact ⟨rfl, HE⟩
                    · skip
                      unfold wpPlan
                      simp only [pickOps, opAt, List.map_cons, List.map_nil, List.getElem?_toArray, List.getElem?_cons_zero, List.getElem?_cons_succ, Option.getD_some]
                      repeat (go_big_quiet_step (fail))
                      refine wpQuiet_nil ?_
                      go_wp2_with fail
                      refine ⟨But.refl _ _, ?_⟩
                      unfold wpPlan
                      simp only [pickOps, opAt, List.map_nil, List.getElem?_toArray, List.getElem?_cons_zero, List.getElem?_cons_succ, Option.getD_some]
                      repeat (go_big_quiet_step (fail))
                      refine wpQuiet_nil ?_
                      go_wp2_with fail
                      refine ⟨But.refl _ _, ?_⟩
                      unfold wpPlan
                      simp only [pickOps, opAt, List.map_cons, List.map_nil, List.getElem?_toArray, List.getElem?_cons_zero, List.getElem?_cons_succ, Option.getD_some]
                      repeat (go_big_quiet_step (fail))
                      refine wpQuiet_nil ?_
                      go_wp2_with fail
                      go_meet
                      case rel => exact ⟨rfl, HE⟩
                · obtain rfl : dp = true := HPP.out.1 rfl rfl
                  have qa : ∀ (y : LaterS (fun _ => False) Wd) z, (afterS (fun _ => False) Wd y).cell? ⟨Va, z, none⟩ = (#[.int .i64 (wd : Int), .bool fa, .slice Aa na ca] : Array Value)[z]? := fun y z => (HA.out.va.but y.but (fun h => h)).cell z
                  unfold wpPlan
                  simp only [pickOps, opAt, List.map_cons, List.map_nil, List.getElem?_toArray, List.getElem?_cons_zero, List.getElem?_cons_succ, Option.getD_some]
                  repeat (go_big_quiet_step (fail))
                  refine wpQuiet_nil ?_
                  clear qa
                  go_wp2_with fail
                  refine (ghas_any ra (wd : Int) fa Aa na ca row B mr cr _ HA.out.sa HA.out.row).mono ?_
                  rintro e w41 ⟨rfl, hb⟩
                  rw [Hdx.out]
                  go_wp2_with fail
                  refine ⟨But.of_below hb, ?_⟩
                  replace HA := Lib.hid (HA.out.below hb)
                  replace HE := Lib.hid (Below.next HE.out hb)
                  clear hb
                  have qx : ∀ (y : LaterS (fun _ => False) w41) z, (afterS (fun _ => False) w41 y).cell? ⟨Vx, z, none⟩ = (#[.int .i64 xx, .bool fx, .slice Ax nx cx] : Array Value)[z]? := fun y z => (HA.out.vx.but y.but (fun h => h)).cell z
                  unfold wpPlan
                  simp only [pickOps, opAt, List.map_cons, List.map_nil, List.getElem?_toArray, List.getElem?_cons_zero, List.getElem?_cons_succ, Option.getD_some]
                  repeat (go_big_quiet_step (fail))
                  refine wpQuiet_nil ?_
                  clear qx
                  go_wp2_with fail
                  refine (ghas_any rx xx fx Ax nx cx (pickV csl row) Ap nl cp _ HA.out.sx HA.out.op).mono ?_
                  rintro e w42 ⟨rfl, hb⟩
                  rw [Hdp.out]
                  go_wp2_with fail
                  refine ⟨But.of_below hb, ?_⟩
                  replace HA := Lib.hid (HA.out.below hb)
                  replace HE := Lib.hid (Below.next HE.out hb)
                  clear hb
                  rcases HY.out with rfl | rfl
                  · cases dy
                    · skip
                      have qy : ∀ (y : LaterS (fun _ => False) w42) z, (afterS (fun _ => False) w42 y).cell? ⟨Vy, z, none⟩ = (#[.int .i64 xy, .bool fy, .slice Ay ny cy] : Array Value)[z]? := fun y z => (HA.out.vy.but y.but (fun h => h)).cell z
                      unfold wpPlan
                      simp only [pickOps, opAt, List.map_cons, List.map_nil, List.getElem?_toArray, List.getElem?_cons_zero, List.getElem?_cons_succ, Option.getD_some]
                      repeat (go_big_quiet_step (fail))
                      refine wpQuiet_nil ?_
                      clear qy
                      go_wp2_with fail
                      refine (ghas_any ry xy fy Ay ny cy (pickV csl row) Ap nl cp _ HA.out.sy HA.out.op).mono ?_
                      rintro e w43 ⟨rfl, hb⟩
                      rw [Hdy.out]
                      go_wp2_with fail
                      refine ⟨But.of_below hb, ?_⟩
                      replace HA := Lib.hid (HA.out.below hb)
                      replace HE := Lib.hid (Below.next HE.out hb)
                      clear hb
                      unfold wpPlan
                      simp only [pickOps, opAt, List.map_cons, List.map_nil, List.getElem?_toArray, List.getElem?_cons_zero, List.getElem?_cons_succ, Option.getD_some]
                      repeat (go_big_quiet_step (fail))
                      refine wpQuiet_nil ?_
                      go_wp2_with fail
                      refine ⟨But.refl _ _, ?_⟩
                      rcases HZ.out with rfl | rfl
                      · obtain rfl : dt = dz := HPP.out.2.2 rfl
                        cases dt
                        · skip
                          have qz : ∀ (y : LaterS (fun _ => False) w43) z, (afterS (fun _ => False) w43 y).cell? ⟨Vz, z, none⟩ = (#[.int .i64 xz, .bool fz, .slice Az nz cz] : Array Value)[z]? := fun y z => (HA.out.vz.but y.but (fun h => h)).cell z
                          have qb : ∀ (y : LaterS (fun _ => False) w43) z, (afterS (fun _ => False) w43 y).cell? ⟨Vb, z, none⟩ = (#[.int .i64 (nl : Int), .bool fb, .slice Ab nb cb] : Array Value)[z]? := fun y z => (HA.out.vb.but y.but (fun h => h)).cell z
                          unfold wpPlan
                          simp only [pickOps, opAt, List.map_cons, List.map_nil, List.getElem?_toArray, List.getElem?_cons_zero, List.getElem?_cons_succ, Option.getD_some]
                          repeat (go_big_quiet_step (fail))
                          refine wpQuiet_nil ?_
                          clear qz qb
                          go_wp2_with fail
                          refine (ghas_any rz xz fz Az nz cz row B mr cr _ HA.out.sz HA.out.row).mono ?_
                          rintro e w44 ⟨rfl, hb⟩
                          rw [Hdt.out]
                          go_wp2_with fail
                          refine ⟨But.of_below hb, ?_⟩
                          replace HA := Lib.hid (HA.out.below hb)
                          replace HE := Lib.hid (Below.next HE.out hb)
                          clear hb
                          unfold wpPlan
                          simp only [pickOps, opAt, List.map_nil, List.getElem?_toArray, List.getElem?_cons_zero, List.getElem?_cons_succ, Option.getD_some]
                          repeat (go_big_quiet_step (fail))
                          refine wpQuiet_nil ?_
                          go_wp2_with fail
                          refine (ghas_any rb (nl : Int) fb Ab nb cb (pickV csl row) Ap nl cp _ HA.out.sb HA.out.op).mono ?_
                          rintro e w45 ⟨rfl, hb⟩
                          rw [Hdz.out]
                          go_wp2_with fail
                          refine ⟨But.of_below hb, ?_⟩
                          replace HA := Lib.hid (HA.out.below hb)
                          replace HE := Lib.hid (Below.next HE.out hb)
                          clear hb
                          unfold wpPlan
                          simp only [pickOps, opAt, List.map_cons, List.map_nil, List.getElem?_toArray, List.getElem?_cons_zero, List.getElem?_cons_succ, Option.getD_some]
                          repeat (go_big_quiet_step (fail))
                          refine wpQuiet_nil ?_
                          go_wp2_with fail
                          go_meet
                          case rel => exact ⟨rfl, HE⟩
                        · skip
                          have qz : ∀ (y : LaterS (fun _ => False) w43) z, (afterS (fun _ => False) w43 y).cell? ⟨Vz, z, none⟩ = (#[.int .i64 xz, .bool fz, .slice Az nz cz] : Array Value)[z]? := fun y z => (HA.out.vz.but y.but (fun h => h)).cell z
                          have qb : ∀ (y : LaterS (fun _ => False) w43) z, (afterS (fun _ => False) w43 y).cell? ⟨Vb, z, none⟩ = (#[.int .i64 (nl : Int), .bool fb, .slice Ab nb cb] : Array Value)[z]? := fun y z => (HA.out.vb.but y.but (fun h => h)).cell z
                          unfold wpPlan
                          simp only [pickOps, opAt, List.map_cons, List.map_nil, List.getElem?_toArray, List.getElem?_cons_zero, List.getElem?_cons_succ, Option.getD_some]
                          repeat (go_big_quiet_step (fail))
                          refine wpQuiet_nil ?_
                          clear qz qb
                          go_wp2_with fail
                          refine (ghas_any rz xz fz Az nz cz row B mr cr _ HA.out.sz HA.out.row).mono ?_
                          rintro e w46 ⟨rfl, hb⟩
                          rw [Hdt.out]
                          go_wp2_with fail
                          refine ⟨But.of_below hb, ?_⟩
                          replace HA := Lib.hid (HA.out.below hb)
                          replace HE := Lib.hid (Below.next HE.out hb)
                          clear hb
                          unfold wpPlan
                          simp only [pickOps, opAt, List.map_nil, List.getElem?_toArray, List.getElem?_cons_zero, List.getElem?_cons_succ, Option.getD_some]
                          repeat (go_big_quiet_step (fail))
                          refine wpQuiet_nil ?_
                          go_wp2_with fail
                          refine (ghas_any rb (nl : Int) fb Ab nb cb (pickV csl row) Ap nl cp _ HA.out.sb HA.out.op).mono ?_
                          rintro e w47 ⟨rfl, hb⟩
                          rw [Hdz.out]
                          go_wp2_with fail
                          refine ⟨But.of_below hb, ?_⟩
                          replace HA := Lib.hid (HA.out.below hb)
                          replace HE := Lib.hid (Below.next HE.out hb)
                          clear hb
                          unfold wpPlan
                          simp only [pickOps, opAt, List.map_cons, List.map_nil, List.getElem?_toArray, List.getElem?_cons_zero, List.getElem?_cons_succ, Option.getD_some]
                          repeat (go_big_quiet_step (fail))
                          refine wpQuiet_nil ?_
                          go_wp2_with fail
                          go_meet
                          case rel => exact ⟨rfl, HE⟩
                      · skip
                        unfold wpPlan
                        simp only [pickOps, opAt, List.map_cons, List.map_nil, List.getElem?_toArray, List.getElem?_cons_zero, List.getElem?_cons_succ, Option.getD_some]
                        repeat (go_big_quiet_step (fail))
                        refine wpQuiet_nil ?_
                        go_wp2_with fail
                        refine ⟨But.refl _ _, ?_⟩
                        unfold wpPlan
                        simp only [pickOps, opAt, List.map_nil, List.getElem?_toArray, List.getElem?_cons_zero, List.getElem?_cons_succ, Option.getD_some]
                        repeat (go_big_quiet_step (fail))
                        refine wpQuiet_nil ?_
                        go_wp2_with fail
                        refine ⟨But.refl _ _, ?_⟩
                        unfold wpPlan
                        simp only [pickOps, opAt, List.map_cons, List.map_nil, List.getElem?_toArray, List.getElem?_cons_zero, List.getElem?_cons_succ, Option.getD_some]
                        repeat (go_big_quiet_step (fail))
                        refine wpQuiet_nil ?_
                        go_wp2_with fail
                        go_meet
                        case rel => exact ⟨rfl, HE⟩
                    · skip
                      have qy : ∀ (y : LaterS (fun _ => False) w42) z, (afterS (fun _ => False) w42 y).cell? ⟨Vy, z, none⟩ = (#[.int .i64 xy, .bool fy, .slice Ay ny cy] : Array Value)[z]? := fun y z => (HA.out.vy.but y.but (fun h => h)).cell z
                      unfold wpPlan
                      simp only [pickOps, opAt, List.map_cons, List.map_nil, List.getElem?_toArray, List.getElem?_cons_zero, List.getElem?_cons_succ, Option.getD_some]
                      repeat (go_big_quiet_step (fail))
                      refine wpQuiet_nil ?_
                      clear qy
                      go_wp2_with fail
                      refine (ghas_any ry xy fy Ay ny cy (pickV csl row) Ap nl cp _ HA.out.sy HA.out.op).mono ?_
                      rintro e w48 ⟨rfl, hb⟩
                      rw [Hdy.out]
                      go_wp2_with fail
                      refine ⟨But.of_below hb, ?_⟩
                      replace HA := Lib.hid (HA.out.below hb)
                      replace HE := Lib.hid (Below.next HE.out hb)
                      clear hb
                      have qa : ∀ (y : LaterS (fun _ => False) w48) z, (afterS (fun _ => False) w48 y).cell? ⟨Va, z, none⟩ = (#[.int .i64 (wd : Int), .bool fa, .slice Aa na ca] : Array Value)[z]? := fun y z => (HA.out.va.but y.but (fun h => h)).cell z
                      unfold wpPlan
                      simp only [pickOps, opAt, List.map_cons, List.map_nil, List.getElem?_toArray, List.getElem?_cons_zero, List.getElem?_cons_succ, Option.getD_some]
                      repeat (go_big_quiet_step (fail))
                      refine wpQuiet_nil ?_
                      clear qa
                      go_wp2_with fail
                      refine (ghas_any ra (wd : Int) fa Aa na ca row B mr cr _ HA.out.sa HA.out.row).mono ?_
                      rintro e w49 ⟨rfl, hb⟩
                      rw [Hdx.out]
                      go_wp2_with fail
                      refine ⟨But.of_below hb, ?_⟩
                      replace HA := Lib.hid (HA.out.below hb)
                      replace HE := Lib.hid (Below.next HE.out hb)
                      clear hb
                      rcases HZ.out with rfl | rfl
                      · obtain rfl : dt = dz := HPP.out.2.2 rfl
                        cases dt
                        · skip
                          have qz : ∀ (y : LaterS (fun _ => False) w49) z, (afterS (fun _ => False) w49 y).cell? ⟨Vz, z, none⟩ = (#[.int .i64 xz, .bool fz, .slice Az nz cz] : Array Value)[z]? := fun y z => (HA.out.vz.but y.but (fun h => h)).cell z
                          have qb : ∀ (y : LaterS (fun _ => False) w49) z, (afterS (fun _ => False) w49 y).cell? ⟨Vb, z, none⟩ = (#[.int .i64 (nl : Int), .bool fb, .slice Ab nb cb] : Array Value)[z]? := fun y z => (HA.out.vb.but y.but (fun h => h)).cell z
                          unfold wpPlan
                          simp only [pickOps, opAt, List.map_cons, List.map_nil, List.getElem?_toArray, List.getElem?_cons_zero, List.getElem?_cons_succ, Option.getD_some]
                          repeat (go_big_quiet_step (fail))
                          refine wpQuiet_nil ?_
                          clear qz qb
                          go_wp2_with fail
                          refine (ghas_any rz xz fz Az nz cz row B mr cr _ HA.out.sz HA.out.row).mono ?_
                          rintro e w50 ⟨rfl, hb⟩
                          rw [Hdt.out]
                          go_wp2_with fail
                          refine ⟨But.of_below hb, ?_⟩
                          replace HA := Lib.hid (HA.out.below hb)
                          replace HE := Lib.hid (Below.next HE.out hb)
                          clear hb
                          unfold wpPlan
                          simp only [pickOps, opAt, List.map_nil, List.getElem?_toArray, List.getElem?_cons_zero, List.getElem?_cons_succ, Option.getD_some]
                          repeat (go_big_quiet_step (fail))
                          refine wpQuiet_nil ?_
                          go_wp2_with fail
                          refine (ghas_any rb (nl : Int) fb Ab nb cb (pickV csl row) Ap nl cp _ HA.out.sb HA.out.op).mono ?_
                          rintro e w51 ⟨rfl, hb⟩
                          rw [Hdz.out]
                          go_wp2_with fail
                          refine ⟨But.of_below hb, ?_⟩
                          replace HA := Lib.hid (HA.out.below hb)
                          replace HE := Lib.hid (Below.next HE.out hb)
                          clear hb
                          unfold wpPlan
                          simp only [pickOps, opAt, List.map_cons, List.map_nil, List.getElem?_toArray, List.getElem?_cons_zero, List.getElem?_cons_succ, Option.getD_some]
                          repeat (go_big_quiet_step (fail))
                          refine wpQuiet_nil ?_
                          go_wp2_with fail
                          go_meet
                          case rel => exact ⟨rfl, HE⟩
                        · skip
                          have qz : ∀ (y : LaterS (fun _ => False) w49) z, (afterS (fun _ => False) w49 y).cell? ⟨Vz, z, none⟩ = (#[.int .i64 xz, .bool fz, .slice Az nz cz] : Array Value)[z]? := fun y z => (HA.out.vz.but y.but (fun h => h)).cell z
                          have qb : ∀ (y : LaterS (fun _ => False) w49) z, (afterS (fun _ => False) w49 y).cell? ⟨Vb, z, none⟩ = (#[.int .i64 (nl : Int), .bool fb, .slice Ab nb cb] : Array Value)[z]? := fun y z => (HA.out.vb.but y.but (fun h => h)).cell z
                          unfold wpPlan
                          simp only [pickOps, opAt, List.map_cons, List.map_nil, List.getElem?_toArray, List.getElem?_cons_zero, List.getElem?_cons_succ, Option.getD_some]
                          repeat (go_big_quiet_step (fail))
                          refine wpQuiet_nil ?_
                          clear qz qb
                          go_wp2_with fail
                          refine (ghas_any rz xz fz Az nz cz row B mr cr _ HA.out.sz HA.out.row).mono ?_
                          rintro e w52 ⟨rfl, hb⟩
                          rw [Hdt.out]
                          go_wp2_with fail
                          refine ⟨But.of_below hb, ?_⟩
                          replace HA := Lib.hid (HA.out.below hb)
                          replace HE := Lib.hid (Below.next HE.out hb)
                          clear hb
                          unfold wpPlan
                          simp only [pickOps, opAt, List.map_nil, List.getElem?_toArray, List.getElem?_cons_zero, List.getElem?_cons_succ, Option.getD_some]
                          repeat (go_big_quiet_step (fail))
                          refine wpQuiet_nil ?_
                          go_wp2_with fail
                          refine (ghas_any rb (nl : Int) fb Ab nb cb (pickV csl row) Ap nl cp _ HA.out.sb HA.out.op).mono ?_
                          rintro e w53 ⟨rfl, hb⟩
                          rw [Hdz.out]
                          go_wp2_with fail
                          refine ⟨But.of_below hb, ?_⟩
                          replace HA := Lib.hid (HA.out.below hb)
                          replace HE := Lib.hid (Below.next HE.out hb)
                          clear hb
                          unfold wpPlan
                          simp only [pickOps, opAt, List.map_cons, List.map_nil, List.getElem?_toArray, List.getElem?_cons_zero, List.getElem?_cons_succ, Option.getD_some]
                          repeat (go_big_quiet_step (fail))
                          refine wpQuiet_nil ?_
                          go_wp2_with fail
                          go_meet
                          case rel => exact ⟨rfl, HE⟩
                      · skip
                        unfold wpPlan
                        simp only [pickOps, opAt, List.map_cons, List.map_nil, List.getElem?_toArray, List.getElem?_cons_zero, List.getElem?_cons_succ, Option.getD_some]
                        repeat (go_big_quiet_step (fail))
                        refine wpQuiet_nil ?_
                        go_wp2_with fail
                        refine ⟨But.refl _ _, ?_⟩
                        unfold wpPlan
                        simp only [pickOps, opAt, List.map_nil, List.getElem?_toArray, List.getElem?_cons_zero, List.getElem?_cons_succ, Option.getD_some]
                        repeat (go_big_quiet_step (fail))
                        refine wpQuiet_nil ?_
                        go_wp2_with fail
                        refine ⟨But.refl _ _, ?_⟩
                        unfold wpPlan
                        simp only [pickOps, opAt, List.map_cons, List.map_nil, List.getElem?_toArray, List.getElem?_cons_zero, List.getElem?_cons_succ, Option.getD_some]
                        repeat (go_big_quiet_step (fail))
                        refine wpQuiet_nil ?_
                        go_wp2_with fail
                        go_meet
                        case rel => exact ⟨rfl, HE⟩
                  · skip
                    unfold wpPlan
                    simp only [pickOps, opAt, List.map_cons, List.map_nil, List.getElem?_toArray, List.getElem?_cons_zero, List.getElem?_cons_succ, Option.getD_some]
                    repeat (go_big_quiet_step (fail))
                    refine wpQuiet_nil ?_
                    go_wp2_with fail
                    refine ⟨But.refl _ _, ?_⟩
                    unfold wpPlan
                    simp only [pickOps, opAt, List.map_cons, List.map_nil, List.getElem?_toArray, List.getElem?_cons_zero, List.getElem?_cons_succ, Option.getD_some]
                    repeat (go_big_quiet_step (fail))
                    refine wpQuiet_nil ?_
                    go_wp2_with fail
                    refine ⟨But.refl _ _, ?_⟩
                    rcases HZ.out with rfl | rfl
                    · obtain rfl : dt = dz := HPP.out.2.2 rfl
                      cases dt
                      · skip
                        have qz : ∀ (y : LaterS (fun _ => False) w42) z, (afterS (fun _ => False) w42 y).cell? ⟨Vz, z, none⟩ = (#[.int .i64 xz, .bool fz, .slice Az nz cz] : Array Value)[z]? := fun y z => (HA.out.vz.but y.but (fun h => h)).cell z
                        have qb : ∀ (y : LaterS (fun _ => False) w42) z, (afterS (fun _ => False) w42 y).cell? ⟨Vb, z, none⟩ = (#[.int .i64 (nl : Int), .bool fb, .slice Ab nb cb] : Array Value)[z]? := fun y z => (HA.out.vb.but y.but (fun h => h)).cell z
                        unfold wpPlan
                        simp only [pickOps, opAt, List.map_cons, List.map_nil, List.getElem?_toArray, List.getElem?_cons_zero, List.getElem?_cons_succ, Option.getD_some]
                        repeat (go_big_quiet_step (fail))
                        refine wpQuiet_nil ?_
                        clear qz qb
                        go_wp2_with fail
                        refine (ghas_any rz xz fz Az nz cz row B mr cr _ HA.out.sz HA.out.row).mono ?_
                        rintro e w54 ⟨rfl, hb⟩
                        rw [Hdt.out]
                        go_wp2_with fail
                        refine ⟨But.of_below hb, ?_⟩
                        replace HA := Lib.hid (HA.out.below hb)
                        replace HE := Lib.hid (Below.next HE.out hb)
                        clear hb
                        unfold wpPlan
                        simp only [pickOps, opAt, List.map_nil, List.getElem?_toArray, List.getElem?_cons_zero, List.getElem?_cons_succ, Option.getD_some]
                        repeat (go_big_quiet_step (fail))
                        refine wpQuiet_nil ?_
                        go_wp2_with fail
                        refine (ghas_any rb (nl : Int) fb Ab nb cb (pickV csl row) Ap nl cp _ HA.out.sb HA.out.op).mono ?_
                        rintro e w55 ⟨rfl, hb⟩
                        rw [Hdz.out]
                        go_wp2_with fail
                        refine ⟨But.of_below hb, ?_⟩
                        replace HA := Lib.hid (HA.out.below hb)
                        replace HE := Lib.hid (Below.next HE.out hb)
                        clear hb
                        unfold wpPlan
                        simp only [pickOps, opAt, List.map_cons, List.map_nil, List.getElem?_toArray, List.getElem?_cons_zero, List.getElem?_cons_succ, Option.getD_some]
                        repeat (go_big_quiet_step (fail))
                        refine wpQuiet_nil ?_
                        go_wp2_with fail
                        go_meet
                        case rel => exact ⟨rfl, HE⟩
                      · skip
                        have qz : ∀ (y : LaterS (fun _ => False) w42) z, (afterS (fun _ => False) w42 y).cell? ⟨Vz, z, none⟩ = (#[.int .i64 xz, .bool fz, .slice Az nz cz] : Array Value)[z]? := fun y z => (HA.out.vz.but y.but (fun h => h)).cell z
                        have qb : ∀ (y : LaterS (fun _ => False) w42) z, (afterS (fun _ => False) w42 y).cell? ⟨Vb, z, none⟩ = (#[.int .i64 (nl : Int), .bool fb, .slice Ab nb cb] : Array Value)[z]? := fun y z => (HA.out.vb.but y.but (fun h => h)).cell z
                        unfold wpPlan
                        simp only [pickOps, opAt, List.map_cons, List.map_nil, List.getElem?_toArray, List.getElem?_cons_zero, List.getElem?_cons_succ, Option.getD_some]
                        repeat (go_big_quiet_step (fail))
                        refine wpQuiet_nil ?_
                        clear qz qb
                        go_wp2_with fail
                        refine (ghas_any rz xz fz Az nz cz row B mr cr _ HA.out.sz HA.out.row).mono ?_
                        rintro e w56 ⟨rfl, hb⟩
                        rw [Hdt.out]
                        go_wp2_with fail
                        refine ⟨But.of_below hb, ?_⟩
                        replace HA := Lib.hid (HA.out.below hb)
                        replace HE := Lib.hid (Below.next HE.out hb)
                        clear hb
                        unfold wpPlan
                        simp only [pickOps, opAt, List.map_nil, List.getElem?_toArray, List.getElem?_cons_zero, List.getElem?_cons_succ, Option.getD_some]
                        repeat (go_big_quiet_step (fail))
                        refine wpQuiet_nil ?_
                        go_wp2_with fail
                        refine (ghas_any rb (nl : Int) fb Ab nb cb (pickV csl row) Ap nl cp _ HA.out.sb HA.out.op).mono ?_
                        rintro e w57 ⟨rfl, hb⟩
                        rw [Hdz.out]
                        go_wp2_with fail
                        refine ⟨But.of_below hb, ?_⟩
                        replace HA := Lib.hid (HA.out.below hb)
                        replace HE := Lib.hid (Below.next HE.out hb)
                        clear hb
                        unfold wpPlan
                        simp only [pickOps, opAt, List.map_cons, List.map_nil, List.getElem?_toArray, List.getElem?_cons_zero, List.getElem?_cons_succ, Option.getD_some]
                        repeat (go_big_quiet_step (fail))
                        refine wpQuiet_nil ?_
                        go_wp2_with fail
                        go_meet
                        case rel => exact ⟨rfl, HE⟩
                    · skip
                      unfold wpPlan
                      simp only [pickOps, opAt, List.map_cons, List.map_nil, List.getElem?_toArray, List.getElem?_cons_zero, List.getElem?_cons_succ, Option.getD_some]
                      repeat (go_big_quiet_step (fail))
                      refine wpQuiet_nil ?_
                      go_wp2_with fail
                      refine ⟨But.refl _ _, ?_⟩
                      unfold wpPlan
                      simp only [pickOps, opAt, List.map_nil, List.getElem?_toArray, List.getElem?_cons_zero, List.getElem?_cons_succ, Option.getD_some]
                      repeat (go_big_quiet_step (fail))
                      refine wpQuiet_nil ?_
                      go_wp2_with fail
                      refine ⟨But.refl _ _, ?_⟩
                      unfold wpPlan
                      simp only [pickOps, opAt, List.map_cons, List.map_nil, List.getElem?_toArray, List.getElem?_cons_zero, List.getElem?_cons_succ, Option.getD_some]
                      repeat (go_big_quiet_step (fail))
                      refine wpQuiet_nil ?_
                      go_wp2_with fail
                      go_meet
                      case rel => exact ⟨rfl, HE⟩
              · skip
                unfold wpPlan
                simp only [pickOps, opAt, List.map_cons, List.map_nil, List.getElem?_toArray, List.getElem?_cons_zero, List.getElem?_cons_succ, Option.getD_some]
                repeat (go_big_quiet_step (fail))
                refine wpQuiet_nil ?_
                go_wp2_with fail
                refine ⟨But.refl _ _, ?_⟩
                unfold wpPlan
                simp only [pickOps, opAt, List.map_cons, List.map_nil, List.getElem?_toArray, List.getElem?_cons_zero, List.getElem?_cons_succ, Option.getD_some]
                repeat (go_big_quiet_step (fail))
                refine wpQuiet_nil ?_
                go_wp2_with fail
                refine ⟨But.refl _ _, ?_⟩
                rcases HY.out with rfl | rfl
                · cases dy
                  · skip
                    have qy : ∀ (y : LaterS (fun _ => False) Wd) z, (afterS (fun _ => False) Wd y).cell? ⟨Vy, z, none⟩ = (#[.int .i64 xy, .bool fy, .slice Ay ny cy] : Array Value)[z]? := fun y z => (HA.out.vy.but y.but (fun h => h)).cell z
                    unfold wpPlan
                    simp only [pickOps, opAt, List.map_cons, List.map_nil, List.getElem?_toArray, List.getElem?_cons_zero, List.getElem?_cons_succ, Option.getD_some]
                    repeat (go_big_quiet_step (fail))
                    refine wpQuiet_nil ?_
                    clear qy
                    go_wp2_with fail
                    refine (ghas_any ry xy fy Ay ny cy (pickV csl row) Ap nl cp _ HA.out.sy HA.out.op).mono ?_
                    rintro e w58 ⟨rfl, hb⟩
                    rw [Hdy.out]
                    go_wp2_with fail
                    refine ⟨But.of_below hb, ?_⟩
                    replace HA := Lib.hid (HA.out.below hb)
                    replace HE := Lib.hid (Below.next HE.out hb)
                    clear hb
                    unfold wpPlan
                    simp only [pickOps, opAt, List.map_cons, List.map_nil, List.getElem?_toArray, List.getElem?_cons_zero, List.getElem?_cons_succ, Option.getD_some]
                    repeat (go_big_quiet_step (fail))
                    refine wpQuiet_nil ?_
                    go_wp2_with fail
                    refine ⟨But.refl _ _, ?_⟩
                    rcases HZ.out with rfl | rfl
                    · obtain rfl : dt = dz := HPP.out.2.2 rfl
                      cases dt
                      · skip
                        have qz : ∀ (y : LaterS (fun _ => False) w58) z, (afterS (fun _ => False) w58 y).cell? ⟨Vz, z, none⟩ = (#[.int .i64 xz, .bool fz, .slice Az nz cz] : Array Value)[z]? := fun y z => (HA.out.vz.but y.but (fun h => h)).cell z
                        have qb : ∀ (y : LaterS (fun _ => False) w58) z, (afterS (fun _ => False) w58 y).cell? ⟨Vb, z, none⟩ = (#[.int .i64 (nl : Int), .bool fb, .slice Ab nb cb] : Array Value)[z]? := fun y z => (HA.out.vb.but y.but (fun h => h)).cell z
                        unfold wpPlan
                        simp only [pickOps, opAt, List.map_cons, List.map_nil, List.getElem?_toArray, List.getElem?_cons_zero, List.getElem?_cons_succ, Option.getD_some]
                        repeat (go_big_quiet_step (fail))
                        refine wpQuiet_nil ?_
                        clear qz qb
                        go_wp2_with fail
                        refine (ghas_any rz xz fz Az nz cz row B mr cr _ HA.out.sz HA.out.row).mono ?_
                        rintro e w59 ⟨rfl, hb⟩
                        rw [Hdt.out]
                        go_wp2_with fail
                        refine ⟨But.of_below hb, ?_⟩
                        replace HA := Lib.hid (HA.out.below hb)
                        replace HE := Lib.hid (Below.next HE.out hb)
                        clear hb
                        unfold wpPlan
                        simp only [pickOps, opAt, List.map_nil, List.getElem?_toArray, List.getElem?_cons_zero, List.getElem?_cons_succ, Option.getD_some]
                        repeat (go_big_quiet_step (fail))
                        refine wpQuiet_nil ?_
                        go_wp2_with fail
                        refine (ghas_any rb (nl : Int) fb Ab nb cb (pickV csl row) Ap nl cp _ HA.out.sb HA.out.op).mono ?_
                        rintro e w60 ⟨rfl, hb⟩
                        rw [Hdz.out]
                        go_wp2_with fail
                        refine ⟨But.of_below hb, ?_⟩
                        replace HA := Lib.hid (HA.out.below hb)
                        replace HE := Lib.hid (Below.next HE.out hb)
                        clear hb
                        unfold wpPlan
                        simp only [pickOps, opAt, List.map_cons, List.map_nil, List.getElem?_toArray, List.getElem?_cons_zero, List.getElem?_cons_succ, Option.getD_some]
                        repeat (go_big_quiet_step (fail))
                        refine wpQuiet_nil ?_
                        go_wp2_with fail
                        go_meet
                        case rel => exact ⟨rfl, HE⟩
                      · skip
                        have qz : ∀ (y : LaterS (fun _ => False) w58) z, (afterS (fun _ => False) w58 y).cell? ⟨Vz, z, none⟩ = (#[.int .i64 xz, .bool fz, .slice Az nz cz] : Array Value)[z]? := fun y z => (HA.out.vz.but y.but (fun h => h)).cell z
                        have qb : ∀ (y : LaterS (fun _ => False) w58) z, (afterS (fun _ => False) w58 y).cell? ⟨Vb, z, none⟩ = (#[.int .i64 (nl : Int), .bool fb, .slice Ab nb cb] : Array Value)[z]? := fun y z => (HA.out.vb.but y.but (fun h => h)).cell z
                        unfold wpPlan
                        simp only [pickOps, opAt, List.map_cons, List.map_nil, List.getElem?_toArray, List.getElem?_cons_zero, List.getElem?_cons_succ, Option.getD_some]
                        repeat (go_big_quiet_step (fail))
                        refine wpQuiet_nil ?_
                        clear qz qb
                        go_wp2_with fail
                        refine (ghas_any rz xz fz Az nz cz row B mr cr _ HA.out.sz HA.out.row).mono ?_
                        rintro e w61 ⟨rfl, hb⟩
                        rw [Hdt.out]
                        go_wp2_with fail
                        refine ⟨But.of_below hb, ?_⟩
                        replace HA := Lib.hid (HA.out.below hb)
                        replace HE := Lib.hid (Below.next HE.out hb)
                        clear hb
                        unfold wpPlan
                        simp only [pickOps, opAt, List.map_nil, List.getElem?_toArray, List.getElem?_cons_zero, List.getElem?_cons_succ, Option.getD_some]
                        repeat (go_big_quiet_step (fail))
                        refine wpQuiet_nil ?_
                        go_wp2_with fail
                        refine (ghas_any rb (nl : Int) fb Ab nb cb (pickV csl row) Ap nl cp _ HA.out.sb HA.out.op).mono ?_
                        rintro e w62 ⟨rfl, hb⟩
                        rw [Hdz.out]
                        go_wp2_with fail
                        refine ⟨But.of_below hb, ?_⟩
                        replace HA := Lib.hid (HA.out.below hb)
                        replace HE := Lib.hid (Below.next HE.out hb)
                        clear hb
                        unfold wpPlan
                        simp only [pickOps, opAt, List.map_cons, List.map_nil, List.getElem?_toArray, List.getElem?_cons_zero, List.getElem?_cons_succ, Option.getD_some]
                        repeat (go_big_quiet_step (fail))
                        refine wpQuiet_nil ?_
                        go_wp2_with fail
                        go_meet
                        case rel => exact ⟨rfl, HE⟩
                    · skip
                      unfold wpPlan
                      simp only [pickOps, opAt, List.map_cons, List.map_nil, List.getElem?_toArray, List.getElem?_cons_zero, List.getElem?_cons_succ, Option.getD_some]
                      repeat (go_big_quiet_step (fail))
                      refine wpQuiet_nil ?_
                      go_wp2_with fail
                      refine ⟨But.refl _ _, ?_⟩
                      unfold wpPlan
                      simp only [pickOps, opAt, List.map_nil, List.getElem?_toArray, List.getElem?_cons_zero, List.getElem?_cons_succ, Option.getD_some]
                      repeat (go_big_quiet_step (fail))
                      refine wpQuiet_nil ?_
                      go_wp2_with fail
                      refine ⟨But.refl _ _, ?_⟩
                      unfold wpPlan
                      simp only [pickOps, opAt, List.map_cons, List.map_nil, List.getElem?_toArray, List.getElem?_cons_zero, List.getElem?_cons_succ, Option.getD_some]
                      repeat (go_big_quiet_step (fail))
                      refine wpQuiet_nil ?_
                      go_wp2_with fail
                      go_meet
                      case rel => exact ⟨rfl, HE⟩
                  · obtain rfl : dx = true := HPP.out.2.1 rfl rfl
                    have qy : ∀ (y : LaterS (fun _ => False) Wd) z, (afterS (fun _ => False) Wd y).cell? ⟨Vy, z, none⟩ = (#[.int .i64 xy, .bool fy, .slice Ay ny cy] : Array Value)[z]? := fun y z => (HA.out.vy.but y.but (fun h => h)).cell z
                    unfold wpPlan
                    simp only [pickOps, opAt, List.map_cons, List.map_nil, List.getElem?_toArray, List.getElem?_cons_zero, List.getElem?_cons_succ, Option.getD_some]
                    repeat (go_big_quiet_step (fail))
                    refine wpQuiet_nil ?_
                    clear qy
                    go_wp2_with fail
                    refine (ghas_any ry xy fy Ay ny cy (pickV csl row) Ap nl cp _ HA.out.sy HA.out.op).mono ?_
                    rintro e w63 ⟨rfl, hb⟩
                    rw [Hdy.out]
                    go_wp2_with fail
                    refine ⟨But.of_below hb, ?_⟩
                    replace HA := Lib.hid (HA.out.below hb)
                    replace HE := Lib.hid (Below.next HE.out hb)
                    clear hb
                    have qa : ∀ (y : LaterS (fun _ => False) w63) z, (afterS (fun _ => False) w63 y).cell? ⟨Va, z, none⟩ = (#[.int .i64 (wd : Int), .bool fa, .slice Aa na ca] : Array Value)[z]? := fun y z => (HA.out.va.but y.but (fun h => h)).cell z
                    unfold wpPlan
                    simp only [pickOps, opAt, List.map_cons, List.map_nil, List.getElem?_toArray, List.getElem?_cons_zero, List.getElem?_cons_succ, Option.getD_some]
                    repeat (go_big_quiet_step (fail))
                    refine wpQuiet_nil ?_
                    clear qa
                    go_wp2_with fail
                    refine (ghas_any ra (wd : Int) fa Aa na ca row B mr cr _ HA.out.sa HA.out.row).mono ?_
                    rintro e w64 ⟨rfl, hb⟩
                    rw [Hdx.out]
                    go_wp2_with fail
                    refine ⟨But.of_below hb, ?_⟩
                    replace HA := Lib.hid (HA.out.below hb)
                    replace HE := Lib.hid (Below.next HE.out hb)
                    clear hb
                    rcases HZ.out with rfl | rfl
                    · obtain rfl : dt = dz := HPP.out.2.2 rfl
                      cases dt
                      · skip
                        have qz : ∀ (y : LaterS (fun _ => False) w64) z, (afterS (fun _ => False) w64 y).cell? ⟨Vz, z, none⟩ = (#[.int .i64 xz, .bool fz, .slice Az nz cz] : Array Value)[z]? := fun y z => (HA.out.vz.but y.but (fun h => h)).cell z
                        have qb : ∀ (y : LaterS (fun _ => False) w64) z, (afterS (fun _ => False) w64 y).cell? ⟨Vb, z, none⟩ = (#[.int .i64 (nl : Int), .bool fb, .slice Ab nb cb] : Array Value)[z]? := fun y z => (HA.out.vb.but y.but (fun h => h)).cell z
                        unfold wpPlan
                        simp only [pickOps, opAt, List.map_cons, List.map_nil, List.getElem?_toArray, List.getElem?_cons_zero, List.getElem?_cons_succ, Option.getD_some]
                        repeat (go_big_quiet_step (fail))
                        refine wpQuiet_nil ?_
                        clear qz qb
                        go_wp2_with fail
                        refine (ghas_any rz xz fz Az nz cz row B mr cr _ HA.out.sz HA.out.row).mono ?_
                        rintro e w65 ⟨rfl, hb⟩
                        rw [Hdt.out]
                        go_wp2_with fail
                        refine ⟨But.of_below hb, ?_⟩
                        replace HA := Lib.hid (HA.out.below hb)
                        replace HE := Lib.hid (Below.next HE.out hb)
                        clear hb
                        unfold wpPlan
                        simp only [pickOps, opAt, List.map_nil, List.getElem?_toArray, List.getElem?_cons_zero, List.getElem?_cons_succ, Option.getD_some]
                        repeat (go_big_quiet_step (fail))
                        refine wpQuiet_nil ?_
                        go_wp2_with fail
                        refine (ghas_any rb (nl : Int) fb Ab nb cb (pickV csl row) Ap nl cp _ HA.out.sb HA.out.op).mono ?_
                        rintro e w66 ⟨rfl, hb⟩
                        rw [Hdz.out]
                        go_wp2_with fail
                        refine ⟨But.of_below hb, ?_⟩
                        replace HA := Lib.hid (HA.out.below hb)
                        replace HE := Lib.hid (Below.next HE.out hb)
                        clear hb
                        unfold wpPlan
                        simp only [pickOps, opAt, List.map_cons, List.map_nil, List.getElem?_toArray, List.getElem?_cons_zero, List.getElem?_cons_succ, Option.getD_some]
                        repeat (go_big_quiet_step (fail))
                        refine wpQuiet_nil ?_
                        go_wp2_with fail
                        go_meet
                        case rel => exact ⟨rfl, HE⟩
                      · skip
                        have qz : ∀ (y : LaterS (fun _ => False) w64) z, (afterS (fun _ => False) w64 y).cell? ⟨Vz, z, none⟩ = (#[.int .i64 xz, .bool fz, .slice Az nz cz] : Array Value)[z]? := fun y z => (HA.out.vz.but y.but (fun h => h)).cell z
                        have qb : ∀ (y : LaterS (fun _ => False) w64) z, (afterS (fun _ => False) w64 y).cell? ⟨Vb, z, none⟩ = (#[.int .i64 (nl : Int), .bool fb, .slice Ab nb cb] : Array Value)[z]? := fun y z => (HA.out.vb.but y.but (fun h => h)).cell z
                        unfold wpPlan
                        simp only [pickOps, opAt, List.map_cons, List.map_nil, List.getElem?_toArray, List.getElem?_cons_zero, List.getElem?_cons_succ, Option.getD_some]
                        repeat (go_big_quiet_step (fail))
                        refine wpQuiet_nil ?_
                        clear qz qb
                        go_wp2_with fail
                        refine (ghas_any rz xz fz Az nz cz row B mr cr _ HA.out.sz HA.out.row).mono ?_
                        rintro e w67 ⟨rfl, hb⟩
                        rw [Hdt.out]
                        go_wp2_with fail
                        refine ⟨But.of_below hb, ?_⟩
                        replace HA := Lib.hid (HA.out.below hb)
                        replace HE := Lib.hid (Below.next HE.out hb)
                        clear hb
                        unfold wpPlan
                        simp only [pickOps, opAt, List.map_nil, List.getElem?_toArray, List.getElem?_cons_zero, List.getElem?_cons_succ, Option.getD_some]
                        repeat (go_big_quiet_step (fail))
                        refine wpQuiet_nil ?_
                        go_wp2_with fail
                        refine (ghas_any rb (nl : Int) fb Ab nb cb (pickV csl row) Ap nl cp _ HA.out.sb HA.out.op).mono ?_
                        rintro e w68 ⟨rfl, hb⟩
                        rw [Hdz.out]
                        go_wp2_with fail
                        refine ⟨But.of_below hb, ?_⟩
                        replace HA := Lib.hid (HA.out.below hb)
                        replace HE := Lib.hid (Below.next HE.out hb)
                        clear hb
                        unfold wpPlan
                        simp only [pickOps, opAt, List.map_cons, List.map_nil, List.getElem?_toArray, List.getElem?_cons_zero, List.getElem?_cons_succ, Option.getD_some]
                        repeat (go_big_quiet_step (fail))
                        refine wpQuiet_nil ?_
                        go_wp2_with fail
                        go_meet
                        case rel => exact ⟨rfl, HE⟩
                    · skip
                      unfold wpPlan
                      simp only [pickOps, opAt, List.map_cons, List.map_nil, List.getElem?_toArray, List.getElem?_cons_zero, List.getElem?_cons_succ, Option.getD_some]
                      repeat (go_big_quiet_step (fail))
                      refine wpQuiet_nil ?_
                      go_wp2_with fail
                      refine ⟨But.refl _ _, ?_⟩
                      unfold wpPlan
                      simp only [pickOps, opAt, List.map_nil, List.getElem?_toArray, List.getElem?_cons_zero, List.getElem?_cons_succ, Option.getD_some]
                      repeat (go_big_quiet_step (fail))
                      refine wpQuiet_nil ?_
                      go_wp2_with fail
                      refine ⟨But.refl _ _, ?_⟩
                      unfold wpPlan
                      simp only [pickOps, opAt, List.map_cons, List.map_nil, List.getElem?_toArray, List.getElem?_cons_zero, List.getElem?_cons_succ, Option.getD_some]
                      repeat (go_big_quiet_step (fail))
                      refine wpQuiet_nil ?_
                      go_wp2_with fail
                      go_meet
                      case rel => exact ⟨rfl, HE⟩
                · skip
                  unfold wpPlan
                  simp only [pickOps, opAt, List.map_cons, List.map_nil, List.getElem?_toArray, List.getElem?_cons_zero, List.getElem?_cons_succ, Option.getD_some]
                  repeat (go_big_quiet_step (fail))
                  refine wpQuiet_nil ?_
                  go_wp2_with fail
                  refine ⟨But.refl _ _, ?_⟩
                  unfold wpPlan
                  simp only [pickOps, opAt, List.map_cons, List.map_nil, List.getElem?_toArray, List.getElem?_cons_zero, List.getElem?_cons_succ, Option.getD_some]
                  repeat (go_big_quiet_step (fail))
                  refine wpQuiet_nil ?_
                  go_wp2_with fail
                  refine ⟨But.refl _ _, ?_⟩
                  rcases HZ.out with rfl | rfl
                  · obtain rfl : dt = dz := HPP.out.2.2 rfl
                    cases dt
                    · skip
                      have qz : ∀ (y : LaterS (fun _ => False) Wd) z, (afterS (fun _ => False) Wd y).cell? ⟨Vz, z, none⟩ = (#[.int .i64 xz, .bool fz, .slice Az nz cz] : Array Value)[z]? := fun y z => (HA.out.vz.but y.but (fun h => h)).cell z
                      have qb : ∀ (y : LaterS (fun _ => False) Wd) z, (afterS (fun _ => False) Wd y).cell? ⟨Vb, z, none⟩ = (#[.int .i64 (nl : Int), .bool fb, .slice Ab nb cb] : Array Value)[z]? := fun y z => (HA.out.vb.but y.but (fun h => h)).cell z
                      unfold wpPlan
                      simp only [pickOps, opAt, List.map_cons, List.map_nil, List.getElem?_toArray, List.getElem?_cons_zero, List.getElem?_cons_succ, Option.getD_some]
                      repeat (go_big_quiet_step (fail))
                      refine wpQuiet_nil ?_
                      clear qz qb
                      go_wp2_with fail
                      refine (ghas_any rz xz fz Az nz cz row B mr cr _ HA.out.sz HA.out.row).mono ?_
                      rintro e w69 ⟨rfl, hb⟩
                      rw [Hdt.out]
                      go_wp2_with fail
                      refine ⟨But.of_below hb, ?_⟩
                      replace HA := Lib.hid (HA.out.below hb)
                      replace HE := Lib.hid (Below.next HE.out hb)
                      clear hb
                      unfold wpPlan
                      simp only [pickOps, opAt, List.map_nil, List.getElem?_toArray, List.getElem?_cons_zero, List.getElem?_cons_succ, Option.getD_some]
                      repeat (go_big_quiet_step (fail))
                      refine wpQuiet_nil ?_
                      go_wp2_with fail
                      refine (ghas_any rb (nl : Int) fb Ab nb cb (pickV csl row) Ap nl cp _ HA.out.sb HA.out.op).mono ?_
                      rintro e w70 ⟨rfl, hb⟩
                      rw [Hdz.out]
                      go_wp2_with fail
                      refine ⟨But.of_below hb, ?_⟩
                      replace HA := Lib.hid (HA.out.below hb)
                      replace HE := Lib.hid (Below.next HE.out hb)
                      clear hb
                      unfold wpPlan
                      simp only [pickOps, opAt, List.map_cons, List.map_nil, List.getElem?_toArray, List.getElem?_cons_zero, List.getElem?_cons_succ, Option.getD_some]
                      repeat (go_big_quiet_step (fail))
                      refine wpQuiet_nil ?_
                      go_wp2_with fail
                      go_meet
                      case rel => exact ⟨rfl, HE⟩
                    · skip
                      have qz : ∀ (y : LaterS (fun _ => False) Wd) z, (afterS (fun _ => False) Wd y).cell? ⟨Vz, z, none⟩ = (#[.int .i64 xz, .bool fz, .slice Az nz cz] : Array Value)[z]? := fun y z => (HA.out.vz.but y.but (fun h => h)).cell z
                      have qb : ∀ (y : LaterS (fun _ => False) Wd) z, (afterS (fun _ => False) Wd y).cell? ⟨Vb, z, none⟩ = (#[.int .i64 (nl : Int), .bool fb, .slice Ab nb cb] : Array Value)[z]? := fun y z => (HA.out.vb.but y.but (fun h => h)).cell z
                      unfold wpPlan
                      simp only [pickOps, opAt, List.map_cons, List.map_nil, List.getElem?_toArray, List.getElem?_cons_zero, List.getElem?_cons_succ, Option.getD_some]
                      repeat (go_big_quiet_step (fail))
                      refine wpQuiet_nil ?_
                      clear qz qb
                      go_wp2_with fail
                      refine (ghas_any rz xz fz Az nz cz row B mr cr _ HA.out.sz HA.out.row).mono ?_
                      rintro e w71 ⟨rfl, hb⟩
                      rw [Hdt.out]
                      go_wp2_with fail
                      refine ⟨But.of_below hb, ?_⟩
                      replace HA := Lib.hid (HA.out.below hb)
                      replace HE := Lib.hid (Below.next HE.out hb)
                      clear hb
                      unfold wpPlan
                      simp only [pickOps, opAt, List.map_nil, List.getElem?_toArray, List.getElem?_cons_zero, List.getElem?_cons_succ, Option.getD_some]
                      repeat (go_big_quiet_step (fail))
                      refine wpQuiet_nil ?_
                      go_wp2_with fail
                      refine (ghas_any rb (nl : Int) fb Ab nb cb (pickV csl row) Ap nl cp _ HA.out.sb HA.out.op).mono ?_
                      rintro e w72 ⟨rfl, hb⟩
                      rw [Hdz.out]
                      go_wp2_with fail
                      refine ⟨But.of_below hb, ?_⟩
                      replace HA := Lib.hid (HA.out.below hb)
                      replace HE := Lib.hid (Below.next HE.out hb)
                      clear hb
                      unfold wpPlan
                      simp only [pickOps, opAt, List.map_cons, List.map_nil, List.getElem?_toArray, List.getElem?_cons_zero, List.getElem?_cons_succ, Option.getD_some]
                      repeat (go_big_quiet_step (fail))
                      refine wpQuiet_nil ?_
                      go_wp2_with fail
                      go_meet
                      case rel => exact ⟨rfl, HE⟩
                  · skip
                    unfold wpPlan
                    simp only [pickOps, opAt, List.map_cons, List.map_nil, List.getElem?_toArray, List.getElem?_cons_zero, List.getElem?_cons_succ, Option.getD_some]
                    repeat (go_big_quiet_step (fail))
                    refine wpQuiet_nil ?_
                    go_wp2_with fail
                    refine ⟨But.refl _ _, ?_⟩
                    unfold wpPlan
                    simp only [pickOps, opAt, List.map_nil, List.getElem?_toArray, List.getElem?_cons_zero, List.getElem?_cons_succ, Option.getD_some]
                    repeat (go_big_quiet_step (fail))
                    refine wpQuiet_nil ?_
                    go_wp2_with fail
                    refine ⟨But.refl _ _, ?_⟩
                    unfold wpPlan
                    simp only [pickOps, opAt, List.map_cons, List.map_nil, List.getElem?_toArray, List.getElem?_cons_zero, List.getElem?_cons_succ, Option.getD_some]
                    repeat (go_big_quiet_step (fail))
                    refine wpQuiet_nil ?_
                    go_wp2_with fail
                    go_meet
                    case rel => exact ⟨rfl, HE⟩
            case rest =>
              obtain ⟨rfl, HE⟩ := hcut
              have HM2 := Lib.hid (gbut_belowB HM.out HE.out HM.out.size)
              have HC2 := Lib.hid (HC.out.below HE.out)
              go_wp2_with fail
              go_roundw
              case rel => exact ⟨k + 1, by omega, by go_num, HC2, HM2⟩
              case measure => simp [intOf]; omega
    · obtain rfl : k = 6 := by omega
      go_wp2_with fail
      refine (begun4_any _).mono ?_
      rintro e w99 ⟨rfl, hb99⟩
      replace hB := Below.next hB hb99
      clear hb99
      go_wp2
      go_ret
      exact ⟨rfl, hB⟩
end Go.Proofs.YtmnmckblmoalkaaGreat
