/-
  The walk of the law RegionPoints.
-/
import Derived.Test.YtnocbigcdjlliaaGreatB45
import Derived.Test.YtnocbigcdjlliaaGreatB24
import Derived.Test.YtnocbigcdjlliaaGreatB46
import Derived.Test.YtnocbigcdjlliaaGreatB48
import Derived.Test.YtnocbigcdjlliaaGreatB53
set_option linter.unusedVariables false
namespace Go.Proofs.YtnocbigcdjlliaaGreat
open Go.RowKit
set_option maxRecDepth 100000
open Rg

set_option maxHeartbeats 100000000 in
theorem points4_walk (A : Option Addr) (n c : Nat) (zs : List Int) (w : World) (hs : Sl 1 u8c w A n zs) (hz : ∀ z ∈ zs, 0 ≤ z ∧ z ≤ 255) (hnil : A = none → n = 0 ∧ c = 0) (hsp : ∀ ad, A = some ad → ad.spot = none) (hnc : n ≤ c) (hcm : c ≤ 9223372036854775807) :
    Calls Tryz.prog 10 #[.slice A n c] w fun e w' => e = .returned (.bool true) ∧ Below w.heap.size w w' := by
  have HS := Lib.hid hs
  have HZ := Lib.hid hz
  have HN := Lib.hid hnil
  have HP := Lib.hid hsp
  clear hs hz hnil hsp
  go_enter Tryz.func10, Tryz.ntmps10
  go_wp2_with fail
  refine (new_any A n c zs 160 _ HS.out HZ.out HN.out HP.out hnc hcm (by omega)).mono ?_
  rintro e w0 ⟨g, hg, rfl, hc, hB⟩
  clear HS HZ HN HP
  go_wp2_with fail
  refine (int_any g 4 _ hc (by omega) (by omega)).mono ?_
  rintro e w1 ⟨⟨y, hy1, hy2, rfl⟩, hc1, hb1⟩
  replace hB := hb1.below hB hB.size (fun k hk => by subst hk; exact hg)
  replace hc := hc1
  clear hb1
  obtain ⟨wd, rfl⟩ := Int.eq_ofNat_of_zero_le hy1
  go_wp2_with fail
  refine (cregion_any g wd (by omega) _ hc).mono ?_
  rintro e w2 ⟨xa, fa, Aa, na, ca, ra, rfl, hSa, hOa, hWa, hFa, hc2, hb2⟩
  replace hB := hb2.below hB hB.size (fun k hk => by subst hk; exact hg)
  replace hc := hc2
  have HSa := Lib.hid hSa
  have HKa := Lib.hid (And.intro hOa (And.intro hWa hFa))
  clear hb2 hSa hOa hWa hFa
  go_wp2_with fail
  refine (cregion_any g wd (by omega) _ hc).mono ?_
  rintro e w3 ⟨xb, fb, Ab, nb, cb, rb, rfl, hSb, hOb, hWb, hFb, hc3, hb3⟩
  replace HSa := Lib.hid (HSa.out.case hc hb3)
  replace hB := hb3.below hB hB.size (fun k hk => by subst hk; exact hg)
  replace hc := hc3
  have HSb := Lib.hid hSb
  have HKb := Lib.hid (And.intro hOb (And.intro hWb hFb))
  clear hb3 hSb hOb hWb hFb
  replace HSa := Lib.hid (HSa.out.keep (keeps_alloc w3 (.cells #[.int .i64 xa, .bool fa, .slice Aa na ca] 28)))
  replace HSb := Lib.hid (HSb.out.keep (keeps_alloc w3 (.cells #[.int .i64 xa, .bool fa, .slice Aa na ca] 28)))
  have HVa := Lib.hid (Blk.new w3 28 #[.int .i64 xa, .bool fa, .slice Aa na ca])
  obtain ⟨Va, HXa⟩ : ∃ z, Hid (w3.heap.size = z) := ⟨_, rfl⟩
  rw [HXa.out] at HVa
  replace hB := hB.alloc hB.size (.cells #[.int .i64 xa, .bool fa, .slice Aa na ca] 28)
  replace hc := hc.below ((Below.refl _ _).alloc (Nat.le_refl _) (.cells #[.int .i64 xa, .bool fa, .slice Aa na ca] 28))
  replace HSa := Lib.hid (HSa.out.keep (keeps_alloc (w3.alloc (.cells #[.int .i64 xa, .bool fa, .slice Aa na ca] 28)) (.cells #[.int .i64 xb, .bool fb, .slice Ab nb cb] 28)))
  replace HVa := Lib.hid (HVa.out.alloc (.cells #[.int .i64 xb, .bool fb, .slice Ab nb cb] 28))
  replace HSb := Lib.hid (HSb.out.keep (keeps_alloc (w3.alloc (.cells #[.int .i64 xa, .bool fa, .slice Aa na ca] 28)) (.cells #[.int .i64 xb, .bool fb, .slice Ab nb cb] 28)))
  have HVb := Lib.hid (Blk.new (w3.alloc (.cells #[.int .i64 xa, .bool fa, .slice Aa na ca] 28)) 28 #[.int .i64 xb, .bool fb, .slice Ab nb cb])
  obtain ⟨Vb, HXb⟩ : ∃ z, Hid (Va + 1 = z) := ⟨_, rfl⟩
  rw [World.size_alloc, HXa.out, HXb.out] at HVb
  replace hB := hB.alloc hB.size (.cells #[.int .i64 xb, .bool fb, .slice Ab nb cb] 28)
  replace hc := hc.below ((Below.refl _ _).alloc (Nat.le_refl _) (.cells #[.int .i64 xb, .bool fb, .slice Ab nb cb] 28))
  go_upto_region 4 with fail
  rw [HXa.out]
  rw [HXb.out]
  generalize hWW : ((w3.alloc (.cells #[.int .i64 xa, .bool fa, .slice Aa na ca] 28)).alloc (.cells #[.int .i64 xb, .bool fb, .slice Ab nb cb] 28)) = WW4 at *
  clear hWW
  have HH := Lib.hid hc
  clear hc
  have za := HVa.out.cell
  have zb := HVb.out.cell
  go_wp2_with fail
  refine (gunion_any ra xa fa Aa na ca rb xb fb Ab nb cb _ HSa.out HSb.out HKa.out.2.2 HKb.out.2.2).mono ?_
  rintro e w5 ⟨xu, fu, Au, nu, cu, rfl, hSu, hb5⟩
  obtain ⟨eu, Heu⟩ : ∃ z, Hid (opErr opUr ra rb = z) := ⟨_, rfl⟩
  rw [Heu.out]
  obtain ⟨ru, Hru⟩ : ∃ z, Hid (opRes opUr ra rb = z) := ⟨_, rfl⟩
  rw [Hru.out] at hSu
  clear za zb
  replace HSa := Lib.hid (HSa.out.keep (keeps_of hb5))
  replace HVa := Lib.hid (HVa.out.below hb5)
  replace HSb := Lib.hid (HSb.out.keep (keeps_of hb5))
  replace HVb := Lib.hid (HVb.out.below hb5)
  replace hB := Below.next hB hb5
  replace HH := Lib.hid (HH.out.below hb5)
  have HSu := Lib.hid hSu
  clear hSu hb5
  replace HH := Lib.hid (HH.out.below ((Below.refl _ _).alloc (Nat.le_refl _) (.cells #[.int .i64 xu, .bool fu, .slice Au nu cu] 28)))
  replace HSa := Lib.hid (HSa.out.keep (keeps_alloc w5 (.cells #[.int .i64 xu, .bool fu, .slice Au nu cu] 28)))
  replace HVa := Lib.hid (HVa.out.alloc (.cells #[.int .i64 xu, .bool fu, .slice Au nu cu] 28))
  replace HSb := Lib.hid (HSb.out.keep (keeps_alloc w5 (.cells #[.int .i64 xu, .bool fu, .slice Au nu cu] 28)))
  replace HVb := Lib.hid (HVb.out.alloc (.cells #[.int .i64 xu, .bool fu, .slice Au nu cu] 28))
  replace HSu := Lib.hid (HSu.out.keep (keeps_alloc w5 (.cells #[.int .i64 xu, .bool fu, .slice Au nu cu] 28)))
  have HVu := Lib.hid (Blk.new w5 28 #[.int .i64 xu, .bool fu, .slice Au nu cu])
  obtain ⟨Vu, HXu⟩ : ∃ z, Hid (w5.heap.size = z) := ⟨_, rfl⟩
  rw [HXu.out] at HVu
  replace hB := hB.alloc hB.size (.cells #[.int .i64 xu, .bool fu, .slice Au nu cu] 28)
  go_upto_region 5 with fail
  rw [HXu.out]
  generalize hWW : (w5.alloc (.cells #[.int .i64 xu, .bool fu, .slice Au nu cu] 28)) = WW6 at *
  clear hWW
  have za := HVa.out.cell
  have zb := HVb.out.cell
  go_wp2_with fail
  refine (gintersect_any ra xa fa Aa na ca rb xb fb Ab nb cb _ HSa.out HSb.out HKa.out.2.2 HKb.out.2.2).mono ?_
  rintro e w7 ⟨xi, fi, Ai, ni, ci, rfl, hSi, hb7⟩
  obtain ⟨ei, Hei⟩ : ∃ z, Hid (opErr opIr ra rb = z) := ⟨_, rfl⟩
  rw [Hei.out]
  obtain ⟨ri, Hri⟩ : ∃ z, Hid (opRes opIr ra rb = z) := ⟨_, rfl⟩
  rw [Hri.out] at hSi
  clear za zb
  replace HSa := Lib.hid (HSa.out.keep (keeps_of hb7))
  replace HVa := Lib.hid (HVa.out.below hb7)
  replace HSb := Lib.hid (HSb.out.keep (keeps_of hb7))
  replace HVb := Lib.hid (HVb.out.below hb7)
  replace HSu := Lib.hid (HSu.out.keep (keeps_of hb7))
  replace HVu := Lib.hid (HVu.out.below hb7)
  replace hB := Below.next hB hb7
  replace HH := Lib.hid (HH.out.below hb7)
  have HSi := Lib.hid hSi
  clear hSi hb7
  replace HH := Lib.hid (HH.out.below ((Below.refl _ _).alloc (Nat.le_refl _) (.cells #[.int .i64 xi, .bool fi, .slice Ai ni ci] 28)))
  replace HSa := Lib.hid (HSa.out.keep (keeps_alloc w7 (.cells #[.int .i64 xi, .bool fi, .slice Ai ni ci] 28)))
  replace HVa := Lib.hid (HVa.out.alloc (.cells #[.int .i64 xi, .bool fi, .slice Ai ni ci] 28))
  replace HSb := Lib.hid (HSb.out.keep (keeps_alloc w7 (.cells #[.int .i64 xi, .bool fi, .slice Ai ni ci] 28)))
  replace HVb := Lib.hid (HVb.out.alloc (.cells #[.int .i64 xi, .bool fi, .slice Ai ni ci] 28))
  replace HSu := Lib.hid (HSu.out.keep (keeps_alloc w7 (.cells #[.int .i64 xi, .bool fi, .slice Ai ni ci] 28)))
  replace HVu := Lib.hid (HVu.out.alloc (.cells #[.int .i64 xi, .bool fi, .slice Ai ni ci] 28))
  replace HSi := Lib.hid (HSi.out.keep (keeps_alloc w7 (.cells #[.int .i64 xi, .bool fi, .slice Ai ni ci] 28)))
  have HVi := Lib.hid (Blk.new w7 28 #[.int .i64 xi, .bool fi, .slice Ai ni ci])
  obtain ⟨Vi, HXi⟩ : ∃ z, Hid (w7.heap.size = z) := ⟨_, rfl⟩
  rw [HXi.out] at HVi
  replace hB := hB.alloc hB.size (.cells #[.int .i64 xi, .bool fi, .slice Ai ni ci] 28)
  go_upto_region 6 with fail
  rw [HXi.out]
  generalize hWW : (w7.alloc (.cells #[.int .i64 xi, .bool fi, .slice Ai ni ci] 28)) = WW8 at *
  clear hWW
  have za := HVa.out.cell
  have zb := HVb.out.cell
  go_wp2_with fail
  refine (gminus_any ra xa fa Aa na ca rb xb fb Ab nb cb _ HSa.out HSb.out HKa.out.2.2 HKb.out.2.2).mono ?_
  rintro e w9 ⟨xm, fm, Am, nm, cm, rfl, hSm, hb9⟩
  obtain ⟨em, Hem⟩ : ∃ z, Hid (opErr opMr ra rb = z) := ⟨_, rfl⟩
  rw [Hem.out]
  obtain ⟨rm, Hrm⟩ : ∃ z, Hid (opRes opMr ra rb = z) := ⟨_, rfl⟩
  rw [Hrm.out] at hSm
  clear za zb
  replace HSa := Lib.hid (HSa.out.keep (keeps_of hb9))
  replace HVa := Lib.hid (HVa.out.below hb9)
  replace HSb := Lib.hid (HSb.out.keep (keeps_of hb9))
  replace HVb := Lib.hid (HVb.out.below hb9)
  replace HSu := Lib.hid (HSu.out.keep (keeps_of hb9))
  replace HVu := Lib.hid (HVu.out.below hb9)
  replace HSi := Lib.hid (HSi.out.keep (keeps_of hb9))
  replace HVi := Lib.hid (HVi.out.below hb9)
  replace hB := Below.next hB hb9
  replace HH := Lib.hid (HH.out.below hb9)
  have HSm := Lib.hid hSm
  clear hSm hb9
  replace HH := Lib.hid (HH.out.below ((Below.refl _ _).alloc (Nat.le_refl _) (.cells #[.int .i64 xm, .bool fm, .slice Am nm cm] 28)))
  replace HSa := Lib.hid (HSa.out.keep (keeps_alloc w9 (.cells #[.int .i64 xm, .bool fm, .slice Am nm cm] 28)))
  replace HVa := Lib.hid (HVa.out.alloc (.cells #[.int .i64 xm, .bool fm, .slice Am nm cm] 28))
  replace HSb := Lib.hid (HSb.out.keep (keeps_alloc w9 (.cells #[.int .i64 xm, .bool fm, .slice Am nm cm] 28)))
  replace HVb := Lib.hid (HVb.out.alloc (.cells #[.int .i64 xm, .bool fm, .slice Am nm cm] 28))
  replace HSu := Lib.hid (HSu.out.keep (keeps_alloc w9 (.cells #[.int .i64 xm, .bool fm, .slice Am nm cm] 28)))
  replace HVu := Lib.hid (HVu.out.alloc (.cells #[.int .i64 xm, .bool fm, .slice Am nm cm] 28))
  replace HSi := Lib.hid (HSi.out.keep (keeps_alloc w9 (.cells #[.int .i64 xm, .bool fm, .slice Am nm cm] 28)))
  replace HVi := Lib.hid (HVi.out.alloc (.cells #[.int .i64 xm, .bool fm, .slice Am nm cm] 28))
  replace HSm := Lib.hid (HSm.out.keep (keeps_alloc w9 (.cells #[.int .i64 xm, .bool fm, .slice Am nm cm] 28)))
  have HVm := Lib.hid (Blk.new w9 28 #[.int .i64 xm, .bool fm, .slice Am nm cm])
  obtain ⟨Vm, HXm⟩ : ∃ z, Hid (w9.heap.size = z) := ⟨_, rfl⟩
  rw [HXm.out] at HVm
  replace hB := hB.alloc hB.size (.cells #[.int .i64 xm, .bool fm, .slice Am nm cm] 28)
  go_upto_region 7 with fail
  rw [HXm.out]
  generalize hWW : (w9.alloc (.cells #[.int .i64 xm, .bool fm, .slice Am nm cm] 28)) = WW10 at *
  clear hWW
  have za := HVa.out.cell
  go_wp2_with fail
  refine (gcomplement_any ra xa fa Aa na ca _ HSa.out HKa.out.2.2).mono ?_
  rintro e w11 ⟨xn, fn, An, nn, cn, rfl, hSn, hb11⟩
  obtain ⟨en, Hen⟩ : ∃ z, Hid (cpErr ra = z) := ⟨_, rfl⟩
  rw [Hen.out]
  obtain ⟨rn, Hrn⟩ : ∃ z, Hid (cpRes ra = z) := ⟨_, rfl⟩
  rw [Hrn.out] at hSn
  clear za
  replace HSa := Lib.hid (HSa.out.keep (keeps_of hb11))
  replace HVa := Lib.hid (HVa.out.below hb11)
  replace HSb := Lib.hid (HSb.out.keep (keeps_of hb11))
  replace HVb := Lib.hid (HVb.out.below hb11)
  replace HSu := Lib.hid (HSu.out.keep (keeps_of hb11))
  replace HVu := Lib.hid (HVu.out.below hb11)
  replace HSi := Lib.hid (HSi.out.keep (keeps_of hb11))
  replace HVi := Lib.hid (HVi.out.below hb11)
  replace HSm := Lib.hid (HSm.out.keep (keeps_of hb11))
  replace HVm := Lib.hid (HVm.out.below hb11)
  replace hB := Below.next hB hb11
  replace HH := Lib.hid (HH.out.below hb11)
  have HSn := Lib.hid hSn
  clear hSn hb11
  replace HH := Lib.hid (HH.out.below ((Below.refl _ _).alloc (Nat.le_refl _) (.cells #[.int .i64 xn, .bool fn, .slice An nn cn] 28)))
  replace HSa := Lib.hid (HSa.out.keep (keeps_alloc w11 (.cells #[.int .i64 xn, .bool fn, .slice An nn cn] 28)))
  replace HVa := Lib.hid (HVa.out.alloc (.cells #[.int .i64 xn, .bool fn, .slice An nn cn] 28))
  replace HSb := Lib.hid (HSb.out.keep (keeps_alloc w11 (.cells #[.int .i64 xn, .bool fn, .slice An nn cn] 28)))
  replace HVb := Lib.hid (HVb.out.alloc (.cells #[.int .i64 xn, .bool fn, .slice An nn cn] 28))
  replace HSu := Lib.hid (HSu.out.keep (keeps_alloc w11 (.cells #[.int .i64 xn, .bool fn, .slice An nn cn] 28)))
  replace HVu := Lib.hid (HVu.out.alloc (.cells #[.int .i64 xn, .bool fn, .slice An nn cn] 28))
  replace HSi := Lib.hid (HSi.out.keep (keeps_alloc w11 (.cells #[.int .i64 xn, .bool fn, .slice An nn cn] 28)))
  replace HVi := Lib.hid (HVi.out.alloc (.cells #[.int .i64 xn, .bool fn, .slice An nn cn] 28))
  replace HSm := Lib.hid (HSm.out.keep (keeps_alloc w11 (.cells #[.int .i64 xn, .bool fn, .slice An nn cn] 28)))
  replace HVm := Lib.hid (HVm.out.alloc (.cells #[.int .i64 xn, .bool fn, .slice An nn cn] 28))
  replace HSn := Lib.hid (HSn.out.keep (keeps_alloc w11 (.cells #[.int .i64 xn, .bool fn, .slice An nn cn] 28)))
  have HVn := Lib.hid (Blk.new w11 28 #[.int .i64 xn, .bool fn, .slice An nn cn])
  obtain ⟨Vn, HXn⟩ : ∃ z, Hid (w11.heap.size = z) := ⟨_, rfl⟩
  rw [HXn.out] at HVn
  replace hB := hB.alloc hB.size (.cells #[.int .i64 xn, .bool fn, .slice An nn cn] 28)
  go_upto_region 8 with fail
  rw [HXn.out]
  generalize hWW : (w11.alloc (.cells #[.int .i64 xn, .bool fn, .slice An nn cn] 28)) = WW12 at *
  clear hWW
  obtain ⟨din, Hdin⟩ : ∃ z, Hid (covRes ra rb = z) := ⟨_, rfl⟩
  have H1 := Lib.hid (cov_spec HKa.out.1 HKa.out.2.1 HKb.out.1 HKb.out.2.1).1
  have za := HVa.out.cell
  have zb := HVb.out.cell
  go_wp2_with fail
  refine (gcovers_any ra xa fa Aa na ca rb xb fb Ab nb cb _ HSa.out HSb.out HKa.out.2.2 HKb.out.2.2).mono ?_
  rintro e w13 ⟨rfl, hb13⟩
  rw [Hdin.out, H1.out]
  clear za zb
  replace HSa := Lib.hid (HSa.out.keep (keeps_of hb13))
  replace HVa := Lib.hid (HVa.out.below hb13)
  replace HSb := Lib.hid (HSb.out.keep (keeps_of hb13))
  replace HVb := Lib.hid (HVb.out.below hb13)
  replace HSu := Lib.hid (HSu.out.keep (keeps_of hb13))
  replace HVu := Lib.hid (HVu.out.below hb13)
  replace HSi := Lib.hid (HSi.out.keep (keeps_of hb13))
  replace HVi := Lib.hid (HVi.out.below hb13)
  replace HSm := Lib.hid (HSm.out.keep (keeps_of hb13))
  replace HVm := Lib.hid (HVm.out.below hb13)
  replace HSn := Lib.hid (HSn.out.keep (keeps_of hb13))
  replace HVn := Lib.hid (HVn.out.below hb13)
  replace hB := Below.next hB hb13
  replace HH := Lib.hid (HH.out.below hb13)
  clear hb13
  have HE : Hid ((eu = 0 ∨ eu = 2) ∧ (ei = 0 ∨ ei = 2) ∧ (em = 0 ∨ em = 2) ∧ (en = 0 ∨ en = 2)) := by
    have h1 := op_02 HKa.out.1 HKa.out.2.1 HKb.out.1 HKb.out.2.1 opUr
    have h2 := op_02 HKa.out.1 HKa.out.2.1 HKb.out.1 HKb.out.2.1 opIr
    have h3 := op_02 HKa.out.1 HKa.out.2.1 HKb.out.1 HKb.out.2.1 opMr
    have h4 := cp_02 HKa.out.1 HKa.out.2.1
    rw [Heu.out] at h1
    rw [Hei.out] at h2
    rw [Hem.out] at h3
    rw [Hen.out] at h4
    exact Lib.hid ⟨h1, h2, h3, h4⟩
  go_upto_region 9 with fail
  have hy4 : wd ≤ 3 := by omega
  clear hy1 hy2 H1
  go_wp2_with fail
  go_loopw [17] (fun i wr => ∃ k : Nat, k ≤ 6 ∧ i = .int .i64 (k : Int) ∧ Hid (CaseAt wr g) ∧ Hid (But (· = g) w13 wr)) (fun i _ => 6 - (intOf i).toNat)
  case atStart => exact ⟨0, by omega, rfl, HH, Lib.hid (But.refl _ _)⟩
  case round =>
    obtain ⟨k, hk, rfl, HC, HM⟩ := hrel
    replace HSa := Lib.hid (HSa.out.case HH.out HM.out)
    replace HVa := Lib.hid (HVa.out.but HM.out (HH.out.ne HVa.out (by decide)))
    replace HSb := Lib.hid (HSb.out.case HH.out HM.out)
    replace HVb := Lib.hid (HVb.out.but HM.out (HH.out.ne HVb.out (by decide)))
    replace HSu := Lib.hid (HSu.out.case HH.out HM.out)
    replace HVu := Lib.hid (HVu.out.but HM.out (HH.out.ne HVu.out (by decide)))
    replace HSi := Lib.hid (HSi.out.case HH.out HM.out)
    replace HVi := Lib.hid (HVi.out.but HM.out (HH.out.ne HVi.out (by decide)))
    replace HSm := Lib.hid (HSm.out.case HH.out HM.out)
    replace HVm := Lib.hid (HVm.out.but HM.out (HH.out.ne HVm.out (by decide)))
    replace HSn := Lib.hid (HSn.out.case HH.out HM.out)
    replace HVn := Lib.hid (HVn.out.but HM.out (HH.out.ne HVn.out (by decide)))
    replace hB := HM.out.below hB hB.size (fun k hk => by subst hk; exact hg)
    by_cases hlt : k < 6
    · clear hB
      go_wp2_with fail
      refine (gcells_any g wd (by omega) _ HC.out).mono ?_
      rintro e w15 ⟨B, mr, cr, row, rfl, hml, hmw, hval, hown, hrow, hc1, hb1⟩
      have HPP := Lib.hid (points_plain HKa.out.1 HKa.out.2.1 HKb.out.1 HKb.out.2.1 (row := row) ⟨by omega, hval⟩)
      rw [Heu.out, Hru.out, Hei.out, Hri.out, Hem.out, Hrm.out, Hen.out, Hrn.out, Hdin.out] at HPP
      obtain ⟨dx, Hdx⟩ : ∃ z, Hid (hasR ra row = z) := ⟨_, rfl⟩
      obtain ⟨dy, Hdy⟩ : ∃ z, Hid (hasR rb row = z) := ⟨_, rfl⟩
      rw [Hdx.out, Hdy.out] at HPP
      replace HSa := Lib.hid (HSa.out.case HC.out hb1)
      replace HVa := Lib.hid (HVa.out.but hb1 (HC.out.ne HVa.out (by decide)))
      replace HSb := Lib.hid (HSb.out.case HC.out hb1)
      replace HVb := Lib.hid (HVb.out.but hb1 (HC.out.ne HVb.out (by decide)))
      replace HSu := Lib.hid (HSu.out.case HC.out hb1)
      replace HVu := Lib.hid (HVu.out.but hb1 (HC.out.ne HVu.out (by decide)))
      replace HSi := Lib.hid (HSi.out.case HC.out hb1)
      replace HVi := Lib.hid (HVi.out.but hb1 (HC.out.ne HVi.out (by decide)))
      replace HSm := Lib.hid (HSm.out.case HC.out hb1)
      replace HVm := Lib.hid (HVm.out.but hb1 (HC.out.ne HVm.out (by decide)))
      replace HSn := Lib.hid (HSn.out.case HC.out hb1)
      replace HVn := Lib.hid (HVn.out.but hb1 (HC.out.ne HVn.out (by decide)))
      replace HM := Lib.hid (HM.out.trans hb1)
      replace HC := Lib.hid hc1
      have HRow := Lib.hid hrow
      clear hval hown hrow hc1 hb1 HH hml hmw
      go_upto_region 13 with fail
      refine wp_region_plan (fun _ => False) (.one [0, 1, 3, 4] 2 (.one [] 5 (.last [6, 7]))) (by kernel_rfl) (by kernel_rfl) (fun _ _ d _ _ h => by cases d <;> exact h) ?_
      have hbd : Below w15.heap.size w15 w15.drew := (Below.refl _ _).drew
      replace HSa := Lib.hid (HSa.out.keep (keeps_of hbd))
      replace HVa := Lib.hid (HVa.out.below hbd)
      replace HSb := Lib.hid (HSb.out.keep (keeps_of hbd))
      replace HVb := Lib.hid (HVb.out.below hbd)
      replace HSu := Lib.hid (HSu.out.keep (keeps_of hbd))
      replace HVu := Lib.hid (HVu.out.below hbd)
      replace HSi := Lib.hid (HSi.out.keep (keeps_of hbd))
      replace HVi := Lib.hid (HVi.out.below hbd)
      replace HSm := Lib.hid (HSm.out.keep (keeps_of hbd))
      replace HVm := Lib.hid (HVm.out.below hbd)
      replace HSn := Lib.hid (HSn.out.keep (keeps_of hbd))
      replace HVn := Lib.hid (HVn.out.below hbd)
      replace HRow := Lib.hid (HRow.out.keep (keeps_of hbd))
      replace HM := Lib.hid (gbut_belowB HM.out hbd HM.out.size)
      replace HC := Lib.hid (HC.out.below hbd)
      clear hbd
      generalize hWd : World.drew _ = Wd at *
      clear hWd
      have qa : ∀ (y : LaterS (fun _ => False) Wd) z, (afterS (fun _ => False) Wd y).cell? ⟨Va, z, none⟩ = (#[.int .i64 xa, .bool fa, .slice Aa na ca] : Array Value)[z]? := fun y z => (HVa.out.but y.but (fun h => h)).cell z
      have qb : ∀ (y : LaterS (fun _ => False) Wd) z, (afterS (fun _ => False) Wd y).cell? ⟨Vb, z, none⟩ = (#[.int .i64 xb, .bool fb, .slice Ab nb cb] : Array Value)[z]? := fun y z => (HVb.out.but y.but (fun h => h)).cell z
      unfold wpPlan
      simp only [pickOps, opAt, List.map_cons, List.map_nil, List.getElem?_toArray, List.getElem?_cons_zero, List.getElem?_cons_succ, Option.getD_some]
      repeat (go_big_quiet_step (fail))
      refine wpQuiet_nil ?_
      clear qa qb
      go_wp2_with fail
      refine (ghas_any ra xa fa Aa na ca row B mr cr _ HSa.out HRow.out).mono ?_
      rintro e w16 ⟨rfl, hb⟩
      rw [Hdx.out]
      go_wp2_with fail
      refine ⟨But.of_below hb, ?_⟩
      replace HSa := Lib.hid (HSa.out.keep (keeps_of hb))
      replace HVa := Lib.hid (HVa.out.below hb)
      replace HSb := Lib.hid (HSb.out.keep (keeps_of hb))
      replace HVb := Lib.hid (HVb.out.below hb)
      replace HSu := Lib.hid (HSu.out.keep (keeps_of hb))
      replace HVu := Lib.hid (HVu.out.below hb)
      replace HSi := Lib.hid (HSi.out.keep (keeps_of hb))
      replace HVi := Lib.hid (HVi.out.below hb)
      replace HSm := Lib.hid (HSm.out.keep (keeps_of hb))
      replace HVm := Lib.hid (HVm.out.below hb)
      replace HSn := Lib.hid (HSn.out.keep (keeps_of hb))
      replace HVn := Lib.hid (HVn.out.below hb)
      replace HRow := Lib.hid (HRow.out.keep (keeps_of hb))
      replace HM := Lib.hid (gbut_belowB HM.out hb HM.out.size)
      replace HC := Lib.hid (HC.out.below hb)
      clear hb
      unfold wpPlan
      simp only [pickOps, opAt, List.map_nil, List.getElem?_toArray, List.getElem?_cons_zero, List.getElem?_cons_succ, Option.getD_some]
      repeat (go_big_quiet_step (fail))
      refine wpQuiet_nil ?_
      go_wp2_with fail
      refine (ghas_any rb xb fb Ab nb cb row B mr cr _ HSb.out HRow.out).mono ?_
      rintro e w17 ⟨rfl, hb⟩
      rw [Hdy.out]
      go_wp2_with fail
      refine ⟨But.of_below hb, ?_⟩
      replace HSa := Lib.hid (HSa.out.keep (keeps_of hb))
      replace HVa := Lib.hid (HVa.out.below hb)
      replace HSb := Lib.hid (HSb.out.keep (keeps_of hb))
      replace HVb := Lib.hid (HVb.out.below hb)
      replace HSu := Lib.hid (HSu.out.keep (keeps_of hb))
      replace HVu := Lib.hid (HVu.out.below hb)
      replace HSi := Lib.hid (HSi.out.keep (keeps_of hb))
      replace HVi := Lib.hid (HVi.out.below hb)
      replace HSm := Lib.hid (HSm.out.keep (keeps_of hb))
      replace HVm := Lib.hid (HVm.out.below hb)
      replace HSn := Lib.hid (HSn.out.keep (keeps_of hb))
      replace HVn := Lib.hid (HVn.out.below hb)
      replace HRow := Lib.hid (HRow.out.keep (keeps_of hb))
      replace HM := Lib.hid (gbut_belowB HM.out hb HM.out.size)
      replace HC := Lib.hid (HC.out.below hb)
      clear hb
      unfold wpPlan
      simp only [pickOps, opAt, List.map_cons, List.map_nil, List.getElem?_toArray, List.getElem?_cons_zero, List.getElem?_cons_succ, Option.getD_some]
      repeat (go_big_quiet_step (fail))
      refine wpQuiet_nil ?_
      clear HSa HVa
      clear HSb HVb
      go_upto_region 14 with fail
      refine wp_region_lit ?_
      refine wpList_at 12 [73, 74, 75, 76, 77, 78, 79, 80, 81, 82, 83, 84] (fun us w8 => us 84 = .bool false ∧ Below w17.heap.size w17 w8) ?_ ?_
      · simp only [List.take_succ_cons, List.take_zero]
        cases dx <;> cases dy
        all_goals rcases HE.out.1 with rfl | rfl
        all_goals first
          | have hv := HPP.out.1 rfl
            have zz := HVu.out.cell
            go_wp2_with fail
            refine (ghas_any ru xu fu Au nu cu row B mr cr _ HSu.out HRow.out).mono ?_
            rintro e w200 ⟨rfl, hb⟩
            rw [hv]
            clear zz hv
            go_wp2_with fail
            exact EndAt.intro ⟨rfl, hb⟩ (by kernel_rfl)
          | go_wp2_with fail
            exact EndAt.intro ⟨rfl, Below.refl _ _⟩ (by kernel_rfl)
      · rintro us0 w300 ⟨h84, hb⟩
        simp only [List.drop_succ_cons, List.drop_zero, overU, List.foldl]
        replace HSu := Lib.hid (HSu.out.keep (keeps_of hb))
        replace HVu := Lib.hid (HVu.out.below hb)
        replace HSi := Lib.hid (HSi.out.keep (keeps_of hb))
        replace HVi := Lib.hid (HVi.out.below hb)
        replace HSm := Lib.hid (HSm.out.keep (keeps_of hb))
        replace HVm := Lib.hid (HVm.out.below hb)
        replace HSn := Lib.hid (HSn.out.keep (keeps_of hb))
        replace HVn := Lib.hid (HVn.out.below hb)
        replace HRow := Lib.hid (HRow.out.keep (keeps_of hb))
        replace HM := Lib.hid (gbut_belowB HM.out hb HM.out.size)
        replace HC := Lib.hid (HC.out.below hb)
        clear hb
        go_simp
        clear HSu HVu
        refine wpList_at 14 [85, 86, 87, 88, 89, 90, 91, 92, 93, 94, 95, 96, 97, 98] (fun us w8 => us 98 = .bool false ∧ Below w300.heap.size w300 w8) ?_ ?_
        · simp only [List.take_succ_cons, List.take_zero]
          cases dx <;> cases dy
          all_goals rcases HE.out.2.1 with rfl | rfl
          all_goals first
            | have hv := HPP.out.2.1 rfl
              have zz := HVi.out.cell
              go_wp2_with fail
              refine (ghas_any ri xi fi Ai ni ci row B mr cr _ HSi.out HRow.out).mono ?_
              rintro e w200 ⟨rfl, hb⟩
              rw [hv]
              clear zz hv
              go_wp2_with fail
              exact EndAt.intro ⟨rfl, hb⟩ (by kernel_rfl)
            | go_wp2_with fail
              exact EndAt.intro ⟨rfl, Below.refl _ _⟩ (by kernel_rfl)
        · rintro us1 w301 ⟨h98, hb⟩
          simp only [List.drop_succ_cons, List.drop_zero, overU, List.foldl]
          replace HSi := Lib.hid (HSi.out.keep (keeps_of hb))
          replace HVi := Lib.hid (HVi.out.below hb)
          replace HSm := Lib.hid (HSm.out.keep (keeps_of hb))
          replace HVm := Lib.hid (HVm.out.below hb)
          replace HSn := Lib.hid (HSn.out.keep (keeps_of hb))
          replace HVn := Lib.hid (HVn.out.below hb)
          replace HRow := Lib.hid (HRow.out.keep (keeps_of hb))
          replace HM := Lib.hid (gbut_belowB HM.out hb HM.out.size)
          replace HC := Lib.hid (HC.out.below hb)
          clear hb
          go_simp
          clear HSi HVi
          refine wpList_at 15 [99, 100, 101, 102, 103, 104, 105, 106, 107, 108, 109, 110, 111, 112, 113] (fun us w8 => us 113 = .bool false ∧ Below w301.heap.size w301 w8) ?_ ?_
          · simp only [List.take_succ_cons, List.take_zero]
            cases dx <;> cases dy
            all_goals rcases HE.out.2.2.1 with rfl | rfl
            all_goals first
              | have hv := HPP.out.2.2.1 rfl
                have zz := HVm.out.cell
                go_wp2_with fail
                refine (ghas_any rm xm fm Am nm cm row B mr cr _ HSm.out HRow.out).mono ?_
                rintro e w200 ⟨rfl, hb⟩
                rw [hv]
                clear zz hv
                go_wp2_with fail
                exact EndAt.intro ⟨rfl, hb⟩ (by kernel_rfl)
              | go_wp2_with fail
                exact EndAt.intro ⟨rfl, Below.refl _ _⟩ (by kernel_rfl)
          · rintro us2 w302 ⟨h113, hb⟩
            simp only [List.drop_succ_cons, List.drop_zero, overU, List.foldl]
            replace HSm := Lib.hid (HSm.out.keep (keeps_of hb))
            replace HVm := Lib.hid (HVm.out.below hb)
            replace HSn := Lib.hid (HSn.out.keep (keeps_of hb))
            replace HVn := Lib.hid (HVn.out.below hb)
            replace HRow := Lib.hid (HRow.out.keep (keeps_of hb))
            replace HM := Lib.hid (gbut_belowB HM.out hb HM.out.size)
            replace HC := Lib.hid (HC.out.below hb)
            clear hb
            go_simp
            clear HSm HVm
            refine wpList_at 11 [114, 115, 116, 117, 118, 119, 120, 121, 122, 123, 124] (fun us w8 => us 124 = .bool false ∧ Below w302.heap.size w302 w8) ?_ ?_
            · simp only [List.take_succ_cons, List.take_zero]
              cases dx <;> cases dy
              all_goals rcases HE.out.2.2.2 with rfl | rfl
              all_goals first
                | have hv := HPP.out.2.2.2.1 rfl
                  have zz := HVn.out.cell
                  go_wp2_with fail
                  refine (ghas_any rn xn fn An nn cn row B mr cr _ HSn.out HRow.out).mono ?_
                  rintro e w200 ⟨rfl, hb⟩
                  rw [hv]
                  clear zz hv
                  go_wp2_with fail
                  exact EndAt.intro ⟨rfl, hb⟩ (by kernel_rfl)
                | go_wp2_with fail
                  exact EndAt.intro ⟨rfl, Below.refl _ _⟩ (by kernel_rfl)
            · rintro us3 w303 ⟨h124, hb⟩
              simp only [List.drop_succ_cons, List.drop_zero, overU, List.foldl]
              replace HSn := Lib.hid (HSn.out.keep (keeps_of hb))
              replace HVn := Lib.hid (HVn.out.below hb)
              replace HRow := Lib.hid (HRow.out.keep (keeps_of hb))
              replace HM := Lib.hid (gbut_belowB HM.out hb HM.out.size)
              replace HC := Lib.hid (HC.out.below hb)
              clear hb
              go_simp
              clear HSn HVn
              refine wpList_at 10 [125, 126, 127, 128, 129, 130, 131, 132, 133, 134] (fun us w8 => us 134 = .bool false ∧ Below w303.heap.size w303 w8) ?_ ?_
              · simp only [List.take_succ_cons, List.take_zero]
                cases dx <;> cases dy <;> cases din
                all_goals first
                  | exact absurd (HPP.out.2.2.2.2 rfl rfl) (by decide)
                  | go_wp2_with fail
                    exact EndAt.intro ⟨rfl, Below.refl _ _⟩ (by kernel_rfl)
              · rintro us4 w304 ⟨h134, hb⟩
                simp only [List.drop_succ_cons, List.drop_zero, overU, List.foldl]
                replace HRow := Lib.hid (HRow.out.keep (keeps_of hb))
                replace HM := Lib.hid (gbut_belowB HM.out hb HM.out.size)
                replace HC := Lib.hid (HC.out.below hb)
                clear hb
                go_simp
                go_wp2
                go_roundw
                case rel => exact ⟨k + 1, by omega, by go_num, HC, HM⟩
                case measure => simp [intOf]; omega
    · obtain rfl : k = 6 := by omega
      go_wp2_with fail
      refine (begun4_any _).mono ?_
      rintro e w99 ⟨rfl, hb99⟩
      replace hB := Below.next hB hb99
      clear hb99
      go_wp2
      go_ret
      exact ⟨rfl, hB⟩
end Go.Proofs.YtnocbigcdjlliaaGreat
