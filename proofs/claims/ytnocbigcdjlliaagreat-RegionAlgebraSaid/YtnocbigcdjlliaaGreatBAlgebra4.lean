/-
  The walk of the law RegionAlgebra.
-/
import Derived.Test.YtnocbigcdjlliaaGreatB44
import Derived.Test.YtnocbigcdjlliaaGreatB45
import Derived.Test.YtnocbigcdjlliaaGreatB46
set_option linter.unusedVariables false
namespace Go.Proofs.YtnocbigcdjlliaaGreat
open Go.RowKit
set_option maxRecDepth 100000
open Rg

set_option maxHeartbeats 8000000 in
theorem algebra4_walk (A : Option Addr) (n c : Nat) (zs : List Int) (w : World) (hs : Sl 1 u8c w A n zs) (hz : ∀ z ∈ zs, 0 ≤ z ∧ z ≤ 255) (hnil : A = none → n = 0 ∧ c = 0) (hsp : ∀ ad, A = some ad → ad.spot = none) (hnc : n ≤ c) (hcm : c ≤ 9223372036854775807) :
    Calls Tryz.prog 4 #[.slice A n c] w fun e w' => e = .returned (.bool true) ∧ Below w.heap.size w w' := by
  have HS := Lib.hid hs
  have HZ := Lib.hid hz
  have HN := Lib.hid hnil
  have HP := Lib.hid hsp
  clear hs hz hnil hsp
  go_enter Tryz.func4, Tryz.ntmps4
  go_wp2_with fail
  refine (new_any A n c zs 160 _ HS.out HZ.out HN.out HP.out hnc hcm (by omega)).mono ?_
  rintro e w0 ⟨g, hg, rfl, hc, hB⟩
  clear HS HZ HN HP
  go_wp2_with fail
  refine (int_any g 3 _ hc (by omega) (by omega)).mono ?_
  rintro e w1 ⟨⟨y, hy1, hy2, rfl⟩, hc1, hb1⟩
  replace hB := hb1.below hB hB.size (fun k hk => by subst hk; exact hg)
  replace hc := hc1
  clear hb1
  obtain ⟨wd, hwd1, hwd2, hwd⟩ : ∃ wd : Nat, 1 ≤ wd ∧ wd ≤ 3 ∧ 1 + y = (wd : Int) := ⟨(1 + y).toNat, by omega, by omega, by omega⟩
  go_wp2_with fail
  refine (cregion_any g wd (by omega) _ hc).mono ?_
  rintro e w2 ⟨xa, fa, Aa, na, ca, ra, rfl, hSa, hOa, hWa, hFa, hc2, hb2⟩
  replace hB := hb2.below hB hB.size (fun k hk => by subst hk; exact hg)
  replace hc := hc2
  have HSa := Lib.hid hSa
  have HKa := Lib.hid (And.intro hOa (And.intro hWa hFa))
  clear hb2 hSa hOa hWa hFa
  go_wp2_with fail
  refine (cregion_any g wd (by omega) _ hc).mono ?_
  rintro e w3 ⟨xb, fb, Ab, nb, cb, rb, rfl, hSb, hOb, hWb, hFb, hc3, hb3⟩
  replace HSa := Lib.hid (HSa.out.case hc hb3)
  replace hB := hb3.below hB hB.size (fun k hk => by subst hk; exact hg)
  replace hc := hc3
  have HSb := Lib.hid hSb
  have HKb := Lib.hid (And.intro hOb (And.intro hWb hFb))
  clear hb3 hSb hOb hWb hFb
  replace HSa := Lib.hid (HSa.out.keep (keeps_alloc w3 (.cells #[.int .i64 xa, .bool fa, .slice Aa na ca] 28)))
  replace HSb := Lib.hid (HSb.out.keep (keeps_alloc w3 (.cells #[.int .i64 xa, .bool fa, .slice Aa na ca] 28)))
  have HVa := Lib.hid (Blk.new w3 28 #[.int .i64 xa, .bool fa, .slice Aa na ca])
  obtain ⟨Va, HXa⟩ : ∃ z, Hid (w3.heap.size = z) := ⟨_, rfl⟩
  rw [HXa.out] at HVa
  replace hB := hB.alloc hB.size (.cells #[.int .i64 xa, .bool fa, .slice Aa na ca] 28)
  replace hc := hc.below ((Below.refl _ _).alloc (Nat.le_refl _) (.cells #[.int .i64 xa, .bool fa, .slice Aa na ca] 28))
  replace HSa := Lib.hid (HSa.out.keep (keeps_alloc (w3.alloc (.cells #[.int .i64 xa, .bool fa, .slice Aa na ca] 28)) (.cells #[.int .i64 xb, .bool fb, .slice Ab nb cb] 28)))
  replace HVa := Lib.hid (HVa.out.alloc (.cells #[.int .i64 xb, .bool fb, .slice Ab nb cb] 28))
  replace HSb := Lib.hid (HSb.out.keep (keeps_alloc (w3.alloc (.cells #[.int .i64 xa, .bool fa, .slice Aa na ca] 28)) (.cells #[.int .i64 xb, .bool fb, .slice Ab nb cb] 28)))
  have HVb := Lib.hid (Blk.new (w3.alloc (.cells #[.int .i64 xa, .bool fa, .slice Aa na ca] 28)) 28 #[.int .i64 xb, .bool fb, .slice Ab nb cb])
  obtain ⟨Vb, HXb⟩ : ∃ z, Hid (Va + 1 = z) := ⟨_, rfl⟩
  rw [World.size_alloc, HXa.out, HXb.out] at HVb
  replace hB := hB.alloc hB.size (.cells #[.int .i64 xb, .bool fb, .slice Ab nb cb] 28)
  replace hc := hc.below ((Below.refl _ _).alloc (Nat.le_refl _) (.cells #[.int .i64 xb, .bool fb, .slice Ab nb cb] 28))
  go_upto_region 4 with fail
  rw [HXa.out]
  rw [HXb.out]
  generalize hWW : ((w3.alloc (.cells #[.int .i64 xa, .bool fa, .slice Aa na ca] 28)).alloc (.cells #[.int .i64 xb, .bool fb, .slice Ab nb cb] 28)) = WW4 at *
  clear hWW
  clear hc
  go_wp2_with fail
  refine (gAll_any _ _).mono ?_
  rintro e w5 ⟨xt, ft, At, nt, ct, rfl, hSt, hb5⟩
  obtain ⟨et, Het⟩ : ∃ z, Hid (allErr (wd : Int) = z) := ⟨_, rfl⟩
  rw [Het.out]
  replace HSa := Lib.hid (HSa.out.keep (keeps_of hb5))
  replace HVa := Lib.hid (HVa.out.below hb5)
  replace HSb := Lib.hid (HSb.out.keep (keeps_of hb5))
  replace HVb := Lib.hid (HVb.out.below hb5)
  replace hB := Below.next hB hb5
  clear hwd hy1 hy2
  obtain ⟨rt, Hrt⟩ : ∃ z, Hid (allRes (wd : Int) = z) := ⟨_, rfl⟩
  rw [Hrt.out] at hSt
  have HSt := Lib.hid hSt
  clear hSt hb5
  replace HSa := Lib.hid (HSa.out.keep (keeps_alloc w5 (.cells #[.int .i64 xt, .bool ft, .slice At nt ct] 28)))
  replace HVa := Lib.hid (HVa.out.alloc (.cells #[.int .i64 xt, .bool ft, .slice At nt ct] 28))
  replace HSb := Lib.hid (HSb.out.keep (keeps_alloc w5 (.cells #[.int .i64 xt, .bool ft, .slice At nt ct] 28)))
  replace HVb := Lib.hid (HVb.out.alloc (.cells #[.int .i64 xt, .bool ft, .slice At nt ct] 28))
  replace HSt := Lib.hid (HSt.out.keep (keeps_alloc w5 (.cells #[.int .i64 xt, .bool ft, .slice At nt ct] 28)))
  have HVt := Lib.hid (Blk.new w5 28 #[.int .i64 xt, .bool ft, .slice At nt ct])
  obtain ⟨Vt, HXt⟩ : ∃ z, Hid (w5.heap.size = z) := ⟨_, rfl⟩
  rw [HXt.out] at HVt
  replace hB := hB.alloc hB.size (.cells #[.int .i64 xt, .bool ft, .slice At nt ct] 28)
  go_upto_region 5 with fail
  rw [HXt.out]
  generalize hWW : (w5.alloc (.cells #[.int .i64 xt, .bool ft, .slice At nt ct] 28)) = WW6 at *
  clear hWW
  have h1 := cp_02 HKa.out.1 HKa.out.2.1
  have h2 := op_02 HKa.out.1 HKa.out.2.1 HKb.out.1 HKb.out.2.1 opUr
  have h3 := op_02 HKa.out.1 HKa.out.2.1 HKb.out.1 HKb.out.2.1 opIr
  have za := HVa.out.cell
  go_wp2_with fail
  refine (fcomplement_any ra xa fa Aa na ca _ HSa.out).mono ?_
  rintro e w7 ⟨xp, fp, Ap, np, cp, rfl, hSp, hb7⟩
  obtain ⟨ep, Hep⟩ : ∃ z, Hid (cpErr ra = z) := ⟨_, rfl⟩
  rw [Hep.out]
  rw [Hep.out] at h1
  clear za
  replace HSa := Lib.hid (HSa.out.keep (keeps_of hb7))
  replace HVa := Lib.hid (HVa.out.below hb7)
  replace HSb := Lib.hid (HSb.out.keep (keeps_of hb7))
  replace HVb := Lib.hid (HVb.out.below hb7)
  replace HSt := Lib.hid (HSt.out.keep (keeps_of hb7))
  replace HVt := Lib.hid (HVt.out.below hb7)
  replace hB := Below.next hB hb7
  have HSp := Lib.hid hSp
  clear hSp hb7
  replace HSa := Lib.hid (HSa.out.keep (keeps_alloc w7 (.cells #[.int .i64 xp, .bool fp, .slice Ap np cp] 28)))
  replace HVa := Lib.hid (HVa.out.alloc (.cells #[.int .i64 xp, .bool fp, .slice Ap np cp] 28))
  replace HSb := Lib.hid (HSb.out.keep (keeps_alloc w7 (.cells #[.int .i64 xp, .bool fp, .slice Ap np cp] 28)))
  replace HVb := Lib.hid (HVb.out.alloc (.cells #[.int .i64 xp, .bool fp, .slice Ap np cp] 28))
  replace HSt := Lib.hid (HSt.out.keep (keeps_alloc w7 (.cells #[.int .i64 xp, .bool fp, .slice Ap np cp] 28)))
  replace HVt := Lib.hid (HVt.out.alloc (.cells #[.int .i64 xp, .bool fp, .slice Ap np cp] 28))
  replace HSp := Lib.hid (HSp.out.keep (keeps_alloc w7 (.cells #[.int .i64 xp, .bool fp, .slice Ap np cp] 28)))
  have HVp := Lib.hid (Blk.new w7 28 #[.int .i64 xp, .bool fp, .slice Ap np cp])
  obtain ⟨Vp, HXp⟩ : ∃ z, Hid (w7.heap.size = z) := ⟨_, rfl⟩
  rw [HXp.out] at HVp
  replace hB := hB.alloc hB.size (.cells #[.int .i64 xp, .bool fp, .slice Ap np cp] 28)
  go_upto_region 6 with fail
  rw [HXp.out]
  generalize hWW : (w7.alloc (.cells #[.int .i64 xp, .bool fp, .slice Ap np cp] 28)) = WW8 at *
  clear hWW
  rcases h1 with rfl | rfl
  rotate_left
  · go_wp2_with fail
    refine (begun4_any _).mono ?_
    rintro e w99 ⟨rfl, hb99⟩
    replace hB := Below.next hB hb99
    clear hb99
    go_wp2
    go_ret
    exact ⟨rfl, hB⟩
  clear HSp HVp
  have za := HVa.out.cell
  have zb := HVb.out.cell
  go_wp2_with fail
  refine (funion_any ra xa fa Aa na ca rb xb fb Ab nb cb _ HSa.out HSb.out).mono ?_
  rintro e w9 ⟨xu, fu, Au, nu, cu, rfl, hSu, hb9⟩
  rw [opR_eq.1] at hSu ⊢
  obtain ⟨eu, Heu⟩ : ∃ z, Hid (opErr opUr ra rb = z) := ⟨_, rfl⟩
  rw [Heu.out]
  rw [Heu.out] at h2
  clear za zb
  replace HSa := Lib.hid (HSa.out.keep (keeps_of hb9))
  replace HVa := Lib.hid (HVa.out.below hb9)
  replace HSb := Lib.hid (HSb.out.keep (keeps_of hb9))
  replace HVb := Lib.hid (HVb.out.below hb9)
  replace HSt := Lib.hid (HSt.out.keep (keeps_of hb9))
  replace HVt := Lib.hid (HVt.out.below hb9)
  replace hB := Below.next hB hb9
  have HSu := Lib.hid hSu
  clear hSu hb9
  replace HSa := Lib.hid (HSa.out.keep (keeps_alloc w9 (.cells #[.int .i64 xu, .bool fu, .slice Au nu cu] 28)))
  replace HVa := Lib.hid (HVa.out.alloc (.cells #[.int .i64 xu, .bool fu, .slice Au nu cu] 28))
  replace HSb := Lib.hid (HSb.out.keep (keeps_alloc w9 (.cells #[.int .i64 xu, .bool fu, .slice Au nu cu] 28)))
  replace HVb := Lib.hid (HVb.out.alloc (.cells #[.int .i64 xu, .bool fu, .slice Au nu cu] 28))
  replace HSt := Lib.hid (HSt.out.keep (keeps_alloc w9 (.cells #[.int .i64 xu, .bool fu, .slice Au nu cu] 28)))
  replace HVt := Lib.hid (HVt.out.alloc (.cells #[.int .i64 xu, .bool fu, .slice Au nu cu] 28))
  replace HSu := Lib.hid (HSu.out.keep (keeps_alloc w9 (.cells #[.int .i64 xu, .bool fu, .slice Au nu cu] 28)))
  have HVu := Lib.hid (Blk.new w9 28 #[.int .i64 xu, .bool fu, .slice Au nu cu])
  obtain ⟨Vu, HXu⟩ : ∃ z, Hid (w9.heap.size = z) := ⟨_, rfl⟩
  rw [HXu.out] at HVu
  replace hB := hB.alloc hB.size (.cells #[.int .i64 xu, .bool fu, .slice Au nu cu] 28)
  go_upto_region 9 with fail
  rw [HXu.out]
  generalize hWW : (w9.alloc (.cells #[.int .i64 xu, .bool fu, .slice Au nu cu] 28)) = WW10 at *
  clear hWW
  rcases h2 with rfl | rfl
  rotate_left
  · go_wp2_with fail
    refine (begun4_any _).mono ?_
    rintro e w99 ⟨rfl, hb99⟩
    replace hB := Below.next hB hb99
    clear hb99
    go_wp2
    go_ret
    exact ⟨rfl, hB⟩
  clear HSu HVu
  have za := HVa.out.cell
  have zb := HVb.out.cell
  go_wp2_with fail
  refine (fintersect_any ra xa fa Aa na ca rb xb fb Ab nb cb _ HSa.out HSb.out).mono ?_
  rintro e w11 ⟨xi, fi, Ai, ni, ci, rfl, hSi, hb11⟩
  rw [opR_eq.2.1] at hSi ⊢
  obtain ⟨ei, Hei⟩ : ∃ z, Hid (opErr opIr ra rb = z) := ⟨_, rfl⟩
  rw [Hei.out]
  rw [Hei.out] at h3
  clear za zb
  replace HSa := Lib.hid (HSa.out.keep (keeps_of hb11))
  replace HVa := Lib.hid (HVa.out.below hb11)
  replace HSb := Lib.hid (HSb.out.keep (keeps_of hb11))
  replace HVb := Lib.hid (HVb.out.below hb11)
  replace HSt := Lib.hid (HSt.out.keep (keeps_of hb11))
  replace HVt := Lib.hid (HVt.out.below hb11)
  replace hB := Below.next hB hb11
  have HSi := Lib.hid hSi
  clear hSi hb11
  replace HSa := Lib.hid (HSa.out.keep (keeps_alloc w11 (.cells #[.int .i64 xi, .bool fi, .slice Ai ni ci] 28)))
  replace HVa := Lib.hid (HVa.out.alloc (.cells #[.int .i64 xi, .bool fi, .slice Ai ni ci] 28))
  replace HSb := Lib.hid (HSb.out.keep (keeps_alloc w11 (.cells #[.int .i64 xi, .bool fi, .slice Ai ni ci] 28)))
  replace HVb := Lib.hid (HVb.out.alloc (.cells #[.int .i64 xi, .bool fi, .slice Ai ni ci] 28))
  replace HSt := Lib.hid (HSt.out.keep (keeps_alloc w11 (.cells #[.int .i64 xi, .bool fi, .slice Ai ni ci] 28)))
  replace HVt := Lib.hid (HVt.out.alloc (.cells #[.int .i64 xi, .bool fi, .slice Ai ni ci] 28))
  replace HSi := Lib.hid (HSi.out.keep (keeps_alloc w11 (.cells #[.int .i64 xi, .bool fi, .slice Ai ni ci] 28)))
  have HVi := Lib.hid (Blk.new w11 28 #[.int .i64 xi, .bool fi, .slice Ai ni ci])
  obtain ⟨Vi, HXi⟩ : ∃ z, Hid (w11.heap.size = z) := ⟨_, rfl⟩
  rw [HXi.out] at HVi
  replace hB := hB.alloc hB.size (.cells #[.int .i64 xi, .bool fi, .slice Ai ni ci] 28)
  go_upto_region 12 with fail
  rw [HXi.out]
  generalize hWW : (w11.alloc (.cells #[.int .i64 xi, .bool fi, .slice Ai ni ci] 28)) = WW12 at *
  clear hWW
  rcases h3 with rfl | rfl
  rotate_left
  · go_wp2_with fail
    refine (begun4_any _).mono ?_
    rintro e w99 ⟨rfl, hb99⟩
    replace hB := Below.next hB hb99
    clear hb99
    go_wp2
    go_ret
    exact ⟨rfl, hB⟩
  clear HSi HVi
  have HM := Lib.hid (algebra_plain HKa.out.1 HKa.out.2.1 HKb.out.1 HKb.out.2.1 Hep.out Heu.out Hei.out)
  rw [Hrt.out] at HM
  go_upto_region 14 with fail
  refine wp_region_plan (fun _ => False) (.one [] 0 (.one [1, 2, 5] 3 (.one [] 4 (.one [] 6 (.one [7, 8, 9, 10, 12, 13] 11 (.one [] 14 (.one [] 15 (.one [16, 17, 18, 19, 21, 22] 20 (.one [] 23 (.one [] 24 (.one [25, 26, 27, 28, 29, 32] 30 (.one [] 31 (.one [] 33 (.one [34, 35, 36, 37, 38, 41] 39 (.one [] 40 (.one [] 42 (.one [43, 44, 45, 46, 49] 47 (.one [] 48 (.one [] 50 (.last [51, 52])))))))))))))))))))) (by kernel_rfl) (by kernel_rfl) (fun _ _ d _ _ h => by cases d <;> exact h) ?_
  replace HSa := Lib.hid (HSa.out.keep (keeps_of ((Below.refl _ _).drew)))
  replace HVa := Lib.hid HVa.out.drew
  replace HSb := Lib.hid (HSb.out.keep (keeps_of ((Below.refl _ _).drew)))
  replace HVb := Lib.hid HVb.out.drew
  replace HSt := Lib.hid (HSt.out.keep (keeps_of ((Below.refl _ _).drew)))
  replace HVt := Lib.hid HVt.out.drew
  replace hB := hB.drew
  generalize hWd : World.drew _ = Wd13 at *
  clear hWd
  unfold wpPlan
  simp only [pickOps, opAt, List.map_nil, List.getElem?_toArray, List.getElem?_cons_zero, Option.getD_some]
  repeat (go_big_quiet_step (fail))
  refine wpQuiet_nil ?_
  go_wp2_with fail
  refine (begun4_any _).mono ?_
  rintro e w14 ⟨rfl, hb14⟩
  go_wp2_with fail
  refine ⟨But.of_below hb14, ?_⟩
  replace HSa := Lib.hid (HSa.out.keep (keeps_of hb14))
  replace HVa := Lib.hid (HVa.out.below hb14)
  replace HSb := Lib.hid (HSb.out.keep (keeps_of hb14))
  replace HVb := Lib.hid (HVb.out.below hb14)
  replace HSt := Lib.hid (HSt.out.keep (keeps_of hb14))
  replace HVt := Lib.hid (HVt.out.below hb14)
  replace hB := Below.next hB hb14
  clear hb14
  have qa : ∀ (y : LaterS (fun _ => False) w14) z, (afterS (fun _ => False) w14 y).cell? ⟨Va, z, none⟩ = (#[.int .i64 xa, .bool fa, .slice Aa na ca] : Array Value)[z]? := fun y z => (HVa.out.but y.but (fun h => h)).cell z
  unfold wpPlan
  simp only [pickOps, opAt, List.map_cons, List.map_nil, List.getElem?_toArray, List.getElem?_cons_zero, List.getElem?_cons_succ, Option.getD_some]
  repeat (go_big_quiet_step (fail))
  refine wpQuiet_nil ?_
  clear qa
  go_wp2_with fail
  refine (lnot_any ra xa fa Aa na ca _ HSa.out HKa.out.2.2).mono ?_
  rintro e w15 ⟨xg, fg, Ag, ng, cg, rfl, hSg, hb15⟩
  obtain ⟨rg, Hrg⟩ : ∃ z, Hid (cpRes ra = z) := ⟨_, rfl⟩
  rw [Hrg.out] at hSg
  go_wp2_with fail
  refine ⟨But.of_below hb15, ?_⟩
  replace HSa := Lib.hid (HSa.out.keep (keeps_of hb15))
  replace HVa := Lib.hid (HVa.out.below hb15)
  replace HSb := Lib.hid (HSb.out.keep (keeps_of hb15))
  replace HVb := Lib.hid (HVb.out.below hb15)
  replace HSt := Lib.hid (HSt.out.keep (keeps_of hb15))
  replace HVt := Lib.hid (HVt.out.below hb15)
  replace hB := Below.next hB hb15
  have HSg := Lib.hid hSg
  clear hSg
  clear hb15
  have HWg : Hid (WfR rg) := Lib.hid (by rw [← Hrg.out]; exact cp_wf HKa.out.2.2)
  unfold wpPlan
  simp only [pickOps, opAt, List.map_nil, List.getElem?_toArray, List.getElem?_cons_zero, List.getElem?_cons_succ, Option.getD_some]
  repeat (go_big_quiet_step (fail))
  refine wpQuiet_nil ?_
  go_wp2_with fail
  refine (lnot_any rg xg fg Ag ng cg _ HSg.out HWg.out).mono ?_
  rintro e w16 ⟨xh, fh, Ah, nh, ch, rfl, hSh, hb16⟩
  obtain ⟨rh, Hrh⟩ : ∃ z, Hid (cpRes rg = z) := ⟨_, rfl⟩
  rw [Hrh.out] at hSh
  go_wp2_with fail
  refine ⟨But.of_below hb16, ?_⟩
  replace HSa := Lib.hid (HSa.out.keep (keeps_of hb16))
  replace HVa := Lib.hid (HVa.out.below hb16)
  replace HSb := Lib.hid (HSb.out.keep (keeps_of hb16))
  replace HVb := Lib.hid (HVb.out.below hb16)
  replace HSt := Lib.hid (HSt.out.keep (keeps_of hb16))
  replace HVt := Lib.hid (HVt.out.below hb16)
  replace HSg := Lib.hid (HSg.out.keep (keeps_of hb16))
  replace hB := Below.next hB hb16
  have HSh := Lib.hid hSh
  clear hSh
  clear hb16
  clear HSg
  unfold wpPlan
  simp only [pickOps, opAt, List.map_nil, List.getElem?_toArray, List.getElem?_cons_zero, List.getElem?_cons_succ, Option.getD_some]
  repeat (go_big_quiet_step (fail))
  refine wpQuiet_nil ?_
  go_wp2_with fail
  refine (gequal_any rh xh fh Ah nh ch ra xa fa Aa na ca _ HSh.out HSa.out).mono ?_
  rintro e w17 ⟨rfl, hb17⟩
  rw [show eqB rh ra = true by rw [← Hrh.out, ← Hrg.out]; exact HM.out.1]
  go_wp2_with fail
  refine ⟨But.of_below hb17, ?_⟩
  replace HSa := Lib.hid (HSa.out.keep (keeps_of hb17))
  replace HVa := Lib.hid (HVa.out.below hb17)
  replace HSb := Lib.hid (HSb.out.keep (keeps_of hb17))
  replace HVb := Lib.hid (HVb.out.below hb17)
  replace HSt := Lib.hid (HSt.out.keep (keeps_of hb17))
  replace HVt := Lib.hid (HVt.out.below hb17)
  replace HSh := Lib.hid (HSh.out.keep (keeps_of hb17))
  replace hB := Below.next hB hb17
  clear hb17
  clear HSh
  have qa : ∀ (y : LaterS (fun _ => False) w17) z, (afterS (fun _ => False) w17 y).cell? ⟨Va, z, none⟩ = (#[.int .i64 xa, .bool fa, .slice Aa na ca] : Array Value)[z]? := fun y z => (HVa.out.but y.but (fun h => h)).cell z
  have qb : ∀ (y : LaterS (fun _ => False) w17) z, (afterS (fun _ => False) w17 y).cell? ⟨Vb, z, none⟩ = (#[.int .i64 xb, .bool fb, .slice Ab nb cb] : Array Value)[z]? := fun y z => (HVb.out.but y.but (fun h => h)).cell z
  unfold wpPlan
  simp only [pickOps, opAt, List.map_cons, List.map_nil, List.getElem?_toArray, List.getElem?_cons_zero, List.getElem?_cons_succ, Option.getD_some]
  repeat (go_big_quiet_step (fail))
  refine wpQuiet_nil ?_
  clear qa qb
  go_wp2_with fail
  refine (lor_any ra xa fa Aa na ca rb xb fb Ab nb cb _ HSa.out HSb.out HKa.out.2.2 HKb.out.2.2).mono ?_
  rintro e w18 ⟨xu, fu, Au, nu, cu, rfl, hSu, hb18⟩
  obtain ⟨ru, Hru⟩ : ∃ z, Hid (opRes opUr ra rb = z) := ⟨_, rfl⟩
  rw [Hru.out] at hSu
  go_wp2_with fail
  refine ⟨But.of_below hb18, ?_⟩
  replace HSa := Lib.hid (HSa.out.keep (keeps_of hb18))
  replace HVa := Lib.hid (HVa.out.below hb18)
  replace HSb := Lib.hid (HSb.out.keep (keeps_of hb18))
  replace HVb := Lib.hid (HVb.out.below hb18)
  replace HSt := Lib.hid (HSt.out.keep (keeps_of hb18))
  replace HVt := Lib.hid (HVt.out.below hb18)
  replace hB := Below.next hB hb18
  have HSu := Lib.hid hSu
  clear hSu
  clear hb18
  unfold wpPlan
  simp only [pickOps, opAt, List.map_nil, List.getElem?_toArray, List.getElem?_cons_zero, List.getElem?_cons_succ, Option.getD_some]
  repeat (go_big_quiet_step (fail))
  refine wpQuiet_nil ?_
  go_wp2_with fail
  refine (lor_any rb xb fb Ab nb cb ra xa fa Aa na ca _ HSb.out HSa.out HKb.out.2.2 HKa.out.2.2).mono ?_
  rintro e w19 ⟨xv, fv, Av, nv, cv, rfl, hSv, hb19⟩
  obtain ⟨rv, Hrv⟩ : ∃ z, Hid (opRes opUr rb ra = z) := ⟨_, rfl⟩
  rw [Hrv.out] at hSv
  go_wp2_with fail
  refine ⟨But.of_below hb19, ?_⟩
  replace HSa := Lib.hid (HSa.out.keep (keeps_of hb19))
  replace HVa := Lib.hid (HVa.out.below hb19)
  replace HSb := Lib.hid (HSb.out.keep (keeps_of hb19))
  replace HVb := Lib.hid (HVb.out.below hb19)
  replace HSt := Lib.hid (HSt.out.keep (keeps_of hb19))
  replace HVt := Lib.hid (HVt.out.below hb19)
  replace HSu := Lib.hid (HSu.out.keep (keeps_of hb19))
  replace hB := Below.next hB hb19
  have HSv := Lib.hid hSv
  clear hSv
  clear hb19
  unfold wpPlan
  simp only [pickOps, opAt, List.map_nil, List.getElem?_toArray, List.getElem?_cons_zero, List.getElem?_cons_succ, Option.getD_some]
  repeat (go_big_quiet_step (fail))
  refine wpQuiet_nil ?_
  go_wp2_with fail
  refine (gequal_any ru xu fu Au nu cu rv xv fv Av nv cv _ HSu.out HSv.out).mono ?_
  rintro e w20 ⟨rfl, hb20⟩
  rw [show eqB ru rv = true by rw [← Hru.out, ← Hrv.out]; exact HM.out.2.1]
  go_wp2_with fail
  refine ⟨But.of_below hb20, ?_⟩
  replace HSa := Lib.hid (HSa.out.keep (keeps_of hb20))
  replace HVa := Lib.hid (HVa.out.below hb20)
  replace HSb := Lib.hid (HSb.out.keep (keeps_of hb20))
  replace HVb := Lib.hid (HVb.out.below hb20)
  replace HSt := Lib.hid (HSt.out.keep (keeps_of hb20))
  replace HVt := Lib.hid (HVt.out.below hb20)
  replace HSu := Lib.hid (HSu.out.keep (keeps_of hb20))
  replace HSv := Lib.hid (HSv.out.keep (keeps_of hb20))
  replace hB := Below.next hB hb20
  clear hb20
  clear HSv
  clear HSu
  have qa : ∀ (y : LaterS (fun _ => False) w20) z, (afterS (fun _ => False) w20 y).cell? ⟨Va, z, none⟩ = (#[.int .i64 xa, .bool fa, .slice Aa na ca] : Array Value)[z]? := fun y z => (HVa.out.but y.but (fun h => h)).cell z
  have qb : ∀ (y : LaterS (fun _ => False) w20) z, (afterS (fun _ => False) w20 y).cell? ⟨Vb, z, none⟩ = (#[.int .i64 xb, .bool fb, .slice Ab nb cb] : Array Value)[z]? := fun y z => (HVb.out.but y.but (fun h => h)).cell z
  unfold wpPlan
  simp only [pickOps, opAt, List.map_cons, List.map_nil, List.getElem?_toArray, List.getElem?_cons_zero, List.getElem?_cons_succ, Option.getD_some]
  repeat (go_big_quiet_step (fail))
  refine wpQuiet_nil ?_
  clear qa qb
  go_wp2_with fail
  refine (land_any ra xa fa Aa na ca rb xb fb Ab nb cb _ HSa.out HSb.out HKa.out.2.2 HKb.out.2.2).mono ?_
  rintro e w21 ⟨xi, fi, Ai, ni, ci, rfl, hSi, hb21⟩
  obtain ⟨ri, Hri⟩ : ∃ z, Hid (opRes opIr ra rb = z) := ⟨_, rfl⟩
  rw [Hri.out] at hSi
  go_wp2_with fail
  refine ⟨But.of_below hb21, ?_⟩
  replace HSa := Lib.hid (HSa.out.keep (keeps_of hb21))
  replace HVa := Lib.hid (HVa.out.below hb21)
  replace HSb := Lib.hid (HSb.out.keep (keeps_of hb21))
  replace HVb := Lib.hid (HVb.out.below hb21)
  replace HSt := Lib.hid (HSt.out.keep (keeps_of hb21))
  replace HVt := Lib.hid (HVt.out.below hb21)
  replace hB := Below.next hB hb21
  have HSi := Lib.hid hSi
  clear hSi
  clear hb21
  unfold wpPlan
  simp only [pickOps, opAt, List.map_nil, List.getElem?_toArray, List.getElem?_cons_zero, List.getElem?_cons_succ, Option.getD_some]
  repeat (go_big_quiet_step (fail))
  refine wpQuiet_nil ?_
  go_wp2_with fail
  refine (land_any rb xb fb Ab nb cb ra xa fa Aa na ca _ HSb.out HSa.out HKb.out.2.2 HKa.out.2.2).mono ?_
  rintro e w22 ⟨xj, fj, Aj, nj, cj, rfl, hSj, hb22⟩
  obtain ⟨rj, Hrj⟩ : ∃ z, Hid (opRes opIr rb ra = z) := ⟨_, rfl⟩
  rw [Hrj.out] at hSj
  go_wp2_with fail
  refine ⟨But.of_below hb22, ?_⟩
  replace HSa := Lib.hid (HSa.out.keep (keeps_of hb22))
  replace HVa := Lib.hid (HVa.out.below hb22)
  replace HSb := Lib.hid (HSb.out.keep (keeps_of hb22))
  replace HVb := Lib.hid (HVb.out.below hb22)
  replace HSt := Lib.hid (HSt.out.keep (keeps_of hb22))
  replace HVt := Lib.hid (HVt.out.below hb22)
  replace HSi := Lib.hid (HSi.out.keep (keeps_of hb22))
  replace hB := Below.next hB hb22
  have HSj := Lib.hid hSj
  clear hSj
  clear hb22
  unfold wpPlan
  simp only [pickOps, opAt, List.map_nil, List.getElem?_toArray, List.getElem?_cons_zero, List.getElem?_cons_succ, Option.getD_some]
  repeat (go_big_quiet_step (fail))
  refine wpQuiet_nil ?_
  go_wp2_with fail
  refine (gequal_any ri xi fi Ai ni ci rj xj fj Aj nj cj _ HSi.out HSj.out).mono ?_
  rintro e w23 ⟨rfl, hb23⟩
  rw [show eqB ri rj = true by rw [← Hri.out, ← Hrj.out]; exact HM.out.2.2.1]
  go_wp2_with fail
  refine ⟨But.of_below hb23, ?_⟩
  replace HSa := Lib.hid (HSa.out.keep (keeps_of hb23))
  replace HVa := Lib.hid (HVa.out.below hb23)
  replace HSb := Lib.hid (HSb.out.keep (keeps_of hb23))
  replace HVb := Lib.hid (HVb.out.below hb23)
  replace HSt := Lib.hid (HSt.out.keep (keeps_of hb23))
  replace HVt := Lib.hid (HVt.out.below hb23)
  replace HSi := Lib.hid (HSi.out.keep (keeps_of hb23))
  replace HSj := Lib.hid (HSj.out.keep (keeps_of hb23))
  replace hB := Below.next hB hb23
  clear hb23
  clear HSj
  clear HSi
  have qa : ∀ (y : LaterS (fun _ => False) w23) z, (afterS (fun _ => False) w23 y).cell? ⟨Va, z, none⟩ = (#[.int .i64 xa, .bool fa, .slice Aa na ca] : Array Value)[z]? := fun y z => (HVa.out.but y.but (fun h => h)).cell z
  have qb : ∀ (y : LaterS (fun _ => False) w23) z, (afterS (fun _ => False) w23 y).cell? ⟨Vb, z, none⟩ = (#[.int .i64 xb, .bool fb, .slice Ab nb cb] : Array Value)[z]? := fun y z => (HVb.out.but y.but (fun h => h)).cell z
  unfold wpPlan
  simp only [pickOps, opAt, List.map_cons, List.map_nil, List.getElem?_toArray, List.getElem?_cons_zero, List.getElem?_cons_succ, Option.getD_some]
  repeat (go_big_quiet_step (fail))
  refine wpQuiet_nil ?_
  clear qa qb
  go_wp2_with fail
  refine (lor_any ra xa fa Aa na ca rb xb fb Ab nb cb _ HSa.out HSb.out HKa.out.2.2 HKb.out.2.2).mono ?_
  rintro e w24 ⟨xk, fk, Ak, nk, ck, rfl, hSk, hb24⟩
  obtain ⟨rk, Hrk⟩ : ∃ z, Hid (opRes opUr ra rb = z) := ⟨_, rfl⟩
  rw [Hrk.out] at hSk
  go_wp2_with fail
  refine ⟨But.of_below hb24, ?_⟩
  replace HSa := Lib.hid (HSa.out.keep (keeps_of hb24))
  replace HVa := Lib.hid (HVa.out.below hb24)
  replace HSb := Lib.hid (HSb.out.keep (keeps_of hb24))
  replace HVb := Lib.hid (HVb.out.below hb24)
  replace HSt := Lib.hid (HSt.out.keep (keeps_of hb24))
  replace HVt := Lib.hid (HVt.out.below hb24)
  replace hB := Below.next hB hb24
  have HSk := Lib.hid hSk
  clear hSk
  clear hb24
  have HWk : Hid (WfR rk) := Lib.hid (by rw [← Hrk.out]; exact op_wf HKa.out.2.2 HKb.out.2.2)
  unfold wpPlan
  simp only [pickOps, opAt, List.map_nil, List.getElem?_toArray, List.getElem?_cons_zero, List.getElem?_cons_succ, Option.getD_some]
  repeat (go_big_quiet_step (fail))
  refine wpQuiet_nil ?_
  go_wp2_with fail
  refine (land_any ra xa fa Aa na ca rk xk fk Ak nk ck _ HSa.out HSk.out HKa.out.2.2 HWk.out).mono ?_
  rintro e w25 ⟨xl, fl, Al, nl, cl, rfl, hSl, hb25⟩
  obtain ⟨rl, Hrl⟩ : ∃ z, Hid (opRes opIr ra rk = z) := ⟨_, rfl⟩
  rw [Hrl.out] at hSl
  go_wp2_with fail
  refine ⟨But.of_below hb25, ?_⟩
  replace HSa := Lib.hid (HSa.out.keep (keeps_of hb25))
  replace HVa := Lib.hid (HVa.out.below hb25)
  replace HSb := Lib.hid (HSb.out.keep (keeps_of hb25))
  replace HVb := Lib.hid (HVb.out.below hb25)
  replace HSt := Lib.hid (HSt.out.keep (keeps_of hb25))
  replace HVt := Lib.hid (HVt.out.below hb25)
  replace HSk := Lib.hid (HSk.out.keep (keeps_of hb25))
  replace hB := Below.next hB hb25
  have HSl := Lib.hid hSl
  clear hSl
  clear hb25
  clear HSk
  unfold wpPlan
  simp only [pickOps, opAt, List.map_nil, List.getElem?_toArray, List.getElem?_cons_zero, List.getElem?_cons_succ, Option.getD_some]
  repeat (go_big_quiet_step (fail))
  refine wpQuiet_nil ?_
  go_wp2_with fail
  refine (gequal_any rl xl fl Al nl cl ra xa fa Aa na ca _ HSl.out HSa.out).mono ?_
  rintro e w26 ⟨rfl, hb26⟩
  rw [show eqB rl ra = true by rw [← Hrl.out, ← Hrk.out]; exact HM.out.2.2.2.1]
  go_wp2_with fail
  refine ⟨But.of_below hb26, ?_⟩
  replace HSa := Lib.hid (HSa.out.keep (keeps_of hb26))
  replace HVa := Lib.hid (HVa.out.below hb26)
  replace HSb := Lib.hid (HSb.out.keep (keeps_of hb26))
  replace HVb := Lib.hid (HVb.out.below hb26)
  replace HSt := Lib.hid (HSt.out.keep (keeps_of hb26))
  replace HVt := Lib.hid (HVt.out.below hb26)
  replace HSl := Lib.hid (HSl.out.keep (keeps_of hb26))
  replace hB := Below.next hB hb26
  clear hb26
  clear HSl
  have qa : ∀ (y : LaterS (fun _ => False) w26) z, (afterS (fun _ => False) w26 y).cell? ⟨Va, z, none⟩ = (#[.int .i64 xa, .bool fa, .slice Aa na ca] : Array Value)[z]? := fun y z => (HVa.out.but y.but (fun h => h)).cell z
  have qb : ∀ (y : LaterS (fun _ => False) w26) z, (afterS (fun _ => False) w26 y).cell? ⟨Vb, z, none⟩ = (#[.int .i64 xb, .bool fb, .slice Ab nb cb] : Array Value)[z]? := fun y z => (HVb.out.but y.but (fun h => h)).cell z
  unfold wpPlan
  simp only [pickOps, opAt, List.map_cons, List.map_nil, List.getElem?_toArray, List.getElem?_cons_zero, List.getElem?_cons_succ, Option.getD_some]
  repeat (go_big_quiet_step (fail))
  refine wpQuiet_nil ?_
  clear qa qb
  go_wp2_with fail
  refine (land_any ra xa fa Aa na ca rb xb fb Ab nb cb _ HSa.out HSb.out HKa.out.2.2 HKb.out.2.2).mono ?_
  rintro e w27 ⟨xm, fm, Am, nm, cm, rfl, hSm, hb27⟩
  obtain ⟨rm, Hrm⟩ : ∃ z, Hid (opRes opIr ra rb = z) := ⟨_, rfl⟩
  rw [Hrm.out] at hSm
  go_wp2_with fail
  refine ⟨But.of_below hb27, ?_⟩
  replace HSa := Lib.hid (HSa.out.keep (keeps_of hb27))
  replace HVa := Lib.hid (HVa.out.below hb27)
  replace HSb := Lib.hid (HSb.out.keep (keeps_of hb27))
  replace HVb := Lib.hid (HVb.out.below hb27)
  replace HSt := Lib.hid (HSt.out.keep (keeps_of hb27))
  replace HVt := Lib.hid (HVt.out.below hb27)
  replace hB := Below.next hB hb27
  have HSm := Lib.hid hSm
  clear hSm
  clear hb27
  have HWm : Hid (WfR rm) := Lib.hid (by rw [← Hrm.out]; exact op_wf HKa.out.2.2 HKb.out.2.2)
  unfold wpPlan
  simp only [pickOps, opAt, List.map_nil, List.getElem?_toArray, List.getElem?_cons_zero, List.getElem?_cons_succ, Option.getD_some]
  repeat (go_big_quiet_step (fail))
  refine wpQuiet_nil ?_
  go_wp2_with fail
  refine (lor_any ra xa fa Aa na ca rm xm fm Am nm cm _ HSa.out HSm.out HKa.out.2.2 HWm.out).mono ?_
  rintro e w28 ⟨xo, fo, Ao, no, co, rfl, hSo, hb28⟩
  obtain ⟨ro, Hro⟩ : ∃ z, Hid (opRes opUr ra rm = z) := ⟨_, rfl⟩
  rw [Hro.out] at hSo
  go_wp2_with fail
  refine ⟨But.of_below hb28, ?_⟩
  replace HSa := Lib.hid (HSa.out.keep (keeps_of hb28))
  replace HVa := Lib.hid (HVa.out.below hb28)
  replace HSb := Lib.hid (HSb.out.keep (keeps_of hb28))
  replace HVb := Lib.hid (HVb.out.below hb28)
  replace HSt := Lib.hid (HSt.out.keep (keeps_of hb28))
  replace HVt := Lib.hid (HVt.out.below hb28)
  replace HSm := Lib.hid (HSm.out.keep (keeps_of hb28))
  replace hB := Below.next hB hb28
  have HSo := Lib.hid hSo
  clear hSo
  clear hb28
  clear HSm
  unfold wpPlan
  simp only [pickOps, opAt, List.map_nil, List.getElem?_toArray, List.getElem?_cons_zero, List.getElem?_cons_succ, Option.getD_some]
  repeat (go_big_quiet_step (fail))
  refine wpQuiet_nil ?_
  go_wp2_with fail
  refine (gequal_any ro xo fo Ao no co ra xa fa Aa na ca _ HSo.out HSa.out).mono ?_
  rintro e w29 ⟨rfl, hb29⟩
  rw [show eqB ro ra = true by rw [← Hro.out, ← Hrm.out]; exact HM.out.2.2.2.2.1]
  go_wp2_with fail
  refine ⟨But.of_below hb29, ?_⟩
  replace HSa := Lib.hid (HSa.out.keep (keeps_of hb29))
  replace HVa := Lib.hid (HVa.out.below hb29)
  replace HSb := Lib.hid (HSb.out.keep (keeps_of hb29))
  replace HVb := Lib.hid (HVb.out.below hb29)
  replace HSt := Lib.hid (HSt.out.keep (keeps_of hb29))
  replace HVt := Lib.hid (HVt.out.below hb29)
  replace HSo := Lib.hid (HSo.out.keep (keeps_of hb29))
  replace hB := Below.next hB hb29
  clear hb29
  clear HSo
  have qa : ∀ (y : LaterS (fun _ => False) w29) z, (afterS (fun _ => False) w29 y).cell? ⟨Va, z, none⟩ = (#[.int .i64 xa, .bool fa, .slice Aa na ca] : Array Value)[z]? := fun y z => (HVa.out.but y.but (fun h => h)).cell z
  have qt : ∀ (y : LaterS (fun _ => False) w29) z, (afterS (fun _ => False) w29 y).cell? ⟨Vt, z, none⟩ = (#[.int .i64 xt, .bool ft, .slice At nt ct] : Array Value)[z]? := fun y z => (HVt.out.but y.but (fun h => h)).cell z
  unfold wpPlan
  simp only [pickOps, opAt, List.map_cons, List.map_nil, List.getElem?_toArray, List.getElem?_cons_zero, List.getElem?_cons_succ, Option.getD_some]
  repeat (go_big_quiet_step (fail))
  refine wpQuiet_nil ?_
  clear qa qt
  go_wp2_with fail
  refine (lnot_any ra xa fa Aa na ca _ HSa.out HKa.out.2.2).mono ?_
  rintro e w30 ⟨xr, fr, Ar, nr, cr, rfl, hSr, hb30⟩
  obtain ⟨rr, Hrr⟩ : ∃ z, Hid (cpRes ra = z) := ⟨_, rfl⟩
  rw [Hrr.out] at hSr
  go_wp2_with fail
  refine ⟨But.of_below hb30, ?_⟩
  replace HSa := Lib.hid (HSa.out.keep (keeps_of hb30))
  replace HVa := Lib.hid (HVa.out.below hb30)
  replace HSb := Lib.hid (HSb.out.keep (keeps_of hb30))
  replace HVb := Lib.hid (HVb.out.below hb30)
  replace HSt := Lib.hid (HSt.out.keep (keeps_of hb30))
  replace HVt := Lib.hid (HVt.out.below hb30)
  replace hB := Below.next hB hb30
  have HSr := Lib.hid hSr
  clear hSr
  clear hb30
  have HWr : Hid (WfR rr) := Lib.hid (by rw [← Hrr.out]; exact cp_wf HKa.out.2.2)
  unfold wpPlan
  simp only [pickOps, opAt, List.map_nil, List.getElem?_toArray, List.getElem?_cons_zero, List.getElem?_cons_succ, Option.getD_some]
  repeat (go_big_quiet_step (fail))
  refine wpQuiet_nil ?_
  go_wp2_with fail
  refine (lor_any ra xa fa Aa na ca rr xr fr Ar nr cr _ HSa.out HSr.out HKa.out.2.2 HWr.out).mono ?_
  rintro e w31 ⟨xs, fs, As, ns, cs, rfl, hSs, hb31⟩
  obtain ⟨rs, Hrs⟩ : ∃ z, Hid (opRes opUr ra rr = z) := ⟨_, rfl⟩
  rw [Hrs.out] at hSs
  go_wp2_with fail
  refine ⟨But.of_below hb31, ?_⟩
  replace HSa := Lib.hid (HSa.out.keep (keeps_of hb31))
  replace HVa := Lib.hid (HVa.out.below hb31)
  replace HSb := Lib.hid (HSb.out.keep (keeps_of hb31))
  replace HVb := Lib.hid (HVb.out.below hb31)
  replace HSt := Lib.hid (HSt.out.keep (keeps_of hb31))
  replace HVt := Lib.hid (HVt.out.below hb31)
  replace HSr := Lib.hid (HSr.out.keep (keeps_of hb31))
  replace hB := Below.next hB hb31
  have HSs := Lib.hid hSs
  clear hSs
  clear hb31
  clear HSr
  unfold wpPlan
  simp only [pickOps, opAt, List.map_nil, List.getElem?_toArray, List.getElem?_cons_zero, List.getElem?_cons_succ, Option.getD_some]
  repeat (go_big_quiet_step (fail))
  refine wpQuiet_nil ?_
  go_wp2_with fail
  refine (gequal_any rs xs fs As ns cs rt xt ft At nt ct _ HSs.out HSt.out).mono ?_
  rintro e w32 ⟨rfl, hb32⟩
  rw [show eqB rs rt = true by rw [← Hrs.out, ← Hrr.out]; exact HM.out.2.2.2.2.2]
  go_wp2_with fail
  refine ⟨But.of_below hb32, ?_⟩
  replace HSa := Lib.hid (HSa.out.keep (keeps_of hb32))
  replace HVa := Lib.hid (HVa.out.below hb32)
  replace HSb := Lib.hid (HSb.out.keep (keeps_of hb32))
  replace HVb := Lib.hid (HVb.out.below hb32)
  replace HSt := Lib.hid (HSt.out.keep (keeps_of hb32))
  replace HVt := Lib.hid (HVt.out.below hb32)
  replace HSs := Lib.hid (HSs.out.keep (keeps_of hb32))
  replace hB := Below.next hB hb32
  clear hb32
  unfold wpPlan
  simp only [pickOps, opAt, List.map_cons, List.map_nil, List.getElem?_toArray, List.getElem?_cons_zero, List.getElem?_cons_succ, Option.getD_some]
  repeat (go_big_quiet_step (fail))
  refine wpQuiet_nil ?_
  go_wp2
  go_ret
  exact ⟨rfl, hB⟩
end Go.Proofs.YtnocbigcdjlliaaGreat
