/-
  The walk of the law RegionOnce.
-/
import Derived.Test.YtnocbigcdjlliaaGreatB44
import Derived.Test.YtnocbigcdjlliaaGreatB45
set_option linter.unusedVariables false
namespace Go.Proofs.YtnocbigcdjlliaaGreat
open Go.RowKit
set_option maxRecDepth 100000
open Rg

set_option maxHeartbeats 8000000 in
theorem once4_walk (A : Option Addr) (n c : Nat) (zs : List Int) (w : World) (hs : Sl 1 u8c w A n zs) (hz : ∀ z ∈ zs, 0 ≤ z ∧ z ≤ 255) (hnil : A = none → n = 0 ∧ c = 0) (hsp : ∀ ad, A = some ad → ad.spot = none) (hnc : n ≤ c) (hcm : c ≤ 9223372036854775807) :
    Calls Tryz.prog 3 #[.slice A n c] w fun e w' => e = .returned (.bool true) ∧ Below w.heap.size w w' := by
  have HS := Lib.hid hs
  have HZ := Lib.hid hz
  have HN := Lib.hid hnil
  have HP := Lib.hid hsp
  clear hs hz hnil hsp
  go_enter Tryz.func3, Tryz.ntmps3
  go_wp2_with fail
  refine (new_any A n c zs 160 _ HS.out HZ.out HN.out HP.out hnc hcm (by omega)).mono ?_
  rintro e w0 ⟨g, hg, rfl, hc, hB⟩
  clear HS HZ HN HP
  go_wp2_with fail
  refine (int_any g 3 _ hc (by omega) (by omega)).mono ?_
  rintro e w1 ⟨⟨y, hy1, hy2, rfl⟩, hc1, hb1⟩
  replace hB := hb1.below hB hB.size (fun k hk => by subst hk; exact hg)
  replace hc := hc1
  clear hb1
  obtain ⟨wd, hwd1, hwd2, hwd⟩ : ∃ wd : Nat, 1 ≤ wd ∧ wd ≤ 3 ∧ 1 + y = (wd : Int) := ⟨(1 + y).toNat, by omega, by omega, by omega⟩
  go_wp2_with fail
  refine (cregion_any g wd (by omega) _ hc).mono ?_
  rintro e w2 ⟨xa, fa, Aa, na, ca, ra, rfl, hSa, hOa, hWa, hFa, hc2, hb2⟩
  replace hB := hb2.below hB hB.size (fun k hk => by subst hk; exact hg)
  replace hc := hc2
  have HSa := Lib.hid hSa
  have HKa := Lib.hid (And.intro hOa (And.intro hWa hFa))
  clear hb2 hSa hOa hWa hFa
  go_wp2_with fail
  refine (cregion_any g wd (by omega) _ hc).mono ?_
  rintro e w3 ⟨xb, fb, Ab, nb, cb, rb, rfl, hSb, hOb, hWb, hFb, hc3, hb3⟩
  replace HSa := Lib.hid (HSa.out.case hc hb3)
  replace hB := hb3.below hB hB.size (fun k hk => by subst hk; exact hg)
  replace hc := hc3
  have HSb := Lib.hid hSb
  have HKb := Lib.hid (And.intro hOb (And.intro hWb hFb))
  clear hb3 hSb hOb hWb hFb
  go_wp2_with fail
  refine (cregion_any g wd (by omega) _ hc).mono ?_
  rintro e w4 ⟨xx, fx, Ax, nx, cx, rx, rfl, hSx, hOx, hWx, hFx, hc4, hb4⟩
  replace HSa := Lib.hid (HSa.out.case hc hb4)
  replace HSb := Lib.hid (HSb.out.case hc hb4)
  replace hB := hb4.below hB hB.size (fun k hk => by subst hk; exact hg)
  replace hc := hc4
  have HSx := Lib.hid hSx
  have HKx := Lib.hid (And.intro hOx (And.intro hWx hFx))
  clear hb4 hSx hOx hWx hFx
  replace HSa := Lib.hid (HSa.out.keep (keeps_alloc w4 (.cells #[.int .i64 xa, .bool fa, .slice Aa na ca] 28)))
  replace HSb := Lib.hid (HSb.out.keep (keeps_alloc w4 (.cells #[.int .i64 xa, .bool fa, .slice Aa na ca] 28)))
  replace HSx := Lib.hid (HSx.out.keep (keeps_alloc w4 (.cells #[.int .i64 xa, .bool fa, .slice Aa na ca] 28)))
  have HVa := Lib.hid (Blk.new w4 28 #[.int .i64 xa, .bool fa, .slice Aa na ca])
  obtain ⟨Va, HXa⟩ : ∃ z, Hid (w4.heap.size = z) := ⟨_, rfl⟩
  rw [HXa.out] at HVa
  replace hB := hB.alloc hB.size (.cells #[.int .i64 xa, .bool fa, .slice Aa na ca] 28)
  replace hc := hc.below ((Below.refl _ _).alloc (Nat.le_refl _) (.cells #[.int .i64 xa, .bool fa, .slice Aa na ca] 28))
  replace HSa := Lib.hid (HSa.out.keep (keeps_alloc (w4.alloc (.cells #[.int .i64 xa, .bool fa, .slice Aa na ca] 28)) (.cells #[.int .i64 xb, .bool fb, .slice Ab nb cb] 28)))
  replace HVa := Lib.hid (HVa.out.alloc (.cells #[.int .i64 xb, .bool fb, .slice Ab nb cb] 28))
  replace HSb := Lib.hid (HSb.out.keep (keeps_alloc (w4.alloc (.cells #[.int .i64 xa, .bool fa, .slice Aa na ca] 28)) (.cells #[.int .i64 xb, .bool fb, .slice Ab nb cb] 28)))
  replace HSx := Lib.hid (HSx.out.keep (keeps_alloc (w4.alloc (.cells #[.int .i64 xa, .bool fa, .slice Aa na ca] 28)) (.cells #[.int .i64 xb, .bool fb, .slice Ab nb cb] 28)))
  have HVb := Lib.hid (Blk.new (w4.alloc (.cells #[.int .i64 xa, .bool fa, .slice Aa na ca] 28)) 28 #[.int .i64 xb, .bool fb, .slice Ab nb cb])
  obtain ⟨Vb, HXb⟩ : ∃ z, Hid (Va + 1 = z) := ⟨_, rfl⟩
  rw [World.size_alloc, HXa.out, HXb.out] at HVb
  replace hB := hB.alloc hB.size (.cells #[.int .i64 xb, .bool fb, .slice Ab nb cb] 28)
  replace hc := hc.below ((Below.refl _ _).alloc (Nat.le_refl _) (.cells #[.int .i64 xb, .bool fb, .slice Ab nb cb] 28))
  replace HSa := Lib.hid (HSa.out.keep (keeps_alloc ((w4.alloc (.cells #[.int .i64 xa, .bool fa, .slice Aa na ca] 28)).alloc (.cells #[.int .i64 xb, .bool fb, .slice Ab nb cb] 28)) (.cells #[.int .i64 xx, .bool fx, .slice Ax nx cx] 28)))
  replace HVa := Lib.hid (HVa.out.alloc (.cells #[.int .i64 xx, .bool fx, .slice Ax nx cx] 28))
  replace HSb := Lib.hid (HSb.out.keep (keeps_alloc ((w4.alloc (.cells #[.int .i64 xa, .bool fa, .slice Aa na ca] 28)).alloc (.cells #[.int .i64 xb, .bool fb, .slice Ab nb cb] 28)) (.cells #[.int .i64 xx, .bool fx, .slice Ax nx cx] 28)))
  replace HVb := Lib.hid (HVb.out.alloc (.cells #[.int .i64 xx, .bool fx, .slice Ax nx cx] 28))
  replace HSx := Lib.hid (HSx.out.keep (keeps_alloc ((w4.alloc (.cells #[.int .i64 xa, .bool fa, .slice Aa na ca] 28)).alloc (.cells #[.int .i64 xb, .bool fb, .slice Ab nb cb] 28)) (.cells #[.int .i64 xx, .bool fx, .slice Ax nx cx] 28)))
  have HVx := Lib.hid (Blk.new ((w4.alloc (.cells #[.int .i64 xa, .bool fa, .slice Aa na ca] 28)).alloc (.cells #[.int .i64 xb, .bool fb, .slice Ab nb cb] 28)) 28 #[.int .i64 xx, .bool fx, .slice Ax nx cx])
  obtain ⟨Vx, HXx⟩ : ∃ z, Hid (Vb + 1 = z) := ⟨_, rfl⟩
  rw [World.size_alloc, World.size_alloc, HXa.out, HXb.out, HXx.out] at HVx
  replace hB := hB.alloc hB.size (.cells #[.int .i64 xx, .bool fx, .slice Ax nx cx] 28)
  replace hc := hc.below ((Below.refl _ _).alloc (Nat.le_refl _) (.cells #[.int .i64 xx, .bool fx, .slice Ax nx cx] 28))
  go_upto_region 4 with fail
  rw [HXa.out]
  rw [HXb.out]
  rw [HXx.out]
  generalize hWW : (((w4.alloc (.cells #[.int .i64 xa, .bool fa, .slice Aa na ca] 28)).alloc (.cells #[.int .i64 xb, .bool fb, .slice Ab nb cb] 28)).alloc (.cells #[.int .i64 xx, .bool fx, .slice Ax nx cx] 28)) = WW5 at *
  clear hWW
  clear hc
  clear hwd hy1 hy2
  have HC1 := cov_spec HKa.out.1 HKa.out.2.1 HKb.out.1 HKb.out.2.1
  have HC2 := cov_spec HKb.out.1 HKb.out.2.1 HKa.out.1 HKa.out.2.1
  obtain ⟨p, Hp⟩ : ∃ z, Hid (covRes ra rb = z) := ⟨_, rfl⟩
  obtain ⟨q, Hq⟩ : ∃ z, Hid (covRes rb ra = z) := ⟨_, rfl⟩
  have HE := Lib.hid (cov_both HKa.out.1 HKa.out.2.1 HKb.out.1 HKb.out.2.1)
  rw [Hp.out, Hq.out] at HE
  have H1 := Lib.hid HC1.1
  have H2 := Lib.hid HC2.1
  clear HC1 HC2
  obtain ⟨pq, Hpq⟩ : ∃ z, Hid ((p && q) = z) := ⟨_, rfl⟩
  rw [Hpq.out] at HE
  cases p <;> cases q
  all_goals
    have h0 := Hpq.out
    simp only [Bool.and_true, Bool.and_false] at h0
    subst h0
    clear Hpq
    have za := HVa.out.cell
    have zb := HVb.out.cell
    go_wp2_with fail
    refine (gcovers_any ra xa fa Aa na ca rb xb fb Ab nb cb _ HSa.out HSb.out HKa.out.2.2 HKb.out.2.2).mono ?_
    rintro e w6 ⟨rfl, hb6⟩
    rw [Hp.out, H1.out]
    clear za zb
    replace HSa := Lib.hid (HSa.out.keep (keeps_of hb6))
    replace HVa := Lib.hid (HVa.out.below hb6)
    replace HSb := Lib.hid (HSb.out.keep (keeps_of hb6))
    replace HVb := Lib.hid (HVb.out.below hb6)
    replace HSx := Lib.hid (HSx.out.keep (keeps_of hb6))
    replace HVx := Lib.hid (HVx.out.below hb6)
    replace hB := Below.next hB hb6
    clear hb6
    go_upto_region 5 with fail
    have zb := HVb.out.cell
    have za := HVa.out.cell
    go_wp2_with fail
    refine (gcovers_any rb xb fb Ab nb cb ra xa fa Aa na ca _ HSb.out HSa.out HKb.out.2.2 HKa.out.2.2).mono ?_
    rintro e w7 ⟨rfl, hb7⟩
    rw [Hq.out, H2.out]
    clear zb za
    replace HSa := Lib.hid (HSa.out.keep (keeps_of hb7))
    replace HVa := Lib.hid (HVa.out.below hb7)
    replace HSb := Lib.hid (HSb.out.keep (keeps_of hb7))
    replace HVb := Lib.hid (HVb.out.below hb7)
    replace HSx := Lib.hid (HSx.out.keep (keeps_of hb7))
    replace HVx := Lib.hid (HVx.out.below hb7)
    replace hB := Below.next hB hb7
    clear hb7
    have za := HVa.out.cell
    have zb := HVb.out.cell
    go_wp2_with fail
    refine (gequal_any ra xa fa Aa na ca rb xb fb Ab nb cb _ HSa.out HSb.out).mono ?_
    rintro e w8 ⟨rfl, hb8⟩
    rw [← HE.out]
    clear za zb
    replace HSa := Lib.hid (HSa.out.keep (keeps_of hb8))
    replace HVa := Lib.hid (HVa.out.below hb8)
    replace HSb := Lib.hid (HSb.out.keep (keeps_of hb8))
    replace HVb := Lib.hid (HVb.out.below hb8)
    replace HSx := Lib.hid (HSx.out.keep (keeps_of hb8))
    replace HVx := Lib.hid (HVx.out.below hb8)
    replace hB := Below.next hB hb8
    clear hb8
    go_upto_region 8 with fail
    have za := HVa.out.cell
    have zb := HVb.out.cell
    go_wp2_with fail
    refine (gunion_any ra xa fa Aa na ca rb xb fb Ab nb cb _ HSa.out HSb.out HKa.out.2.2 HKb.out.2.2).mono ?_
    rintro e w9 ⟨xu, fu, Au, nu, cu, rfl, hSu, hb9⟩
    obtain ⟨eu, Heu⟩ : ∃ z, Hid (opErr opUr ra rb = z) := ⟨_, rfl⟩
    rw [Heu.out]
    obtain ⟨ru, Hru⟩ : ∃ z, Hid (opRes opUr ra rb = z) := ⟨_, rfl⟩
    rw [Hru.out] at hSu
    clear za zb
    replace HSa := Lib.hid (HSa.out.keep (keeps_of hb9))
    replace HVa := Lib.hid (HVa.out.below hb9)
    replace HSb := Lib.hid (HSb.out.keep (keeps_of hb9))
    replace HVb := Lib.hid (HVb.out.below hb9)
    replace HSx := Lib.hid (HSx.out.keep (keeps_of hb9))
    replace HVx := Lib.hid (HVx.out.below hb9)
    replace hB := Below.next hB hb9
    have HSu := Lib.hid hSu
    clear hSu hb9
    have hla := HVa.out.lt
    have hlx := HVx.out.lt
    replace HSa := Lib.hid (HSa.out.keep (keeps_alloc w9 (.cells #[.int .i64 xu, .bool fu, .slice Au nu cu] 28)))
    replace HVa := Lib.hid (HVa.out.alloc (.cells #[.int .i64 xu, .bool fu, .slice Au nu cu] 28))
    replace HSb := Lib.hid (HSb.out.keep (keeps_alloc w9 (.cells #[.int .i64 xu, .bool fu, .slice Au nu cu] 28)))
    replace HVb := Lib.hid (HVb.out.alloc (.cells #[.int .i64 xu, .bool fu, .slice Au nu cu] 28))
    replace HSx := Lib.hid (HSx.out.keep (keeps_alloc w9 (.cells #[.int .i64 xu, .bool fu, .slice Au nu cu] 28)))
    replace HVx := Lib.hid (HVx.out.alloc (.cells #[.int .i64 xu, .bool fu, .slice Au nu cu] 28))
    replace HSu := Lib.hid (HSu.out.keep (keeps_alloc w9 (.cells #[.int .i64 xu, .bool fu, .slice Au nu cu] 28)))
    have HVu := Lib.hid (Blk.new w9 28 #[.int .i64 xu, .bool fu, .slice Au nu cu])
    obtain ⟨Vu, HXu⟩ : ∃ z, Hid (w9.heap.size = z) := ⟨_, rfl⟩
    have HNau := Lib.hid (show Va ≠ Vu by have := HXu.out; omega)
    have HNua := Lib.hid (show Vu ≠ Va by have := HXu.out; omega)
    clear hla
    have HNxu := Lib.hid (show Vx ≠ Vu by have := HXu.out; omega)
    have HNux := Lib.hid (show Vu ≠ Vx by have := HXu.out; omega)
    clear hlx
    have HLu := Lib.hid (show w.heap.size ≤ Vu by have := hB.size; have := HXu.out; omega)
    rw [HXu.out] at HVu
    replace hB := hB.alloc hB.size (.cells #[.int .i64 xu, .bool fu, .slice Au nu cu] 28)
    go_upto_region 9 with fail
    rw [HXu.out]
    generalize hWW : (w9.alloc (.cells #[.int .i64 xu, .bool fu, .slice Au nu cu] 28)) = WW10 at *
    clear hWW
    have zb := HVb.out.cell
    have zx := HVx.out.cell
    go_wp2_with fail
    refine (gunion_any rb xb fb Ab nb cb rx xx fx Ax nx cx _ HSb.out HSx.out HKb.out.2.2 HKx.out.2.2).mono ?_
    rintro e w11 ⟨xv, fv, Av, nv, cv, rfl, hSv, hb11⟩
    obtain ⟨ev, Hev⟩ : ∃ z, Hid (opErr opUr rb rx = z) := ⟨_, rfl⟩
    rw [Hev.out]
    obtain ⟨rv, Hrv⟩ : ∃ z, Hid (opRes opUr rb rx = z) := ⟨_, rfl⟩
    rw [Hrv.out] at hSv
    clear zb zx
    replace HSa := Lib.hid (HSa.out.keep (keeps_of hb11))
    replace HVa := Lib.hid (HVa.out.below hb11)
    replace HSb := Lib.hid (HSb.out.keep (keeps_of hb11))
    replace HVb := Lib.hid (HVb.out.below hb11)
    replace HSx := Lib.hid (HSx.out.keep (keeps_of hb11))
    replace HVx := Lib.hid (HVx.out.below hb11)
    replace HSu := Lib.hid (HSu.out.keep (keeps_of hb11))
    replace HVu := Lib.hid (HVu.out.below hb11)
    replace hB := Below.next hB hb11
    have HSv := Lib.hid hSv
    clear hSv hb11
    have hla := HVa.out.lt
    have hlx := HVx.out.lt
    have hlu := HVu.out.lt
    replace HSa := Lib.hid (HSa.out.keep (keeps_alloc w11 (.cells #[.int .i64 xv, .bool fv, .slice Av nv cv] 28)))
    replace HVa := Lib.hid (HVa.out.alloc (.cells #[.int .i64 xv, .bool fv, .slice Av nv cv] 28))
    replace HSb := Lib.hid (HSb.out.keep (keeps_alloc w11 (.cells #[.int .i64 xv, .bool fv, .slice Av nv cv] 28)))
    replace HVb := Lib.hid (HVb.out.alloc (.cells #[.int .i64 xv, .bool fv, .slice Av nv cv] 28))
    replace HSx := Lib.hid (HSx.out.keep (keeps_alloc w11 (.cells #[.int .i64 xv, .bool fv, .slice Av nv cv] 28)))
    replace HVx := Lib.hid (HVx.out.alloc (.cells #[.int .i64 xv, .bool fv, .slice Av nv cv] 28))
    replace HSu := Lib.hid (HSu.out.keep (keeps_alloc w11 (.cells #[.int .i64 xv, .bool fv, .slice Av nv cv] 28)))
    replace HVu := Lib.hid (HVu.out.alloc (.cells #[.int .i64 xv, .bool fv, .slice Av nv cv] 28))
    replace HSv := Lib.hid (HSv.out.keep (keeps_alloc w11 (.cells #[.int .i64 xv, .bool fv, .slice Av nv cv] 28)))
    have HVv := Lib.hid (Blk.new w11 28 #[.int .i64 xv, .bool fv, .slice Av nv cv])
    obtain ⟨Vv, HXv⟩ : ∃ z, Hid (w11.heap.size = z) := ⟨_, rfl⟩
    have HNav := Lib.hid (show Va ≠ Vv by have := HXv.out; omega)
    have HNva := Lib.hid (show Vv ≠ Va by have := HXv.out; omega)
    clear hla
    have HNxv := Lib.hid (show Vx ≠ Vv by have := HXv.out; omega)
    have HNvx := Lib.hid (show Vv ≠ Vx by have := HXv.out; omega)
    clear hlx
    have HNuv := Lib.hid (show Vu ≠ Vv by have := HXv.out; omega)
    have HNvu := Lib.hid (show Vv ≠ Vu by have := HXv.out; omega)
    clear hlu
    have HLv := Lib.hid (show w.heap.size ≤ Vv by have := hB.size; have := HXv.out; omega)
    rw [HXv.out] at HVv
    replace hB := hB.alloc hB.size (.cells #[.int .i64 xv, .bool fv, .slice Av nv cv] 28)
    go_upto_region 10 with fail
    rw [HXv.out]
    generalize hWW : (w11.alloc (.cells #[.int .i64 xv, .bool fv, .slice Av nv cv] 28)) = WW12 at *
    clear hWW
    by_cases hall : eu = 0 ∧ ev = 0
    · obtain ⟨rfl, rfl⟩ := hall
      have HM := Lib.hid (assoc_plain HKa.out.1 HKa.out.2.1 HKb.out.1 HKb.out.2.1 HKx.out.1 HKx.out.2.1 Heu.out Hev.out)
      have HM2 := Lib.hid (op_02 ((op_spec HKa.out.1 HKa.out.2.1 HKb.out.1 HKb.out.2.1 opUr).2 Heu.out).2.1 ((op_spec HKa.out.1 HKa.out.2.1 HKb.out.1 HKb.out.2.1 opUr).2 Heu.out).2.2 HKx.out.1 HKx.out.2.1 opUr)
      rw [Hru.out, Hrv.out] at HM
      rw [Hru.out] at HM2
      have HWu : Hid (WfR ru ∧ WfR rv) := by
        refine Lib.hid ⟨by rw [← Hru.out]; exact op_wf HKa.out.2.2 HKb.out.2.2, ?_⟩
        rw [← Hrv.out]; exact op_wf HKb.out.2.2 HKx.out.2.2
      clear HSb HVb
      go_upto_region 12 with fail
      have zu := HVu.out.cell
      have zx := HVx.out.cell
      go_wp2_with fail
      refine (gunion_any ru xu fu Au nu cu rx xx fx Ax nx cx _ HSu.out HSx.out HWu.out.1 HKx.out.2.2).mono ?_
      rintro e w13 ⟨xp, fp, Ap, np, cp, rfl, hSp, hb13⟩
      obtain ⟨ep, Hep⟩ : ∃ z, Hid (opErr opUr ru rx = z) := ⟨_, rfl⟩
      rw [Hep.out]
      obtain ⟨rp, Hrp⟩ : ∃ z, Hid (opRes opUr ru rx = z) := ⟨_, rfl⟩
      rw [Hrp.out] at hSp
      clear zu zx
      replace HSa := Lib.hid (HSa.out.keep (keeps_of hb13))
      replace HVa := Lib.hid (HVa.out.below hb13)
      replace HSx := Lib.hid (HSx.out.keep (keeps_of hb13))
      replace HVx := Lib.hid (HVx.out.below hb13)
      replace HSu := Lib.hid (HSu.out.keep (keeps_of hb13))
      replace HVu := Lib.hid (HVu.out.below hb13)
      replace HSv := Lib.hid (HSv.out.keep (keeps_of hb13))
      replace HVv := Lib.hid (HVv.out.below hb13)
      replace hB := Below.next hB hb13
      have HSp := Lib.hid hSp
      clear hSp hb13
      have zr := HVu.out.cell
      obtain ⟨ff1, ff2, ff3⟩ := put3R_free HVu.out (.int .i64 xp) (.bool fp)
      have y3 := (put3R_blk (a' := (.int .i64 xp)) (b' := (.bool fp)) (c' := (.slice Ap np cp)) HVu.out).cell
      have y1 := (HVu.out.set_ 0 (.int .i64 xp)).cell
      have y2 := ((HVu.out.set_ 0 (.int .i64 xp)).set_ 1 (.bool fp)).cell
      unfold put3R at y3
      replace HSa := Lib.hid (RgS.off HVu.out (put3R_but _ Vu (.int .i64 xp) (.bool fp) (.slice Ap np cp)) HSa.out)
      replace HSx := Lib.hid (RgS.off HVu.out (put3R_but _ Vu (.int .i64 xp) (.bool fp) (.slice Ap np cp)) HSx.out)
      replace HSv := Lib.hid (RgS.off HVu.out (put3R_but _ Vu (.int .i64 xp) (.bool fp) (.slice Ap np cp)) HSv.out)
      replace HSp := Lib.hid (RgS.off HVu.out (put3R_but _ Vu (.int .i64 xp) (.bool fp) (.slice Ap np cp)) HSp.out)
      replace HVv := Lib.hid (HVv.out.but (put3R_but _ Vu (.int .i64 xp) (.bool fp) (.slice Ap np cp)) HNvu.out)
      replace HVa := Lib.hid (HVa.out.but (put3R_but _ Vu (.int .i64 xp) (.bool fp) (.slice Ap np cp)) HNau.out)
      replace HVx := Lib.hid (HVx.out.but (put3R_but _ Vu (.int .i64 xp) (.bool fp) (.slice Ap np cp)) HNxu.out)
      replace hB := put3R_below hB (show w.heap.size ≤ Vu from HLu.out) (.int .i64 xp) (.bool fp) (.slice Ap np cp)
      have HVp := Lib.hid (put3R_blk (a' := (.int .i64 xp)) (b' := (.bool fp)) (c' := (.slice Ap np cp)) HVu.out)
      clear HSu HVu
      go_upto_region 13 with fail
      clear zr ff1 ff2 ff3 y1 y2 y3
      generalize hWW : put3R _ Vu (.int .i64 xp) (.bool fp) (.slice Ap np cp) = WW14 at *
      unfold put3R at hWW
      rw [hWW]
      clear hWW
      clear HSx HVx
      have HNpv := HNuv
      have za := HVa.out.cell
      have zv := HVv.out.cell
      go_wp2_with fail
      refine (gunion_any ra xa fa Aa na ca rv xv fv Av nv cv _ HSa.out HSv.out HKa.out.2.2 HWu.out.2).mono ?_
      rintro e w15 ⟨xq, fq, Aq, nq, cq, rfl, hSq, hb15⟩
      obtain ⟨eq, Heq⟩ : ∃ z, Hid (opErr opUr ra rv = z) := ⟨_, rfl⟩
      rw [Heq.out]
      obtain ⟨rq, Hrq⟩ : ∃ z, Hid (opRes opUr ra rv = z) := ⟨_, rfl⟩
      rw [Hrq.out] at hSq
      clear za zv
      replace HSa := Lib.hid (HSa.out.keep (keeps_of hb15))
      replace HVa := Lib.hid (HVa.out.below hb15)
      replace HSv := Lib.hid (HSv.out.keep (keeps_of hb15))
      replace HVv := Lib.hid (HVv.out.below hb15)
      replace HSp := Lib.hid (HSp.out.keep (keeps_of hb15))
      replace HVp := Lib.hid (HVp.out.below hb15)
      replace hB := Below.next hB hb15
      have HSq := Lib.hid hSq
      clear hSq hb15
      have zr := HVv.out.cell
      obtain ⟨ff1, ff2, ff3⟩ := put3R_free HVv.out (.int .i64 xq) (.bool fq)
      have y3 := (put3R_blk (a' := (.int .i64 xq)) (b' := (.bool fq)) (c' := (.slice Aq nq cq)) HVv.out).cell
      have y1 := (HVv.out.set_ 0 (.int .i64 xq)).cell
      have y2 := ((HVv.out.set_ 0 (.int .i64 xq)).set_ 1 (.bool fq)).cell
      unfold put3R at y3
      replace HSa := Lib.hid (RgS.off HVv.out (put3R_but _ Vv (.int .i64 xq) (.bool fq) (.slice Aq nq cq)) HSa.out)
      replace HSp := Lib.hid (RgS.off HVv.out (put3R_but _ Vv (.int .i64 xq) (.bool fq) (.slice Aq nq cq)) HSp.out)
      replace HSq := Lib.hid (RgS.off HVv.out (put3R_but _ Vv (.int .i64 xq) (.bool fq) (.slice Aq nq cq)) HSq.out)
      replace HVa := Lib.hid (HVa.out.but (put3R_but _ Vv (.int .i64 xq) (.bool fq) (.slice Aq nq cq)) HNav.out)
      replace HVp := Lib.hid (HVp.out.but (put3R_but _ Vv (.int .i64 xq) (.bool fq) (.slice Aq nq cq)) HNpv.out)
      replace hB := put3R_below hB (show w.heap.size ≤ Vv from HLv.out) (.int .i64 xq) (.bool fq) (.slice Aq nq cq)
      have HVq := Lib.hid (put3R_blk (a' := (.int .i64 xq)) (b' := (.bool fq)) (c' := (.slice Aq nq cq)) HVv.out)
      clear HSv HVv
      go_upto_region 14 with fail
      clear zr ff1 ff2 ff3 y1 y2 y3
      generalize hWW : put3R _ Vv (.int .i64 xq) (.bool fq) (.slice Aq nq cq) = WW16 at *
      unfold put3R at hWW
      rw [hWW]
      clear hWW
      rw [Hep.out, Heq.out, Hrp.out, Hrq.out] at HM
      rw [Hep.out] at HM2
      obtain rfl : ep = eq := HM.out.1
      clear HSa HVa
      go_wp2_with fail
      refine (begun4_any _).mono ?_
      rintro e w17 ⟨rfl, hb17⟩
      replace HSp := Lib.hid (HSp.out.keep (keeps_of hb17))
      replace HVp := Lib.hid (HVp.out.below hb17)
      replace HSq := Lib.hid (HSq.out.keep (keeps_of hb17))
      replace HVq := Lib.hid (HVq.out.below hb17)
      replace hB := Below.next hB hb17
      clear hb17
      rcases HM2.out with h | h
      · subst h
        have zp := HVp.out.cell
        have zq := HVq.out.cell
        go_wp2_with fail
        refine (gequal_any rp xp fp Ap np cp rq xq fq Aq nq cq _ HSp.out HSq.out).mono ?_
        rintro e w18 ⟨rfl, hb18⟩
        rw [HM.out.2 (by trivial)]
        clear zp zq
        replace HSp := Lib.hid (HSp.out.keep (keeps_of hb18))
        replace HVp := Lib.hid (HVp.out.below hb18)
        replace HSq := Lib.hid (HSq.out.keep (keeps_of hb18))
        replace HVq := Lib.hid (HVq.out.below hb18)
        replace hB := Below.next hB hb18
        clear hb18
        go_wp2
        go_ret
        exact ⟨rfl, hB⟩
      · subst h
        go_wp2
        go_ret
        exact ⟨rfl, hB⟩
    · have h1 := op_02 HKa.out.1 HKa.out.2.1 HKb.out.1 HKb.out.2.1 opUr
      have h2 := op_02 HKb.out.1 HKb.out.2.1 HKx.out.1 HKx.out.2.1 opUr
      rw [Heu.out] at h1
      rw [Hev.out] at h2
      rcases h1 with rfl | rfl <;> rcases h2 with rfl | rfl <;> first | exact absurd ⟨rfl, rfl⟩ hall | skip
      all_goals
        clear hall
        go_wp2_with fail
        refine (begun4_any _).mono ?_
        rintro e w99 ⟨rfl, hb99⟩
        replace hB := Below.next hB hb99
        clear hb99
        go_wp2
        go_ret
        exact ⟨rfl, hB⟩
end Go.Proofs.YtnocbigcdjlliaaGreat
