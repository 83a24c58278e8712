/-
  The walk of the law RegionCombines.
-/
import Derived.Deep.Cut
import Derived.Test.YtnocbigcdjlliaaGreatB24
import Derived.Test.YtnocbigcdjlliaaGreatB51
import Derived.Test.YtnocbigcdjlliaaGreatB47
import Derived.Test.YtnocbigcdjlliaaGreatB31
set_option linter.unusedVariables false
namespace Go.Proofs.YtnocbigcdjlliaaGreat
open Go.RowKit
set_option maxRecDepth 100000
open Rg

set_option maxHeartbeats 16000000 in
theorem combines4_walk (A : Option Addr) (n c : Nat) (zs : List Int) (w : World) (hs : Sl 1 u8c w A n zs) (hz : ∀ z ∈ zs, 0 ≤ z ∧ z ≤ 255) (hnil : A = none → n = 0 ∧ c = 0) (hsp : ∀ ad, A = some ad → ad.spot = none) (hnc : n ≤ c) (hcm : c ≤ 9223372036854775807) (xw : Int) (fw : Bool) (Aw : Option Addr) (nw cw : Nat) (rw_ : Rg) (hR : RgS w xw fw Aw nw cw rw_) (hWf : WfR rw_) :
    Calls Tryz.prog 6 #[.slice A n c, .agg #[.int .i64 xw, .bool fw, .slice Aw nw cw]] w fun e w' => e = .returned (.bool true) ∧ Below w.heap.size w w' := by
  have hba : Below w.heap.size w (w.alloc (.cells #[.int .i64 xw, .bool fw, .slice Aw nw cw] 28)) := (Below.refl _ _).alloc (Nat.le_refl _) _
  have HB0 := Lib.hid hba
  have HS := Lib.hid (hs.keep (keeps_of hba))
  have HZ := Lib.hid hz
  have HN := Lib.hid hnil
  have HP := Lib.hid hsp
  have HW0 : Hid (BxR (w.alloc (.cells #[.int .i64 xw, .bool fw, .slice Aw nw cw] 28)) w.heap.size xw fw Aw nw cw rw_) := Lib.hid ⟨Blk.new _ _ _, hR.keep (keeps_of hba), hWf⟩
  have Hsz := Lib.hid (World.size_alloc w (.cells #[.int .i64 xw, .bool fw, .slice Aw nw cw] 28))
  clear hs hz hnil hsp hR hWf hba
  go_enter Tryz.func6, Tryz.ntmps6
  go_upto_region 1 with fail
  generalize hWW : w.alloc (.cells #[.int .i64 xw, .bool fw, .slice Aw nw cw] 28) = W0 at *
  clear hWW
  go_wp2_with fail
  refine (new_any A n c zs 160 _ HS.out HZ.out HN.out HP.out hnc hcm (by omega)).mono ?_
  rintro e w0 ⟨g, hg, rfl, hc, hb0⟩
  have HW1 := Lib.hid (HW0.out.below hb0)
  have hB := Below.next HB0.out hb0
  have hgw : w.heap.size ≤ g := by have := Hsz.out; omega
  clear HS HZ HN HP HW0 HB0 hb0
  go_wp2_with fail
  refine (int_any g 4 _ hc (by omega) (by omega)).mono ?_
  rintro e w1 ⟨⟨y, hy1, hy2, rfl⟩, hc1, hb1⟩
  replace HW1 := Lib.hid (HW1.out.case hc hb1)
  replace hB := hb1.below hB hB.size (fun k hk => by subst hk; exact hgw)
  replace hc := hc1
  clear hb1
  obtain ⟨wd, rfl⟩ := Int.eq_ofNat_of_zero_le hy1
  go_wp2_with fail
  refine (cregion_any g wd (by omega) _ hc).mono ?_
  rintro e w2 ⟨xa, fa, Aa, na, ca, ra, rfl, hSa, hOa, hWa, hFa, hc2, hb2⟩
  replace HW1 := Lib.hid (HW1.out.case hc hb2)
  replace hB := hb2.below hB hB.size (fun k hk => by subst hk; exact hgw)
  replace hc := hc2
  have HSa := Lib.hid hSa
  have HKa := Lib.hid (And.intro hOa hFa)
  clear hb2 hSa hOa hWa hFa
  go_wp2_with fail
  refine (cregion_any g wd (by omega) _ hc).mono ?_
  rintro e w3 ⟨xb, fb, Ab, nb, cb, rb, rfl, hSb, hOb, hWb, hFb, hc3, hb3⟩
  replace HW1 := Lib.hid (HW1.out.case hc hb3)
  replace HSa := Lib.hid (HSa.out.case hc hb3)
  replace hB := hb3.below hB hB.size (fun k hk => by subst hk; exact hgw)
  replace hc := hc3
  have HSb := Lib.hid hSb
  have HKb := Lib.hid (And.intro hOb hFb)
  clear hb3 hSb hOb hWb hFb
  have hVw : w.heap.size < w3.heap.size := HW1.out.b.lt
  have hS3 := hB.size
  have HQ : Hid (CmbS w g w3.heap.size (w3.heap.size + 1) w.heap.size xa fa Aa na ca ra xb fb Ab nb cb rb xw fw Aw nw cw rw_ ((w3.alloc (.cells #[.int .i64 xa, .bool fa, .slice Aa na ca] 28)).alloc (.cells #[.int .i64 xb, .bool fb, .slice Ab nb cb] 28))) := by
    have h1 : Below w3.heap.size w3 ((w3.alloc (.cells #[.int .i64 xa, .bool fa, .slice Aa na ca] 28)).alloc (.cells #[.int .i64 xb, .bool fb, .slice Ab nb cb] 28)) := ((Below.refl _ _).alloc (Nat.le_refl _) _).alloc (by simp) _
    exact Lib.hid ⟨⟨(Blk.new _ _ _).alloc _, HSa.out.keep (keeps_of h1), HKa.out.2⟩, ⟨Blk.step (by simp), HSb.out.keep (keeps_of h1), HKb.out.2⟩, HW1.out.below h1, hc.below h1, Below.next hB h1, hgw, by omega, by omega, by omega, by omega, by omega⟩
  obtain ⟨Va, HVa⟩ : ∃ z, Hid (w3.heap.size = z) := ⟨_, rfl⟩
  obtain ⟨Vb, HVb⟩ : ∃ z, Hid (Va + 1 = z) := ⟨_, rfl⟩
  rw [HVa.out] at HQ
  rw [HVb.out] at HQ
  go_upto_region 4 with fail
  try rw [World.size_alloc]
  rw [HVa.out, HVb.out]
  generalize hWW : (w3.alloc (.cells #[.int .i64 xa, .bool fa, .slice Aa na ca] 28)).alloc (.cells #[.int .i64 xb, .bool fb, .slice Ab nb cb] 28) = w4 at *
  clear hWW HW1 HSa HSb HVa HVb hB hc hVw hS3 hy1 hy2
  have hOb := Lib.hid HKb.out.1
  clear HKa HKb
  go_wp2_with fail
  refine (bool_any g 6 _ HQ.out.cs (by omega) (by omega)).mono ?_
  rintro e w5 ⟨⟨b1, rfl⟩, hc5, hb5⟩
  have HQ5 := Lib.hid (HQ.out.case hc5 hb5)
  clear hc5 hb5 HQ
  go_upto_if 40 with fail
  go_cut [] (fun w8 => ∃ (x : Int) (f : Bool) (A : Option Addr) (n c : Nat) (r : Rg), Hid (CmbS w g Va Vb w.heap.size xa fa Aa na ca ra x f A n c r xw fw Aw nw cw rw_ w8) ∧ Hid (OkR r))
  case first =>
    cases b1
    · go_wp2_with fail
      go_meet
      case rel => exact ⟨_, _, _, _, _, _, HQ5, hOb⟩
    · go_wp2_with fail
      refine (int_any g 4 _ HQ5.out.cs (by omega) (by omega)).mono ?_
      rintro e w6 ⟨⟨y, hy1, hy2, rfl⟩, hc6, hb6⟩
      have HQ6 := Lib.hid (HQ5.out.case hc6 hb6)
      clear hc6 hb6 HQ5
      obtain ⟨wd2, rfl⟩ := Int.eq_ofNat_of_zero_le hy1
      go_wp2_with fail
      refine (cregion_any g wd2 (by omega) _ HQ6.out.cs).mono ?_
      rintro e w7 ⟨x7, f7, A7, n7, c7, r7, rfl, hS7, hO7, hW7, hF7, hc7, hb7⟩
      have HQ7 := Lib.hid (HQ6.out.case hc7 hb7)
      have HE := Lib.hid (HQ7.out.putb hS7 hF7)
      have HO := Lib.hid hO7
      clear hS7 hO7 hW7 hF7 hc7 hb7 HQ6
      have zr := HQ7.out.b.b.cell
      obtain ⟨ff1, ff2, ff3⟩ := put3R_free HQ7.out.b.b (.int .i64 x7) (.bool f7)
      have y3 := (put3R_blk (a' := (.int .i64 x7)) (b' := (.bool f7)) (c' := (.slice A7 n7 c7)) HQ7.out.b.b).cell
      have y1 := (HQ7.out.b.b.set_ 0 (.int .i64 x7)).cell
      have y2 := ((HQ7.out.b.b.set_ 0 (.int .i64 x7)).set_ 1 (.bool f7)).cell
      unfold put3R at y3
      go_wp2_with fail
      go_meet
      case rel => exact ⟨_, _, _, _, _, _, HE, HO⟩
  case rest =>
    obtain ⟨xb, fb, Ab, nb, cb, rb, HQ5, hOb⟩ := hcut
    go_wp2_with fail
    refine (bool_any g 5 _ HQ5.out.cs (by omega) (by omega)).mono ?_
    rintro e w6 ⟨⟨b2, rfl⟩, hc6, hb6⟩
    have HQ6 := Lib.hid (HQ5.out.case hc6 hb6)
    clear hc6 hb6 HQ5
    go_upto_if 46 with fail
    go_cut [] (fun w8 => ∃ (x : Int) (f : Bool) (A : Option Addr) (n c : Nat) (r : Rg), Hid (CmbS w g Va Vb w.heap.size xa fa Aa na ca ra x f A n c r xw fw Aw nw cw rw_ w8))
    case first =>
      cases b2
      · go_wp2_with fail
        go_meet
        case rel => exact ⟨_, _, _, _, _, _, HQ6⟩
      · have zb := HQ6.out.b.b.cell
        go_wp2_with fail
        refine (spoilt4_any g rb.w.toNat rb xb fb Ab nb cb _ (by have := hOb.out.2.1; omega) (ok_form hOb.out).1 (ok_form hOb.out).2 HQ6.out.b.wf HQ6.out.cs HQ6.out.b.s).mono ?_
        rintro e w7 ⟨x7, f7, A7, n7, c7, r7, rfl, hS7, hF7, hc7, hb7⟩
        have HQ7 := Lib.hid (HQ6.out.case hc7 hb7)
        have HE := Lib.hid (HQ7.out.putb hS7.s hF7)
        clear hS7 hF7 hc7 hb7 HQ6 zb
        have zr := HQ7.out.b.b.cell
        obtain ⟨ff1, ff2, ff3⟩ := put3R_free HQ7.out.b.b (.int .i64 x7) (.bool f7)
        have y3 := (put3R_blk (a' := (.int .i64 x7)) (b' := (.bool f7)) (c' := (.slice A7 n7 c7)) HQ7.out.b.b).cell
        have y1 := (HQ7.out.b.b.set_ 0 (.int .i64 x7)).cell
        have y2 := ((HQ7.out.b.b.set_ 0 (.int .i64 x7)).set_ 1 (.bool f7)).cell
        unfold put3R at y3
        go_wp2_with fail
        go_meet
        case rel => exact ⟨_, _, _, _, _, _, HE⟩
    case rest =>
      obtain ⟨xb, fb, Ab, nb, cb, rb, HQ6⟩ := hcut
      clear hOb
      go_wp2_with fail
      refine (bool_any g 8 _ HQ6.out.cs (by omega) (by omega)).mono ?_
      rintro e w7 ⟨⟨b3, rfl⟩, hc7, hb7⟩
      have HQ7 := Lib.hid (HQ6.out.case hc7 hb7)
      clear hc7 hb7 HQ6
      go_upto_if 51 with fail
      go_cut [] (fun w8 => ∃ (x : Int) (f : Bool) (A : Option Addr) (n c : Nat) (r : Rg), Hid (CmbS w g Va Vb w.heap.size x f A n c r xb fb Ab nb cb rb xw fw Aw nw cw rw_ w8))
      case first =>
        cases b3
        · go_wp2_with fail
          go_meet
          case rel => exact ⟨_, _, _, _, _, _, HQ7⟩
        · have zw := HQ7.out.r.b.cell
          have HE := Lib.hid (HQ7.out.puta HQ7.out.r.s HQ7.out.r.wf)
          have zr := HQ7.out.a.b.cell
          obtain ⟨ff1, ff2, ff3⟩ := put3R_free HQ7.out.a.b (.int .i64 xw) (.bool fw)
          have y3 := (put3R_blk (a' := (.int .i64 xw)) (b' := (.bool fw)) (c' := (.slice Aw nw cw)) HQ7.out.a.b).cell
          have y1 := (HQ7.out.a.b.set_ 0 (.int .i64 xw)).cell
          have y2 := ((HQ7.out.a.b.set_ 0 (.int .i64 xw)).set_ 1 (.bool fw)).cell
          unfold put3R at y3
          go_wp2_with fail
          go_meet
          case rel => exact ⟨_, _, _, _, _, _, HE⟩
      case rest =>
        obtain ⟨xa, fa, Aa, na, ca, ra, HQ7⟩ := hcut
        have hB := HQ7.out.bel
        have HSa := Lib.hid HQ7.out.a.s
        have HVa := Lib.hid HQ7.out.a.b
        have HSb := Lib.hid HQ7.out.b.s
        have HVb := Lib.hid HQ7.out.b.b
        have HWa := Lib.hid HQ7.out.a.wf
        have HWb := Lib.hid HQ7.out.b.wf
        clear HQ7
        have za := HVa.out.cell
        have zb := HVb.out.cell
        go_wp2_with fail
        refine (gunion_any ra xa fa Aa na ca rb xb fb Ab nb cb _ HSa.out HSb.out HWa.out HWb.out).mono ?_
        rintro e w101 ⟨xp, fp, Ap, np, cp, rfl, hSp, hb1⟩
        obtain ⟨ep, Hep⟩ : ∃ z, Hid (opErr opUr ra rb = z) := ⟨_, rfl⟩
        obtain ⟨rp, Hrp⟩ : ∃ z, Hid (opRes opUr ra rb = z) := ⟨_, rfl⟩
        rw [Hep.out]
        rw [Hrp.out] at hSp
        clear za zb
        replace HSa := Lib.hid (HSa.out.keep (keeps_of hb1))
        replace HVa := Lib.hid (HVa.out.below hb1)
        replace HSb := Lib.hid (HSb.out.keep (keeps_of hb1))
        replace HVb := Lib.hid (HVb.out.below hb1)
        replace hB := Below.next hB hb1
        have HSp := Lib.hid hSp
        clear hSp hb1
        replace HSa := Lib.hid (HSa.out.keep (keeps_alloc w101 (.cells #[.int .i64 xp, .bool fp, .slice Ap np cp] 28)))
        replace HVa := Lib.hid (HVa.out.alloc (.cells #[.int .i64 xp, .bool fp, .slice Ap np cp] 28))
        replace HSb := Lib.hid (HSb.out.keep (keeps_alloc w101 (.cells #[.int .i64 xp, .bool fp, .slice Ap np cp] 28)))
        replace HVb := Lib.hid (HVb.out.alloc (.cells #[.int .i64 xp, .bool fp, .slice Ap np cp] 28))
        replace HSp := Lib.hid (HSp.out.keep (keeps_alloc w101 (.cells #[.int .i64 xp, .bool fp, .slice Ap np cp] 28)))
        have HVp := Lib.hid (Blk.new w101 28 #[.int .i64 xp, .bool fp, .slice Ap np cp])
        obtain ⟨Vp, HXp⟩ : ∃ z, Hid (w101.heap.size = z) := ⟨_, rfl⟩
        rw [HXp.out] at HVp
        replace hB := hB.alloc hB.size (.cells #[.int .i64 xp, .bool fp, .slice Ap np cp] 28)
        go_upto_region 11 with fail
        rw [HXp.out]
        generalize hWW : (w101.alloc (.cells #[.int .i64 xp, .bool fp, .slice Ap np cp] 28)) = WW2 at *
        clear hWW
        have za := HVa.out.cell
        have zb := HVb.out.cell
        go_wp2_with fail
        refine (funion_any ra xa fa Aa na ca rb xb fb Ab nb cb _ HSa.out HSb.out).mono ?_
        rintro e w103 ⟨xq, fq, Aq, nq, cq, rfl, hSq, hb3⟩
        rw [opR_eq.1] at hSq ⊢
        rw [Hep.out]
        rw [Hrp.out] at hSq
        clear za zb
        replace HSa := Lib.hid (HSa.out.keep (keeps_of hb3))
        replace HVa := Lib.hid (HVa.out.below hb3)
        replace HSb := Lib.hid (HSb.out.keep (keeps_of hb3))
        replace HVb := Lib.hid (HVb.out.below hb3)
        replace HSp := Lib.hid (HSp.out.keep (keeps_of hb3))
        replace HVp := Lib.hid (HVp.out.below hb3)
        replace hB := Below.next hB hb3
        have HSq := Lib.hid hSq
        clear hSq hb3
        replace HSa := Lib.hid (HSa.out.keep (keeps_alloc w103 (.cells #[.int .i64 xq, .bool fq, .slice Aq nq cq] 28)))
        replace HVa := Lib.hid (HVa.out.alloc (.cells #[.int .i64 xq, .bool fq, .slice Aq nq cq] 28))
        replace HSb := Lib.hid (HSb.out.keep (keeps_alloc w103 (.cells #[.int .i64 xq, .bool fq, .slice Aq nq cq] 28)))
        replace HVb := Lib.hid (HVb.out.alloc (.cells #[.int .i64 xq, .bool fq, .slice Aq nq cq] 28))
        replace HSp := Lib.hid (HSp.out.keep (keeps_alloc w103 (.cells #[.int .i64 xq, .bool fq, .slice Aq nq cq] 28)))
        replace HVp := Lib.hid (HVp.out.alloc (.cells #[.int .i64 xq, .bool fq, .slice Aq nq cq] 28))
        replace HSq := Lib.hid (HSq.out.keep (keeps_alloc w103 (.cells #[.int .i64 xq, .bool fq, .slice Aq nq cq] 28)))
        have HVq := Lib.hid (Blk.new w103 28 #[.int .i64 xq, .bool fq, .slice Aq nq cq])
        obtain ⟨Vq, HXq⟩ : ∃ z, Hid (w103.heap.size = z) := ⟨_, rfl⟩
        rw [HXq.out] at HVq
        replace hB := hB.alloc hB.size (.cells #[.int .i64 xq, .bool fq, .slice Aq nq cq] 28)
        go_upto_region 12 with fail
        rw [HXq.out]
        generalize hWW : (w103.alloc (.cells #[.int .i64 xq, .bool fq, .slice Aq nq cq] 28)) = WW4 at *
        clear hWW
        have za := HVa.out.cell
        have zb := HVb.out.cell
        go_wp2_with fail
        refine (gintersect_any ra xa fa Aa na ca rb xb fb Ab nb cb _ HSa.out HSb.out HWa.out HWb.out).mono ?_
        rintro e w105 ⟨xr, fr, Ar, nr, cr, rfl, hSr, hb5⟩
        obtain ⟨er, Her⟩ : ∃ z, Hid (opErr opIr ra rb = z) := ⟨_, rfl⟩
        obtain ⟨rr, Hrr⟩ : ∃ z, Hid (opRes opIr ra rb = z) := ⟨_, rfl⟩
        rw [Her.out]
        rw [Hrr.out] at hSr
        clear za zb
        replace HSa := Lib.hid (HSa.out.keep (keeps_of hb5))
        replace HVa := Lib.hid (HVa.out.below hb5)
        replace HSb := Lib.hid (HSb.out.keep (keeps_of hb5))
        replace HVb := Lib.hid (HVb.out.below hb5)
        replace HSp := Lib.hid (HSp.out.keep (keeps_of hb5))
        replace HVp := Lib.hid (HVp.out.below hb5)
        replace HSq := Lib.hid (HSq.out.keep (keeps_of hb5))
        replace HVq := Lib.hid (HVq.out.below hb5)
        replace hB := Below.next hB hb5
        have HSr := Lib.hid hSr
        clear hSr hb5
        replace HSa := Lib.hid (HSa.out.keep (keeps_alloc w105 (.cells #[.int .i64 xr, .bool fr, .slice Ar nr cr] 28)))
        replace HVa := Lib.hid (HVa.out.alloc (.cells #[.int .i64 xr, .bool fr, .slice Ar nr cr] 28))
        replace HSb := Lib.hid (HSb.out.keep (keeps_alloc w105 (.cells #[.int .i64 xr, .bool fr, .slice Ar nr cr] 28)))
        replace HVb := Lib.hid (HVb.out.alloc (.cells #[.int .i64 xr, .bool fr, .slice Ar nr cr] 28))
        replace HSp := Lib.hid (HSp.out.keep (keeps_alloc w105 (.cells #[.int .i64 xr, .bool fr, .slice Ar nr cr] 28)))
        replace HVp := Lib.hid (HVp.out.alloc (.cells #[.int .i64 xr, .bool fr, .slice Ar nr cr] 28))
        replace HSq := Lib.hid (HSq.out.keep (keeps_alloc w105 (.cells #[.int .i64 xr, .bool fr, .slice Ar nr cr] 28)))
        replace HVq := Lib.hid (HVq.out.alloc (.cells #[.int .i64 xr, .bool fr, .slice Ar nr cr] 28))
        replace HSr := Lib.hid (HSr.out.keep (keeps_alloc w105 (.cells #[.int .i64 xr, .bool fr, .slice Ar nr cr] 28)))
        have HVr := Lib.hid (Blk.new w105 28 #[.int .i64 xr, .bool fr, .slice Ar nr cr])
        obtain ⟨Vr, HXr⟩ : ∃ z, Hid (w105.heap.size = z) := ⟨_, rfl⟩
        rw [HXr.out] at HVr
        replace hB := hB.alloc hB.size (.cells #[.int .i64 xr, .bool fr, .slice Ar nr cr] 28)
        go_upto_region 13 with fail
        rw [HXr.out]
        generalize hWW : (w105.alloc (.cells #[.int .i64 xr, .bool fr, .slice Ar nr cr] 28)) = WW6 at *
        clear hWW
        have za := HVa.out.cell
        have zb := HVb.out.cell
        go_wp2_with fail
        refine (fintersect_any ra xa fa Aa na ca rb xb fb Ab nb cb _ HSa.out HSb.out).mono ?_
        rintro e w107 ⟨xs, fs, As, ns, cs, rfl, hSs, hb7⟩
        rw [opR_eq.2.1] at hSs ⊢
        rw [Her.out]
        rw [Hrr.out] at hSs
        clear za zb
        replace HSa := Lib.hid (HSa.out.keep (keeps_of hb7))
        replace HVa := Lib.hid (HVa.out.below hb7)
        replace HSb := Lib.hid (HSb.out.keep (keeps_of hb7))
        replace HVb := Lib.hid (HVb.out.below hb7)
        replace HSp := Lib.hid (HSp.out.keep (keeps_of hb7))
        replace HVp := Lib.hid (HVp.out.below hb7)
        replace HSq := Lib.hid (HSq.out.keep (keeps_of hb7))
        replace HVq := Lib.hid (HVq.out.below hb7)
        replace HSr := Lib.hid (HSr.out.keep (keeps_of hb7))
        replace HVr := Lib.hid (HVr.out.below hb7)
        replace hB := Below.next hB hb7
        have HSs := Lib.hid hSs
        clear hSs hb7
        replace HSa := Lib.hid (HSa.out.keep (keeps_alloc w107 (.cells #[.int .i64 xs, .bool fs, .slice As ns cs] 28)))
        replace HVa := Lib.hid (HVa.out.alloc (.cells #[.int .i64 xs, .bool fs, .slice As ns cs] 28))
        replace HSb := Lib.hid (HSb.out.keep (keeps_alloc w107 (.cells #[.int .i64 xs, .bool fs, .slice As ns cs] 28)))
        replace HVb := Lib.hid (HVb.out.alloc (.cells #[.int .i64 xs, .bool fs, .slice As ns cs] 28))
        replace HSp := Lib.hid (HSp.out.keep (keeps_alloc w107 (.cells #[.int .i64 xs, .bool fs, .slice As ns cs] 28)))
        replace HVp := Lib.hid (HVp.out.alloc (.cells #[.int .i64 xs, .bool fs, .slice As ns cs] 28))
        replace HSq := Lib.hid (HSq.out.keep (keeps_alloc w107 (.cells #[.int .i64 xs, .bool fs, .slice As ns cs] 28)))
        replace HVq := Lib.hid (HVq.out.alloc (.cells #[.int .i64 xs, .bool fs, .slice As ns cs] 28))
        replace HSr := Lib.hid (HSr.out.keep (keeps_alloc w107 (.cells #[.int .i64 xs, .bool fs, .slice As ns cs] 28)))
        replace HVr := Lib.hid (HVr.out.alloc (.cells #[.int .i64 xs, .bool fs, .slice As ns cs] 28))
        replace HSs := Lib.hid (HSs.out.keep (keeps_alloc w107 (.cells #[.int .i64 xs, .bool fs, .slice As ns cs] 28)))
        have HVs := Lib.hid (Blk.new w107 28 #[.int .i64 xs, .bool fs, .slice As ns cs])
        obtain ⟨Vs, HXs⟩ : ∃ z, Hid (w107.heap.size = z) := ⟨_, rfl⟩
        rw [HXs.out] at HVs
        replace hB := hB.alloc hB.size (.cells #[.int .i64 xs, .bool fs, .slice As ns cs] 28)
        go_upto_region 14 with fail
        rw [HXs.out]
        generalize hWW : (w107.alloc (.cells #[.int .i64 xs, .bool fs, .slice As ns cs] 28)) = WW8 at *
        clear hWW
        have za := HVa.out.cell
        have zb := HVb.out.cell
        go_wp2_with fail
        refine (gminus_any ra xa fa Aa na ca rb xb fb Ab nb cb _ HSa.out HSb.out HWa.out HWb.out).mono ?_
        rintro e w109 ⟨xt, ft, At, nt, ct, rfl, hSt, hb9⟩
        obtain ⟨et, Het⟩ : ∃ z, Hid (opErr opMr ra rb = z) := ⟨_, rfl⟩
        obtain ⟨rt, Hrt⟩ : ∃ z, Hid (opRes opMr ra rb = z) := ⟨_, rfl⟩
        rw [Het.out]
        rw [Hrt.out] at hSt
        clear za zb
        replace HSa := Lib.hid (HSa.out.keep (keeps_of hb9))
        replace HVa := Lib.hid (HVa.out.below hb9)
        replace HSb := Lib.hid (HSb.out.keep (keeps_of hb9))
        replace HVb := Lib.hid (HVb.out.below hb9)
        replace HSp := Lib.hid (HSp.out.keep (keeps_of hb9))
        replace HVp := Lib.hid (HVp.out.below hb9)
        replace HSq := Lib.hid (HSq.out.keep (keeps_of hb9))
        replace HVq := Lib.hid (HVq.out.below hb9)
        replace HSr := Lib.hid (HSr.out.keep (keeps_of hb9))
        replace HVr := Lib.hid (HVr.out.below hb9)
        replace HSs := Lib.hid (HSs.out.keep (keeps_of hb9))
        replace HVs := Lib.hid (HVs.out.below hb9)
        replace hB := Below.next hB hb9
        have HSt := Lib.hid hSt
        clear hSt hb9
        replace HSa := Lib.hid (HSa.out.keep (keeps_alloc w109 (.cells #[.int .i64 xt, .bool ft, .slice At nt ct] 28)))
        replace HVa := Lib.hid (HVa.out.alloc (.cells #[.int .i64 xt, .bool ft, .slice At nt ct] 28))
        replace HSb := Lib.hid (HSb.out.keep (keeps_alloc w109 (.cells #[.int .i64 xt, .bool ft, .slice At nt ct] 28)))
        replace HVb := Lib.hid (HVb.out.alloc (.cells #[.int .i64 xt, .bool ft, .slice At nt ct] 28))
        replace HSp := Lib.hid (HSp.out.keep (keeps_alloc w109 (.cells #[.int .i64 xt, .bool ft, .slice At nt ct] 28)))
        replace HVp := Lib.hid (HVp.out.alloc (.cells #[.int .i64 xt, .bool ft, .slice At nt ct] 28))
        replace HSq := Lib.hid (HSq.out.keep (keeps_alloc w109 (.cells #[.int .i64 xt, .bool ft, .slice At nt ct] 28)))
        replace HVq := Lib.hid (HVq.out.alloc (.cells #[.int .i64 xt, .bool ft, .slice At nt ct] 28))
        replace HSr := Lib.hid (HSr.out.keep (keeps_alloc w109 (.cells #[.int .i64 xt, .bool ft, .slice At nt ct] 28)))
        replace HVr := Lib.hid (HVr.out.alloc (.cells #[.int .i64 xt, .bool ft, .slice At nt ct] 28))
        replace HSs := Lib.hid (HSs.out.keep (keeps_alloc w109 (.cells #[.int .i64 xt, .bool ft, .slice At nt ct] 28)))
        replace HVs := Lib.hid (HVs.out.alloc (.cells #[.int .i64 xt, .bool ft, .slice At nt ct] 28))
        replace HSt := Lib.hid (HSt.out.keep (keeps_alloc w109 (.cells #[.int .i64 xt, .bool ft, .slice At nt ct] 28)))
        have HVt := Lib.hid (Blk.new w109 28 #[.int .i64 xt, .bool ft, .slice At nt ct])
        obtain ⟨Vt, HXt⟩ : ∃ z, Hid (w109.heap.size = z) := ⟨_, rfl⟩
        rw [HXt.out] at HVt
        replace hB := hB.alloc hB.size (.cells #[.int .i64 xt, .bool ft, .slice At nt ct] 28)
        go_upto_region 15 with fail
        rw [HXt.out]
        generalize hWW : (w109.alloc (.cells #[.int .i64 xt, .bool ft, .slice At nt ct] 28)) = WW10 at *
        clear hWW
        have za := HVa.out.cell
        have zb := HVb.out.cell
        go_wp2_with fail
        refine (fminus_any ra xa fa Aa na ca rb xb fb Ab nb cb _ HSa.out HSb.out).mono ?_
        rintro e w111 ⟨xu, fu, Au, nu, cu, rfl, hSu, hb11⟩
        rw [opR_eq.2.2] at hSu ⊢
        rw [Het.out]
        rw [Hrt.out] at hSu
        clear za zb
        replace HSa := Lib.hid (HSa.out.keep (keeps_of hb11))
        replace HVa := Lib.hid (HVa.out.below hb11)
        replace HSb := Lib.hid (HSb.out.keep (keeps_of hb11))
        replace HVb := Lib.hid (HVb.out.below hb11)
        replace HSp := Lib.hid (HSp.out.keep (keeps_of hb11))
        replace HVp := Lib.hid (HVp.out.below hb11)
        replace HSq := Lib.hid (HSq.out.keep (keeps_of hb11))
        replace HVq := Lib.hid (HVq.out.below hb11)
        replace HSr := Lib.hid (HSr.out.keep (keeps_of hb11))
        replace HVr := Lib.hid (HVr.out.below hb11)
        replace HSs := Lib.hid (HSs.out.keep (keeps_of hb11))
        replace HVs := Lib.hid (HVs.out.below hb11)
        replace HSt := Lib.hid (HSt.out.keep (keeps_of hb11))
        replace HVt := Lib.hid (HVt.out.below hb11)
        replace hB := Below.next hB hb11
        have HSu := Lib.hid hSu
        clear hSu hb11
        replace HSa := Lib.hid (HSa.out.keep (keeps_alloc w111 (.cells #[.int .i64 xu, .bool fu, .slice Au nu cu] 28)))
        replace HVa := Lib.hid (HVa.out.alloc (.cells #[.int .i64 xu, .bool fu, .slice Au nu cu] 28))
        replace HSb := Lib.hid (HSb.out.keep (keeps_alloc w111 (.cells #[.int .i64 xu, .bool fu, .slice Au nu cu] 28)))
        replace HVb := Lib.hid (HVb.out.alloc (.cells #[.int .i64 xu, .bool fu, .slice Au nu cu] 28))
        replace HSp := Lib.hid (HSp.out.keep (keeps_alloc w111 (.cells #[.int .i64 xu, .bool fu, .slice Au nu cu] 28)))
        replace HVp := Lib.hid (HVp.out.alloc (.cells #[.int .i64 xu, .bool fu, .slice Au nu cu] 28))
        replace HSq := Lib.hid (HSq.out.keep (keeps_alloc w111 (.cells #[.int .i64 xu, .bool fu, .slice Au nu cu] 28)))
        replace HVq := Lib.hid (HVq.out.alloc (.cells #[.int .i64 xu, .bool fu, .slice Au nu cu] 28))
        replace HSr := Lib.hid (HSr.out.keep (keeps_alloc w111 (.cells #[.int .i64 xu, .bool fu, .slice Au nu cu] 28)))
        replace HVr := Lib.hid (HVr.out.alloc (.cells #[.int .i64 xu, .bool fu, .slice Au nu cu] 28))
        replace HSs := Lib.hid (HSs.out.keep (keeps_alloc w111 (.cells #[.int .i64 xu, .bool fu, .slice Au nu cu] 28)))
        replace HVs := Lib.hid (HVs.out.alloc (.cells #[.int .i64 xu, .bool fu, .slice Au nu cu] 28))
        replace HSt := Lib.hid (HSt.out.keep (keeps_alloc w111 (.cells #[.int .i64 xu, .bool fu, .slice Au nu cu] 28)))
        replace HVt := Lib.hid (HVt.out.alloc (.cells #[.int .i64 xu, .bool fu, .slice Au nu cu] 28))
        replace HSu := Lib.hid (HSu.out.keep (keeps_alloc w111 (.cells #[.int .i64 xu, .bool fu, .slice Au nu cu] 28)))
        have HVu := Lib.hid (Blk.new w111 28 #[.int .i64 xu, .bool fu, .slice Au nu cu])
        obtain ⟨Vu, HXu⟩ : ∃ z, Hid (w111.heap.size = z) := ⟨_, rfl⟩
        rw [HXu.out] at HVu
        replace hB := hB.alloc hB.size (.cells #[.int .i64 xu, .bool fu, .slice Au nu cu] 28)
        go_upto_region 16 with fail
        rw [HXu.out]
        generalize hWW : (w111.alloc (.cells #[.int .i64 xu, .bool fu, .slice Au nu cu] 28)) = WW12 at *
        clear hWW
        have zb := HVb.out.cell
        go_wp2_with fail
        refine (gcomplement_any rb xb fb Ab nb cb _ HSb.out HWb.out).mono ?_
        rintro e w113 ⟨xv, fv, Av, nv, cv, rfl, hSv, hb13⟩
        obtain ⟨ev, Hev⟩ : ∃ z, Hid (cpErr rb = z) := ⟨_, rfl⟩
        obtain ⟨rv, Hrv⟩ : ∃ z, Hid (cpRes rb = z) := ⟨_, rfl⟩
        rw [Hev.out]
        rw [Hrv.out] at hSv
        clear zb
        replace HSa := Lib.hid (HSa.out.keep (keeps_of hb13))
        replace HVa := Lib.hid (HVa.out.below hb13)
        replace HSb := Lib.hid (HSb.out.keep (keeps_of hb13))
        replace HVb := Lib.hid (HVb.out.below hb13)
        replace HSp := Lib.hid (HSp.out.keep (keeps_of hb13))
        replace HVp := Lib.hid (HVp.out.below hb13)
        replace HSq := Lib.hid (HSq.out.keep (keeps_of hb13))
        replace HVq := Lib.hid (HVq.out.below hb13)
        replace HSr := Lib.hid (HSr.out.keep (keeps_of hb13))
        replace HVr := Lib.hid (HVr.out.below hb13)
        replace HSs := Lib.hid (HSs.out.keep (keeps_of hb13))
        replace HVs := Lib.hid (HVs.out.below hb13)
        replace HSt := Lib.hid (HSt.out.keep (keeps_of hb13))
        replace HVt := Lib.hid (HVt.out.below hb13)
        replace HSu := Lib.hid (HSu.out.keep (keeps_of hb13))
        replace HVu := Lib.hid (HVu.out.below hb13)
        replace hB := Below.next hB hb13
        have HSv := Lib.hid hSv
        clear hSv hb13
        replace HSa := Lib.hid (HSa.out.keep (keeps_alloc w113 (.cells #[.int .i64 xv, .bool fv, .slice Av nv cv] 28)))
        replace HVa := Lib.hid (HVa.out.alloc (.cells #[.int .i64 xv, .bool fv, .slice Av nv cv] 28))
        replace HSb := Lib.hid (HSb.out.keep (keeps_alloc w113 (.cells #[.int .i64 xv, .bool fv, .slice Av nv cv] 28)))
        replace HVb := Lib.hid (HVb.out.alloc (.cells #[.int .i64 xv, .bool fv, .slice Av nv cv] 28))
        replace HSp := Lib.hid (HSp.out.keep (keeps_alloc w113 (.cells #[.int .i64 xv, .bool fv, .slice Av nv cv] 28)))
        replace HVp := Lib.hid (HVp.out.alloc (.cells #[.int .i64 xv, .bool fv, .slice Av nv cv] 28))
        replace HSq := Lib.hid (HSq.out.keep (keeps_alloc w113 (.cells #[.int .i64 xv, .bool fv, .slice Av nv cv] 28)))
        replace HVq := Lib.hid (HVq.out.alloc (.cells #[.int .i64 xv, .bool fv, .slice Av nv cv] 28))
        replace HSr := Lib.hid (HSr.out.keep (keeps_alloc w113 (.cells #[.int .i64 xv, .bool fv, .slice Av nv cv] 28)))
        replace HVr := Lib.hid (HVr.out.alloc (.cells #[.int .i64 xv, .bool fv, .slice Av nv cv] 28))
        replace HSs := Lib.hid (HSs.out.keep (keeps_alloc w113 (.cells #[.int .i64 xv, .bool fv, .slice Av nv cv] 28)))
        replace HVs := Lib.hid (HVs.out.alloc (.cells #[.int .i64 xv, .bool fv, .slice Av nv cv] 28))
        replace HSt := Lib.hid (HSt.out.keep (keeps_alloc w113 (.cells #[.int .i64 xv, .bool fv, .slice Av nv cv] 28)))
        replace HVt := Lib.hid (HVt.out.alloc (.cells #[.int .i64 xv, .bool fv, .slice Av nv cv] 28))
        replace HSu := Lib.hid (HSu.out.keep (keeps_alloc w113 (.cells #[.int .i64 xv, .bool fv, .slice Av nv cv] 28)))
        replace HVu := Lib.hid (HVu.out.alloc (.cells #[.int .i64 xv, .bool fv, .slice Av nv cv] 28))
        replace HSv := Lib.hid (HSv.out.keep (keeps_alloc w113 (.cells #[.int .i64 xv, .bool fv, .slice Av nv cv] 28)))
        have HVv := Lib.hid (Blk.new w113 28 #[.int .i64 xv, .bool fv, .slice Av nv cv])
        obtain ⟨Vv, HXv⟩ : ∃ z, Hid (w113.heap.size = z) := ⟨_, rfl⟩
        rw [HXv.out] at HVv
        replace hB := hB.alloc hB.size (.cells #[.int .i64 xv, .bool fv, .slice Av nv cv] 28)
        go_upto_region 17 with fail
        rw [HXv.out]
        generalize hWW : (w113.alloc (.cells #[.int .i64 xv, .bool fv, .slice Av nv cv] 28)) = WW14 at *
        clear hWW
        have zb := HVb.out.cell
        go_wp2_with fail
        refine (fcomplement_any rb xb fb Ab nb cb _ HSb.out).mono ?_
        rintro e w115 ⟨xz, fz, Az, nz, cz, rfl, hSz, hb15⟩
        rw [Hev.out]
        rw [Hrv.out] at hSz
        clear zb
        replace HSa := Lib.hid (HSa.out.keep (keeps_of hb15))
        replace HVa := Lib.hid (HVa.out.below hb15)
        replace HSb := Lib.hid (HSb.out.keep (keeps_of hb15))
        replace HVb := Lib.hid (HVb.out.below hb15)
        replace HSp := Lib.hid (HSp.out.keep (keeps_of hb15))
        replace HVp := Lib.hid (HVp.out.below hb15)
        replace HSq := Lib.hid (HSq.out.keep (keeps_of hb15))
        replace HVq := Lib.hid (HVq.out.below hb15)
        replace HSr := Lib.hid (HSr.out.keep (keeps_of hb15))
        replace HVr := Lib.hid (HVr.out.below hb15)
        replace HSs := Lib.hid (HSs.out.keep (keeps_of hb15))
        replace HVs := Lib.hid (HVs.out.below hb15)
        replace HSt := Lib.hid (HSt.out.keep (keeps_of hb15))
        replace HVt := Lib.hid (HVt.out.below hb15)
        replace HSu := Lib.hid (HSu.out.keep (keeps_of hb15))
        replace HVu := Lib.hid (HVu.out.below hb15)
        replace HSv := Lib.hid (HSv.out.keep (keeps_of hb15))
        replace HVv := Lib.hid (HVv.out.below hb15)
        replace hB := Below.next hB hb15
        have HSz := Lib.hid hSz
        clear hSz hb15
        replace HSa := Lib.hid (HSa.out.keep (keeps_alloc w115 (.cells #[.int .i64 xz, .bool fz, .slice Az nz cz] 28)))
        replace HVa := Lib.hid (HVa.out.alloc (.cells #[.int .i64 xz, .bool fz, .slice Az nz cz] 28))
        replace HSb := Lib.hid (HSb.out.keep (keeps_alloc w115 (.cells #[.int .i64 xz, .bool fz, .slice Az nz cz] 28)))
        replace HVb := Lib.hid (HVb.out.alloc (.cells #[.int .i64 xz, .bool fz, .slice Az nz cz] 28))
        replace HSp := Lib.hid (HSp.out.keep (keeps_alloc w115 (.cells #[.int .i64 xz, .bool fz, .slice Az nz cz] 28)))
        replace HVp := Lib.hid (HVp.out.alloc (.cells #[.int .i64 xz, .bool fz, .slice Az nz cz] 28))
        replace HSq := Lib.hid (HSq.out.keep (keeps_alloc w115 (.cells #[.int .i64 xz, .bool fz, .slice Az nz cz] 28)))
        replace HVq := Lib.hid (HVq.out.alloc (.cells #[.int .i64 xz, .bool fz, .slice Az nz cz] 28))
        replace HSr := Lib.hid (HSr.out.keep (keeps_alloc w115 (.cells #[.int .i64 xz, .bool fz, .slice Az nz cz] 28)))
        replace HVr := Lib.hid (HVr.out.alloc (.cells #[.int .i64 xz, .bool fz, .slice Az nz cz] 28))
        replace HSs := Lib.hid (HSs.out.keep (keeps_alloc w115 (.cells #[.int .i64 xz, .bool fz, .slice Az nz cz] 28)))
        replace HVs := Lib.hid (HVs.out.alloc (.cells #[.int .i64 xz, .bool fz, .slice Az nz cz] 28))
        replace HSt := Lib.hid (HSt.out.keep (keeps_alloc w115 (.cells #[.int .i64 xz, .bool fz, .slice Az nz cz] 28)))
        replace HVt := Lib.hid (HVt.out.alloc (.cells #[.int .i64 xz, .bool fz, .slice Az nz cz] 28))
        replace HSu := Lib.hid (HSu.out.keep (keeps_alloc w115 (.cells #[.int .i64 xz, .bool fz, .slice Az nz cz] 28)))
        replace HVu := Lib.hid (HVu.out.alloc (.cells #[.int .i64 xz, .bool fz, .slice Az nz cz] 28))
        replace HSv := Lib.hid (HSv.out.keep (keeps_alloc w115 (.cells #[.int .i64 xz, .bool fz, .slice Az nz cz] 28)))
        replace HVv := Lib.hid (HVv.out.alloc (.cells #[.int .i64 xz, .bool fz, .slice Az nz cz] 28))
        replace HSz := Lib.hid (HSz.out.keep (keeps_alloc w115 (.cells #[.int .i64 xz, .bool fz, .slice Az nz cz] 28)))
        have HVz := Lib.hid (Blk.new w115 28 #[.int .i64 xz, .bool fz, .slice Az nz cz])
        obtain ⟨Vz, HXz⟩ : ∃ z, Hid (w115.heap.size = z) := ⟨_, rfl⟩
        rw [HXz.out] at HVz
        replace hB := hB.alloc hB.size (.cells #[.int .i64 xz, .bool fz, .slice Az nz cz] 28)
        go_upto_region 18 with fail
        rw [HXz.out]
        generalize hWW : (w115.alloc (.cells #[.int .i64 xz, .bool fz, .slice Az nz cz] 28)) = WW16 at *
        clear hWW
        have za := HVa.out.cell
        have zb := HVb.out.cell
        go_wp2_with fail
        refine (gcovers_any ra xa fa Aa na ca rb xb fb Ab nb cb _ HSa.out HSb.out HWa.out HWb.out).mono ?_
        rintro e w117 ⟨rfl, hb17⟩
        obtain ⟨dc, Hdc⟩ : ∃ z, Hid (covRes ra rb = z) := ⟨_, rfl⟩
        obtain ⟨ec, Hec⟩ : ∃ z, Hid (covErr ra rb = z) := ⟨_, rfl⟩
        rw [Hdc.out, Hec.out]
        clear za zb
        replace HSa := Lib.hid (HSa.out.keep (keeps_of hb17))
        replace HVa := Lib.hid (HVa.out.below hb17)
        replace HSb := Lib.hid (HSb.out.keep (keeps_of hb17))
        replace HVb := Lib.hid (HVb.out.below hb17)
        replace HSp := Lib.hid (HSp.out.keep (keeps_of hb17))
        replace HVp := Lib.hid (HVp.out.below hb17)
        replace HSq := Lib.hid (HSq.out.keep (keeps_of hb17))
        replace HVq := Lib.hid (HVq.out.below hb17)
        replace HSr := Lib.hid (HSr.out.keep (keeps_of hb17))
        replace HVr := Lib.hid (HVr.out.below hb17)
        replace HSs := Lib.hid (HSs.out.keep (keeps_of hb17))
        replace HVs := Lib.hid (HVs.out.below hb17)
        replace HSt := Lib.hid (HSt.out.keep (keeps_of hb17))
        replace HVt := Lib.hid (HVt.out.below hb17)
        replace HSu := Lib.hid (HSu.out.keep (keeps_of hb17))
        replace HVu := Lib.hid (HVu.out.below hb17)
        replace HSv := Lib.hid (HSv.out.keep (keeps_of hb17))
        replace HVv := Lib.hid (HVv.out.below hb17)
        replace HSz := Lib.hid (HSz.out.keep (keeps_of hb17))
        replace HVz := Lib.hid (HVz.out.below hb17)
        replace hB := Below.next hB hb17
        clear hb17
        go_upto_region 19 with fail
        have za := HVa.out.cell
        have zb := HVb.out.cell
        go_wp2_with fail
        refine (fcovers_any ra xa fa Aa na ca rb xb fb Ab nb cb _ HSa.out HSb.out).mono ?_
        rintro e w118 ⟨rfl, hb18⟩
        rw [Hdc.out, Hec.out]
        clear za zb
        replace HSa := Lib.hid (HSa.out.keep (keeps_of hb18))
        replace HVa := Lib.hid (HVa.out.below hb18)
        replace HSb := Lib.hid (HSb.out.keep (keeps_of hb18))
        replace HVb := Lib.hid (HVb.out.below hb18)
        replace HSp := Lib.hid (HSp.out.keep (keeps_of hb18))
        replace HVp := Lib.hid (HVp.out.below hb18)
        replace HSq := Lib.hid (HSq.out.keep (keeps_of hb18))
        replace HVq := Lib.hid (HVq.out.below hb18)
        replace HSr := Lib.hid (HSr.out.keep (keeps_of hb18))
        replace HVr := Lib.hid (HVr.out.below hb18)
        replace HSs := Lib.hid (HSs.out.keep (keeps_of hb18))
        replace HVs := Lib.hid (HVs.out.below hb18)
        replace HSt := Lib.hid (HSt.out.keep (keeps_of hb18))
        replace HVt := Lib.hid (HVt.out.below hb18)
        replace HSu := Lib.hid (HSu.out.keep (keeps_of hb18))
        replace HVu := Lib.hid (HVu.out.below hb18)
        replace HSv := Lib.hid (HSv.out.keep (keeps_of hb18))
        replace HVv := Lib.hid (HVv.out.below hb18)
        replace HSz := Lib.hid (HSz.out.keep (keeps_of hb18))
        replace HVz := Lib.hid (HVz.out.below hb18)
        replace hB := Below.next hB hb18
        clear hb18
        go_upto_region 20 with fail
        clear HSa HVa
        clear HSb HVb
        clear HWa HWb
        go_wp2_with fail
        refine (begun4_any _).mono ?_
        rintro e w19 ⟨rfl, hb19⟩
        replace HSp := Lib.hid (HSp.out.keep (keeps_of hb19))
        replace HVp := Lib.hid (HVp.out.below hb19)
        replace HSq := Lib.hid (HSq.out.keep (keeps_of hb19))
        replace HVq := Lib.hid (HVq.out.below hb19)
        replace HSr := Lib.hid (HSr.out.keep (keeps_of hb19))
        replace HVr := Lib.hid (HVr.out.below hb19)
        replace HSs := Lib.hid (HSs.out.keep (keeps_of hb19))
        replace HVs := Lib.hid (HVs.out.below hb19)
        replace HSt := Lib.hid (HSt.out.keep (keeps_of hb19))
        replace HVt := Lib.hid (HVt.out.below hb19)
        replace HSu := Lib.hid (HSu.out.keep (keeps_of hb19))
        replace HVu := Lib.hid (HVu.out.below hb19)
        replace HSv := Lib.hid (HSv.out.keep (keeps_of hb19))
        replace HVv := Lib.hid (HVv.out.below hb19)
        replace HSz := Lib.hid (HSz.out.keep (keeps_of hb19))
        replace HVz := Lib.hid (HVz.out.below hb19)
        replace hB := Below.next hB hb19
        clear hb19
        have zp := HVp.out.cell
        have zq := HVq.out.cell
        have hsm : Sm rp := by rw [← Hrp.out]; exact sm_op _ _ _
        go_wp2_with fail
        refine (fsame_any rp xp fp Ap np cp xq fq Aq nq cq rp _ HSp.out HSq.out hsm hsm).mono ?_
        rintro e w120 ⟨rfl, hb20⟩
        rw [decide_eq_true rfl]
        clear zp zq hsm
        replace HSp := Lib.hid (HSp.out.keep (keeps_of hb20))
        replace HVp := Lib.hid (HVp.out.below hb20)
        replace HSq := Lib.hid (HSq.out.keep (keeps_of hb20))
        replace HVq := Lib.hid (HVq.out.below hb20)
        replace HSr := Lib.hid (HSr.out.keep (keeps_of hb20))
        replace HVr := Lib.hid (HVr.out.below hb20)
        replace HSs := Lib.hid (HSs.out.keep (keeps_of hb20))
        replace HVs := Lib.hid (HVs.out.below hb20)
        replace HSt := Lib.hid (HSt.out.keep (keeps_of hb20))
        replace HVt := Lib.hid (HVt.out.below hb20)
        replace HSu := Lib.hid (HSu.out.keep (keeps_of hb20))
        replace HVu := Lib.hid (HVu.out.below hb20)
        replace HSv := Lib.hid (HSv.out.keep (keeps_of hb20))
        replace HVv := Lib.hid (HVv.out.below hb20)
        replace HSz := Lib.hid (HSz.out.keep (keeps_of hb20))
        replace HVz := Lib.hid (HVz.out.below hb20)
        replace hB := Below.next hB hb20
        clear hb20
        clear HSp HVp
        clear HSq HVq
        have zr := HVr.out.cell
        have zs := HVs.out.cell
        have hsm : Sm rr := by rw [← Hrr.out]; exact sm_op _ _ _
        go_wp2_with fail
        refine (fsame_any rr xr fr Ar nr cr xs fs As ns cs rr _ HSr.out HSs.out hsm hsm).mono ?_
        rintro e w121 ⟨rfl, hb21⟩
        rw [decide_eq_true rfl]
        clear zr zs hsm
        replace HSr := Lib.hid (HSr.out.keep (keeps_of hb21))
        replace HVr := Lib.hid (HVr.out.below hb21)
        replace HSs := Lib.hid (HSs.out.keep (keeps_of hb21))
        replace HVs := Lib.hid (HVs.out.below hb21)
        replace HSt := Lib.hid (HSt.out.keep (keeps_of hb21))
        replace HVt := Lib.hid (HVt.out.below hb21)
        replace HSu := Lib.hid (HSu.out.keep (keeps_of hb21))
        replace HVu := Lib.hid (HVu.out.below hb21)
        replace HSv := Lib.hid (HSv.out.keep (keeps_of hb21))
        replace HVv := Lib.hid (HVv.out.below hb21)
        replace HSz := Lib.hid (HSz.out.keep (keeps_of hb21))
        replace HVz := Lib.hid (HVz.out.below hb21)
        replace hB := Below.next hB hb21
        clear hb21
        clear HSr HVr
        clear HSs HVs
        have zt := HVt.out.cell
        have zu := HVu.out.cell
        have hsm : Sm rt := by rw [← Hrt.out]; exact sm_op _ _ _
        go_wp2_with fail
        refine (fsame_any rt xt ft At nt ct xu fu Au nu cu rt _ HSt.out HSu.out hsm hsm).mono ?_
        rintro e w122 ⟨rfl, hb22⟩
        rw [decide_eq_true rfl]
        clear zt zu hsm
        replace HSt := Lib.hid (HSt.out.keep (keeps_of hb22))
        replace HVt := Lib.hid (HVt.out.below hb22)
        replace HSu := Lib.hid (HSu.out.keep (keeps_of hb22))
        replace HVu := Lib.hid (HVu.out.below hb22)
        replace HSv := Lib.hid (HSv.out.keep (keeps_of hb22))
        replace HVv := Lib.hid (HVv.out.below hb22)
        replace HSz := Lib.hid (HSz.out.keep (keeps_of hb22))
        replace HVz := Lib.hid (HVz.out.below hb22)
        replace hB := Below.next hB hb22
        clear hb22
        clear HSt HVt
        clear HSu HVu
        have zv := HVv.out.cell
        have zz := HVz.out.cell
        have hsm : Sm rv := by rw [← Hrv.out]; exact sm_cp _
        go_wp2_with fail
        refine (fsame_any rv xv fv Av nv cv xz fz Az nz cz rv _ HSv.out HSz.out hsm hsm).mono ?_
        rintro e w123 ⟨rfl, hb23⟩
        rw [decide_eq_true rfl]
        clear zv zz hsm
        replace HSv := Lib.hid (HSv.out.keep (keeps_of hb23))
        replace HVv := Lib.hid (HVv.out.below hb23)
        replace HSz := Lib.hid (HSz.out.keep (keeps_of hb23))
        replace HVz := Lib.hid (HVz.out.below hb23)
        replace hB := Below.next hB hb23
        clear hb23
        clear HSv HVv
        clear HSz HVz
        go_wp2
        go_ret
        exact ⟨rfl, hB⟩
end Go.Proofs.YtnocbigcdjlliaaGreat
