/-
  The walk of the law RegionProducts.
-/
import Derived.Test.YtnocbigcdjlliaaGreatB45
set_option linter.unusedVariables false
namespace Go.Proofs.YtnocbigcdjlliaaGreat
open Go.RowKit
set_option maxRecDepth 100000
open Rg

set_option maxHeartbeats 3000000 in
theorem products4_walk (A : Option Addr) (n c : Nat) (zs : List Int) (w : World) (hs : Sl 1 u8c w A n zs) (hz : ∀ z ∈ zs, 0 ≤ z ∧ z ≤ 255) (hnil : A = none → n = 0 ∧ c = 0) (hsp : ∀ ad, A = some ad → ad.spot = none) (hnc : n ≤ c) (hcm : c ≤ 9223372036854775807) (xw : Int) (fw : Bool) (Aw : Option Addr) (nw cw : Nat) (rw_ : Rg) (hR : RgS w xw fw Aw nw cw rw_) :
    Calls Tryz.prog 9 #[.slice A n c, .agg #[.int .i64 xw, .bool fw, .slice Aw nw cw]] w fun e w' => e = .returned (.bool true) ∧ Below w.heap.size w w' := by
  have hba : Below w.heap.size w (w.alloc (.cells #[.int .i64 xw, .bool fw, .slice Aw nw cw] 28)) := (Below.refl _ _).alloc (Nat.le_refl _) _
  have HB0 := Lib.hid hba
  have HS := Lib.hid (hs.keep (keeps_of hba))
  have HZ := Lib.hid hz
  have HN := Lib.hid hnil
  have HP := Lib.hid hsp
  have HW0 : Hid (BxQ (w.alloc (.cells #[.int .i64 xw, .bool fw, .slice Aw nw cw] 28)) w.heap.size xw fw Aw nw cw rw_) := Lib.hid ⟨Blk.new _ _ _, hR.keep (keeps_of hba)⟩
  have Hsz := Lib.hid (World.size_alloc w (.cells #[.int .i64 xw, .bool fw, .slice Aw nw cw] 28))
  clear hs hz hnil hsp hR hba
  go_enter Tryz.func9, Tryz.ntmps9
  go_upto_region 1 with fail
  generalize hWW : w.alloc (.cells #[.int .i64 xw, .bool fw, .slice Aw nw cw] 28) = W0 at *
  clear hWW
  go_wp2_with fail
  refine (new_any A n c zs 160 _ HS.out HZ.out HN.out HP.out hnc hcm (by omega)).mono ?_
  rintro e w0 ⟨g, hg, rfl, hc, hb0⟩
  have HW1 := Lib.hid (HW0.out.below hb0)
  have hB := Below.next HB0.out hb0
  have hgw : w.heap.size ≤ g := by have := Hsz.out; omega
  clear HS HZ HN HP HW0 HB0 hb0
  go_wp2_with fail
  refine (int_any g 4 _ hc (by omega) (by omega)).mono ?_
  rintro e w1 ⟨⟨y, hy1, hy2, rfl⟩, hc1, hb1⟩
  replace HW1 := Lib.hid (HW1.out.case hc hb1)
  replace hB := hb1.below hB hB.size (fun k hk => by subst hk; exact hgw)
  replace hc := hc1
  clear hb1
  obtain ⟨wd, rfl⟩ := Int.eq_ofNat_of_zero_le hy1
  go_wp2_with fail
  refine (cregion_any g wd (by omega) _ hc).mono ?_
  rintro e w2 ⟨xa, fa, Aa, na, ca, ra, rfl, hSa, hOa, hWa, hFa, hc2, hb2⟩
  replace HW1 := Lib.hid (HW1.out.case hc hb2)
  replace hB := hb2.below hB hB.size (fun k hk => by subst hk; exact hgw)
  replace hc := hc2
  have HSa := Lib.hid hSa
  clear hb2 hSa hOa hWa hFa
  go_wp2_with fail
  refine (int_any g 3 _ hc (by omega) (by omega)).mono ?_
  rintro e w21 ⟨⟨y2, hy3, hy4, rfl⟩, hc21, hb21⟩
  replace HW1 := Lib.hid (HW1.out.case hc hb21)
  replace HSa := Lib.hid (HSa.out.case hc hb21)
  replace hB := hb21.below hB hB.size (fun k hk => by subst hk; exact hgw)
  replace hc := hc21
  clear hb21
  obtain ⟨wd2, rfl⟩ := Int.eq_ofNat_of_zero_le hy3
  go_wp2_with fail
  refine (cregion_any g wd2 (by omega) _ hc).mono ?_
  rintro e w3 ⟨xb, fb, Ab, nb, cb, rb, rfl, hSb, hOb, hWb, hFb, hc3, hb3⟩
  replace HW1 := Lib.hid (HW1.out.case hc hb3)
  replace HSa := Lib.hid (HSa.out.case hc hb3)
  replace hB := hb3.below hB hB.size (fun k hk => by subst hk; exact hgw)
  replace hc := hc3
  have HSb := Lib.hid hSb
  clear hb3 hSb hOb hWb hFb
  have hVw : w.heap.size < w3.heap.size := HW1.out.b.lt
  have hS3 := hB.size
  have HQ : Hid (PdS w g w3.heap.size (w3.heap.size + 1) w.heap.size xa fa Aa na ca ra xb fb Ab nb cb rb xw fw Aw nw cw rw_ ((w3.alloc (.cells #[.int .i64 xa, .bool fa, .slice Aa na ca] 28)).alloc (.cells #[.int .i64 xb, .bool fb, .slice Ab nb cb] 28))) := by
    have h1 : Below w3.heap.size w3 ((w3.alloc (.cells #[.int .i64 xa, .bool fa, .slice Aa na ca] 28)).alloc (.cells #[.int .i64 xb, .bool fb, .slice Ab nb cb] 28)) := ((Below.refl _ _).alloc (Nat.le_refl _) _).alloc (by simp) _
    exact Lib.hid ⟨⟨(Blk.new _ _ _).alloc _, HSa.out.keep (keeps_of h1)⟩, ⟨Blk.step (by simp), HSb.out.keep (keeps_of h1)⟩, HW1.out.below h1, hc.below h1, Below.next hB h1, hgw, by omega, by omega, by omega, by omega, by omega⟩
  obtain ⟨Va, HVa⟩ : ∃ z, Hid (w3.heap.size = z) := ⟨_, rfl⟩
  obtain ⟨Vb, HVb⟩ : ∃ z, Hid (Va + 1 = z) := ⟨_, rfl⟩
  rw [HVa.out] at HQ
  rw [HVb.out] at HQ
  go_upto_region 3 with fail
  try rw [World.size_alloc]
  rw [HVa.out, HVb.out]
  generalize hWW : (w3.alloc (.cells #[.int .i64 xa, .bool fa, .slice Aa na ca] 28)).alloc (.cells #[.int .i64 xb, .bool fb, .slice Ab nb cb] 28) = w4 at *
  clear hWW HW1 HSa HSb HVa HVb hB hc hVw hS3 hy1 hy2 hy3 hy4
  go_wp2_with fail
  refine (bool_any g 6 _ HQ.out.cs (by omega) (by omega)).mono ?_
  rintro e w5 ⟨⟨b1, rfl⟩, hc5, hb5⟩
  have HQ5 := Lib.hid (HQ.out.case hc5 hb5)
  clear hc5 hb5 HQ
  go_upto_if 25 with fail
  go_cut [] (fun w8 => ∃ (x : Int) (f : Bool) (A : Option Addr) (n c : Nat) (r : Rg), Hid (PdS w g Va Vb w.heap.size xa fa Aa na ca ra x f A n c r xw fw Aw nw cw rw_ w8))
  case first =>
    cases b1
    · go_wp2_with fail
      go_meet
      case rel => exact ⟨_, _, _, _, _, _, HQ5⟩
    · go_wp2_with fail
      refine (int_any g 4 _ HQ5.out.cs (by omega) (by omega)).mono ?_
      rintro e w6 ⟨⟨y, hy1, hy2, rfl⟩, hc6, hb6⟩
      have HQ6 := Lib.hid (HQ5.out.case hc6 hb6)
      clear hc6 hb6 HQ5
      go_wp2_with fail
      refine (fAll_any (12 - y) _).mono ?_
      rintro e w7 ⟨x7, f7, A7, n7, c7, rfl, hS7, hb7⟩
      have HQ7 := Lib.hid (HQ6.out.case (HQ6.out.cs.below hb7) (But.of_below hb7))
      have HE := Lib.hid (HQ7.out.putb hS7)
      clear hS7 hb7 HQ6
      have zr := HQ7.out.b.b.cell
      obtain ⟨ff1, ff2, ff3⟩ := put3R_free HQ7.out.b.b (.int .i64 x7) (.bool f7)
      have y3 := (put3R_blk (a' := (.int .i64 x7)) (b' := (.bool f7)) (c' := (.slice A7 n7 c7)) HQ7.out.b.b).cell
      have y1 := (HQ7.out.b.b.set_ 0 (.int .i64 x7)).cell
      have y2 := ((HQ7.out.b.b.set_ 0 (.int .i64 x7)).set_ 1 (.bool f7)).cell
      unfold put3R at y3
      go_wp2_with fail
      go_meet
      case rel => exact ⟨_, _, _, _, _, _, HE⟩
  case rest =>
    obtain ⟨xb, fb, Ab, nb, cb, rb, HQ6⟩ := hcut
    go_wp2_with fail
    refine (bool_any g 8 _ HQ6.out.cs (by omega) (by omega)).mono ?_
    rintro e w7 ⟨⟨b3, rfl⟩, hc7, hb7⟩
    have HQ7 := Lib.hid (HQ6.out.case hc7 hb7)
    clear hc7 hb7 HQ6
    go_upto_if 34 with fail
    go_cut [] (fun w8 => ∃ (x : Int) (f : Bool) (A : Option Addr) (n c : Nat) (r : Rg), Hid (PdS w g Va Vb w.heap.size x f A n c r xb fb Ab nb cb rb xw fw Aw nw cw rw_ w8))
    case first =>
      cases b3
      · go_wp2_with fail
        go_meet
        case rel => exact ⟨_, _, _, _, _, _, HQ7⟩
      · have zw := HQ7.out.r.b.cell
        have HE := Lib.hid (HQ7.out.puta HQ7.out.r.s)
        have zr := HQ7.out.a.b.cell
        obtain ⟨ff1, ff2, ff3⟩ := put3R_free HQ7.out.a.b (.int .i64 xw) (.bool fw)
        have y3 := (put3R_blk (a' := (.int .i64 xw)) (b' := (.bool fw)) (c' := (.slice Aw nw cw)) HQ7.out.a.b).cell
        have y1 := (HQ7.out.a.b.set_ 0 (.int .i64 xw)).cell
        have y2 := ((HQ7.out.a.b.set_ 0 (.int .i64 xw)).set_ 1 (.bool fw)).cell
        unfold put3R at y3
        go_wp2_with fail
        go_meet
        case rel => exact ⟨_, _, _, _, _, _, HE⟩
    case rest =>
      obtain ⟨xa, fa, Aa, na, ca, ra, HQ7⟩ := hcut
      have hB := HQ7.out.bel
      have hc := HQ7.out.cs
      have hg := HQ7.out.hg
      have HSa := Lib.hid HQ7.out.a.s
      have HVa := Lib.hid HQ7.out.a.b
      have HSb := Lib.hid HQ7.out.b.s
      have HVb := Lib.hid HQ7.out.b.b
      clear HQ7
      have za := HVa.out.cell
      have zb := HVb.out.cell
      go_wp2_with fail
      refine (gproduct_any ra xa fa Aa na ca rb xb fb Ab nb cb _ HSa.out HSb.out).mono ?_
      rintro e w101 ⟨xp, fp, Ap, np, cp, rfl, hSp, hb1⟩
      obtain ⟨ep, Hep⟩ : ∃ z, Hid (prErr ra rb = z) := ⟨_, rfl⟩
      obtain ⟨rp, Hrp⟩ : ∃ z, Hid (prRes ra rb = z) := ⟨_, rfl⟩
      rw [Hep.out]
      rw [Hrp.out] at hSp
      clear za zb
      replace HSa := Lib.hid (HSa.out.keep (keeps_of hb1))
      replace HVa := Lib.hid (HVa.out.below hb1)
      replace HSb := Lib.hid (HSb.out.keep (keeps_of hb1))
      replace HVb := Lib.hid (HVb.out.below hb1)
      replace hB := Below.next hB hb1
      replace hc := hc.below hb1
      have HSp := Lib.hid hSp
      clear hSp hb1
      replace HSa := Lib.hid (HSa.out.keep (keeps_alloc w101 (.cells #[.int .i64 xp, .bool fp, .slice Ap np cp] 28)))
      replace HVa := Lib.hid (HVa.out.alloc (.cells #[.int .i64 xp, .bool fp, .slice Ap np cp] 28))
      replace HSb := Lib.hid (HSb.out.keep (keeps_alloc w101 (.cells #[.int .i64 xp, .bool fp, .slice Ap np cp] 28)))
      replace HVb := Lib.hid (HVb.out.alloc (.cells #[.int .i64 xp, .bool fp, .slice Ap np cp] 28))
      replace HSp := Lib.hid (HSp.out.keep (keeps_alloc w101 (.cells #[.int .i64 xp, .bool fp, .slice Ap np cp] 28)))
      have HVp := Lib.hid (Blk.new w101 28 #[.int .i64 xp, .bool fp, .slice Ap np cp])
      obtain ⟨Vp, HXp⟩ : ∃ z, Hid (w101.heap.size = z) := ⟨_, rfl⟩
      rw [HXp.out] at HVp
      replace hB := hB.alloc hB.size (.cells #[.int .i64 xp, .bool fp, .slice Ap np cp] 28)
      replace hc := hc.below ((Below.refl _ _).alloc (Nat.le_refl _) (.cells #[.int .i64 xp, .bool fp, .slice Ap np cp] 28))
      go_upto_region 8 with fail
      rw [HXp.out]
      generalize hWW : (w101.alloc (.cells #[.int .i64 xp, .bool fp, .slice Ap np cp] 28)) = WW2 at *
      clear hWW
      have za := HVa.out.cell
      have zb := HVb.out.cell
      go_wp2_with fail
      refine (fproductE_any ra xa fa Aa na ca rb xb fb Ab nb cb _ HSa.out HSb.out).mono ?_
      rintro e w103 ⟨xq, fq, Aq, nq, cq, rfl, hSq, hb3⟩
      rw [Hep.out]
      rw [Hrp.out] at hSq
      clear za zb
      replace HSa := Lib.hid (HSa.out.keep (keeps_of hb3))
      replace HVa := Lib.hid (HVa.out.below hb3)
      replace HSb := Lib.hid (HSb.out.keep (keeps_of hb3))
      replace HVb := Lib.hid (HVb.out.below hb3)
      replace HSp := Lib.hid (HSp.out.keep (keeps_of hb3))
      replace HVp := Lib.hid (HVp.out.below hb3)
      replace hB := Below.next hB hb3
      replace hc := hc.below hb3
      have HSq := Lib.hid hSq
      clear hSq hb3
      replace HSa := Lib.hid (HSa.out.keep (keeps_alloc w103 (.cells #[.int .i64 xq, .bool fq, .slice Aq nq cq] 28)))
      replace HVa := Lib.hid (HVa.out.alloc (.cells #[.int .i64 xq, .bool fq, .slice Aq nq cq] 28))
      replace HSb := Lib.hid (HSb.out.keep (keeps_alloc w103 (.cells #[.int .i64 xq, .bool fq, .slice Aq nq cq] 28)))
      replace HVb := Lib.hid (HVb.out.alloc (.cells #[.int .i64 xq, .bool fq, .slice Aq nq cq] 28))
      replace HSp := Lib.hid (HSp.out.keep (keeps_alloc w103 (.cells #[.int .i64 xq, .bool fq, .slice Aq nq cq] 28)))
      replace HVp := Lib.hid (HVp.out.alloc (.cells #[.int .i64 xq, .bool fq, .slice Aq nq cq] 28))
      replace HSq := Lib.hid (HSq.out.keep (keeps_alloc w103 (.cells #[.int .i64 xq, .bool fq, .slice Aq nq cq] 28)))
      have HVq := Lib.hid (Blk.new w103 28 #[.int .i64 xq, .bool fq, .slice Aq nq cq])
      obtain ⟨Vq, HXq⟩ : ∃ z, Hid (w103.heap.size = z) := ⟨_, rfl⟩
      rw [HXq.out] at HVq
      replace hB := hB.alloc hB.size (.cells #[.int .i64 xq, .bool fq, .slice Aq nq cq] 28)
      replace hc := hc.below ((Below.refl _ _).alloc (Nat.le_refl _) (.cells #[.int .i64 xq, .bool fq, .slice Aq nq cq] 28))
      go_upto_region 9 with fail
      rw [HXq.out]
      generalize hWW : (w103.alloc (.cells #[.int .i64 xq, .bool fq, .slice Aq nq cq] 28)) = WW4 at *
      clear hWW
      have zp := HVp.out.cell
      have zq := HVq.out.cell
      have hsm : Sm rp := by rw [← Hrp.out]; exact sm_pr _ _
      go_wp2_with fail
      refine (fsame_any rp xp fp Ap np cp xq fq Aq nq cq rp _ HSp.out HSq.out hsm hsm).mono ?_
      rintro e w105 ⟨rfl, hb5⟩
      rw [decide_eq_true rfl]
      clear zp zq hsm
      replace HSa := Lib.hid (HSa.out.keep (keeps_of hb5))
      replace HVa := Lib.hid (HVa.out.below hb5)
      replace HSb := Lib.hid (HSb.out.keep (keeps_of hb5))
      replace HVb := Lib.hid (HVb.out.below hb5)
      replace HSp := Lib.hid (HSp.out.keep (keeps_of hb5))
      replace HVp := Lib.hid (HVp.out.below hb5)
      replace HSq := Lib.hid (HSq.out.keep (keeps_of hb5))
      replace HVq := Lib.hid (HVq.out.below hb5)
      replace hB := Below.next hB hb5
      replace hc := hc.below hb5
      clear hb5
      clear HSq HVq
      by_cases he : ep = 0
      rotate_left
      · clear hc
        go_wp2_with fail
        refine (begun4_any _).mono ?_
        rintro e w99 ⟨rfl, hb99⟩
        replace hB := Below.next hB hb99
        clear hb99
        go_wp2
        go_ret
        exact ⟨rfl, hB⟩
      subst he
      obtain ⟨hoa, hob, hw12, _⟩ := pr_err Hep.out
      obtain ⟨ma, hma, hma2⟩ : ∃ ma : Nat, xa = (ma : Int) ∧ ma ≤ 12 := ⟨xa.toNat, by have := hoa.1; have := HSa.out.hw; omega, by have := hoa.2.1; have := HSa.out.hw; omega⟩
      obtain ⟨mb, hmb, hmb2⟩ : ∃ mb : Nat, xb = (mb : Int) ∧ mb ≤ 12 := ⟨xb.toNat, by have := hob.1; have := HSb.out.hw; omega, by have := hob.2.1; have := HSb.out.hw; omega⟩
      subst hma hmb
      clear hoa hob hw12
      go_upto_region 13 with fail
      refine wp_region_planR [] (justG g) anyW (justG_trans g) anyW_trans (.one [0, 1, 2, 4, 5, 6] [] 3 (.one [] [] 7 (.last [8, 9] []))) (by kernel_rfl) (by kernel_rfl) (fun _ _ d _ _ h => by cases d <;> exact h) ?_
      have hbd : Below w105.heap.size w105 w105.drew := (Below.refl _ _).drew
      replace HSa := Lib.hid (HSa.out.keep (keeps_of hbd))
      replace HVa := Lib.hid (HVa.out.below hbd)
      replace HSb := Lib.hid (HSb.out.keep (keeps_of hbd))
      replace HVb := Lib.hid (HVb.out.below hbd)
      replace HSp := Lib.hid (HSp.out.keep (keeps_of hbd))
      replace HVp := Lib.hid (HVp.out.below hbd)
      replace hB := Below.next hB hbd
      replace hc := hc.below hbd
      clear hbd
      generalize hWd : w105.drew = wd1 at *
      clear hWd
      have qa : ∀ (y : LaterR (justG g) wd1) z, (afterR (justG g) wd1 y).cell? ⟨Va, z, none⟩ = (#[.int .i64 (ma : Int), .bool fa, .slice Aa na ca] : Array Value)[z]? := fun y z => y.cell (HVa.out.cell z) (fun W h => (HVa.out.but h (hc.ne HVa.out (by decide))).cell z)
      have qb : ∀ (y : LaterR (justG g) wd1) z, (afterR (justG g) wd1 y).cell? ⟨Vb, z, none⟩ = (#[.int .i64 (mb : Int), .bool fb, .slice Ab nb cb] : Array Value)[z]? := fun y z => y.cell (HVb.out.cell z) (fun W h => (HVb.out.but h (hc.ne HVb.out (by decide))).cell z)
      unfold wpPlanR
      simp only [pickOps, opAt, List.map_cons, List.map_nil, List.getElem?_toArray, List.getElem?_cons_zero, List.getElem?_cons_succ, Option.getD_some]
      repeat (go_big_quiet_step (fail))
      refine wpQuiet_nil ?_
      repeat (go_big_quiet_step (fail))
      refine wpQuiet_nil ?_
      clear qa qb
      go_wp2_with fail
      refine (gcells_any g ma (by omega) _ hc).mono ?_
      rintro e wu ⟨Bu, mu, cu, lu, rfl, hml, hmw, hval, hown, hrow, hc1, hb1⟩
      have HMLu := Lib.hid hml
      have hmu9 := Lib.hid hmw
      clear hml hmw
      replace HSa := Lib.hid (HSa.out.case hc hb1)
      replace HVa := Lib.hid (HVa.out.but hb1 (hc.ne HVa.out (by decide)))
      replace HSb := Lib.hid (HSb.out.case hc hb1)
      replace HVb := Lib.hid (HVb.out.but hb1 (hc.ne HVb.out (by decide)))
      replace HSp := Lib.hid (HSp.out.case hc hb1)
      replace HVp := Lib.hid (HVp.out.but hb1 (hc.ne HVp.out (by decide)))
      replace hB := hb1.below hB hB.size (fun k hk => by subst hk; exact hg)
      replace hc := hc1
      go_wp2_with fail
      refine ⟨⟨fun _ => hb1, trivial⟩, ?_⟩
      have HRu := Lib.hid hrow
      have HNu := Lib.hid (And.intro (own_okS hown).2 (And.intro (own_okS hown).1 (own_cap hown)))
      have HLu : Hid (lu.length = ma) := Lib.hid (by rw [← hmu9.out, ← HMLu.out])
      have hlu : mu ≤ 12 := by have := hmu9.out; omega
      clear hval hown hrow hc1 hb1
      unfold wpPlanR
      simp only [pickOps, opAt, List.map_nil, List.getElem?_toArray, List.getElem?_cons_zero, List.getElem?_cons_succ, Option.getD_some]
      repeat (go_big_quiet_step (fail))
      refine wpQuiet_nil ?_
      repeat (go_big_quiet_step (fail))
      refine wpQuiet_nil ?_
      go_wp2_with fail
      refine (gcells_any g mb (by omega) _ hc).mono ?_
      rintro e wv ⟨Bv, mv, cv, lv, rfl, hml, hmw, hval, hown, hrow, hc1, hb1⟩
      have HMLv := Lib.hid hml
      have hmv9 := Lib.hid hmw
      clear hml hmw
      replace HRu := Lib.hid (vlq_case HRu.out hc hb1)
      replace HSa := Lib.hid (HSa.out.case hc hb1)
      replace HVa := Lib.hid (HVa.out.but hb1 (hc.ne HVa.out (by decide)))
      replace HSb := Lib.hid (HSb.out.case hc hb1)
      replace HVb := Lib.hid (HVb.out.but hb1 (hc.ne HVb.out (by decide)))
      replace HSp := Lib.hid (HSp.out.case hc hb1)
      replace HVp := Lib.hid (HVp.out.but hb1 (hc.ne HVp.out (by decide)))
      replace hB := hb1.below hB hB.size (fun k hk => by subst hk; exact hg)
      replace hc := hc1
      go_wp2_with fail
      refine ⟨⟨fun _ => hb1, trivial⟩, ?_⟩
      have HRv := Lib.hid hrow
      have HNv := Lib.hid (And.intro (own_okS hown).2 (And.intro (own_okS hown).1 (own_cap hown)))
      have HLv : Hid (lv.length = mb) := Lib.hid (by rw [← hmv9.out, ← HMLv.out])
      have hlv : mv ≤ 12 := by have := hmv9.out; omega
      clear hval hown hrow hc1 hb1
      unfold wpPlanR
      simp only [pickOps, opAt, List.map_cons, List.map_nil, List.getElem?_toArray, List.getElem?_cons_zero, List.getElem?_cons_succ, Option.getD_some]
      repeat (go_big_quiet_step (fail))
      refine wpQuiet_nil ?_
      repeat (go_big_quiet_step (fail))
      refine wpQuiet_nil ?_
      clear hc
      have HPH : Hid (hasR rp (lu ++ lv) = (hasR ra lu && hasR rb lv)) := Lib.hid (by
        rw [← Hrp.out]
        exact prod_has Hep.out (by rw [HLu.out]; exact HSa.out.hw.symm) (by rw [HLv.out]; exact HSb.out.hw.symm))
      obtain ⟨da, Hda⟩ : ∃ z, Hid (hasR ra lu = z) := ⟨_, rfl⟩
      obtain ⟨db, Hdb⟩ : ∃ z, Hid (hasR rb lv = z) := ⟨_, rfl⟩
      rw [Hda.out, Hdb.out] at HPH
      obtain ⟨i0, hi0, hz0, hz1, hz2⟩ := info_parts info_vl
      go_upto_region 14 with fail
      have hbd : Below wv.heap.size wv wv.drew := (Below.refl _ _).drew
      replace HSa := Lib.hid (HSa.out.keep (keeps_of hbd))
      replace HVa := Lib.hid (HVa.out.below hbd)
      replace HSb := Lib.hid (HSb.out.keep (keeps_of hbd))
      replace HVb := Lib.hid (HVb.out.below hbd)
      replace HSp := Lib.hid (HSp.out.keep (keeps_of hbd))
      replace HVp := Lib.hid (HVp.out.below hbd)
      replace hB := Below.next hB hbd
      replace HRu := Lib.hid (HRu.out.keep (keeps_of hbd))
      replace HRv := Lib.hid (HRv.out.keep (keeps_of hbd))
      clear hbd
      refine wp_region_planR [] (lessB wv.drew.heap.size) anyW (lessB_trans _) anyW_trans (.one [] [] 0 (.one [1, 2, 3, 5, 8, 9] [] 4 (.one [] [] 6 (.one [] [] 7 (.one [] [] 10 (.one [11, 12, 13] [] 14 (.last [15, 16, 17, 18] []))))))) (by kernel_rfl) (by kernel_rfl) (fun _ _ d _ _ h => by cases d <;> exact h) ?_
      generalize hWd : wv.drew = wd2 at *
      clear hWd
      have HLa := Lib.hid HVa.out.lt
      have HLb := Lib.hid HVb.out.lt
      have HLp := Lib.hid HVp.out.lt
      unfold wpPlanR
      simp only [pickOps, opAt, List.map_nil, List.getElem?_toArray, List.getElem?_cons_zero, Option.getD_some]
      repeat (go_big_quiet_step (fail))
      refine wpQuiet_nil ?_
      repeat (go_big_quiet_step (fail))
      refine wpQuiet_nil ?_
      go_wp2_with fail
      refine (begun4_any _).mono ?_
      rintro e wb ⟨rfl, hb⟩
      go_wp2_with fail
      refine ⟨⟨fun _ => lessB_of hb (Nat.le_refl _), trivial⟩, ?_⟩
      have hle1 := hb.size
      replace HSa := Lib.hid (HSa.out.keep (keeps_of hb))
      replace HVa := Lib.hid (HVa.out.below hb)
      replace HSb := Lib.hid (HSb.out.keep (keeps_of hb))
      replace HVb := Lib.hid (HVb.out.below hb)
      replace HSp := Lib.hid (HSp.out.keep (keeps_of hb))
      replace HVp := Lib.hid (HVp.out.below hb)
      replace hB := Below.next hB hb
      replace HRu := Lib.hid (HRu.out.keep (keeps_of hb))
      replace HRv := Lib.hid (HRv.out.keep (keeps_of hb))
      clear hb
      have qa : ∀ (y : LaterR (lessB wd2.heap.size) wb) z, (afterR (lessB wd2.heap.size) wb y).cell? ⟨Va, z, none⟩ = (#[.int .i64 (ma : Int), .bool fa, .slice Aa na ca] : Array Value)[z]? := fun y z => y.cell (HVa.out.cell z) (fun W h => (keep_blk HVa.out h HLa.out).cell z)
      have qp : ∀ (y : LaterR (lessB wd2.heap.size) wb) z, (afterR (lessB wd2.heap.size) wb y).cell? ⟨Vp, z, none⟩ = (#[.int .i64 xp, .bool fp, .slice Ap np cp] : Array Value)[z]? := fun y z => y.cell (HVp.out.cell z) (fun W h => (keep_blk HVp.out h HLp.out).cell z)
      unfold wpPlanR
      simp only [pickOps, opAt, List.map_cons, List.map_nil, List.getElem?_toArray, List.getElem?_cons_zero, List.getElem?_cons_succ, Option.getD_some]
      repeat (go_big_quiet_step (fail))
      refine wpQuiet_nil ?_
      repeat (go_big_quiet_step (fail))
      refine wpQuiet_nil ?_
      clear qa qp
      go_wp2_with fail
      refine (copy_any ((Bu, mu, cu), lu) _ ⟨HRu.out, HNu.out.1, HNu.out.2.1, HNu.out.2.2⟩ (by show mu ≤ 4398046511104; omega)).mono ?_
      rintro e wy ⟨A8, c8, rfl, hown8, hby⟩
      go_wp2_with fail
      refine ⟨⟨fun _ => lessB_of hby hle1, trivial⟩, ?_⟩
      have HOW8 := Lib.hid hown8
      have HRv8 := Lib.hid (HRv.out.keep (keeps_of hby))
      clear hown8
      unfold wpPlanR
      simp only [pickOps, opAt, List.map_nil, List.getElem?_toArray, List.getElem?_cons_zero, List.getElem?_cons_succ, Option.getD_some]
      repeat (go_big_quiet_step (fail))
      refine wpQuiet_nil ?_
      repeat (go_big_quiet_step (fail))
      refine wpQuiet_nil ?_
      have hby1 := hby.size
      have hnv := HNv.out.1
      go_wp2_with (at_builtin; refine wpList_unguard (by rfl) ?_; refine wpList_append_sf (cs := Vl.cs) wy (by rfl) _ (.tmp 73) _ (by rfl) wb.heap.size 67 i0 _ 3 32 Tryz.underlying46 hi0 hz0 hz1 hz2 (by rfl) (by omega) (.slice A8 mu c8) mu lu (by rfl) HOW8.out Bv mv cv lv (by rfl) HRv8.out hnv Vl.cs_len one_vl (by simp only [maxLen]; omega) (by omega) hby1 ?_; intro A9 c9 w9 hown9 hg9 hB9 hat9 hnl9)
      refine ⟨⟨fun _ => lessB_of hB9 hle1, trivial⟩, ?_⟩
      have HRow := Lib.hid (Sl.of_own Vl.cs_len (l := lu ++ lv) (by rw [List.length_append, HLu.out, HLv.out, hmu9.out, hmv9.out]) hown9)
      have hb : Below wb.heap.size wb w9 := lessB_trans _ _ _ _ hby hB9
      replace HSa := Lib.hid (HSa.out.keep (keeps_of hb))
      replace HVa := Lib.hid (HVa.out.below hb)
      replace HSb := Lib.hid (HSb.out.keep (keeps_of hb))
      replace HVb := Lib.hid (HVb.out.below hb)
      replace HSp := Lib.hid (HSp.out.keep (keeps_of hb))
      replace HVp := Lib.hid (HVp.out.below hb)
      replace hB := Below.next hB hb
      replace HRu := Lib.hid (HRu.out.keep (keeps_of hb))
      replace HRv := Lib.hid (HRv.out.keep (keeps_of hb))
      have hle9 : wd2.heap.size ≤ w9.heap.size := Nat.le_trans hle1 hb.size
      clear hb hby hB9 hg9 hat9 hnl9 hown9 HOW8 HRv8 hnv hby1
      cases da <;> cases db
      all_goals
        unfold wpPlanR
        simp only [pickOps, opAt, List.map_nil, List.getElem?_toArray, List.getElem?_cons_zero, List.getElem?_cons_succ, Option.getD_some]
        repeat (go_big_quiet_step (fail))
        refine wpQuiet_nil ?_
        repeat (go_big_quiet_step (fail))
        refine wpQuiet_nil ?_
        go_wp2_with fail
        refine (ghas_any rp xp fp Ap np cp (lu ++ lv) A9 (mu + mv) c9 _ HSp.out HRow.out).mono ?_
        rintro e w71 ⟨rfl, hb⟩
        rw [HPH.out]
        go_wp2_with fail
        refine ⟨⟨fun _ => lessB_of hb hle9, trivial⟩, ?_⟩
        have hle71 : wd2.heap.size ≤ w71.heap.size := Nat.le_trans hle9 hb.size
        replace HSa := Lib.hid (HSa.out.keep (keeps_of hb))
        replace HVa := Lib.hid (HVa.out.below hb)
        replace HSb := Lib.hid (HSb.out.keep (keeps_of hb))
        replace HVb := Lib.hid (HVb.out.below hb)
        replace HSp := Lib.hid (HSp.out.keep (keeps_of hb))
        replace HVp := Lib.hid (HVp.out.below hb)
        replace hB := Below.next hB hb
        replace HRu := Lib.hid (HRu.out.keep (keeps_of hb))
        replace HRv := Lib.hid (HRv.out.keep (keeps_of hb))
        clear hb
        clear HRow
        unfold wpPlanR
        simp only [pickOps, opAt, List.map_nil, List.getElem?_toArray, List.getElem?_cons_zero, List.getElem?_cons_succ, Option.getD_some]
        repeat (go_big_quiet_step (fail))
        refine wpQuiet_nil ?_
        repeat (go_big_quiet_step (fail))
        refine wpQuiet_nil ?_
        go_wp2_with fail
        refine (ghas_any ra (ma : Int) fa Aa na ca lu Bu mu cu _ HSa.out HRu.out).mono ?_
        rintro e w72 ⟨rfl, hb⟩
        rw [Hda.out]
        go_wp2_with fail
        refine ⟨⟨fun _ => lessB_of hb hle71, trivial⟩, ?_⟩
        have hle72 : wd2.heap.size ≤ w72.heap.size := Nat.le_trans hle71 hb.size
        replace HSa := Lib.hid (HSa.out.keep (keeps_of hb))
        replace HVa := Lib.hid (HVa.out.below hb)
        replace HSb := Lib.hid (HSb.out.keep (keeps_of hb))
        replace HVb := Lib.hid (HVb.out.below hb)
        replace HSp := Lib.hid (HSp.out.keep (keeps_of hb))
        replace HVp := Lib.hid (HVp.out.below hb)
        replace hB := Below.next hB hb
        replace HRu := Lib.hid (HRu.out.keep (keeps_of hb))
        replace HRv := Lib.hid (HRv.out.keep (keeps_of hb))
        clear hb
        have qb : ∀ (y : LaterR (lessB wd2.heap.size) w72) z, (afterR (lessB wd2.heap.size) w72 y).cell? ⟨Vb, z, none⟩ = (#[.int .i64 (mb : Int), .bool fb, .slice Ab nb cb] : Array Value)[z]? := fun y z => y.cell (HVb.out.cell z) (fun W h => (keep_blk HVb.out h HLb.out).cell z)
        unfold wpPlanR
        simp only [pickOps, opAt, List.map_cons, List.map_nil, List.getElem?_toArray, List.getElem?_cons_zero, List.getElem?_cons_succ, Option.getD_some]
        repeat (go_big_quiet_step (fail))
        refine wpQuiet_nil ?_
        repeat (go_big_quiet_step (fail))
        refine wpQuiet_nil ?_
        clear qb
        first
          | go_wp2_with fail
            refine (ghas_any rb (mb : Int) fb Ab nb cb lv Bv mv cv _ HSb.out HRv.out).mono ?_
            rintro e w73 ⟨rfl, hb⟩
            rw [Hdb.out]
            go_wp2_with fail
            refine ⟨⟨fun _ => lessB_of hb hle72, trivial⟩, ?_⟩
            replace hB := Below.next hB hb
            unfold wpPlanR
            simp only [pickOps, opAt, List.map_cons, List.map_nil, List.getElem?_toArray, List.getElem?_cons_zero, List.getElem?_cons_succ, Option.getD_some]
            repeat (go_big_quiet_step (fail))
            refine wpQuiet_nil ?_
            repeat (go_big_quiet_step (fail))
            refine wpQuiet_nil ?_
            go_wp2
            go_ret
            exact ⟨rfl, hB⟩
          | go_wp2_with fail
            refine ⟨⟨fun _ => lessB_of (Below.refl _ _) hle72, trivial⟩, ?_⟩
            unfold wpPlanR
            simp only [pickOps, opAt, List.map_cons, List.map_nil, List.getElem?_toArray, List.getElem?_cons_zero, List.getElem?_cons_succ, Option.getD_some]
            repeat (go_big_quiet_step (fail))
            refine wpQuiet_nil ?_
            repeat (go_big_quiet_step (fail))
            refine wpQuiet_nil ?_
            go_wp2
            go_ret
            exact ⟨rfl, hB⟩
end Go.Proofs.YtnocbigcdjlliaaGreat
