import Derived.Test.YtjlbnbljimmbeaaSpoilt
namespace Go.Proofs.Ytjlbnbljimmbeaa
open Go.RowKit

theorem valid_ord {l : List Iv} (h : validL l = true) : ordFrom none l = true := by
  unfold validL at h
  rw [Bool.and_eq_true] at h
  exact h.2
theorem do_comb {k : Int} {op : Bool → Bool → Bool} (hk : opR k = op) (hop : op false false = false) (a b : List Iv) : doL (opR k) a b = combineL op a b := by
  unfold doL combineL
  rw [hk]
  by_cases h : (validL a && validL b) = true
  · rw [if_pos h, if_pos h]
    rw [Bool.and_eq_true] at h
    rw [comb_merge op hop (valid_ord h.1) (valid_ord h.2)]
  · rw [if_neg h, if_neg h]
theorem covers_comb (a b : List Iv) : rcoversL a b = coversL a b := by
  unfold rcoversL coversL
  by_cases h : (validL a && validL b) = true
  · rw [if_pos h, if_pos h]
    rw [Bool.and_eq_true] at h
    rw [show opR 3 = opM from rfl, comb_merge opM rfl (valid_ord h.2) (valid_ord h.1)]
  · rw [if_neg h, if_neg h]
theorem comb_le (op : Bool → Bool → Bool) (a b : List Iv) : (combineL op a b).1.length ≤ 1000000 := by
  unfold combineL
  by_cases h : (validL a && validL b) = true
  · rw [if_pos h]
    by_cases h2 : (mergeL op a b).length ≤ 64
    · rw [if_pos h2]
      show (mergeL op a b).length ≤ 1000000
      omega
    · rw [if_neg h2]
      simp
  · rw [if_neg h]
    simp
/-- what stays in the law over four lists -/
structure CSt (w : World) (L : Nat) (A1 : Option Addr) (n1 c1 : Nat) (l1 : List Iv) (A2 : Option Addr) (n2 c2 : Nat) (l2 : List Iv) (A3 : Option Addr) (n3 c3 : Nat) (l3 : List Iv) (A4 : Option Addr) (n4 c4 : Nat) (l4 : List Iv) (wr : World) : Prop where
  ls : Blk wr L 22 #[.slice A1 n1 c1, .slice A2 n2 c2, .slice A3 n3 c3, .slice A4 n4 c4]
  s1 : IvS wr A1 n1 l1
  s2 : IvS wr A2 n2 l2
  s3 : IvS wr A3 n3 l3
  s4 : IvS wr A4 n4 l4
  bl : Below w.heap.size w wr
section
variable {w : World} {L : Nat} {A1 : Option Addr} {n1 c1 : Nat} {l1 : List Iv} {A2 : Option Addr} {n2 c2 : Nat} {l2 : List Iv} {A3 : Option Addr} {n3 c3 : Nat} {l3 : List Iv} {A4 : Option Addr} {n4 c4 : Nat} {l4 : List Iv} {wr wr' : World}
theorem CSt.below (h : CSt w L A1 n1 c1 l1 A2 n2 c2 l2 A3 n3 c3 l3 A4 n4 c4 l4 wr) (hb : Below wr.heap.size wr wr') : CSt w L A1 n1 c1 l1 A2 n2 c2 l2 A3 n3 c3 l3 A4 n4 c4 l4 wr' :=
  ⟨h.ls.below hb, h.s1.keep (keeps_of hb), h.s2.keep (keeps_of hb), h.s3.keep (keeps_of hb), h.s4.keep (keeps_of hb), Below.next h.bl hb⟩
theorem CSt.at (h : CSt w L A1 n1 c1 l1 A2 n2 c2 l2 A3 n3 c3 l3 A4 n4 c4 l4 wr) {k : Nat} (hk : k < 4) (hn : n1 ≤ 1000 ∧ n2 ≤ 1000 ∧ n3 ≤ 1000 ∧ n4 ≤ 1000) : ∃ (A : Option Addr) (n c : Nat) (l : List Iv), wr.cell? ⟨L, k, none⟩ = some (.slice A n c) ∧ IvS wr A n l ∧ n ≤ 1000 := by
  have hk3 : k = 0 ∨ k = 1 ∨ k = 2 ∨ k = 3 := by omega
  rcases hk3 with rfl | rfl | rfl | rfl
  · exact ⟨A1, n1, c1, l1, h.ls.cell 0, h.s1, hn.1⟩
  · exact ⟨A2, n2, c2, l2, h.ls.cell 1, h.s2, hn.2.1⟩
  · exact ⟨A3, n3, c3, l3, h.ls.cell 2, h.s3, hn.2.2.1⟩
  · exact ⟨A4, n4, c4, l4, h.ls.cell 3, h.s4, hn.2.2.2⟩
end
set_option maxRecDepth 100000 in
set_option maxHeartbeats 8000000 in
theorem combines_walk (A : Option Addr) (n c : Nat) (zs : List Int) (B : Option Addr) (m cb : Nat) (raw : List Iv) (w : World) (hs : Sl 1 u8c w A n zs) (hz : ∀ z ∈ zs, 0 ≤ z ∧ z ≤ 255) (hnil : A = none → n = 0 ∧ c = 0) (hsp : ∀ ad, A = some ad → ad.spot = none) (hnc : n ≤ c) (hcm : c ≤ 9223372036854775807)
    (hr : IvS w B m raw) (hmc : m ≤ cb) (hcb : cb ≤ 9223372036854775807) :
    Calls Try.prog 7 #[.slice A n c, .slice B m cb] w fun e w' => e = .returned (.bool true) ∧ Below w.heap.size w w' := by
  have HS := Lib.hid hs
  have HR := Lib.hid hr
  have HZ := Lib.hid hz
  have HN := Lib.hid hnil
  have HP := Lib.hid hsp
  clear hs hz hnil hsp hr
  go_enter Try.func7, Try.ntmps7
  go_wp2_with fail
  refine (new_any A n c zs 120 _ HS.out HZ.out HN.out HP.out hnc hcm (by omega)).mono ?_
  rintro e w1 ⟨g, hwg, rfl, hc1, hB1⟩
  have HR1 := Lib.hid (HR.out.keep (keeps_of hB1))
  clear HS HZ HN HP HR
  have key : ∃ M : Nat, M ≤ 80 ∧ M ≤ m ∧ min (m : Int) 80 = (M : Int) := ⟨min m 80, by omega, by omega, by omega⟩
  obtain ⟨M, hM80, hMm, hMe⟩ := key
  have HRM := Lib.hid (HR1.out.take M hMm)
  clear HR1
  go_wp2_with fail
  refine wp_region_segS (fun k => k = g) [([0, 2, 4, 6, 7, 8, 9, 10], 1), ([], 3), ([], 5), ([], 11)] [12] (by kernel_rfl) (by kernel_rfl) (fun _ _ d _ _ h => by cases d <;> exact h) ?_
  simp only [pickSegs, pickOps, opAt, List.map_cons, List.map_nil, List.getElem?_toArray, List.getElem?_cons_zero, List.getElem?_cons_succ, Option.getD_some]
  unfold wpBlocksS
  repeat (go_big_quiet_step (fail))
  refine wpQuiet_nil ?_
  clear hMe
  have hD : Below w1.heap.size w1 w1.drew := (Below.refl _ _).drew
  replace hc1 := hc1.below hD
  replace HRM := Lib.hid (HRM.out.keep (keeps_of hD))
  replace hB1 := Below.next hB1 hD
  clear hD
  go_wp2_with fail
  refine (cinterval_any g _ hc1).mono ?_
  rintro e w2 ⟨l1, A1, c1, hG1, rfl, hS1, hN1, hP1, hc2, hb2⟩
  have hl1 := hG1.len
  have HS1 := Lib.hid hS1
  replace HRM := Lib.hid (HRM.out.but hb2 (iv_ne hc1 HRM.out))
  replace hB1 := hb2.below hB1 hB1.size (fun k hk => by subst hk; exact hwg)
  clear hG1 hS1 hN1 hP1 hc1
  go_wp2_with fail
  refine ⟨hb2, ?_⟩
  clear hb2
  unfold wpBlocksS
  refine wpQuiet_nil ?_
  go_wp2_with fail
  refine (cinterval_any g _ hc2).mono ?_
  rintro e w3 ⟨l2, A2, c2, hG2, rfl, hS2, hN2, hP2, hc3, hb3⟩
  have hl2 := hG2.len
  have HS2 := Lib.hid hS2
  replace HRM := Lib.hid (HRM.out.but hb3 (iv_ne hc2 HRM.out))
  replace HS1 := Lib.hid (HS1.out.but hb3 (iv_ne hc2 HS1.out))
  replace hB1 := hb3.below hB1 hB1.size (fun k hk => by subst hk; exact hwg)
  clear hG2 hS2 hN2 hP2 hc2
  go_wp2_with fail
  refine ⟨hb3, ?_⟩
  clear hb3
  unfold wpBlocksS
  refine wpQuiet_nil ?_
  go_wp2_with fail
  refine (spoilt_any g _ hc3).mono ?_
  rintro e w4 ⟨l3, A3, c3, hl3, rfl, hS3, hc4, hb4⟩
  have HS3 := Lib.hid hS3
  replace HRM := Lib.hid (HRM.out.but hb4 (iv_ne hc3 HRM.out))
  replace HS1 := Lib.hid (HS1.out.but hb4 (iv_ne hc3 HS1.out))
  replace HS2 := Lib.hid (HS2.out.but hb4 (iv_ne hc3 HS2.out))
  replace hB1 := hb4.below hB1 hB1.size (fun k hk => by subst hk; exact hwg)
  clear hS3 hc3 hc4
  go_wp2_with fail
  refine ⟨hb4, ?_⟩
  clear hb4
  unfold wpBlocksS
  refine wpQuiet_nil ?_
  go_wp2_with fail
  refine ⟨But.alloc _ _, ?_⟩
  have hA4 := (Below.refl w4.heap.size w4).alloc (Nat.le_refl _) (.cells #[.slice A1 l1.length c1, .slice A2 l2.length c2, .slice A3 l3.length c3, .slice B M cb] 22)
  have hF : CSt w w4.heap.size A1 l1.length c1 l1 A2 l2.length c2 l2 A3 l3.length c3 l3 B M cb (raw.take M) (w4.alloc (.cells #[.slice A1 l1.length c1, .slice A2 l2.length c2, .slice A3 l3.length c3, .slice B M cb] 22)) :=
    ⟨Blk.new w4 22 #[.slice A1 l1.length c1, .slice A2 l2.length c2, .slice A3 l3.length c3, .slice B M cb], HS1.out.keep (keeps_of hA4), HS2.out.keep (keeps_of hA4), HS3.out.keep (keeps_of hA4), HRM.out.keep (keeps_of hA4), Below.next hB1 hA4⟩
  have HF := Lib.hid hF
  have HLN : Hid (l1.length ≤ 1000 ∧ l2.length ≤ 1000 ∧ l3.length ≤ 1000 ∧ M ≤ 1000) := Lib.hid ⟨by omega, by omega, by omega, by omega⟩
  clear hF hA4 hB1 HS1 HS2 HS3 HRM
  generalize (w4.alloc (.cells #[.slice A1 l1.length c1, .slice A2 l2.length c2, .slice A3 l3.length c3, .slice B M cb] 22)) = W4 at *
  generalize w4.heap.size = L at *
  unfold wpBlocksS
  repeat (go_big_quiet_step (fail))
  refine wpQuiet_nil ?_
  go_wp2_with fail
  go_loopw [47] (fun i wr => ∃ k : Nat, k ≤ 4 ∧ i = .int .i64 (k : Int) ∧ CSt w L A1 l1.length c1 l1 A2 l2.length c2 l2 A3 l3.length c3 l3 B M cb (raw.take M) wr) (fun i _ => 4 - (intOf i).toNat)
  case atStart => exact ⟨0, by omega, rfl, HF.out⟩
  case round =>
    obtain ⟨k, hk, rfl, hF⟩ := hrel
    clear HF
    by_cases hlt : k < 4
    · obtain ⟨Al, nl, cl, l, hcell, hSl, hnl⟩ := hF.at hlt HLN.out
      have HF := Lib.hid hF
      have HSl := Lib.hid hSl
      clear hF hSl
      go_wp2_with fail
      clear hcell
      refine (complement_any Al nl cl l _ HSl.out).mono ?_
      rintro e w101 ⟨Ax, cx, rfl, hSx, hb101⟩
      have HSx := Lib.hid hSx
      clear hSx
      obtain ⟨rC, HrC⟩ : ∃ r, Hid (combineL opM allL l = r) := ⟨_, rfl⟩
      have hleC : rC.1.length ≤ 1000000 := by rw [← HrC.out]; exact comb_le _ _ _
      rw [HrC.out] at HSx ⊢
      replace HF := Lib.hid (HF.out.below hb101)
      replace HSl := Lib.hid (HSl.out.keep (keeps_of hb101))
      clear hb101
      go_wp2_with fail
      refine (rcomplement_any Al nl cl l _ HSl.out (by omega)).mono ?_
      rintro e w102 ⟨Ay, cy, rfl, hSy, hb102⟩
      have HSy := Lib.hid hSy
      clear hSy
      rw [do_comb (show opR 3 = opM from rfl) rfl] at HSy ⊢
      rw [HrC.out] at HSy ⊢
      replace HF := Lib.hid (HF.out.below hb102)
      replace HSl := Lib.hid (HSl.out.keep (keeps_of hb102))
      replace HSx := Lib.hid (HSx.out.keep (keeps_of hb102))
      clear hb102
      go_wp2_with fail
      refine (same_self HSx.out HSy.out hleC).mono ?_
      rintro e w103 ⟨rfl, hb103⟩
      replace HF := Lib.hid (HF.out.below hb103)
      replace HSl := Lib.hid (HSl.out.keep (keeps_of hb103))
      clear hb103
      clear HSx HSy HrC hleC
      go_wp2_with fail
      go_loopw [72] (fun i wq => ∃ j : Nat, j ≤ 4 ∧ i = .int .i64 (j : Int) ∧ CSt w L A1 l1.length c1 l1 A2 l2.length c2 l2 A3 l3.length c3 l3 B M cb (raw.take M) wq ∧ IvS wq Al nl l) (fun i _ => 4 - (intOf i).toNat)
      case atStart => exact ⟨0, by omega, rfl, HF.out, HSl.out⟩
      case round =>
        obtain ⟨j, hj, rfl, hF, hSl⟩ := hrel
        clear HF HSl
        have HSl := Lib.hid hSl
        clear hSl
        by_cases hlm : j < 4
        · obtain ⟨Am, nm, cm, b, hcell, hSm, hnm⟩ := hF.at hlm HLN.out
          have HF := Lib.hid hF
          have HSm := Lib.hid hSm
          clear hF hSm
          go_wp2_with fail
          clear hcell
          refine (union_any Al Am nl nm cl cm l b _ HSl.out HSm.out).mono ?_
          rintro e w104 ⟨Au, cu, rfl, hSu, hb104⟩
          have HSu := Lib.hid hSu
          clear hSu
          obtain ⟨rU, HrU⟩ : ∃ r, Hid (combineL opU l b = r) := ⟨_, rfl⟩
          have hleU : rU.1.length ≤ 1000000 := by rw [← HrU.out]; exact comb_le _ _ _
          rw [HrU.out] at HSu ⊢
          replace HF := Lib.hid (HF.out.below hb104)
          replace HSl := Lib.hid (HSl.out.keep (keeps_of hb104))
          replace HSm := Lib.hid (HSm.out.keep (keeps_of hb104))
          clear hb104
          go_wp2_with fail
          refine (runion_any Al Am nl nm cl cm l b _ HSl.out HSm.out (by omega) (by omega)).mono ?_
          rintro e w105 ⟨Av, cv, rfl, hSv, hb105⟩
          have HSv := Lib.hid hSv
          clear hSv
          rw [do_comb (show opR 1 = opU from rfl) rfl] at HSv ⊢
          rw [HrU.out] at HSv ⊢
          replace HF := Lib.hid (HF.out.below hb105)
          replace HSl := Lib.hid (HSl.out.keep (keeps_of hb105))
          replace HSm := Lib.hid (HSm.out.keep (keeps_of hb105))
          replace HSu := Lib.hid (HSu.out.keep (keeps_of hb105))
          clear hb105
          go_wp2_with fail
          refine (intersect_any Al Am nl nm cl cm l b _ HSl.out HSm.out).mono ?_
          rintro e w106 ⟨Ap, cp, rfl, hSp, hb106⟩
          have HSp := Lib.hid hSp
          clear hSp
          obtain ⟨rI, HrI⟩ : ∃ r, Hid (combineL opI l b = r) := ⟨_, rfl⟩
          have hleI : rI.1.length ≤ 1000000 := by rw [← HrI.out]; exact comb_le _ _ _
          rw [HrI.out] at HSp ⊢
          replace HF := Lib.hid (HF.out.below hb106)
          replace HSl := Lib.hid (HSl.out.keep (keeps_of hb106))
          replace HSm := Lib.hid (HSm.out.keep (keeps_of hb106))
          replace HSu := Lib.hid (HSu.out.keep (keeps_of hb106))
          replace HSv := Lib.hid (HSv.out.keep (keeps_of hb106))
          clear hb106
          go_wp2_with fail
          refine (rintersect_any Al Am nl nm cl cm l b _ HSl.out HSm.out (by omega) (by omega)).mono ?_
          rintro e w107 ⟨Aq, cq, rfl, hSq, hb107⟩
          have HSq := Lib.hid hSq
          clear hSq
          rw [do_comb (show opR 2 = opI from rfl) rfl] at HSq ⊢
          rw [HrI.out] at HSq ⊢
          replace HF := Lib.hid (HF.out.below hb107)
          replace HSl := Lib.hid (HSl.out.keep (keeps_of hb107))
          replace HSm := Lib.hid (HSm.out.keep (keeps_of hb107))
          replace HSu := Lib.hid (HSu.out.keep (keeps_of hb107))
          replace HSv := Lib.hid (HSv.out.keep (keeps_of hb107))
          replace HSp := Lib.hid (HSp.out.keep (keeps_of hb107))
          clear hb107
          go_wp2_with fail
          refine (minus_any Al Am nl nm cl cm l b _ HSl.out HSm.out).mono ?_
          rintro e w108 ⟨Ad, cd, rfl, hSd, hb108⟩
          have HSd := Lib.hid hSd
          clear hSd
          obtain ⟨rM, HrM⟩ : ∃ r, Hid (combineL opM l b = r) := ⟨_, rfl⟩
          have hleM : rM.1.length ≤ 1000000 := by rw [← HrM.out]; exact comb_le _ _ _
          rw [HrM.out] at HSd ⊢
          replace HF := Lib.hid (HF.out.below hb108)
          replace HSl := Lib.hid (HSl.out.keep (keeps_of hb108))
          replace HSm := Lib.hid (HSm.out.keep (keeps_of hb108))
          replace HSu := Lib.hid (HSu.out.keep (keeps_of hb108))
          replace HSv := Lib.hid (HSv.out.keep (keeps_of hb108))
          replace HSp := Lib.hid (HSp.out.keep (keeps_of hb108))
          replace HSq := Lib.hid (HSq.out.keep (keeps_of hb108))
          clear hb108
          go_wp2_with fail
          refine (rminus_any Al Am nl nm cl cm l b _ HSl.out HSm.out (by omega) (by omega)).mono ?_
          rintro e w109 ⟨Af, cf, rfl, hSf, hb109⟩
          have HSf := Lib.hid hSf
          clear hSf
          rw [do_comb (show opR 3 = opM from rfl) rfl] at HSf ⊢
          rw [HrM.out] at HSf ⊢
          replace HF := Lib.hid (HF.out.below hb109)
          replace HSl := Lib.hid (HSl.out.keep (keeps_of hb109))
          replace HSm := Lib.hid (HSm.out.keep (keeps_of hb109))
          replace HSu := Lib.hid (HSu.out.keep (keeps_of hb109))
          replace HSv := Lib.hid (HSv.out.keep (keeps_of hb109))
          replace HSp := Lib.hid (HSp.out.keep (keeps_of hb109))
          replace HSq := Lib.hid (HSq.out.keep (keeps_of hb109))
          replace HSd := Lib.hid (HSd.out.keep (keeps_of hb109))
          clear hb109
          go_wp2_with fail
          refine (covers_any Al Am nl nm cl cm l b _ HSl.out HSm.out).mono ?_
          rintro e w110 ⟨rfl, hb110⟩
          obtain ⟨⟨cvb, cve⟩, HrV⟩ : ∃ r, Hid (coversL l b = r) := ⟨_, rfl⟩
          rw [HrV.out]
          dsimp only
          replace HF := Lib.hid (HF.out.below hb110)
          replace HSl := Lib.hid (HSl.out.keep (keeps_of hb110))
          replace HSm := Lib.hid (HSm.out.keep (keeps_of hb110))
          replace HSu := Lib.hid (HSu.out.keep (keeps_of hb110))
          replace HSv := Lib.hid (HSv.out.keep (keeps_of hb110))
          replace HSp := Lib.hid (HSp.out.keep (keeps_of hb110))
          replace HSq := Lib.hid (HSq.out.keep (keeps_of hb110))
          replace HSd := Lib.hid (HSd.out.keep (keeps_of hb110))
          replace HSf := Lib.hid (HSf.out.keep (keeps_of hb110))
          clear hb110
          go_wp2_with fail
          refine (rcovers_any Al Am nl nm cl cm l b _ HSl.out HSm.out (by omega) (by omega)).mono ?_
          rintro e w111 ⟨rfl, hb111⟩
          rw [covers_comb, HrV.out]
          dsimp only
          clear HrV
          replace HF := Lib.hid (HF.out.below hb111)
          replace HSl := Lib.hid (HSl.out.keep (keeps_of hb111))
          replace HSm := Lib.hid (HSm.out.keep (keeps_of hb111))
          replace HSu := Lib.hid (HSu.out.keep (keeps_of hb111))
          replace HSv := Lib.hid (HSv.out.keep (keeps_of hb111))
          replace HSp := Lib.hid (HSp.out.keep (keeps_of hb111))
          replace HSq := Lib.hid (HSq.out.keep (keeps_of hb111))
          replace HSd := Lib.hid (HSd.out.keep (keeps_of hb111))
          replace HSf := Lib.hid (HSf.out.keep (keeps_of hb111))
          clear hb111
          have hcv : (cvb != cvb) = false := by simp
          go_wp2_with fail
          clear hcv
          refine (same_self HSu.out HSv.out hleU).mono ?_
          rintro e w112 ⟨rfl, hb112⟩
          replace HF := Lib.hid (HF.out.below hb112)
          replace HSl := Lib.hid (HSl.out.keep (keeps_of hb112))
          replace HSm := Lib.hid (HSm.out.keep (keeps_of hb112))
          replace HSu := Lib.hid (HSu.out.keep (keeps_of hb112))
          replace HSv := Lib.hid (HSv.out.keep (keeps_of hb112))
          replace HSp := Lib.hid (HSp.out.keep (keeps_of hb112))
          replace HSq := Lib.hid (HSq.out.keep (keeps_of hb112))
          replace HSd := Lib.hid (HSd.out.keep (keeps_of hb112))
          replace HSf := Lib.hid (HSf.out.keep (keeps_of hb112))
          clear hb112
          go_wp2_with fail
          refine (same_self HSp.out HSq.out hleI).mono ?_
          rintro e w113 ⟨rfl, hb113⟩
          replace HF := Lib.hid (HF.out.below hb113)
          replace HSl := Lib.hid (HSl.out.keep (keeps_of hb113))
          replace HSm := Lib.hid (HSm.out.keep (keeps_of hb113))
          replace HSu := Lib.hid (HSu.out.keep (keeps_of hb113))
          replace HSv := Lib.hid (HSv.out.keep (keeps_of hb113))
          replace HSp := Lib.hid (HSp.out.keep (keeps_of hb113))
          replace HSq := Lib.hid (HSq.out.keep (keeps_of hb113))
          replace HSd := Lib.hid (HSd.out.keep (keeps_of hb113))
          replace HSf := Lib.hid (HSf.out.keep (keeps_of hb113))
          clear hb113
          go_wp2_with fail
          refine (same_self HSd.out HSf.out hleM).mono ?_
          rintro e w114 ⟨rfl, hb114⟩
          replace HF := Lib.hid (HF.out.below hb114)
          replace HSl := Lib.hid (HSl.out.keep (keeps_of hb114))
          replace HSm := Lib.hid (HSm.out.keep (keeps_of hb114))
          replace HSu := Lib.hid (HSu.out.keep (keeps_of hb114))
          replace HSv := Lib.hid (HSv.out.keep (keeps_of hb114))
          replace HSp := Lib.hid (HSp.out.keep (keeps_of hb114))
          replace HSq := Lib.hid (HSq.out.keep (keeps_of hb114))
          replace HSd := Lib.hid (HSd.out.keep (keeps_of hb114))
          replace HSf := Lib.hid (HSf.out.keep (keeps_of hb114))
          clear hb114
          go_wp2_with fail
          go_roundw
          case rel => exact ⟨j + 1, by omega, by go_num, HF.out, HSl.out⟩
          case measure => simp [intOf]; omega
        · obtain rfl : j = 4 := by omega
          go_wp2_with fail
          go_roundw
          case rel => exact ⟨k + 1, by omega, by go_num, hF⟩
          case measure => simp [intOf]; omega
    · go_wp2_with fail
      refine (begun_any _).mono ?_
      rintro e w5 ⟨rfl, hb5⟩
      go_wp2
      go_ret
      exact ⟨rfl, Below.next hF.bl hb5⟩
end Go.Proofs.Ytjlbnbljimmbeaa
