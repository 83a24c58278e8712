import Derived.Test.YtjlbnbljimmbeaaSpoilt
namespace Go.Proofs.Ytjlbnbljimmbeaa
open Go.RowKit

theorem run_neqV_self (xk xi : Int) (xt : ByteArray) (w : World) : (binOp .neq 24 (.agg #[.int .i64 xk, .int .i64 xi, .string xt]) (.agg #[.int .i64 xk, .int .i64 xi, .string xt])).run Try.prog w = .ok (.bool false) w := by
  have h1 : (xk == xk) = true := by simp
  have h2 : (xi == xi) = true := by simp
  have h3 : (xt.toList == xt.toList) = true := by simp
  simp [go_sem, h1, h2, h3]
/-- what stays in the law over three lists -/
structure FSt (w : World) (g zb L : Nat) (vk vi : Int) (vt : ByteArray) (A1 : Option Addr) (n1 c1 : Nat) (l1 : List Iv) (A2 : Option Addr) (n2 c2 : Nat) (l2 : List Iv) (A3 : Option Addr) (n3 c3 : Nat) (l3 : List Iv) (wr : World) : Prop where
  cs : CaseAt wr g
  vb : Blk wr zb 24 #[.int .i64 vk, .int .i64 vi, .string vt]
  ls : Blk wr L 22 #[.slice A1 n1 c1, .slice A2 n2 c2, .slice A3 n3 c3]
  s1 : IvS wr A1 n1 l1
  s2 : IvS wr A2 n2 l2
  s3 : IvS wr A3 n3 l3
  bl : Below w.heap.size w wr
  hg : w.heap.size ≤ g ∧ ¬ zb = g ∧ ¬ L = g
section
variable {w : World} {g zb L : Nat} {vk vi : Int} {vt : ByteArray} {A1 : Option Addr} {n1 c1 : Nat} {l1 : List Iv} {A2 : Option Addr} {n2 c2 : Nat} {l2 : List Iv} {A3 : Option Addr} {n3 c3 : Nat} {l3 : List Iv} {wr wr' : World}
theorem FSt.below (h : FSt w g zb L vk vi vt A1 n1 c1 l1 A2 n2 c2 l2 A3 n3 c3 l3 wr) (hb : Below wr.heap.size wr wr') : FSt w g zb L vk vi vt A1 n1 c1 l1 A2 n2 c2 l2 A3 n3 c3 l3 wr' :=
  ⟨h.cs.below hb, h.vb.below hb, h.ls.below hb, h.s1.keep (keeps_of hb), h.s2.keep (keeps_of hb), h.s3.keep (keeps_of hb), Below.next h.bl hb, h.hg⟩
theorem FSt.but (h : FSt w g zb L vk vi vt A1 n1 c1 l1 A2 n2 c2 l2 A3 n3 c3 l3 wr) (hb : But (· = g) wr wr') (hc : CaseAt wr' g) : FSt w g zb L vk vi vt A1 n1 c1 l1 A2 n2 c2 l2 A3 n3 c3 l3 wr' :=
  ⟨hc, h.vb.but hb h.hg.2.1, h.ls.but hb h.hg.2.2, h.s1.but hb (iv_ne h.cs h.s1), h.s2.but hb (iv_ne h.cs h.s2), h.s3.but hb (iv_ne h.cs h.s3), hb.below h.bl h.bl.size (fun k hk => by have := h.hg.1; subst hk; exact this), h.hg⟩
theorem FSt.at (h : FSt w g zb L vk vi vt A1 n1 c1 l1 A2 n2 c2 l2 A3 n3 c3 l3 wr) {k : Nat} (hk : k < 3) (hn : n1 ≤ 1000 ∧ n2 ≤ 1000 ∧ n3 ≤ 1000) : ∃ (A : Option Addr) (n c : Nat) (l : List Iv), wr.cell? ⟨L, k, none⟩ = some (.slice A n c) ∧ IvS wr A n l ∧ n ≤ 1000 := by
  have hk3 : k = 0 ∨ k = 1 ∨ k = 2 := by omega
  rcases hk3 with rfl | rfl | rfl
  · exact ⟨A1, n1, c1, l1, h.ls.cell 0, h.s1, hn.1⟩
  · exact ⟨A2, n2, c2, l2, h.ls.cell 1, h.s2, hn.2.1⟩
  · exact ⟨A3, n3, c3, l3, h.ls.cell 2, h.s3, hn.2.2⟩
end
set_option maxRecDepth 100000 in
set_option maxHeartbeats 8000000 in
theorem forms_walk (A : Option Addr) (n c : Nat) (zs : List Int) (B : Option Addr) (m cb : Nat) (raw : List Iv) (v : Vl) (w : World) (hs : Sl 1 u8c w A n zs) (hz : ∀ z ∈ zs, 0 ≤ z ∧ z ≤ 255) (hnil : A = none → n = 0 ∧ c = 0) (hsp : ∀ ad, A = some ad → ad.spot = none) (hnc : n ≤ c) (hcm : c ≤ 9223372036854775807)
    (hr : IvS w B m raw) (hmc : m ≤ cb) (hcb : cb ≤ 9223372036854775807) :
    Calls Try.prog 4 #[.slice A n c, .slice B m cb, .agg #[.int .i64 v.k, .int .i64 v.i, .string v.t]] w fun e w' => e = .returned (.bool true) ∧ Below w.heap.size w w' := by
  obtain ⟨vk, vi, vt⟩ := v
  have hK0 := keeps_alloc w (.cells #[.int .i64 vk, .int .i64 vi, .string vt] 24)
  have HS := Lib.hid (hs.keep hK0)
  have HR := Lib.hid (hr.keep hK0)
  have HZ := Lib.hid hz
  have HN := Lib.hid hnil
  have HP := Lib.hid hsp
  have HX := Lib.hid (Blk.new w 24 #[.int .i64 vk, .int .i64 vi, .string vt])
  have hB0 := (Below.refl w.heap.size w).alloc (Nat.le_refl _) (.cells #[.int .i64 vk, .int .i64 vi, .string vt] 24)
  clear hs hz hnil hsp hK0 hr
  go_enter Try.func4, Try.ntmps4
  go_wp2_with fail
  refine (new_any A n c zs 90 _ HS.out HZ.out HN.out HP.out hnc hcm (by omega)).mono ?_
  rintro e w1 ⟨g, hg, rfl, hc1, hb1⟩
  have hX1 := HX.out.below hb1
  have hgX : ¬ w.heap.size = g := by have := HX.out.lt; omega
  have hwg : w.heap.size ≤ g := by simp at hg; omega
  have hB1 : Below w.heap.size w w1 := Below.next hB0 hb1
  have HR1 := Lib.hid (HR.out.keep (keeps_of hb1))
  clear HS HZ HN HP HR HX hB0 hb1
  have key : ∃ M : Nat, M ≤ 80 ∧ M ≤ m ∧ min (m : Int) 80 = (M : Int) := ⟨min m 80, by omega, by omega, by omega⟩
  obtain ⟨M, hM80, hMm, hMe⟩ := key
  have HRM := Lib.hid (HR1.out.take M hMm)
  clear HR1
  go_wp2_with fail
  clear hMe
  refine (cinterval_any g _ hc1).mono ?_
  rintro e w2 ⟨l1, A1, c1, hG1, rfl, hS1, hN1, hP1, hc2, hb2⟩
  have hl1 := hG1.len
  have HS1 := Lib.hid hS1
  replace HRM := Lib.hid (HRM.out.but hb2 (iv_ne hc1 HRM.out))
  replace hX1 := hX1.but hb2 hgX
  replace hB1 := hb2.below hB1 hB1.size (fun k hk => by subst hk; exact hwg)
  clear hG1 hS1 hN1 hP1 hc1 hb2
  go_wp2_with fail
  refine (spoilt_any g _ hc2).mono ?_
  rintro e w3 ⟨l2, A2, c2, hl2, rfl, hS2, hc3, hb3⟩
  have HS2 := Lib.hid hS2
  replace HRM := Lib.hid (HRM.out.but hb3 (iv_ne hc2 HRM.out))
  replace HS1 := Lib.hid (HS1.out.but hb3 (iv_ne hc2 HS1.out))
  replace hX1 := hX1.but hb3 hgX
  replace hB1 := hb3.below hB1 hB1.size (fun k hk => by subst hk; exact hwg)
  clear hS2 hc2 hb3
  have hA3 := (Below.refl w3.heap.size w3).alloc (Nat.le_refl _) (.cells #[.slice A1 l1.length c1, .slice A2 l2.length c2, .slice B M cb] 22)
  have hF : FSt w g w.heap.size w3.heap.size vk vi vt A1 l1.length c1 l1 A2 l2.length c2 l2 B M cb (raw.take M) (w3.alloc (.cells #[.slice A1 l1.length c1, .slice A2 l2.length c2, .slice B M cb] 22)) :=
    ⟨hc3.below hA3, hX1.below hA3, Blk.new w3 22 #[.slice A1 l1.length c1, .slice A2 l2.length c2, .slice B M cb], HS1.out.keep (keeps_of hA3), HS2.out.keep (keeps_of hA3), HRM.out.keep (keeps_of hA3), Below.next hB1 hA3, hwg, hgX, by have := hc3.lt; omega⟩
  have HF := Lib.hid hF
  have hlens : l1.length ≤ 1000 ∧ l2.length ≤ 1000 ∧ M ≤ 1000 := ⟨by omega, by omega, by omega⟩
  have HLN := Lib.hid hlens
  clear hF hA3 hB1 HS1 HS2 HRM hX1 hc3 hlens
  go_wp2_with fail
  generalize (w3.alloc (.cells #[.slice A1 l1.length c1, .slice A2 l2.length c2, .slice B M cb] 22)) = W3 at *
  generalize w3.heap.size = L at *
  go_loopw [30] (fun i wr => ∃ k : Nat, k ≤ 3 ∧ i = .int .i64 (k : Int) ∧ FSt w g w.heap.size L vk vi vt A1 l1.length c1 l1 A2 l2.length c2 l2 B M cb (raw.take M) wr) (fun i _ => 3 - (intOf i).toNat)
  case atStart => exact ⟨0, by omega, rfl, HF.out⟩
  case round =>
    obtain ⟨k, hk, rfl, hF⟩ := hrel
    clear HF
    by_cases hlt : k < 3
    · obtain ⟨Al, nl, cl, l, hcell, hSl, hnl⟩ := hF.at hlt HLN.out
      have HF := Lib.hid hF
      have HSl := Lib.hid hSl
      clear hF hSl
      go_wp2_with fail
      clear hcell
      refine (validL_any Al nl cl l _ HSl.out).mono ?_
      rintro e w4 ⟨rfl, hb4⟩
      replace HF := Lib.hid (HF.out.below hb4)
      replace HSl := Lib.hid (HSl.out.keep (keeps_of hb4))
      clear hb4
      obtain ⟨q, Hq⟩ : ∃ q, Hid (validL l = q) := ⟨_, rfl⟩
      rw [Hq.out]
      go_wp2_with fail
      refine (rvalidL_any Al nl cl l _ HSl.out (by omega)).mono ?_
      rintro e w5 ⟨rfl, hb5⟩
      replace HF := Lib.hid (HF.out.below hb5)
      replace HSl := Lib.hid (HSl.out.keep (keeps_of hb5))
      clear hb5
      rw [Hq.out]
      clear Hq
      have hqq : (q != q) = false := by simp
      go_wp2_with fail
      clear hqq
      refine (leastI_any Al nl cl l _ HSl.out (by omega)).mono ?_
      rintro e w6 ⟨rfl, hb6⟩
      replace HF := Lib.hid (HF.out.below hb6)
      replace HSl := Lib.hid (HSl.out.keep (keeps_of hb6))
      clear hb6
      have hxg : ¬ w6.heap.size = g := by have := HF.out.cs.lt; omega
      obtain ⟨⟨⟨xk, xi, xt⟩, ok⟩, Hr⟩ : ∃ r, Hid (leastV l = r) := ⟨_, rfl⟩
      rw [Hr.out]
      dsimp only
      have hA6 := (Below.refl w6.heap.size w6).alloc (Nat.le_refl _) (.cells #[.int .i64 xk, .int .i64 xi, .string xt] 24)
      have hX := Blk.new w6 24 #[.int .i64 xk, .int .i64 xi, .string xt]
      replace HF := Lib.hid (HF.out.below hA6)
      replace HSl := Lib.hid (HSl.out.keep (keeps_of hA6))
      clear hA6
      go_wp2_with fail
      refine (rleast_any Al nl cl l _ HSl.out (by omega)).mono ?_
      rintro e w7 ⟨rfl, hb7⟩
      replace HF := Lib.hid (HF.out.below hb7)
      replace HSl := Lib.hid (HSl.out.keep (keeps_of hb7))
      replace hX := hX.below hb7
      clear hb7
      rw [Hr.out]
      dsimp only
      clear Hr
      have hY := Blk.new w7 24 #[.int .i64 xk, .int .i64 xi, .string xt]
      have hA7 := (Below.refl w7.heap.size w7).alloc (Nat.le_refl _) (.cells #[.int .i64 xk, .int .i64 xi, .string xt] 24)
      replace HF := Lib.hid (HF.out.below hA7)
      replace HSl := Lib.hid (HSl.out.keep (keeps_of hA7))
      replace hX := hX.below hA7
      clear hA7
      have hXc := hX.cell
      have hYc := hY.cell
      have hne := run_neqV_self xk xi xt
      have hoo : (ok != ok) = false := by simp
      have hVc := HF.out.vb.cell
      go_wp2_with fail
      clear hXc hYc hne hoo hVc hY
      generalize (w7.alloc (.cells #[.int .i64 xk, .int .i64 xi, .string xt] 24)) = W8 at *
      generalize w6.heap.size = p at *
      generalize w7.heap.size = p2 at *
      have hXc := hX.cell
      have hVc := HF.out.vb.cell
      have hgz := HF.out.hg.2.1
      have hca := @cell_afterS (fun k => k = g) W8.drew
      refine wp_region_segS (fun k => k = g) [([0, 1, 3, 6], 2), ([], 4)] [5] (by kernel_rfl) (by kernel_rfl) (fun _ _ d _ _ h => by cases d <;> exact h) ?_
      simp only [pickSegs, pickOps, opAt, List.map_cons, List.map_nil, List.getElem?_toArray, List.getElem?_cons_zero, List.getElem?_cons_succ, Option.getD_some]
      unfold wpBlocksS
      repeat (go_big_quiet_step (fail))
      refine wpQuiet_nil ?_
      clear hca hXc hVc
      have hD : Below W8.heap.size W8 W8.drew := (Below.refl _ _).drew
      replace HF := Lib.hid (HF.out.below hD)
      replace HSl := Lib.hid (HSl.out.keep (keeps_of hD))
      replace hX := hX.below hD
      clear hD
      go_wp2_with fail
      refine (any2_any g _ HF.out.cs).mono ?_
      rintro e w9 ⟨⟨⟨qk, qi, qt⟩, hqv, hqr, rfl⟩, hc9, hb9⟩
      clear hqv hqr
      go_wp2_with fail
      refine ⟨hb9, ?_⟩
      replace HSl := Lib.hid (HSl.out.but hb9 (iv_ne HF.out.cs HSl.out))
      replace HF := Lib.hid (HF.out.but hb9 hc9)
      replace hX := hX.but hb9 hxg
      clear hb9 hc9
      unfold wpBlocksS
      refine wpQuiet_nil ?_
      go_wp2_with fail
      refine ⟨But.alloc _ _, ?_⟩
      have hA9 := (Below.refl w9.heap.size w9).alloc (Nat.le_refl _) (.cells #[.int .i64 vk, .int .i64 vi, .string vt, .int .i64 qk, .int .i64 qi, .string qt, .int .i64 xk, .int .i64 xi, .string xt] 24)
      have HM6 := Lib.hid (vl_three (x := ⟨vk, vi, vt⟩) (y := ⟨qk, qi, qt⟩) (z := ⟨xk, xi, xt⟩) (Blk.new w9 24 #[.int .i64 vk, .int .i64 vi, .string vt, .int .i64 qk, .int .i64 qi, .string qt, .int .i64 xk, .int .i64 xi, .string xt]))
      replace HF := Lib.hid (HF.out.below hA9)
      replace HSl := Lib.hid (HSl.out.keep (keeps_of hA9))
      clear hA9 hX
      generalize (w9.alloc (.cells #[.int .i64 vk, .int .i64 vi, .string vt, .int .i64 qk, .int .i64 qi, .string qt, .int .i64 xk, .int .i64 xi, .string xt] 24)) = W6 at *
      generalize w9.heap.size = Mb at *
      unfold wpBlocksS
      repeat (go_big_quiet_step (fail))
      refine wpQuiet_nil ?_
      go_wp2_with fail
      go_loopw [63] (fun i wq => ∃ j : Nat, j ≤ 3 ∧ i = .int .i64 (j : Int) ∧ Below W6.heap.size W6 wq) (fun i _ => 3 - (intOf i).toNat)
      case atStart => exact ⟨0, by omega, rfl, Below.refl _ _⟩
      case round =>
        obtain ⟨j, hj, rfl, hbq⟩ := hrel
        by_cases hlm : j < 3
        · obtain ⟨b2, o2, y, hbo, hy, hyc⟩ := (HM6.out.keep (keeps_of hbq)).at hlm
          injection hbo with hbo
          injection hbo with h1 h2
          subst h1 h2
          obtain ⟨yk, yi, yt⟩ := y
          obtain ⟨c0, c1', c2'⟩ := VlAt.of hyc
          simp only [Nat.zero_add] at c0 c1' c2'
          have hA := (Below.refl wr.heap.size wr).alloc (Nat.le_refl _) (.cells #[.int .i64 yk, .int .i64 yi, .string yt] 24)
          have hQ7 := Blk.new wr 24 #[.int .i64 yk, .int .i64 yi, .string yt]
          have hb7 := hbq.alloc hbq.size (.cells #[.int .i64 yk, .int .i64 yi, .string yt] 24)
          have HS7 := Lib.hid ((HSl.out.keep (keeps_of hbq)).keep (keeps_of hA))
          clear hy hyc hA
          go_wp2_with fail
          generalize (wr.alloc (.cells #[.int .i64 yk, .int .i64 yi, .string yt] 24)) = W7 at *
          generalize wr.heap.size = q7 at *
          clear c0 c1' c2'
          have hQc := hQ7.cell
          have hca := @cell_after W7.drew
          refine wp_region_seg [([0, 1, 3, 4], 2), ([], 5)] [6] (by kernel_rfl) (by kernel_rfl) (fun _ _ d _ _ h => by cases d <;> exact h) ?_
          simp only [pickSegs, pickOps, opAt, List.map_cons, List.map_nil, List.getElem?_toArray, List.getElem?_cons_zero, List.getElem?_cons_succ, Option.getD_some]
          unfold wpBlocks
          repeat (go_big_quiet_step (fail))
          refine wpQuiet_nil ?_
          clear hca hQc
          have hD : Below W7.heap.size W7 W7.drew := (Below.refl _ _).drew
          go_wp2_with fail
          refine (has_any Al nl cl l ⟨yk, yi, yt⟩ _ (HS7.out.keep (keeps_of hD))).mono ?_
          rintro e w10 ⟨rfl, hb10⟩
          obtain ⟨u, Hu⟩ : ∃ u, Hid (hasL l ⟨yk, yi, yt⟩ = u) := ⟨_, rfl⟩
          rw [Hu.out]
          go_wp2_with fail
          refine ⟨hb10, ?_⟩
          unfold wpBlocks
          refine wpQuiet_nil ?_
          go_wp2_with fail
          refine (rhas_any Al nl cl l ⟨yk, yi, yt⟩ _ (HS7.out.keep (keeps_of (Below.next hD hb10))) (by omega)).mono ?_
          rintro e w11 ⟨rfl, hb11⟩
          rw [Hu.out]
          clear Hu
          go_wp2_with fail
          refine ⟨hb11, ?_⟩
          have huu : (u != u) = false := by simp
          unfold wpBlocks
          repeat (go_big_quiet_step (fail))
          refine wpQuiet_nil ?_
          go_wp2_with fail
          go_roundw
          case rel => exact ⟨j + 1, by omega, by go_num, Below.next (Below.next (Below.next hb7 hD) hb10) hb11⟩
          case measure => simp [intOf]; omega
        · obtain rfl : j = 3 := by omega
          go_wp2_with fail
          go_roundw
          case rel => exact ⟨k + 1, by omega, by go_num, HF.out.below hbq⟩
          case measure => simp [intOf]; omega
    · go_wp2_with fail
      refine (begun_any _).mono ?_
      rintro e w4 ⟨rfl, hb4⟩
      go_wp2
      go_ret
      exact ⟨rfl, Below.next hF.bl hb4⟩
end Go.Proofs.Ytjlbnbljimmbeaa
