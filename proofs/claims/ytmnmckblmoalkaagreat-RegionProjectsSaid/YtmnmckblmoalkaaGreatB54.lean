/-
  Texts: FLift.
-/
import Derived.Test.YtmnmckblmoalkaaGreatB53
set_option linter.unusedVariables false
/-
  The reference's Lift.
-/
namespace Go.Proofs.YtmnmckblmoalkaaGreat
open Go.RowKit
set_option maxRecDepth 100000
open Rg

set_option maxHeartbeats 8000000 in
theorem flift_any (r : Rg) (x : Int) (f : Bool) (A : Option Addr) (n c : Nat) (Ac : Option Addr) (m cc : Nat) (cs : List Int) (W : Int) (w : World) (hR : RgS w x f A n c r) (hc : ClS w Ac m cs) : Calls Tryz.prog 26 #[.agg #[.int .i64 x, .bool f, .slice A n c], .slice Ac m cc, .int .i64 W] w fun e w' => RgRes w (lfR r cs W) (lfE r cs W) e w' := by
  have hx := hR.hw
  have HR := Lib.hid hR
  have HC := Lib.hid hc
  have Hlc := Lib.hid hc.len
  clear hR hc
  obtain ⟨W0, HW0⟩ : ∃ W9 : World, Hid ((w.alloc (.cells #[.int .i64 x, .bool f, .slice A n c] 27)).alloc (.cells #[.int .i64 0, .bool false, .slice none 0 0] 27) = W9) := ⟨_, rfl⟩
  have HB0 : Hid (Below w.heap.size w W0) := by
    rw [← HW0.out]
    exact Lib.hid (((Below.refl _ _).alloc (Nat.le_refl _) _).alloc (by simp) _)
  have HK0 : Hid (Blk W0 (w.heap.size) 27 #[.int .i64 x, .bool f, .slice A n c]) := by
    rw [← HW0.out]
    exact Lib.hid ((Blk.new _ _ _).alloc _)
  have HK1 : Hid (Blk W0 (w.heap.size + 1) 27 #[.int .i64 0, .bool false, .slice none 0 0]) := by
    rw [← HW0.out]
    exact Lib.hid (Blk.step (by simp))
  go_enter Tryz.func26, Tryz.ntmps26
  go_upto_region 1 with fail
  rw [HW0.out]
  clear HW0
  have z0 := HK0.out.cell
  go_wp2_with fail
  refine (fvalid_any r x f A n c _ (HR.out.keep (keeps_of HB0.out))).mono ?_
  rintro e w1 ⟨rfl, hb1⟩
  have HB1 := Lib.hid (Below.next HB0.out hb1)
  replace HK0 := Lib.hid (HK0.out.below hb1)
  replace HK1 := Lib.hid (HK1.out.below hb1)
  clear hb1 z0 HB0
  obtain ⟨vo, Hvo⟩ : ∃ z, Hid (okB r = z) := ⟨_, rfl⟩
  rw [Hvo.out]
  have z0 := HK0.out.cell
  cases vo
  · have zr := HK1.out.cell
    obtain ⟨ff1, ff2, ff3⟩ := put3R_free HK1.out (.int .i64 0) (.bool false)
    have y3 := (put3R_blk (a' := .int .i64 0) (b' := .bool false) (c' := .slice none 0 0) HK1.out).cell
    have y1 := (HK1.out.set_ 0 (.int .i64 0)).cell
    have y2 := ((HK1.out.set_ 0 (.int .i64 0)).set_ 1 (.bool false)).cell
    unfold put3R at y3
    have HBr := Lib.hid (put3R_below HB1.out (show w.heap.size ≤ w.heap.size + 1 by omega) (.int .i64 0) (.bool false) (.slice none 0 0))
    have hEr : lfE r cs W = 40 ∧ lfR r cs W = zeroR := by
      have hn : ¬ (okB r = true ∧ (cs.length : Int) = r.w) := fun h => by rw [Hvo.out] at h; cases h.1
      unfold lfE lfR
      rw [if_neg hn, if_neg hn]
      exact ⟨rfl, rfl⟩
    go_wp2
    refine bodyPost_ret (v := .tuple #[.agg #[.int .i64 0, .bool false, .slice none 0 0], .int .i64 40]) (by simp [results, Tryz.results26, go_sem, y3]) rfl ?_
    rw [hEr.1, hEr.2]
    exact RgRes.zero HBr.out
  · have Hok := Lib.hid (okB_true.1 Hvo.out)
    by_cases hmx : (m : Int) = x
    · have g1 : ((m : Int) == x) = true := by simp [hmx]
      have Hmx : Hid ((m : Int) = r.w) := Lib.hid (by rw [hx]; exact hmx)
      clear hmx
      rcases Int.lt_or_le W 0 with h0 | h0
      · have g2 : decide (W < 0) = true := by simp; omega
        have zr := HK1.out.cell
        obtain ⟨ff1, ff2, ff3⟩ := put3R_free HK1.out (.int .i64 0) (.bool false)
        have y3 := (put3R_blk (a' := .int .i64 0) (b' := .bool false) (c' := .slice none 0 0) HK1.out).cell
        have y1 := (HK1.out.set_ 0 (.int .i64 0)).cell
        have y2 := ((HK1.out.set_ 0 (.int .i64 0)).set_ 1 (.bool false)).cell
        unfold put3R at y3
        have HBr := Lib.hid (put3R_below HB1.out (show w.heap.size ≤ w.heap.size + 1 by omega) (.int .i64 0) (.bool false) (.slice none 0 0))
        have hEr : lfE r cs W = 1 ∧ lfR r cs W = zeroR := by
          have hp : okB r = true ∧ (cs.length : Int) = r.w := ⟨Hvo.out, by rw [Hlc.out, Hmx.out]⟩
          have hn : ¬ ((0 ≤ W ∧ W ≤ 12) ∧ dstB W cs = true) := fun h => by omega
          unfold lfE lfR
          rw [if_pos hp, if_pos hp, if_neg hn, if_neg hn]
          exact ⟨rfl, rfl⟩
        go_wp2
        refine bodyPost_ret (v := .tuple #[.agg #[.int .i64 0, .bool false, .slice none 0 0], .int .i64 1]) (by simp [results, Tryz.results26, go_sem, y3]) rfl ?_
        rw [hEr.1, hEr.2]
        exact RgRes.zero HBr.out
      · have g2 : decide (W < 0) = false := by simp; omega
        rcases Int.lt_or_le 12 W with h1 | h1
        · have g3 : decide (12 < W) = true := by simp; omega
          have zr := HK1.out.cell
          obtain ⟨ff1, ff2, ff3⟩ := put3R_free HK1.out (.int .i64 0) (.bool false)
          have y3 := (put3R_blk (a' := .int .i64 0) (b' := .bool false) (c' := .slice none 0 0) HK1.out).cell
          have y1 := (HK1.out.set_ 0 (.int .i64 0)).cell
          have y2 := ((HK1.out.set_ 0 (.int .i64 0)).set_ 1 (.bool false)).cell
          unfold put3R at y3
          have HBr := Lib.hid (put3R_below HB1.out (show w.heap.size ≤ w.heap.size + 1 by omega) (.int .i64 0) (.bool false) (.slice none 0 0))
          have hEr : lfE r cs W = 1 ∧ lfR r cs W = zeroR := by
            have hp : okB r = true ∧ (cs.length : Int) = r.w := ⟨Hvo.out, by rw [Hlc.out, Hmx.out]⟩
            have hn : ¬ ((0 ≤ W ∧ W ≤ 12) ∧ dstB W cs = true) := fun h => by omega
            unfold lfE lfR
            rw [if_pos hp, if_pos hp, if_neg hn, if_neg hn]
            exact ⟨rfl, rfl⟩
          go_wp2
          refine bodyPost_ret (v := .tuple #[.agg #[.int .i64 0, .bool false, .slice none 0 0], .int .i64 1]) (by simp [results, Tryz.results26, go_sem, y3]) rfl ?_
          rw [hEr.1, hEr.2]
          exact RgRes.zero HBr.out
        · have g3 : decide (12 < W) = false := by simp; omega
          have HW12 := Lib.hid (And.intro h0 h1)
          go_wp2_with fail
          refine (fdistinct_any Ac m cc cs W _ (HC.out.keep (keeps_of HB1.out)) h1).mono ?_
          rintro e w2 ⟨rfl, hb2⟩
          replace HB1 := Lib.hid (Below.next HB1.out hb2)
          replace HK0 := Lib.hid (HK0.out.below hb2)
          replace HK1 := Lib.hid (HK1.out.below hb2)
          clear hb2 z0
          obtain ⟨vd, Hvd⟩ : ∃ z, Hid (dstB W cs = z) := ⟨_, rfl⟩
          rw [Hvd.out]
          cases vd
          · have zr := HK1.out.cell
            obtain ⟨ff1, ff2, ff3⟩ := put3R_free HK1.out (.int .i64 0) (.bool false)
            have y3 := (put3R_blk (a' := .int .i64 0) (b' := .bool false) (c' := .slice none 0 0) HK1.out).cell
            have y1 := (HK1.out.set_ 0 (.int .i64 0)).cell
            have y2 := ((HK1.out.set_ 0 (.int .i64 0)).set_ 1 (.bool false)).cell
            unfold put3R at y3
            have HBr := Lib.hid (put3R_below HB1.out (show w.heap.size ≤ w.heap.size + 1 by omega) (.int .i64 0) (.bool false) (.slice none 0 0))
            have hEr : lfE r cs W = 1 ∧ lfR r cs W = zeroR := by
              have hp : okB r = true ∧ (cs.length : Int) = r.w := ⟨Hvo.out, by rw [Hlc.out, Hmx.out]⟩
              have hn : ¬ ((0 ≤ W ∧ W ≤ 12) ∧ dstB W cs = true) := fun h => by have h2 := h.2; rw [Hvd.out] at h2; cases h2
              unfold lfE lfR
              rw [if_pos hp, if_pos hp, if_neg hn, if_neg hn]
              exact ⟨rfl, rfl⟩
            go_wp2
            refine bodyPost_ret (v := .tuple #[.agg #[.int .i64 0, .bool false, .slice none 0 0], .int .i64 1]) (by simp [results, Tryz.results26, go_sem, y3]) rfl ?_
            rw [hEr.1, hEr.2]
            exact RgRes.zero HBr.out
          · obtain ⟨N, rfl⟩ := Int.eq_ofNat_of_zero_le h0
            have hN12 : N ≤ 12 := by omega
            clear h0 h1
            have hm12 : m ≤ 12 := by have h1 := Hok.out.2.1; have h2 := Hmx.out; omega
            have HCS : Hid (∀ z ∈ cs, 0 ≤ z ∧ z < (N : Int)) := Lib.hid ((dstB_true.1 Hvd.out).1)
            obtain ⟨er, Her⟩ : ∃ z, Hid (uniE ((boxesR r).map (liftL N cs)) (.nil (N : Int) false) = z) := ⟨_, rfl⟩
            obtain ⟨rr, Hrr⟩ : ∃ z, Hid (uniR ((boxesR r).map (liftL N cs)) (.nil (N : Int) false) = z) := ⟨_, rfl⟩
            have HRR : Hid (lfR r cs (N : Int) = rr ∧ lfE r cs (N : Int) = er) := Lib.hid (by
              have hp : okB r = true ∧ (cs.length : Int) = r.w := ⟨Hvo.out, by rw [Hlc.out, Hmx.out]⟩
              have hp2 : (0 ≤ (N : Int) ∧ (N : Int) ≤ 12) ∧ dstB (N : Int) cs = true := ⟨HW12.out, Hvd.out⟩
              unfold lfE lfR
              rw [if_pos hp, if_pos hp, if_pos hp2, if_pos hp2, Int.toNat_natCast]
              exact ⟨Hrr.out, Her.out⟩)
            have HER := Lib.hid (And.intro Her.out Hrr.out)
            clear Her Hrr hx
            obtain ⟨O, HO⟩ : ∃ z, Hid (w2.heap.size = z) := ⟨_, rfl⟩
            have hb4 : Below w2.heap.size w2 (w2.alloc (.cells #[.int .i64 (N : Int), .bool false, .slice none 0 0] 27)) := (Below.refl _ _).alloc (Nat.le_refl _) _
            have HU : Hid (USt w O (w.heap.size + 1) (N : Int) false none 0 0 (.nil (N : Int) false) (w2.alloc (.cells #[.int .i64 (N : Int), .bool false, .slice none 0 0] 27))) := by
              have h1 := HK1.out.lt
              have h2 := HO.out
              exact Lib.hid ⟨by rw [← h2]; exact Blk.new _ _ _, HK1.out.below hb4, RgS.nil _ _, Below.next HB1.out hb4, by omega, by omega, by omega⟩
            replace HK0 := Lib.hid (HK0.out.below hb4)
            clear hb4 HK1 HB1
            go_upto_region 6 with fail
            rw [HO.out]
            generalize hW4 : w2.alloc (.cells #[.int .i64 (N : Int), .bool false, .slice none 0 0] 27) = W4 at *
            clear hW4 HO
            obtain ⟨bs, Hbs⟩ : ∃ z, Hid ((boxesR r).map (liftL N cs) = z) := ⟨_, rfl⟩
            rw [Hbs.out] at HER
            have z0 := HK0.out.cell
            go_wp2_with fail
            refine (fboxes_any w r.w.toNat r x f A n c W4 (by have h1 := Hok.out.2.1; omega) Hok.out.2.2.2 Hok.out.2.2.1 HR.out HU.out.bel).mono ?_
            rintro e w5 ⟨A1, n1, c1, es, rfl, hown, hlen, hel, heq, hb5⟩
            obtain ⟨B, HBB⟩ : ∃ z, Hid (W4.heap.size = z) := ⟨_, rfl⟩
            have HX : Hid (BxR B w A1 n1 c1 es w5) := by
              rw [← HBB.out]
              exact Lib.hid ⟨hown, hlen, hel⟩
            have HOB : Hid (O < B) := by
              rw [← HBB.out]
              exact Lib.hid HU.out.bo.lt
            have HEQ := Lib.hid heq
            have hn1 : n1 ≤ 65 := by
              have h1 := (nbox_le Hok.out.2.2.2.1).1
              have h2 := Hok.out.2.2.1
              rw [← boxesR_len, ← heq, List.length_map] at h1
              omega
            have HU5 := Lib.hid (HU.out.below hb5)
            have Hbl : Hid (bs.length = n1) := Lib.hid (by rw [← Hbs.out, List.length_map, ← heq, List.length_map, hlen])
            clear hown hlen hel heq hb5 z0 HK0 HU HBB
            go_wp2_with fail
            go_loopw [44] (fun i wr => ∃ (k : Nat) (x2 : Int) (f2 : Bool) (A2 : Option Addr) (n2 c2 : Nat) (r2 : Rg), k ≤ n1 ∧ i = .int .i64 (k : Int) ∧ Hid (USt w O (w.heap.size + 1) x2 f2 A2 n2 c2 r2 wr) ∧ Hid (BxR B w A1 n1 c1 es wr) ∧ Hid (uniE (bs.drop k) r2 = er ∧ uniR (bs.drop k) r2 = rr)) (fun i _ => n1 - (intOf i).toNat)
            case atStart => exact ⟨0, _, _, _, _, _, _, by omega, rfl, HU5, HX, HER⟩
            case round =>
              clear HU5 HX HER
              obtain ⟨k, x2, f2, A2, n2, c2, r2, hk, rfl, HU, HX, HI⟩ := hrel
              by_cases hlt : k < n1
              · obtain ⟨b, o, A8, m8, c8, l8, rfl, he, d0, hss⟩ := HX.out.at hlt (keeps_of HU.out.bel)
                have hbk : (boxesR r)[k]? = some (l8.map (·.2)) := by
                  rw [← HEQ.out, List.getElem?_map, he]
                  rfl
                have Hm8 : Hid ((m8 : Int) = r.w) := Lib.hid (by
                  have h1 := boxesR_row Hok.out.2.2.2.1 _ (List.mem_of_getElem? hbk)
                  rw [List.length_map, hss.sl.len] at h1
                  have h2 := Hok.out.1
                  omega)
                have HD : Hid (bs.drop k = liftL N cs (l8.map (·.2)) :: bs.drop (k + 1)) := Lib.hid (drop_box (by rw [← Hbs.out, List.getElem?_map, hbk]; rfl))
                have HN3 : Hid ((liftL N cs (l8.map (·.2))).length = N) := Lib.hid (by rw [lift_len])
                have HST := Lib.hid (uni_step0 HI.out HD.out)
                have HSS := Lib.hid hss
                obtain ⟨ls, Hls⟩ : ∃ z, Hid (liftL N cs (l8.map (·.2)) = z) := ⟨_, rfl⟩
                rw [Hls.out] at HST HN3
                clear he hss hbk HD
                obtain ⟨w0r, HW0R⟩ : ∃ z, Hid (z = wr) := ⟨_, rfl⟩
                have HUS : Hid (USt w O (w.heap.size + 1) x2 f2 A2 n2 c2 r2 w0r ∧ BxR B w (some ⟨b, o, none⟩) n1 c1 es w0r ∧ SetsS w0r A8 m8 l8) := by
                  rw [HW0R.out]
                  exact Lib.hid ⟨HU.out, HX.out, HSS.out⟩
                have HBW : Hid (Below w0r.heap.size w0r wr) := by
                  rw [HW0R.out]
                  exact Lib.hid (Below.refl _ _)
                clear HU HX HSS
                go_wp2_with fail
                refine (fall2_any N hN12 _).mono ?_
                rintro e w10 ⟨A0, c0, ps0, rfl, hown0, hlen0, hel0, hb0⟩
                have HL0 : Hid (LfS w10 w0r.heap.size A0 N c0 l8 ps0 ∧ ps0.map (·.2) = liftK N cs (l8.map (·.2)) 0) := by
                  rw [HW0R.out]
                  refine Lib.hid ⟨⟨hown0, hlen0, fun q hq => .inr (hel0 q hq)⟩, ?_⟩
                  show _ = List.replicate N allL
                  rw [List.eq_replicate_iff]
                  refine ⟨by simp [hlen0], fun l hl => ?_⟩
                  obtain ⟨p, h, rfl⟩ := List.mem_map.1 hl
                  obtain ⟨g, rfl, _⟩ := hel0 p h
                  rfl
                replace HBW : Hid (Below w0r.heap.size w0r w10) := by
                  rw [HW0R.out]
                  exact Lib.hid hb0
                clear hown0 hlen0 hel0 hb0
                go_wp2_with fail
                go_loopw [52] (fun i wx => ∃ (j : Nat) (qs : List SetP), j ≤ m ∧ i = .int .i64 (j : Int) ∧ Hid (LfS wx w0r.heap.size A0 N c0 l8 qs ∧ qs.map (·.2) = liftK N cs (l8.map (·.2)) j) ∧ Hid (Below w0r.heap.size w0r wx)) (fun i _ => m - (intOf i).toNat)
                case atStart => exact ⟨0, ps0, by omega, rfl, HL0, HBW⟩
                case round =>
                  clear HBW HW0R HL0
                  obtain ⟨j, qs, hj, rfl, HL, HBW⟩ := hrel
                  by_cases hjm : j < m
                  · have hbw := Below.next HUS.out.1.bel HBW.out
                    obtain ⟨bc, oc, y, rfl, hy, hyc⟩ := (HC.out.keep (keeps_of hbw)).at hjm
                    have d1 := hyc 0 _ rfl
                    simp only [Nat.mul_one, Nat.add_zero] at d1
                    have hyr := HCS.out y (List.mem_of_getElem? hy)
                    have Hy := Lib.hid hy
                    clear hy hyc hbw
                    obtain ⟨z, rfl⟩ := Int.eq_ofNat_of_zero_le hyr.1
                    have hz : z < N := by omega
                    clear hyr
                    have hj8 : j < m8 := by have h1 := Hm8.out; have h2 := Hmx.out; omega
                    obtain ⟨b9, o9, p9, rfl, hp, hpc⟩ := (HUS.out.2.2.keep (keeps_of HBW.out)).sl.at hj8
                    obtain ⟨⟨A9, n9, c9⟩, l9⟩ := p9
                    have d2 := hpc 0 _ rfl
                    simp only [Nat.mul_one, Nat.add_zero] at d2
                    have Hp := Lib.hid hp
                    clear hp hpc
                    obtain ⟨g, rfl, hg0⟩ := own_some HL.out.1.own (by omega)
                    obtain ⟨u, hu⟩ : ∃ u, (qs.flatMap setc)[z]? = some u := ⟨_, List.getElem?_eq_getElem (by rw [flat_len setc_len, HL.out.1.len]; omega)⟩
                    have hcc := HL.out.1.own.cells (g := g) rfl z u hu
                    rw [add_at, Nat.zero_add] at hcc
                    have hfz := fun z => HL.out.1.own.frozenAt z
                    clear hu
                    go_wp2
                    go_roundw
                    case rel =>
                      refine ⟨j + 1, qs.set z ((A9, n9, c9), l9), by omega, by go_num, Lib.hid ⟨HL.out.1.put (p := ((A9, n9, c9), l9)) (List.mem_of_getElem? Hp.out) z, ?_⟩, Lib.hid (HBW.out.setCell (p := ⟨g, z, none⟩) hg0 _)⟩
                      rw [setAt, HL.out.2, liftK_succ Hy.out (by rw [List.getElem?_map, Hp.out]; rfl), Int.toNat_natCast]
                    case measure => simp [intOf]; omega
                  · obtain rfl : j = m := by omega
                    have hbw := HBW.out
                    have Hq3 : Hid (qs.map (·.2) = ls) := Lib.hid (by
                      rw [HL.out.2, ← Hls.out, liftL, List.length_zip, List.length_map, Hlc.out, HUS.out.2.2.sl.len, show m8 = j by have h1 := Hm8.out; have h2 := Hmx.out; omega, Nat.min_self])
                    have hss : SetsS wr A0 N qs := HL.out.1.sets HUS.out.2.2 (keeps_of hbw)
                    have hN12' := hN12
                    clear HL
                    replace hss := (And.intro hss hbw)
                    have HSQ := Lib.hid hss.1
                    have HU := Lib.hid (HUS.out.1.below hbw)
                    have HX := Lib.hid (HUS.out.2.1.below hbw)
                    clear hss hbw HUS HBW
                    go_upto_region 16 with fail
                    refine wp_region_planR [7] (lessB wr.drew.heap.size) anyW (lessB_trans _) anyW_trans (.one [0, 1] [] 2 (.one [] [] 3 (.one [4, 5] [6] 7 (.last [8] [])))) (by kernel_rfl) (by kernel_rfl) (fun _ _ d _ _ h => by cases d <;> exact h) ?_
                    have hbd : Below wr.heap.size wr wr.drew := (Below.refl _ _).drew
                    replace HU := Lib.hid (HU.out.below hbd)
                    replace HX := Lib.hid (HX.out.below hbd)
                    replace HSQ := Lib.hid (HSQ.out.keep (keeps_of hbd))
                    clear hbd
                    generalize hWd : wr.drew = wd at *
                    clear hWd
                    have HLO := Lib.hid HU.out.bo.lt
                    have qo : ∀ (y : LaterR (lessB wd.heap.size) wd) z, (afterR (lessB wd.heap.size) wd y).cell? ⟨O, z, none⟩ = (#[.int .i64 x2, .bool f2, .slice A2 n2 c2] : Array Value)[z]? := fun y z => y.cell (HU.out.bo.cell z) (fun W h => (keep_blk HU.out.bo h HLO.out).cell z)
                    unfold wpPlanR
                    simp only [pickOps, opAt, List.map_cons, List.map_nil, List.getElem?_toArray, List.getElem?_cons_zero, List.getElem?_cons_succ, Option.getD_some]
                    repeat (go_big_quiet_step (fail))
                    refine wpQuiet_nil ?_
                    repeat (go_big_quiet_step (fail))
                    refine wpQuiet_nil ?_
                    clear qo
                    go_wp2_with fail
                    refine (fbox_any A0 N c0 qs _ HSQ.out (by omega)).mono ?_
                    rintro e w6 ⟨x4, f4, A4, n4, c4, rfl, hR4, hb4⟩
                    rw [Hq3.out] at hR4
                    go_wp2_with fail
                    refine ⟨⟨fun _ => lessB_of hb4 (Nat.le_refl _), trivial⟩, ?_⟩
                    have hle4 : wd.heap.size ≤ w6.heap.size := hb4.size
                    have HR4 := Lib.hid hR4
                    replace HU := Lib.hid (HU.out.below hb4)
                    replace HX := Lib.hid (HX.out.below hb4)
                    clear hb4 hR4 HSQ
                    unfold wpPlanR
                    simp only [pickOps, opAt, List.map_nil, List.getElem?_toArray, List.getElem?_cons_zero, List.getElem?_cons_succ, Option.getD_some]
                    repeat (go_big_quiet_step (fail))
                    refine wpQuiet_nil ?_
                    repeat (go_big_quiet_step (fail))
                    refine wpQuiet_nil ?_
                    go_wp2_with fail
                    refine (funion_any r2 x2 f2 A2 n2 c2 (boxR ls) x4 f4 A4 n4 c4 _ HU.out.rs HR4.out).mono ?_
                    rintro e w7 ⟨x5, f5, A5, n5, c5, rfl, hR5, hb5⟩
                    rw [opR_eq.1] at hR5 ⊢
                    obtain ⟨e1, He1⟩ : ∃ z, Hid (opErr opUr r2 (boxR ls) = z) := ⟨_, rfl⟩
                    rw [He1.out]
                    go_wp2_with fail
                    refine ⟨⟨fun _ => lessB_of hb5 hle4, trivial⟩, ?_⟩
                    replace HU := Lib.hid (HU.out.below hb5)
                    replace HX := Lib.hid (HX.out.below hb5)
                    have HR5 := Lib.hid hR5
                    clear hb5 hR5 HR4
                    unfold wpPlanR
                    simp only [pickOps, opAt, List.map_cons, List.map_nil, List.getElem?_toArray, List.getElem?_cons_zero, List.getElem?_cons_succ, Option.getD_some]
                    repeat (go_big_quiet_step (fail))
                    refine wpQuiet_nil ?_
                    repeat (go_big_quiet_step (fail))
                    refine wpQuiet_nil ?_
                    have zr := HU.out.bo.cell
                    obtain ⟨ff1, ff2, ff3⟩ := put3R_free HU.out.bo (.int .i64 x5) (.bool f5)
                    have y3 := (put3R_blk (a' := .int .i64 x5) (b' := .bool f5) (c' := .slice A5 n5 c5) HU.out.bo).cell
                    have y1 := (HU.out.bo.set_ 0 (.int .i64 x5)).cell
                    have y2 := ((HU.out.bo.set_ 0 (.int .i64 x5)).set_ 1 (.bool f5)).cell
                    have HU6 := Lib.hid (HU.out.put HR5.out)
                    have HX6 := Lib.hid (HX.out.but (put3R_but w7 O (.int .i64 x5) (.bool f5) (.slice A5 n5 c5)) (fun q hq => by have := HOB.out; omega))
                    unfold put3R at y3
                    go_wp2_with fail
                    refine ⟨⟨fun h => (h (by decide)).elim, trivial⟩, ?_⟩
                    clear zr ff1 ff2 ff3 y1 y2 y3
                    generalize hWW : put3R w7 O (.int .i64 x5) (.bool f5) (.slice A5 n5 c5) = w8 at *
                    unfold put3R at hWW
                    rw [hWW]
                    clear hWW HU HX
                    unfold wpPlanR
                    simp only [pickOps, opAt, List.map_cons, List.map_nil, List.getElem?_toArray, List.getElem?_cons_zero, List.getElem?_cons_succ, Option.getD_some]
                    repeat (go_big_quiet_step (fail))
                    refine wpQuiet_nil ?_
                    repeat (go_big_quiet_step (fail))
                    refine wpQuiet_nil ?_
                    rw [He1.out] at HST
                    by_cases h0 : e1 = 0
                    · subst h0
                      have HI6 := Lib.hid (HST.out.1 rfl)
                      go_wp2
                      go_roundw
                      case rel => exact ⟨k + 1, x5, f5, A5, n5, c5, _, by omega, by go_num, HU6, HX6, HI6⟩
                      case measure => simp [intOf]; omega
                    · have g3 : (e1 == 0) = false := by simp [h0]
                      have HEr := Lib.hid (HST.out.2 h0)
                      have HFin := Lib.hid (HU6.out.err e1)
                      have zr := HU6.out.bz.cell
                      obtain ⟨ff1, ff2, ff3⟩ := put3R_free HU6.out.bz (.int .i64 0) (.bool false)
                      have y3 := (put3R_blk (a' := .int .i64 0) (b' := .bool false) (c' := .slice none 0 0) HU6.out.bz).cell
                      have y1 := (HU6.out.bz.set_ 0 (.int .i64 0)).cell
                      have y2 := ((HU6.out.bz.set_ 0 (.int .i64 0)).set_ 1 (.bool false)).cell
                      unfold put3R at y3
                      clear h0
                      go_wp2
                      refine bodyPost_ret (v := .tuple #[.agg #[.int .i64 0, .bool false, .slice none 0 0], .int .i64 e1]) (by simp [results, Tryz.results26, go_sem, y3]) rfl ?_
                      rw [HRR.out.1, HRR.out.2, HEr.out.1, HEr.out.2]
                      exact HFin.out
              · obtain rfl : k = n1 := by omega
                have hend : er = 0 ∧ rr = r2 := by
                  have h1 := HI.out.1
                  have h2 := HI.out.2
                  rw [List.drop_of_length_le (by rw [Hbl.out]; exact Nat.le_refl _)] at h1 h2
                  exact ⟨h1.symm, h2.symm⟩
                have HEr := Lib.hid hend
                have HFin := Lib.hid HU.out.fin
                have zo := HU.out.bo.cell
                have zr := HU.out.bz.cell
                obtain ⟨ff1, ff2, ff3⟩ := put3R_free HU.out.bz (.int .i64 x2) (.bool f2)
                have y3 := (put3R_blk (a' := .int .i64 x2) (b' := .bool f2) (c' := .slice A2 n2 c2) HU.out.bz).cell
                have y1 := (HU.out.bz.set_ 0 (.int .i64 x2)).cell
                have y2 := ((HU.out.bz.set_ 0 (.int .i64 x2)).set_ 1 (.bool f2)).cell
                unfold put3R at y3
                clear hend
                go_wp2
                refine bodyPost_ret (v := .tuple #[.agg #[.int .i64 x2, .bool f2, .slice A2 n2 c2], .int .i64 0]) (by simp [results, Tryz.results26, go_sem, y3]) rfl ?_
                rw [HRR.out.1, HRR.out.2, HEr.out.1, HEr.out.2]
                exact HFin.out
    · have g1 : ((m : Int) == x) = false := by simp [hmx]
      have zr := HK1.out.cell
      obtain ⟨ff1, ff2, ff3⟩ := put3R_free HK1.out (.int .i64 0) (.bool false)
      have y3 := (put3R_blk (a' := .int .i64 0) (b' := .bool false) (c' := .slice none 0 0) HK1.out).cell
      have y1 := (HK1.out.set_ 0 (.int .i64 0)).cell
      have y2 := ((HK1.out.set_ 0 (.int .i64 0)).set_ 1 (.bool false)).cell
      unfold put3R at y3
      have HBr := Lib.hid (put3R_below HB1.out (show w.heap.size ≤ w.heap.size + 1 by omega) (.int .i64 0) (.bool false) (.slice none 0 0))
      have hEr : lfE r cs W = 40 ∧ lfR r cs W = zeroR := by
        have hn : ¬ (okB r = true ∧ (cs.length : Int) = r.w) := fun h => by have h2 := h.2; rw [Hlc.out, hx] at h2; exact hmx h2
        unfold lfE lfR
        rw [if_neg hn, if_neg hn]
        exact ⟨rfl, rfl⟩
      go_wp2
      refine bodyPost_ret (v := .tuple #[.agg #[.int .i64 0, .bool false, .slice none 0 0], .int .i64 40]) (by simp [results, Tryz.results26, go_sem, y3]) rfl ?_
      rw [hEr.1, hEr.2]
      exact RgRes.zero HBr.out
end Go.Proofs.YtmnmckblmoalkaaGreat
