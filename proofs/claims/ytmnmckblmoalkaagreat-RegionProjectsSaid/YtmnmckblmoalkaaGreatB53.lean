/-
  Texts: FProj, FFor.
-/
import Derived.Test.YtmnmckblmoalkaaGreatB47
import Derived.Test.YtmnmckblmoalkaaGreatB52
set_option linter.unusedVariables false
/-
  The reference's Project.
-/
namespace Go.Proofs.YtmnmckblmoalkaaGreat
open Go.RowKit
set_option maxRecDepth 100000
open Rg

theorem uni_step0 {bs l : List (List (List Iv))} {b : List (List Iv)} {r rr : Rg} {er : Int} (h : uniE bs r = er ∧ uniR bs r = rr) (hb : bs = b :: l) : (opErr opUr r (boxR b) = 0 → uniE l (opRes opUr r (boxR b)) = er ∧ uniR l (opRes opUr r (boxR b)) = rr) ∧ (opErr opUr r (boxR b) ≠ 0 → er = opErr opUr r (boxR b) ∧ rr = zeroR) := by
  obtain ⟨h1, h2⟩ := h
  subst hb
  unfold uniE at h1
  unfold uniR at h2
  refine ⟨fun h0 => ?_, fun h0 => ?_⟩
  · rw [if_pos h0] at h1 h2
    exact ⟨h1, h2⟩
  · rw [if_neg h0] at h1 h2
    exact ⟨h1.symm, h2.symm⟩
theorem own_some {w : World} {base : Nat} {e : TypeId} {sz n c : Nat} {A : Option Addr} {xs : List Value} (h : w.ownsRow base e sz (.slice A n c) n xs) (hn : 0 < n) : ∃ g, A = some ⟨g, 0, none⟩ ∧ base ≤ g := by
  rcases h.2 with ⟨hv, h0⟩ | ⟨g, cap, cur, hv, hg, _⟩
  · omega
  · injection hv with h1 h2 h3
    exact ⟨g, h1, hg⟩
set_option maxHeartbeats 8000000 in
theorem fproject_any (r : Rg) (x : Int) (f : Bool) (A : Option Addr) (n c : Nat) (Ac : Option Addr) (m cc : Nat) (cs : List Int) (w : World) (hR : RgS w x f A n c r) (hc : ClS w Ac m cs) : Calls Tryz.prog 22 #[.agg #[.int .i64 x, .bool f, .slice A n c], .slice Ac m cc] w fun e w' => RgRes w (pjR r cs) (pjE r cs) e w' := by
  obtain ⟨il, hil, hl0, hl1, hl2⟩ := info_parts info_lst
  have hx := hR.hw
  have HR := Lib.hid hR
  have HC := Lib.hid hc
  have Hlc := Lib.hid hc.len
  clear hR hc
  obtain ⟨W0, HW0⟩ : ∃ W9 : World, Hid ((w.alloc (.cells #[.int .i64 x, .bool f, .slice A n c] 27)).alloc (.cells #[.int .i64 0, .bool false, .slice none 0 0] 27) = W9) := ⟨_, rfl⟩
  have HB0 : Hid (Below w.heap.size w W0) := by
    rw [← HW0.out]
    exact Lib.hid (((Below.refl _ _).alloc (Nat.le_refl _) _).alloc (by simp) _)
  have HK0 : Hid (Blk W0 (w.heap.size) 27 #[.int .i64 x, .bool f, .slice A n c]) := by
    rw [← HW0.out]
    exact Lib.hid ((Blk.new _ _ _).alloc _)
  have HK1 : Hid (Blk W0 (w.heap.size + 1) 27 #[.int .i64 0, .bool false, .slice none 0 0]) := by
    rw [← HW0.out]
    exact Lib.hid (Blk.step (by simp))
  go_enter Tryz.func22, Tryz.ntmps22
  go_upto_region 1 with fail
  rw [HW0.out]
  clear HW0
  have z0 := HK0.out.cell
  go_wp2_with fail
  refine (fvalid_any r x f A n c _ (HR.out.keep (keeps_of HB0.out))).mono ?_
  rintro e w1 ⟨rfl, hb1⟩
  have HB1 := Lib.hid (Below.next HB0.out hb1)
  replace HK0 := Lib.hid (HK0.out.below hb1)
  replace HK1 := Lib.hid (HK1.out.below hb1)
  clear hb1 z0 HB0
  obtain ⟨vo, Hvo⟩ : ∃ z, Hid (okB r = z) := ⟨_, rfl⟩
  rw [Hvo.out]
  cases vo
  · have zr := HK1.out.cell
    obtain ⟨ff1, ff2, ff3⟩ := put3R_free HK1.out (.int .i64 0) (.bool false)
    have y3 := (put3R_blk (a' := .int .i64 0) (b' := .bool false) (c' := .slice none 0 0) HK1.out).cell
    have y1 := (HK1.out.set_ 0 (.int .i64 0)).cell
    have y2 := ((HK1.out.set_ 0 (.int .i64 0)).set_ 1 (.bool false)).cell
    unfold put3R at y3
    have HBr := Lib.hid (put3R_below HB1.out (show w.heap.size ≤ w.heap.size + 1 by omega) (.int .i64 0) (.bool false) (.slice none 0 0))
    have hEr : pjE r cs = 40 ∧ pjR r cs = zeroR := by
      have hn : ¬ okB r = true := by rw [Hvo.out]; decide
      unfold pjE pjR
      rw [if_neg hn, if_neg hn]
      exact ⟨rfl, rfl⟩
    go_wp2
    refine bodyPost_ret (v := .tuple #[.agg #[.int .i64 0, .bool false, .slice none 0 0], .int .i64 40]) (by simp [results, Tryz.results22, go_sem, y3]) rfl ?_
    rw [hEr.1, hEr.2]
    exact RgRes.zero HBr.out
  · have Hok := Lib.hid (okB_true.1 Hvo.out)
    have hx12 : x ≤ 12 := by have := Hok.out.2.1; omega
    have z0 := HK0.out.cell
    go_wp2_with fail
    refine (fdistinct_any Ac m cc cs x _ (HC.out.keep (keeps_of HB1.out)) hx12).mono ?_
    rintro e w2 ⟨rfl, hb2⟩
    replace HB1 := Lib.hid (Below.next HB1.out hb2)
    replace HK0 := Lib.hid (HK0.out.below hb2)
    replace HK1 := Lib.hid (HK1.out.below hb2)
    clear hb2 z0
    obtain ⟨vd, Hvd⟩ : ∃ z, Hid (dstB x cs = z) := ⟨_, rfl⟩
    rw [Hvd.out]
    cases vd
    · have zr := HK1.out.cell
      obtain ⟨ff1, ff2, ff3⟩ := put3R_free HK1.out (.int .i64 0) (.bool false)
      have y3 := (put3R_blk (a' := .int .i64 0) (b' := .bool false) (c' := .slice none 0 0) HK1.out).cell
      have y1 := (HK1.out.set_ 0 (.int .i64 0)).cell
      have y2 := ((HK1.out.set_ 0 (.int .i64 0)).set_ 1 (.bool false)).cell
      unfold put3R at y3
      have HBr := Lib.hid (put3R_below HB1.out (show w.heap.size ≤ w.heap.size + 1 by omega) (.int .i64 0) (.bool false) (.slice none 0 0))
      have hEr : pjE r cs = 1 ∧ pjR r cs = zeroR := by
        have hn : ¬ dstB r.w cs = true := by rw [hx, Hvd.out]; decide
        unfold pjE pjR
        rw [if_pos Hvo.out, if_pos Hvo.out, if_neg hn, if_neg hn]
        exact ⟨rfl, rfl⟩
      go_wp2
      refine bodyPost_ret (v := .tuple #[.agg #[.int .i64 0, .bool false, .slice none 0 0], .int .i64 1]) (by simp [results, Tryz.results22, go_sem, y3]) rfl ?_
      rw [hEr.1, hEr.2]
      exact RgRes.zero HBr.out
    · have hm12 : m ≤ 12 := by have := dst_len Hvd.out hx12; have := Hlc.out; omega
      have HCS : Hid (∀ z ∈ cs, 0 ≤ z ∧ z < r.w) := Lib.hid (fun z hz => by have h1 := (dstB_true.1 Hvd.out).1 z hz; omega)
      obtain ⟨er, Her⟩ : ∃ z, Hid (uniE ((boxesR r).map (pickL cs)) (.nil (m : Int) false) = z) := ⟨_, rfl⟩
      obtain ⟨rr, Hrr⟩ : ∃ z, Hid (uniR ((boxesR r).map (pickL cs)) (.nil (m : Int) false) = z) := ⟨_, rfl⟩
      have HRR : Hid (pjR r cs = rr ∧ pjE r cs = er) := Lib.hid (by
        unfold pjE pjR
        rw [if_pos Hvo.out, if_pos Hvo.out, hx, if_pos Hvd.out, if_pos Hvd.out, Hlc.out]
        exact ⟨Hrr.out, Her.out⟩)
      have HER := Lib.hid (And.intro Her.out Hrr.out)
      clear Her Hrr hx
      obtain ⟨O, HO⟩ : ∃ z, Hid (w2.heap.size = z) := ⟨_, rfl⟩
      have hb4 : Below w2.heap.size w2 (w2.alloc (.cells #[.int .i64 (m : Int), .bool false, .slice none 0 0] 27)) := (Below.refl _ _).alloc (Nat.le_refl _) _
      have HU : Hid (USt w O (w.heap.size + 1) (m : Int) false none 0 0 (.nil (m : Int) false) (w2.alloc (.cells #[.int .i64 (m : Int), .bool false, .slice none 0 0] 27))) := by
        have h1 := HK1.out.lt
        have h2 := HO.out
        exact Lib.hid ⟨by rw [← h2]; exact Blk.new _ _ _, HK1.out.below hb4, RgS.nil _ _, Below.next HB1.out hb4, by omega, by omega, by omega⟩
      replace HK0 := Lib.hid (HK0.out.below hb4)
      clear hb4 HK1 HB1
      go_upto_region 6 with fail
      rw [HO.out]
      generalize hW4 : w2.alloc (.cells #[.int .i64 (m : Int), .bool false, .slice none 0 0] 27) = W4 at *
      clear hW4 HO
      obtain ⟨bs, Hbs⟩ : ∃ z, Hid ((boxesR r).map (pickL cs) = z) := ⟨_, rfl⟩
      rw [Hbs.out] at HER
      have z0 := HK0.out.cell
      go_wp2_with fail
      refine (fboxes_any w r.w.toNat r x f A n c W4 (by have h1 := Hok.out.2.1; omega) Hok.out.2.2.2 Hok.out.2.2.1 HR.out HU.out.bel).mono ?_
      rintro e w5 ⟨A1, n1, c1, es, rfl, hown, hlen, hel, heq, hb5⟩
      obtain ⟨B, HBB⟩ : ∃ z, Hid (W4.heap.size = z) := ⟨_, rfl⟩
      have HX : Hid (BxR B w A1 n1 c1 es w5) := by
        rw [← HBB.out]
        exact Lib.hid ⟨hown, hlen, hel⟩
      have HOB : Hid (O < B) := by
        rw [← HBB.out]
        exact Lib.hid HU.out.bo.lt
      have HEQ := Lib.hid heq
      have hn1 : n1 ≤ 65 := by
        have h1 := (nbox_le Hok.out.2.2.2.1).1
        have h2 := Hok.out.2.2.1
        rw [← boxesR_len, ← heq, List.length_map] at h1
        omega
      have HU5 := Lib.hid (HU.out.below hb5)
      have Hbl : Hid (bs.length = n1) := Lib.hid (by rw [← Hbs.out, List.length_map, ← heq, List.length_map, hlen])
      clear hown hlen hel heq hb5 z0 HK0 HU HBB
      go_wp2_with fail
      go_loopw [29] (fun i wr => ∃ (k : Nat) (x2 : Int) (f2 : Bool) (A2 : Option Addr) (n2 c2 : Nat) (r2 : Rg), k ≤ n1 ∧ i = .int .i64 (k : Int) ∧ Hid (USt w O (w.heap.size + 1) x2 f2 A2 n2 c2 r2 wr) ∧ Hid (BxR B w A1 n1 c1 es wr) ∧ Hid (uniE (bs.drop k) r2 = er ∧ uniR (bs.drop k) r2 = rr)) (fun i _ => n1 - (intOf i).toNat)
      case atStart => exact ⟨0, _, _, _, _, _, _, by omega, rfl, HU5, HX, HER⟩
      case round =>
        clear HU5 HX HER
        obtain ⟨k, x2, f2, A2, n2, c2, r2, hk, rfl, HU, HX, HI⟩ := hrel
        by_cases hlt : k < n1
        · obtain ⟨b, o, A8, m8, c8, l8, rfl, he, d0, hss⟩ := HX.out.at hlt (keeps_of HU.out.bel)
          have hbk : (boxesR r)[k]? = some (l8.map (·.2)) := by
            rw [← HEQ.out, List.getElem?_map, he]
            rfl
          have Hm8 : Hid ((m8 : Int) = r.w) := Lib.hid (by
            have h1 := boxesR_row Hok.out.2.2.2.1 _ (List.mem_of_getElem? hbk)
            rw [List.length_map, hss.sl.len] at h1
            have h2 := Hok.out.1
            omega)
          have HD : Hid (bs.drop k = pickL cs (l8.map (·.2)) :: bs.drop (k + 1)) := Lib.hid (drop_box (by rw [← Hbs.out, List.getElem?_map, hbk]; rfl))
          have HN3 : Hid ((pickL cs (l8.map (·.2))).length = m) := Lib.hid (by rw [pick_len, Hlc.out])
          have HST := Lib.hid (uni_step0 HI.out HD.out)
          have HSS := Lib.hid hss
          obtain ⟨ls, Hls⟩ : ∃ z, Hid (pickL cs (l8.map (·.2)) = z) := ⟨_, rfl⟩
          rw [Hls.out] at HST HN3
          clear he hss hbk HD
          obtain ⟨w0r, HW0R⟩ : ∃ z, Hid (z = wr) := ⟨_, rfl⟩
          have HUS : Hid (USt w O (w.heap.size + 1) x2 f2 A2 n2 c2 r2 w0r ∧ BxR B w (some ⟨b, o, none⟩) n1 c1 es w0r ∧ SetsS w0r A8 m8 l8) := by
            rw [HW0R.out]
            exact Lib.hid ⟨HU.out, HX.out, HSS.out⟩
          have HBW : Hid (Below w0r.heap.size w0r wr) := by
            rw [HW0R.out]
            exact Lib.hid (Below.refl _ _)
          clear HU HX HSS
          go_wp2_with fail
          go_loopw [9, 35] (fun v i wx => ∃ (j : Nat) (A3 : Option Addr) (c3 : Nat) (qs : List SetP), j ≤ m ∧ i = .int .i64 (j : Int) ∧ v = .slice A3 j c3 ∧ Hid (wx.ownsRow w0r.heap.size 72 1 (.slice A3 j c3) j (qs.flatMap setc)) ∧ Hid (qs = (cs.take j).map (pk l8)) ∧ Hid (Below w0r.heap.size w0r wx)) (fun _ i _ => m - (intOf i).toNat)
          case atStart => exact ⟨0, none, 0, [], by omega, rfl, rfl, Lib.hid ⟨by simp, .inl ⟨rfl, rfl⟩⟩, Lib.hid (by simp), HBW⟩
          case round =>
            clear HBW HW0R
            obtain ⟨j, A3, c3, qs, hj, rfl, rfl, HOW, Hqs, HBW⟩ := hrel
            have Hql : Hid (qs.length = j) := Lib.hid (by rw [Hqs.out, List.length_map, List.length_take, Hlc.out]; omega)
            by_cases hjm : j < m
            · have hbw := Below.next HUS.out.1.bel HBW.out
              obtain ⟨bc, oc, y, rfl, hy, hyc⟩ := (HC.out.keep (keeps_of hbw)).at hjm
              have d1 := hyc 0 _ rfl
              simp only [Nat.mul_one, Nat.add_zero] at d1
              have hyr := HCS.out y (List.mem_of_getElem? hy)
              have Hy := Lib.hid hy
              clear hy hyc hbw
              obtain ⟨z, rfl⟩ := Int.eq_ofNat_of_zero_le hyr.1
              have hz : z < m8 := by have := Hm8.out; omega
              clear hyr
              obtain ⟨b9, o9, p9, rfl, hp, hpc⟩ := (HUS.out.2.2.keep (keeps_of HBW.out)).sl.at hz
              obtain ⟨⟨A9, n9, c9⟩, l9⟩ := p9
              have d2 := hpc 0 _ rfl
              simp only [Nat.mul_one, Nat.add_zero] at d2
              have Hp := Lib.hid hp
              clear hp hpc
              have hsz := HBW.out.size
              go_wp2_with (at_builtin; refine wpList_append_one2 (by rfl) (.tmp 39) (.tmp 44) _ (by rfl) w0r.heap.size 72 il _ 1 24 Tryz.underlying71 hil hl0 hl1 hl2 (by rfl) (by omega) (.slice A3 j c3) j _ (by rfl) wr #[.slice A9 n9 c9] HOW.out wr.heap.size (by rfl) (by rfl) (by rfl) (one_set ((A9, n9, c9), l9)) (by simp only [maxLen]; omega) (by omega) hsz ?_; intro g6 cap6 w6 hown6 hg6 hB6 hat6 hlt6)
              go_roundw
              case rel =>
                refine ⟨j + 1, _, cap6, qs ++ [((A9, n9, c9), l9)], by omega, by go_num, rfl, Lib.hid ?_, Lib.hid ?_, Lib.hid (HBW.out.trans hB6)⟩
                · rw [List.flatMap_append]
                  simpa [setc] using hown6
                · rw [take_snocI Hy.out, List.map_append, ← Hqs.out, List.map_singleton, pk_at Hp.out]
              case measure => simp [intOf]; omega
            · obtain rfl : j = m := by omega
              have hbw := HBW.out
              have Hq3 : Hid (qs.map (·.2) = ls) := Lib.hid (by rw [Hqs.out, pk_map, List.take_of_length_le (by rw [Hlc.out]; exact Nat.le_refl _), Hls.out])
              have hss : SetsS wr A3 j qs := ⟨Sl.of_own setc_len Hql.out HOW.out, fun p hp => by
                rw [Hqs.out] at hp
                obtain ⟨y, hy, rfl⟩ := List.mem_map.1 hp
                have h1 := HCS.out y (List.mem_of_mem_take hy)
                have h2 := HUS.out.2.2.ok _ (pk_mem (ps := l8) h1.1 (by rw [HUS.out.2.2.sl.len]; have := Hm8.out; omega))
                exact ⟨h2.1, h2.2.1, h2.2.2.keep (keeps_of hbw)⟩⟩
              clear HOW Hqs Hql
              replace hss := (And.intro hss hbw)
              have HSQ := Lib.hid hss.1
              have HU := Lib.hid (HUS.out.1.below hbw)
              have HX := Lib.hid (HUS.out.2.1.below hbw)
              clear hss hbw HUS HBW
              go_upto_region 16 with fail
              refine wp_region_planR [7] (lessB wr.drew.heap.size) anyW (lessB_trans _) anyW_trans (.one [0, 1] [] 2 (.one [] [] 3 (.one [4, 5] [6] 7 (.last [8] [])))) (by kernel_rfl) (by kernel_rfl) (fun _ _ d _ _ h => by cases d <;> exact h) ?_
              have hbd : Below wr.heap.size wr wr.drew := (Below.refl _ _).drew
              replace HU := Lib.hid (HU.out.below hbd)
              replace HX := Lib.hid (HX.out.below hbd)
              replace HSQ := Lib.hid (HSQ.out.keep (keeps_of hbd))
              clear hbd
              generalize hWd : wr.drew = wd at *
              clear hWd
              have HLO := Lib.hid HU.out.bo.lt
              have qo : ∀ (y : LaterR (lessB wd.heap.size) wd) z, (afterR (lessB wd.heap.size) wd y).cell? ⟨O, z, none⟩ = (#[.int .i64 x2, .bool f2, .slice A2 n2 c2] : Array Value)[z]? := fun y z => y.cell (HU.out.bo.cell z) (fun W h => (keep_blk HU.out.bo h HLO.out).cell z)
              unfold wpPlanR
              simp only [pickOps, opAt, List.map_cons, List.map_nil, List.getElem?_toArray, List.getElem?_cons_zero, List.getElem?_cons_succ, Option.getD_some]
              repeat (go_big_quiet_step (fail))
              refine wpQuiet_nil ?_
              repeat (go_big_quiet_step (fail))
              refine wpQuiet_nil ?_
              clear qo
              go_wp2_with fail
              refine (fbox_any A3 j c3 qs _ HSQ.out (by omega)).mono ?_
              rintro e w6 ⟨x4, f4, A4, n4, c4, rfl, hR4, hb4⟩
              rw [Hq3.out] at hR4
              go_wp2_with fail
              refine ⟨⟨fun _ => lessB_of hb4 (Nat.le_refl _), trivial⟩, ?_⟩
              have hle4 : wd.heap.size ≤ w6.heap.size := hb4.size
              have HR4 := Lib.hid hR4
              replace HU := Lib.hid (HU.out.below hb4)
              replace HX := Lib.hid (HX.out.below hb4)
              clear hb4 hR4 HSQ
              unfold wpPlanR
              simp only [pickOps, opAt, List.map_nil, List.getElem?_toArray, List.getElem?_cons_zero, List.getElem?_cons_succ, Option.getD_some]
              repeat (go_big_quiet_step (fail))
              refine wpQuiet_nil ?_
              repeat (go_big_quiet_step (fail))
              refine wpQuiet_nil ?_
              go_wp2_with fail
              refine (funion_any r2 x2 f2 A2 n2 c2 (boxR ls) x4 f4 A4 n4 c4 _ HU.out.rs HR4.out).mono ?_
              rintro e w7 ⟨x5, f5, A5, n5, c5, rfl, hR5, hb5⟩
              rw [opR_eq.1] at hR5 ⊢
              obtain ⟨e1, He1⟩ : ∃ z, Hid (opErr opUr r2 (boxR ls) = z) := ⟨_, rfl⟩
              rw [He1.out]
              go_wp2_with fail
              refine ⟨⟨fun _ => lessB_of hb5 hle4, trivial⟩, ?_⟩
              replace HU := Lib.hid (HU.out.below hb5)
              replace HX := Lib.hid (HX.out.below hb5)
              have HR5 := Lib.hid hR5
              clear hb5 hR5 HR4
              unfold wpPlanR
              simp only [pickOps, opAt, List.map_cons, List.map_nil, List.getElem?_toArray, List.getElem?_cons_zero, List.getElem?_cons_succ, Option.getD_some]
              repeat (go_big_quiet_step (fail))
              refine wpQuiet_nil ?_
              repeat (go_big_quiet_step (fail))
              refine wpQuiet_nil ?_
              have zr := HU.out.bo.cell
              obtain ⟨ff1, ff2, ff3⟩ := put3R_free HU.out.bo (.int .i64 x5) (.bool f5)
              have y3 := (put3R_blk (a' := .int .i64 x5) (b' := .bool f5) (c' := .slice A5 n5 c5) HU.out.bo).cell
              have y1 := (HU.out.bo.set_ 0 (.int .i64 x5)).cell
              have y2 := ((HU.out.bo.set_ 0 (.int .i64 x5)).set_ 1 (.bool f5)).cell
              have HU6 := Lib.hid (HU.out.put HR5.out)
              have HX6 := Lib.hid (HX.out.but (put3R_but w7 O (.int .i64 x5) (.bool f5) (.slice A5 n5 c5)) (fun q hq => by have := HOB.out; omega))
              unfold put3R at y3
              go_wp2_with fail
              refine ⟨⟨fun h => (h (by decide)).elim, trivial⟩, ?_⟩
              clear zr ff1 ff2 ff3 y1 y2 y3
              generalize hWW : put3R w7 O (.int .i64 x5) (.bool f5) (.slice A5 n5 c5) = w8 at *
              unfold put3R at hWW
              rw [hWW]
              clear hWW HU HX
              unfold wpPlanR
              simp only [pickOps, opAt, List.map_cons, List.map_nil, List.getElem?_toArray, List.getElem?_cons_zero, List.getElem?_cons_succ, Option.getD_some]
              repeat (go_big_quiet_step (fail))
              refine wpQuiet_nil ?_
              repeat (go_big_quiet_step (fail))
              refine wpQuiet_nil ?_
              rw [He1.out] at HST
              by_cases h0 : e1 = 0
              · subst h0
                have HI6 := Lib.hid (HST.out.1 rfl)
                go_wp2
                go_roundw
                case rel => exact ⟨k + 1, x5, f5, A5, n5, c5, _, by omega, by go_num, HU6, HX6, HI6⟩
                case measure => simp [intOf]; omega
              · have g3 : (e1 == 0) = false := by simp [h0]
                have HEr := Lib.hid (HST.out.2 h0)
                have HFin := Lib.hid (HU6.out.err e1)
                have zr := HU6.out.bz.cell
                obtain ⟨ff1, ff2, ff3⟩ := put3R_free HU6.out.bz (.int .i64 0) (.bool false)
                have y3 := (put3R_blk (a' := .int .i64 0) (b' := .bool false) (c' := .slice none 0 0) HU6.out.bz).cell
                have y1 := (HU6.out.bz.set_ 0 (.int .i64 0)).cell
                have y2 := ((HU6.out.bz.set_ 0 (.int .i64 0)).set_ 1 (.bool false)).cell
                unfold put3R at y3
                clear h0
                go_wp2
                refine bodyPost_ret (v := .tuple #[.agg #[.int .i64 0, .bool false, .slice none 0 0], .int .i64 e1]) (by simp [results, Tryz.results22, go_sem, y3]) rfl ?_
                rw [HRR.out.1, HRR.out.2, HEr.out.1, HEr.out.2]
                exact HFin.out
        · obtain rfl : k = n1 := by omega
          have hend : er = 0 ∧ rr = r2 := by
            have h1 := HI.out.1
            have h2 := HI.out.2
            rw [List.drop_of_length_le (by rw [Hbl.out]; exact Nat.le_refl _)] at h1 h2
            exact ⟨h1.symm, h2.symm⟩
          have HEr := Lib.hid hend
          have HFin := Lib.hid HU.out.fin
          have zo := HU.out.bo.cell
          have zr := HU.out.bz.cell
          obtain ⟨ff1, ff2, ff3⟩ := put3R_free HU.out.bz (.int .i64 x2) (.bool f2)
          have y3 := (put3R_blk (a' := .int .i64 x2) (b' := .bool f2) (c' := .slice A2 n2 c2) HU.out.bz).cell
          have y1 := (HU.out.bz.set_ 0 (.int .i64 x2)).cell
          have y2 := ((HU.out.bz.set_ 0 (.int .i64 x2)).set_ 1 (.bool f2)).cell
          unfold put3R at y3
          clear hend
          go_wp2
          refine bodyPost_ret (v := .tuple #[.agg #[.int .i64 x2, .bool f2, .slice A2 n2 c2], .int .i64 0]) (by simp [results, Tryz.results22, go_sem, y3]) rfl ?_
          rw [HRR.out.1, HRR.out.2, HEr.out.1, HEr.out.2]
          exact HFin.out
end Go.Proofs.YtmnmckblmoalkaaGreat

/-
  The reference's ForAll.
-/
namespace Go.Proofs.YtmnmckblmoalkaaGreat
open Go.RowKit
set_option maxRecDepth 100000
open Rg

set_option maxHeartbeats 4000000 in
theorem fforall_any (r : Rg) (x : Int) (f : Bool) (A : Option Addr) (n c : Nat) (Ac : Option Addr) (m cc : Nat) (cs : List Int) (w : World) (hR : RgS w x f A n c r) (hc : ClS w Ac m cs) : Calls Tryz.prog 24 #[.agg #[.int .i64 x, .bool f, .slice A n c], .slice Ac m cc] w fun e w' => RgRes w (faR r cs) (faE r cs) e w' := by
  have hx := hR.hw
  have HR := Lib.hid hR
  have HC := Lib.hid hc
  clear hR hc
  obtain ⟨W0, HW0⟩ : ∃ W9 : World, Hid ((w.alloc (.cells #[.int .i64 x, .bool f, .slice A n c] 27)).alloc (.cells #[.int .i64 0, .bool false, .slice none 0 0] 27) = W9) := ⟨_, rfl⟩
  have HB0 : Hid (Below w.heap.size w W0) := by
    rw [← HW0.out]
    exact Lib.hid (((Below.refl _ _).alloc (Nat.le_refl _) _).alloc (by simp) _)
  have HK0 : Hid (Blk W0 (w.heap.size) 27 #[.int .i64 x, .bool f, .slice A n c]) := by
    rw [← HW0.out]
    exact Lib.hid ((Blk.new _ _ _).alloc _)
  have HK1 : Hid (Blk W0 (w.heap.size + 1) 27 #[.int .i64 0, .bool false, .slice none 0 0]) := by
    rw [← HW0.out]
    exact Lib.hid (Blk.step (by simp))
  go_enter Tryz.func24, Tryz.ntmps24
  go_upto_region 1 with fail
  rw [HW0.out]
  clear HW0
  have z0 := HK0.out.cell
  go_wp2_with fail
  refine (fvalid_any r x f A n c _ (HR.out.keep (keeps_of HB0.out))).mono ?_
  rintro e w1 ⟨rfl, hb1⟩
  have HB1 := Lib.hid (Below.next HB0.out hb1)
  replace HK0 := Lib.hid (HK0.out.below hb1)
  replace HK1 := Lib.hid (HK1.out.below hb1)
  clear hb1 z0 HB0
  obtain ⟨vo, Hvo⟩ : ∃ z, Hid (okB r = z) := ⟨_, rfl⟩
  rw [Hvo.out]
  cases vo
  · have zr := HK1.out.cell
    obtain ⟨ff1, ff2, ff3⟩ := put3R_free HK1.out (.int .i64 0) (.bool false)
    have y3 := (put3R_blk (a' := .int .i64 0) (b' := .bool false) (c' := .slice none 0 0) HK1.out).cell
    have y1 := (HK1.out.set_ 0 (.int .i64 0)).cell
    have y2 := ((HK1.out.set_ 0 (.int .i64 0)).set_ 1 (.bool false)).cell
    unfold put3R at y3
    have HBr := Lib.hid (put3R_below HB1.out (show w.heap.size ≤ w.heap.size + 1 by omega) (.int .i64 0) (.bool false) (.slice none 0 0))
    have hEr : faE r cs = 40 ∧ faR r cs = zeroR := by
      have hn : ¬ okB r = true := by rw [Hvo.out]; decide
      have h2 : faE r cs = 40 := by unfold faE; rw [if_neg hn]
      exact ⟨h2, by unfold faR; rw [h2]; rfl⟩
    go_wp2
    refine bodyPost_ret (v := .tuple #[.agg #[.int .i64 0, .bool false, .slice none 0 0], .int .i64 40]) (by simp [results, Tryz.results24, go_sem, y3]) rfl ?_
    rw [hEr.1, hEr.2]
    exact RgRes.zero HBr.out
  · have Hok := Lib.hid (okB_true.1 Hvo.out)
    have hx12 : x ≤ 12 := by have := Hok.out.2.1; omega
    have z0 := HK0.out.cell
    go_wp2_with fail
    refine (fdistinct_any Ac m cc cs x _ (HC.out.keep (keeps_of HB1.out)) hx12).mono ?_
    rintro e w2 ⟨rfl, hb2⟩
    replace HB1 := Lib.hid (Below.next HB1.out hb2)
    replace HK0 := Lib.hid (HK0.out.below hb2)
    replace HK1 := Lib.hid (HK1.out.below hb2)
    clear hb2 z0
    obtain ⟨vd, Hvd⟩ : ∃ z, Hid (dstB x cs = z) := ⟨_, rfl⟩
    rw [Hvd.out]
    cases vd
    · have zr := HK1.out.cell
      obtain ⟨ff1, ff2, ff3⟩ := put3R_free HK1.out (.int .i64 0) (.bool false)
      have y3 := (put3R_blk (a' := .int .i64 0) (b' := .bool false) (c' := .slice none 0 0) HK1.out).cell
      have y1 := (HK1.out.set_ 0 (.int .i64 0)).cell
      have y2 := ((HK1.out.set_ 0 (.int .i64 0)).set_ 1 (.bool false)).cell
      unfold put3R at y3
      have HBr := Lib.hid (put3R_below HB1.out (show w.heap.size ≤ w.heap.size + 1 by omega) (.int .i64 0) (.bool false) (.slice none 0 0))
      have hEr : faE r cs = 1 ∧ faR r cs = zeroR := by
        have hn : ¬ dstB r.w cs = true := by rw [hx, Hvd.out]; decide
        have h2 : faE r cs = 1 := by unfold faE; rw [if_pos Hvo.out, if_neg hn]
        exact ⟨h2, by unfold faR; rw [h2]; rfl⟩
      go_wp2
      refine bodyPost_ret (v := .tuple #[.agg #[.int .i64 0, .bool false, .slice none 0 0], .int .i64 1]) (by simp [results, Tryz.results24, go_sem, y3]) rfl ?_
      rw [hEr.1, hEr.2]
      exact RgRes.zero HBr.out
    · have HFE : Hid (faE r cs = (if cpErr r = 0 then (if pjE (cpRes r) cs = 0 then cpErr (pjR (cpRes r) cs) else pjE (cpRes r) cs) else cpErr r)) := Lib.hid (by
        unfold faE
        rw [if_pos Hvo.out, hx, if_pos Hvd.out])
      have z0 := HK0.out.cell
      go_wp2_with fail
      refine (fcomplement_any r x f A n c _ (HR.out.keep (keeps_of HB1.out))).mono ?_
      rintro e w3 ⟨x3, f3, A3, n3, c3, rfl, hR3, hb3⟩
      obtain ⟨e1, He1⟩ : ∃ z, Hid (cpErr r = z) := ⟨_, rfl⟩
      rw [He1.out]
      obtain ⟨O, HO⟩ : ∃ z, Hid (w3.heap.size = z) := ⟨_, rfl⟩
      have hb4 : Below w3.heap.size w3 (w3.alloc (.cells #[.int .i64 x3, .bool f3, .slice A3 n3 c3] 27)) := (Below.refl _ _).alloc (Nat.le_refl _) _
      have HU : Hid (USt w O (w.heap.size + 1) x3 f3 A3 n3 c3 (cpRes r) (w3.alloc (.cells #[.int .i64 x3, .bool f3, .slice A3 n3 c3] 27))) := by
        have h1 := (HK1.out.below hb3).lt
        have h2 := HO.out
        exact Lib.hid ⟨by rw [← h2]; exact Blk.new _ _ _, (HK1.out.below hb3).below hb4, hR3.keep (keeps_of hb4), Below.next (Below.next HB1.out hb3) hb4, by omega, by omega, by omega⟩
      clear hb3 hb4 hR3 z0 HK0 HK1 HB1
      go_upto_region 6 with fail
      rw [HO.out]
      generalize hW4 : w3.alloc (.cells #[.int .i64 x3, .bool f3, .slice A3 n3 c3] 27) = W4 at *
      clear hW4 HO
      by_cases h1 : e1 = 0
      · subst h1
        rw [if_pos He1.out] at HFE
        have z0 := HU.out.bo.cell
        go_wp2_with fail
        refine (fproject_any (cpRes r) x3 f3 A3 n3 c3 Ac m cc cs _ HU.out.rs (HC.out.keep (keeps_of HU.out.bel))).mono ?_
        rintro e w5 ⟨x5, f5, A5, n5, c5, rfl, hR5, hb5⟩
        obtain ⟨e2, He2⟩ : ∃ z, Hid (pjE (cpRes r) cs = z) := ⟨_, rfl⟩
        rw [He2.out]
        replace HU := Lib.hid (HU.out.below hb5)
        have HR5 := Lib.hid hR5
        clear hb5 hR5 z0
        have zr := HU.out.bo.cell
        obtain ⟨ff1, ff2, ff3⟩ := put3R_free HU.out.bo (.int .i64 x5) (.bool f5)
        have y3 := (put3R_blk (a' := .int .i64 x5) (b' := .bool f5) (c' := .slice A5 n5 c5) HU.out.bo).cell
        have y1 := (HU.out.bo.set_ 0 (.int .i64 x5)).cell
        have y2 := ((HU.out.bo.set_ 0 (.int .i64 x5)).set_ 1 (.bool f5)).cell
        replace HU := Lib.hid (HU.out.put HR5.out)
        unfold put3R at y3
        go_upto_region 8 with fail
        clear zr ff1 ff2 ff3 y1 y2 y3
        generalize hWW : put3R w5 O (.int .i64 x5) (.bool f5) (.slice A5 n5 c5) = W5 at *
        unfold put3R at hWW
        rw [hWW]
        clear hWW
        by_cases h2 : e2 = 0
        · subst h2
          rw [if_pos He2.out] at HFE
          have z0 := HU.out.bo.cell
          go_wp2_with fail
          refine (fcomplement_any (pjR (cpRes r) cs) x5 f5 A5 n5 c5 _ HU.out.rs).mono ?_
          rintro e w6 ⟨x6, f6, A6, n6, c6, rfl, hR6, hb6⟩
          obtain ⟨e3, He3⟩ : ∃ z, Hid (cpErr (pjR (cpRes r) cs) = z) := ⟨_, rfl⟩
          rw [He3.out]
          rw [He3.out] at HFE
          have HFR : Hid (faR r cs = cpRes (pjR (cpRes r) cs)) := Lib.hid (by
            unfold faR
            rw [HFE.out]
            split
            · rfl
            · rename_i h
              rw [← He3.out] at h
              exact (cp_zero h).symm)
          replace HU := Lib.hid (HU.out.below hb6)
          have HR6 := Lib.hid hR6
          clear hb6 hR6 z0
          have zr := HU.out.bo.cell
          obtain ⟨ff1, ff2, ff3⟩ := put3R_free HU.out.bo (.int .i64 x6) (.bool f6)
          have y3 := (put3R_blk (a' := .int .i64 x6) (b' := .bool f6) (c' := .slice A6 n6 c6) HU.out.bo).cell
          have y1 := (HU.out.bo.set_ 0 (.int .i64 x6)).cell
          have y2 := ((HU.out.bo.set_ 0 (.int .i64 x6)).set_ 1 (.bool f6)).cell
          replace HU := Lib.hid (HU.out.put HR6.out)
          unfold put3R at y3
          go_upto_region 10 with fail
          clear zr ff1 ff2 ff3 y1 y2 y3
          generalize hWW : put3R w6 O (.int .i64 x6) (.bool f6) (.slice A6 n6 c6) = W6 at *
          unfold put3R at hWW
          rw [hWW]
          clear hWW
          by_cases h3 : e3 = 0
          · subst h3
            have zo := HU.out.bo.cell
            have zr := HU.out.bz.cell
            obtain ⟨ff1, ff2, ff3⟩ := put3R_free HU.out.bz (.int .i64 x6) (.bool f6)
            have y3 := (put3R_blk (a' := .int .i64 x6) (b' := .bool f6) (c' := .slice A6 n6 c6) HU.out.bz).cell
            have y1 := (HU.out.bz.set_ 0 (.int .i64 x6)).cell
            have y2 := ((HU.out.bz.set_ 0 (.int .i64 x6)).set_ 1 (.bool f6)).cell
            unfold put3R at y3
            have HFin := Lib.hid HU.out.fin
            go_wp2
            refine bodyPost_ret (v := .tuple #[.agg #[.int .i64 x6, .bool f6, .slice A6 n6 c6], .int .i64 0]) (by simp [results, Tryz.results24, go_sem, y3]) rfl ?_
            rw [HFR.out, HFE.out]
            exact HFin.out
          · have g3 : (e3 == 0) = false := by simp [h3]
            have H3 := Lib.hid h3
            clear h3
            have zr := HU.out.bz.cell
            obtain ⟨ff1, ff2, ff3⟩ := put3R_free HU.out.bz (.int .i64 0) (.bool false)
            have y3 := (put3R_blk (a' := .int .i64 0) (b' := .bool false) (c' := .slice none 0 0) HU.out.bz).cell
            have y1 := (HU.out.bz.set_ 0 (.int .i64 0)).cell
            have y2 := ((HU.out.bz.set_ 0 (.int .i64 0)).set_ 1 (.bool false)).cell
            unfold put3R at y3
            have HFin := Lib.hid (HU.out.err e3)
            have hEr : faE r cs = e3 ∧ faR r cs = zeroR := by
              have h := H3.out
              exact ⟨HFE.out, by unfold faR; rw [HFE.out, if_neg h]⟩
            go_wp2
            refine bodyPost_ret (v := .tuple #[.agg #[.int .i64 0, .bool false, .slice none 0 0], .int .i64 e3]) (by simp [results, Tryz.results24, go_sem, y3]) rfl ?_
            rw [hEr.1, hEr.2]
            exact HFin.out
        · have g3 : (e2 == 0) = false := by simp [h2]
          have h2' := h2
          have H2 := Lib.hid h2'
          clear h2 h2'
          have zr := HU.out.bz.cell
          obtain ⟨ff1, ff2, ff3⟩ := put3R_free HU.out.bz (.int .i64 0) (.bool false)
          have y3 := (put3R_blk (a' := .int .i64 0) (b' := .bool false) (c' := .slice none 0 0) HU.out.bz).cell
          have y1 := (HU.out.bz.set_ 0 (.int .i64 0)).cell
          have y2 := ((HU.out.bz.set_ 0 (.int .i64 0)).set_ 1 (.bool false)).cell
          unfold put3R at y3
          have HFin := Lib.hid (HU.out.err e2)
          have hEr : faE r cs = e2 ∧ faR r cs = zeroR := by
            have h := H2.out
            have h2 : faE r cs = e2 := by rw [HFE.out, if_neg (by rw [He2.out]; exact h), He2.out]
            exact ⟨h2, by unfold faR; rw [h2, if_neg h]⟩
          go_wp2
          refine bodyPost_ret (v := .tuple #[.agg #[.int .i64 0, .bool false, .slice none 0 0], .int .i64 e2]) (by simp [results, Tryz.results24, go_sem, y3]) rfl ?_
          rw [hEr.1, hEr.2]
          exact HFin.out
      · have g3 : (e1 == 0) = false := by simp [h1]
        have H1 := Lib.hid h1
        clear h1
        have zr := HU.out.bz.cell
        obtain ⟨ff1, ff2, ff3⟩ := put3R_free HU.out.bz (.int .i64 0) (.bool false)
        have y3 := (put3R_blk (a' := .int .i64 0) (b' := .bool false) (c' := .slice none 0 0) HU.out.bz).cell
        have y1 := (HU.out.bz.set_ 0 (.int .i64 0)).cell
        have y2 := ((HU.out.bz.set_ 0 (.int .i64 0)).set_ 1 (.bool false)).cell
        unfold put3R at y3
        have HFin := Lib.hid (HU.out.err e1)
        have hEr : faE r cs = e1 ∧ faR r cs = zeroR := by
          have h := H1.out
          have h2 : faE r cs = e1 := by rw [HFE.out, if_neg (by rw [He1.out]; exact h), He1.out]
          exact ⟨h2, by unfold faR; rw [h2, if_neg h]⟩
        go_wp2
        refine bodyPost_ret (v := .tuple #[.agg #[.int .i64 0, .bool false, .slice none 0 0], .int .i64 e1]) (by simp [results, Tryz.results24, go_sem, y3]) rfl ?_
        rw [hEr.1, hEr.2]
        exact HFin.out
end Go.Proofs.YtmnmckblmoalkaaGreat
