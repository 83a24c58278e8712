/-
  Texts: GProj, GFor.
-/
import Derived.Test.YtmnmckblmoalkaaGreatB48
set_option linter.unusedVariables false
/-
  The program's Project and Lift.
-/
namespace Go.Proofs.YtmnmckblmoalkaaGreat
open Go.RowKit
set_option maxRecDepth 100000
open Rg

theorem USt.res {w : World} {O Z : Nat} {x : Int} {f : Bool} {A : Option Addr} {n c : Nat} {r : Rg} {wr : World} (h : USt w O Z x f A n c r wr) {x' : Int} {f' : Bool} {A' : Option Addr} {n' c' : Nat} {r' : Rg} (hr : RgS wr x' f' A' n' c' r') (er : Int) : RgRes w r' er (.returned (.tuple #[.agg #[.int .i64 x', .bool f', .slice A' n' c'], .int .i64 er])) (put3R wr Z (.int .i64 x') (.bool f') (.slice A' n' c')) :=
  ⟨x', f', A', n', c', rfl, RgS.off h.bz (put3R_but wr Z _ _ _) hr, put3R_below h.bel h.hZ _ _ _⟩
theorem cpRes_wf {r : Rg} (h : WfR r) : WfR (cpRes r) := by
  unfold cpRes
  split
  · exact op_wf (all_wf _) h
  · trivial
theorem uniR_wf : ∀ {bs : List (List (List Iv))} {r : Rg}, (∀ b ∈ bs, wfB b) → WfR r → WfR (uniR bs r)
  | [], _, _, h => h
  | b :: l, r, hb, h => by
    unfold uniR
    split
    · exact uniR_wf (fun x hx => hb x (List.mem_cons_of_mem _ hx)) (op_wf h (box_wf _ (hb b List.mem_cons_self)))
    · trivial
theorem pjR_wf {r : Rg} (h : WfR r) (cs : List Int) : WfR (pjR r cs) := by
  unfold pjR
  split
  · split
    · refine uniR_wf (fun b hb => ?_) trivial
      obtain ⟨q, hq, rfl⟩ := List.mem_map.1 hb
      exact pick_wf (boxes_wf h q hq) cs
    · trivial
  · trivial
theorem cp_zero {r : Rg} (h : ¬ cpErr r = 0) : cpRes r = zeroR := by
  unfold cpErr at h
  unfold cpRes
  split at h
  · rename_i ho
    rw [if_pos ho]
    exact opRes_bad h
  · rename_i ho
    rw [if_neg ho]
set_option maxHeartbeats 4000000 in
theorem gproject_any (r : Rg) (x : Int) (f : Bool) (A : Option Addr) (n c : Nat) (Ac : Option Addr) (m cc : Nat) (cs : List Int) (w : World) (hR : RgS w x f A n c r) (wf : WfR r) (hc : ClS w Ac m cs) : Calls Tryz.prog 17 #[.agg #[.int .i64 x, .bool f, .slice A n c], .slice Ac m cc] w fun e w' => RgRes w (pjR r cs) (pjE r cs) e w' := by
  have hx := hR.hw
  have HR := Lib.hid hR
  have Hwf := Lib.hid wf
  have HC := Lib.hid hc
  have Hlc := Lib.hid hc.len
  clear hR wf hc
  obtain ⟨W0, HW0⟩ : ∃ W9 : World, Hid (((w.alloc (.cells #[.int .i64 x, .bool f, .slice A n c] 27)).alloc (.cells #[.slice Ac m cc] 30)).alloc (.cells #[.int .i64 0, .bool false, .slice none 0 0] 27) = W9) := ⟨_, rfl⟩
  have HB0 : Hid (Below w.heap.size w W0) := by
    rw [← HW0.out]
    exact Lib.hid ((((Below.refl _ _).alloc (Nat.le_refl _) _).alloc (by simp) _).alloc (by simp; omega) _)
  have HK0 : Hid (Blk W0 (w.heap.size) 27 #[.int .i64 x, .bool f, .slice A n c]) := by
    rw [← HW0.out]
    exact Lib.hid (((Blk.new _ _ _).alloc _).alloc _)
  have HK1 : Hid (Blk W0 (w.heap.size + 1) 30 #[.slice Ac m cc]) := by
    rw [← HW0.out]
    exact Lib.hid ((Blk.step (by simp)).alloc _)
  have HK2 : Hid (Blk W0 (w.heap.size + 1 + 1) 27 #[.int .i64 0, .bool false, .slice none 0 0]) := by
    rw [← HW0.out]
    exact Lib.hid (Blk.step (by simp))
  go_enter Tryz.func17, Tryz.ntmps17
  go_upto_region 1 with fail
  rw [HW0.out]
  clear HW0
  have z0 := HK0.out.cell
  go_wp2_with fail
  refine (rvalidR_any r x f A n c _ (HR.out.keep (keeps_of HB0.out))).mono ?_
  rintro e w1 ⟨rfl, hb1⟩
  have HB1 := Lib.hid (Below.next HB0.out hb1)
  replace HK0 := Lib.hid (HK0.out.below hb1)
  replace HK1 := Lib.hid (HK1.out.below hb1)
  replace HK2 := Lib.hid (HK2.out.below hb1)
  clear hb1 z0 HB0
  obtain ⟨vo, Hvo⟩ : ∃ z, Hid (okB r = z) := ⟨_, rfl⟩
  rw [Hvo.out]
  cases vo
  · have zr := HK2.out.cell
    obtain ⟨ff1, ff2, ff3⟩ := put3R_free HK2.out (.int .i64 0) (.bool false)
    have y3 := (put3R_blk (a' := .int .i64 0) (b' := .bool false) (c' := .slice none 0 0) HK2.out).cell
    have y1 := (HK2.out.set_ 0 (.int .i64 0)).cell
    have y2 := ((HK2.out.set_ 0 (.int .i64 0)).set_ 1 (.bool false)).cell
    unfold put3R at y3
    have HBr := Lib.hid (put3R_below HB1.out (show w.heap.size ≤ w.heap.size + 1 + 1 by omega) (.int .i64 0) (.bool false) (.slice none 0 0))
    have hEr : pjE r cs = 40 ∧ pjR r cs = zeroR := by
      have hn : ¬ okB r = true := by rw [Hvo.out]; decide
      unfold pjE pjR
      rw [if_neg hn, if_neg hn]
      exact ⟨rfl, rfl⟩
    go_wp2
    refine bodyPost_ret (v := .tuple #[.agg #[.int .i64 0, .bool false, .slice none 0 0], .int .i64 40]) (by simp [results, Tryz.results17, go_sem, y3]) rfl ?_
    rw [hEr.1, hEr.2]
    exact RgRes.zero HBr.out
  · have Hok := Lib.hid (okB_true.1 Hvo.out)
    have hx12 : x ≤ 12 := by have := Hok.out.2.1; omega
    have z0 := HK0.out.cell
    have z1 := HK1.out.cell
    go_wp2_with fail
    refine (gdistinct_any Ac m cc cs x _ (HC.out.keep (keeps_of HB1.out)) hx12).mono ?_
    rintro e w2 ⟨rfl, hb2⟩
    replace HB1 := Lib.hid (Below.next HB1.out hb2)
    replace HK0 := Lib.hid (HK0.out.below hb2)
    replace HK1 := Lib.hid (HK1.out.below hb2)
    replace HK2 := Lib.hid (HK2.out.below hb2)
    clear hb2 z0 z1
    obtain ⟨vd, Hvd⟩ : ∃ z, Hid (dstB x cs = z) := ⟨_, rfl⟩
    rw [Hvd.out]
    cases vd
    · have zr := HK2.out.cell
      obtain ⟨ff1, ff2, ff3⟩ := put3R_free HK2.out (.int .i64 0) (.bool false)
      have y3 := (put3R_blk (a' := .int .i64 0) (b' := .bool false) (c' := .slice none 0 0) HK2.out).cell
      have y1 := (HK2.out.set_ 0 (.int .i64 0)).cell
      have y2 := ((HK2.out.set_ 0 (.int .i64 0)).set_ 1 (.bool false)).cell
      unfold put3R at y3
      have HBr := Lib.hid (put3R_below HB1.out (show w.heap.size ≤ w.heap.size + 1 + 1 by omega) (.int .i64 0) (.bool false) (.slice none 0 0))
      have hEr : pjE r cs = 1 ∧ pjR r cs = zeroR := by
        have hn : ¬ dstB r.w cs = true := by rw [hx, Hvd.out]; decide
        unfold pjE pjR
        rw [if_pos Hvo.out, if_pos Hvo.out, if_neg hn, if_neg hn]
        exact ⟨rfl, rfl⟩
      go_wp2
      refine bodyPost_ret (v := .tuple #[.agg #[.int .i64 0, .bool false, .slice none 0 0], .int .i64 1]) (by simp [results, Tryz.results17, go_sem, y3]) rfl ?_
      rw [hEr.1, hEr.2]
      exact RgRes.zero HBr.out
    · have hm12 : m ≤ 12 := by have := dst_len Hvd.out hx12; have := Hlc.out; omega
      have z0 := HK0.out.cell
      have z1 := HK1.out.cell
      go_wp2_with fail
      refine (gunite1_any r x f A n c (w.heap.size + 1) Ac m cc cs _ (HR.out.keep (keeps_of HB1.out)) Hok.out Hwf.out HK1.out (HC.out.keep (keeps_of HB1.out)) (fun z hz => by have h1 := (dstB_true.1 Hvd.out).1 z hz; omega) hm12).mono ?_
      rintro e w3 ⟨x3, f3, A3, n3, c3, rfl, hR3, hb3⟩
      have hE : pjE r cs = uniE ((boxesR r).map (pickL cs)) (.nil (m : Int) false) ∧ pjR r cs = uniR ((boxesR r).map (pickL cs)) (.nil (m : Int) false) := by
        unfold pjE pjR
        rw [if_pos Hvo.out, if_pos Hvo.out, hx, if_pos Hvd.out, if_pos Hvd.out, Hlc.out]
        exact ⟨rfl, rfl⟩
      rw [← hE.2] at hR3
      rw [← hE.1]
      obtain ⟨er, Her⟩ : ∃ z, Hid (pjE r cs = z) := ⟨_, rfl⟩
      rw [Her.out]
      obtain ⟨rr, Hrr⟩ : ∃ z, Hid (pjR r cs = z) := ⟨_, rfl⟩
      rw [Hrr.out] at hR3
      replace HB1 := Lib.hid (Below.next HB1.out hb3)
      replace HK0 := Lib.hid (HK0.out.below hb3)
      replace HK1 := Lib.hid (HK1.out.below hb3)
      replace HK2 := Lib.hid (HK2.out.below hb3)
      have HR3 := Lib.hid hR3
      clear hb3 z0 z1 hE hR3
      have zr := HK2.out.cell
      obtain ⟨ff1, ff2, ff3⟩ := put3R_free HK2.out (.int .i64 x3) (.bool f3)
      have y3 := (put3R_blk (a' := .int .i64 x3) (b' := .bool f3) (c' := .slice A3 n3 c3) HK2.out).cell
      have y1 := (HK2.out.set_ 0 (.int .i64 x3)).cell
      have y2 := ((HK2.out.set_ 0 (.int .i64 x3)).set_ 1 (.bool f3)).cell
      unfold put3R at y3
      have HBr := Lib.hid (put3R_below HB1.out (show w.heap.size ≤ w.heap.size + 1 + 1 by omega) (.int .i64 x3) (.bool f3) (.slice A3 n3 c3))
      have HRr := Lib.hid (RgS.off HK2.out (put3R_but _ (w.heap.size + 1 + 1) (.int .i64 x3) (.bool f3) (.slice A3 n3 c3)) HR3.out)
      go_wp2
      refine bodyPost_ret (v := .tuple #[.agg #[.int .i64 x3, .bool f3, .slice A3 n3 c3], .int .i64 er]) (by simp [results, Tryz.results17, go_sem, y3]) rfl ?_
      rw [Hrr.out, Her.out]
      exact ⟨x3, f3, A3, n3, c3, rfl, HRr.out, HBr.out⟩
set_option maxHeartbeats 4000000 in
theorem glift_any (r : Rg) (x : Int) (f : Bool) (A : Option Addr) (n c : Nat) (Ac : Option Addr) (m cc : Nat) (cs : List Int) (W : Int) (w : World) (hR : RgS w x f A n c r) (wf : WfR r) (hc : ClS w Ac m cs) : Calls Tryz.prog 20 #[.agg #[.int .i64 x, .bool f, .slice A n c], .slice Ac m cc, .int .i64 W] w fun e w' => RgRes w (lfR r cs W) (lfE r cs W) e w' := by
  have hx := hR.hw
  have HR := Lib.hid hR
  have Hwf := Lib.hid wf
  have HC := Lib.hid hc
  have Hlc := Lib.hid hc.len
  clear hR wf hc
  obtain ⟨W0, HW0⟩ : ∃ W9 : World, Hid ((((w.alloc (.cells #[.int .i64 x, .bool f, .slice A n c] 27)).alloc (.cells #[.slice Ac m cc] 30)).alloc (.cells #[.int .i64 W] 3)).alloc (.cells #[.int .i64 0, .bool false, .slice none 0 0] 27) = W9) := ⟨_, rfl⟩
  have HB0 : Hid (Below w.heap.size w W0) := by
    rw [← HW0.out]
    exact Lib.hid (((((Below.refl _ _).alloc (Nat.le_refl _) _).alloc (by simp) _).alloc (by simp; omega) _).alloc (by simp; omega) _)
  have HK0 : Hid (Blk W0 (w.heap.size) 27 #[.int .i64 x, .bool f, .slice A n c]) := by
    rw [← HW0.out]
    exact Lib.hid ((((Blk.new _ _ _).alloc _).alloc _).alloc _)
  have HK1 : Hid (Blk W0 (w.heap.size + 1) 30 #[.slice Ac m cc]) := by
    rw [← HW0.out]
    exact Lib.hid (((Blk.step (by simp)).alloc _).alloc _)
  have HK2 : Hid (Blk W0 (w.heap.size + 1 + 1) 3 #[.int .i64 W]) := by
    rw [← HW0.out]
    exact Lib.hid ((Blk.step (by simp)).alloc _)
  have HK3 : Hid (Blk W0 (w.heap.size + 1 + 1 + 1) 27 #[.int .i64 0, .bool false, .slice none 0 0]) := by
    rw [← HW0.out]
    exact Lib.hid (Blk.step (by simp))
  go_enter Tryz.func20, Tryz.ntmps20
  go_upto_region 1 with fail
  rw [HW0.out]
  clear HW0
  have z0 := HK0.out.cell
  go_wp2_with fail
  refine (rvalidR_any r x f A n c _ (HR.out.keep (keeps_of HB0.out))).mono ?_
  rintro e w1 ⟨rfl, hb1⟩
  have HB1 := Lib.hid (Below.next HB0.out hb1)
  replace HK0 := Lib.hid (HK0.out.below hb1)
  replace HK1 := Lib.hid (HK1.out.below hb1)
  replace HK2 := Lib.hid (HK2.out.below hb1)
  replace HK3 := Lib.hid (HK3.out.below hb1)
  clear hb1 z0 HB0
  obtain ⟨vo, Hvo⟩ : ∃ z, Hid (okB r = z) := ⟨_, rfl⟩
  rw [Hvo.out]
  have z0 := HK0.out.cell
  have z1 := HK1.out.cell
  have z2 := HK2.out.cell
  cases vo
  · have zr := HK3.out.cell
    obtain ⟨ff1, ff2, ff3⟩ := put3R_free HK3.out (.int .i64 0) (.bool false)
    have y3 := (put3R_blk (a' := .int .i64 0) (b' := .bool false) (c' := .slice none 0 0) HK3.out).cell
    have y1 := (HK3.out.set_ 0 (.int .i64 0)).cell
    have y2 := ((HK3.out.set_ 0 (.int .i64 0)).set_ 1 (.bool false)).cell
    unfold put3R at y3
    have HBr := Lib.hid (put3R_below HB1.out (show w.heap.size ≤ w.heap.size + 1 + 1 + 1 by omega) (.int .i64 0) (.bool false) (.slice none 0 0))
    have hEr : lfE r cs W = 40 ∧ lfR r cs W = zeroR := by
      have hn : ¬ (okB r = true ∧ (cs.length : Int) = r.w) := fun h => by rw [Hvo.out] at h; cases h.1
      unfold lfE lfR
      rw [if_neg hn, if_neg hn]
      exact ⟨rfl, rfl⟩
    go_wp2
    refine bodyPost_ret (v := .tuple #[.agg #[.int .i64 0, .bool false, .slice none 0 0], .int .i64 40]) (by simp [results, Tryz.results20, go_sem, y3]) rfl ?_
    rw [hEr.1, hEr.2]
    exact RgRes.zero HBr.out
  · have Hok := Lib.hid (okB_true.1 Hvo.out)
    have hx12 : x ≤ 12 := by have := Hok.out.2.1; omega
    by_cases hmx : (m : Int) = x
    · have g1 : ((m : Int) == x) = true := by simp [hmx]
      have Hmx := Lib.hid hmx
      clear hmx
      rcases Int.lt_or_le W 0 with h0 | h0
      · have g2 : decide (W < 0) = true := by simp; omega
        have zr := HK3.out.cell
        obtain ⟨ff1, ff2, ff3⟩ := put3R_free HK3.out (.int .i64 0) (.bool false)
        have y3 := (put3R_blk (a' := .int .i64 0) (b' := .bool false) (c' := .slice none 0 0) HK3.out).cell
        have y1 := (HK3.out.set_ 0 (.int .i64 0)).cell
        have y2 := ((HK3.out.set_ 0 (.int .i64 0)).set_ 1 (.bool false)).cell
        unfold put3R at y3
        have HBr := Lib.hid (put3R_below HB1.out (show w.heap.size ≤ w.heap.size + 1 + 1 + 1 by omega) (.int .i64 0) (.bool false) (.slice none 0 0))
        have hEr : lfE r cs W = 1 ∧ lfR r cs W = zeroR := by
          have hp : okB r = true ∧ (cs.length : Int) = r.w := ⟨Hvo.out, by rw [Hlc.out, hx, Hmx.out]⟩
          have hn : ¬ ((0 ≤ W ∧ W ≤ 12) ∧ dstB W cs = true) := fun h => by omega
          unfold lfE lfR
          rw [if_pos hp, if_pos hp, if_neg hn, if_neg hn]
          exact ⟨rfl, rfl⟩
        go_wp2
        refine bodyPost_ret (v := .tuple #[.agg #[.int .i64 0, .bool false, .slice none 0 0], .int .i64 1]) (by simp [results, Tryz.results20, go_sem, y3]) rfl ?_
        rw [hEr.1, hEr.2]
        exact RgRes.zero HBr.out
      · have g2 : decide (W < 0) = false := by simp; omega
        rcases Int.lt_or_le 12 W with h1 | h1
        · have g3 : decide (12 < W) = true := by simp; omega
          have zr := HK3.out.cell
          obtain ⟨ff1, ff2, ff3⟩ := put3R_free HK3.out (.int .i64 0) (.bool false)
          have y3 := (put3R_blk (a' := .int .i64 0) (b' := .bool false) (c' := .slice none 0 0) HK3.out).cell
          have y1 := (HK3.out.set_ 0 (.int .i64 0)).cell
          have y2 := ((HK3.out.set_ 0 (.int .i64 0)).set_ 1 (.bool false)).cell
          unfold put3R at y3
          have HBr := Lib.hid (put3R_below HB1.out (show w.heap.size ≤ w.heap.size + 1 + 1 + 1 by omega) (.int .i64 0) (.bool false) (.slice none 0 0))
          have hEr : lfE r cs W = 1 ∧ lfR r cs W = zeroR := by
            have hp : okB r = true ∧ (cs.length : Int) = r.w := ⟨Hvo.out, by rw [Hlc.out, hx, Hmx.out]⟩
            have hn : ¬ ((0 ≤ W ∧ W ≤ 12) ∧ dstB W cs = true) := fun h => by omega
            unfold lfE lfR
            rw [if_pos hp, if_pos hp, if_neg hn, if_neg hn]
            exact ⟨rfl, rfl⟩
          go_wp2
          refine bodyPost_ret (v := .tuple #[.agg #[.int .i64 0, .bool false, .slice none 0 0], .int .i64 1]) (by simp [results, Tryz.results20, go_sem, y3]) rfl ?_
          rw [hEr.1, hEr.2]
          exact RgRes.zero HBr.out
        · have g3 : decide (12 < W) = false := by simp; omega
          have HW12 := Lib.hid (And.intro h0 h1)
          go_wp2_with fail
          refine (gdistinct_any Ac m cc cs W _ (HC.out.keep (keeps_of HB1.out)) h1).mono ?_
          rintro e w2 ⟨rfl, hb2⟩
          replace HB1 := Lib.hid (Below.next HB1.out hb2)
          replace HK0 := Lib.hid (HK0.out.below hb2)
          replace HK1 := Lib.hid (HK1.out.below hb2)
          replace HK2 := Lib.hid (HK2.out.below hb2)
          replace HK3 := Lib.hid (HK3.out.below hb2)
          clear hb2 z0 z1 z2
          obtain ⟨vd, Hvd⟩ : ∃ z, Hid (dstB W cs = z) := ⟨_, rfl⟩
          rw [Hvd.out]
          have z0 := HK0.out.cell
          have z1 := HK1.out.cell
          have z2 := HK2.out.cell
          cases vd
          · have zr := HK3.out.cell
            obtain ⟨ff1, ff2, ff3⟩ := put3R_free HK3.out (.int .i64 0) (.bool false)
            have y3 := (put3R_blk (a' := .int .i64 0) (b' := .bool false) (c' := .slice none 0 0) HK3.out).cell
            have y1 := (HK3.out.set_ 0 (.int .i64 0)).cell
            have y2 := ((HK3.out.set_ 0 (.int .i64 0)).set_ 1 (.bool false)).cell
            unfold put3R at y3
            have HBr := Lib.hid (put3R_below HB1.out (show w.heap.size ≤ w.heap.size + 1 + 1 + 1 by omega) (.int .i64 0) (.bool false) (.slice none 0 0))
            have hEr : lfE r cs W = 1 ∧ lfR r cs W = zeroR := by
              have hp : okB r = true ∧ (cs.length : Int) = r.w := ⟨Hvo.out, by rw [Hlc.out, hx, Hmx.out]⟩
              have hn : ¬ ((0 ≤ W ∧ W ≤ 12) ∧ dstB W cs = true) := fun h => by have h2 := h.2; rw [Hvd.out] at h2; cases h2
              unfold lfE lfR
              rw [if_pos hp, if_pos hp, if_neg hn, if_neg hn]
              exact ⟨rfl, rfl⟩
            go_wp2
            refine bodyPost_ret (v := .tuple #[.agg #[.int .i64 0, .bool false, .slice none 0 0], .int .i64 1]) (by simp [results, Tryz.results20, go_sem, y3]) rfl ?_
            rw [hEr.1, hEr.2]
            exact RgRes.zero HBr.out
          · obtain ⟨N, rfl⟩ := Int.eq_ofNat_of_zero_le h0
            have hN : N ≤ 12 := by omega
            clear h0 h1
            go_wp2_with fail
            refine (gunite2_any r x f A n c (w.heap.size + 1 + 1) (w.heap.size + 1) N Ac m cc cs _ (HR.out.keep (keeps_of HB1.out)) Hok.out Hwf.out HK2.out HK1.out (HC.out.keep (keeps_of HB1.out)) (dstB_true.1 Hvd.out).1 (by have := Hmx.out; omega) hN).mono ?_
            rintro e w3 ⟨x3, f3, A3, n3, c3, rfl, hR3, hb3⟩
            have hE : lfE r cs (N : Int) = uniE ((boxesR r).map (liftL N cs)) (.nil (N : Int) false) ∧ lfR r cs (N : Int) = uniR ((boxesR r).map (liftL N cs)) (.nil (N : Int) false) := by
              have hp : okB r = true ∧ (cs.length : Int) = r.w := ⟨Hvo.out, by rw [Hlc.out, hx, Hmx.out]⟩
              have hp2 : (0 ≤ (N : Int) ∧ (N : Int) ≤ 12) ∧ dstB (N : Int) cs = true := ⟨HW12.out, Hvd.out⟩
              unfold lfE lfR
              rw [if_pos hp, if_pos hp, if_pos hp2, if_pos hp2, Int.toNat_natCast]
              exact ⟨rfl, rfl⟩
            rw [← hE.2] at hR3
            rw [← hE.1]
            obtain ⟨er, Her⟩ : ∃ z, Hid (lfE r cs (N : Int) = z) := ⟨_, rfl⟩
            rw [Her.out]
            obtain ⟨rr, Hrr⟩ : ∃ z, Hid (lfR r cs (N : Int) = z) := ⟨_, rfl⟩
            rw [Hrr.out] at hR3
            replace HB1 := Lib.hid (Below.next HB1.out hb3)
            replace HK0 := Lib.hid (HK0.out.below hb3)
            replace HK1 := Lib.hid (HK1.out.below hb3)
            replace HK2 := Lib.hid (HK2.out.below hb3)
            replace HK3 := Lib.hid (HK3.out.below hb3)
            have HR3 := Lib.hid hR3
            clear hb3 z0 z1 z2 hE hR3
            have zr := HK3.out.cell
            obtain ⟨ff1, ff2, ff3⟩ := put3R_free HK3.out (.int .i64 x3) (.bool f3)
            have y3 := (put3R_blk (a' := .int .i64 x3) (b' := .bool f3) (c' := .slice A3 n3 c3) HK3.out).cell
            have y1 := (HK3.out.set_ 0 (.int .i64 x3)).cell
            have y2 := ((HK3.out.set_ 0 (.int .i64 x3)).set_ 1 (.bool f3)).cell
            unfold put3R at y3
            have HBr := Lib.hid (put3R_below HB1.out (show w.heap.size ≤ w.heap.size + 1 + 1 + 1 by omega) (.int .i64 x3) (.bool f3) (.slice A3 n3 c3))
            have HRr := Lib.hid (RgS.off HK3.out (put3R_but _ (w.heap.size + 1 + 1 + 1) (.int .i64 x3) (.bool f3) (.slice A3 n3 c3)) HR3.out)
            go_wp2
            refine bodyPost_ret (v := .tuple #[.agg #[.int .i64 x3, .bool f3, .slice A3 n3 c3], .int .i64 er]) (by simp [results, Tryz.results20, go_sem, y3]) rfl ?_
            rw [Hrr.out, Her.out]
            exact ⟨x3, f3, A3, n3, c3, rfl, HRr.out, HBr.out⟩
    · have g1 : ((m : Int) == x) = false := by simp [hmx]
      have zr := HK3.out.cell
      obtain ⟨ff1, ff2, ff3⟩ := put3R_free HK3.out (.int .i64 0) (.bool false)
      have y3 := (put3R_blk (a' := .int .i64 0) (b' := .bool false) (c' := .slice none 0 0) HK3.out).cell
      have y1 := (HK3.out.set_ 0 (.int .i64 0)).cell
      have y2 := ((HK3.out.set_ 0 (.int .i64 0)).set_ 1 (.bool false)).cell
      unfold put3R at y3
      have HBr := Lib.hid (put3R_below HB1.out (show w.heap.size ≤ w.heap.size + 1 + 1 + 1 by omega) (.int .i64 0) (.bool false) (.slice none 0 0))
      have hEr : lfE r cs W = 40 ∧ lfR r cs W = zeroR := by
        have hn : ¬ (okB r = true ∧ (cs.length : Int) = r.w) := fun h => by have h2 := h.2; rw [Hlc.out, hx] at h2; exact hmx h2
        unfold lfE lfR
        rw [if_neg hn, if_neg hn]
        exact ⟨rfl, rfl⟩
      go_wp2
      refine bodyPost_ret (v := .tuple #[.agg #[.int .i64 0, .bool false, .slice none 0 0], .int .i64 40]) (by simp [results, Tryz.results20, go_sem, y3]) rfl ?_
      rw [hEr.1, hEr.2]
      exact RgRes.zero HBr.out
end Go.Proofs.YtmnmckblmoalkaaGreat

/-
  The program's ForAll.
-/
namespace Go.Proofs.YtmnmckblmoalkaaGreat
open Go.RowKit
set_option maxRecDepth 100000
open Rg

set_option maxHeartbeats 4000000 in
theorem gforall_any (r : Rg) (x : Int) (f : Bool) (A : Option Addr) (n c : Nat) (Ac : Option Addr) (m cc : Nat) (cs : List Int) (w : World) (hR : RgS w x f A n c r) (wf : WfR r) (hc : ClS w Ac m cs) : Calls Tryz.prog 23 #[.agg #[.int .i64 x, .bool f, .slice A n c], .slice Ac m cc] w fun e w' => RgRes w (faR r cs) (faE r cs) e w' := by
  have hx := hR.hw
  have HR := Lib.hid hR
  have Hwf := Lib.hid wf
  have HC := Lib.hid hc
  clear hR hc
  obtain ⟨W0, HW0⟩ : ∃ W9 : World, Hid ((w.alloc (.cells #[.int .i64 x, .bool f, .slice A n c] 27)).alloc (.cells #[.int .i64 0, .bool false, .slice none 0 0] 27) = W9) := ⟨_, rfl⟩
  have HB0 : Hid (Below w.heap.size w W0) := by
    rw [← HW0.out]
    exact Lib.hid (((Below.refl _ _).alloc (Nat.le_refl _) _).alloc (by simp) _)
  have HK0 : Hid (Blk W0 (w.heap.size) 27 #[.int .i64 x, .bool f, .slice A n c]) := by
    rw [← HW0.out]
    exact Lib.hid ((Blk.new _ _ _).alloc _)
  have HK1 : Hid (Blk W0 (w.heap.size + 1) 27 #[.int .i64 0, .bool false, .slice none 0 0]) := by
    rw [← HW0.out]
    exact Lib.hid (Blk.step (by simp))
  go_enter Tryz.func23, Tryz.ntmps23
  go_upto_region 1 with fail
  rw [HW0.out]
  clear HW0
  have z0 := HK0.out.cell
  go_wp2_with fail
  refine (rvalidR_any r x f A n c _ (HR.out.keep (keeps_of HB0.out))).mono ?_
  rintro e w1 ⟨rfl, hb1⟩
  have HB1 := Lib.hid (Below.next HB0.out hb1)
  replace HK0 := Lib.hid (HK0.out.below hb1)
  replace HK1 := Lib.hid (HK1.out.below hb1)
  clear hb1 z0 HB0
  obtain ⟨vo, Hvo⟩ : ∃ z, Hid (okB r = z) := ⟨_, rfl⟩
  rw [Hvo.out]
  cases vo
  · have zr := HK1.out.cell
    obtain ⟨ff1, ff2, ff3⟩ := put3R_free HK1.out (.int .i64 0) (.bool false)
    have y3 := (put3R_blk (a' := .int .i64 0) (b' := .bool false) (c' := .slice none 0 0) HK1.out).cell
    have y1 := (HK1.out.set_ 0 (.int .i64 0)).cell
    have y2 := ((HK1.out.set_ 0 (.int .i64 0)).set_ 1 (.bool false)).cell
    unfold put3R at y3
    have HBr := Lib.hid (put3R_below HB1.out (show w.heap.size ≤ w.heap.size + 1 by omega) (.int .i64 0) (.bool false) (.slice none 0 0))
    have hEr : faE r cs = 40 ∧ faR r cs = zeroR := by
      have hn : ¬ okB r = true := by rw [Hvo.out]; decide
      have h2 : faE r cs = 40 := by unfold faE; rw [if_neg hn]
      exact ⟨h2, by unfold faR; rw [h2]; rfl⟩
    go_wp2
    refine bodyPost_ret (v := .tuple #[.agg #[.int .i64 0, .bool false, .slice none 0 0], .int .i64 40]) (by simp [results, Tryz.results23, go_sem, y3]) rfl ?_
    rw [hEr.1, hEr.2]
    exact RgRes.zero HBr.out
  · have Hok := Lib.hid (okB_true.1 Hvo.out)
    have hx12 : x ≤ 12 := by have := Hok.out.2.1; omega
    have z0 := HK0.out.cell
    go_wp2_with fail
    refine (gdistinct_any Ac m cc cs x _ (HC.out.keep (keeps_of HB1.out)) hx12).mono ?_
    rintro e w2 ⟨rfl, hb2⟩
    replace HB1 := Lib.hid (Below.next HB1.out hb2)
    replace HK0 := Lib.hid (HK0.out.below hb2)
    replace HK1 := Lib.hid (HK1.out.below hb2)
    clear hb2 z0
    obtain ⟨vd, Hvd⟩ : ∃ z, Hid (dstB x cs = z) := ⟨_, rfl⟩
    rw [Hvd.out]
    cases vd
    · have zr := HK1.out.cell
      obtain ⟨ff1, ff2, ff3⟩ := put3R_free HK1.out (.int .i64 0) (.bool false)
      have y3 := (put3R_blk (a' := .int .i64 0) (b' := .bool false) (c' := .slice none 0 0) HK1.out).cell
      have y1 := (HK1.out.set_ 0 (.int .i64 0)).cell
      have y2 := ((HK1.out.set_ 0 (.int .i64 0)).set_ 1 (.bool false)).cell
      unfold put3R at y3
      have HBr := Lib.hid (put3R_below HB1.out (show w.heap.size ≤ w.heap.size + 1 by omega) (.int .i64 0) (.bool false) (.slice none 0 0))
      have hEr : faE r cs = 1 ∧ faR r cs = zeroR := by
        have hn : ¬ dstB r.w cs = true := by rw [hx, Hvd.out]; decide
        have h2 : faE r cs = 1 := by unfold faE; rw [if_pos Hvo.out, if_neg hn]
        exact ⟨h2, by unfold faR; rw [h2]; rfl⟩
      go_wp2
      refine bodyPost_ret (v := .tuple #[.agg #[.int .i64 0, .bool false, .slice none 0 0], .int .i64 1]) (by simp [results, Tryz.results23, go_sem, y3]) rfl ?_
      rw [hEr.1, hEr.2]
      exact RgRes.zero HBr.out
    · have HFE : Hid (faE r cs = (if cpErr r = 0 then (if pjE (cpRes r) cs = 0 then cpErr (pjR (cpRes r) cs) else pjE (cpRes r) cs) else cpErr r)) := Lib.hid (by
        unfold faE
        rw [if_pos Hvo.out, hx, if_pos Hvd.out])
      have z0 := HK0.out.cell
      go_wp2_with fail
      refine (gcomplement_any r x f A n c _ (HR.out.keep (keeps_of HB1.out)) (Hwf.out)).mono ?_
      rintro e w3 ⟨x3, f3, A3, n3, c3, rfl, hR3, hb3⟩
      obtain ⟨e1, He1⟩ : ∃ z, Hid (cpErr r = z) := ⟨_, rfl⟩
      rw [He1.out]
      obtain ⟨O, HO⟩ : ∃ z, Hid (w3.heap.size = z) := ⟨_, rfl⟩
      have hb4 : Below w3.heap.size w3 (w3.alloc (.cells #[.int .i64 x3, .bool f3, .slice A3 n3 c3] 27)) := (Below.refl _ _).alloc (Nat.le_refl _) _
      have HU : Hid (USt w O (w.heap.size + 1) x3 f3 A3 n3 c3 (cpRes r) (w3.alloc (.cells #[.int .i64 x3, .bool f3, .slice A3 n3 c3] 27))) := by
        have h1 := (HK1.out.below hb3).lt
        have h2 := HO.out
        exact Lib.hid ⟨by rw [← h2]; exact Blk.new _ _ _, (HK1.out.below hb3).below hb4, hR3.keep (keeps_of hb4), Below.next (Below.next HB1.out hb3) hb4, by omega, by omega, by omega⟩
      clear hb3 hb4 hR3 z0 HK0 HK1 HB1
      go_upto_region 6 with fail
      rw [HO.out]
      generalize hW4 : w3.alloc (.cells #[.int .i64 x3, .bool f3, .slice A3 n3 c3] 27) = W4 at *
      clear hW4 HO
      by_cases h1 : e1 = 0
      · subst h1
        rw [if_pos He1.out] at HFE
        have z0 := HU.out.bo.cell
        go_wp2_with fail
        refine (gproject_any (cpRes r) x3 f3 A3 n3 c3 Ac m cc cs _ HU.out.rs (cpRes_wf Hwf.out) (HC.out.keep (keeps_of HU.out.bel))).mono ?_
        rintro e w5 ⟨x5, f5, A5, n5, c5, rfl, hR5, hb5⟩
        obtain ⟨e2, He2⟩ : ∃ z, Hid (pjE (cpRes r) cs = z) := ⟨_, rfl⟩
        rw [He2.out]
        replace HU := Lib.hid (HU.out.below hb5)
        have HR5 := Lib.hid hR5
        clear hb5 hR5 z0
        have zr := HU.out.bo.cell
        obtain ⟨ff1, ff2, ff3⟩ := put3R_free HU.out.bo (.int .i64 x5) (.bool f5)
        have y3 := (put3R_blk (a' := .int .i64 x5) (b' := .bool f5) (c' := .slice A5 n5 c5) HU.out.bo).cell
        have y1 := (HU.out.bo.set_ 0 (.int .i64 x5)).cell
        have y2 := ((HU.out.bo.set_ 0 (.int .i64 x5)).set_ 1 (.bool f5)).cell
        replace HU := Lib.hid (HU.out.put HR5.out)
        unfold put3R at y3
        go_upto_region 9 with fail
        clear zr ff1 ff2 ff3 y1 y2 y3
        generalize hWW : put3R w5 O (.int .i64 x5) (.bool f5) (.slice A5 n5 c5) = W5 at *
        unfold put3R at hWW
        rw [hWW]
        clear hWW
        by_cases h2 : e2 = 0
        · subst h2
          rw [if_pos He2.out] at HFE
          have z0 := HU.out.bo.cell
          go_wp2_with fail
          refine (gcomplement_any (pjR (cpRes r) cs) x5 f5 A5 n5 c5 _ HU.out.rs (pjR_wf (cpRes_wf Hwf.out) cs)).mono ?_
          rintro e w6 ⟨x6, f6, A6, n6, c6, rfl, hR6, hb6⟩
          obtain ⟨e3, He3⟩ : ∃ z, Hid (cpErr (pjR (cpRes r) cs) = z) := ⟨_, rfl⟩
          rw [He3.out]
          rw [He3.out] at HFE
          have HFR : Hid (faR r cs = cpRes (pjR (cpRes r) cs)) := Lib.hid (by
            unfold faR
            rw [HFE.out]
            split
            · rfl
            · rename_i h
              rw [← He3.out] at h
              exact (cp_zero h).symm)
          replace HU := Lib.hid (HU.out.below hb6)
          have HR6 := Lib.hid hR6
          clear hb6 hR6 z0
          have zr := HU.out.bz.cell
          obtain ⟨ff1, ff2, ff3⟩ := put3R_free HU.out.bz (.int .i64 x6) (.bool f6)
          have y3 := (put3R_blk (a' := .int .i64 x6) (b' := .bool f6) (c' := .slice A6 n6 c6) HU.out.bz).cell
          have y1 := (HU.out.bz.set_ 0 (.int .i64 x6)).cell
          have y2 := ((HU.out.bz.set_ 0 (.int .i64 x6)).set_ 1 (.bool f6)).cell
          unfold put3R at y3
          have HFin := Lib.hid (HU.out.res HR6.out e3)
          go_wp2
          refine bodyPost_ret (v := .tuple #[.agg #[.int .i64 x6, .bool f6, .slice A6 n6 c6], .int .i64 e3]) (by simp [results, Tryz.results23, go_sem, y3]) rfl ?_
          rw [HFR.out, HFE.out]
          exact HFin.out
        · have g3 : (e2 == 0) = false := by simp [h2]
          have h2' := h2
          have H2 := Lib.hid h2'
          clear h2 h2'
          have zr := HU.out.bz.cell
          obtain ⟨ff1, ff2, ff3⟩ := put3R_free HU.out.bz (.int .i64 0) (.bool false)
          have y3 := (put3R_blk (a' := .int .i64 0) (b' := .bool false) (c' := .slice none 0 0) HU.out.bz).cell
          have y1 := (HU.out.bz.set_ 0 (.int .i64 0)).cell
          have y2 := ((HU.out.bz.set_ 0 (.int .i64 0)).set_ 1 (.bool false)).cell
          unfold put3R at y3
          have HFin := Lib.hid (HU.out.err e2)
          have hEr : faE r cs = e2 ∧ faR r cs = zeroR := by
            have h := H2.out
            have h2 : faE r cs = e2 := by rw [HFE.out, if_neg (by rw [He2.out]; exact h), He2.out]
            exact ⟨h2, by unfold faR; rw [h2, if_neg h]⟩
          go_wp2
          refine bodyPost_ret (v := .tuple #[.agg #[.int .i64 0, .bool false, .slice none 0 0], .int .i64 e2]) (by simp [results, Tryz.results23, go_sem, y3]) rfl ?_
          rw [hEr.1, hEr.2]
          exact HFin.out
      · have g3 : (e1 == 0) = false := by simp [h1]
        have H1 := Lib.hid h1
        clear h1
        have zr := HU.out.bz.cell
        obtain ⟨ff1, ff2, ff3⟩ := put3R_free HU.out.bz (.int .i64 0) (.bool false)
        have y3 := (put3R_blk (a' := .int .i64 0) (b' := .bool false) (c' := .slice none 0 0) HU.out.bz).cell
        have y1 := (HU.out.bz.set_ 0 (.int .i64 0)).cell
        have y2 := ((HU.out.bz.set_ 0 (.int .i64 0)).set_ 1 (.bool false)).cell
        unfold put3R at y3
        have HFin := Lib.hid (HU.out.err e1)
        have hEr : faE r cs = e1 ∧ faR r cs = zeroR := by
          have h := H1.out
          have h2 : faE r cs = e1 := by rw [HFE.out, if_neg (by rw [He1.out]; exact h), He1.out]
          exact ⟨h2, by unfold faR; rw [h2, if_neg h]⟩
        go_wp2
        refine bodyPost_ret (v := .tuple #[.agg #[.int .i64 0, .bool false, .slice none 0 0], .int .i64 e1]) (by simp [results, Tryz.results23, go_sem, y3]) rfl ?_
        rw [hEr.1, hEr.2]
        exact HFin.out
end Go.Proofs.YtmnmckblmoalkaaGreat
