/-
  Texts: GProj, Open.
-/
import Derived.Test.YtmnmckblmoalkaaGreatB46
import Derived.ProofKit
import Derived.OpenShut
import Derived.ShutString
import Derived.Carry
import Derived.Deep.Slices
import Derived.Lib.SmallJoins
set_option linter.unusedVariables false
/-
  The program's Project and Lift.
-/
namespace Go.Proofs.YtmnmckblmoalkaaGreat
open Go.RowKit
set_option maxRecDepth 100000
open Rg

theorem USt.res {w : World} {O Z : Nat} {x : Int} {f : Bool} {A : Option Addr} {n c : Nat} {r : Rg} {wr : World} (h : USt w O Z x f A n c r wr) {x' : Int} {f' : Bool} {A' : Option Addr} {n' c' : Nat} {r' : Rg} (hr : RgS wr x' f' A' n' c' r') (er : Int) : RgRes w r' er (.returned (.tuple #[.agg #[.int .i64 x', .bool f', .slice A' n' c'], .int .i64 er])) (put3R wr Z (.int .i64 x') (.bool f') (.slice A' n' c')) :=
  ⟨x', f', A', n', c', rfl, RgS.off h.bz (put3R_but wr Z _ _ _) hr, put3R_below h.bel h.hZ _ _ _⟩
theorem cpRes_wf {r : Rg} (h : WfR r) : WfR (cpRes r) := by
  unfold cpRes
  split
  · exact op_wf (all_wf _) h
  · trivial
theorem uniR_wf : ∀ {bs : List (List (List Iv))} {r : Rg}, (∀ b ∈ bs, wfB b) → WfR r → WfR (uniR bs r)
  | [], _, _, h => h
  | b :: l, r, hb, h => by
    unfold uniR
    split
    · exact uniR_wf (fun x hx => hb x (List.mem_cons_of_mem _ hx)) (op_wf h (box_wf _ (hb b List.mem_cons_self)))
    · trivial
theorem pjR_wf {r : Rg} (h : WfR r) (cs : List Int) : WfR (pjR r cs) := by
  unfold pjR
  split
  · split
    · refine uniR_wf (fun b hb => ?_) trivial
      obtain ⟨q, hq, rfl⟩ := List.mem_map.1 hb
      exact pick_wf (boxes_wf h q hq) cs
    · trivial
  · trivial
theorem cp_zero {r : Rg} (h : ¬ cpErr r = 0) : cpRes r = zeroR := by
  unfold cpErr at h
  unfold cpRes
  split at h
  · rename_i ho
    rw [if_pos ho]
    exact opRes_bad h
  · rename_i ho
    rw [if_neg ho]
set_option maxHeartbeats 4000000 in
theorem gproject_any (r : Rg) (x : Int) (f : Bool) (A : Option Addr) (n c : Nat) (Ac : Option Addr) (m cc : Nat) (cs : List Int) (w : World) (hR : RgS w x f A n c r) (wf : WfR r) (hc : ClS w Ac m cs) : Calls Tryz.prog 17 #[.agg #[.int .i64 x, .bool f, .slice A n c], .slice Ac m cc] w fun e w' => RgRes w (pjR r cs) (pjE r cs) e w' := by
  have hx := hR.hw
  have HR := Lib.hid hR
  have Hwf := Lib.hid wf
  have HC := Lib.hid hc
  have Hlc := Lib.hid hc.len
  clear hR wf hc
  obtain ⟨W0, HW0⟩ : ∃ W9 : World, Hid (((w.alloc (.cells #[.int .i64 x, .bool f, .slice A n c] 27)).alloc (.cells #[.slice Ac m cc] 30)).alloc (.cells #[.int .i64 0, .bool false, .slice none 0 0] 27) = W9) := ⟨_, rfl⟩
  have HB0 : Hid (Below w.heap.size w W0) := by
    rw [← HW0.out]
    exact Lib.hid ((((Below.refl _ _).alloc (Nat.le_refl _) _).alloc (by simp) _).alloc (by simp; omega) _)
  have HK0 : Hid (Blk W0 (w.heap.size) 27 #[.int .i64 x, .bool f, .slice A n c]) := by
    rw [← HW0.out]
    exact Lib.hid (((Blk.new _ _ _).alloc _).alloc _)
  have HK1 : Hid (Blk W0 (w.heap.size + 1) 30 #[.slice Ac m cc]) := by
    rw [← HW0.out]
    exact Lib.hid ((Blk.step (by simp)).alloc _)
  have HK2 : Hid (Blk W0 (w.heap.size + 1 + 1) 27 #[.int .i64 0, .bool false, .slice none 0 0]) := by
    rw [← HW0.out]
    exact Lib.hid (Blk.step (by simp))
  go_enter Tryz.func17, Tryz.ntmps17
  go_upto_region 1 with fail
  rw [HW0.out]
  clear HW0
  have z0 := HK0.out.cell
  go_wp2_with fail
  refine (rvalidR_any r x f A n c _ (HR.out.keep (keeps_of HB0.out))).mono ?_
  rintro e w1 ⟨rfl, hb1⟩
  have HB1 := Lib.hid (Below.next HB0.out hb1)
  replace HK0 := Lib.hid (HK0.out.below hb1)
  replace HK1 := Lib.hid (HK1.out.below hb1)
  replace HK2 := Lib.hid (HK2.out.below hb1)
  clear hb1 z0 HB0
  obtain ⟨vo, Hvo⟩ : ∃ z, Hid (okB r = z) := ⟨_, rfl⟩
  rw [Hvo.out]
  cases vo
  · have zr := HK2.out.cell
    obtain ⟨ff1, ff2, ff3⟩ := put3R_free HK2.out (.int .i64 0) (.bool false)
    have y3 := (put3R_blk (a' := .int .i64 0) (b' := .bool false) (c' := .slice none 0 0) HK2.out).cell
    have y1 := (HK2.out.set_ 0 (.int .i64 0)).cell
    have y2 := ((HK2.out.set_ 0 (.int .i64 0)).set_ 1 (.bool false)).cell
    unfold put3R at y3
    have HBr := Lib.hid (put3R_below HB1.out (show w.heap.size ≤ w.heap.size + 1 + 1 by omega) (.int .i64 0) (.bool false) (.slice none 0 0))
    have hEr : pjE r cs = 40 ∧ pjR r cs = zeroR := by
      have hn : ¬ okB r = true := by rw [Hvo.out]; decide
      unfold pjE pjR
      rw [if_neg hn, if_neg hn]
      exact ⟨rfl, rfl⟩
    go_wp2
    refine bodyPost_ret (v := .tuple #[.agg #[.int .i64 0, .bool false, .slice none 0 0], .int .i64 40]) (by simp [results, Tryz.results17, go_sem, y3]) rfl ?_
    rw [hEr.1, hEr.2]
    exact RgRes.zero HBr.out
  · have Hok := Lib.hid (okB_true.1 Hvo.out)
    have hx12 : x ≤ 12 := by have := Hok.out.2.1; omega
    have z0 := HK0.out.cell
    have z1 := HK1.out.cell
    go_wp2_with fail
    refine (gdistinct_any Ac m cc cs x _ (HC.out.keep (keeps_of HB1.out)) hx12).mono ?_
    rintro e w2 ⟨rfl, hb2⟩
    replace HB1 := Lib.hid (Below.next HB1.out hb2)
    replace HK0 := Lib.hid (HK0.out.below hb2)
    replace HK1 := Lib.hid (HK1.out.below hb2)
    replace HK2 := Lib.hid (HK2.out.below hb2)
    clear hb2 z0 z1
    obtain ⟨vd, Hvd⟩ : ∃ z, Hid (dstB x cs = z) := ⟨_, rfl⟩
    rw [Hvd.out]
    cases vd
    · have zr := HK2.out.cell
      obtain ⟨ff1, ff2, ff3⟩ := put3R_free HK2.out (.int .i64 0) (.bool false)
      have y3 := (put3R_blk (a' := .int .i64 0) (b' := .bool false) (c' := .slice none 0 0) HK2.out).cell
      have y1 := (HK2.out.set_ 0 (.int .i64 0)).cell
      have y2 := ((HK2.out.set_ 0 (.int .i64 0)).set_ 1 (.bool false)).cell
      unfold put3R at y3
      have HBr := Lib.hid (put3R_below HB1.out (show w.heap.size ≤ w.heap.size + 1 + 1 by omega) (.int .i64 0) (.bool false) (.slice none 0 0))
      have hEr : pjE r cs = 1 ∧ pjR r cs = zeroR := by
        have hn : ¬ dstB r.w cs = true := by rw [hx, Hvd.out]; decide
        unfold pjE pjR
        rw [if_pos Hvo.out, if_pos Hvo.out, if_neg hn, if_neg hn]
        exact ⟨rfl, rfl⟩
      go_wp2
      refine bodyPost_ret (v := .tuple #[.agg #[.int .i64 0, .bool false, .slice none 0 0], .int .i64 1]) (by simp [results, Tryz.results17, go_sem, y3]) rfl ?_
      rw [hEr.1, hEr.2]
      exact RgRes.zero HBr.out
    · have hm12 : m ≤ 12 := by have := dst_len Hvd.out hx12; have := Hlc.out; omega
      have z0 := HK0.out.cell
      have z1 := HK1.out.cell
      go_wp2_with fail
      refine (gunite1_any r x f A n c (w.heap.size + 1) Ac m cc cs _ (HR.out.keep (keeps_of HB1.out)) Hok.out Hwf.out HK1.out (HC.out.keep (keeps_of HB1.out)) (fun z hz => by have h1 := (dstB_true.1 Hvd.out).1 z hz; omega) hm12).mono ?_
      rintro e w3 ⟨x3, f3, A3, n3, c3, rfl, hR3, hb3⟩
      have hE : pjE r cs = uniE ((boxesR r).map (pickL cs)) (.nil (m : Int) false) ∧ pjR r cs = uniR ((boxesR r).map (pickL cs)) (.nil (m : Int) false) := by
        unfold pjE pjR
        rw [if_pos Hvo.out, if_pos Hvo.out, hx, if_pos Hvd.out, if_pos Hvd.out, Hlc.out]
        exact ⟨rfl, rfl⟩
      rw [← hE.2] at hR3
      rw [← hE.1]
      obtain ⟨er, Her⟩ : ∃ z, Hid (pjE r cs = z) := ⟨_, rfl⟩
      rw [Her.out]
      obtain ⟨rr, Hrr⟩ : ∃ z, Hid (pjR r cs = z) := ⟨_, rfl⟩
      rw [Hrr.out] at hR3
      replace HB1 := Lib.hid (Below.next HB1.out hb3)
      replace HK0 := Lib.hid (HK0.out.below hb3)
      replace HK1 := Lib.hid (HK1.out.below hb3)
      replace HK2 := Lib.hid (HK2.out.below hb3)
      have HR3 := Lib.hid hR3
      clear hb3 z0 z1 hE hR3
      have zr := HK2.out.cell
      obtain ⟨ff1, ff2, ff3⟩ := put3R_free HK2.out (.int .i64 x3) (.bool f3)
      have y3 := (put3R_blk (a' := .int .i64 x3) (b' := .bool f3) (c' := .slice A3 n3 c3) HK2.out).cell
      have y1 := (HK2.out.set_ 0 (.int .i64 x3)).cell
      have y2 := ((HK2.out.set_ 0 (.int .i64 x3)).set_ 1 (.bool f3)).cell
      unfold put3R at y3
      have HBr := Lib.hid (put3R_below HB1.out (show w.heap.size ≤ w.heap.size + 1 + 1 by omega) (.int .i64 x3) (.bool f3) (.slice A3 n3 c3))
      have HRr := Lib.hid (RgS.off HK2.out (put3R_but _ (w.heap.size + 1 + 1) (.int .i64 x3) (.bool f3) (.slice A3 n3 c3)) HR3.out)
      go_wp2
      refine bodyPost_ret (v := .tuple #[.agg #[.int .i64 x3, .bool f3, .slice A3 n3 c3], .int .i64 er]) (by simp [results, Tryz.results17, go_sem, y3]) rfl ?_
      rw [Hrr.out, Her.out]
      exact ⟨x3, f3, A3, n3, c3, rfl, HRr.out, HBr.out⟩
set_option maxHeartbeats 4000000 in
theorem glift_any (r : Rg) (x : Int) (f : Bool) (A : Option Addr) (n c : Nat) (Ac : Option Addr) (m cc : Nat) (cs : List Int) (W : Int) (w : World) (hR : RgS w x f A n c r) (wf : WfR r) (hc : ClS w Ac m cs) : Calls Tryz.prog 20 #[.agg #[.int .i64 x, .bool f, .slice A n c], .slice Ac m cc, .int .i64 W] w fun e w' => RgRes w (lfR r cs W) (lfE r cs W) e w' := by
  have hx := hR.hw
  have HR := Lib.hid hR
  have Hwf := Lib.hid wf
  have HC := Lib.hid hc
  have Hlc := Lib.hid hc.len
  clear hR wf hc
  obtain ⟨W0, HW0⟩ : ∃ W9 : World, Hid ((((w.alloc (.cells #[.int .i64 x, .bool f, .slice A n c] 27)).alloc (.cells #[.slice Ac m cc] 30)).alloc (.cells #[.int .i64 W] 3)).alloc (.cells #[.int .i64 0, .bool false, .slice none 0 0] 27) = W9) := ⟨_, rfl⟩
  have HB0 : Hid (Below w.heap.size w W0) := by
    rw [← HW0.out]
    exact Lib.hid (((((Below.refl _ _).alloc (Nat.le_refl _) _).alloc (by simp) _).alloc (by simp; omega) _).alloc (by simp; omega) _)
  have HK0 : Hid (Blk W0 (w.heap.size) 27 #[.int .i64 x, .bool f, .slice A n c]) := by
    rw [← HW0.out]
    exact Lib.hid ((((Blk.new _ _ _).alloc _).alloc _).alloc _)
  have HK1 : Hid (Blk W0 (w.heap.size + 1) 30 #[.slice Ac m cc]) := by
    rw [← HW0.out]
    exact Lib.hid (((Blk.step (by simp)).alloc _).alloc _)
  have HK2 : Hid (Blk W0 (w.heap.size + 1 + 1) 3 #[.int .i64 W]) := by
    rw [← HW0.out]
    exact Lib.hid ((Blk.step (by simp)).alloc _)
  have HK3 : Hid (Blk W0 (w.heap.size + 1 + 1 + 1) 27 #[.int .i64 0, .bool false, .slice none 0 0]) := by
    rw [← HW0.out]
    exact Lib.hid (Blk.step (by simp))
  go_enter Tryz.func20, Tryz.ntmps20
  go_upto_region 1 with fail
  rw [HW0.out]
  clear HW0
  have z0 := HK0.out.cell
  go_wp2_with fail
  refine (rvalidR_any r x f A n c _ (HR.out.keep (keeps_of HB0.out))).mono ?_
  rintro e w1 ⟨rfl, hb1⟩
  have HB1 := Lib.hid (Below.next HB0.out hb1)
  replace HK0 := Lib.hid (HK0.out.below hb1)
  replace HK1 := Lib.hid (HK1.out.below hb1)
  replace HK2 := Lib.hid (HK2.out.below hb1)
  replace HK3 := Lib.hid (HK3.out.below hb1)
  clear hb1 z0 HB0
  obtain ⟨vo, Hvo⟩ : ∃ z, Hid (okB r = z) := ⟨_, rfl⟩
  rw [Hvo.out]
  have z0 := HK0.out.cell
  have z1 := HK1.out.cell
  have z2 := HK2.out.cell
  cases vo
  · have zr := HK3.out.cell
    obtain ⟨ff1, ff2, ff3⟩ := put3R_free HK3.out (.int .i64 0) (.bool false)
    have y3 := (put3R_blk (a' := .int .i64 0) (b' := .bool false) (c' := .slice none 0 0) HK3.out).cell
    have y1 := (HK3.out.set_ 0 (.int .i64 0)).cell
    have y2 := ((HK3.out.set_ 0 (.int .i64 0)).set_ 1 (.bool false)).cell
    unfold put3R at y3
    have HBr := Lib.hid (put3R_below HB1.out (show w.heap.size ≤ w.heap.size + 1 + 1 + 1 by omega) (.int .i64 0) (.bool false) (.slice none 0 0))
    have hEr : lfE r cs W = 40 ∧ lfR r cs W = zeroR := by
      have hn : ¬ (okB r = true ∧ (cs.length : Int) = r.w) := fun h => by rw [Hvo.out] at h; cases h.1
      unfold lfE lfR
      rw [if_neg hn, if_neg hn]
      exact ⟨rfl, rfl⟩
    go_wp2
    refine bodyPost_ret (v := .tuple #[.agg #[.int .i64 0, .bool false, .slice none 0 0], .int .i64 40]) (by simp [results, Tryz.results20, go_sem, y3]) rfl ?_
    rw [hEr.1, hEr.2]
    exact RgRes.zero HBr.out
  · have Hok := Lib.hid (okB_true.1 Hvo.out)
    have hx12 : x ≤ 12 := by have := Hok.out.2.1; omega
    by_cases hmx : (m : Int) = x
    · have g1 : ((m : Int) == x) = true := by simp [hmx]
      have Hmx := Lib.hid hmx
      clear hmx
      rcases Int.lt_or_le W 0 with h0 | h0
      · have g2 : decide (W < 0) = true := by simp; omega
        have zr := HK3.out.cell
        obtain ⟨ff1, ff2, ff3⟩ := put3R_free HK3.out (.int .i64 0) (.bool false)
        have y3 := (put3R_blk (a' := .int .i64 0) (b' := .bool false) (c' := .slice none 0 0) HK3.out).cell
        have y1 := (HK3.out.set_ 0 (.int .i64 0)).cell
        have y2 := ((HK3.out.set_ 0 (.int .i64 0)).set_ 1 (.bool false)).cell
        unfold put3R at y3
        have HBr := Lib.hid (put3R_below HB1.out (show w.heap.size ≤ w.heap.size + 1 + 1 + 1 by omega) (.int .i64 0) (.bool false) (.slice none 0 0))
        have hEr : lfE r cs W = 1 ∧ lfR r cs W = zeroR := by
          have hp : okB r = true ∧ (cs.length : Int) = r.w := ⟨Hvo.out, by rw [Hlc.out, hx, Hmx.out]⟩
          have hn : ¬ ((0 ≤ W ∧ W ≤ 12) ∧ dstB W cs = true) := fun h => by omega
          unfold lfE lfR
          rw [if_pos hp, if_pos hp, if_neg hn, if_neg hn]
          exact ⟨rfl, rfl⟩
        go_wp2
        refine bodyPost_ret (v := .tuple #[.agg #[.int .i64 0, .bool false, .slice none 0 0], .int .i64 1]) (by simp [results, Tryz.results20, go_sem, y3]) rfl ?_
        rw [hEr.1, hEr.2]
        exact RgRes.zero HBr.out
      · have g2 : decide (W < 0) = false := by simp; omega
        rcases Int.lt_or_le 12 W with h1 | h1
        · have g3 : decide (12 < W) = true := by simp; omega
          have zr := HK3.out.cell
          obtain ⟨ff1, ff2, ff3⟩ := put3R_free HK3.out (.int .i64 0) (.bool false)
          have y3 := (put3R_blk (a' := .int .i64 0) (b' := .bool false) (c' := .slice none 0 0) HK3.out).cell
          have y1 := (HK3.out.set_ 0 (.int .i64 0)).cell
          have y2 := ((HK3.out.set_ 0 (.int .i64 0)).set_ 1 (.bool false)).cell
          unfold put3R at y3
          have HBr := Lib.hid (put3R_below HB1.out (show w.heap.size ≤ w.heap.size + 1 + 1 + 1 by omega) (.int .i64 0) (.bool false) (.slice none 0 0))
          have hEr : lfE r cs W = 1 ∧ lfR r cs W = zeroR := by
            have hp : okB r = true ∧ (cs.length : Int) = r.w := ⟨Hvo.out, by rw [Hlc.out, hx, Hmx.out]⟩
            have hn : ¬ ((0 ≤ W ∧ W ≤ 12) ∧ dstB W cs = true) := fun h => by omega
            unfold lfE lfR
            rw [if_pos hp, if_pos hp, if_neg hn, if_neg hn]
            exact ⟨rfl, rfl⟩
          go_wp2
          refine bodyPost_ret (v := .tuple #[.agg #[.int .i64 0, .bool false, .slice none 0 0], .int .i64 1]) (by simp [results, Tryz.results20, go_sem, y3]) rfl ?_
          rw [hEr.1, hEr.2]
          exact RgRes.zero HBr.out
        · have g3 : decide (12 < W) = false := by simp; omega
          have HW12 := Lib.hid (And.intro h0 h1)
          go_wp2_with fail
          refine (gdistinct_any Ac m cc cs W _ (HC.out.keep (keeps_of HB1.out)) h1).mono ?_
          rintro e w2 ⟨rfl, hb2⟩
          replace HB1 := Lib.hid (Below.next HB1.out hb2)
          replace HK0 := Lib.hid (HK0.out.below hb2)
          replace HK1 := Lib.hid (HK1.out.below hb2)
          replace HK2 := Lib.hid (HK2.out.below hb2)
          replace HK3 := Lib.hid (HK3.out.below hb2)
          clear hb2 z0 z1 z2
          obtain ⟨vd, Hvd⟩ : ∃ z, Hid (dstB W cs = z) := ⟨_, rfl⟩
          rw [Hvd.out]
          have z0 := HK0.out.cell
          have z1 := HK1.out.cell
          have z2 := HK2.out.cell
          cases vd
          · have zr := HK3.out.cell
            obtain ⟨ff1, ff2, ff3⟩ := put3R_free HK3.out (.int .i64 0) (.bool false)
            have y3 := (put3R_blk (a' := .int .i64 0) (b' := .bool false) (c' := .slice none 0 0) HK3.out).cell
            have y1 := (HK3.out.set_ 0 (.int .i64 0)).cell
            have y2 := ((HK3.out.set_ 0 (.int .i64 0)).set_ 1 (.bool false)).cell
            unfold put3R at y3
            have HBr := Lib.hid (put3R_below HB1.out (show w.heap.size ≤ w.heap.size + 1 + 1 + 1 by omega) (.int .i64 0) (.bool false) (.slice none 0 0))
            have hEr : lfE r cs W = 1 ∧ lfR r cs W = zeroR := by
              have hp : okB r = true ∧ (cs.length : Int) = r.w := ⟨Hvo.out, by rw [Hlc.out, hx, Hmx.out]⟩
              have hn : ¬ ((0 ≤ W ∧ W ≤ 12) ∧ dstB W cs = true) := fun h => by have h2 := h.2; rw [Hvd.out] at h2; cases h2
              unfold lfE lfR
              rw [if_pos hp, if_pos hp, if_neg hn, if_neg hn]
              exact ⟨rfl, rfl⟩
            go_wp2
            refine bodyPost_ret (v := .tuple #[.agg #[.int .i64 0, .bool false, .slice none 0 0], .int .i64 1]) (by simp [results, Tryz.results20, go_sem, y3]) rfl ?_
            rw [hEr.1, hEr.2]
            exact RgRes.zero HBr.out
          · obtain ⟨N, rfl⟩ := Int.eq_ofNat_of_zero_le h0
            have hN : N ≤ 12 := by omega
            clear h0 h1
            go_wp2_with fail
            refine (gunite2_any r x f A n c (w.heap.size + 1 + 1) (w.heap.size + 1) N Ac m cc cs _ (HR.out.keep (keeps_of HB1.out)) Hok.out Hwf.out HK2.out HK1.out (HC.out.keep (keeps_of HB1.out)) (dstB_true.1 Hvd.out).1 (by have := Hmx.out; omega) hN).mono ?_
            rintro e w3 ⟨x3, f3, A3, n3, c3, rfl, hR3, hb3⟩
            have hE : lfE r cs (N : Int) = uniE ((boxesR r).map (liftL N cs)) (.nil (N : Int) false) ∧ lfR r cs (N : Int) = uniR ((boxesR r).map (liftL N cs)) (.nil (N : Int) false) := by
              have hp : okB r = true ∧ (cs.length : Int) = r.w := ⟨Hvo.out, by rw [Hlc.out, hx, Hmx.out]⟩
              have hp2 : (0 ≤ (N : Int) ∧ (N : Int) ≤ 12) ∧ dstB (N : Int) cs = true := ⟨HW12.out, Hvd.out⟩
              unfold lfE lfR
              rw [if_pos hp, if_pos hp, if_pos hp2, if_pos hp2, Int.toNat_natCast]
              exact ⟨rfl, rfl⟩
            rw [← hE.2] at hR3
            rw [← hE.1]
            obtain ⟨er, Her⟩ : ∃ z, Hid (lfE r cs (N : Int) = z) := ⟨_, rfl⟩
            rw [Her.out]
            obtain ⟨rr, Hrr⟩ : ∃ z, Hid (lfR r cs (N : Int) = z) := ⟨_, rfl⟩
            rw [Hrr.out] at hR3
            replace HB1 := Lib.hid (Below.next HB1.out hb3)
            replace HK0 := Lib.hid (HK0.out.below hb3)
            replace HK1 := Lib.hid (HK1.out.below hb3)
            replace HK2 := Lib.hid (HK2.out.below hb3)
            replace HK3 := Lib.hid (HK3.out.below hb3)
            have HR3 := Lib.hid hR3
            clear hb3 z0 z1 z2 hE hR3
            have zr := HK3.out.cell
            obtain ⟨ff1, ff2, ff3⟩ := put3R_free HK3.out (.int .i64 x3) (.bool f3)
            have y3 := (put3R_blk (a' := .int .i64 x3) (b' := .bool f3) (c' := .slice A3 n3 c3) HK3.out).cell
            have y1 := (HK3.out.set_ 0 (.int .i64 x3)).cell
            have y2 := ((HK3.out.set_ 0 (.int .i64 x3)).set_ 1 (.bool f3)).cell
            unfold put3R at y3
            have HBr := Lib.hid (put3R_below HB1.out (show w.heap.size ≤ w.heap.size + 1 + 1 + 1 by omega) (.int .i64 x3) (.bool f3) (.slice A3 n3 c3))
            have HRr := Lib.hid (RgS.off HK3.out (put3R_but _ (w.heap.size + 1 + 1 + 1) (.int .i64 x3) (.bool f3) (.slice A3 n3 c3)) HR3.out)
            go_wp2
            refine bodyPost_ret (v := .tuple #[.agg #[.int .i64 x3, .bool f3, .slice A3 n3 c3], .int .i64 er]) (by simp [results, Tryz.results20, go_sem, y3]) rfl ?_
            rw [Hrr.out, Her.out]
            exact ⟨x3, f3, A3, n3, c3, rfl, HRr.out, HBr.out⟩
    · have g1 : ((m : Int) == x) = false := by simp [hmx]
      have zr := HK3.out.cell
      obtain ⟨ff1, ff2, ff3⟩ := put3R_free HK3.out (.int .i64 0) (.bool false)
      have y3 := (put3R_blk (a' := .int .i64 0) (b' := .bool false) (c' := .slice none 0 0) HK3.out).cell
      have y1 := (HK3.out.set_ 0 (.int .i64 0)).cell
      have y2 := ((HK3.out.set_ 0 (.int .i64 0)).set_ 1 (.bool false)).cell
      unfold put3R at y3
      have HBr := Lib.hid (put3R_below HB1.out (show w.heap.size ≤ w.heap.size + 1 + 1 + 1 by omega) (.int .i64 0) (.bool false) (.slice none 0 0))
      have hEr : lfE r cs W = 40 ∧ lfR r cs W = zeroR := by
        have hn : ¬ (okB r = true ∧ (cs.length : Int) = r.w) := fun h => by have h2 := h.2; rw [Hlc.out, hx] at h2; exact hmx h2
        unfold lfE lfR
        rw [if_neg hn, if_neg hn]
        exact ⟨rfl, rfl⟩
      go_wp2
      refine bodyPost_ret (v := .tuple #[.agg #[.int .i64 0, .bool false, .slice none 0 0], .int .i64 40]) (by simp [results, Tryz.results20, go_sem, y3]) rfl ?_
      rw [hEr.1, hEr.2]
      exact RgRes.zero HBr.out
end Go.Proofs.YtmnmckblmoalkaaGreat

/-
  What the law's arguments are in memory, and that they read behind the call as before. No walk here.
-/
namespace Go.Proofs.YtmnmckblmoalkaaGreat
open Go.ChangeShapes Go.WideShapes Go.ChangeAt Go.RowKit
set_option maxRecDepth 100000
open Go.ChangeMaps (open_string shut_string)

theorem own : ownKnob Tryz.prog.godebug = none := by kernel_rfl
theorem laidOut : laidOutB Tryz.prog = true := by kernel_rfl

section
variable {H : Type} {enc : TypeId × Value → H} {P : Program}
/-- the arguments read behind the call as before -/
theorem trodAll_below (hl : laidOutB P = true) {W W' : World} (hb : Below W.heap.size W W') : ∀ {ts : List TypeId} {vs : List Value} {ds : List (DataW H)} {ps : List MemPlace},
    (∀ t ∈ ts, P.readableRec t = true ∧ t < P.types.size) → DataW.TrodAll enc P W 0 (fun _ => true) true ts vs ds ps → (∀ x ∈ ps, x.block < W.heap.size) → DataW.TrodAll enc P W' 0 (fun b => decide (b < W.heap.size)) true ts vs ds ps
  | [], vs, ds, ps, _, h, _ => by
    obtain ⟨rfl, rfl, rfl⟩ := trodAll_nil h
    exact trodAll_mk0
  | t :: ts, vs, ds, ps, ht, h, hlt => by
    obtain ⟨v0, vs0, d0, ds0, p0, q0, rfl, rfl, rfl, h0, r0⟩ := trodAll_cons h
    have hr := ht t List.mem_cons_self
    exact trodAll_cons_mk (Below.trod hl hr.1 hr.2 h0 hb (fun x hx => hlt x (List.mem_append_left _ hx))) (trodAll_below hl hb (fun t h => ht t (List.mem_cons_of_mem _ h)) r0 (fun x hx => hlt x (List.mem_append_right _ hx)))
theorem okWide_slice_form {w : World} {r : Reach} {base : Nat} {t e : TypeId} {A : Option Addr} {n c : Nat} (ht : P.underlying t = some (.slice e)) (h : Value.okWide P w r base t (.slice A n c)) :
    (A = none → n = 0 ∧ c = 0) ∧ (∀ ad, A = some ad → ad.spot = none) ∧ n ≤ c ∧ c ≤ 9223372036854775807 := by
  simp only [Value.okWide, ht, Cell.okWide] at h
  cases A with
  | none =>
    unfold Cell.ok at h
    rw [ht] at h
    split at h <;> simp_all
  | some a =>
    unfold Cell.ok at h
    rw [ht] at h
    simp only at h
    obtain ⟨h1, h2, h3⟩ := h
    refine ⟨(fun h => by cases h), fun ad e => ?_, h1, ?_⟩
    · injection e with e
      rw [← e]
      exact h3.2.1
    · have : IntKind.i64.max = 9223372036854775807 := by decide
      omega
theorem trod_fields {w : World} {base : Nat} {sp : Nat → Bool} {hd : Bool} {fuel : Nat} {t : TypeId} {cs : List Value} {x : DataW H × List MemPlace} {fs : Array Field} (ht : P.underlying t = some (.struct fs)) (h : DataW.trod enc P w base sp hd fuel t cs = some x) :
    ∃ n, cs.length = P.cellsOf t ∧ ∀ (i : Nat) (f : Field), fs[i]? = some f → ∃ y, DataW.trod enc P w base sp hd n f.type ((cs.drop f.offset).take (P.cellsOf f.type)) = some y := by
  obtain ⟨ys, n, _, _, hl, hyl, hf⟩ := DataW.trod_struct ht h
  refine ⟨n, hl, fun i f hi => ?_⟩
  have hlt : i < ys.length := by rw [hyl]; exact (Array.getElem?_eq_some_iff.1 hi).1
  exact ⟨ys[i], (hf i f hi).trans (List.getElem?_eq_getElem hlt)⟩
end

theorem choose_list {α : Type} {Q : Nat → α → Prop} : ∀ n : Nat, (∀ i, i < n → ∃ y, Q i y) → ∃ l : List α, l.length = n ∧ ∀ i y, l[i]? = some y → Q i y
  | 0, _ => ⟨[], rfl, fun i y h => (by simp at h)⟩
  | n + 1, h => by
    obtain ⟨l, hl, hi⟩ := choose_list n (fun i hi => h i (by omega))
    obtain ⟨y, hy⟩ := h n (by omega)
    refine ⟨l ++ [y], by simp [hl], fun i z hz => ?_⟩
    rcases Nat.lt_or_ge i l.length with h | h
    · rw [List.getElem?_append_left h] at hz
      exact hi i z hz
    · rw [List.getElem?_append_right h] at hz
      have h0 : i - l.length = 0 := by
        have := (List.getElem?_eq_some_iff.1 hz).1
        simp at this
        omega
      rw [h0] at hz
      have : y = z := by simpa using hz
      rw [← this, show i = n by omega]
      exact hy
/-- a list of bytes as argument -/
theorem open_u8s {H : Type} {enc : TypeId × Value → H} {W : World} {base : Nat} {r : Reach} {b0 : Nat} {v : Value} {d : DataW H} {p : List MemPlace} (hv : Value.okWide Tryz.prog W r b0 22 v) (h : DataW.Trod enc Tryz.prog W base (fun _ => true) true 22 v d p) :
    ∃ (A : Option Addr) (n c : Nat) (zs : List Int), v = .slice A n c ∧ Sl 1 u8c W A n zs ∧ (∀ z ∈ zs, 0 ≤ z ∧ z ≤ 255) ∧ (A = none → n = 0 ∧ c = 0) ∧ (∀ ad, A = some ad → ad.spot = none) ∧ n ≤ c ∧ c ≤ 9223372036854775807 := by
  obtain ⟨A, n, c, rfl⟩ := okWide_slice Tryz.underlying22 hv
  obtain ⟨f1, f2, f3, f4⟩ := okWide_slice_form Tryz.underlying22 hv
  obtain ⟨fuel, hf⟩ := h
  have hf' : DataW.trod enc Tryz.prog W base (fun _ => true) true fuel 22 [.slice A n c] = some (d, p) := hf
  rcases open_ints Tryz.underlying22 Tryz.underlying5 (by kernel_rfl) hf' with ⟨h0, _⟩ | ⟨a, len, cap, zs, h0, hb, hl, hm, hzl, _, hc, hw⟩
  · injection h0 with h0
    injection h0 with e1 e2 e3
    subst e1 e2 e3
    exact ⟨none, 0, 0, [], rfl, Sl.nil, fun z hz => (by cases hz), fun _ => ⟨rfl, rfl⟩, fun ad e => (by cases e), Nat.le_refl _, by omega⟩
  · injection h0 with h0
    injection h0 with e1 e2 e3
    subst e1 e2 e3
    refine ⟨some a, n, c, zs.take n, rfl, ⟨?_, fun hn => ?_⟩, fun z hz => bounds_u8 (hw z (List.mem_of_mem_take hz)), f1, f2, f3, f4⟩
    · rw [List.length_take, hzl]; simp; omega
    · obtain ⟨b, o, sp⟩ := a
      obtain rfl : sp = none := f2 _ rfl
      refine ⟨b, o, rfl, fun k x hx j u hu => ?_⟩
      rw [List.getElem?_take] at hx
      split at hx
      · rename_i hk
        rcases j with _ | j
        · simp only [u8c, List.getElem?_cons_zero, Option.some.injEq] at hu
          subst hu
          have hkl := (List.getElem?_eq_some_iff.1 hx).1
          have := hc k hkl
          rw [add_at] at this
          rw [Nat.mul_one, Nat.add_zero, this, List.getD, hx]
          rfl
        · simp [u8c] at hu
      · cases hx
end Go.Proofs.YtmnmckblmoalkaaGreat
