/-
  Texts: GFor.
-/
import Derived.Test.YtmnmckblmoalkaaGreatB47
set_option linter.unusedVariables false
/-
  The program's ForAll.
-/
namespace Go.Proofs.YtmnmckblmoalkaaGreat
open Go.RowKit
set_option maxRecDepth 100000
open Rg

set_option maxHeartbeats 4000000 in
theorem gforall_any (r : Rg) (x : Int) (f : Bool) (A : Option Addr) (n c : Nat) (Ac : Option Addr) (m cc : Nat) (cs : List Int) (w : World) (hR : RgS w x f A n c r) (wf : WfR r) (hc : ClS w Ac m cs) : Calls Tryz.prog 23 #[.agg #[.int .i64 x, .bool f, .slice A n c], .slice Ac m cc] w fun e w' => RgRes w (faR r cs) (faE r cs) e w' := by
  have hx := hR.hw
  have HR := Lib.hid hR
  have Hwf := Lib.hid wf
  have HC := Lib.hid hc
  clear hR hc
  obtain ⟨W0, HW0⟩ : ∃ W9 : World, Hid ((w.alloc (.cells #[.int .i64 x, .bool f, .slice A n c] 27)).alloc (.cells #[.int .i64 0, .bool false, .slice none 0 0] 27) = W9) := ⟨_, rfl⟩
  have HB0 : Hid (Below w.heap.size w W0) := by
    rw [← HW0.out]
    exact Lib.hid (((Below.refl _ _).alloc (Nat.le_refl _) _).alloc (by simp) _)
  have HK0 : Hid (Blk W0 (w.heap.size) 27 #[.int .i64 x, .bool f, .slice A n c]) := by
    rw [← HW0.out]
    exact Lib.hid ((Blk.new _ _ _).alloc _)
  have HK1 : Hid (Blk W0 (w.heap.size + 1) 27 #[.int .i64 0, .bool false, .slice none 0 0]) := by
    rw [← HW0.out]
    exact Lib.hid (Blk.step (by simp))
  go_enter Tryz.func23, Tryz.ntmps23
  go_upto_region 1 with fail
  rw [HW0.out]
  clear HW0
  have z0 := HK0.out.cell
  go_wp2_with fail
  refine (rvalidR_any r x f A n c _ (HR.out.keep (keeps_of HB0.out))).mono ?_
  rintro e w1 ⟨rfl, hb1⟩
  have HB1 := Lib.hid (Below.next HB0.out hb1)
  replace HK0 := Lib.hid (HK0.out.below hb1)
  replace HK1 := Lib.hid (HK1.out.below hb1)
  clear hb1 z0 HB0
  obtain ⟨vo, Hvo⟩ : ∃ z, Hid (okB r = z) := ⟨_, rfl⟩
  rw [Hvo.out]
  cases vo
  · have zr := HK1.out.cell
    obtain ⟨ff1, ff2, ff3⟩ := put3R_free HK1.out (.int .i64 0) (.bool false)
    have y3 := (put3R_blk (a' := .int .i64 0) (b' := .bool false) (c' := .slice none 0 0) HK1.out).cell
    have y1 := (HK1.out.set_ 0 (.int .i64 0)).cell
    have y2 := ((HK1.out.set_ 0 (.int .i64 0)).set_ 1 (.bool false)).cell
    unfold put3R at y3
    have HBr := Lib.hid (put3R_below HB1.out (show w.heap.size ≤ w.heap.size + 1 by omega) (.int .i64 0) (.bool false) (.slice none 0 0))
    have hEr : faE r cs = 40 ∧ faR r cs = zeroR := by
      have hn : ¬ okB r = true := by rw [Hvo.out]; decide
      have h2 : faE r cs = 40 := by unfold faE; rw [if_neg hn]
      exact ⟨h2, by unfold faR; rw [h2]; rfl⟩
    go_wp2
    refine bodyPost_ret (v := .tuple #[.agg #[.int .i64 0, .bool false, .slice none 0 0], .int .i64 40]) (by simp [results, Tryz.results23, go_sem, y3]) rfl ?_
    rw [hEr.1, hEr.2]
    exact RgRes.zero HBr.out
  · have Hok := Lib.hid (okB_true.1 Hvo.out)
    have hx12 : x ≤ 12 := by have := Hok.out.2.1; omega
    have z0 := HK0.out.cell
    go_wp2_with fail
    refine (gdistinct_any Ac m cc cs x _ (HC.out.keep (keeps_of HB1.out)) hx12).mono ?_
    rintro e w2 ⟨rfl, hb2⟩
    replace HB1 := Lib.hid (Below.next HB1.out hb2)
    replace HK0 := Lib.hid (HK0.out.below hb2)
    replace HK1 := Lib.hid (HK1.out.below hb2)
    clear hb2 z0
    obtain ⟨vd, Hvd⟩ : ∃ z, Hid (dstB x cs = z) := ⟨_, rfl⟩
    rw [Hvd.out]
    cases vd
    · have zr := HK1.out.cell
      obtain ⟨ff1, ff2, ff3⟩ := put3R_free HK1.out (.int .i64 0) (.bool false)
      have y3 := (put3R_blk (a' := .int .i64 0) (b' := .bool false) (c' := .slice none 0 0) HK1.out).cell
      have y1 := (HK1.out.set_ 0 (.int .i64 0)).cell
      have y2 := ((HK1.out.set_ 0 (.int .i64 0)).set_ 1 (.bool false)).cell
      unfold put3R at y3
      have HBr := Lib.hid (put3R_below HB1.out (show w.heap.size ≤ w.heap.size + 1 by omega) (.int .i64 0) (.bool false) (.slice none 0 0))
      have hEr : faE r cs = 1 ∧ faR r cs = zeroR := by
        have hn : ¬ dstB r.w cs = true := by rw [hx, Hvd.out]; decide
        have h2 : faE r cs = 1 := by unfold faE; rw [if_pos Hvo.out, if_neg hn]
        exact ⟨h2, by unfold faR; rw [h2]; rfl⟩
      go_wp2
      refine bodyPost_ret (v := .tuple #[.agg #[.int .i64 0, .bool false, .slice none 0 0], .int .i64 1]) (by simp [results, Tryz.results23, go_sem, y3]) rfl ?_
      rw [hEr.1, hEr.2]
      exact RgRes.zero HBr.out
    · have HFE : Hid (faE r cs = (if cpErr r = 0 then (if pjE (cpRes r) cs = 0 then cpErr (pjR (cpRes r) cs) else pjE (cpRes r) cs) else cpErr r)) := Lib.hid (by
        unfold faE
        rw [if_pos Hvo.out, hx, if_pos Hvd.out])
      have z0 := HK0.out.cell
      go_wp2_with fail
      refine (gcomplement_any r x f A n c _ (HR.out.keep (keeps_of HB1.out)) (Hwf.out)).mono ?_
      rintro e w3 ⟨x3, f3, A3, n3, c3, rfl, hR3, hb3⟩
      obtain ⟨e1, He1⟩ : ∃ z, Hid (cpErr r = z) := ⟨_, rfl⟩
      rw [He1.out]
      obtain ⟨O, HO⟩ : ∃ z, Hid (w3.heap.size = z) := ⟨_, rfl⟩
      have hb4 : Below w3.heap.size w3 (w3.alloc (.cells #[.int .i64 x3, .bool f3, .slice A3 n3 c3] 27)) := (Below.refl _ _).alloc (Nat.le_refl _) _
      have HU : Hid (USt w O (w.heap.size + 1) x3 f3 A3 n3 c3 (cpRes r) (w3.alloc (.cells #[.int .i64 x3, .bool f3, .slice A3 n3 c3] 27))) := by
        have h1 := (HK1.out.below hb3).lt
        have h2 := HO.out
        exact Lib.hid ⟨by rw [← h2]; exact Blk.new _ _ _, (HK1.out.below hb3).below hb4, hR3.keep (keeps_of hb4), Below.next (Below.next HB1.out hb3) hb4, by omega, by omega, by omega⟩
      clear hb3 hb4 hR3 z0 HK0 HK1 HB1
      go_upto_region 6 with fail
      rw [HO.out]
      generalize hW4 : w3.alloc (.cells #[.int .i64 x3, .bool f3, .slice A3 n3 c3] 27) = W4 at *
      clear hW4 HO
      by_cases h1 : e1 = 0
      · subst h1
        rw [if_pos He1.out] at HFE
        have z0 := HU.out.bo.cell
        go_wp2_with fail
        refine (gproject_any (cpRes r) x3 f3 A3 n3 c3 Ac m cc cs _ HU.out.rs (cpRes_wf Hwf.out) (HC.out.keep (keeps_of HU.out.bel))).mono ?_
        rintro e w5 ⟨x5, f5, A5, n5, c5, rfl, hR5, hb5⟩
        obtain ⟨e2, He2⟩ : ∃ z, Hid (pjE (cpRes r) cs = z) := ⟨_, rfl⟩
        rw [He2.out]
        replace HU := Lib.hid (HU.out.below hb5)
        have HR5 := Lib.hid hR5
        clear hb5 hR5 z0
        have zr := HU.out.bo.cell
        obtain ⟨ff1, ff2, ff3⟩ := put3R_free HU.out.bo (.int .i64 x5) (.bool f5)
        have y3 := (put3R_blk (a' := .int .i64 x5) (b' := .bool f5) (c' := .slice A5 n5 c5) HU.out.bo).cell
        have y1 := (HU.out.bo.set_ 0 (.int .i64 x5)).cell
        have y2 := ((HU.out.bo.set_ 0 (.int .i64 x5)).set_ 1 (.bool f5)).cell
        replace HU := Lib.hid (HU.out.put HR5.out)
        unfold put3R at y3
        go_upto_region 9 with fail
        clear zr ff1 ff2 ff3 y1 y2 y3
        generalize hWW : put3R w5 O (.int .i64 x5) (.bool f5) (.slice A5 n5 c5) = W5 at *
        unfold put3R at hWW
        rw [hWW]
        clear hWW
        by_cases h2 : e2 = 0
        · subst h2
          rw [if_pos He2.out] at HFE
          have z0 := HU.out.bo.cell
          go_wp2_with fail
          refine (gcomplement_any (pjR (cpRes r) cs) x5 f5 A5 n5 c5 _ HU.out.rs (pjR_wf (cpRes_wf Hwf.out) cs)).mono ?_
          rintro e w6 ⟨x6, f6, A6, n6, c6, rfl, hR6, hb6⟩
          obtain ⟨e3, He3⟩ : ∃ z, Hid (cpErr (pjR (cpRes r) cs) = z) := ⟨_, rfl⟩
          rw [He3.out]
          rw [He3.out] at HFE
          have HFR : Hid (faR r cs = cpRes (pjR (cpRes r) cs)) := Lib.hid (by
            unfold faR
            rw [HFE.out]
            split
            · rfl
            · rename_i h
              rw [← He3.out] at h
              exact (cp_zero h).symm)
          replace HU := Lib.hid (HU.out.below hb6)
          have HR6 := Lib.hid hR6
          clear hb6 hR6 z0
          have zr := HU.out.bz.cell
          obtain ⟨ff1, ff2, ff3⟩ := put3R_free HU.out.bz (.int .i64 x6) (.bool f6)
          have y3 := (put3R_blk (a' := .int .i64 x6) (b' := .bool f6) (c' := .slice A6 n6 c6) HU.out.bz).cell
          have y1 := (HU.out.bz.set_ 0 (.int .i64 x6)).cell
          have y2 := ((HU.out.bz.set_ 0 (.int .i64 x6)).set_ 1 (.bool f6)).cell
          unfold put3R at y3
          have HFin := Lib.hid (HU.out.res HR6.out e3)
          go_wp2
          refine bodyPost_ret (v := .tuple #[.agg #[.int .i64 x6, .bool f6, .slice A6 n6 c6], .int .i64 e3]) (by simp [results, Tryz.results23, go_sem, y3]) rfl ?_
          rw [HFR.out, HFE.out]
          exact HFin.out
        · have g3 : (e2 == 0) = false := by simp [h2]
          have h2' := h2
          have H2 := Lib.hid h2'
          clear h2 h2'
          have zr := HU.out.bz.cell
          obtain ⟨ff1, ff2, ff3⟩ := put3R_free HU.out.bz (.int .i64 0) (.bool false)
          have y3 := (put3R_blk (a' := .int .i64 0) (b' := .bool false) (c' := .slice none 0 0) HU.out.bz).cell
          have y1 := (HU.out.bz.set_ 0 (.int .i64 0)).cell
          have y2 := ((HU.out.bz.set_ 0 (.int .i64 0)).set_ 1 (.bool false)).cell
          unfold put3R at y3
          have HFin := Lib.hid (HU.out.err e2)
          have hEr : faE r cs = e2 ∧ faR r cs = zeroR := by
            have h := H2.out
            have h2 : faE r cs = e2 := by rw [HFE.out, if_neg (by rw [He2.out]; exact h), He2.out]
            exact ⟨h2, by unfold faR; rw [h2, if_neg h]⟩
          go_wp2
          refine bodyPost_ret (v := .tuple #[.agg #[.int .i64 0, .bool false, .slice none 0 0], .int .i64 e2]) (by simp [results, Tryz.results23, go_sem, y3]) rfl ?_
          rw [hEr.1, hEr.2]
          exact HFin.out
      · have g3 : (e1 == 0) = false := by simp [h1]
        have H1 := Lib.hid h1
        clear h1
        have zr := HU.out.bz.cell
        obtain ⟨ff1, ff2, ff3⟩ := put3R_free HU.out.bz (.int .i64 0) (.bool false)
        have y3 := (put3R_blk (a' := .int .i64 0) (b' := .bool false) (c' := .slice none 0 0) HU.out.bz).cell
        have y1 := (HU.out.bz.set_ 0 (.int .i64 0)).cell
        have y2 := ((HU.out.bz.set_ 0 (.int .i64 0)).set_ 1 (.bool false)).cell
        unfold put3R at y3
        have HFin := Lib.hid (HU.out.err e1)
        have hEr : faE r cs = e1 ∧ faR r cs = zeroR := by
          have h := H1.out
          have h2 : faE r cs = e1 := by rw [HFE.out, if_neg (by rw [He1.out]; exact h), He1.out]
          exact ⟨h2, by unfold faR; rw [h2, if_neg h]⟩
        go_wp2
        refine bodyPost_ret (v := .tuple #[.agg #[.int .i64 0, .bool false, .slice none 0 0], .int .i64 e1]) (by simp [results, Tryz.results23, go_sem, y3]) rfl ?_
        rw [hEr.1, hEr.2]
        exact HFin.out
end Go.Proofs.YtmnmckblmoalkaaGreat
