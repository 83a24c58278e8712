/-
  Texts: Law4, Cols.
-/
import Derived.Test.YtmnmckblmoalkaaGreatB35
set_option linter.unusedVariables false
/-
  The region laws' own functions span and begun.
-/
namespace Go.Proofs.YtmnmckblmoalkaaGreat
open Go.RowKit
set_option maxRecDepth 100000
open Rg

/-- the interval of the numbers from a to b -/
def spI (a b : Int) : Iv := ⟨⟨4, a, ⟨#[]⟩⟩, ⟨4, b + 1, ⟨#[]⟩⟩, false⟩
theorem span_any (a b : Int) (w : World) (ha : -1000000 ≤ a ∧ a ≤ 1000000) (hb : -1000000 ≤ b ∧ b ≤ 1000000) : Calls Tryz.prog 55 #[.int .i64 a, .int .i64 b] w fun e w' => ∃ g, e = .returned (.slice (some ⟨g, 0, none⟩) 1 1) ∧ IvS w' (some ⟨g, 0, none⟩) 1 [spI a b] ∧ Below w.heap.size w w' := by
  go_enter Tryz.func55, Tryz.ntmps55
  go_wp2
  go_ret
  refine ⟨w.heap.size, rfl, ⟨rfl, fun _ => ⟨w.heap.size, 0, rfl, fun k x hx j u hu => ?_⟩⟩, (Below.refl _ _).alloc (Nat.le_refl _) _⟩
  cases k with
  | zero =>
    simp only [List.getElem?_cons_zero, Option.some.injEq] at hx
    subst hx
    rw [cell_new]
    simpa [spI, Iv.cs] using hu
  | succ k => simp at hx
/-- two sets built just now -/
theorem SetsS.two {w : World} {T : TypeId} {A1 A2 : Option Addr} {n1 c1 n2 c2 : Nat} {l1 l2 : List Iv} (h1 : IvS w A1 n1 l1) (h2 : IvS w A2 n2 l2) (o1 : okS A1 n1 c1) (o2 : okS A2 n2 c2) (b1 : n1 ≤ 1000000) (b2 : n2 ≤ 1000000) :
    SetsS (w.alloc (.cells #[.slice A1 n1 c1, .slice A2 n2 c2] T)) (some ⟨w.heap.size, 0, none⟩) 2 [((A1, n1, c1), l1), ((A2, n2, c2), l2)] := by
  refine ⟨⟨rfl, fun _ => ⟨w.heap.size, 0, rfl, fun k x hx j u hu => ?_⟩⟩, fun p hp => ?_⟩
  · have hj : j = 0 := by
      cases j with
      | zero => rfl
      | succ j => simp [setc] at hu
    subst hj
    rw [cell_new]
    match k, hx with
    | 0, hx => simp only [List.getElem?_cons_zero, Option.some.injEq] at hx; subst hx; simpa [setc] using hu
    | 1, hx => simp only [List.getElem?_cons_succ, List.getElem?_cons_zero, Option.some.injEq] at hx; subst hx; simpa [setc] using hu
    | k + 2, hx => simp at hx
  · rcases List.mem_cons.1 hp with rfl | hp
    · exact ⟨o1, b1, h1.keep (keeps_alloc _ _)⟩
    · rw [List.mem_singleton] at hp
      subst hp
      exact ⟨o2, b2, h2.keep (keeps_alloc _ _)⟩
theorem okS_one {g : Nat} : okS (some ⟨g, 0, none⟩) 1 1 := ⟨Nat.le_refl _, fun h => by cases h⟩
def bgA : Rg := boxR [[spI 1 2], [spI 5 6]]
def bgB : Rg := boxR [[spI 3 4], [spI 5 6]]
def bgC : Rg := boxR [[spI 3 4], [spI 7 8]]
theorem bg_err : boxErr [[spI 1 2], [spI 5 6]] = 0 ∧ boxErr [[spI 3 4], [spI 5 6]] = 0 ∧ boxErr [[spI 3 4], [spI 7 8]] = 0 := by decide +kernel
theorem bg_res : boxRes [[spI 1 2], [spI 5 6]] = bgA ∧ boxRes [[spI 3 4], [spI 5 6]] = bgB ∧ boxRes [[spI 3 4], [spI 7 8]] = bgC := by
  unfold boxRes
  rw [bg_err.1, bg_err.2.1, bg_err.2.2]
  exact ⟨rfl, rfl, rfl⟩
theorem bg_ok : OkR bgA ∧ OkR bgB ∧ OkR bgC := ⟨box_OkR bg_err.1, box_OkR bg_err.2.1, box_OkR bg_err.2.2⟩
theorem sp_wf (a b : Int) (ha : -1000000 ≤ a ∧ a ≤ 1000000) (hb : -1000000 ≤ b ∧ b ≤ 1000000) : ∀ x ∈ [spI a b], rgV x.f ∧ rgV x.t := fun x hx => by
  rw [List.mem_singleton] at hx
  subst hx
  unfold rgV spI
  simp only
  omega
theorem box2_wf (a b c d : Int) (ha : -1000000 ≤ a ∧ a ≤ 1000000) (hb : -1000000 ≤ b ∧ b ≤ 1000000) (hc : -1000000 ≤ c ∧ c ≤ 1000000) (hd : -1000000 ≤ d ∧ d ≤ 1000000) : WfR (boxR [[spI a b], [spI c d]]) := box_wf _ fun s hs => by
  rcases List.mem_cons.1 hs with rfl | hs
  · exact sp_wf a b ha hb
  · rw [List.mem_singleton] at hs
    subst hs
    exact sp_wf c d hc hd
theorem bg_wf : WfR bgA ∧ WfR bgB ∧ WfR bgC := ⟨box2_wf _ _ _ _ (by omega) (by omega) (by omega) (by omega), box2_wf _ _ _ _ (by omega) (by omega) (by omega) (by omega), box2_wf _ _ _ _ (by omega) (by omega) (by omega) (by omega)⟩
theorem bg_w : bgA.w = 2 ∧ bgB.w = 2 ∧ bgC.w = 2 := by decide +kernel
def bgX : Rg := comb opUr 2 bgA bgB
def bgY : Rg := comb opUr 2 bgA bgC
theorem bg_X : bgX.len = 1 ∧ bgX.size = 2 ∧ bgX.fits = true := by decide +kernel
theorem bg_Y : bgY.len = 2 ∧ bgY.size = 4 ∧ bgY.fits = true := by decide +kernel
theorem bg_eX : opErr opUr bgA bgB = 0 ∧ opRes opUr bgA bgB = bgX := by
  have h1 : opErr opUr bgA bgB = 0 := by
    rw [op_err bg_ok.1 bg_ok.2.1 (bg_w.1.trans bg_w.2.1.symm), bg_w.1]
    show (if bgX.size ≤ 64 ∧ bgX.fits = true then (0 : Int) else 2) = 0
    rw [bg_X.2.1, bg_X.2.2]
    rfl
  refine ⟨h1, ?_⟩
  rw [(op_ok h1).2.1, bg_w.1]
  rfl
theorem bg_eY : opErr opUr bgA bgC = 0 ∧ opRes opUr bgA bgC = bgY := by
  have h1 : opErr opUr bgA bgC = 0 := by
    rw [op_err bg_ok.1 bg_ok.2.2 (bg_w.1.trans bg_w.2.2.symm), bg_w.1]
    show (if bgY.size ≤ 64 ∧ bgY.fits = true then (0 : Int) else 2) = 0
    rw [bg_Y.2.1, bg_Y.2.2]
    rfl
  refine ⟨h1, ?_⟩
  rw [(op_ok h1).2.1, bg_w.1]
  rfl
theorem bg_okX : okB bgX = true := by rw [okB_true, ← bg_eX.2]; exact (op_ok bg_eX.1).1
theorem bg_okY : okB bgY = true := by rw [okB_true, ← bg_eY.2]; exact (op_ok bg_eY.1).1
set_option maxHeartbeats 4000000 in
theorem begun4_any (w : World) : Calls Tryz.prog 18 #[] w fun e w' => e = .returned (.bool true) ∧ Below w.heap.size w w' := by
  go_enter Tryz.func18, Tryz.ntmps18
  go_wp2_with fail
  refine (span_any 1 2 _ (by omega) (by omega)).mono ?_
  rintro e w1 ⟨g1, rfl, hS1, hb1⟩
  have hB1 := Below.next (Below.refl w.heap.size w) hb1
  have HS1 := Lib.hid hS1
  clear hS1 hb1
  go_wp2_with fail
  refine (span_any 5 6 _ (by omega) (by omega)).mono ?_
  rintro e w2 ⟨g2, rfl, hS2, hb2⟩
  replace HS1 := Lib.hid (HS1.out.keep (keeps_of hb2))
  have hB2 := Below.next hB1 hb2
  have HS2 := Lib.hid hS2
  clear hS2 hb2
  go_wp2_with fail
  have hal2 := hB2.alloc hB2.size (.cells #[.slice (some ⟨g1, 0, none⟩) 1 1, .slice (some ⟨g2, 0, none⟩) 1 1] 72)
  refine (Box_any _ 2 2 _ _ (SetsS.two (T := 72) HS1.out HS2.out okS_one okS_one (by omega) (by omega))).mono ?_
  rintro e w3 ⟨xA, fA, AA, nA, cA, rfl, hR3, hb3⟩
  simp only [List.map_cons, List.map_nil] at hR3 ⊢
  rw [bg_res.1] at hR3
  rw [bg_err.1]
  have hB3 := Below.next hal2 hb3
  have HRA := Lib.hid hR3
  clear hR3 hb3 hal2 HS1 HS2
  have HVA := Lib.hid (Blk.new w3 27 #[.int .i64 xA, .bool fA, .slice AA nA cA])
  replace HRA := Lib.hid (HRA.out.keep (keeps_alloc _ (.cells #[.int .i64 xA, .bool fA, .slice AA nA cA] 27)))
  have hv3 := hB3.alloc hB3.size (.cells #[.int .i64 xA, .bool fA, .slice AA nA cA] 27)
  obtain ⟨vA, HvA⟩ : ∃ z, Hid (w3.heap.size = z) := ⟨_, rfl⟩
  rw [HvA.out] at HVA
  go_upto_region 2 with fail
  rw [HvA.out]
  generalize hW3 : w3.alloc (.cells #[.int .i64 xA, .bool fA, .slice AA nA cA] 27) = W3 at *
  clear hW3
  go_wp2_with fail
  refine (span_any 3 4 _ (by omega) (by omega)).mono ?_
  rintro e w4 ⟨g4, rfl, hS4, hb4⟩
  replace HVA := Lib.hid (HVA.out.below hb4)
  replace HRA := Lib.hid (HRA.out.keep (keeps_of hb4))
  have hB4 := Below.next hv3 hb4
  have HS1 := Lib.hid hS4
  clear hS4 hb4
  go_wp2_with fail
  refine (span_any 5 6 _ (by omega) (by omega)).mono ?_
  rintro e w5 ⟨g5, rfl, hS5, hb5⟩
  replace HVA := Lib.hid (HVA.out.below hb5)
  replace HRA := Lib.hid (HRA.out.keep (keeps_of hb5))
  replace HS1 := Lib.hid (HS1.out.keep (keeps_of hb5))
  have hB5 := Below.next hB4 hb5
  have HS2 := Lib.hid hS5
  clear hS5 hb5
  go_wp2_with fail
  have hal5 := hB5.alloc hB5.size (.cells #[.slice (some ⟨g4, 0, none⟩) 1 1, .slice (some ⟨g5, 0, none⟩) 1 1] 72)
  replace HVA := Lib.hid (HVA.out.alloc (.cells #[.slice (some ⟨g4, 0, none⟩) 1 1, .slice (some ⟨g5, 0, none⟩) 1 1] 72))
  replace HRA := Lib.hid (HRA.out.keep (keeps_alloc _ (.cells #[.slice (some ⟨g4, 0, none⟩) 1 1, .slice (some ⟨g5, 0, none⟩) 1 1] 72)))
  refine (Box_any _ 2 2 _ _ (SetsS.two (T := 72) HS1.out HS2.out okS_one okS_one (by omega) (by omega))).mono ?_
  rintro e w6 ⟨xB, fB, AB, nB, cB, rfl, hR6, hb6⟩
  simp only [List.map_cons, List.map_nil] at hR6 ⊢
  rw [bg_res.2.1] at hR6
  rw [bg_err.2.1]
  replace HVA := Lib.hid (HVA.out.below hb6)
  replace HRA := Lib.hid (HRA.out.keep (keeps_of hb6))
  have hB6 := Below.next hal5 hb6
  have HRB := Lib.hid hR6
  clear hR6 hb6 hal5 HS1 HS2
  have HVB := Lib.hid (Blk.new w6 27 #[.int .i64 xB, .bool fB, .slice AB nB cB])
  replace HVA := Lib.hid (HVA.out.alloc (.cells #[.int .i64 xB, .bool fB, .slice AB nB cB] 27))
  replace HRA := Lib.hid (HRA.out.keep (keeps_alloc _ (.cells #[.int .i64 xB, .bool fB, .slice AB nB cB] 27)))
  replace HRB := Lib.hid (HRB.out.keep (keeps_alloc _ (.cells #[.int .i64 xB, .bool fB, .slice AB nB cB] 27)))
  have hv6 := hB6.alloc hB6.size (.cells #[.int .i64 xB, .bool fB, .slice AB nB cB] 27)
  obtain ⟨vB, HvB⟩ : ∃ z, Hid (w6.heap.size = z) := ⟨_, rfl⟩
  rw [HvB.out] at HVB
  go_upto_region 3 with fail
  rw [HvB.out]
  generalize hW6 : w6.alloc (.cells #[.int .i64 xB, .bool fB, .slice AB nB cB] 27) = W6 at *
  clear hW6
  go_wp2_with fail
  refine (span_any 3 4 _ (by omega) (by omega)).mono ?_
  rintro e w7 ⟨g7, rfl, hS7, hb7⟩
  replace HVA := Lib.hid (HVA.out.below hb7)
  replace HVB := Lib.hid (HVB.out.below hb7)
  replace HRA := Lib.hid (HRA.out.keep (keeps_of hb7))
  replace HRB := Lib.hid (HRB.out.keep (keeps_of hb7))
  have hB7 := Below.next hv6 hb7
  have HS1 := Lib.hid hS7
  clear hS7 hb7
  go_wp2_with fail
  refine (span_any 7 8 _ (by omega) (by omega)).mono ?_
  rintro e w8 ⟨g8, rfl, hS8, hb8⟩
  replace HVA := Lib.hid (HVA.out.below hb8)
  replace HVB := Lib.hid (HVB.out.below hb8)
  replace HRA := Lib.hid (HRA.out.keep (keeps_of hb8))
  replace HRB := Lib.hid (HRB.out.keep (keeps_of hb8))
  replace HS1 := Lib.hid (HS1.out.keep (keeps_of hb8))
  have hB8 := Below.next hB7 hb8
  have HS2 := Lib.hid hS8
  clear hS8 hb8
  go_wp2_with fail
  have hal8 := hB8.alloc hB8.size (.cells #[.slice (some ⟨g7, 0, none⟩) 1 1, .slice (some ⟨g8, 0, none⟩) 1 1] 72)
  replace HVA := Lib.hid (HVA.out.alloc (.cells #[.slice (some ⟨g7, 0, none⟩) 1 1, .slice (some ⟨g8, 0, none⟩) 1 1] 72))
  replace HVB := Lib.hid (HVB.out.alloc (.cells #[.slice (some ⟨g7, 0, none⟩) 1 1, .slice (some ⟨g8, 0, none⟩) 1 1] 72))
  replace HRA := Lib.hid (HRA.out.keep (keeps_alloc _ (.cells #[.slice (some ⟨g7, 0, none⟩) 1 1, .slice (some ⟨g8, 0, none⟩) 1 1] 72)))
  replace HRB := Lib.hid (HRB.out.keep (keeps_alloc _ (.cells #[.slice (some ⟨g7, 0, none⟩) 1 1, .slice (some ⟨g8, 0, none⟩) 1 1] 72)))
  refine (Box_any _ 2 2 _ _ (SetsS.two (T := 72) HS1.out HS2.out okS_one okS_one (by omega) (by omega))).mono ?_
  rintro e w9 ⟨xC, fC, AC, nC, cC, rfl, hR9, hb9⟩
  simp only [List.map_cons, List.map_nil] at hR9 ⊢
  rw [bg_res.2.2] at hR9
  rw [bg_err.2.2]
  replace HVA := Lib.hid (HVA.out.below hb9)
  replace HVB := Lib.hid (HVB.out.below hb9)
  replace HRA := Lib.hid (HRA.out.keep (keeps_of hb9))
  replace HRB := Lib.hid (HRB.out.keep (keeps_of hb9))
  have hB9 := Below.next hal8 hb9
  have HRC := Lib.hid hR9
  clear hR9 hb9 hal8 HS1 HS2
  have HVC := Lib.hid (Blk.new w9 27 #[.int .i64 xC, .bool fC, .slice AC nC cC])
  replace HVA := Lib.hid (HVA.out.alloc (.cells #[.int .i64 xC, .bool fC, .slice AC nC cC] 27))
  replace HVB := Lib.hid (HVB.out.alloc (.cells #[.int .i64 xC, .bool fC, .slice AC nC cC] 27))
  replace HRA := Lib.hid (HRA.out.keep (keeps_alloc _ (.cells #[.int .i64 xC, .bool fC, .slice AC nC cC] 27)))
  replace HRB := Lib.hid (HRB.out.keep (keeps_alloc _ (.cells #[.int .i64 xC, .bool fC, .slice AC nC cC] 27)))
  replace HRC := Lib.hid (HRC.out.keep (keeps_alloc _ (.cells #[.int .i64 xC, .bool fC, .slice AC nC cC] 27)))
  have hv9 := hB9.alloc hB9.size (.cells #[.int .i64 xC, .bool fC, .slice AC nC cC] 27)
  obtain ⟨vC, HvC⟩ : ∃ z, Hid (w9.heap.size = z) := ⟨_, rfl⟩
  rw [HvC.out] at HVC
  go_upto_region 4 with fail
  rw [HvC.out]
  generalize hW9 : w9.alloc (.cells #[.int .i64 xC, .bool fC, .slice AC nC cC] 27) = W9 at *
  clear hW9
  have zA := HVA.out.cell
  have zB := HVB.out.cell
  go_wp2_with fail
  refine (gunion_any bgA xA fA AA nA cA bgB xB fB AB nB cB _ HRA.out HRB.out bg_wf.1 bg_wf.2.1).mono ?_
  rintro e w10 ⟨xX, fX, AX, nX, cX, rfl, hR10, hb10⟩
  rw [bg_eX.1]
  rw [bg_eX.2] at hR10
  clear zA zB
  replace HVA := Lib.hid (HVA.out.below hb10)
  replace HVB := Lib.hid (HVB.out.below hb10)
  replace HVC := Lib.hid (HVC.out.below hb10)
  replace HRA := Lib.hid (HRA.out.keep (keeps_of hb10))
  replace HRB := Lib.hid (HRB.out.keep (keeps_of hb10))
  replace HRC := Lib.hid (HRC.out.keep (keeps_of hb10))
  have hB10 := Below.next hv9 hb10
  have HRX := Lib.hid hR10
  clear hR10 hb10
  have HVX := Lib.hid (Blk.new w10 27 #[.int .i64 xX, .bool fX, .slice AX nX cX])
  replace HVA := Lib.hid (HVA.out.alloc (.cells #[.int .i64 xX, .bool fX, .slice AX nX cX] 27))
  replace HVB := Lib.hid (HVB.out.alloc (.cells #[.int .i64 xX, .bool fX, .slice AX nX cX] 27))
  replace HVC := Lib.hid (HVC.out.alloc (.cells #[.int .i64 xX, .bool fX, .slice AX nX cX] 27))
  replace HRA := Lib.hid (HRA.out.keep (keeps_alloc _ (.cells #[.int .i64 xX, .bool fX, .slice AX nX cX] 27)))
  replace HRB := Lib.hid (HRB.out.keep (keeps_alloc _ (.cells #[.int .i64 xX, .bool fX, .slice AX nX cX] 27)))
  replace HRC := Lib.hid (HRC.out.keep (keeps_alloc _ (.cells #[.int .i64 xX, .bool fX, .slice AX nX cX] 27)))
  replace HRX := Lib.hid (HRX.out.keep (keeps_alloc _ (.cells #[.int .i64 xX, .bool fX, .slice AX nX cX] 27)))
  have hv10 := hB10.alloc hB10.size (.cells #[.int .i64 xX, .bool fX, .slice AX nX cX] 27)
  obtain ⟨vX, HvX⟩ : ∃ z, Hid (w10.heap.size = z) := ⟨_, rfl⟩
  rw [HvX.out] at HVX
  go_upto_region 5 with fail
  rw [HvX.out]
  generalize hW10 : w10.alloc (.cells #[.int .i64 xX, .bool fX, .slice AX nX cX] 27) = W10 at *
  clear hW10
  have zA := HVA.out.cell
  have zC := HVC.out.cell
  go_wp2_with fail
  refine (gunion_any bgA xA fA AA nA cA bgC xC fC AC nC cC _ HRA.out HRC.out bg_wf.1 bg_wf.2.2).mono ?_
  rintro e w11 ⟨xY, fY, AY, nY, cY, rfl, hR11, hb11⟩
  rw [bg_eY.1]
  rw [bg_eY.2] at hR11
  clear zA zC
  replace HVA := Lib.hid (HVA.out.below hb11)
  replace HVB := Lib.hid (HVB.out.below hb11)
  replace HVC := Lib.hid (HVC.out.below hb11)
  replace HVX := Lib.hid (HVX.out.below hb11)
  replace HRA := Lib.hid (HRA.out.keep (keeps_of hb11))
  replace HRB := Lib.hid (HRB.out.keep (keeps_of hb11))
  replace HRC := Lib.hid (HRC.out.keep (keeps_of hb11))
  replace HRX := Lib.hid (HRX.out.keep (keeps_of hb11))
  have hB11 := Below.next hv10 hb11
  have HRY := Lib.hid hR11
  clear hR11 hb11
  have HVY := Lib.hid (Blk.new w11 27 #[.int .i64 xY, .bool fY, .slice AY nY cY])
  replace HVA := Lib.hid (HVA.out.alloc (.cells #[.int .i64 xY, .bool fY, .slice AY nY cY] 27))
  replace HVB := Lib.hid (HVB.out.alloc (.cells #[.int .i64 xY, .bool fY, .slice AY nY cY] 27))
  replace HVC := Lib.hid (HVC.out.alloc (.cells #[.int .i64 xY, .bool fY, .slice AY nY cY] 27))
  replace HVX := Lib.hid (HVX.out.alloc (.cells #[.int .i64 xY, .bool fY, .slice AY nY cY] 27))
  replace HRA := Lib.hid (HRA.out.keep (keeps_alloc _ (.cells #[.int .i64 xY, .bool fY, .slice AY nY cY] 27)))
  replace HRB := Lib.hid (HRB.out.keep (keeps_alloc _ (.cells #[.int .i64 xY, .bool fY, .slice AY nY cY] 27)))
  replace HRC := Lib.hid (HRC.out.keep (keeps_alloc _ (.cells #[.int .i64 xY, .bool fY, .slice AY nY cY] 27)))
  replace HRX := Lib.hid (HRX.out.keep (keeps_alloc _ (.cells #[.int .i64 xY, .bool fY, .slice AY nY cY] 27)))
  replace HRY := Lib.hid (HRY.out.keep (keeps_alloc _ (.cells #[.int .i64 xY, .bool fY, .slice AY nY cY] 27)))
  have hv11 := hB11.alloc hB11.size (.cells #[.int .i64 xY, .bool fY, .slice AY nY cY] 27)
  obtain ⟨vY, HvY⟩ : ∃ z, Hid (w11.heap.size = z) := ⟨_, rfl⟩
  rw [HvY.out] at HVY
  go_upto_region 6 with fail
  rw [HvY.out]
  generalize hW11 : w11.alloc (.cells #[.int .i64 xY, .bool fY, .slice AY nY cY] 27) = W11 at *
  clear hW11
  obtain rfl : nX = 1 := by rw [HRX.out.len]; exact bg_X.1
  obtain rfl : nY = 2 := by rw [HRY.out.len]; exact bg_Y.1
  have zX := HVX.out.cell
  go_wp2_with fail
  refine (sizeR_any bgX xX fX AX 1 cX _ HRX.out).mono ?_
  rintro e w90 ⟨rfl, hb90⟩
  rw [bg_okX, if_pos rfl, bg_X.2.1]
  clear zX
  replace HVA := Lib.hid (HVA.out.below hb90)
  replace HVB := Lib.hid (HVB.out.below hb90)
  replace HVC := Lib.hid (HVC.out.below hb90)
  replace HVX := Lib.hid (HVX.out.below hb90)
  replace HVY := Lib.hid (HVY.out.below hb90)
  replace HRA := Lib.hid (HRA.out.keep (keeps_of hb90))
  replace HRB := Lib.hid (HRB.out.keep (keeps_of hb90))
  replace HRC := Lib.hid (HRC.out.keep (keeps_of hb90))
  replace HRX := Lib.hid (HRX.out.keep (keeps_of hb90))
  replace HRY := Lib.hid (HRY.out.keep (keeps_of hb90))
  have hB90 := Below.next hv11 hb90
  clear hb90
  have zY := HVY.out.cell
  go_wp2_with fail
  refine (sizeR_any bgY xY fY AY 2 cY _ HRY.out).mono ?_
  rintro e w91 ⟨rfl, hb91⟩
  rw [bg_okY, if_pos rfl, bg_Y.2.1]
  clear zY
  replace HVA := Lib.hid (HVA.out.below hb91)
  replace HVB := Lib.hid (HVB.out.below hb91)
  replace HVC := Lib.hid (HVC.out.below hb91)
  replace HVX := Lib.hid (HVX.out.below hb91)
  replace HVY := Lib.hid (HVY.out.below hb91)
  replace HRA := Lib.hid (HRA.out.keep (keeps_of hb91))
  replace HRB := Lib.hid (HRB.out.keep (keeps_of hb91))
  replace HRC := Lib.hid (HRC.out.keep (keeps_of hb91))
  replace HRX := Lib.hid (HRX.out.keep (keeps_of hb91))
  replace HRY := Lib.hid (HRY.out.keep (keeps_of hb91))
  have hB91 := Below.next hB90 hb91
  clear hb91
  have zY := HVY.out.cell
  go_wp2_with fail
  refine (rvalidR_any bgY xY fY AY 2 cY _ HRY.out).mono ?_
  rintro e w92 ⟨rfl, hb92⟩
  rw [bg_okY]
  have hB92 := Below.next hB91 hb92
  clear zY
  go_wp2
  go_ret
  exact ⟨rfl, hB92⟩
end Go.Proofs.YtmnmckblmoalkaaGreat

/-
  Columns: lists of numbers, and whether they are distinct indices below a width; the program's distinct and the reference's.
-/
namespace Go.Proofs.YtmnmckblmoalkaaGreat
open Go.RowKit
set_option maxRecDepth 100000

/-- a number's cell -/
def i64c (b : Int) : List Value := [.int .i64 b]
/-- a list of columns lies there -/
abbrev ClS (w : World) (A : Option Addr) (n : Nat) (cs : List Int) : Prop := Sl 1 i64c w A n cs
/-- distinct indices below a width -/
def dstB (W : Int) (cs : List Int) : Bool := cs.all (fun c => decide (0 ≤ c ∧ c < W)) && decide cs.Nodup
theorem dstB_true {W : Int} {cs : List Int} : dstB W cs = true ↔ (∀ c ∈ cs, 0 ≤ c ∧ c < W) ∧ cs.Nodup := by
  unfold dstB
  rw [Bool.and_eq_true, List.all_eq_true]
  simp
theorem dstB_len : ∀ (n : Nat) (l : List Int), l.Nodup → (∀ c ∈ l, 0 ≤ c ∧ c < (n : Int)) → l.length ≤ n
  | 0, l, _, h => by
    cases l with
    | nil => exact Nat.le_refl _
    | cons x l => have := h x List.mem_cons_self; omega
  | n + 1, l, hn, h => by
    by_cases hm : (n : Int) ∈ l
    · have h1 := dstB_len n (l.erase (n : Int)) (hn.erase _) (fun c hc => by
        have h2 := (List.Nodup.mem_erase_iff hn).1 hc
        have := h c h2.2
        omega)
      rw [List.length_erase_of_mem hm] at h1
      omega
    · have h1 := dstB_len n l hn (fun c hc => by
        have h2 := h c hc
        have h3 : c ≠ n := fun e => hm (e ▸ hc)
        omega)
      omega
theorem dst_len {W : Int} {cs : List Int} (h : dstB W cs = true) (hW : W ≤ 12) : cs.length ≤ 12 :=
  dstB_len 12 cs (dstB_true.1 h).2 (fun c hc => by have := (dstB_true.1 h).1 c hc; omega)
theorem take_snocI {l : List Int} {k : Nat} {v : Int} (h : l[k]? = some v) : l.take (k + 1) = l.take k ++ [v] := by
  rw [List.take_add_one, h]
  rfl
theorem dst_bad {W : Int} {cs : List Int} {k : Nat} {c : Int} (h : cs[k]? = some c) (hb : ¬ (0 ≤ c ∧ c < W) ∨ c ∈ cs.take k) : dstB W cs = false := by
  rw [Bool.eq_false_iff]
  intro hd
  have h1 := dstB_true.1 hd
  rcases hb with hb | hb
  · exact hb (h1.1 c (List.mem_of_getElem? h))
  · have h2 : (cs.take (k + 1)).Nodup := h1.2.sublist (List.take_sublist _ _)
    rw [take_snocI h, List.nodup_append] at h2
    exact h2.2.2 c hb c List.mem_cons_self rfl
theorem dst_step {W : Int} {cs : List Int} {k : Nat} {c : Int} (h : cs[k]? = some c) (hd : dstB W (cs.take k) = true) (h1 : 0 ≤ c) (h2 : c < W) (h3 : c ∉ cs.take k) : dstB W (cs.take (k + 1)) = true := by
  have h4 := dstB_true.1 hd
  rw [take_snocI h, dstB_true]
  refine ⟨fun x hx => ?_, ?_⟩
  · rcases List.mem_append.1 hx with hx | hx
    · exact h4.1 x hx
    · rw [List.mem_singleton.1 hx]
      exact ⟨h1, h2⟩
  · rw [List.nodup_append]
    refine ⟨h4.2, by simp, fun a ha b hb e => ?_⟩
    rw [List.mem_singleton.1 hb] at e
    exact h3 (e ▸ ha)
theorem dst_end {W : Int} {cs : List Int} {n : Nat} (hl : cs.length ≤ n) (h : dstB W (cs.take n) = true) : dstB W cs = true := by
  rwa [List.take_of_length_le hl] at h
theorem dst_k {W : Int} {cs : List Int} {k n : Nat} (hl : cs.length = n) (hk : k ≤ n) (hW : W ≤ 12) (h : dstB W (cs.take k) = true) : k ≤ 12 := by
  have := dst_len h hW
  rw [List.length_take] at this
  omega
/-- the marks -/
def marks (cs : List Int) : Nat → Value := fun j => .bool (decide ((j : Int) ∈ cs))
/-- the array of marks -/
def MkS (w : World) (h : Nat) (cs : List Int) : Prop := ∃ m : Array Value, Blk w h 128 m ∧ ∀ j, j < 12 → m[j]? = some (marks cs j)
set_option maxHeartbeats 2000000 in
theorem gdistinct_any (A : Option Addr) (n c : Nat) (cs : List Int) (W : Int) (w : World) (hs : ClS w A n cs) (hW : W ≤ 12) :
    Calls Tryz.prog 51 #[.slice A n c, .int .i64 W] w fun e w' => e = .returned (.bool (dstB W cs)) ∧ Below w.heap.size w w' := by
  have HS := Lib.hid hs
  have Hln := Lib.hid hs.len
  clear hs
  go_enter Tryz.func51, Tryz.ntmps51
  go_wp2_with fail
  go_loopw [10] (fun i wr => ∃ k : Nat, k ≤ n ∧ i = .int .i64 (k : Int) ∧ Hid (dstB W (cs.take k) = true) ∧ Hid (MkS wr w.heap.size (cs.take k)) ∧ Hid (Below w.heap.size w wr)) (fun i _ => n - (intOf i).toNat)
  case atStart => exact ⟨0, by omega, rfl, Lib.hid (by simp [dstB]), Lib.hid ⟨_, Blk.new _ _ _, fun j hj => by
    have : j = 0 ∨ j = 1 ∨ j = 2 ∨ j = 3 ∨ j = 4 ∨ j = 5 ∨ j = 6 ∨ j = 7 ∨ j = 8 ∨ j = 9 ∨ j = 10 ∨ j = 11 := by omega
    rcases this with rfl | rfl | rfl | rfl | rfl | rfl | rfl | rfl | rfl | rfl | rfl | rfl <;> simp [marks]⟩, Lib.hid ((Below.refl _ _).alloc (Nat.le_refl _) _)⟩
  case round =>
    obtain ⟨k, hk, rfl, Hd, HM, HB⟩ := hrel
    have hk12 : k ≤ 12 := dst_k Hln.out hk hW Hd.out
    by_cases hlt : k < n
    · obtain ⟨b, o, x, rfl, hx, hxc⟩ := (HS.out.keep (keeps_of HB.out)).at hlt
      have d0 := hxc 0 _ rfl
      simp only [Nat.mul_one, Nat.add_zero] at d0
      have Hx := Lib.hid hx
      clear hx hxc
      rcases Int.lt_or_le x 0 with h0 | h0
      · have g1 : decide (x < 0) = true := by simp; omega
        have hf := dst_bad (W := W) Hx.out (.inl (by omega))
        go_wp2
        go_ret
        exact ⟨by first | rfl | (rw [hf]; rfl), HB.out⟩
      · have g1 : decide (x < 0) = false := by simp; omega
        rcases Int.lt_or_le x W with h1 | h1
        · have g2 : decide (W ≤ x) = false := by simp; omega
          obtain ⟨j, rfl⟩ := Int.eq_ofNat_of_zero_le h0
          have hj : j < 12 := by omega
          obtain ⟨m, hm, hmj⟩ := HM.out
          have zm := hm.cell
          have zf := hm.free
          have zj := hmj j hj
          unfold marks at zj
          by_cases hin : (j : Int) ∈ cs.take k
          · have hf := dst_bad (W := W) Hx.out (.inr hin)
            rw [decide_eq_true hin] at zj
            go_wp2
            go_ret
            exact ⟨by first | rfl | (rw [hf]; rfl), HB.out⟩
          · rw [decide_eq_false hin] at zj
            have hd' := dst_step Hx.out Hd.out h0 h1 hin
            have Hd' := Lib.hid hd'
            have HM' : Hid (MkS (wr.setCell ⟨w.heap.size, j, none⟩ (.bool true)) w.heap.size (cs.take (k + 1))) := Lib.hid ⟨_, hm.set_ j (.bool true), fun i hi => by
              rw [Array.getElem?_setIfInBounds]
              split
              · rename_i e
                subst e
                have hsz : j < m.size := by
                  rcases Nat.lt_or_ge j m.size with h | h
                  · exact h
                  · rw [Array.getElem?_eq_none h] at zj
                    cases zj
                rw [if_pos hsz]
                simp [marks, take_snocI Hx.out]
              · rename_i e
                rw [hmj i hi]
                have e2 : ¬ ((i : Int) = (j : Int)) := by omega
                simp [marks, take_snocI Hx.out, e2]⟩
            have HB' := Lib.hid (HB.out.setCell (p := ⟨w.heap.size, j, none⟩) (Nat.le_refl _) (.bool true))
            clear hd' hm hmj HM Hd
            go_wp2
            go_roundw
            case rel => exact ⟨k + 1, by omega, by go_num, Hd', HM', HB'⟩
            case measure => simp [intOf]; omega
        · have g2 : decide (W ≤ x) = true := by simp; omega
          have hf := dst_bad (W := W) Hx.out (.inl (by omega))
          go_wp2
          go_ret
          exact ⟨by first | rfl | (rw [hf]; rfl), HB.out⟩
    · obtain rfl : k = n := by omega
      have hf := dst_end (by rw [Hln.out]; exact Nat.le_refl _) Hd.out
      go_wp2
      go_ret
      exact ⟨by first | rfl | (rw [hf]; rfl), HB.out⟩
end Go.Proofs.YtmnmckblmoalkaaGreat
