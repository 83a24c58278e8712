/-
  Texts: Law4, First, Case.
-/
import Derived.Test.YtmnmckblmoalkaaGreatB22
set_option linter.unusedVariables false
/-
  The region laws' own functions span and begun.
-/
namespace Go.Proofs.YtmnmckblmoalkaaGreat
open Go.RowKit
set_option maxRecDepth 100000
open Rg

/-- the interval of the numbers from a to b -/
def spI (a b : Int) : Iv := ⟨⟨4, a, ⟨#[]⟩⟩, ⟨4, b + 1, ⟨#[]⟩⟩, false⟩
theorem span_any (a b : Int) (w : World) (ha : -1000000 ≤ a ∧ a ≤ 1000000) (hb : -1000000 ≤ b ∧ b ≤ 1000000) : Calls Tryz.prog 55 #[.int .i64 a, .int .i64 b] w fun e w' => ∃ g, e = .returned (.slice (some ⟨g, 0, none⟩) 1 1) ∧ IvS w' (some ⟨g, 0, none⟩) 1 [spI a b] ∧ Below w.heap.size w w' := by
  go_enter Tryz.func55, Tryz.ntmps55
  go_wp2
  go_ret
  refine ⟨w.heap.size, rfl, ⟨rfl, fun _ => ⟨w.heap.size, 0, rfl, fun k x hx j u hu => ?_⟩⟩, (Below.refl _ _).alloc (Nat.le_refl _) _⟩
  cases k with
  | zero =>
    simp only [List.getElem?_cons_zero, Option.some.injEq] at hx
    subst hx
    rw [cell_new]
    simpa [spI, Iv.cs] using hu
  | succ k => simp at hx
/-- two sets built just now -/
theorem SetsS.two {w : World} {T : TypeId} {A1 A2 : Option Addr} {n1 c1 n2 c2 : Nat} {l1 l2 : List Iv} (h1 : IvS w A1 n1 l1) (h2 : IvS w A2 n2 l2) (o1 : okS A1 n1 c1) (o2 : okS A2 n2 c2) (b1 : n1 ≤ 1000000) (b2 : n2 ≤ 1000000) :
    SetsS (w.alloc (.cells #[.slice A1 n1 c1, .slice A2 n2 c2] T)) (some ⟨w.heap.size, 0, none⟩) 2 [((A1, n1, c1), l1), ((A2, n2, c2), l2)] := by
  refine ⟨⟨rfl, fun _ => ⟨w.heap.size, 0, rfl, fun k x hx j u hu => ?_⟩⟩, fun p hp => ?_⟩
  · have hj : j = 0 := by
      cases j with
      | zero => rfl
      | succ j => simp [setc] at hu
    subst hj
    rw [cell_new]
    match k, hx with
    | 0, hx => simp only [List.getElem?_cons_zero, Option.some.injEq] at hx; subst hx; simpa [setc] using hu
    | 1, hx => simp only [List.getElem?_cons_succ, List.getElem?_cons_zero, Option.some.injEq] at hx; subst hx; simpa [setc] using hu
    | k + 2, hx => simp at hx
  · rcases List.mem_cons.1 hp with rfl | hp
    · exact ⟨o1, b1, h1.keep (keeps_alloc _ _)⟩
    · rw [List.mem_singleton] at hp
      subst hp
      exact ⟨o2, b2, h2.keep (keeps_alloc _ _)⟩
theorem okS_one {g : Nat} : okS (some ⟨g, 0, none⟩) 1 1 := ⟨Nat.le_refl _, fun h => by cases h⟩
def bgA : Rg := boxR [[spI 1 2], [spI 5 6]]
def bgB : Rg := boxR [[spI 3 4], [spI 5 6]]
def bgC : Rg := boxR [[spI 3 4], [spI 7 8]]
theorem bg_err : boxErr [[spI 1 2], [spI 5 6]] = 0 ∧ boxErr [[spI 3 4], [spI 5 6]] = 0 ∧ boxErr [[spI 3 4], [spI 7 8]] = 0 := by decide +kernel
theorem bg_res : boxRes [[spI 1 2], [spI 5 6]] = bgA ∧ boxRes [[spI 3 4], [spI 5 6]] = bgB ∧ boxRes [[spI 3 4], [spI 7 8]] = bgC := by
  unfold boxRes
  rw [bg_err.1, bg_err.2.1, bg_err.2.2]
  exact ⟨rfl, rfl, rfl⟩
theorem bg_ok : OkR bgA ∧ OkR bgB ∧ OkR bgC := ⟨box_OkR bg_err.1, box_OkR bg_err.2.1, box_OkR bg_err.2.2⟩
theorem sp_wf (a b : Int) (ha : -1000000 ≤ a ∧ a ≤ 1000000) (hb : -1000000 ≤ b ∧ b ≤ 1000000) : ∀ x ∈ [spI a b], rgV x.f ∧ rgV x.t := fun x hx => by
  rw [List.mem_singleton] at hx
  subst hx
  unfold rgV spI
  simp only
  omega
theorem box2_wf (a b c d : Int) (ha : -1000000 ≤ a ∧ a ≤ 1000000) (hb : -1000000 ≤ b ∧ b ≤ 1000000) (hc : -1000000 ≤ c ∧ c ≤ 1000000) (hd : -1000000 ≤ d ∧ d ≤ 1000000) : WfR (boxR [[spI a b], [spI c d]]) := box_wf _ fun s hs => by
  rcases List.mem_cons.1 hs with rfl | hs
  · exact sp_wf a b ha hb
  · rw [List.mem_singleton] at hs
    subst hs
    exact sp_wf c d hc hd
theorem bg_wf : WfR bgA ∧ WfR bgB ∧ WfR bgC := ⟨box2_wf _ _ _ _ (by omega) (by omega) (by omega) (by omega), box2_wf _ _ _ _ (by omega) (by omega) (by omega) (by omega), box2_wf _ _ _ _ (by omega) (by omega) (by omega) (by omega)⟩
theorem bg_w : bgA.w = 2 ∧ bgB.w = 2 ∧ bgC.w = 2 := by decide +kernel
def bgX : Rg := comb opUr 2 bgA bgB
def bgY : Rg := comb opUr 2 bgA bgC
theorem bg_X : bgX.len = 1 ∧ bgX.size = 2 ∧ bgX.fits = true := by decide +kernel
theorem bg_Y : bgY.len = 2 ∧ bgY.size = 4 ∧ bgY.fits = true := by decide +kernel
theorem bg_eX : opErr opUr bgA bgB = 0 ∧ opRes opUr bgA bgB = bgX := by
  have h1 : opErr opUr bgA bgB = 0 := by
    rw [op_err bg_ok.1 bg_ok.2.1 (bg_w.1.trans bg_w.2.1.symm), bg_w.1]
    show (if bgX.size ≤ 64 ∧ bgX.fits = true then (0 : Int) else 2) = 0
    rw [bg_X.2.1, bg_X.2.2]
    rfl
  refine ⟨h1, ?_⟩
  rw [(op_ok h1).2.1, bg_w.1]
  rfl
theorem bg_eY : opErr opUr bgA bgC = 0 ∧ opRes opUr bgA bgC = bgY := by
  have h1 : opErr opUr bgA bgC = 0 := by
    rw [op_err bg_ok.1 bg_ok.2.2 (bg_w.1.trans bg_w.2.2.symm), bg_w.1]
    show (if bgY.size ≤ 64 ∧ bgY.fits = true then (0 : Int) else 2) = 0
    rw [bg_Y.2.1, bg_Y.2.2]
    rfl
  refine ⟨h1, ?_⟩
  rw [(op_ok h1).2.1, bg_w.1]
  rfl
theorem bg_okX : okB bgX = true := by rw [okB_true, ← bg_eX.2]; exact (op_ok bg_eX.1).1
theorem bg_okY : okB bgY = true := by rw [okB_true, ← bg_eY.2]; exact (op_ok bg_eY.1).1
set_option maxHeartbeats 4000000 in
theorem begun4_any (w : World) : Calls Tryz.prog 18 #[] w fun e w' => e = .returned (.bool true) ∧ Below w.heap.size w w' := by
  go_enter Tryz.func18, Tryz.ntmps18
  go_wp2_with fail
  refine (span_any 1 2 _ (by omega) (by omega)).mono ?_
  rintro e w1 ⟨g1, rfl, hS1, hb1⟩
  have hB1 := Below.next (Below.refl w.heap.size w) hb1
  have HS1 := Lib.hid hS1
  clear hS1 hb1
  go_wp2_with fail
  refine (span_any 5 6 _ (by omega) (by omega)).mono ?_
  rintro e w2 ⟨g2, rfl, hS2, hb2⟩
  replace HS1 := Lib.hid (HS1.out.keep (keeps_of hb2))
  have hB2 := Below.next hB1 hb2
  have HS2 := Lib.hid hS2
  clear hS2 hb2
  go_wp2_with fail
  have hal2 := hB2.alloc hB2.size (.cells #[.slice (some ⟨g1, 0, none⟩) 1 1, .slice (some ⟨g2, 0, none⟩) 1 1] 72)
  refine (Box_any _ 2 2 _ _ (SetsS.two (T := 72) HS1.out HS2.out okS_one okS_one (by omega) (by omega))).mono ?_
  rintro e w3 ⟨xA, fA, AA, nA, cA, rfl, hR3, hb3⟩
  simp only [List.map_cons, List.map_nil] at hR3 ⊢
  rw [bg_res.1] at hR3
  rw [bg_err.1]
  have hB3 := Below.next hal2 hb3
  have HRA := Lib.hid hR3
  clear hR3 hb3 hal2 HS1 HS2
  have HVA := Lib.hid (Blk.new w3 27 #[.int .i64 xA, .bool fA, .slice AA nA cA])
  replace HRA := Lib.hid (HRA.out.keep (keeps_alloc _ (.cells #[.int .i64 xA, .bool fA, .slice AA nA cA] 27)))
  have hv3 := hB3.alloc hB3.size (.cells #[.int .i64 xA, .bool fA, .slice AA nA cA] 27)
  obtain ⟨vA, HvA⟩ : ∃ z, Hid (w3.heap.size = z) := ⟨_, rfl⟩
  rw [HvA.out] at HVA
  go_upto_region 2 with fail
  rw [HvA.out]
  generalize hW3 : w3.alloc (.cells #[.int .i64 xA, .bool fA, .slice AA nA cA] 27) = W3 at *
  clear hW3
  go_wp2_with fail
  refine (span_any 3 4 _ (by omega) (by omega)).mono ?_
  rintro e w4 ⟨g4, rfl, hS4, hb4⟩
  replace HVA := Lib.hid (HVA.out.below hb4)
  replace HRA := Lib.hid (HRA.out.keep (keeps_of hb4))
  have hB4 := Below.next hv3 hb4
  have HS1 := Lib.hid hS4
  clear hS4 hb4
  go_wp2_with fail
  refine (span_any 5 6 _ (by omega) (by omega)).mono ?_
  rintro e w5 ⟨g5, rfl, hS5, hb5⟩
  replace HVA := Lib.hid (HVA.out.below hb5)
  replace HRA := Lib.hid (HRA.out.keep (keeps_of hb5))
  replace HS1 := Lib.hid (HS1.out.keep (keeps_of hb5))
  have hB5 := Below.next hB4 hb5
  have HS2 := Lib.hid hS5
  clear hS5 hb5
  go_wp2_with fail
  have hal5 := hB5.alloc hB5.size (.cells #[.slice (some ⟨g4, 0, none⟩) 1 1, .slice (some ⟨g5, 0, none⟩) 1 1] 72)
  replace HVA := Lib.hid (HVA.out.alloc (.cells #[.slice (some ⟨g4, 0, none⟩) 1 1, .slice (some ⟨g5, 0, none⟩) 1 1] 72))
  replace HRA := Lib.hid (HRA.out.keep (keeps_alloc _ (.cells #[.slice (some ⟨g4, 0, none⟩) 1 1, .slice (some ⟨g5, 0, none⟩) 1 1] 72)))
  refine (Box_any _ 2 2 _ _ (SetsS.two (T := 72) HS1.out HS2.out okS_one okS_one (by omega) (by omega))).mono ?_
  rintro e w6 ⟨xB, fB, AB, nB, cB, rfl, hR6, hb6⟩
  simp only [List.map_cons, List.map_nil] at hR6 ⊢
  rw [bg_res.2.1] at hR6
  rw [bg_err.2.1]
  replace HVA := Lib.hid (HVA.out.below hb6)
  replace HRA := Lib.hid (HRA.out.keep (keeps_of hb6))
  have hB6 := Below.next hal5 hb6
  have HRB := Lib.hid hR6
  clear hR6 hb6 hal5 HS1 HS2
  have HVB := Lib.hid (Blk.new w6 27 #[.int .i64 xB, .bool fB, .slice AB nB cB])
  replace HVA := Lib.hid (HVA.out.alloc (.cells #[.int .i64 xB, .bool fB, .slice AB nB cB] 27))
  replace HRA := Lib.hid (HRA.out.keep (keeps_alloc _ (.cells #[.int .i64 xB, .bool fB, .slice AB nB cB] 27)))
  replace HRB := Lib.hid (HRB.out.keep (keeps_alloc _ (.cells #[.int .i64 xB, .bool fB, .slice AB nB cB] 27)))
  have hv6 := hB6.alloc hB6.size (.cells #[.int .i64 xB, .bool fB, .slice AB nB cB] 27)
  obtain ⟨vB, HvB⟩ : ∃ z, Hid (w6.heap.size = z) := ⟨_, rfl⟩
  rw [HvB.out] at HVB
  go_upto_region 3 with fail
  rw [HvB.out]
  generalize hW6 : w6.alloc (.cells #[.int .i64 xB, .bool fB, .slice AB nB cB] 27) = W6 at *
  clear hW6
  go_wp2_with fail
  refine (span_any 3 4 _ (by omega) (by omega)).mono ?_
  rintro e w7 ⟨g7, rfl, hS7, hb7⟩
  replace HVA := Lib.hid (HVA.out.below hb7)
  replace HVB := Lib.hid (HVB.out.below hb7)
  replace HRA := Lib.hid (HRA.out.keep (keeps_of hb7))
  replace HRB := Lib.hid (HRB.out.keep (keeps_of hb7))
  have hB7 := Below.next hv6 hb7
  have HS1 := Lib.hid hS7
  clear hS7 hb7
  go_wp2_with fail
  refine (span_any 7 8 _ (by omega) (by omega)).mono ?_
  rintro e w8 ⟨g8, rfl, hS8, hb8⟩
  replace HVA := Lib.hid (HVA.out.below hb8)
  replace HVB := Lib.hid (HVB.out.below hb8)
  replace HRA := Lib.hid (HRA.out.keep (keeps_of hb8))
  replace HRB := Lib.hid (HRB.out.keep (keeps_of hb8))
  replace HS1 := Lib.hid (HS1.out.keep (keeps_of hb8))
  have hB8 := Below.next hB7 hb8
  have HS2 := Lib.hid hS8
  clear hS8 hb8
  go_wp2_with fail
  have hal8 := hB8.alloc hB8.size (.cells #[.slice (some ⟨g7, 0, none⟩) 1 1, .slice (some ⟨g8, 0, none⟩) 1 1] 72)
  replace HVA := Lib.hid (HVA.out.alloc (.cells #[.slice (some ⟨g7, 0, none⟩) 1 1, .slice (some ⟨g8, 0, none⟩) 1 1] 72))
  replace HVB := Lib.hid (HVB.out.alloc (.cells #[.slice (some ⟨g7, 0, none⟩) 1 1, .slice (some ⟨g8, 0, none⟩) 1 1] 72))
  replace HRA := Lib.hid (HRA.out.keep (keeps_alloc _ (.cells #[.slice (some ⟨g7, 0, none⟩) 1 1, .slice (some ⟨g8, 0, none⟩) 1 1] 72)))
  replace HRB := Lib.hid (HRB.out.keep (keeps_alloc _ (.cells #[.slice (some ⟨g7, 0, none⟩) 1 1, .slice (some ⟨g8, 0, none⟩) 1 1] 72)))
  refine (Box_any _ 2 2 _ _ (SetsS.two (T := 72) HS1.out HS2.out okS_one okS_one (by omega) (by omega))).mono ?_
  rintro e w9 ⟨xC, fC, AC, nC, cC, rfl, hR9, hb9⟩
  simp only [List.map_cons, List.map_nil] at hR9 ⊢
  rw [bg_res.2.2] at hR9
  rw [bg_err.2.2]
  replace HVA := Lib.hid (HVA.out.below hb9)
  replace HVB := Lib.hid (HVB.out.below hb9)
  replace HRA := Lib.hid (HRA.out.keep (keeps_of hb9))
  replace HRB := Lib.hid (HRB.out.keep (keeps_of hb9))
  have hB9 := Below.next hal8 hb9
  have HRC := Lib.hid hR9
  clear hR9 hb9 hal8 HS1 HS2
  have HVC := Lib.hid (Blk.new w9 27 #[.int .i64 xC, .bool fC, .slice AC nC cC])
  replace HVA := Lib.hid (HVA.out.alloc (.cells #[.int .i64 xC, .bool fC, .slice AC nC cC] 27))
  replace HVB := Lib.hid (HVB.out.alloc (.cells #[.int .i64 xC, .bool fC, .slice AC nC cC] 27))
  replace HRA := Lib.hid (HRA.out.keep (keeps_alloc _ (.cells #[.int .i64 xC, .bool fC, .slice AC nC cC] 27)))
  replace HRB := Lib.hid (HRB.out.keep (keeps_alloc _ (.cells #[.int .i64 xC, .bool fC, .slice AC nC cC] 27)))
  replace HRC := Lib.hid (HRC.out.keep (keeps_alloc _ (.cells #[.int .i64 xC, .bool fC, .slice AC nC cC] 27)))
  have hv9 := hB9.alloc hB9.size (.cells #[.int .i64 xC, .bool fC, .slice AC nC cC] 27)
  obtain ⟨vC, HvC⟩ : ∃ z, Hid (w9.heap.size = z) := ⟨_, rfl⟩
  rw [HvC.out] at HVC
  go_upto_region 4 with fail
  rw [HvC.out]
  generalize hW9 : w9.alloc (.cells #[.int .i64 xC, .bool fC, .slice AC nC cC] 27) = W9 at *
  clear hW9
  have zA := HVA.out.cell
  have zB := HVB.out.cell
  go_wp2_with fail
  refine (gunion_any bgA xA fA AA nA cA bgB xB fB AB nB cB _ HRA.out HRB.out bg_wf.1 bg_wf.2.1).mono ?_
  rintro e w10 ⟨xX, fX, AX, nX, cX, rfl, hR10, hb10⟩
  rw [bg_eX.1]
  rw [bg_eX.2] at hR10
  clear zA zB
  replace HVA := Lib.hid (HVA.out.below hb10)
  replace HVB := Lib.hid (HVB.out.below hb10)
  replace HVC := Lib.hid (HVC.out.below hb10)
  replace HRA := Lib.hid (HRA.out.keep (keeps_of hb10))
  replace HRB := Lib.hid (HRB.out.keep (keeps_of hb10))
  replace HRC := Lib.hid (HRC.out.keep (keeps_of hb10))
  have hB10 := Below.next hv9 hb10
  have HRX := Lib.hid hR10
  clear hR10 hb10
  have HVX := Lib.hid (Blk.new w10 27 #[.int .i64 xX, .bool fX, .slice AX nX cX])
  replace HVA := Lib.hid (HVA.out.alloc (.cells #[.int .i64 xX, .bool fX, .slice AX nX cX] 27))
  replace HVB := Lib.hid (HVB.out.alloc (.cells #[.int .i64 xX, .bool fX, .slice AX nX cX] 27))
  replace HVC := Lib.hid (HVC.out.alloc (.cells #[.int .i64 xX, .bool fX, .slice AX nX cX] 27))
  replace HRA := Lib.hid (HRA.out.keep (keeps_alloc _ (.cells #[.int .i64 xX, .bool fX, .slice AX nX cX] 27)))
  replace HRB := Lib.hid (HRB.out.keep (keeps_alloc _ (.cells #[.int .i64 xX, .bool fX, .slice AX nX cX] 27)))
  replace HRC := Lib.hid (HRC.out.keep (keeps_alloc _ (.cells #[.int .i64 xX, .bool fX, .slice AX nX cX] 27)))
  replace HRX := Lib.hid (HRX.out.keep (keeps_alloc _ (.cells #[.int .i64 xX, .bool fX, .slice AX nX cX] 27)))
  have hv10 := hB10.alloc hB10.size (.cells #[.int .i64 xX, .bool fX, .slice AX nX cX] 27)
  obtain ⟨vX, HvX⟩ : ∃ z, Hid (w10.heap.size = z) := ⟨_, rfl⟩
  rw [HvX.out] at HVX
  go_upto_region 5 with fail
  rw [HvX.out]
  generalize hW10 : w10.alloc (.cells #[.int .i64 xX, .bool fX, .slice AX nX cX] 27) = W10 at *
  clear hW10
  have zA := HVA.out.cell
  have zC := HVC.out.cell
  go_wp2_with fail
  refine (gunion_any bgA xA fA AA nA cA bgC xC fC AC nC cC _ HRA.out HRC.out bg_wf.1 bg_wf.2.2).mono ?_
  rintro e w11 ⟨xY, fY, AY, nY, cY, rfl, hR11, hb11⟩
  rw [bg_eY.1]
  rw [bg_eY.2] at hR11
  clear zA zC
  replace HVA := Lib.hid (HVA.out.below hb11)
  replace HVB := Lib.hid (HVB.out.below hb11)
  replace HVC := Lib.hid (HVC.out.below hb11)
  replace HVX := Lib.hid (HVX.out.below hb11)
  replace HRA := Lib.hid (HRA.out.keep (keeps_of hb11))
  replace HRB := Lib.hid (HRB.out.keep (keeps_of hb11))
  replace HRC := Lib.hid (HRC.out.keep (keeps_of hb11))
  replace HRX := Lib.hid (HRX.out.keep (keeps_of hb11))
  have hB11 := Below.next hv10 hb11
  have HRY := Lib.hid hR11
  clear hR11 hb11
  have HVY := Lib.hid (Blk.new w11 27 #[.int .i64 xY, .bool fY, .slice AY nY cY])
  replace HVA := Lib.hid (HVA.out.alloc (.cells #[.int .i64 xY, .bool fY, .slice AY nY cY] 27))
  replace HVB := Lib.hid (HVB.out.alloc (.cells #[.int .i64 xY, .bool fY, .slice AY nY cY] 27))
  replace HVC := Lib.hid (HVC.out.alloc (.cells #[.int .i64 xY, .bool fY, .slice AY nY cY] 27))
  replace HVX := Lib.hid (HVX.out.alloc (.cells #[.int .i64 xY, .bool fY, .slice AY nY cY] 27))
  replace HRA := Lib.hid (HRA.out.keep (keeps_alloc _ (.cells #[.int .i64 xY, .bool fY, .slice AY nY cY] 27)))
  replace HRB := Lib.hid (HRB.out.keep (keeps_alloc _ (.cells #[.int .i64 xY, .bool fY, .slice AY nY cY] 27)))
  replace HRC := Lib.hid (HRC.out.keep (keeps_alloc _ (.cells #[.int .i64 xY, .bool fY, .slice AY nY cY] 27)))
  replace HRX := Lib.hid (HRX.out.keep (keeps_alloc _ (.cells #[.int .i64 xY, .bool fY, .slice AY nY cY] 27)))
  replace HRY := Lib.hid (HRY.out.keep (keeps_alloc _ (.cells #[.int .i64 xY, .bool fY, .slice AY nY cY] 27)))
  have hv11 := hB11.alloc hB11.size (.cells #[.int .i64 xY, .bool fY, .slice AY nY cY] 27)
  obtain ⟨vY, HvY⟩ : ∃ z, Hid (w11.heap.size = z) := ⟨_, rfl⟩
  rw [HvY.out] at HVY
  go_upto_region 6 with fail
  rw [HvY.out]
  generalize hW11 : w11.alloc (.cells #[.int .i64 xY, .bool fY, .slice AY nY cY] 27) = W11 at *
  clear hW11
  obtain rfl : nX = 1 := by rw [HRX.out.len]; exact bg_X.1
  obtain rfl : nY = 2 := by rw [HRY.out.len]; exact bg_Y.1
  have zX := HVX.out.cell
  go_wp2_with fail
  refine (sizeR_any bgX xX fX AX 1 cX _ HRX.out).mono ?_
  rintro e w90 ⟨rfl, hb90⟩
  rw [bg_okX, if_pos rfl, bg_X.2.1]
  clear zX
  replace HVA := Lib.hid (HVA.out.below hb90)
  replace HVB := Lib.hid (HVB.out.below hb90)
  replace HVC := Lib.hid (HVC.out.below hb90)
  replace HVX := Lib.hid (HVX.out.below hb90)
  replace HVY := Lib.hid (HVY.out.below hb90)
  replace HRA := Lib.hid (HRA.out.keep (keeps_of hb90))
  replace HRB := Lib.hid (HRB.out.keep (keeps_of hb90))
  replace HRC := Lib.hid (HRC.out.keep (keeps_of hb90))
  replace HRX := Lib.hid (HRX.out.keep (keeps_of hb90))
  replace HRY := Lib.hid (HRY.out.keep (keeps_of hb90))
  have hB90 := Below.next hv11 hb90
  clear hb90
  have zY := HVY.out.cell
  go_wp2_with fail
  refine (sizeR_any bgY xY fY AY 2 cY _ HRY.out).mono ?_
  rintro e w91 ⟨rfl, hb91⟩
  rw [bg_okY, if_pos rfl, bg_Y.2.1]
  clear zY
  replace HVA := Lib.hid (HVA.out.below hb91)
  replace HVB := Lib.hid (HVB.out.below hb91)
  replace HVC := Lib.hid (HVC.out.below hb91)
  replace HVX := Lib.hid (HVX.out.below hb91)
  replace HVY := Lib.hid (HVY.out.below hb91)
  replace HRA := Lib.hid (HRA.out.keep (keeps_of hb91))
  replace HRB := Lib.hid (HRB.out.keep (keeps_of hb91))
  replace HRC := Lib.hid (HRC.out.keep (keeps_of hb91))
  replace HRX := Lib.hid (HRX.out.keep (keeps_of hb91))
  replace HRY := Lib.hid (HRY.out.keep (keeps_of hb91))
  have hB91 := Below.next hB90 hb91
  clear hb91
  have zY := HVY.out.cell
  go_wp2_with fail
  refine (rvalidR_any bgY xY fY AY 2 cY _ HRY.out).mono ?_
  rintro e w92 ⟨rfl, hb92⟩
  rw [bg_okY]
  have hB92 := Below.next hB91 hb92
  clear zY
  go_wp2
  go_ret
  exact ⟨rfl, hB92⟩
end Go.Proofs.YtmnmckblmoalkaaGreat

namespace Go.Proofs.YtmnmckblmoalkaaGreat
open Go.RowKit
set_option maxRecDepth 100000

def minI : Int := -9223372036854775808
def firstV (k : Int) : Vl × Bool :=
  if k = 1 ∨ k = 2 ∨ k = 3 ∨ k = 5 then (⟨k, 0, ⟨#[]⟩⟩, true) else if k = 4 then (⟨k, minI, ⟨#[]⟩⟩, true) else (zeroV, false)

set_option maxHeartbeats 400000 in
theorem first_any (k : Int) (w : World) : Calls Tryz.prog 106 #[.int .i64 k] w fun e w' =>
    e = .returned (.tuple #[.agg #[.int .i64 (firstV k).1.k, .int .i64 (firstV k).1.i, .string (firstV k).1.t], .bool (firstV k).2]) ∧ Below w.heap.size w w' := by
  generalize hf : firstV k = r
  have Hf := Lib.hid hf
  clear hf
  go_enter Tryz.func106, Tryz.ntmps106
  go_wp2
  all_goals
    first
      | (refine bodyPost_ret (v := .tuple #[.agg #[.int .i64 k, .int .i64 0, .string ⟨#[]⟩], .bool true]) ?_ rfl ⟨?_, ?_⟩; focus (simp [results, Tryz.results106, go_sem]; done))
      | (refine bodyPost_ret (v := .tuple #[.agg #[.int .i64 k, .int .i64 minI, .string ⟨#[]⟩], .bool true]) ?_ rfl ⟨?_, ?_⟩; focus (simp [results, Tryz.results106, go_sem, minI]; done))
      | (refine bodyPost_ret (v := .tuple #[.agg #[.int .i64 0, .int .i64 0, .string ⟨#[]⟩], .bool false]) ?_ rfl ⟨?_, ?_⟩; focus (simp [results, Tryz.results106, go_sem]; done))
    · rw [← Hf.out]
      simp_all [firstV, zeroV]
    · repeat (first | exact Below.refl _ _ | apply Below.drew | refine Below.setCell ?_ (by simp) _ | refine Below.alloc ?_ (by simp) _)
end Go.Proofs.YtmnmckblmoalkaaGreat

namespace Go.Proofs.YtmnmckblmoalkaaGreat
open Go.RowKit
set_option maxRecDepth 100000
set_option linter.unusedVariables false

def u8c (b : Int) : List Value := [.int .u8 b]
/-- block g is a Case: a list of bytes and a place in it -/
structure CaseAt (w : World) (g : Nat) : Prop where
  ex : ∃ (A : Option Addr) (n c k : Nat) (zs : List Int), Blk w g 69 #[.slice A n c, .int .i64 (k : Int)] ∧ Sl 1 u8c w A n zs ∧ (∀ z ∈ zs, 0 ≤ z ∧ z ≤ 255) ∧ n ≤ 1000 ∧ k ≤ n ∧ (0 < n → ∀ b o, A = some ⟨b, o, none⟩ → b < g)
theorem Sl.lt_of {w : World} {A : Option Addr} {n : Nat} {zs : List Int} {b o : Nat} (h : Sl 1 u8c w A n zs) (hA : A = some ⟨b, o, none⟩) (hn : 0 < n) : ∃ z, w.cell? ⟨b, o, none⟩ = some (.int .u8 z) := by
  obtain ⟨b', o', x, hA', hx, hc⟩ := h.at hn
  rw [hA] at hA'
  injection hA' with h1
  injection h1 with h1 h2
  subst h1 h2
  exact ⟨x, by have := hc 0 _ rfl; simpa using this⟩
theorem case_ne {w : World} {g : Nat} {A A' : Option Addr} {n m c k : Nat} {zs : List Int} (hB : Blk w g 69 #[.slice A' m c, .int .i64 (k : Int)]) (h : Sl 1 u8c w A n zs) (hn : 0 < n) : ∀ b o, A = some ⟨b, o, none⟩ → b ≠ g := by
  rintro b o hA rfl
  obtain ⟨z, hz⟩ := h.lt_of hA hn
  rw [hB.cell] at hz
  rcases o with _ | _ | o <;> simp at hz
theorem CaseAt.below {w w' : World} {g : Nat} (h : CaseAt w g) (hb : Below w.heap.size w w') : CaseAt w' g := by
  obtain ⟨A, n, c, k, zs, h1, h2, h3, h4, h5⟩ := h.ex
  exact ⟨A, n, c, k, zs, h1.below hb, h2.keep (keeps_of hb), h3, h4, h5⟩

set_option maxHeartbeats 1000000 in
theorem int_any (g : Nat) (m : Int) (w : World) (hc : CaseAt w g) (hm : 1 ≤ m) (hm2 : m ≤ 1000) :
    Calls Tryz.prog 15 #[.pointer (some ⟨g, 0, none⟩), .int .i64 m] w fun e w' => (∃ x : Int, 0 ≤ x ∧ x < m ∧ e = .returned (.int .i64 x)) ∧ CaseAt w' g ∧ But (· = g) w w' := by
  obtain ⟨A, n, c, k, zs, hB, hS, hz, hn, hk, hlow⟩ := hc.ex
  have HLOW := Lib.hid hlow
  clear hlow
  have e0 := blocks_at hB (i := 0) rfl
  have e1 := blocks_at hB (i := 1) rfl
  rcases Nat.lt_or_ge k n with hkn | hkn
  · obtain ⟨b, o, z, rfl, hzx, hzc⟩ := hS.at hkn
    have hne := case_ne hB hS (by omega) b o rfl
    have hzb : 0 ≤ z ∧ z ≤ 255 := hz z (List.mem_of_getElem? hzx)
    have hcell := hzc 0 _ rfl
    simp only [Nat.mul_one, Nat.add_zero] at hcell
    have g1 : decide (n ≤ k) = false := by simp; omega
    have g2 : decide (m < 1) = false := by simp; omega
    have f1 := hB.free 1
    have hSet := hB.set_ 1 (.int .i64 ((k : Int) + 1))
    have hU : But (· = g) w (w.setCell ⟨g, 1, none⟩ (.int .i64 ((k : Int) + 1))) := But.set (S := fun k => k = g) w (p := ⟨g, 1, none⟩) rfl _
    have hS2 := hS.but hU (fun h b' o' e => by injection e with e; injection e with e1 e2; rw [← e1]; exact hne)
    have d0 := far_cell (p := ⟨g, 1, none⟩) (u := .int .i64 ((k : Int) + 1)) hcell hne
    have HB := Lib.hid (show CaseAt (w.setCell ⟨g, 1, none⟩ (.int .i64 ((k : Int) + 1))) g from ⟨_, n, c, k + 1, zs, hSet, hS2, hz, hn, hkn, HLOW.out⟩)
    have d1 := blocks_at hSet (i := 0) (u := .slice (some ⟨b, o, none⟩) n c) rfl
    have d2 := blocks_at hSet (i := 1) (u := .int .i64 ((k : Int) + 1)) rfl
    have HS := Lib.hid hS
    have HC := Lib.hid hc
    have HU := Lib.hid hU
    clear hB hS hc hSet hU hS2 hzx hzc hz
    go_enter Tryz.func15, Tryz.ntmps15
    go_wp2
    have hca := @cell_after w.drew
    refine wp_region_seg [] [0, 1, 2, 3, 4, 5, 6, 7, 8, 9, 10, 11, 12, 13] (by kernel_rfl) (by kernel_rfl) (fun _ _ d _ _ h => by cases d <;> exact h) ?_
    simp only [pickSegs, pickOps, opAt, List.map_cons, List.map_nil, List.getElem?_toArray, List.getElem?_cons_zero, List.getElem?_cons_succ, Option.getD_some]
    unfold wpBlocks
    repeat (go_big_quiet_step (fail))
    refine wpQuiet_nil ?_
    clear hca
    go_wp2
    generalize w.setCell ⟨g, 1, none⟩ (.int .i64 ((k : Int) + 1)) = W at *
    clear hcell e0 e1 f1
    have hca := @cell_after W.drew.drew
    refine wp_region_seg [] [0, 1, 2, 3, 4, 5, 6, 7, 8, 9, 10, 11, 12, 13, 14] (by kernel_rfl) (by kernel_rfl) (fun _ _ d _ _ h => by cases d <;> exact h) ?_
    simp only [pickSegs, pickOps, opAt, List.map_cons, List.map_nil, List.getElem?_toArray, List.getElem?_cons_zero, List.getElem?_cons_succ, Option.getD_some]
    unfold wpBlocks
    repeat (go_big_quiet_step (fail))
    refine wpQuiet_nil ?_
    clear hca
    go_wp2
    go_ret
    refine ⟨⟨z % m, Int.emod_nonneg z (by omega), ?_, rfl⟩, HB.out.below (Below.refl _ _).drew.drew, HU.out.drew.drew⟩
    exact Int.emod_lt_of_pos z (by omega)
  · have g1 : decide (n ≤ k) = true := by simp; omega
    go_enter Tryz.func15, Tryz.ntmps15
    have HB := Lib.hid hB
    have HS := Lib.hid hS
    have HC := Lib.hid hc
    clear hB hS hc
    go_wp2
    have hca := @cell_after w.drew
    refine wp_region_seg [] [0, 1, 2, 3, 4, 5, 6, 7, 8, 9, 10, 11, 12, 13] (by kernel_rfl) (by kernel_rfl) (fun _ _ d _ _ h => by cases d <;> exact h) ?_
    simp only [pickSegs, pickOps, opAt, List.map_cons, List.map_nil, List.getElem?_toArray, List.getElem?_cons_zero, List.getElem?_cons_succ, Option.getD_some]
    unfold wpBlocks
    repeat (go_big_quiet_step (fail))
    refine wpQuiet_nil ?_
    clear hca
    go_wp2
    go_ret
    exact ⟨⟨0, by omega, by omega, rfl⟩, HC.out.below (Below.refl _ _).drew, (But.refl _ _).drew⟩

theorem info_u8 : (Tryz.prog.info? 5).map (fun i => (i.zero, i.size, i.bytes)) = some (some (.int .u8 0), 1, 1) := by kernel_rfl

set_option maxHeartbeats 1000000 in
theorem new_any (A : Option Addr) (n c : Nat) (zs : List Int) (most : Nat) (w : World) (hs : Sl 1 u8c w A n zs) (hz : ∀ z ∈ zs, 0 ≤ z ∧ z ≤ 255) (hnil : A = none → n = 0 ∧ c = 0) (hsp : ∀ ad, A = some ad → ad.spot = none) (hnc : n ≤ c) (hcm : c ≤ 9223372036854775807) (hmo : most ≤ 1000) :
    Calls Tryz.prog 13 #[.slice A n c, .int .i64 (most : Int)] w fun e w' => ∃ g, w.heap.size ≤ g ∧ e = .returned (.pointer (some ⟨g, 0, none⟩)) ∧ CaseAt w' g ∧ Below w.heap.size w w' := by
  obtain ⟨i0, hi, hz0, hz1, hz2⟩ := info_parts info_u8
  have key : ∀ m : Nat, m ≤ n → m ≤ 1000 → ∀ (A' : Option Addr) (c' : Nat) (w1 : World), w1.ownsRow w.heap.size 5 1 (.slice A' m c') m ((zs.take m).flatMap u8c) → Below w.heap.size w w1 →
      CaseAt (w1.alloc (.cells #[.slice A' m c', .int .i64 0] 69)) w1.heap.size ∧ Below w.heap.size w (w1.alloc (.cells #[.slice A' m c', .int .i64 0] 69)) := by
    intro m h1 h2 A' c' w1 ho hb
    have hl := hs.len
    refine ⟨⟨A', m, c', 0, zs.take m, Blk.new _ _ _, (Sl.of_own (cs := u8c) (fun _ => rfl) (by simp; omega) ho).keep (keeps_alloc _ _), fun z h => hz z (List.mem_of_mem_take h), by omega, by omega, fun hm b o e => Sl.lt (cs := u8c) (sz := 1) (fun _ => rfl) (by decide) (Sl.of_own (cs := u8c) (fun _ => rfl) (by simp; omega) ho) hm b o e⟩, hb.alloc hb.size _⟩
  have Key := Lib.hid key
  have HS := fun (m : Nat) (h : m ≤ n) => Lib.hid (hs.take m h)
  have HN := Lib.hid hnil
  have HSP := Lib.hid hsp
  clear hs hnil hsp hz key
  rcases Nat.lt_or_ge most n with hle | hle
  rotate_left
  · have HS1 := HS n (Nat.le_refl _)
    clear HS
    have hmin : min (n : Int) (most : Int) = (n : Int) := by omega
    go_enter Tryz.func13, Tryz.ntmps13
    go_wp2_with (at_builtin; refine wpList_append_sl (cs := u8c) w (by rfl) _ (.tmp 10) _ (by rfl) w.heap.size 5 i0 _ 1 1 Tryz.underlying22 hi hz0 hz1 hz2 (by rfl) (by omega) (.slice none 0 0) 0 [] (by rfl) ⟨by simp, .inl ⟨rfl, rfl⟩⟩ A n c (zs.take n) (by rfl) HS1.out HN.out HSP.out (fun _ => rfl) (by simp [u8c, Value.oneCell']) (by simp only [maxLen]; omega) (by omega) (Nat.le_refl _) ?_; intro A1 c1 w1 hown1 hg1 hB1 hat1 hn1; simp only [Nat.zero_add, List.nil_append] at hown1)
    go_ret
    obtain ⟨h1, h2⟩ := Key.out n (Nat.le_refl _) (by omega) A1 c1 w1 hown1 hB1
    exact ⟨_, hB1.size, rfl, h1, h2⟩
  · have HS1 := HS most (by omega)
    clear HS
    have hmin : min (n : Int) (most : Int) = (most : Int) := by omega
    go_enter Tryz.func13, Tryz.ntmps13
    go_wp2_with (at_builtin; refine wpList_append_sl (cs := u8c) w (by rfl) _ (.tmp 10) _ (by rfl) w.heap.size 5 i0 _ 1 1 Tryz.underlying22 hi hz0 hz1 hz2 (by rfl) (by omega) (.slice none 0 0) 0 [] (by rfl) ⟨by simp, .inl ⟨rfl, rfl⟩⟩ A most c (zs.take most) (by rfl) HS1.out (fun h => ⟨by have := (HN.out h).1; omega, (HN.out h).2⟩) HSP.out (fun _ => rfl) (by simp [u8c, Value.oneCell']) (by simp only [maxLen]; omega) (by omega) (Nat.le_refl _) ?_; intro A1 c1 w1 hown1 hg1 hB1 hat1 hn1; simp only [Nat.zero_add, List.nil_append] at hown1)
    go_ret
    obtain ⟨h1, h2⟩ := Key.out most (by omega) (by omega) A1 c1 w1 hown1 hB1
    exact ⟨_, hB1.size, rfl, h1, h2⟩

theorem bool_any (g : Nat) (m : Int) (w : World) (hc : CaseAt w g) (hm : 1 ≤ m) (hm2 : m ≤ 1000) :
    Calls Tryz.prog 21 #[.pointer (some ⟨g, 0, none⟩), .int .i64 m] w fun e w' => (∃ x : Bool, e = .returned (.bool x)) ∧ CaseAt w' g ∧ But (· = g) w w' := by
  go_enter Tryz.func21, Tryz.ntmps21
  go_wp2_with fail
  refine (int_any g m _ hc hm hm2).mono ?_
  rintro e w1 ⟨⟨x, hx1, hx2, rfl⟩, hc1, hb1⟩
  go_wp2
  go_ret
  exact ⟨⟨_, rfl⟩, hc1, hb1⟩

def SomeText (w : World) (g : Nat) (e : Ending) (w' : World) : Prop := (∃ x : ByteArray, x.size ≤ 64 ∧ e = .returned (.string x)) ∧ CaseAt w' g ∧ But (· = g) w w'
set_option maxHeartbeats 1000000 in
theorem text_any (g : Nat) (w : World) (hc : CaseAt w g) :
    Calls Tryz.prog 126 #[.pointer (some ⟨g, 0, none⟩)] w fun e w' => SomeText w g e w' := by
  go_enter Tryz.func126, Tryz.ntmps126
  go_wp2_with fail
  refine (int_any g 10 _ hc (by omega) (by omega)).mono ?_
  rintro e w1 ⟨⟨x, hx1, hx2, rfl⟩, hc1, hb1⟩
  go_wp2
  iterate 8
    · go_ret
      exact ⟨⟨_, by decide, rfl⟩, hc1, hb1⟩
  · go_loop [3, 4] (fun t i => ∃ (k : Nat) (s : ByteArray), k ≤ 64 ∧ i = .int .i64 (k : Int) ∧ t = .string s ∧ s.size ≤ k) (fun _ i => 64 - (intOf i).toNat)
    case atStart => exact ⟨0, ⟨#[]⟩, by omega, rfl, rfl, by decide⟩
    case round =>
      obtain ⟨k, s, hk, rfl, rfl, hsk⟩ := hrel
      have hsk2 : s.size ≤ 64 := by omega
      by_cases hlt : k < 64
      · go_wp2
        go_round
        case rel => exact ⟨k + 1, _, by omega, by go_num, rfl, by have h1 : (⟨#[255]⟩ : ByteArray).size = 1 := rfl; have h2 : (⟨#[98]⟩ : ByteArray).size = 1 := rfl; simp; omega⟩
        case measure => simp [intOf]; omega
      · go_wp2
        go_ret
        exact ⟨⟨s, hsk2, rfl⟩, hc1, hb1⟩
  · go_loop [3, 5] (fun t i => ∃ (k : Nat) (s : ByteArray), k ≤ 64 ∧ i = .int .i64 (k : Int) ∧ t = .string s ∧ s.size ≤ k) (fun _ i => 64 - (intOf i).toNat)
    case atStart => exact ⟨0, ⟨#[]⟩, by omega, rfl, rfl, by decide⟩
    case round =>
      obtain ⟨k, s, hk, rfl, rfl, hsk⟩ := hrel
      have hsk2 : s.size ≤ 64 := by omega
      by_cases hlt : k < 64
      · go_wp2
        go_round
        case rel => exact ⟨k + 1, _, by omega, by go_num, rfl, by have h1 : (⟨#[255]⟩ : ByteArray).size = 1 := rfl; have h2 : (⟨#[98]⟩ : ByteArray).size = 1 := rfl; simp; omega⟩
        case measure => simp [intOf]; omega
      · go_wp2
        go_ret
        exact ⟨⟨s, hsk2, rfl⟩, hc1, hb1⟩

theorem CaseAt.lt {w : World} {g : Nat} (h : CaseAt w g) : g < w.heap.size := by
  obtain ⟨A, n, c, k, zs, h1, _⟩ := h.ex
  exact h1.lt
theorem CaseAt.but {w w' : World} {g : Nat} {S : Nat → Prop} (h : CaseAt w g) (hb : But S w w') (hg : ¬ S g) (hS : ∀ b, S b → ∀ i x, w.cell? ⟨b, i, none⟩ ≠ some (.int .u8 x)) : CaseAt w' g := by
  obtain ⟨A, n, c, k, zs, h1, h2, h3, h4, h5⟩ := h.ex
  refine ⟨A, n, c, k, zs, h1.but hb hg, h2.but hb (fun hn b o e hs => ?_), h3, h4, h5⟩
  obtain ⟨z, hz⟩ := h2.lt_of e hn
  exact hS b hs o z hz
theorem CaseAt.far {w w' : World} {g : Nat} {S : Nat → Prop} (h : CaseAt w g) (hb : But S w w') (hS : ∀ b, S b → g < b) : CaseAt w' g := by
  obtain ⟨A, n, c, k, zs, h1, h2, h3, h4, h5, h6⟩ := h.ex
  exact ⟨A, n, c, k, zs, h1.but hb (fun hs => by have := hS g hs; omega), h2.but hb (fun hn b o e hs => by have := hS b hs; have := h6 hn b o e; omega), h3, h4, h5, h6⟩
theorem But.setNew {S : Nat → Prop} {w w' : World} (h : But S w w') {p : Addr} (hp : w.heap.size ≤ p.block) (u : Value) : But S w (w'.setCell p u) :=
  ⟨h.os, h.tape, h.output, by simpa [World.setCell] using h.size, fun k hk hs => (Below.heap_setCell w' p u k (by omega)).trans (h.block k hk hs)⟩
/-- three cells of a box of the call's own are written -/
theorem case_box {w : World} {g z : Nat} {k i : Int} {t : ByteArray} (h : CaseAt w g) (hB : Blk w z 49 #[.int .i64 k, .int .i64 i, .string t]) (hne : g ≠ z) (u0 u1 u2 : Value) :
    CaseAt (((w.setCell ⟨z, 0, none⟩ u0).setCell ⟨z, 1, none⟩ u1).setCell ⟨z, 2, none⟩ u2) g := by
  refine h.but (S := fun b => b = z) (((But.set (S := fun b => b = z) w (p := ⟨z, 0, none⟩) rfl u0).trans (But.set (S := fun b => b = z) _ (p := ⟨z, 1, none⟩) rfl u1)).trans (But.set (S := fun b => b = z) _ (p := ⟨z, 2, none⟩) rfl u2)) hne ?_
  rintro b rfl j x hx
  rw [hB.cell] at hx
  rcases j with _ | _ | _ | j <;> simp at hx
end Go.Proofs.YtmnmckblmoalkaaGreat
