/-
  Texts: Law4, Sm, FMem.
-/
import Derived.Test.YtnocbigcdjlliaaGreatB21
set_option linter.unusedVariables false
/-
  The region laws' own functions span and begun.
-/
namespace Go.Proofs.YtnocbigcdjlliaaGreat
open Go.RowKit
set_option maxRecDepth 100000
open Rg

/-- the interval of the numbers from a to b -/
def spI (a b : Int) : Iv := ⟨⟨4, a, ⟨#[]⟩⟩, ⟨4, b + 1, ⟨#[]⟩⟩, false⟩
theorem span_any (a b : Int) (w : World) (ha : -1000000 ≤ a ∧ a ≤ 1000000) (hb : -1000000 ≤ b ∧ b ≤ 1000000) : Calls Tryz.prog 72 #[.int .i64 a, .int .i64 b] w fun e w' => ∃ g, e = .returned (.slice (some ⟨g, 0, none⟩) 1 1) ∧ IvS w' (some ⟨g, 0, none⟩) 1 [spI a b] ∧ Below w.heap.size w w' := by
  go_enter Tryz.func72, Tryz.ntmps72
  go_wp2
  go_ret
  refine ⟨w.heap.size, rfl, ⟨rfl, fun _ => ⟨w.heap.size, 0, rfl, fun k x hx j u hu => ?_⟩⟩, (Below.refl _ _).alloc (Nat.le_refl _) _⟩
  cases k with
  | zero =>
    simp only [List.getElem?_cons_zero, Option.some.injEq] at hx
    subst hx
    rw [cell_new]
    simpa [spI, Iv.cs] using hu
  | succ k => simp at hx
/-- two sets built just now -/
theorem SetsS.two {w : World} {T : TypeId} {A1 A2 : Option Addr} {n1 c1 n2 c2 : Nat} {l1 l2 : List Iv} (h1 : IvS w A1 n1 l1) (h2 : IvS w A2 n2 l2) (o1 : okS A1 n1 c1) (o2 : okS A2 n2 c2) (b1 : n1 ≤ 1000000) (b2 : n2 ≤ 1000000) :
    SetsS (w.alloc (.cells #[.slice A1 n1 c1, .slice A2 n2 c2] T)) (some ⟨w.heap.size, 0, none⟩) 2 [((A1, n1, c1), l1), ((A2, n2, c2), l2)] := by
  refine ⟨⟨rfl, fun _ => ⟨w.heap.size, 0, rfl, fun k x hx j u hu => ?_⟩⟩, fun p hp => ?_⟩
  · have hj : j = 0 := by
      cases j with
      | zero => rfl
      | succ j => simp [setc] at hu
    subst hj
    rw [cell_new]
    match k, hx with
    | 0, hx => simp only [List.getElem?_cons_zero, Option.some.injEq] at hx; subst hx; simpa [setc] using hu
    | 1, hx => simp only [List.getElem?_cons_succ, List.getElem?_cons_zero, Option.some.injEq] at hx; subst hx; simpa [setc] using hu
    | k + 2, hx => simp at hx
  · rcases List.mem_cons.1 hp with rfl | hp
    · exact ⟨o1, b1, h1.keep (keeps_alloc _ _)⟩
    · rw [List.mem_singleton] at hp
      subst hp
      exact ⟨o2, b2, h2.keep (keeps_alloc _ _)⟩
theorem okS_one {g : Nat} : okS (some ⟨g, 0, none⟩) 1 1 := ⟨Nat.le_refl _, fun h => by cases h⟩
def bgA : Rg := boxR [[spI 1 2], [spI 5 6]]
def bgB : Rg := boxR [[spI 3 4], [spI 5 6]]
def bgC : Rg := boxR [[spI 3 4], [spI 7 8]]
theorem bg_err : boxErr [[spI 1 2], [spI 5 6]] = 0 ∧ boxErr [[spI 3 4], [spI 5 6]] = 0 ∧ boxErr [[spI 3 4], [spI 7 8]] = 0 := by decide +kernel
theorem bg_res : boxRes [[spI 1 2], [spI 5 6]] = bgA ∧ boxRes [[spI 3 4], [spI 5 6]] = bgB ∧ boxRes [[spI 3 4], [spI 7 8]] = bgC := by
  unfold boxRes
  rw [bg_err.1, bg_err.2.1, bg_err.2.2]
  exact ⟨rfl, rfl, rfl⟩
theorem bg_ok : OkR bgA ∧ OkR bgB ∧ OkR bgC := ⟨box_OkR bg_err.1, box_OkR bg_err.2.1, box_OkR bg_err.2.2⟩
theorem sp_wf (a b : Int) (ha : -1000000 ≤ a ∧ a ≤ 1000000) (hb : -1000000 ≤ b ∧ b ≤ 1000000) : ∀ x ∈ [spI a b], rgV x.f ∧ rgV x.t := fun x hx => by
  rw [List.mem_singleton] at hx
  subst hx
  unfold rgV spI
  simp only
  omega
theorem box2_wf (a b c d : Int) (ha : -1000000 ≤ a ∧ a ≤ 1000000) (hb : -1000000 ≤ b ∧ b ≤ 1000000) (hc : -1000000 ≤ c ∧ c ≤ 1000000) (hd : -1000000 ≤ d ∧ d ≤ 1000000) : WfR (boxR [[spI a b], [spI c d]]) := box_wf _ fun s hs => by
  rcases List.mem_cons.1 hs with rfl | hs
  · exact sp_wf a b ha hb
  · rw [List.mem_singleton] at hs
    subst hs
    exact sp_wf c d hc hd
theorem bg_wf : WfR bgA ∧ WfR bgB ∧ WfR bgC := ⟨box2_wf _ _ _ _ (by omega) (by omega) (by omega) (by omega), box2_wf _ _ _ _ (by omega) (by omega) (by omega) (by omega), box2_wf _ _ _ _ (by omega) (by omega) (by omega) (by omega)⟩
theorem bg_w : bgA.w = 2 ∧ bgB.w = 2 ∧ bgC.w = 2 := by decide +kernel
def bgX : Rg := comb opUr 2 bgA bgB
def bgY : Rg := comb opUr 2 bgA bgC
theorem bg_X : bgX.len = 1 ∧ bgX.size = 2 ∧ bgX.fits = true := by decide +kernel
theorem bg_Y : bgY.len = 2 ∧ bgY.size = 4 ∧ bgY.fits = true := by decide +kernel
theorem bg_eX : opErr opUr bgA bgB = 0 ∧ opRes opUr bgA bgB = bgX := by
  have h1 : opErr opUr bgA bgB = 0 := by
    rw [op_err bg_ok.1 bg_ok.2.1 (bg_w.1.trans bg_w.2.1.symm), bg_w.1]
    show (if bgX.size ≤ 64 ∧ bgX.fits = true then (0 : Int) else 2) = 0
    rw [bg_X.2.1, bg_X.2.2]
    rfl
  refine ⟨h1, ?_⟩
  rw [(op_ok h1).2.1, bg_w.1]
  rfl
theorem bg_eY : opErr opUr bgA bgC = 0 ∧ opRes opUr bgA bgC = bgY := by
  have h1 : opErr opUr bgA bgC = 0 := by
    rw [op_err bg_ok.1 bg_ok.2.2 (bg_w.1.trans bg_w.2.2.symm), bg_w.1]
    show (if bgY.size ≤ 64 ∧ bgY.fits = true then (0 : Int) else 2) = 0
    rw [bg_Y.2.1, bg_Y.2.2]
    rfl
  refine ⟨h1, ?_⟩
  rw [(op_ok h1).2.1, bg_w.1]
  rfl
theorem bg_okX : okB bgX = true := by rw [okB_true, ← bg_eX.2]; exact (op_ok bg_eX.1).1
theorem bg_okY : okB bgY = true := by rw [okB_true, ← bg_eY.2]; exact (op_ok bg_eY.1).1
set_option maxHeartbeats 4000000 in
theorem begun4_any (w : World) : Calls Tryz.prog 22 #[] w fun e w' => e = .returned (.bool true) ∧ Below w.heap.size w w' := by
  go_enter Tryz.func22, Tryz.ntmps22
  go_wp2_with fail
  refine (span_any 1 2 _ (by omega) (by omega)).mono ?_
  rintro e w1 ⟨g1, rfl, hS1, hb1⟩
  have hB1 := Below.next (Below.refl w.heap.size w) hb1
  have HS1 := Lib.hid hS1
  clear hS1 hb1
  go_wp2_with fail
  refine (span_any 5 6 _ (by omega) (by omega)).mono ?_
  rintro e w2 ⟨g2, rfl, hS2, hb2⟩
  replace HS1 := Lib.hid (HS1.out.keep (keeps_of hb2))
  have hB2 := Below.next hB1 hb2
  have HS2 := Lib.hid hS2
  clear hS2 hb2
  go_wp2_with fail
  have hal2 := hB2.alloc hB2.size (.cells #[.slice (some ⟨g1, 0, none⟩) 1 1, .slice (some ⟨g2, 0, none⟩) 1 1] 64)
  refine (Box_any _ 2 2 _ _ (SetsS.two (T := 64) HS1.out HS2.out okS_one okS_one (by omega) (by omega))).mono ?_
  rintro e w3 ⟨xA, fA, AA, nA, cA, rfl, hR3, hb3⟩
  simp only [List.map_cons, List.map_nil] at hR3 ⊢
  rw [bg_res.1] at hR3
  rw [bg_err.1]
  have hB3 := Below.next hal2 hb3
  have HRA := Lib.hid hR3
  clear hR3 hb3 hal2 HS1 HS2
  have HVA := Lib.hid (Blk.new w3 28 #[.int .i64 xA, .bool fA, .slice AA nA cA])
  replace HRA := Lib.hid (HRA.out.keep (keeps_alloc _ (.cells #[.int .i64 xA, .bool fA, .slice AA nA cA] 28)))
  have hv3 := hB3.alloc hB3.size (.cells #[.int .i64 xA, .bool fA, .slice AA nA cA] 28)
  obtain ⟨vA, HvA⟩ : ∃ z, Hid (w3.heap.size = z) := ⟨_, rfl⟩
  rw [HvA.out] at HVA
  go_upto_region 2 with fail
  rw [HvA.out]
  generalize hW3 : w3.alloc (.cells #[.int .i64 xA, .bool fA, .slice AA nA cA] 28) = W3 at *
  clear hW3
  go_wp2_with fail
  refine (span_any 3 4 _ (by omega) (by omega)).mono ?_
  rintro e w4 ⟨g4, rfl, hS4, hb4⟩
  replace HVA := Lib.hid (HVA.out.below hb4)
  replace HRA := Lib.hid (HRA.out.keep (keeps_of hb4))
  have hB4 := Below.next hv3 hb4
  have HS1 := Lib.hid hS4
  clear hS4 hb4
  go_wp2_with fail
  refine (span_any 5 6 _ (by omega) (by omega)).mono ?_
  rintro e w5 ⟨g5, rfl, hS5, hb5⟩
  replace HVA := Lib.hid (HVA.out.below hb5)
  replace HRA := Lib.hid (HRA.out.keep (keeps_of hb5))
  replace HS1 := Lib.hid (HS1.out.keep (keeps_of hb5))
  have hB5 := Below.next hB4 hb5
  have HS2 := Lib.hid hS5
  clear hS5 hb5
  go_wp2_with fail
  have hal5 := hB5.alloc hB5.size (.cells #[.slice (some ⟨g4, 0, none⟩) 1 1, .slice (some ⟨g5, 0, none⟩) 1 1] 64)
  replace HVA := Lib.hid (HVA.out.alloc (.cells #[.slice (some ⟨g4, 0, none⟩) 1 1, .slice (some ⟨g5, 0, none⟩) 1 1] 64))
  replace HRA := Lib.hid (HRA.out.keep (keeps_alloc _ (.cells #[.slice (some ⟨g4, 0, none⟩) 1 1, .slice (some ⟨g5, 0, none⟩) 1 1] 64)))
  refine (Box_any _ 2 2 _ _ (SetsS.two (T := 64) HS1.out HS2.out okS_one okS_one (by omega) (by omega))).mono ?_
  rintro e w6 ⟨xB, fB, AB, nB, cB, rfl, hR6, hb6⟩
  simp only [List.map_cons, List.map_nil] at hR6 ⊢
  rw [bg_res.2.1] at hR6
  rw [bg_err.2.1]
  replace HVA := Lib.hid (HVA.out.below hb6)
  replace HRA := Lib.hid (HRA.out.keep (keeps_of hb6))
  have hB6 := Below.next hal5 hb6
  have HRB := Lib.hid hR6
  clear hR6 hb6 hal5 HS1 HS2
  have HVB := Lib.hid (Blk.new w6 28 #[.int .i64 xB, .bool fB, .slice AB nB cB])
  replace HVA := Lib.hid (HVA.out.alloc (.cells #[.int .i64 xB, .bool fB, .slice AB nB cB] 28))
  replace HRA := Lib.hid (HRA.out.keep (keeps_alloc _ (.cells #[.int .i64 xB, .bool fB, .slice AB nB cB] 28)))
  replace HRB := Lib.hid (HRB.out.keep (keeps_alloc _ (.cells #[.int .i64 xB, .bool fB, .slice AB nB cB] 28)))
  have hv6 := hB6.alloc hB6.size (.cells #[.int .i64 xB, .bool fB, .slice AB nB cB] 28)
  obtain ⟨vB, HvB⟩ : ∃ z, Hid (w6.heap.size = z) := ⟨_, rfl⟩
  rw [HvB.out] at HVB
  go_upto_region 3 with fail
  rw [HvB.out]
  generalize hW6 : w6.alloc (.cells #[.int .i64 xB, .bool fB, .slice AB nB cB] 28) = W6 at *
  clear hW6
  go_wp2_with fail
  refine (span_any 3 4 _ (by omega) (by omega)).mono ?_
  rintro e w7 ⟨g7, rfl, hS7, hb7⟩
  replace HVA := Lib.hid (HVA.out.below hb7)
  replace HVB := Lib.hid (HVB.out.below hb7)
  replace HRA := Lib.hid (HRA.out.keep (keeps_of hb7))
  replace HRB := Lib.hid (HRB.out.keep (keeps_of hb7))
  have hB7 := Below.next hv6 hb7
  have HS1 := Lib.hid hS7
  clear hS7 hb7
  go_wp2_with fail
  refine (span_any 7 8 _ (by omega) (by omega)).mono ?_
  rintro e w8 ⟨g8, rfl, hS8, hb8⟩
  replace HVA := Lib.hid (HVA.out.below hb8)
  replace HVB := Lib.hid (HVB.out.below hb8)
  replace HRA := Lib.hid (HRA.out.keep (keeps_of hb8))
  replace HRB := Lib.hid (HRB.out.keep (keeps_of hb8))
  replace HS1 := Lib.hid (HS1.out.keep (keeps_of hb8))
  have hB8 := Below.next hB7 hb8
  have HS2 := Lib.hid hS8
  clear hS8 hb8
  go_wp2_with fail
  have hal8 := hB8.alloc hB8.size (.cells #[.slice (some ⟨g7, 0, none⟩) 1 1, .slice (some ⟨g8, 0, none⟩) 1 1] 64)
  replace HVA := Lib.hid (HVA.out.alloc (.cells #[.slice (some ⟨g7, 0, none⟩) 1 1, .slice (some ⟨g8, 0, none⟩) 1 1] 64))
  replace HVB := Lib.hid (HVB.out.alloc (.cells #[.slice (some ⟨g7, 0, none⟩) 1 1, .slice (some ⟨g8, 0, none⟩) 1 1] 64))
  replace HRA := Lib.hid (HRA.out.keep (keeps_alloc _ (.cells #[.slice (some ⟨g7, 0, none⟩) 1 1, .slice (some ⟨g8, 0, none⟩) 1 1] 64)))
  replace HRB := Lib.hid (HRB.out.keep (keeps_alloc _ (.cells #[.slice (some ⟨g7, 0, none⟩) 1 1, .slice (some ⟨g8, 0, none⟩) 1 1] 64)))
  refine (Box_any _ 2 2 _ _ (SetsS.two (T := 64) HS1.out HS2.out okS_one okS_one (by omega) (by omega))).mono ?_
  rintro e w9 ⟨xC, fC, AC, nC, cC, rfl, hR9, hb9⟩
  simp only [List.map_cons, List.map_nil] at hR9 ⊢
  rw [bg_res.2.2] at hR9
  rw [bg_err.2.2]
  replace HVA := Lib.hid (HVA.out.below hb9)
  replace HVB := Lib.hid (HVB.out.below hb9)
  replace HRA := Lib.hid (HRA.out.keep (keeps_of hb9))
  replace HRB := Lib.hid (HRB.out.keep (keeps_of hb9))
  have hB9 := Below.next hal8 hb9
  have HRC := Lib.hid hR9
  clear hR9 hb9 hal8 HS1 HS2
  have HVC := Lib.hid (Blk.new w9 28 #[.int .i64 xC, .bool fC, .slice AC nC cC])
  replace HVA := Lib.hid (HVA.out.alloc (.cells #[.int .i64 xC, .bool fC, .slice AC nC cC] 28))
  replace HVB := Lib.hid (HVB.out.alloc (.cells #[.int .i64 xC, .bool fC, .slice AC nC cC] 28))
  replace HRA := Lib.hid (HRA.out.keep (keeps_alloc _ (.cells #[.int .i64 xC, .bool fC, .slice AC nC cC] 28)))
  replace HRB := Lib.hid (HRB.out.keep (keeps_alloc _ (.cells #[.int .i64 xC, .bool fC, .slice AC nC cC] 28)))
  replace HRC := Lib.hid (HRC.out.keep (keeps_alloc _ (.cells #[.int .i64 xC, .bool fC, .slice AC nC cC] 28)))
  have hv9 := hB9.alloc hB9.size (.cells #[.int .i64 xC, .bool fC, .slice AC nC cC] 28)
  obtain ⟨vC, HvC⟩ : ∃ z, Hid (w9.heap.size = z) := ⟨_, rfl⟩
  rw [HvC.out] at HVC
  go_upto_region 4 with fail
  rw [HvC.out]
  generalize hW9 : w9.alloc (.cells #[.int .i64 xC, .bool fC, .slice AC nC cC] 28) = W9 at *
  clear hW9
  have zA := HVA.out.cell
  have zB := HVB.out.cell
  go_wp2_with fail
  refine (gunion_any bgA xA fA AA nA cA bgB xB fB AB nB cB _ HRA.out HRB.out bg_wf.1 bg_wf.2.1).mono ?_
  rintro e w10 ⟨xX, fX, AX, nX, cX, rfl, hR10, hb10⟩
  rw [bg_eX.1]
  rw [bg_eX.2] at hR10
  clear zA zB
  replace HVA := Lib.hid (HVA.out.below hb10)
  replace HVB := Lib.hid (HVB.out.below hb10)
  replace HVC := Lib.hid (HVC.out.below hb10)
  replace HRA := Lib.hid (HRA.out.keep (keeps_of hb10))
  replace HRB := Lib.hid (HRB.out.keep (keeps_of hb10))
  replace HRC := Lib.hid (HRC.out.keep (keeps_of hb10))
  have hB10 := Below.next hv9 hb10
  have HRX := Lib.hid hR10
  clear hR10 hb10
  have HVX := Lib.hid (Blk.new w10 28 #[.int .i64 xX, .bool fX, .slice AX nX cX])
  replace HVA := Lib.hid (HVA.out.alloc (.cells #[.int .i64 xX, .bool fX, .slice AX nX cX] 28))
  replace HVB := Lib.hid (HVB.out.alloc (.cells #[.int .i64 xX, .bool fX, .slice AX nX cX] 28))
  replace HVC := Lib.hid (HVC.out.alloc (.cells #[.int .i64 xX, .bool fX, .slice AX nX cX] 28))
  replace HRA := Lib.hid (HRA.out.keep (keeps_alloc _ (.cells #[.int .i64 xX, .bool fX, .slice AX nX cX] 28)))
  replace HRB := Lib.hid (HRB.out.keep (keeps_alloc _ (.cells #[.int .i64 xX, .bool fX, .slice AX nX cX] 28)))
  replace HRC := Lib.hid (HRC.out.keep (keeps_alloc _ (.cells #[.int .i64 xX, .bool fX, .slice AX nX cX] 28)))
  replace HRX := Lib.hid (HRX.out.keep (keeps_alloc _ (.cells #[.int .i64 xX, .bool fX, .slice AX nX cX] 28)))
  have hv10 := hB10.alloc hB10.size (.cells #[.int .i64 xX, .bool fX, .slice AX nX cX] 28)
  obtain ⟨vX, HvX⟩ : ∃ z, Hid (w10.heap.size = z) := ⟨_, rfl⟩
  rw [HvX.out] at HVX
  go_upto_region 5 with fail
  rw [HvX.out]
  generalize hW10 : w10.alloc (.cells #[.int .i64 xX, .bool fX, .slice AX nX cX] 28) = W10 at *
  clear hW10
  have zA := HVA.out.cell
  have zC := HVC.out.cell
  go_wp2_with fail
  refine (gunion_any bgA xA fA AA nA cA bgC xC fC AC nC cC _ HRA.out HRC.out bg_wf.1 bg_wf.2.2).mono ?_
  rintro e w11 ⟨xY, fY, AY, nY, cY, rfl, hR11, hb11⟩
  rw [bg_eY.1]
  rw [bg_eY.2] at hR11
  clear zA zC
  replace HVA := Lib.hid (HVA.out.below hb11)
  replace HVB := Lib.hid (HVB.out.below hb11)
  replace HVC := Lib.hid (HVC.out.below hb11)
  replace HVX := Lib.hid (HVX.out.below hb11)
  replace HRA := Lib.hid (HRA.out.keep (keeps_of hb11))
  replace HRB := Lib.hid (HRB.out.keep (keeps_of hb11))
  replace HRC := Lib.hid (HRC.out.keep (keeps_of hb11))
  replace HRX := Lib.hid (HRX.out.keep (keeps_of hb11))
  have hB11 := Below.next hv10 hb11
  have HRY := Lib.hid hR11
  clear hR11 hb11
  have HVY := Lib.hid (Blk.new w11 28 #[.int .i64 xY, .bool fY, .slice AY nY cY])
  replace HVA := Lib.hid (HVA.out.alloc (.cells #[.int .i64 xY, .bool fY, .slice AY nY cY] 28))
  replace HVB := Lib.hid (HVB.out.alloc (.cells #[.int .i64 xY, .bool fY, .slice AY nY cY] 28))
  replace HVC := Lib.hid (HVC.out.alloc (.cells #[.int .i64 xY, .bool fY, .slice AY nY cY] 28))
  replace HVX := Lib.hid (HVX.out.alloc (.cells #[.int .i64 xY, .bool fY, .slice AY nY cY] 28))
  replace HRA := Lib.hid (HRA.out.keep (keeps_alloc _ (.cells #[.int .i64 xY, .bool fY, .slice AY nY cY] 28)))
  replace HRB := Lib.hid (HRB.out.keep (keeps_alloc _ (.cells #[.int .i64 xY, .bool fY, .slice AY nY cY] 28)))
  replace HRC := Lib.hid (HRC.out.keep (keeps_alloc _ (.cells #[.int .i64 xY, .bool fY, .slice AY nY cY] 28)))
  replace HRX := Lib.hid (HRX.out.keep (keeps_alloc _ (.cells #[.int .i64 xY, .bool fY, .slice AY nY cY] 28)))
  replace HRY := Lib.hid (HRY.out.keep (keeps_alloc _ (.cells #[.int .i64 xY, .bool fY, .slice AY nY cY] 28)))
  have hv11 := hB11.alloc hB11.size (.cells #[.int .i64 xY, .bool fY, .slice AY nY cY] 28)
  obtain ⟨vY, HvY⟩ : ∃ z, Hid (w11.heap.size = z) := ⟨_, rfl⟩
  rw [HvY.out] at HVY
  go_upto_region 6 with fail
  rw [HvY.out]
  generalize hW11 : w11.alloc (.cells #[.int .i64 xY, .bool fY, .slice AY nY cY] 28) = W11 at *
  clear hW11
  obtain rfl : nX = 1 := by rw [HRX.out.len]; exact bg_X.1
  obtain rfl : nY = 2 := by rw [HRY.out.len]; exact bg_Y.1
  have zX := HVX.out.cell
  go_wp2_with fail
  refine (sizeR_any bgX xX fX AX 1 cX _ HRX.out).mono ?_
  rintro e w90 ⟨rfl, hb90⟩
  rw [bg_okX, if_pos rfl, bg_X.2.1]
  clear zX
  replace HVA := Lib.hid (HVA.out.below hb90)
  replace HVB := Lib.hid (HVB.out.below hb90)
  replace HVC := Lib.hid (HVC.out.below hb90)
  replace HVX := Lib.hid (HVX.out.below hb90)
  replace HVY := Lib.hid (HVY.out.below hb90)
  replace HRA := Lib.hid (HRA.out.keep (keeps_of hb90))
  replace HRB := Lib.hid (HRB.out.keep (keeps_of hb90))
  replace HRC := Lib.hid (HRC.out.keep (keeps_of hb90))
  replace HRX := Lib.hid (HRX.out.keep (keeps_of hb90))
  replace HRY := Lib.hid (HRY.out.keep (keeps_of hb90))
  have hB90 := Below.next hv11 hb90
  clear hb90
  have zY := HVY.out.cell
  go_wp2_with fail
  refine (sizeR_any bgY xY fY AY 2 cY _ HRY.out).mono ?_
  rintro e w91 ⟨rfl, hb91⟩
  rw [bg_okY, if_pos rfl, bg_Y.2.1]
  clear zY
  replace HVA := Lib.hid (HVA.out.below hb91)
  replace HVB := Lib.hid (HVB.out.below hb91)
  replace HVC := Lib.hid (HVC.out.below hb91)
  replace HVX := Lib.hid (HVX.out.below hb91)
  replace HVY := Lib.hid (HVY.out.below hb91)
  replace HRA := Lib.hid (HRA.out.keep (keeps_of hb91))
  replace HRB := Lib.hid (HRB.out.keep (keeps_of hb91))
  replace HRC := Lib.hid (HRC.out.keep (keeps_of hb91))
  replace HRX := Lib.hid (HRX.out.keep (keeps_of hb91))
  replace HRY := Lib.hid (HRY.out.keep (keeps_of hb91))
  have hB91 := Below.next hB90 hb91
  clear hb91
  have zY := HVY.out.cell
  go_wp2_with fail
  refine (rvalidR_any bgY xY fY AY 2 cY _ HRY.out).mono ?_
  rintro e w92 ⟨rfl, hb92⟩
  rw [bg_okY]
  have hB92 := Below.next hB91 hb92
  clear zY
  go_wp2
  go_ret
  exact ⟨rfl, hB92⟩
end Go.Proofs.YtnocbigcdjlliaaGreat

/-
  Plain: regions whose lists are all short; the results of operations are such. No program here.
-/
namespace Go.Proofs.YtnocbigcdjlliaaGreat
open Go.RowKit
set_option maxRecDepth 100000
open Rg

/-- all lists inside are short -/
def SmR : Rg → Prop
  | .nil _ _ => True
  | .cons vs rest tail => vs.length ≤ 100000 ∧ rest.len ≤ 100000 ∧ SmR rest ∧ SmR tail
def Sm (r : Rg) : Prop := r.len ≤ 100000 ∧ SmR r
theorem SmR.mem {p : List Iv × Rg} : ∀ {r : Rg}, SmR r → p ∈ r.parts → p.1.length ≤ 100000 ∧ Sm p.2
  | .nil _ _, _, h => by cases h
  | .cons vs rest tail, hs, h => by
    rcases List.mem_cons.1 h with rfl | h
    · exact ⟨hs.1, hs.2.1, hs.2.2.1⟩
    · exact SmR.mem hs.2.2.2 h
theorem SmR.of {w : Int} {f : Bool} : ∀ {L : List (List Iv × Rg)}, (∀ p ∈ L, p.1.length ≤ 100000 ∧ Sm p.2) → SmR (mkR w f L)
  | [], _ => trivial
  | p :: L, h => ⟨(h p List.mem_cons_self).1, (h p List.mem_cons_self).2.1, (h p List.mem_cons_self).2.2, SmR.of fun q hq => h q (List.mem_cons_of_mem _ hq)⟩
theorem len_mk (w : Int) (f : Bool) (L : List (List Iv × Rg)) : (mkR w f L).len = L.length := by rw [← len_parts, parts_mk]
theorem Sm.of {w : Int} {f : Bool} {L : List (List Iv × Rg)} (hl : L.length ≤ 100000) (h : ∀ p ∈ L, p.1.length ≤ 100000 ∧ Sm p.2) : Sm (mkR w f L) := ⟨by rw [len_mk]; exact hl, SmR.of h⟩
theorem Sm.nil (w : Int) (f : Bool) : Sm (.nil w f) := ⟨Nat.zero_le _, trivial⟩
theorem Sm.mem {p : List Iv × Rg} {r : Rg} (h : Sm r) (hp : p ∈ r.parts) : p.1.length ≤ 100000 ∧ Sm p.2 := SmR.mem h.2 hp
theorem sm_within' : ∀ {r : Rg}, r.size ≤ 64 → r.fits = true → SmR r
  | .nil _ _, _, _ => trivial
  | .cons vs rest tail, h1, h2 => by
    simp only [Rg.fits, Bool.and_eq_true, decide_eq_true_eq] at h2
    simp only [Rg.size] at h1
    have := len_le_size rest
    exact ⟨by omega, by omega, sm_within' (by omega) h2.1.2, sm_within' (by omega) h2.2⟩
theorem sm_within {r : Rg} (h : within r) : Sm r := ⟨by have := len_le_size r; have := h.1; omega, sm_within' h.1 h.2⟩
theorem insV_len (v : Vl) : ∀ l : List Vl, (insV v l).length ≤ l.length + 1
  | [] => by simp [insV]
  | x :: l => by
    have ih := insV_len v l
    unfold insV
    repeat' split
    all_goals simp only [List.length_cons]
    all_goals omega
theorem sortV_len : ∀ l : List Vl, (sortV l).length ≤ l.length
  | [] => Nat.le_refl _
  | x :: l => by
    have ih := sortV_len l
    have := insV_len x (sortV l)
    show (insV x (sortV l)).length ≤ _
    rw [List.length_cons]
    omega
theorem ptsL_len2 : ∀ l : List Iv, (ptsL l).length ≤ 2 * l.length
  | [] => Nat.le_refl _
  | x :: l => by
    have ih := ptsL_len2 l
    unfold ptsL
    cases x.o <;> simp <;> omega
theorem flat_pts_len : ∀ {L : List (List Iv)} {m : Nat}, (∀ l ∈ L, l.length ≤ m) → (L.flatMap ptsL).length ≤ 2 * m * L.length
  | [], _, _ => by simp
  | l :: L, m, h => by
    have ih := flat_pts_len (L := L) (m := m) fun q hq => h q (List.mem_cons_of_mem _ hq)
    have h1 := h l List.mem_cons_self
    have h2 := ptsL_len2 l
    rw [List.flatMap_cons, List.length_append, List.length_cons, Nat.mul_succ]
    omega
theorem vals_within {r : Rg} (h : within r) : (valsOf r).length ≤ 64 ∧ ∀ l ∈ valsOf r, l.length ≤ 64 := by
  refine ⟨by unfold valsOf; rw [List.length_map, len_parts]; exact Nat.le_trans (len_le_size r) h.1, fun l hl => ?_⟩
  obtain ⟨p, hp, rfl⟩ := List.mem_map.1 hl
  exact (fits_mem h.2 hp).1
theorem pts_len {a b : Rg} (ha : within a) (hb : within b) : (ptsOf a b).length ≤ 16384 := by
  have h := sortV_len ((valsOf a ++ valsOf b).flatMap ptsL)
  have h1 := flat_pts_len (L := valsOf a ++ valsOf b) (m := 64) fun l hl => by
    rcases List.mem_append.1 hl with hl | hl
    · exact (vals_within ha).2 l hl
    · exact (vals_within hb).2 l hl
  have h2 := (vals_within ha).1
  have h3 := (vals_within hb).1
  rw [List.length_append] at h1
  show (sortV _).length ≤ _
  omega
theorem uniq_len : ∀ l : List Rg, (uniq l).length ≤ l.length
  | [] => Nat.le_refl _
  | r :: l => by
    have ih := uniq_len l
    unfold uniq
    split
    · rw [List.length_cons]; omega
    · have := List.length_filter_le (fun s => decide (s ≠ r)) (uniq l)
      rw [List.length_cons, List.length_cons]
      omega
theorem valsAt_len (ro : Vl → Rg) (P : List Vl) (r : Rg) : (valsAt ro P r).length ≤ P.length := by
  unfold valsAt
  have h1 := ivs_len (chg (fun p => decide (ro p = r)) false P)
  have h2 := (chg_sub (fun p => decide (ro p = r)) P false).2
  cases P with
  | nil => simp [chg, ivsOf]
  | cons x P => rw [List.length_cons] at h2 ⊢; omega
theorem within_at {n : Int} {r : Rg} (h : within r) (v : Vl) : within (r.at_ n v) := by
  rcases at_spec n v r with ⟨p, hp, _, e⟩ | ⟨e, _⟩
  · rw [e]
    have := size_mem hp
    have := h.1
    exact ⟨by omega, (fits_mem h.2 hp).2⟩
  · rw [e]; exact ⟨by simp [Rg.size], rfl⟩
theorem comb_sm (op : Bool → Bool → Bool) : ∀ (n : Nat) (a b : Rg), within a → within b → Sm (comb op n a b)
  | 0, _, _, _, _ => Sm.nil _ _
  | n + 1, a, b, ha, hb => by
    have hP := pts_len ha hb
    refine Sm.of ?_ fun p hp => ?_
    · unfold partsAt
      rw [List.length_map]
      have := uniq_len ((ptsOf a b).map fun p => comb op n (a.at_ (n : Int) p) (b.at_ (n : Int) p))
      rw [List.length_map] at this
      omega
    · obtain ⟨r, hr, rfl⟩ := List.mem_map.1 hp
      refine ⟨Nat.le_trans (valsAt_len _ _ _) (by omega), ?_⟩
      obtain ⟨q, _, rfl⟩ := List.mem_map.1 ((uniq_mem r _).1 hr).1
      exact comb_sm op n _ _ (within_at ha q) (within_at hb q)
end Go.Proofs.YtnocbigcdjlliaaGreat

/-
  Words for the state of the reference's Combine of regions: the parts under way and what it remembers of pairs of parts. No program of ours walks here.
-/
namespace Go.Proofs.YtnocbigcdjlliaaGreat
open Go.RowKit
set_option maxRecDepth 100000
open Rg

/-- what is remembered of a pair of parts: the result, where it lies and between which blocks -/
structure KM where
  i : Int
  k : Int
  x : Int
  f : Bool
  A : Option Addr
  n : Nat
  c : Nat
  r : Rg
  lo : Nat
  hi : Nat
def KM.cs (m : KM) : List Value := [.int .i64 m.i, .int .i64 m.k, .int .i64 m.x, .bool m.f, .slice m.A m.n m.c]
theorem KM.cs_len (m : KM) : (KM.cs m).length = 5 := rfl
theorem one_km (m : KM) : ∀ u ∈ KM.cs m, u.oneCell' = true := by simp [KM.cs, Value.oneCell']
structure FSt (B : Nat) (w : World) (A : Option Addr) (n c : Nat) (ms : List PM) (Ak : Option Addr) (nk ck : Nat) (ks : List KM) : Prop where
  pt : PartsIn B w A n c ms
  kown : w.ownsRow B 116 5 (.slice Ak nk ck) nk (ks.flatMap KM.cs)
  klen : ks.length = nk
  krg : ∀ m ∈ ks, RgF m.lo m.hi w m.x m.f m.A m.n m.c m.r ∧ B ≤ m.lo ∧ m.hi ≤ w.heap.size
  kfar : ∀ m ∈ ks, ∀ q, m.lo ≤ q → q < m.hi → (Value.slice Ak nk ck).ownBlock ≠ some q ∧ (Value.slice A n c).ownBlock ≠ some q ∧ ∀ m' ∈ ms, m'.vv.ownBlock ≠ some q
  pfar : ∀ m ∈ ms, ∀ q, m.lo ≤ q → q < m.hi → (Value.slice Ak nk ck).ownBlock ≠ some q
section
variable {B : Nat} {w w' : World} {A A' : Option Addr} {n c n' c' : Nat} {ms ms' : List PM} {Ak Ak' : Option Addr} {nk ck nk' ck' : Nat} {ks : List KM}
theorem FSt.below (h : FSt B w A n c ms Ak nk ck ks) (hb : Below w.heap.size w w') : FSt B w' A n c ms Ak nk ck ks :=
  ⟨h.pt.below hb, own_at h.kown fun g _ hlt _ => hb.block g hlt, h.klen, fun m hm => by
    obtain ⟨h1, h2, h3⟩ := h.krg m hm
    exact ⟨h1.keep fun k _ hk => hb.block k (Nat.lt_of_lt_of_le hk h3), h2, Nat.le_trans h3 hb.size⟩, h.kfar, h.pfar⟩
/-- the parts change, what is remembered stays -/
theorem FSt.step (h : FSt B w A n c ms Ak nk ck ks) (hp : PartsIn B w' A' n' c' ms') (hb : But (fun q => (Value.slice A n c).ownBlock = some q ∨ (∃ m ∈ ms, m.vv.ownBlock = some q) ∨ q < B) w w')
    (hlA : ∀ q, (Value.slice A' n' c').ownBlock = some q → (Value.slice A n c).ownBlock = some q ∨ w.heap.size ≤ q)
    (hlV : ∀ m' ∈ ms', ∀ q, m'.vv.ownBlock = some q → (∃ m ∈ ms, m.vv.ownBlock = some q) ∨ w.heap.size ≤ q)
    (hrg : ∀ m' ∈ ms', (∃ m ∈ ms, m.lo = m'.lo ∧ m.hi = m'.hi) ∨ ∀ q, m'.lo ≤ q → q < m'.hi → (Value.slice Ak nk ck).ownBlock ≠ some q) : FSt B w' A' n' c' ms' Ak nk ck ks := by
  refine ⟨hp, own_but h.kown hb fun k hk hs => ?_, h.klen, fun m hm => ?_, fun m hm q h1 h2 => ?_, fun m hm q h1 h2 => ?_⟩
  · rcases hs with hs | ⟨m, hm, hs⟩ | hs
    · exact own_types h.kown h.pt.own (by decide) hk hs
    · exact own_types h.kown (h.pt.ok m hm).own (by decide) hk hs
    · have := (own_lt h.kown hk).1; omega
  · obtain ⟨h1, h2, h3⟩ := h.krg m hm
    refine ⟨h1.keep fun k hk1 hk2 => hb.block k (Nat.lt_of_lt_of_le hk2 h3) fun hs => ?_, h2, Nat.le_trans h3 hb.size⟩
    obtain ⟨_, f2, f3⟩ := h.kfar m hm k hk1 hk2
    rcases hs with hs | ⟨m', hm', hs⟩ | hs
    · exact f2 hs
    · exact f3 m' hm' hs
    · omega
  · obtain ⟨f1, f2, f3⟩ := h.kfar m hm q h1 h2
    have hlt := Nat.lt_of_lt_of_le h2 (h.krg m hm).2.2
    refine ⟨f1, fun hs => ?_, fun m' hm' hs => ?_⟩
    · rcases hlA q hs with e | e
      · exact f2 e
      · omega
    · rcases hlV m' hm' q hs with ⟨m2, hm2, e⟩ | e
      · exact f3 m2 hm2 e
      · omega
  · rcases hrg m hm with ⟨m2, hm2, e1, e2⟩ | hf
    · exact h.pfar m2 hm2 q (by omega) (by omega)
    · exact hf q h1 h2
/-- one more pair is remembered -/
theorem FSt.known (h : FSt B w A n c ms Ak nk ck ks) {i k x : Int} {f : Bool} {A2 : Option Addr} {n2 c2 lo hi : Nat} {r : Rg}
    (hown : w'.ownsRow B 116 5 (.slice Ak' (nk + 1) ck') (nk + 1) ((ks ++ [KM.mk i k x f A2 n2 c2 r lo hi]).flatMap KM.cs))
    (hb : But (fun q => (Value.slice Ak nk ck).ownBlock = some q) w w') (hloc : ∀ q, (Value.slice Ak' (nk + 1) ck').ownBlock = some q → (Value.slice Ak nk ck).ownBlock = some q ∨ w.heap.size ≤ q)
    (hr : RgF lo hi w x f A2 n2 c2 r) (hlo : B ≤ lo) (hhi : hi ≤ w.heap.size)
    (hfar : ∀ q, lo ≤ q → q < hi → (Value.slice Ak nk ck).ownBlock ≠ some q ∧ (Value.slice A n c).ownBlock ≠ some q ∧ ∀ m ∈ ms, m.vv.ownBlock ≠ some q) :
    FSt B w' A n c ms Ak' (nk + 1) ck' (ks ++ [KM.mk i k x f A2 n2 c2 r lo hi]) := by
  have hkn : ∀ q, (Value.slice Ak nk ck).ownBlock = some q → (Value.slice A n c).ownBlock ≠ some q ∧ ∀ m ∈ ms, m.vv.ownBlock ≠ some q := fun q hq =>
    ⟨own_types h.kown h.pt.own (by decide) hq, fun m hm => own_types h.kown (h.pt.ok m hm).own (by decide) hq⟩
  refine ⟨⟨own_but h.pt.own hb fun q hq hs => (hkn q hs).1 hq, h.pt.len, fun m hm => (h.pt.ok m hm).but hb (fun q hq hs => (hkn q hs).2 m hm hq) (fun q h1 h2 hs => h.pfar m hm q h1 h2 hs), h.pt.apart, h.pt.far⟩, hown, by simp [h.klen], fun m hm => ?_, fun m hm q h1 h2 => ?_, fun m hm q h1 h2 hs => ?_⟩
  · rcases List.mem_append.1 hm with hm | hm
    · obtain ⟨h1, h2, h3⟩ := h.krg m hm
      exact ⟨h1.keep fun q q1 q2 => hb.block q (Nat.lt_of_lt_of_le q2 h3) fun hs => (h.kfar m hm q q1 q2).1 hs, h2, Nat.le_trans h3 hb.size⟩
    · rw [List.mem_singleton] at hm
      subst hm
      exact ⟨hr.keep fun q q1 q2 => hb.block q (Nat.lt_of_lt_of_le q2 hhi) fun hs => (hfar q q1 q2).1 hs, hlo, Nat.le_trans hhi hb.size⟩
  · have key : q < w.heap.size ∧ (Value.slice Ak nk ck).ownBlock ≠ some q ∧ (Value.slice A n c).ownBlock ≠ some q ∧ ∀ m' ∈ ms, m'.vv.ownBlock ≠ some q := by
      rcases List.mem_append.1 hm with hm | hm
      · exact ⟨Nat.lt_of_lt_of_le h2 (h.krg m hm).2.2, h.kfar m hm q h1 h2⟩
      · rw [List.mem_singleton] at hm
        subst hm
        exact ⟨Nat.lt_of_lt_of_le h2 hhi, hfar q h1 h2⟩
    refine ⟨fun hs => ?_, key.2.2⟩
    rcases hloc q hs with e | e
    · exact key.2.1 e
    · have := key.1; omega
  · rcases hloc q hs with e | e
    · exact h.pfar m hm q h1 h2 e
    · have h3 := (h.pt.ok m hm).hi; omega
end
/-- the parts are a region in fresh memory, full or not -/
theorem PartsIn.region2 {B : Nat} {w : World} {A : Option Addr} {n c : Nat} {ms : List PM} (h : PartsIn B w A n c ms) (x : Int) (f : Bool) : RgF B w.heap.size w x f A n c (mkR x f (ms.map PM.pr)) := by
  intro w' hw
  have h1 := h.region x w' hw
  refine ⟨w_mk _ _ _, f_mk _ _ _, h1.ok, by rw [h1.len, len_mk, len_mk], fun hn => ?_⟩
  obtain ⟨b, o, e, hp⟩ := h1.ex hn
  refine ⟨b, o, e, RgP.of fun k p hk => ?_⟩
  rw [parts_mk] at hk
  exact hp.at (by rw [parts_mk]; exact hk)
/-- one more part, with its values -/
theorem PartsIn.addv {B : Nat} {w w' : World} {A A' : Option Addr} {n c c' : Nat} {ms : List PM} (h : PartsIn B w A n c ms) {m : PM}
    (hown : w'.ownsRow B 85 4 (.slice A' (n + 1) c') (n + 1) ((ms ++ [m]).flatMap PM.cs))
    (hb : But (fun k => (Value.slice A n c).ownBlock = some k ∨ k < B) w w') (hloc : ∀ k, (Value.slice A' (n + 1) c').ownBlock = some k → (Value.slice A n c).ownBlock = some k ∨ w.heap.size ≤ k)
    (hm : m.Ok B w) (hfR : ∀ k, m.lo ≤ k → k < m.hi → (Value.slice A n c).ownBlock ≠ some k ∧ m.vv.ownBlock ≠ some k ∧ ∀ m' ∈ ms, m'.vv.ownBlock ≠ some k)
    (hfV : ∀ k, m.vv.ownBlock = some k → ∀ m' ∈ ms, m'.vv.ownBlock ≠ some k ∧ ¬ (m'.lo ≤ k ∧ k < m'.hi)) : PartsIn B w' A' (n + 1) c' (ms ++ [m]) := by
  have hkeep : ∀ m' : PM, m'.Ok B w → (∀ k, m'.lo ≤ k → k < m'.hi → (Value.slice A n c).ownBlock ≠ some k) → m'.Ok B w' := fun m' ho hf => by
    refine ho.but hb (fun k hk hs => ?_) (fun k hk1 hk2 hs => ?_)
    · rcases hs with hs | hs
      · exact own_types ho.own h.own (by decide) hk hs
      · have := (own_lt ho.own hk).1; omega
    · rcases hs with hs | hs
      · exact hf k hk1 hk2 hs
      · have := ho.lo; omega
  refine ⟨hown, by simp [h.len], fun m' hm' => ?_, ?_, fun m' hm' k hk1 hk2 => ?_⟩
  · rcases List.mem_append.1 hm' with hm' | hm'
    · exact hkeep m' (h.ok m' hm') fun k h1 h2 => (h.far m' hm' k h1 h2).1
    · rw [List.mem_singleton] at hm'
      subst hm'
      exact hkeep m' hm fun k h1 h2 => (hfR k h1 h2).1
  · refine List.pairwise_append.2 ⟨h.apart, List.pairwise_singleton _ _, fun m1 hm1 m2 hm2 k hk hk2 => ?_⟩
    rw [List.mem_singleton] at hm2
    subst hm2
    exact (hfV k hk2 m1 hm1).1 hk
  · have key : k < w.heap.size ∧ (Value.slice A n c).ownBlock ≠ some k ∧ m.vv.ownBlock ≠ some k ∧ ∀ m' ∈ ms, m'.vv.ownBlock ≠ some k := by
      rcases List.mem_append.1 hm' with hm' | hm'
      · have h1 := h.far m' hm' k hk1 hk2
        exact ⟨Nat.lt_of_lt_of_le hk2 (h.ok m' hm').hi, h1.1, fun hs => (hfV k hs m' hm').2 ⟨hk1, hk2⟩, h1.2⟩
      · rw [List.mem_singleton] at hm'
        subst hm'
        exact ⟨Nat.lt_of_lt_of_le hk2 hm.hi, hfR k hk1 hk2⟩
    refine ⟨fun hs => ?_, fun m2 hm2 => ?_⟩
    · rcases hloc k hs with e | e
      · exact key.2.1 e
      · have := key.1; omega
    · rcases List.mem_append.1 hm2 with hm2 | hm2
      · exact key.2.2.2 m2 hm2
      · rw [List.mem_singleton] at hm2
        subst hm2
        exact key.2.2.1
theorem info_made : (Tryz.prog.info? 116).map (fun i => (i.zero, i.size, i.bytes)) = some (some (.agg #[.int .i64 0, .int .i64 0, .int .i64 0, .bool false, .slice none 0 0]), 5, 56) := by kernel_rfl
end Go.Proofs.YtnocbigcdjlliaaGreat
