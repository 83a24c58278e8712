/-
  Texts of this proof, one behind the other: Law4, RgLaw2, Open, RgLaw3.
-/
import Derived.Test.YtnocbigcdjlliaaGreatB36
import Derived.Test.YtnocbigcdjlliaaGreatB38
import Derived.Test.YtnocbigcdjlliaaGreatB40
import Derived.ProofKit
import Derived.OpenShut
import Derived.ShutString
import Derived.Carry
import Derived.Deep.Slices
import Derived.Lib.SmallJoins
set_option linter.unusedVariables false
/-
  The region laws' own functions span and begun.
-/
namespace Go.Proofs.YtnocbigcdjlliaaGreat
open Go.RowKit
set_option maxRecDepth 100000
open Rg

/-- the interval of the numbers from a to b -/
def spI (a b : Int) : Iv := ⟨⟨4, a, ⟨#[]⟩⟩, ⟨4, b + 1, ⟨#[]⟩⟩, false⟩
theorem span_any (a b : Int) (w : World) (ha : -1000000 ≤ a ∧ a ≤ 1000000) (hb : -1000000 ≤ b ∧ b ≤ 1000000) : Calls Tryz.prog 72 #[.int .i64 a, .int .i64 b] w fun e w' => ∃ g, e = .returned (.slice (some ⟨g, 0, none⟩) 1 1) ∧ IvS w' (some ⟨g, 0, none⟩) 1 [spI a b] ∧ Below w.heap.size w w' := by
  go_enter Tryz.func72, Tryz.ntmps72
  go_wp2
  go_ret
  refine ⟨w.heap.size, rfl, ⟨rfl, fun _ => ⟨w.heap.size, 0, rfl, fun k x hx j u hu => ?_⟩⟩, (Below.refl _ _).alloc (Nat.le_refl _) _⟩
  cases k with
  | zero =>
    simp only [List.getElem?_cons_zero, Option.some.injEq] at hx
    subst hx
    rw [cell_new]
    simpa [spI, Iv.cs] using hu
  | succ k => simp at hx
/-- two sets built just now -/
theorem SetsS.two {w : World} {T : TypeId} {A1 A2 : Option Addr} {n1 c1 n2 c2 : Nat} {l1 l2 : List Iv} (h1 : IvS w A1 n1 l1) (h2 : IvS w A2 n2 l2) (o1 : okS A1 n1 c1) (o2 : okS A2 n2 c2) (b1 : n1 ≤ 1000000) (b2 : n2 ≤ 1000000) :
    SetsS (w.alloc (.cells #[.slice A1 n1 c1, .slice A2 n2 c2] T)) (some ⟨w.heap.size, 0, none⟩) 2 [((A1, n1, c1), l1), ((A2, n2, c2), l2)] := by
  refine ⟨⟨rfl, fun _ => ⟨w.heap.size, 0, rfl, fun k x hx j u hu => ?_⟩⟩, fun p hp => ?_⟩
  · have hj : j = 0 := by
      cases j with
      | zero => rfl
      | succ j => simp [setc] at hu
    subst hj
    rw [cell_new]
    match k, hx with
    | 0, hx => simp only [List.getElem?_cons_zero, Option.some.injEq] at hx; subst hx; simpa [setc] using hu
    | 1, hx => simp only [List.getElem?_cons_succ, List.getElem?_cons_zero, Option.some.injEq] at hx; subst hx; simpa [setc] using hu
    | k + 2, hx => simp at hx
  · rcases List.mem_cons.1 hp with rfl | hp
    · exact ⟨o1, b1, h1.keep (keeps_alloc _ _)⟩
    · rw [List.mem_singleton] at hp
      subst hp
      exact ⟨o2, b2, h2.keep (keeps_alloc _ _)⟩
theorem okS_one {g : Nat} : okS (some ⟨g, 0, none⟩) 1 1 := ⟨Nat.le_refl _, fun h => by cases h⟩
def bgA : Rg := boxR [[spI 1 2], [spI 5 6]]
def bgB : Rg := boxR [[spI 3 4], [spI 5 6]]
def bgC : Rg := boxR [[spI 3 4], [spI 7 8]]
theorem bg_err : boxErr [[spI 1 2], [spI 5 6]] = 0 ∧ boxErr [[spI 3 4], [spI 5 6]] = 0 ∧ boxErr [[spI 3 4], [spI 7 8]] = 0 := by decide +kernel
theorem bg_res : boxRes [[spI 1 2], [spI 5 6]] = bgA ∧ boxRes [[spI 3 4], [spI 5 6]] = bgB ∧ boxRes [[spI 3 4], [spI 7 8]] = bgC := by
  unfold boxRes
  rw [bg_err.1, bg_err.2.1, bg_err.2.2]
  exact ⟨rfl, rfl, rfl⟩
theorem bg_ok : OkR bgA ∧ OkR bgB ∧ OkR bgC := ⟨box_OkR bg_err.1, box_OkR bg_err.2.1, box_OkR bg_err.2.2⟩
theorem sp_wf (a b : Int) (ha : -1000000 ≤ a ∧ a ≤ 1000000) (hb : -1000000 ≤ b ∧ b ≤ 1000000) : ∀ x ∈ [spI a b], rgV x.f ∧ rgV x.t := fun x hx => by
  rw [List.mem_singleton] at hx
  subst hx
  unfold rgV spI
  simp only
  omega
theorem box2_wf (a b c d : Int) (ha : -1000000 ≤ a ∧ a ≤ 1000000) (hb : -1000000 ≤ b ∧ b ≤ 1000000) (hc : -1000000 ≤ c ∧ c ≤ 1000000) (hd : -1000000 ≤ d ∧ d ≤ 1000000) : WfR (boxR [[spI a b], [spI c d]]) := box_wf _ fun s hs => by
  rcases List.mem_cons.1 hs with rfl | hs
  · exact sp_wf a b ha hb
  · rw [List.mem_singleton] at hs
    subst hs
    exact sp_wf c d hc hd
theorem bg_wf : WfR bgA ∧ WfR bgB ∧ WfR bgC := ⟨box2_wf _ _ _ _ (by omega) (by omega) (by omega) (by omega), box2_wf _ _ _ _ (by omega) (by omega) (by omega) (by omega), box2_wf _ _ _ _ (by omega) (by omega) (by omega) (by omega)⟩
theorem bg_w : bgA.w = 2 ∧ bgB.w = 2 ∧ bgC.w = 2 := by decide +kernel
def bgX : Rg := comb opUr 2 bgA bgB
def bgY : Rg := comb opUr 2 bgA bgC
theorem bg_X : bgX.len = 1 ∧ bgX.size = 2 ∧ bgX.fits = true := by decide +kernel
theorem bg_Y : bgY.len = 2 ∧ bgY.size = 4 ∧ bgY.fits = true := by decide +kernel
theorem bg_eX : opErr opUr bgA bgB = 0 ∧ opRes opUr bgA bgB = bgX := by
  have h1 : opErr opUr bgA bgB = 0 := by
    rw [op_err bg_ok.1 bg_ok.2.1 (bg_w.1.trans bg_w.2.1.symm), bg_w.1]
    show (if bgX.size ≤ 64 ∧ bgX.fits = true then (0 : Int) else 2) = 0
    rw [bg_X.2.1, bg_X.2.2]
    rfl
  refine ⟨h1, ?_⟩
  rw [(op_ok h1).2.1, bg_w.1]
  rfl
theorem bg_eY : opErr opUr bgA bgC = 0 ∧ opRes opUr bgA bgC = bgY := by
  have h1 : opErr opUr bgA bgC = 0 := by
    rw [op_err bg_ok.1 bg_ok.2.2 (bg_w.1.trans bg_w.2.2.symm), bg_w.1]
    show (if bgY.size ≤ 64 ∧ bgY.fits = true then (0 : Int) else 2) = 0
    rw [bg_Y.2.1, bg_Y.2.2]
    rfl
  refine ⟨h1, ?_⟩
  rw [(op_ok h1).2.1, bg_w.1]
  rfl
theorem bg_okX : okB bgX = true := by rw [okB_true, ← bg_eX.2]; exact (op_ok bg_eX.1).1
theorem bg_okY : okB bgY = true := by rw [okB_true, ← bg_eY.2]; exact (op_ok bg_eY.1).1
set_option maxHeartbeats 4000000 in
theorem begun4_any (w : World) : Calls Tryz.prog 22 #[] w fun e w' => e = .returned (.bool true) ∧ Below w.heap.size w w' := by
  go_enter Tryz.func22, Tryz.ntmps22
  go_wp2_with fail
  refine (span_any 1 2 _ (by omega) (by omega)).mono ?_
  rintro e w1 ⟨g1, rfl, hS1, hb1⟩
  have hB1 := Below.next (Below.refl w.heap.size w) hb1
  have HS1 := Lib.hid hS1
  clear hS1 hb1
  go_wp2_with fail
  refine (span_any 5 6 _ (by omega) (by omega)).mono ?_
  rintro e w2 ⟨g2, rfl, hS2, hb2⟩
  replace HS1 := Lib.hid (HS1.out.keep (keeps_of hb2))
  have hB2 := Below.next hB1 hb2
  have HS2 := Lib.hid hS2
  clear hS2 hb2
  go_wp2_with fail
  have hal2 := hB2.alloc hB2.size (.cells #[.slice (some ⟨g1, 0, none⟩) 1 1, .slice (some ⟨g2, 0, none⟩) 1 1] 64)
  refine (Box_any _ 2 2 _ _ (SetsS.two (T := 64) HS1.out HS2.out okS_one okS_one (by omega) (by omega))).mono ?_
  rintro e w3 ⟨xA, fA, AA, nA, cA, rfl, hR3, hb3⟩
  simp only [List.map_cons, List.map_nil] at hR3 ⊢
  rw [bg_res.1] at hR3
  rw [bg_err.1]
  have hB3 := Below.next hal2 hb3
  have HRA := Lib.hid hR3
  clear hR3 hb3 hal2 HS1 HS2
  have HVA := Lib.hid (Blk.new w3 28 #[.int .i64 xA, .bool fA, .slice AA nA cA])
  replace HRA := Lib.hid (HRA.out.keep (keeps_alloc _ (.cells #[.int .i64 xA, .bool fA, .slice AA nA cA] 28)))
  have hv3 := hB3.alloc hB3.size (.cells #[.int .i64 xA, .bool fA, .slice AA nA cA] 28)
  obtain ⟨vA, HvA⟩ : ∃ z, Hid (w3.heap.size = z) := ⟨_, rfl⟩
  rw [HvA.out] at HVA
  go_upto_region 2 with fail
  rw [HvA.out]
  generalize hW3 : w3.alloc (.cells #[.int .i64 xA, .bool fA, .slice AA nA cA] 28) = W3 at *
  clear hW3
  go_wp2_with fail
  refine (span_any 3 4 _ (by omega) (by omega)).mono ?_
  rintro e w4 ⟨g4, rfl, hS4, hb4⟩
  replace HVA := Lib.hid (HVA.out.below hb4)
  replace HRA := Lib.hid (HRA.out.keep (keeps_of hb4))
  have hB4 := Below.next hv3 hb4
  have HS1 := Lib.hid hS4
  clear hS4 hb4
  go_wp2_with fail
  refine (span_any 5 6 _ (by omega) (by omega)).mono ?_
  rintro e w5 ⟨g5, rfl, hS5, hb5⟩
  replace HVA := Lib.hid (HVA.out.below hb5)
  replace HRA := Lib.hid (HRA.out.keep (keeps_of hb5))
  replace HS1 := Lib.hid (HS1.out.keep (keeps_of hb5))
  have hB5 := Below.next hB4 hb5
  have HS2 := Lib.hid hS5
  clear hS5 hb5
  go_wp2_with fail
  have hal5 := hB5.alloc hB5.size (.cells #[.slice (some ⟨g4, 0, none⟩) 1 1, .slice (some ⟨g5, 0, none⟩) 1 1] 64)
  replace HVA := Lib.hid (HVA.out.alloc (.cells #[.slice (some ⟨g4, 0, none⟩) 1 1, .slice (some ⟨g5, 0, none⟩) 1 1] 64))
  replace HRA := Lib.hid (HRA.out.keep (keeps_alloc _ (.cells #[.slice (some ⟨g4, 0, none⟩) 1 1, .slice (some ⟨g5, 0, none⟩) 1 1] 64)))
  refine (Box_any _ 2 2 _ _ (SetsS.two (T := 64) HS1.out HS2.out okS_one okS_one (by omega) (by omega))).mono ?_
  rintro e w6 ⟨xB, fB, AB, nB, cB, rfl, hR6, hb6⟩
  simp only [List.map_cons, List.map_nil] at hR6 ⊢
  rw [bg_res.2.1] at hR6
  rw [bg_err.2.1]
  replace HVA := Lib.hid (HVA.out.below hb6)
  replace HRA := Lib.hid (HRA.out.keep (keeps_of hb6))
  have hB6 := Below.next hal5 hb6
  have HRB := Lib.hid hR6
  clear hR6 hb6 hal5 HS1 HS2
  have HVB := Lib.hid (Blk.new w6 28 #[.int .i64 xB, .bool fB, .slice AB nB cB])
  replace HVA := Lib.hid (HVA.out.alloc (.cells #[.int .i64 xB, .bool fB, .slice AB nB cB] 28))
  replace HRA := Lib.hid (HRA.out.keep (keeps_alloc _ (.cells #[.int .i64 xB, .bool fB, .slice AB nB cB] 28)))
  replace HRB := Lib.hid (HRB.out.keep (keeps_alloc _ (.cells #[.int .i64 xB, .bool fB, .slice AB nB cB] 28)))
  have hv6 := hB6.alloc hB6.size (.cells #[.int .i64 xB, .bool fB, .slice AB nB cB] 28)
  obtain ⟨vB, HvB⟩ : ∃ z, Hid (w6.heap.size = z) := ⟨_, rfl⟩
  rw [HvB.out] at HVB
  go_upto_region 3 with fail
  rw [HvB.out]
  generalize hW6 : w6.alloc (.cells #[.int .i64 xB, .bool fB, .slice AB nB cB] 28) = W6 at *
  clear hW6
  go_wp2_with fail
  refine (span_any 3 4 _ (by omega) (by omega)).mono ?_
  rintro e w7 ⟨g7, rfl, hS7, hb7⟩
  replace HVA := Lib.hid (HVA.out.below hb7)
  replace HVB := Lib.hid (HVB.out.below hb7)
  replace HRA := Lib.hid (HRA.out.keep (keeps_of hb7))
  replace HRB := Lib.hid (HRB.out.keep (keeps_of hb7))
  have hB7 := Below.next hv6 hb7
  have HS1 := Lib.hid hS7
  clear hS7 hb7
  go_wp2_with fail
  refine (span_any 7 8 _ (by omega) (by omega)).mono ?_
  rintro e w8 ⟨g8, rfl, hS8, hb8⟩
  replace HVA := Lib.hid (HVA.out.below hb8)
  replace HVB := Lib.hid (HVB.out.below hb8)
  replace HRA := Lib.hid (HRA.out.keep (keeps_of hb8))
  replace HRB := Lib.hid (HRB.out.keep (keeps_of hb8))
  replace HS1 := Lib.hid (HS1.out.keep (keeps_of hb8))
  have hB8 := Below.next hB7 hb8
  have HS2 := Lib.hid hS8
  clear hS8 hb8
  go_wp2_with fail
  have hal8 := hB8.alloc hB8.size (.cells #[.slice (some ⟨g7, 0, none⟩) 1 1, .slice (some ⟨g8, 0, none⟩) 1 1] 64)
  replace HVA := Lib.hid (HVA.out.alloc (.cells #[.slice (some ⟨g7, 0, none⟩) 1 1, .slice (some ⟨g8, 0, none⟩) 1 1] 64))
  replace HVB := Lib.hid (HVB.out.alloc (.cells #[.slice (some ⟨g7, 0, none⟩) 1 1, .slice (some ⟨g8, 0, none⟩) 1 1] 64))
  replace HRA := Lib.hid (HRA.out.keep (keeps_alloc _ (.cells #[.slice (some ⟨g7, 0, none⟩) 1 1, .slice (some ⟨g8, 0, none⟩) 1 1] 64)))
  replace HRB := Lib.hid (HRB.out.keep (keeps_alloc _ (.cells #[.slice (some ⟨g7, 0, none⟩) 1 1, .slice (some ⟨g8, 0, none⟩) 1 1] 64)))
  refine (Box_any _ 2 2 _ _ (SetsS.two (T := 64) HS1.out HS2.out okS_one okS_one (by omega) (by omega))).mono ?_
  rintro e w9 ⟨xC, fC, AC, nC, cC, rfl, hR9, hb9⟩
  simp only [List.map_cons, List.map_nil] at hR9 ⊢
  rw [bg_res.2.2] at hR9
  rw [bg_err.2.2]
  replace HVA := Lib.hid (HVA.out.below hb9)
  replace HVB := Lib.hid (HVB.out.below hb9)
  replace HRA := Lib.hid (HRA.out.keep (keeps_of hb9))
  replace HRB := Lib.hid (HRB.out.keep (keeps_of hb9))
  have hB9 := Below.next hal8 hb9
  have HRC := Lib.hid hR9
  clear hR9 hb9 hal8 HS1 HS2
  have HVC := Lib.hid (Blk.new w9 28 #[.int .i64 xC, .bool fC, .slice AC nC cC])
  replace HVA := Lib.hid (HVA.out.alloc (.cells #[.int .i64 xC, .bool fC, .slice AC nC cC] 28))
  replace HVB := Lib.hid (HVB.out.alloc (.cells #[.int .i64 xC, .bool fC, .slice AC nC cC] 28))
  replace HRA := Lib.hid (HRA.out.keep (keeps_alloc _ (.cells #[.int .i64 xC, .bool fC, .slice AC nC cC] 28)))
  replace HRB := Lib.hid (HRB.out.keep (keeps_alloc _ (.cells #[.int .i64 xC, .bool fC, .slice AC nC cC] 28)))
  replace HRC := Lib.hid (HRC.out.keep (keeps_alloc _ (.cells #[.int .i64 xC, .bool fC, .slice AC nC cC] 28)))
  have hv9 := hB9.alloc hB9.size (.cells #[.int .i64 xC, .bool fC, .slice AC nC cC] 28)
  obtain ⟨vC, HvC⟩ : ∃ z, Hid (w9.heap.size = z) := ⟨_, rfl⟩
  rw [HvC.out] at HVC
  go_upto_region 4 with fail
  rw [HvC.out]
  generalize hW9 : w9.alloc (.cells #[.int .i64 xC, .bool fC, .slice AC nC cC] 28) = W9 at *
  clear hW9
  have zA := HVA.out.cell
  have zB := HVB.out.cell
  go_wp2_with fail
  refine (gunion_any bgA xA fA AA nA cA bgB xB fB AB nB cB _ HRA.out HRB.out bg_wf.1 bg_wf.2.1).mono ?_
  rintro e w10 ⟨xX, fX, AX, nX, cX, rfl, hR10, hb10⟩
  rw [bg_eX.1]
  rw [bg_eX.2] at hR10
  clear zA zB
  replace HVA := Lib.hid (HVA.out.below hb10)
  replace HVB := Lib.hid (HVB.out.below hb10)
  replace HVC := Lib.hid (HVC.out.below hb10)
  replace HRA := Lib.hid (HRA.out.keep (keeps_of hb10))
  replace HRB := Lib.hid (HRB.out.keep (keeps_of hb10))
  replace HRC := Lib.hid (HRC.out.keep (keeps_of hb10))
  have hB10 := Below.next hv9 hb10
  have HRX := Lib.hid hR10
  clear hR10 hb10
  have HVX := Lib.hid (Blk.new w10 28 #[.int .i64 xX, .bool fX, .slice AX nX cX])
  replace HVA := Lib.hid (HVA.out.alloc (.cells #[.int .i64 xX, .bool fX, .slice AX nX cX] 28))
  replace HVB := Lib.hid (HVB.out.alloc (.cells #[.int .i64 xX, .bool fX, .slice AX nX cX] 28))
  replace HVC := Lib.hid (HVC.out.alloc (.cells #[.int .i64 xX, .bool fX, .slice AX nX cX] 28))
  replace HRA := Lib.hid (HRA.out.keep (keeps_alloc _ (.cells #[.int .i64 xX, .bool fX, .slice AX nX cX] 28)))
  replace HRB := Lib.hid (HRB.out.keep (keeps_alloc _ (.cells #[.int .i64 xX, .bool fX, .slice AX nX cX] 28)))
  replace HRC := Lib.hid (HRC.out.keep (keeps_alloc _ (.cells #[.int .i64 xX, .bool fX, .slice AX nX cX] 28)))
  replace HRX := Lib.hid (HRX.out.keep (keeps_alloc _ (.cells #[.int .i64 xX, .bool fX, .slice AX nX cX] 28)))
  have hv10 := hB10.alloc hB10.size (.cells #[.int .i64 xX, .bool fX, .slice AX nX cX] 28)
  obtain ⟨vX, HvX⟩ : ∃ z, Hid (w10.heap.size = z) := ⟨_, rfl⟩
  rw [HvX.out] at HVX
  go_upto_region 5 with fail
  rw [HvX.out]
  generalize hW10 : w10.alloc (.cells #[.int .i64 xX, .bool fX, .slice AX nX cX] 28) = W10 at *
  clear hW10
  have zA := HVA.out.cell
  have zC := HVC.out.cell
  go_wp2_with fail
  refine (gunion_any bgA xA fA AA nA cA bgC xC fC AC nC cC _ HRA.out HRC.out bg_wf.1 bg_wf.2.2).mono ?_
  rintro e w11 ⟨xY, fY, AY, nY, cY, rfl, hR11, hb11⟩
  rw [bg_eY.1]
  rw [bg_eY.2] at hR11
  clear zA zC
  replace HVA := Lib.hid (HVA.out.below hb11)
  replace HVB := Lib.hid (HVB.out.below hb11)
  replace HVC := Lib.hid (HVC.out.below hb11)
  replace HVX := Lib.hid (HVX.out.below hb11)
  replace HRA := Lib.hid (HRA.out.keep (keeps_of hb11))
  replace HRB := Lib.hid (HRB.out.keep (keeps_of hb11))
  replace HRC := Lib.hid (HRC.out.keep (keeps_of hb11))
  replace HRX := Lib.hid (HRX.out.keep (keeps_of hb11))
  have hB11 := Below.next hv10 hb11
  have HRY := Lib.hid hR11
  clear hR11 hb11
  have HVY := Lib.hid (Blk.new w11 28 #[.int .i64 xY, .bool fY, .slice AY nY cY])
  replace HVA := Lib.hid (HVA.out.alloc (.cells #[.int .i64 xY, .bool fY, .slice AY nY cY] 28))
  replace HVB := Lib.hid (HVB.out.alloc (.cells #[.int .i64 xY, .bool fY, .slice AY nY cY] 28))
  replace HVC := Lib.hid (HVC.out.alloc (.cells #[.int .i64 xY, .bool fY, .slice AY nY cY] 28))
  replace HVX := Lib.hid (HVX.out.alloc (.cells #[.int .i64 xY, .bool fY, .slice AY nY cY] 28))
  replace HRA := Lib.hid (HRA.out.keep (keeps_alloc _ (.cells #[.int .i64 xY, .bool fY, .slice AY nY cY] 28)))
  replace HRB := Lib.hid (HRB.out.keep (keeps_alloc _ (.cells #[.int .i64 xY, .bool fY, .slice AY nY cY] 28)))
  replace HRC := Lib.hid (HRC.out.keep (keeps_alloc _ (.cells #[.int .i64 xY, .bool fY, .slice AY nY cY] 28)))
  replace HRX := Lib.hid (HRX.out.keep (keeps_alloc _ (.cells #[.int .i64 xY, .bool fY, .slice AY nY cY] 28)))
  replace HRY := Lib.hid (HRY.out.keep (keeps_alloc _ (.cells #[.int .i64 xY, .bool fY, .slice AY nY cY] 28)))
  have hv11 := hB11.alloc hB11.size (.cells #[.int .i64 xY, .bool fY, .slice AY nY cY] 28)
  obtain ⟨vY, HvY⟩ : ∃ z, Hid (w11.heap.size = z) := ⟨_, rfl⟩
  rw [HvY.out] at HVY
  go_upto_region 6 with fail
  rw [HvY.out]
  generalize hW11 : w11.alloc (.cells #[.int .i64 xY, .bool fY, .slice AY nY cY] 28) = W11 at *
  clear hW11
  obtain rfl : nX = 1 := by rw [HRX.out.len]; exact bg_X.1
  obtain rfl : nY = 2 := by rw [HRY.out.len]; exact bg_Y.1
  have zX := HVX.out.cell
  go_wp2_with fail
  refine (sizeR_any bgX xX fX AX 1 cX _ HRX.out).mono ?_
  rintro e w90 ⟨rfl, hb90⟩
  rw [bg_okX, if_pos rfl, bg_X.2.1]
  clear zX
  replace HVA := Lib.hid (HVA.out.below hb90)
  replace HVB := Lib.hid (HVB.out.below hb90)
  replace HVC := Lib.hid (HVC.out.below hb90)
  replace HVX := Lib.hid (HVX.out.below hb90)
  replace HVY := Lib.hid (HVY.out.below hb90)
  replace HRA := Lib.hid (HRA.out.keep (keeps_of hb90))
  replace HRB := Lib.hid (HRB.out.keep (keeps_of hb90))
  replace HRC := Lib.hid (HRC.out.keep (keeps_of hb90))
  replace HRX := Lib.hid (HRX.out.keep (keeps_of hb90))
  replace HRY := Lib.hid (HRY.out.keep (keeps_of hb90))
  have hB90 := Below.next hv11 hb90
  clear hb90
  have zY := HVY.out.cell
  go_wp2_with fail
  refine (sizeR_any bgY xY fY AY 2 cY _ HRY.out).mono ?_
  rintro e w91 ⟨rfl, hb91⟩
  rw [bg_okY, if_pos rfl, bg_Y.2.1]
  clear zY
  replace HVA := Lib.hid (HVA.out.below hb91)
  replace HVB := Lib.hid (HVB.out.below hb91)
  replace HVC := Lib.hid (HVC.out.below hb91)
  replace HVX := Lib.hid (HVX.out.below hb91)
  replace HVY := Lib.hid (HVY.out.below hb91)
  replace HRA := Lib.hid (HRA.out.keep (keeps_of hb91))
  replace HRB := Lib.hid (HRB.out.keep (keeps_of hb91))
  replace HRC := Lib.hid (HRC.out.keep (keeps_of hb91))
  replace HRX := Lib.hid (HRX.out.keep (keeps_of hb91))
  replace HRY := Lib.hid (HRY.out.keep (keeps_of hb91))
  have hB91 := Below.next hB90 hb91
  clear hb91
  have zY := HVY.out.cell
  go_wp2_with fail
  refine (rvalidR_any bgY xY fY AY 2 cY _ HRY.out).mono ?_
  rintro e w92 ⟨rfl, hb92⟩
  rw [bg_okY]
  have hB92 := Below.next hB91 hb92
  clear zY
  go_wp2
  go_ret
  exact ⟨rfl, hB92⟩
end Go.Proofs.YtnocbigcdjlliaaGreat

/-
  Plain: what the operations on canonical regions answer; the laws as equalities of answers. No program here.
-/
namespace Go.Proofs.YtnocbigcdjlliaaGreat
open Go.RowKit
set_option maxRecDepth 100000
open Rg

theorem opRes_bad {op : Bool → Bool → Bool} {a b : Rg} (h : ¬ opErr op a b = 0) : opRes op a b = zeroR := by rw [opRes, if_neg h]
section
variable {n : Nat} {a b : Rg} (ha : OkR a) (hwa : a.w = (n : Int))
include ha hwa
theorem ok_formN : Form n a := by
  have := ha.2.2.2.1
  rw [hwa, Int.toNat_natCast] at this
  exact this
theorem ok_n12 : n ≤ 12 := by have := ha.2.1; omega
variable (hb : OkR b) (hwb : b.w = (n : Int))
include hb hwb
theorem op_spec (op : Bool → Bool → Bool) : opErr op a b = (if (comb op n a b).size ≤ 64 ∧ (comb op n a b).fits = true then 0 else 2) ∧ (opErr op a b = 0 → opRes op a b = comb op n a b ∧ OkR (opRes op a b) ∧ (opRes op a b).w = (n : Int)) := by
  have h1 := op_err (op := op) ha hb (hwa.trans hwb.symm)
  rw [hwa, Int.toNat_natCast] at h1
  refine ⟨h1, fun h0 => ?_⟩
  have h2 := op_ok h0
  have h3 := h2.2.1
  rw [hwa, Int.toNat_natCast] at h3
  refine ⟨h3, h2.1, ?_⟩
  rw [h3]
  exact (comb_form _ _ _ _ (ok_formN ha hwa) (ok_formN hb hwb)).width
theorem op_02 (op : Bool → Bool → Bool) : opErr op a b = 0 ∨ opErr op a b = 2 := by
  rw [(op_spec ha hwa hb hwb op).1]
  split
  · exact .inl rfl
  · exact .inr rfl
end
section
variable {n : Nat} {a b c : Rg} (ha : OkR a) (hwa : a.w = (n : Int))
include ha hwa
theorem cp_spec : cpErr a = (if (cplR n a).size ≤ 64 ∧ (cplR n a).fits = true then 0 else 2) ∧ (cpErr a = 0 → cpRes a = cplR n a ∧ OkR (cpRes a) ∧ (cpRes a).w = (n : Int)) := by
  have hv := okB_true.2 ha
  have hn := ok_n12 ha hwa
  have h1 : a.w.toNat = n := by rw [hwa, Int.toNat_natCast]
  have h2 := op_spec (all_ok hn) (all_w n) ha hwa opMr
  rw [cpErr, cpRes, if_pos hv, if_pos hv, h1]
  exact h2
theorem cp_02 : cpErr a = 0 ∨ cpErr a = 2 := by
  rw [(cp_spec ha hwa).1]
  split
  · exact .inl rfl
  · exact .inr rfl
variable (hb : OkR b) (hwb : b.w = (n : Int))
include hb hwb
theorem morgan_plain (eU : opErr opUr a b = 0) (eA : cpErr a = 0) (eB : cpErr b = 0) :
    cpErr (opRes opUr a b) = opErr opIr (cpRes a) (cpRes b) ∧ cpRes (opRes opUr a b) = opRes opIr (cpRes a) (cpRes b) ∧ (cpErr (opRes opUr a b) = 0 ∨ cpErr (opRes opUr a b) = 2) ∧ (cpErr (opRes opUr a b) = 0 → eqB (cpRes (opRes opUr a b)) (opRes opIr (cpRes a) (cpRes b)) = true) := by
  obtain ⟨u1, u2, u3⟩ := (op_spec ha hwa hb hwb opUr).2 eU
  obtain ⟨a1, a2, a3⟩ := (cp_spec ha hwa).2 eA
  obtain ⟨b1, b2, b3⟩ := (cp_spec hb hwb).2 eB
  have fa := ok_formN ha hwa
  have fb := ok_formN hb hwb
  have hE : cpErr (opRes opUr a b) = opErr opIr (cpRes a) (cpRes b) := by
    rw [(cp_spec u2 u3).1, (op_spec a2 a3 b2 b3 opIr).1, u1, a1, b1, morganR fa fb]
  have hR : cpRes (opRes opUr a b) = opRes opIr (cpRes a) (cpRes b) := by
    rcases cp_02 u2 u3 with h | h
    · rw [((cp_spec u2 u3).2 h).1, ((op_spec a2 a3 b2 b3 opIr).2 (by rw [← hE]; exact h)).1, u1, a1, b1, morganR fa fb]
    · have e1 : ¬ opErr opIr (cpRes a) (cpRes b) = 0 := by rw [← hE, h]; decide
      rw [cpErr, if_pos (okB_true.2 u2)] at h
      rw [cpRes, if_pos (okB_true.2 u2), opRes_bad e1, opRes_bad (by rw [h]; decide)]
  refine ⟨hE, hR, cp_02 u2 u3, fun h => ?_⟩
  have h2 := ((cp_spec u2 u3).2 h).2.1
  rw [← hR, eqB, okB_true.2 h2]
  simp
/-- covering, in both ways -/
theorem cov_spec : covErr a b = 0 ∧ covRes a b = (comb opMr n b a).nix := by
  have h1 : covErr a b = 0 := by simp [covErr, okB_true.2 ha, okB_true.2 hb, hwa, hwb]
  refine ⟨h1, ?_⟩
  rw [covRes, if_pos h1, hwa, Int.toNat_natCast]
theorem cov_both : (covRes a b && covRes b a) = eqB a b := by
  rw [(cov_spec ha hwa hb hwb).2, (cov_spec hb hwb ha hwa).2, eqB, okB_true.2 ha, okB_true.2 hb, Bool.eq_iff_iff]
  simp only [Bool.and_eq_true, Bool.true_and, decide_eq_true_eq]
  exact both_eq (ok_formN ha hwa) (ok_formN hb hwb)
variable (hc : OkR c) (hwc : c.w = (n : Int))
include hc hwc
theorem assoc_plain (e1 : opErr opUr a b = 0) (e2 : opErr opUr b c = 0) :
    opErr opUr (opRes opUr a b) c = opErr opUr a (opRes opUr b c) ∧ (opErr opUr (opRes opUr a b) c = 0 → eqB (opRes opUr (opRes opUr a b) c) (opRes opUr a (opRes opUr b c)) = true) := by
  obtain ⟨u1, u2, u3⟩ := (op_spec ha hwa hb hwb opUr).2 e1
  obtain ⟨v1, v2, v3⟩ := (op_spec hb hwb hc hwc opUr).2 e2
  have fa := ok_formN ha hwa
  have fb := ok_formN hb hwb
  have fc := ok_formN hc hwc
  have hE : opErr opUr (opRes opUr a b) c = opErr opUr a (opRes opUr b c) := by
    rw [(op_spec u2 u3 hc hwc opUr).1, (op_spec ha hwa v2 v3 opUr).1, u1, v1, union_assoc fa fb fc]
  refine ⟨hE, fun h => ?_⟩
  obtain ⟨p1, p2, _⟩ := (op_spec u2 u3 hc hwc opUr).2 h
  obtain ⟨q1, q2, _⟩ := (op_spec ha hwa v2 v3 opUr).2 (by rw [← hE]; exact h)
  rw [eqB, okB_true.2 p2, okB_true.2 q2]
  simp only [Bool.and_self, Bool.true_and, decide_eq_true_eq]
  rw [p1, q1, u1, v1, union_assoc fa fb fc]
end
end Go.Proofs.YtnocbigcdjlliaaGreat

/-
  What the law's arguments are in memory, and that they read behind the call as before. No walk here.
-/
namespace Go.Proofs.YtnocbigcdjlliaaGreat
open Go.ChangeShapes Go.WideShapes Go.ChangeAt Go.RowKit
set_option maxRecDepth 100000
open Go.ChangeMaps (open_string shut_string)

theorem own : ownKnob Tryz.prog.godebug = none := by kernel_rfl
theorem laidOut : laidOutB Tryz.prog = true := by kernel_rfl

section
variable {H : Type} {enc : TypeId × Value → H} {P : Program}
/-- the arguments read behind the call as before -/
theorem trodAll_below (hl : laidOutB P = true) {W W' : World} (hb : Below W.heap.size W W') : ∀ {ts : List TypeId} {vs : List Value} {ds : List (DataW H)} {ps : List MemPlace},
    (∀ t ∈ ts, P.readableRec t = true ∧ t < P.types.size) → DataW.TrodAll enc P W 0 (fun _ => true) true ts vs ds ps → (∀ x ∈ ps, x.block < W.heap.size) → DataW.TrodAll enc P W' 0 (fun b => decide (b < W.heap.size)) true ts vs ds ps
  | [], vs, ds, ps, _, h, _ => by
    obtain ⟨rfl, rfl, rfl⟩ := trodAll_nil h
    exact trodAll_mk0
  | t :: ts, vs, ds, ps, ht, h, hlt => by
    obtain ⟨v0, vs0, d0, ds0, p0, q0, rfl, rfl, rfl, h0, r0⟩ := trodAll_cons h
    have hr := ht t List.mem_cons_self
    exact trodAll_cons_mk (Below.trod hl hr.1 hr.2 h0 hb (fun x hx => hlt x (List.mem_append_left _ hx))) (trodAll_below hl hb (fun t h => ht t (List.mem_cons_of_mem _ h)) r0 (fun x hx => hlt x (List.mem_append_right _ hx)))
theorem okWide_slice_form {w : World} {r : Reach} {base : Nat} {t e : TypeId} {A : Option Addr} {n c : Nat} (ht : P.underlying t = some (.slice e)) (h : Value.okWide P w r base t (.slice A n c)) :
    (A = none → n = 0 ∧ c = 0) ∧ (∀ ad, A = some ad → ad.spot = none) ∧ n ≤ c ∧ c ≤ 9223372036854775807 := by
  simp only [Value.okWide, ht, Cell.okWide] at h
  cases A with
  | none =>
    unfold Cell.ok at h
    rw [ht] at h
    split at h <;> simp_all
  | some a =>
    unfold Cell.ok at h
    rw [ht] at h
    simp only at h
    obtain ⟨h1, h2, h3⟩ := h
    refine ⟨(fun h => by cases h), fun ad e => ?_, h1, ?_⟩
    · injection e with e
      rw [← e]
      exact h3.2.1
    · have : IntKind.i64.max = 9223372036854775807 := by decide
      omega
theorem trod_fields {w : World} {base : Nat} {sp : Nat → Bool} {hd : Bool} {fuel : Nat} {t : TypeId} {cs : List Value} {x : DataW H × List MemPlace} {fs : Array Field} (ht : P.underlying t = some (.struct fs)) (h : DataW.trod enc P w base sp hd fuel t cs = some x) :
    ∃ n, cs.length = P.cellsOf t ∧ ∀ (i : Nat) (f : Field), fs[i]? = some f → ∃ y, DataW.trod enc P w base sp hd n f.type ((cs.drop f.offset).take (P.cellsOf f.type)) = some y := by
  obtain ⟨ys, n, _, _, hl, hyl, hf⟩ := DataW.trod_struct ht h
  refine ⟨n, hl, fun i f hi => ?_⟩
  have hlt : i < ys.length := by rw [hyl]; exact (Array.getElem?_eq_some_iff.1 hi).1
  exact ⟨ys[i], (hf i f hi).trans (List.getElem?_eq_getElem hlt)⟩
end

theorem choose_list {α : Type} {Q : Nat → α → Prop} : ∀ n : Nat, (∀ i, i < n → ∃ y, Q i y) → ∃ l : List α, l.length = n ∧ ∀ i y, l[i]? = some y → Q i y
  | 0, _ => ⟨[], rfl, fun i y h => (by simp at h)⟩
  | n + 1, h => by
    obtain ⟨l, hl, hi⟩ := choose_list n (fun i hi => h i (by omega))
    obtain ⟨y, hy⟩ := h n (by omega)
    refine ⟨l ++ [y], by simp [hl], fun i z hz => ?_⟩
    rcases Nat.lt_or_ge i l.length with h | h
    · rw [List.getElem?_append_left h] at hz
      exact hi i z hz
    · rw [List.getElem?_append_right h] at hz
      have h0 : i - l.length = 0 := by
        have := (List.getElem?_eq_some_iff.1 hz).1
        simp at this
        omega
      rw [h0] at hz
      have : y = z := by simpa using hz
      rw [← this, show i = n by omega]
      exact hy
/-- a list of bytes as argument -/
theorem open_u8s {H : Type} {enc : TypeId × Value → H} {W : World} {base : Nat} {r : Reach} {b0 : Nat} {v : Value} {d : DataW H} {p : List MemPlace} (hv : Value.okWide Tryz.prog W r b0 22 v) (h : DataW.Trod enc Tryz.prog W base (fun _ => true) true 22 v d p) :
    ∃ (A : Option Addr) (n c : Nat) (zs : List Int), v = .slice A n c ∧ Sl 1 u8c W A n zs ∧ (∀ z ∈ zs, 0 ≤ z ∧ z ≤ 255) ∧ (A = none → n = 0 ∧ c = 0) ∧ (∀ ad, A = some ad → ad.spot = none) ∧ n ≤ c ∧ c ≤ 9223372036854775807 := by
  obtain ⟨A, n, c, rfl⟩ := okWide_slice Tryz.underlying22 hv
  obtain ⟨f1, f2, f3, f4⟩ := okWide_slice_form Tryz.underlying22 hv
  obtain ⟨fuel, hf⟩ := h
  have hf' : DataW.trod enc Tryz.prog W base (fun _ => true) true fuel 22 [.slice A n c] = some (d, p) := hf
  rcases open_ints Tryz.underlying22 Tryz.underlying5 (by kernel_rfl) hf' with ⟨h0, _⟩ | ⟨a, len, cap, zs, h0, hb, hl, hm, hzl, _, hc, hw⟩
  · injection h0 with h0
    injection h0 with e1 e2 e3
    subst e1 e2 e3
    exact ⟨none, 0, 0, [], rfl, Sl.nil, fun z hz => (by cases hz), fun _ => ⟨rfl, rfl⟩, fun ad e => (by cases e), Nat.le_refl _, by omega⟩
  · injection h0 with h0
    injection h0 with e1 e2 e3
    subst e1 e2 e3
    refine ⟨some a, n, c, zs.take n, rfl, ⟨?_, fun hn => ?_⟩, fun z hz => bounds_u8 (hw z (List.mem_of_mem_take hz)), f1, f2, f3, f4⟩
    · rw [List.length_take, hzl]; simp; omega
    · obtain ⟨b, o, sp⟩ := a
      obtain rfl : sp = none := f2 _ rfl
      refine ⟨b, o, rfl, fun k x hx j u hu => ?_⟩
      rw [List.getElem?_take] at hx
      split at hx
      · rename_i hk
        rcases j with _ | j
        · simp only [u8c, List.getElem?_cons_zero, Option.some.injEq] at hu
          subst hu
          have hkl := (List.getElem?_eq_some_iff.1 hx).1
          have := hc k hkl
          rw [add_at] at this
          rw [Nat.mul_one, Nat.add_zero, this, List.getD, hx]
          rfl
        · simp [u8c] at hu
      · cases hx
/-- a value as argument -/
theorem open_vl {H : Type} {enc : TypeId × Value → H} {W : World} {base : Nat} {sp : Nat → Bool} {hd : Bool} {r : Reach} {b0 : Nat} {v : Value} {d : DataW H} {p : List MemPlace} (hv : Value.okWide Tryz.prog W r b0 67 v) (h : DataW.Trod enc Tryz.prog W base sp hd 67 v d p) :
    ∃ x : Vl, v = .agg #[.int .i64 x.k, .int .i64 x.i, .string x.t] ∧ x.t.size ≤ 9223372036854775807 := by
  obtain ⟨v0, v1, v2, y0, y1, y2, n, rfl, _, _, h0, h1, h2⟩ := Joins.open_agg3 Tryz.underlying67 (by kernel_rfl) (by kernel_rfl) hv h
  obtain ⟨a, e0, _, _⟩ := DataW.trod_int (k := .i64) (by kernel_rfl) h0
  obtain ⟨b, e1, _, _⟩ := DataW.trod_int (k := .i64) (by kernel_rfl) h1
  obtain ⟨s, e2, _, hs⟩ := DataW.trod_string (by kernel_rfl) h2
  injection e0 with e0
  injection e1 with e1
  injection e2 with e2
  subst e0 e1 e2
  exact ⟨⟨a, b, s⟩, rfl, hs⟩
theorem trod_vl {H : Type} {enc : TypeId × Value → H} {W : World} {base : Nat} {sp : Nat → Bool} {hd : Bool} {fuel : Nat} {cs : List Value} {x : DataW H × List MemPlace} (h : DataW.trod enc Tryz.prog W base sp hd fuel 67 cs = some x) :
    ∃ y : Vl, cs = y.cs ∧ y.t.size ≤ 9223372036854775807 := by
  obtain ⟨n, hl, g⟩ := trod_fields Tryz.underlying67 h
  have hl' : cs.length = 3 := hl.trans (by kernel_rfl)
  match cs, hl' with
  | [v0, v1, v2], _ =>
    obtain ⟨y0, g0⟩ := g 0 _ rfl
    obtain ⟨y1, g1⟩ := g 1 _ rfl
    obtain ⟨y2, g2⟩ := g 2 _ rfl
    obtain ⟨a, e0, _, _⟩ := DataW.trod_int (k := .i64) (by kernel_rfl) g0
    obtain ⟨b, e1, _, _⟩ := DataW.trod_int (k := .i64) (by kernel_rfl) g1
    obtain ⟨s, e2, _, hs⟩ := DataW.trod_string (by kernel_rfl) g2
    have f0 : v0 = .int .i64 a := by
      have : [v0] = [.int .i64 a] := e0
      injection this
    have f1 : v1 = .int .i64 b := by
      have : [v1] = [.int .i64 b] := e1
      injection this
    have f2 : v2 = .string s := by
      have : [v2] = [.string s] := e2
      injection this
    subst f0 f1 f2
    exact ⟨⟨a, b, s⟩, rfl, hs⟩
end Go.Proofs.YtnocbigcdjlliaaGreat

/-
  Plain: the laws of the algebra of canonical regions, as the program's own equality. No program here.
-/
namespace Go.Proofs.YtnocbigcdjlliaaGreat
open Go.RowKit
set_option maxRecDepth 100000
open Rg

theorem cp_wf {a : Rg} (h : WfR a) : WfR (cpRes a) := by
  unfold cpRes
  split
  · exact op_wf (all_wf _) h
  · trivial
theorem eqB_self {a : Rg} (h : OkR a) : eqB a a = true := by rw [eqB, okB_true.2 h]; simp
section
variable {n : Nat} {a b r : Rg} (ha : OkR a) (hwa : a.w = (n : Int))
include ha hwa
theorem cp_is (h : cplR n a = r) (hr : OkR r) : cpErr a = 0 ∧ cpRes a = r := by
  obtain ⟨h1, h2⟩ := cp_spec ha hwa
  have h0 : cpErr a = 0 := by rw [h1, h, if_pos ⟨hr.2.2.1, hr.2.2.2.2⟩]
  exact ⟨h0, (h2 h0).1.trans h⟩
variable (hb : OkR b) (hwb : b.w = (n : Int))
include hb hwb
theorem op_is {op : Bool → Bool → Bool} (h : comb op n a b = r) (hr : OkR r) : opErr op a b = 0 ∧ opRes op a b = r := by
  obtain ⟨h1, h2⟩ := op_spec ha hwa hb hwb op
  have h0 : opErr op a b = 0 := by rw [h1, h, if_pos ⟨hr.2.2.1, hr.2.2.2.2⟩]
  exact ⟨h0, (h2 h0).1.trans h⟩
theorem algebra_plain (e1 : cpErr a = 0) (e2 : opErr opUr a b = 0) (e3 : opErr opIr a b = 0) :
    eqB (cpRes (cpRes a)) a = true ∧ eqB (opRes opUr a b) (opRes opUr b a) = true ∧ eqB (opRes opIr a b) (opRes opIr b a) = true ∧ eqB (opRes opIr a (opRes opUr a b)) a = true ∧ eqB (opRes opUr a (opRes opIr a b)) a = true ∧ eqB (opRes opUr a (cpRes a)) (allRes (n : Int)) = true := by
  obtain ⟨c1, c2, c3⟩ := (cp_spec ha hwa).2 e1
  obtain ⟨u1, u2, u3⟩ := (op_spec ha hwa hb hwb opUr).2 e2
  obtain ⟨i1, i2, i3⟩ := (op_spec ha hwa hb hwb opIr).2 e3
  have fa := ok_formN ha hwa
  have fb := ok_formN hb hwb
  have hn := ok_n12 ha hwa
  have hall : allRes (n : Int) = allR n := by rw [allRes, if_pos (by omega), Int.toNat_natCast]
  refine ⟨?_, ?_, ?_, ?_, ?_, ?_⟩
  · rw [(cp_is c2 c3 (r := a) (by rw [c1, cpl_cpl fa]) ha).2]
    exact eqB_self ha
  · rw [(op_is hb hwb ha hwa (op := opUr) (r := opRes opUr a b) (by rw [u1]; exact (op_comm fa fb true true).symm) u2).2]
    exact eqB_self u2
  · rw [(op_is hb hwb ha hwa (op := opIr) (r := opRes opIr a b) (by rw [i1]; exact (op_comm fa fb true false).symm) i2).2]
    exact eqB_self i2
  · rw [(op_is ha hwa u2 u3 (op := opIr) (r := a) (by rw [u1, absorb1 fa fb]) ha).2]
    exact eqB_self ha
  · rw [(op_is ha hwa i2 i3 (op := opUr) (r := a) (by rw [i1, absorb2 fa fb]) ha).2]
    exact eqB_self ha
  · rw [(op_is ha hwa c2 c3 (op := opUr) (r := allR n) (by rw [c1, or_cpl fa]) (all_ok hn)).2, hall]
    exact eqB_self (all_ok hn)
end
end Go.Proofs.YtnocbigcdjlliaaGreat
