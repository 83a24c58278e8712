/-
  Texts: IgRCells, FPdH.
-/
import Derived.Test.YtponkkljlbifmaaGreatH37
import Derived.Deep.CutRange
set_option linter.unusedVariables false
/-
  The reference's cells: the cells of a row that a reference names.
-/
namespace Go.Proofs.YtponkkljlbifmaaGreat
open Go.RowKit
set_option maxRecDepth 100000
open Pd

set_option maxRecDepth 100000 in
set_option maxHeartbeats 4000000 in
theorem rcells_any (RA : Option Addr) (rn rc : Nat) (r : Rw) (CA : Option Addr) (n cc : Nat) (cs : List Int) (w : World) (hr : RowOk w ((RA, rn, rc), r)) (hrl : rn ≤ 1000) (hc : ClS w CA n cs) (hn : n ≤ 1000) (hin : ∀ c ∈ cs, 0 ≤ c ∧ c < (rn : Int)) :
    Calls Tryz.prog 44 #[.slice RA rn rc, .slice CA n cc] w fun e w' => RowN (cellsR r cs) w e w' := by
  obtain ⟨i1, hi1, hy0, hy1, hy2⟩ := info_parts info_vl
  have HR := Lib.hid hr
  have HC := Lib.hid hc
  have HN := Lib.hid hin
  have Hrn : Hid (r.length = rn) := Lib.hid hr.rd.len
  clear hr hc hin
  go_enter Tryz.func44, Tryz.ntmps44
  go_wp2_with fail
  go_loopw [5, 10] (fun v i wr => ∃ (jj : Nat) (TA : Option Addr) (tc : Nat), jj ≤ n ∧ i = .int .i64 (jj : Int) ∧ v = .slice TA jj tc ∧ Hid (wr.ownsRow w.heap.size 67 3 (.slice TA jj tc) jj ((cellsR r (cs.take jj)).flatMap Vl.cs)) ∧ Hid (Below w.heap.size w wr)) (fun _ i _ => n - (intOf i).toNat)
  case atStart => exact ⟨0, none, 0, by omega, rfl, rfl, Lib.hid ⟨by simp [cellsR], .inl ⟨rfl, rfl⟩⟩, Lib.hid (Below.refl _ _)⟩
  case round =>
    obtain ⟨jj, TA, tc, hjj, rfl, rfl, HO, HBj⟩ := hrel
    by_cases hjx : jj < n
    · obtain ⟨b5, o5, cz, rfl, hcc, hcx⟩ := (HC.out.keep (keeps_of HBj.out)).at hjx
      have y0 := hcx 0 _ rfl
      simp only [Nat.mul_one, Nat.add_zero] at y0
      obtain ⟨h0, h1⟩ := HN.out cz (List.mem_of_getElem? hcc)
      obtain ⟨cn, rfl⟩ := Int.eq_ofNat_of_zero_le h0
      have hcn : cn < rn := by omega
      obtain ⟨b6, o6, v, rfl, hv, hvc⟩ := (HR.out.rd.keep (keeps_of HBj.out)).at hcn
      have Htk := Lib.hid (cells_take hcc (by rw [Int.toNat_natCast]; exact hv))
      obtain ⟨vk, vi, vt⟩ := v
      have d0 : wr.cell? ⟨b6, o6 + cn * 3, none⟩ = some (.int .i64 vk) := hvc 0 (.int .i64 vk) rfl
      have d1 : wr.cell? ⟨b6, o6 + cn * 3 + 1, none⟩ = some (.int .i64 vi) := hvc 1 (.int .i64 vi) rfl
      have d2 : wr.cell? ⟨b6, o6 + cn * 3 + 2, none⟩ = some (.string vt) := hvc 2 (.string vt) rfl
      clear hcc hcx h0 h1 hv hvc
      go_wp2_with (at_builtin; refine wpList_append_one2 (by rfl) (.tmp 14) (.tmp 19) _ (by rfl) w.heap.size 67 i1 _ 3 32 Tryz.underlying75 hi1 hy0 hy1 hy2 (by rfl) (by omega) (.slice TA jj tc) jj _ (by rfl) wr #[.int .i64 vk, .int .i64 vi, .string vt] HO.out wr.heap.size (by rfl) (by rfl) (by rfl) (one_vl ⟨vk, vi, vt⟩) (by simp only [maxLen]; omega) (by omega) HBj.out.size ?_; intro g6 cap6 w7 hown6 hg6 hB6 hat6 hlt6)
      have HB7 := Lib.hid (HBj.out.trans hB6)
      have HO7 := Lib.hid hown6
      clear hown6 hg6 hB6 hat6 hlt6 d0 d1 d2 y0
      go_roundw
      case rel => exact ⟨jj + 1, _, cap6, by omega, by go_num, rfl, Lib.hid (by rw [Htk.out, List.flatMap_append]; exact HO7.out), HB7⟩
      case measure => simp [intOf]; omega
    · obtain rfl : jj = n := by omega
      have hxl := HC.out.len
      have HTA : Hid (OwnRow wr w.heap.size ((TA, jj, tc), cellsR r cs)) := Lib.hid (by
        have h1 := HO.out
        rw [List.take_of_length_le (by omega)] at h1
        exact ⟨h1, by unfold cellsR; rw [List.length_map]; exact hxl⟩)
      have hcl : (cellsR r cs).length = jj := by unfold cellsR; rw [List.length_map]; exact hxl
      go_wp2
      go_ret
      exact ⟨TA, tc, by rw [hcl]; rfl, by rw [hcl]; exact HTA.out, HBj.out⟩
end Go.Proofs.YtponkkljlbifmaaGreat

/-
  The reference's Compares and Holds.
-/
namespace Go.Proofs.YtponkkljlbifmaaGreat
open Go.RowKit
set_option maxRecDepth 100000
open Pd

theorem real_zero : realV zeroV = false := by decide +kernel
set_option maxHeartbeats 4000000 in
theorem rcompares_any (cm : Int) (a b : Vl) (w : World) : Calls Tryz.prog 104 #[.int .i64 cm, .agg #[.int .i64 a.k, .int .i64 a.i, .string a.t], .agg #[.int .i64 b.k, .int .i64 b.i, .string b.t]] w fun e w' => e = .returned (.bool (cmpOk cm a b)) ∧ Below w.heap.size w w' := by
  obtain ⟨ak, ai, at_⟩ := a
  obtain ⟨bk, bi, bt⟩ := b
  obtain ⟨rr, Hrr⟩ : ∃ z, Hid (cmpOk cm ⟨ak, ai, at_⟩ ⟨bk, bi, bt⟩ = z) := ⟨_, rfl⟩
  rw [Hrr.out]
  have HL := Lib.hid ((Blk.new w 67 #[.int .i64 ak, .int .i64 ai, .string at_]).alloc (.cells #[.int .i64 bk, .int .i64 bi, .string bt] 67))
  have HQ := Lib.hid (Blk.new (w.alloc (.cells #[.int .i64 ak, .int .i64 ai, .string at_] 67)) 67 #[.int .i64 bk, .int .i64 bi, .string bt])
  rw [show (w.alloc (.cells #[.int .i64 ak, .int .i64 ai, .string at_] 67)).heap.size = w.heap.size + 1 by simp] at HQ
  have HB0 := (Below.refl w.heap.size w).alloc (Nat.le_refl _) (.cells #[.int .i64 ak, .int .i64 ai, .string at_] 67)
  have HB := Lib.hid (HB0.alloc HB0.size (.cells #[.int .i64 bk, .int .i64 bi, .string bt] 67))
  clear HB0
  go_enter Tryz.func104, Tryz.ntmps104
  go_upto_region 1 with fail
  generalize hW : (w.alloc (.cells #[.int .i64 ak, .int .i64 ai, .string at_] 67)).alloc (.cells #[.int .i64 bk, .int .i64 bi, .string bt] 67) = w1 at *
  clear hW
  have zl := HL.out.cell
  go_wp2_with fail
  refine (rreal_any ⟨ak, ai, at_⟩ _).mono ?_
  rintro e w3 ⟨rfl, hb3⟩
  have HB3 := Lib.hid (Below.next HB.out hb3)
  have HL3 := Lib.hid (HL.out.below hb3)
  have HQ3 := Lib.hid (HQ.out.below hb3)
  clear zl hb3 HL HQ HB
  obtain ⟨qa, Hqa⟩ : ∃ z, Hid (realV ⟨ak, ai, at_⟩ = z) := ⟨_, rfl⟩
  rw [Hqa.out]
  cases qa
  · obtain rfl : false = rr := by rw [← Hrr.out, cmpOk, Hqa.out]; rfl
    go_wp2
    go_ret
    exact ⟨rfl, HB3.out⟩
  have zq := HQ3.out.cell
  go_wp2_with fail
  refine (rreal_any ⟨bk, bi, bt⟩ _).mono ?_
  rintro e w4 ⟨rfl, hb4⟩
  have HB4 := Lib.hid (Below.next HB3.out hb4)
  have HL4 := Lib.hid (HL3.out.below hb4)
  have HQ4 := Lib.hid (HQ3.out.below hb4)
  clear zq hb4 HL3 HQ3 HB3
  obtain ⟨qb, Hqb⟩ : ∃ z, Hid (realV ⟨bk, bi, bt⟩ = z) := ⟨_, rfl⟩
  rw [Hqb.out]
  cases qb
  · obtain rfl : false = rr := by rw [← Hrr.out, cmpOk, Hqa.out, Hqb.out]; rfl
    go_wp2
    go_ret
    exact ⟨rfl, HB4.out⟩
  have zl := HL4.out.cell
  have zq := HQ4.out.cell
  by_cases hk : ak = bk
  rotate_left
  · obtain rfl : false = rr := by rw [← Hrr.out, cmpOk, Hqa.out, Hqb.out, decide_eq_false (show ¬ (⟨ak, ai, at_⟩ : Vl).k = (⟨bk, bi, bt⟩ : Vl).k from hk)]; rfl
    have g1 : (ak != bk) = true := by simpa using hk
    clear hk
    go_wp2
    go_ret
    exact ⟨rfl, HB4.out⟩
  have g1 : (ak != bk) = false := by simpa using hk
  have Hs : Hid (cmpB2 cm (cmpV ⟨ak, ai, at_⟩ ⟨bk, bi, bt⟩) = rr) := Lib.hid (by rw [← Hrr.out, cmpOk, Hqa.out, Hqb.out, decide_eq_true (show (⟨ak, ai, at_⟩ : Vl).k = (⟨bk, bi, bt⟩ : Vl).k from hk)]; rfl)
  clear hk Hrr Hqa Hqb
  go_wp2_with fail
  refine (rcompare_any ⟨ak, ai, at_⟩ ⟨bk, bi, bt⟩ _).mono ?_
  rintro e w5 ⟨rfl, hb5⟩
  have HB5 := Lib.hid (Below.next HB4.out hb5)
  clear hb5 zl zq g1
  obtain ⟨o, Ho⟩ : ∃ z, Hid (cmpV ⟨ak, ai, at_⟩ ⟨bk, bi, bt⟩ = z) := ⟨_, rfl⟩
  rw [Ho.out] at Hs ⊢
  by_cases hcm : 1 ≤ cm ∧ cm ≤ 6
  rotate_left
  · obtain rfl : false = rr := by
      rw [← Hs.out, cmpB2]
      repeat rw [if_neg (by omega)]
    have g1 : (cm == 1) = false := by simp; omega
    have g2 : (cm == 2) = false := by simp; omega
    have g3 : (cm == 3) = false := by simp; omega
    have g4 : (cm == 4) = false := by simp; omega
    have g5 : (cm == 5) = false := by simp; omega
    have g6 : (cm == 6) = false := by simp; omega
    clear hcm Hs
    go_wp2
    go_ret
    exact ⟨rfl, HB5.out⟩
  have hcm : cm = 1 ∨ cm = 2 ∨ cm = 3 ∨ cm = 4 ∨ cm = 5 ∨ cm = 6 := by omega
  rcases hcm with rfl | rfl | rfl | rfl | rfl | rfl
  · have Hd : Hid (decide (o = 0) = rr) := Lib.hid Hs.out
    clear Hs
    by_cases h0 : o = 0
    · have g1 : (o == 0) = true := by simpa using h0
      obtain rfl : true = rr := by rw [← Hd.out, decide_eq_true h0]
      clear h0 Hd
      go_wp2
      go_ret
      exact ⟨rfl, HB5.out⟩
    · have g1 : (o == 0) = false := by simpa using h0
      obtain rfl : false = rr := by rw [← Hd.out, decide_eq_false h0]
      clear h0 Hd
      go_wp2
      go_ret
      exact ⟨rfl, HB5.out⟩
  · have Hd : Hid (decide (o ≠ 0) = rr) := Lib.hid Hs.out
    clear Hs
    by_cases h0 : o ≠ 0
    · have g1 : (o != 0) = true := by simpa using h0
      obtain rfl : true = rr := by rw [← Hd.out, decide_eq_true h0]
      clear h0 Hd
      go_wp2
      go_ret
      exact ⟨rfl, HB5.out⟩
    · have g1 : (o != 0) = false := by simpa using h0
      obtain rfl : false = rr := by rw [← Hd.out, decide_eq_false h0]
      clear h0 Hd
      go_wp2
      go_ret
      exact ⟨rfl, HB5.out⟩
  · have Hd : Hid (decide (o < 0) = rr) := Lib.hid Hs.out
    clear Hs
    by_cases h0 : o < 0
    · have g1 : decide (o < 0) = true := by simpa using h0
      obtain rfl : true = rr := by rw [← Hd.out, decide_eq_true h0]
      clear h0 Hd
      go_wp2
      go_ret
      exact ⟨rfl, HB5.out⟩
    · have g1 : decide (o < 0) = false := by simpa using h0
      obtain rfl : false = rr := by rw [← Hd.out, decide_eq_false h0]
      clear h0 Hd
      go_wp2
      go_ret
      exact ⟨rfl, HB5.out⟩
  · have Hd : Hid (decide (o ≤ 0) = rr) := Lib.hid Hs.out
    clear Hs
    by_cases h0 : o ≤ 0
    · have g1 : decide (o ≤ 0) = true := by simpa using h0
      obtain rfl : true = rr := by rw [← Hd.out, decide_eq_true h0]
      clear h0 Hd
      go_wp2
      go_ret
      exact ⟨rfl, HB5.out⟩
    · have g1 : decide (o ≤ 0) = false := by simpa using h0
      obtain rfl : false = rr := by rw [← Hd.out, decide_eq_false h0]
      clear h0 Hd
      go_wp2
      go_ret
      exact ⟨rfl, HB5.out⟩
  · have Hd : Hid (decide (0 < o) = rr) := Lib.hid Hs.out
    clear Hs
    by_cases h0 : 0 < o
    · have g1 : decide (0 < o) = true := by simpa using h0
      obtain rfl : true = rr := by rw [← Hd.out, decide_eq_true h0]
      clear h0 Hd
      go_wp2
      go_ret
      exact ⟨rfl, HB5.out⟩
    · have g1 : decide (0 < o) = false := by simpa using h0
      obtain rfl : false = rr := by rw [← Hd.out, decide_eq_false h0]
      clear h0 Hd
      go_wp2
      go_ret
      exact ⟨rfl, HB5.out⟩
  · have Hd : Hid (decide (0 ≤ o) = rr) := Lib.hid Hs.out
    clear Hs
    by_cases h0 : 0 ≤ o
    · have g1 : decide (0 ≤ o) = true := by simpa using h0
      obtain rfl : true = rr := by rw [← Hd.out, decide_eq_true h0]
      clear h0 Hd
      go_wp2
      go_ret
      exact ⟨rfl, HB5.out⟩
    · have g1 : decide (0 ≤ o) = false := by simpa using h0
      obtain rfl : false = rr := by rw [← Hd.out, decide_eq_false h0]
      clear h0 Hd
      go_wp2
      go_ret
      exact ⟨rfl, HB5.out⟩
set_option maxHeartbeats 8000000 in
theorem rholds_any (row ps : List Vl) : ∀ (N : Nat) (p : Pd) (A : Option Addr) (n c : Nat) (Ar : Option Addr) (nr cr : Nat) (Ap : Option Addr) (np cp : Nat) (w : World), p.nodes ≤ N → N ≤ 1000 → PrdS w A n c p → VlS w Ar nr row → VlS w Ap np ps →
    Calls Tryz.prog 64 #[.agg (pdV p.h A n c), .slice Ar nr cr, .slice Ap np cp] w fun e w' => e = .returned (.bool (holdsB row ps p)) ∧ Below w.heap.size w w' := by
  intro N
  induction N with
  | zero => intro p A n c Ar nr cr Ap np cp w hN; have := nodes_pos p; omega
  | succ N ih =>
    intro p A n c Ar nr cr Ap np cp w hN hN2 hs hr hp
    have IH := Lib.hid ih
    have HN : Hid (p.nodes ≤ N + 1 ∧ N + 1 ≤ 1000) := Lib.hid ⟨hN, hN2⟩
    have hn1 : n ≤ 1000 := by have := len_lt p; have := hs.len; omega
    have Hlen := Lib.hid hs.len
    obtain ⟨rr, Hrr⟩ : ∃ z, Hid (holdsB row ps p = z) := ⟨_, rfl⟩
    rw [Hrr.out]
    obtain ⟨hd, Hhd⟩ : ∃ z, Hid (p.h = z) := ⟨_, rfl⟩
    have Hs : Hid (finH row ps hd (holdsA row ps (p.rest 0)) = rr) := Lib.hid (by rw [rest_zero, ← Hhd.out]; exact Hrr.out)
    rw [Hhd.out]
    clear ih hN hN2 Hrr Hhd
    obtain ⟨op, cm, ⟨lk, lx, ⟨vk, vi, vt⟩⟩, ⟨rk, rx, ⟨uk, ui, ut⟩⟩⟩ := hd
    unfold pdV
    have HS := Lib.hid (hs.keep (keeps_alloc w (.cells #[.int .i64 op, .int .i64 cm, .int .i64 lk, .int .i64 lx, .int .i64 vk, .int .i64 vi, .string vt, .int .i64 rk, .int .i64 rx, .int .i64 uk, .int .i64 ui, .string ut, .slice A n c] 71)))
    have HR := Lib.hid (hr.keep (keeps_alloc w (.cells #[.int .i64 op, .int .i64 cm, .int .i64 lk, .int .i64 lx, .int .i64 vk, .int .i64 vi, .string vt, .int .i64 rk, .int .i64 rx, .int .i64 uk, .int .i64 ui, .string ut, .slice A n c] 71)))
    have HP := Lib.hid (hp.keep (keeps_alloc w (.cells #[.int .i64 op, .int .i64 cm, .int .i64 lk, .int .i64 lx, .int .i64 vk, .int .i64 vi, .string vt, .int .i64 rk, .int .i64 rx, .int .i64 uk, .int .i64 ui, .string ut, .slice A n c] 71)))
    have HX := Lib.hid (Blk.new w 71 #[.int .i64 op, .int .i64 cm, .int .i64 lk, .int .i64 lx, .int .i64 vk, .int .i64 vi, .string vt, .int .i64 rk, .int .i64 rx, .int .i64 uk, .int .i64 ui, .string ut, .slice A n c])
    have HB := Lib.hid ((Below.refl w.heap.size w).alloc (Nat.le_refl _) (.cells #[.int .i64 op, .int .i64 cm, .int .i64 lk, .int .i64 lx, .int .i64 vk, .int .i64 vi, .string vt, .int .i64 rk, .int .i64 rx, .int .i64 uk, .int .i64 ui, .string ut, .slice A n c] 71))
    clear hs hr hp
    go_enter Tryz.func64, Tryz.ntmps64
    go_upto_region 1 with fail
    obtain ⟨X, HXe⟩ : ∃ z, Hid (w.heap.size = z) := ⟨_, rfl⟩
    rw [HXe.out] at HX
    rw [HXe.out]
    generalize hW : w.alloc (.cells #[.int .i64 op, .int .i64 cm, .int .i64 lk, .int .i64 lx, .int .i64 vk, .int .i64 vi, .string vt, .int .i64 rk, .int .i64 rx, .int .i64 uk, .int .i64 ui, .string ut, .slice A n c] 71) = w1 at *
    clear hW HXe
    have zx := HX.out.cell
    by_cases h1 : op = 1
    · obtain rfl : true = rr := by rw [← Hs.out, fin_true h1]
      clear Hs
      subst h1
      go_wp2
      go_ret
      exact ⟨rfl, HB.out⟩
    by_cases h3 : op = 3
    · have Hc : Hid (cmpOk cm (dnV row ps ⟨lk, lx, ⟨vk, vi, vt⟩⟩) (dnV row ps ⟨rk, rx, ⟨uk, ui, ut⟩⟩) = rr) := Lib.hid (by rw [← Hs.out, fin_cmp h3])
      clear Hs h1
      subst h3
      go_wp2_with fail
      refine (rdenoted_any row ps ⟨lk, lx, ⟨vk, vi, vt⟩⟩ Ar nr cr Ap np cp _ HR.out HP.out).mono ?_
      rintro e w2 ⟨rfl, hb2⟩
      obtain ⟨⟨ak, ai, at_⟩, Hdl⟩ : ∃ z, Hid (dnV row ps ⟨lk, lx, ⟨vk, vi, vt⟩⟩ = z) := ⟨_, rfl⟩
      obtain ⟨fl, Hfl⟩ : ∃ z, Hid (rdB row ps ⟨lk, lx, ⟨vk, vi, vt⟩⟩ = z) := ⟨_, rfl⟩
      rw [Hdl.out, Hfl.out]
      rw [Hdl.out] at Hc
      have HB2 := Lib.hid (Below.next HB.out hb2)
      have HR2 := Lib.hid ((HR.out.keep (keeps_of hb2)).keep (keeps_alloc w2 (.cells #[.int .i64 ak, .int .i64 ai, .string at_] 67)))
      have HP2 := Lib.hid ((HP.out.keep (keeps_of hb2)).keep (keeps_alloc w2 (.cells #[.int .i64 ak, .int .i64 ai, .string at_] 67)))
      have HX2 := Lib.hid ((HX.out.below hb2).alloc (.cells #[.int .i64 ak, .int .i64 ai, .string at_] 67))
      have HB3 := Lib.hid (HB2.out.alloc HB2.out.size (.cells #[.int .i64 ak, .int .i64 ai, .string at_] 67))
      have HL := Lib.hid (Blk.new w2 67 #[.int .i64 ak, .int .i64 ai, .string at_])
      obtain ⟨B, HBe⟩ : ∃ z, Hid (w2.heap.size = z) := ⟨_, rfl⟩
      rw [HBe.out] at HL
      clear hb2 HB2 HR HP HX HB zx
      go_upto_region 6 with fail
      rw [HBe.out]
      generalize hW : w2.alloc (.cells #[.int .i64 ak, .int .i64 ai, .string at_] 67) = w3 at *
      clear hW HBe
      have zx := HX2.out.cell
      go_wp2_with fail
      refine (rdenoted_any row ps ⟨rk, rx, ⟨uk, ui, ut⟩⟩ Ar nr cr Ap np cp _ HR2.out HP2.out).mono ?_
      rintro e w4 ⟨rfl, hb4⟩
      obtain ⟨⟨bk, bi, bt⟩, Hdr⟩ : ∃ z, Hid (dnV row ps ⟨rk, rx, ⟨uk, ui, ut⟩⟩ = z) := ⟨_, rfl⟩
      obtain ⟨fr, Hfr⟩ : ∃ z, Hid (rdB row ps ⟨rk, rx, ⟨uk, ui, ut⟩⟩ = z) := ⟨_, rfl⟩
      rw [Hdr.out, Hfr.out]
      rw [Hdr.out] at Hc
      have HB4 := Lib.hid (Below.next HB3.out hb4)
      have HX4 := Lib.hid ((HX2.out.below hb4).alloc (.cells #[.int .i64 bk, .int .i64 bi, .string bt] 67))
      have HL4 := Lib.hid ((HL.out.below hb4).alloc (.cells #[.int .i64 bk, .int .i64 bi, .string bt] 67))
      have HB5 := Lib.hid (HB4.out.alloc HB4.out.size (.cells #[.int .i64 bk, .int .i64 bi, .string bt] 67))
      have HQ := Lib.hid (Blk.new w4 67 #[.int .i64 bk, .int .i64 bi, .string bt])
      obtain ⟨C, HCe⟩ : ∃ z, Hid (w4.heap.size = z) := ⟨_, rfl⟩
      rw [HCe.out] at HQ
      clear hb4 HB3 HB4 HR2 HP2 HX2 HL zx
      go_upto_region 7 with fail
      rw [HCe.out]
      generalize hW : w4.alloc (.cells #[.int .i64 bk, .int .i64 bi, .string bt] 67) = w5 at *
      clear hW HCe
      cases fl
      · obtain rfl : false = rr := by
          have h := rdB_none Hfl.out
          rw [Hdl.out] at h
          rw [← Hc.out, h, cmpOk, real_zero]
          rfl
        clear Hc
        go_wp2
        go_ret
        exact ⟨rfl, HB5.out⟩
      cases fr
      · obtain rfl : false = rr := by
          have h := rdB_none Hfr.out
          rw [Hdr.out] at h
          rw [← Hc.out, h, cmpOk, real_zero]
          cases realV ⟨ak, ai, at_⟩ <;> rfl
        clear Hc
        go_wp2
        go_ret
        exact ⟨rfl, HB5.out⟩
      have zx := HX4.out.cell
      have zl := HL4.out.cell
      have zq := HQ.out.cell
      go_wp2_with fail
      refine (rcompares_any cm ⟨ak, ai, at_⟩ ⟨bk, bi, bt⟩ _).mono ?_
      rintro e w6 ⟨rfl, hb6⟩
      rw [Hc.out]
      have HB6 := Lib.hid (Below.next HB5.out hb6)
      clear hb6 zx zl zq Hc
      go_wp2
      go_ret
      exact ⟨rfl, HB6.out⟩
    by_cases h4 : op = 4
    · have H0 : Hid ((holdsA row ps (p.rest 0)).1 = rr) := Lib.hid (by rw [← Hs.out, fin_and h4])
      clear Hs h1 h3
      subst h4
      go_wp2_with fail
      go_loopw [51] (fun i wr => ∃ k : Nat, k ≤ n ∧ i = .int .i64 (k : Int) ∧ Hid ((holdsA row ps (p.rest k)).1 = rr) ∧ Hid (Below w1.heap.size w1 wr)) (fun i _ => n - (intOf i).toNat)
      case atStart => exact ⟨0, by omega, rfl, H0, Lib.hid (Below.refl _ _)⟩
      case round =>
        obtain ⟨k, hk, rfl, Hq, HM⟩ := hrel
        clear zx H0
        by_cases hlt : k < n
        · have HSk := Lib.hid (HS.out.keep (keeps_of HM.out))
          obtain ⟨b', o', q, A1, n1, c1, rfl, hq, d⟩ := HSk.out.at hlt
          have Hqn := Lib.hid (at_nodes hq)
          have Hst := Lib.hid (hold_rest hq row ps)
          have HSq := Lib.hid d.s
          obtain ⟨d0, d1, d2, d3, d4, d5, d6, d7, d8, d9, d10, d11, d12, ds⟩ := d
          clear ds hq HSk
          have zx := (HX.out.below HM.out).cell
          have HMa := HM
          have HR3 := Lib.hid (HR.out.keep (keeps_of HMa.out))
          have HP3 := Lib.hid (HP.out.keep (keeps_of HMa.out))
          go_wp2_with fail
          refine (IH.out q A1 n1 c1 Ar nr cr Ap np cp _ (by have := Hqn.out; have := HN.out; omega) (by have := HN.out; omega) HSq.out HR3.out HP3.out).mono ?_
          rintro e w4 ⟨rfl, hb4⟩
          have HM4 := Lib.hid (Below.next HMa.out hb4)
          clear hb4 zx d0 d1 d2 d3 d4 d5 d6 d7 d8 d9 d10 d11 d12
          obtain ⟨oq, Hoq⟩ : ∃ z, Hid (holdsB row ps q = z) := ⟨_, rfl⟩
          rw [Hoq.out] at Hst ⊢
          have Hcut : Hid (oq = false → false = rr) := Lib.hid (fun h => by rw [← Hq.out, Hst.out, h]; rfl)
          have Hgo : Hid (oq = !false → (holdsA row ps (p.rest (k + 1))).1 = rr) := Lib.hid (fun h => by rw [← Hq.out, Hst.out, h]; rfl)
          cases oq
          · obtain rfl := Hcut.out rfl
            go_wp2
            go_ret
            exact ⟨rfl, Below.next HB.out HM4.out⟩
          · have Hn := Lib.hid (Hgo.out rfl)
            go_wp2
            go_roundw
            case rel => exact ⟨k + 1, by omega, by go_num, Hn, HM4⟩
            case measure => simp [intOf]; omega
        · obtain rfl : true = rr := by
            rw [← Hq.out, rest_end (by rw [← Hlen.out]; omega)]
            rfl
          clear Hq
          go_wp2
          go_ret
          exact ⟨rfl, Below.next HB.out HM.out⟩
    by_cases h5 : op = 5
    · have H0 : Hid ((holdsA row ps (p.rest 0)).2.1 = rr) := Lib.hid (by rw [← Hs.out, fin_or h5])
      clear Hs h1 h3 h4
      subst h5
      go_wp2_with fail
      go_loopw [69] (fun i wr => ∃ k : Nat, k ≤ n ∧ i = .int .i64 (k : Int) ∧ Hid ((holdsA row ps (p.rest k)).2.1 = rr) ∧ Hid (Below w1.heap.size w1 wr)) (fun i _ => n - (intOf i).toNat)
      case atStart => exact ⟨0, by omega, rfl, H0, Lib.hid (Below.refl _ _)⟩
      case round =>
        obtain ⟨k, hk, rfl, Hq, HM⟩ := hrel
        clear zx H0
        by_cases hlt : k < n
        · have HSk := Lib.hid (HS.out.keep (keeps_of HM.out))
          obtain ⟨b', o', q, A1, n1, c1, rfl, hq, d⟩ := HSk.out.at hlt
          have Hqn := Lib.hid (at_nodes hq)
          have Hst := Lib.hid (hold_rest hq row ps)
          have HSq := Lib.hid d.s
          obtain ⟨d0, d1, d2, d3, d4, d5, d6, d7, d8, d9, d10, d11, d12, ds⟩ := d
          clear ds hq HSk
          have zx := (HX.out.below HM.out).cell
          have HMa := HM
          have HR3 := Lib.hid (HR.out.keep (keeps_of HMa.out))
          have HP3 := Lib.hid (HP.out.keep (keeps_of HMa.out))
          go_wp2_with fail
          refine (IH.out q A1 n1 c1 Ar nr cr Ap np cp _ (by have := Hqn.out; have := HN.out; omega) (by have := HN.out; omega) HSq.out HR3.out HP3.out).mono ?_
          rintro e w4 ⟨rfl, hb4⟩
          have HM4 := Lib.hid (Below.next HMa.out hb4)
          clear hb4 zx d0 d1 d2 d3 d4 d5 d6 d7 d8 d9 d10 d11 d12
          obtain ⟨oq, Hoq⟩ : ∃ z, Hid (holdsB row ps q = z) := ⟨_, rfl⟩
          rw [Hoq.out] at Hst ⊢
          have Hcut : Hid (oq = true → true = rr) := Lib.hid (fun h => by rw [← Hq.out, Hst.out, h]; rfl)
          have Hgo : Hid (oq = !true → (holdsA row ps (p.rest (k + 1))).2.1 = rr) := Lib.hid (fun h => by rw [← Hq.out, Hst.out, h]; rfl)
          cases oq
          · have Hn := Lib.hid (Hgo.out rfl)
            go_wp2
            go_roundw
            case rel => exact ⟨k + 1, by omega, by go_num, Hn, HM4⟩
            case measure => simp [intOf]; omega
          · obtain rfl := Hcut.out rfl
            go_wp2
            go_ret
            exact ⟨rfl, Below.next HB.out HM4.out⟩
        · obtain rfl : false = rr := by
            rw [← Hq.out, rest_end (by rw [← Hlen.out]; omega)]
            rfl
          clear Hq
          go_wp2
          go_ret
          exact ⟨rfl, Below.next HB.out HM.out⟩
    by_cases h6 : op = 6
    · have H0 : Hid ((holdsA row ps (p.rest 0)).2.2 = rr) := Lib.hid (by rw [← Hs.out, fin_not h6])
      clear Hs h1 h3 h4 h5
      subst h6
      by_cases hn : 0 < n
      · obtain ⟨b', o', q, A1, n1, c1, rfl, hq, d⟩ := HS.out.at hn
        have HSq := Lib.hid d.s
        obtain ⟨d0, d1, d2, d3, d4, d5, d6, d7, d8, d9, d10, d11, d12, ds⟩ := d
        have Hqn := Lib.hid (at_nodes hq)
        have Hst := Lib.hid (hold_rest hq row ps)
        simp only [Nat.zero_mul, Nat.add_zero] at d0 d1 d2 d3 d4 d5 d6 d7 d8 d9 d10 d11 d12
        clear ds hq
        go_wp2_with fail
        refine (IH.out q A1 n1 c1 Ar nr cr Ap np cp _ (by have := Hqn.out; have := HN.out; omega) (by have := HN.out; omega) HSq.out HR.out HP.out).mono ?_
        rintro e w4 ⟨rfl, hb4⟩
        have HB4 := Lib.hid (Below.next HB.out hb4)
        clear hb4 zx d0 d1 d2 d3 d4 d5 d6 d7 d8 d9 d10 d11 d12
        obtain ⟨oq, Hoq⟩ : ∃ z, Hid (holdsB row ps q = z) := ⟨_, rfl⟩
        rw [Hoq.out] at Hst ⊢
        obtain rfl : (!oq) = rr := by rw [← H0.out, Hst.out]
        clear Hst H0 Hoq
        cases oq
        all_goals
          go_wp2
          go_ret
          exact ⟨rfl, HB4.out⟩
      · obtain rfl : false = rr := by
          rw [← H0.out, rest_end (by rw [← Hlen.out]; omega)]
          rfl
        obtain rfl : n = 0 := by omega
        clear H0 hn
        go_wp2
        go_ret
        exact ⟨rfl, HB.out⟩
    obtain rfl : false = rr := by rw [← Hs.out, fin_none h1 h3 h4 h5 h6]
    have g1 : (op == 1) = false := by simpa using h1
    have g3 : (op == 3) = false := by simpa using h3
    have g4 : (op == 4) = false := by simpa using h4
    have g5 : (op == 5) = false := by simpa using h5
    have g6 : (op == 6) = false := by simpa using h6
    clear h1 h3 h4 h5 h6 Hs
    go_wp2
    go_ret
    exact ⟨rfl, HB.out⟩
end Go.Proofs.YtponkkljlbifmaaGreat
