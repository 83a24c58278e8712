/-
  The walk of the law RegionLimits.
-/
import Derived.Test.YtnocbigcdjlliaaDiag
namespace Go.Proofs.Ytnocbigcdjlliaa
open Go.RowKit
open Rg

set_option maxRecDepth 100000 in
set_option maxHeartbeats 8000000 in
theorem rlimits_walk (nn : Int) (h0 : 0 ≤ nn) (h1 : nn ≤ 255) (w : World) : Calls Try.prog 3 #[.int .u8 nn] w fun e w' => e = .returned (.bool true) ∧ Below w.heap.size w w' := by
  obtain ⟨k, hk1, hk2, hk⟩ : ∃ k : Nat, 28 ≤ k ∧ k ≤ 37 ∧ 28 + nn % 10 = (k : Int) := ⟨(28 + nn % 10).toNat, by omega, by omega, by omega⟩
  have hkz : (28 : Int) + nn % 10 = (k : Int) := hk
  go_enter Try.func3, Try.ntmps3
  go_wp2_with fail
  refine (emptyR_any 2 _).mono ?_
  rintro e w1 ⟨x0, f0, A0, n0, c0, rfl, hR0, hb1⟩
  simp only [show (0 : Int) ≤ 2 ∧ (2 : Int) ≤ 12 from ⟨by omega, by omega⟩, and_self, if_true] at hR0 ⊢
  have HR0 := Lib.hid (hR0.keep (keeps_alloc w1 (.cells #[.int .i64 x0, .bool f0, .slice A0 n0 c0] 24)))
  have HV0 := Lib.hid (Blk.new w1 24 #[.int .i64 x0, .bool f0, .slice A0 n0 c0])
  have HB0 := Lib.hid (hb1.alloc hb1.size (.cells #[.int .i64 x0, .bool f0, .slice A0 n0 c0] 24))
  obtain ⟨V, HV⟩ : ∃ z, Hid (w1.heap.size = z) := ⟨_, rfl⟩
  rw [HV.out] at HV0
  have hVw : w.heap.size ≤ V := by rw [← HV.out]; exact hb1.size
  clear hR0 hb1 hk
  go_upto_region 3 with fail
  rw [HV.out]
  generalize hW2 : w1.alloc (.cells #[.int .i64 x0, .bool f0, .slice A0 n0 c0] 24) = W2 at *
  clear hW2 hkz
  go_wp2_with fail
  go_loopg [5, 6] k (fun gk se si wr => ∃ (i : Nat) (er x : Int) (f : Bool) (A : Option Addr) (n c : Nat) (r : Rg), i ≤ k ∧ gk = k - i ∧ si = .int .i64 (i : Int) ∧ se = .int .i64 er ∧ Blk wr V 24 #[.int .i64 x, .bool f, .slice A n c] ∧ Hid (RgS wr x f A n c r) ∧ Hid ((er = 0 ∧ r = diag i ∧ i ≤ 32) ∨ (er = 2 ∧ r = zeroR ∧ i = 33)) ∧ Below w.heap.size w wr)
  case atStart => exact ⟨0, 0, x0, f0, A0, n0, c0, .nil 2 false, by omega, rfl, rfl, rfl, HV0.out, HR0, Lib.hid (.inl ⟨rfl, rfl, by omega⟩), HB0.out⟩
  case round =>
    obtain ⟨i, er, x, f, A, n, c, r, hik, rfl, rfl, rfl, hV, HR, HOR, hbw⟩ := hrel
    clear HV0 HR0 HB0
    have HVB := Lib.hid hV
    have HBW := Lib.hid hbw
    have hsw := hbw.size
    clear hV hbw
    by_cases hgo : i < k ∧ er = 0
    · obtain ⟨hlt, rfl⟩ := hgo
      have Hd : Hid (r = diag i ∧ i ≤ 32) := by
        rcases HOR.out with h | h
        · exact Lib.hid h.2
        · exact absurd h.1 (by omega)
      have hi32 := Hd.out.2
      have hi0 : (-1000000 : Int) ≤ 3 * (i : Int) ∧ 3 * (i : Int) ≤ 1000000 := by omega
      clear HOR
      go_wp2_with fail
      refine (span_any (3 * (i : Int)) (3 * (i : Int)) _ hi0 hi0).mono ?_
      rintro e w3 ⟨g3, rfl, hS3, hb3⟩
      replace HVB := Lib.hid (HVB.out.below hb3)
      replace HR := Lib.hid (HR.out.keep (keeps_of hb3))
      replace HBW := Lib.hid (Below.next HBW.out hb3)
      have HS3 := Lib.hid hS3
      clear hS3 hb3
      go_wp2_with fail
      refine (span_any (3 * (i : Int)) (3 * (i : Int)) _ hi0 hi0).mono ?_
      rintro e w4 ⟨g4, rfl, hS4, hb4⟩
      replace HVB := Lib.hid (HVB.out.below hb4)
      replace HR := Lib.hid (HR.out.keep (keeps_of hb4))
      replace HBW := Lib.hid (Below.next HBW.out hb4)
      replace HS3 := Lib.hid (HS3.out.keep (keeps_of hb4))
      have HS4 := Lib.hid hS4
      clear hS4 hb4
      go_wp2_with fail
      replace HVB := Lib.hid (HVB.out.alloc (.cells #[.slice (some ⟨g3, 0, none⟩) 1 1, .slice (some ⟨g4, 0, none⟩) 1 1] 29))
      replace HR := Lib.hid (HR.out.keep (keeps_alloc _ (.cells #[.slice (some ⟨g3, 0, none⟩) 1 1, .slice (some ⟨g4, 0, none⟩) 1 1] 29)))
      replace HBW := Lib.hid (HBW.out.alloc HBW.out.size (.cells #[.slice (some ⟨g3, 0, none⟩) 1 1, .slice (some ⟨g4, 0, none⟩) 1 1] 29))
      refine (Box_any _ 2 2 _ _ (SetsS.two (T := 29) HS3.out HS4.out okS_one okS_one (by omega) (by omega))).mono ?_
      rintro e w5 ⟨x5, f5, A5, n5, c5, rfl, hR5, hb5⟩
      simp only [List.map_cons, List.map_nil] at hR5 ⊢
      have hbe : boxErr [[spI (3 * (i : Int)) (3 * (i : Int))], [spI (3 * (i : Int)) (3 * (i : Int))]] = 0 := (bx_ok i).1
      have hbr : boxRes [[spI (3 * (i : Int)) (3 * (i : Int))], [spI (3 * (i : Int)) (3 * (i : Int))]] = bxD i := (bx_ok i).2.1
      rw [hbr] at hR5
      rw [hbe]
      replace HVB := Lib.hid ((HVB.out.below hb5).alloc (.cells #[.int .i64 x5, .bool f5, .slice A5 n5 c5] 24))
      replace HR := Lib.hid ((HR.out.keep (keeps_of hb5)).keep (keeps_alloc _ (.cells #[.int .i64 x5, .bool f5, .slice A5 n5 c5] 24)))
      have hbw5 := Below.next HBW.out hb5
      replace HBW := Lib.hid (hbw5.alloc hbw5.size (.cells #[.int .i64 x5, .bool f5, .slice A5 n5 c5] 24))
      have HR5 := Lib.hid (hR5.keep (keeps_alloc _ (.cells #[.int .i64 x5, .bool f5, .slice A5 n5 c5] 24)))
      have HX5 := Lib.hid (Blk.new w5 24 #[.int .i64 x5, .bool f5, .slice A5 n5 c5])
      obtain ⟨X, HXX⟩ : ∃ z, Hid (w5.heap.size = z) := ⟨_, rfl⟩
      rw [HXX.out] at HX5
      clear hR5 hb5 hbw5 hbe hbr HS3 HS4
      go_upto_region 7 with fail
      rw [HXX.out]
      generalize hW5 : w5.alloc (.cells #[.int .i64 x5, .bool f5, .slice A5 n5 c5] 24) = W5 at *
      clear hW5
      have z1 := HVB.out.cell
      have z2 := HX5.out.cell
      go_wp2_with fail
      refine (gunion_any r x f A n c (bxD i) x5 f5 A5 n5 c5 _ HR.out HR5.out (by rw [Hd.out.1]; exact diag_wf (by omega)) (bx_wf (by omega))).mono ?_
      rintro e w6 ⟨x6, f6, A6, n6, c6, rfl, hR6, hb6⟩
      obtain ⟨er6, Her6⟩ : ∃ z, Hid (opErr opUr r (bxD i) = z) := ⟨_, rfl⟩
      obtain ⟨r6, Hr6⟩ : ∃ z, Hid (opRes opUr r (bxD i) = z) := ⟨_, rfl⟩
      rw [Her6.out]
      rw [Hr6.out] at hR6
      have HR6 := Lib.hid hR6
      replace HVB := Lib.hid (HVB.out.below hb6)
      replace HBW := Lib.hid (Below.next HBW.out hb6)
      clear hR6 hb6 z1 z2 HR HR5 HX5
      have z1 := HVB.out.cell
      obtain ⟨ff1, ff2, ff3⟩ := put3R_free HVB.out (.int .i64 x6) (.bool f6)
      have HBr := Lib.hid (put3R_below HBW.out hVw (.int .i64 x6) (.bool f6) (.slice A6 n6 c6))
      have HRr := Lib.hid (RgS.off HVB.out (put3R_but _ V (.int .i64 x6) (.bool f6) (.slice A6 n6 c6)) HR6.out)
      have HVr := Lib.hid (put3R_blk (a' := .int .i64 x6) (b' := .bool f6) (c' := .slice A6 n6 c6) HVB.out)
      go_wp2_with fail
      go_roundg (k - (i + 1))
      case measure => omega
      case rel =>
        refine ⟨i + 1, er6, x6, f6, A6, n6, c6, r6, by omega, rfl, by go_num, rfl, HVr.out, HRr, ?_, HBr.out⟩
        refine Lib.hid ?_
        have h2 := diag_op hi32
        rw [← Hd.out.1, Her6.out, Hr6.out] at h2
        by_cases h3 : i + 1 ≤ 32
        · rw [if_pos h3, if_pos h3] at h2
          exact .inl ⟨h2.1, h2.2, h3⟩
        · rw [if_neg h3, if_neg h3] at h2
          exact .inr ⟨h2.1, h2.2, by omega⟩
    · by_cases hlt : i < k
      · have her : er = 2 ∧ r = zeroR ∧ i = 33 := by
          rcases HOR.out with h | h
          · exact absurd ⟨hlt, h.1⟩ hgo
          · exact h
        obtain ⟨rfl, rfl, rfl⟩ := her
        have g1 : decide (64 < 2 * (k : Int)) = true := by simp; omega
        obtain rfl : n = 0 := HR.out.len
        clear HOR hgo
        go_wp2_with fail
        refine (begun4_any _).mono ?_
        rintro e w8 ⟨rfl, hb8⟩
        have z1 := (HVB.out.below hb8).cell
        have HB8 := Lib.hid (Below.next HBW.out hb8)
        clear hb8
        go_wp2
        go_ret
        exact ⟨rfl, HB8.out⟩
      · obtain rfl : i = k := by omega
        rcases HOR.out with h | h
        · obtain ⟨rfl, hrd, hi32⟩ := h
          have g1 : decide (64 < 2 * (i : Int)) = false := by simp; omega
          have HRD := Lib.hid hrd
          clear HOR hgo hrd
          go_wp2_with fail
          refine (begun4_any _).mono ?_
          rintro e w8 ⟨rfl, hb8⟩
          have z1 := (HVB.out.below hb8).cell
          have HB8 := Lib.hid (Below.next HBW.out hb8)
          have HR8 := Lib.hid (HR.out.keep (keeps_of hb8))
          clear hb8
          go_wp2_with fail
          refine (sizeR_any r x f A n c _ HR8.out).mono ?_
          rintro e w9 ⟨rfl, hb9⟩
          have hsz : (if okB r = true then ((r.size : Nat) : Int) else 0) = 2 * (i : Int) := by
            rw [HRD.out, if_pos (okB_true.2 (diag_ok hi32)), diag_size]
            omega
          rw [hsz]
          have HB9 := Lib.hid (Below.next HB8.out hb9)
          clear hb9 z1
          go_wp2
          go_ret
          exact ⟨rfl, HB9.out⟩
        · obtain ⟨rfl, rfl, rfl⟩ := h
          obtain rfl : n = 0 := HR.out.len
          clear HOR hgo
          go_wp2_with fail
          refine (begun4_any _).mono ?_
          rintro e w8 ⟨rfl, hb8⟩
          have z1 := (HVB.out.below hb8).cell
          have HB8 := Lib.hid (Below.next HBW.out hb8)
          clear hb8
          go_wp2
          go_ret
          exact ⟨rfl, HB8.out⟩
end Go.Proofs.Ytnocbigcdjlliaa
