/-
  The walk of the law RegionMakes.
-/
import Derived.Deep.Cut
import Derived.Test.YtnocbigcdjlliaaGreatB24
import Derived.Test.YtnocbigcdjlliaaGreatB48
import Derived.Test.YtnocbigcdjlliaaGreatB46
import Derived.Test.YtnocbigcdjlliaaGreatB52
import Derived.Test.YtnocbigcdjlliaaGreatB47
import Derived.Test.YtnocbigcdjlliaaGreatB31
set_option linter.unusedVariables false
namespace Go.Proofs.YtnocbigcdjlliaaGreat
open Go.RowKit
set_option maxRecDepth 100000
open Rg

def lenSl : Value → Nat
  | .slice _ n _ => n
  | _ => 0
set_option maxHeartbeats 8000000 in
theorem makes4_walk (A : Option Addr) (n c : Nat) (zs : List Int) (w : World) (hs : Sl 1 u8c w A n zs) (hz : ∀ z ∈ zs, 0 ≤ z ∧ z ≤ 255) (hnil : A = none → n = 0 ∧ c = 0) (hsp : ∀ ad, A = some ad → ad.spot = none) (hnc : n ≤ c) (hcm : c ≤ 9223372036854775807) (x : Int) (Br : Option Addr) (m cb : Nat) (l : List Vl) (hV : VlS w Br m l) :
    Calls Tryz.prog 13 #[.slice A n c, .int .i64 x, .slice Br m cb] w fun e w' => e = .returned (.bool true) ∧ Below w.heap.size w w' := by
  obtain ⟨il, hil, hl0, hl1, hl2⟩ := info_parts info_lst
  have HS := Lib.hid hs
  have HZ := Lib.hid hz
  have HN := Lib.hid hnil
  have HP := Lib.hid hsp
  have HV := Lib.hid hV
  clear hs hz hnil hsp hV
  go_enter Tryz.func13, Tryz.ntmps13
  go_wp2_with fail
  refine (new_any A n c zs 120 _ HS.out HZ.out HN.out HP.out hnc hcm (by omega)).mono ?_
  rintro e w0 ⟨g, hg, rfl, hc, hB⟩
  clear HS HZ HN HP
  go_wp2_with fail
  refine (int_any g 5 _ hc (by omega) (by omega)).mono ?_
  rintro e w1 ⟨⟨y, hy1, hy2, rfl⟩, hc1, hb1⟩
  have HB := Lib.hid (hb1.below hB hB.size (fun k hk => by subst hk; exact hg))
  obtain ⟨k0, rfl⟩ := Int.eq_ofNat_of_zero_le hy1
  have HQ0 : Hid (SetsAt w1 g w1.heap.size 0 none 0 [] w1) := Lib.hid ⟨⟨by simp, .inl ⟨rfl, rfl⟩⟩, rfl, by simp, hc1, But.refl _ _, Nat.le_refl _, hc1.lt⟩
  clear hb1 hB hc1 hc
  go_wp2_with fail
  go_loopw [8, 9] (fun v i wr => ∃ (t k : Nat) (A' : Option Addr) (c' : Nat) (ps : List SetP), k + t ≤ 4 ∧ i = .int .i64 (k : Int) ∧ v = .slice A' t c' ∧ Hid (SetsAt w1 g w1.heap.size t A' c' ps wr)) (fun _ i _ => (intOf i).toNat)
  case atStart => exact ⟨0, k0, none, 0, [], by omega, rfl, rfl, HQ0⟩
  case round =>
    clear HQ0 hy1 hy2
    obtain ⟨t, k, A', c', ps, hk, rfl, rfl, HQ⟩ := hrel
    by_cases hlt : 0 < k
    · go_wp2_with fail
      refine (cinterval2_any g _ HQ.out.cs).mono ?_
      rintro e w4 ⟨l4, A4, c4, hG4, rfl, _, _, _, hO4, hc4, hb4⟩
      have HQ4 := Lib.hid (HQ.out.case hb4 hc4)
      have HS4 : Hid (SetQ w4 ((A4, l4.length, c4), l4)) := Lib.hid ⟨by have := hG4.len; show l4.length ≤ 7; omega, rfl, hO4⟩
      clear hG4 hO4 hc4 hb4 HQ
      go_wp2_with (at_builtin; go_loud (refine wpList_append_one2 (by rfl) (.tmp 37) (.tmp 40) _ (by rfl) w1.heap.size 64 il _ 1 24 Tryz.underlying63 hil hl0 hl1 hl2 (by rfl) (by omega) (.slice A' t c') t _ (by rfl) w4 #[.slice A4 l4.length c4] HQ4.out.own w4.heap.size (by rfl) (by rfl) (by rfl) (one_set ((A4, l4.length, c4), l4)) (by simp only [maxLen]; omega) (by omega) HQ4.out.bu.size ?_; intro g6 cap6 w6 hown6 hg6 hB6 hat6 hlt6))
      go_roundw
      case rel =>
        have hbu := (But.alloc (S := fun q => (Value.slice A' t c').ownBlock = some q) w4 (.cells #[.slice A4 l4.length c4] 64)).trans (But.of_grown hg6 (fun q hq => hq))
        have HQ6 := Lib.hid (HQ4.out.more (p := ((A4, l4.length, c4), l4)) HS4.out (by simpa [setc] using hown6) hbu (Nat.le_refl _))
        exact ⟨t + 1, k - 1, _, cap6, _, by omega, congrArg (Value.int .i64) (by omega), rfl, HQ6⟩
      case measure => simp [intOf]; omega
    · go_wp2_with fail
      refine (bool_any g 4 _ HQ.out.cs (by omega) (by omega)).mono ?_
      rintro e w5 ⟨⟨bb, rfl⟩, hc5, hb5⟩
      have HQ5 := Lib.hid (HQ.out.case hb5 hc5)
      clear hc5 hb5 HQ
      go_upto_if 43 with fail
      go_cut [8] (fun s w8 => ∃ (t2 : Nat) (A2 : Option Addr) (c2 : Nat) (ps2 : List SetP), s = .slice A2 t2 c2 ∧ t2 ≤ 5 ∧ Hid (SetsAt w1 g w1.heap.size t2 A2 c2 ps2 w8))
      case first =>
        cases bb
        · go_wp2_with fail
          go_meet
          case rel => exact ⟨t, A', c', ps, rfl, by omega, HQ5⟩
        · go_wp2_with fail
          refine (any2_any g _ HQ5.out.cs).mono ?_
          rintro e w6 ⟨⟨⟨ak, ai, ab⟩, hav, har, rfl⟩, hc6, hb6⟩
          have HQ6 := Lib.hid (HQ5.out.case hb6 hc6)
          clear hav har hb6 hc6 HQ5
          go_wp2_with fail
          refine (any2_any g _ HQ6.out.cs).mono ?_
          rintro e w7 ⟨⟨⟨dk, di, db⟩, hav, har, rfl⟩, hc7, hb7⟩
          have HQ7 := Lib.hid (HQ6.out.case hb7 hc7)
          clear hav har hb7 hc7 HQ6
          obtain ⟨w8, HW8⟩ : ∃ z, Hid (w7.alloc (.cells #[.int .i64 ak, .int .i64 ai, .string ab, .int .i64 dk, .int .i64 di, .string db, .bool false] 70) = z) := ⟨_, rfl⟩
          have HQ8 : Hid (SetsAt w1 g w1.heap.size t A' c' ps w8) := by rw [← HW8.out]; exact Lib.hid (HQ7.out.below ((Below.refl _ _).alloc (Nat.le_refl _) _))
          have HS8 : Hid (SetQ w8 ((some ⟨w7.heap.size, 0, none⟩, 1, 1), [⟨⟨ak, ai, ab⟩, ⟨dk, di, db⟩, false⟩])) := by rw [← HW8.out]; exact Lib.hid ⟨by simp, rfl, own_iv1 (x := ⟨⟨ak, ai, ab⟩, ⟨dk, di, db⟩, false⟩) (Blk.new _ _ _)⟩
          go_wp2_with (at_builtin; go_loud (rw [HW8.out]; refine wpList_append_one2 (by rfl) (.tmp 44) (.tmp 51) _ (by rfl) w1.heap.size 64 il _ 1 24 Tryz.underlying63 hil hl0 hl1 hl2 (by rfl) (by omega) (.slice A' t c') t _ (by rfl) w8 #[.slice (some ⟨w7.heap.size, 0, none⟩) 1 1] HQ8.out.own (w7.heap.size + 1) (by first | rfl | (rw [← HW8.out]; simp)) (by first | rfl | (rw [← HW8.out]; simp)) (by first | rfl | (rw [← HW8.out]; simp)) (one_set ((some ⟨w7.heap.size, 0, none⟩, 1, 1), [⟨⟨ak, ai, ab⟩, ⟨dk, di, db⟩, false⟩])) (by simp only [maxLen]; omega) (by omega) HQ8.out.bu.size ?_; intro g6 cap6 w6 hown6 hg6 hB6 hat6 hlt6))
          go_meet
          case rel =>
            have hbu := (But.alloc (S := fun q => (Value.slice A' t c').ownBlock = some q) w8 (.cells #[.slice (some ⟨w7.heap.size, 0, none⟩) 1 1] 64)).trans (But.of_grown hg6 (fun q hq => hq))
            have HQ6 := Lib.hid (HQ8.out.more (p := ((some ⟨w7.heap.size, 0, none⟩, 1, 1), [⟨⟨ak, ai, ab⟩, ⟨dk, di, db⟩, false⟩])) HS8.out (by simpa [setc] using hown6) hbu (Nat.le_refl _))
            exact ⟨t + 1, _, cap6, _, rfl, by omega, HQ6⟩
      case rest =>
        obtain ⟨t2, A2, c2, ps2, rfl, ht2, HQ2⟩ := hcut
        clear HQ5
        go_wp2_with fail
        refine (bool_any g 6 _ HQ2.out.cs (by omega) (by omega)).mono ?_
        rintro e w9 ⟨⟨b2, rfl⟩, hc9, hb9⟩
        have HQ9 := Lib.hid (HQ2.out.case hb9 hc9)
        clear hc9 hb9 HQ2
        go_upto_if 54 with fail
        go_cut [8] (fun s w8 => ∃ (t3 : Nat) (A3 : Option Addr) (c3 : Nat) (ps3 : List SetP), s = .slice A3 t3 c3 ∧ t3 ≤ 13 ∧ Hid (SetsAt w1 g w1.heap.size t3 A3 c3 ps3 w8))
        case first =>
          cases b2
          · go_wp2_with fail
            go_meet
            case rel => exact ⟨t2, A2, c2, ps2, rfl, by omega, HQ9⟩
          · go_wp2_with fail
            go_loopw [8] (fun v wr => ∃ (t3 : Nat) (A3 : Option Addr) (c3 : Nat) (ps3 : List SetP), t3 ≤ 13 ∧ v = .slice A3 t3 c3 ∧ Hid (SetsAt w1 g w1.heap.size t3 A3 c3 ps3 wr)) (fun v _ => 13 - lenSl v)
            case atStart => exact ⟨t2, A2, c2, ps2, by omega, rfl, HQ9⟩
            case round =>
              obtain ⟨t3, A3, c3, ps3, ht3, rfl, HQ3⟩ := hrel
              by_cases hlt : t3 ≤ 12
              · go_wp2_with fail
                refine (rall2_any _).mono ?_
                rintro e w4 ⟨g4, rfl, hS4, hb4⟩
                have HQ4 := Lib.hid (HQ3.out.below hb4)
                have HS4 : Hid (SetQ w4 ((some ⟨g4, 0, none⟩, 1, 1), allL)) := Lib.hid ⟨by show allL.length ≤ 7; decide, rfl, own_alls hS4⟩
                clear hS4 hb4 HQ3
                go_wp2_with (at_builtin; go_loud (refine wpList_append_one2 (by rfl) (.tmp 58) (.tmp 60) _ (by rfl) w1.heap.size 64 il _ 1 24 Tryz.underlying63 hil hl0 hl1 hl2 (by rfl) (by omega) (.slice A3 t3 c3) t3 _ (by rfl) w4 #[.slice (some ⟨g4, 0, none⟩) 1 1] HQ4.out.own w4.heap.size (by rfl) (by rfl) (by rfl) (one_set ((some ⟨g4, 0, none⟩, 1, 1), allL)) (by simp only [maxLen]; omega) (by omega) HQ4.out.bu.size ?_; intro g6 cap6 w6 hown6 hg6 hB6 hat6 hlt6))
                go_roundw
                case rel =>
                  have hbu := (But.alloc (S := fun q => (Value.slice A3 t3 c3).ownBlock = some q) w4 (.cells #[.slice (some ⟨g4, 0, none⟩) 1 1] 64)).trans (But.of_grown hg6 (fun q hq => hq))
                  have HQ6 := Lib.hid (HQ4.out.more (p := ((some ⟨g4, 0, none⟩, 1, 1), allL)) HS4.out (by simpa [setc] using hown6) hbu (Nat.le_refl _))
                  exact ⟨t3 + 1, _, cap6, _, by omega, rfl, HQ6⟩
                case measure => simp [lenSl]; omega
              · go_wp2_with fail
                go_meet
                case rel => exact ⟨t3, A3, c3, ps3, rfl, ht3, HQ3⟩
        case rest =>
          obtain ⟨t3, A3, c3, ps3, rfl, ht3, HQ⟩ := hcut
          clear HQ9
          have hB := HQ.out.bu.below HB.out HB.out.size (fun k hk => by subst hk; exact hg)
          replace HV := Lib.hid (HV.out.keep (keeps_of hB))
          clear HB
          go_wp2_with fail
          refine (emptyR_any x _).mono ?_
          rintro e w101 ⟨xp, fp, Ap, np, cp, rfl, hSp, hb1⟩
          obtain ⟨ep, Hep⟩ : ∃ z, Hid ((if 0 ≤ x ∧ x ≤ 12 then 0 else 1 : Int) = z) := ⟨_, rfl⟩
          obtain ⟨rp, Hrp⟩ : ∃ z, Hid ((if 0 ≤ x ∧ x ≤ 12 then .nil x false else zeroR : Rg) = z) := ⟨_, rfl⟩
          rw [Hep.out]
          rw [Hrp.out] at hSp
          replace hB := Below.next hB hb1
          replace HQ := Lib.hid (HQ.out.below hb1)
          replace HV := Lib.hid (HV.out.keep (keeps_of hb1))
          have HSp := Lib.hid hSp
          clear hSp hb1
          replace HQ := Lib.hid (HQ.out.below ((Below.refl _ _).alloc (Nat.le_refl _) (.cells #[.int .i64 xp, .bool fp, .slice Ap np cp] 28)))
          replace HV := Lib.hid (HV.out.keep (keeps_alloc w101 (.cells #[.int .i64 xp, .bool fp, .slice Ap np cp] 28)))
          replace HSp := Lib.hid (HSp.out.keep (keeps_alloc w101 (.cells #[.int .i64 xp, .bool fp, .slice Ap np cp] 28)))
          have HVp := Lib.hid (Blk.new w101 28 #[.int .i64 xp, .bool fp, .slice Ap np cp])
          obtain ⟨Vp, HXp⟩ : ∃ z, Hid (w101.heap.size = z) := ⟨_, rfl⟩
          rw [HXp.out] at HVp
          replace hB := hB.alloc hB.size (.cells #[.int .i64 xp, .bool fp, .slice Ap np cp] 28)
          go_upto_region 13 with fail
          rw [HXp.out]
          generalize hWW : (w101.alloc (.cells #[.int .i64 xp, .bool fp, .slice Ap np cp] 28)) = WW2 at *
          clear hWW
          go_wp2_with fail
          refine (fEmpty_any x _).mono ?_
          rintro e w103 ⟨xq, fq, Aq, nq, cq, rfl, hSq, hb3⟩
          rw [Hep.out]
          rw [Hrp.out] at hSq
          replace HSp := Lib.hid (HSp.out.keep (keeps_of hb3))
          replace HVp := Lib.hid (HVp.out.below hb3)
          replace hB := Below.next hB hb3
          replace HQ := Lib.hid (HQ.out.below hb3)
          replace HV := Lib.hid (HV.out.keep (keeps_of hb3))
          have HSq := Lib.hid hSq
          clear hSq hb3
          replace HQ := Lib.hid (HQ.out.below ((Below.refl _ _).alloc (Nat.le_refl _) (.cells #[.int .i64 xq, .bool fq, .slice Aq nq cq] 28)))
          replace HV := Lib.hid (HV.out.keep (keeps_alloc w103 (.cells #[.int .i64 xq, .bool fq, .slice Aq nq cq] 28)))
          replace HSp := Lib.hid (HSp.out.keep (keeps_alloc w103 (.cells #[.int .i64 xq, .bool fq, .slice Aq nq cq] 28)))
          replace HVp := Lib.hid (HVp.out.alloc (.cells #[.int .i64 xq, .bool fq, .slice Aq nq cq] 28))
          replace HSq := Lib.hid (HSq.out.keep (keeps_alloc w103 (.cells #[.int .i64 xq, .bool fq, .slice Aq nq cq] 28)))
          have HVq := Lib.hid (Blk.new w103 28 #[.int .i64 xq, .bool fq, .slice Aq nq cq])
          obtain ⟨Vq, HXq⟩ : ∃ z, Hid (w103.heap.size = z) := ⟨_, rfl⟩
          rw [HXq.out] at HVq
          replace hB := hB.alloc hB.size (.cells #[.int .i64 xq, .bool fq, .slice Aq nq cq] 28)
          go_upto_region 14 with fail
          rw [HXq.out]
          generalize hWW : (w103.alloc (.cells #[.int .i64 xq, .bool fq, .slice Aq nq cq] 28)) = WW4 at *
          clear hWW
          go_wp2_with fail
          refine (gAll_any x _).mono ?_
          rintro e w105 ⟨xr, fr, Ar, nr, cr, rfl, hSr, hb5⟩
          obtain ⟨er, Her⟩ : ∃ z, Hid (allErr x = z) := ⟨_, rfl⟩
          obtain ⟨rr, Hrr⟩ : ∃ z, Hid (allRes x = z) := ⟨_, rfl⟩
          rw [Her.out]
          rw [Hrr.out] at hSr
          replace HSp := Lib.hid (HSp.out.keep (keeps_of hb5))
          replace HVp := Lib.hid (HVp.out.below hb5)
          replace HSq := Lib.hid (HSq.out.keep (keeps_of hb5))
          replace HVq := Lib.hid (HVq.out.below hb5)
          replace hB := Below.next hB hb5
          replace HQ := Lib.hid (HQ.out.below hb5)
          replace HV := Lib.hid (HV.out.keep (keeps_of hb5))
          have HSr := Lib.hid hSr
          clear hSr hb5
          replace HQ := Lib.hid (HQ.out.below ((Below.refl _ _).alloc (Nat.le_refl _) (.cells #[.int .i64 xr, .bool fr, .slice Ar nr cr] 28)))
          replace HV := Lib.hid (HV.out.keep (keeps_alloc w105 (.cells #[.int .i64 xr, .bool fr, .slice Ar nr cr] 28)))
          replace HSp := Lib.hid (HSp.out.keep (keeps_alloc w105 (.cells #[.int .i64 xr, .bool fr, .slice Ar nr cr] 28)))
          replace HVp := Lib.hid (HVp.out.alloc (.cells #[.int .i64 xr, .bool fr, .slice Ar nr cr] 28))
          replace HSq := Lib.hid (HSq.out.keep (keeps_alloc w105 (.cells #[.int .i64 xr, .bool fr, .slice Ar nr cr] 28)))
          replace HVq := Lib.hid (HVq.out.alloc (.cells #[.int .i64 xr, .bool fr, .slice Ar nr cr] 28))
          replace HSr := Lib.hid (HSr.out.keep (keeps_alloc w105 (.cells #[.int .i64 xr, .bool fr, .slice Ar nr cr] 28)))
          have HVr := Lib.hid (Blk.new w105 28 #[.int .i64 xr, .bool fr, .slice Ar nr cr])
          obtain ⟨Vr, HXr⟩ : ∃ z, Hid (w105.heap.size = z) := ⟨_, rfl⟩
          rw [HXr.out] at HVr
          replace hB := hB.alloc hB.size (.cells #[.int .i64 xr, .bool fr, .slice Ar nr cr] 28)
          go_upto_region 15 with fail
          rw [HXr.out]
          generalize hWW : (w105.alloc (.cells #[.int .i64 xr, .bool fr, .slice Ar nr cr] 28)) = WW6 at *
          clear hWW
          go_wp2_with fail
          refine (fAll_any x _).mono ?_
          rintro e w107 ⟨xs, fs, As, ns, cs, rfl, hSs, hb7⟩
          rw [Her.out]
          rw [Hrr.out] at hSs
          replace HSp := Lib.hid (HSp.out.keep (keeps_of hb7))
          replace HVp := Lib.hid (HVp.out.below hb7)
          replace HSq := Lib.hid (HSq.out.keep (keeps_of hb7))
          replace HVq := Lib.hid (HVq.out.below hb7)
          replace HSr := Lib.hid (HSr.out.keep (keeps_of hb7))
          replace HVr := Lib.hid (HVr.out.below hb7)
          replace hB := Below.next hB hb7
          replace HQ := Lib.hid (HQ.out.below hb7)
          replace HV := Lib.hid (HV.out.keep (keeps_of hb7))
          have HSs := Lib.hid hSs
          clear hSs hb7
          replace HQ := Lib.hid (HQ.out.below ((Below.refl _ _).alloc (Nat.le_refl _) (.cells #[.int .i64 xs, .bool fs, .slice As ns cs] 28)))
          replace HV := Lib.hid (HV.out.keep (keeps_alloc w107 (.cells #[.int .i64 xs, .bool fs, .slice As ns cs] 28)))
          replace HSp := Lib.hid (HSp.out.keep (keeps_alloc w107 (.cells #[.int .i64 xs, .bool fs, .slice As ns cs] 28)))
          replace HVp := Lib.hid (HVp.out.alloc (.cells #[.int .i64 xs, .bool fs, .slice As ns cs] 28))
          replace HSq := Lib.hid (HSq.out.keep (keeps_alloc w107 (.cells #[.int .i64 xs, .bool fs, .slice As ns cs] 28)))
          replace HVq := Lib.hid (HVq.out.alloc (.cells #[.int .i64 xs, .bool fs, .slice As ns cs] 28))
          replace HSr := Lib.hid (HSr.out.keep (keeps_alloc w107 (.cells #[.int .i64 xs, .bool fs, .slice As ns cs] 28)))
          replace HVr := Lib.hid (HVr.out.alloc (.cells #[.int .i64 xs, .bool fs, .slice As ns cs] 28))
          replace HSs := Lib.hid (HSs.out.keep (keeps_alloc w107 (.cells #[.int .i64 xs, .bool fs, .slice As ns cs] 28)))
          have HVs := Lib.hid (Blk.new w107 28 #[.int .i64 xs, .bool fs, .slice As ns cs])
          obtain ⟨Vs, HXs⟩ : ∃ z, Hid (w107.heap.size = z) := ⟨_, rfl⟩
          rw [HXs.out] at HVs
          replace hB := hB.alloc hB.size (.cells #[.int .i64 xs, .bool fs, .slice As ns cs] 28)
          go_upto_region 16 with fail
          rw [HXs.out]
          generalize hWW : (w107.alloc (.cells #[.int .i64 xs, .bool fs, .slice As ns cs] 28)) = WW8 at *
          clear hWW
          go_wp2_with fail
          refine (Box_any A3 t3 c3 ps3 _ (setq_of HQ.out.own HQ.out.len HQ.out.set)).mono ?_
          rintro e w109 ⟨xt, ft, At, nt, ct, rfl, hSt, hb9⟩
          obtain ⟨et, Het⟩ : ∃ z, Hid (boxErr (ps3.map (·.2)) = z) := ⟨_, rfl⟩
          obtain ⟨rt, Hrt⟩ : ∃ z, Hid (boxRes (ps3.map (·.2)) = z) := ⟨_, rfl⟩
          rw [Het.out]
          rw [Hrt.out] at hSt
          replace HSp := Lib.hid (HSp.out.keep (keeps_of hb9))
          replace HVp := Lib.hid (HVp.out.below hb9)
          replace HSq := Lib.hid (HSq.out.keep (keeps_of hb9))
          replace HVq := Lib.hid (HVq.out.below hb9)
          replace HSr := Lib.hid (HSr.out.keep (keeps_of hb9))
          replace HVr := Lib.hid (HVr.out.below hb9)
          replace HSs := Lib.hid (HSs.out.keep (keeps_of hb9))
          replace HVs := Lib.hid (HVs.out.below hb9)
          replace hB := Below.next hB hb9
          replace HQ := Lib.hid (HQ.out.below hb9)
          replace HV := Lib.hid (HV.out.keep (keeps_of hb9))
          have HSt := Lib.hid hSt
          clear hSt hb9
          replace HQ := Lib.hid (HQ.out.below ((Below.refl _ _).alloc (Nat.le_refl _) (.cells #[.int .i64 xt, .bool ft, .slice At nt ct] 28)))
          replace HV := Lib.hid (HV.out.keep (keeps_alloc w109 (.cells #[.int .i64 xt, .bool ft, .slice At nt ct] 28)))
          replace HSp := Lib.hid (HSp.out.keep (keeps_alloc w109 (.cells #[.int .i64 xt, .bool ft, .slice At nt ct] 28)))
          replace HVp := Lib.hid (HVp.out.alloc (.cells #[.int .i64 xt, .bool ft, .slice At nt ct] 28))
          replace HSq := Lib.hid (HSq.out.keep (keeps_alloc w109 (.cells #[.int .i64 xt, .bool ft, .slice At nt ct] 28)))
          replace HVq := Lib.hid (HVq.out.alloc (.cells #[.int .i64 xt, .bool ft, .slice At nt ct] 28))
          replace HSr := Lib.hid (HSr.out.keep (keeps_alloc w109 (.cells #[.int .i64 xt, .bool ft, .slice At nt ct] 28)))
          replace HVr := Lib.hid (HVr.out.alloc (.cells #[.int .i64 xt, .bool ft, .slice At nt ct] 28))
          replace HSs := Lib.hid (HSs.out.keep (keeps_alloc w109 (.cells #[.int .i64 xt, .bool ft, .slice At nt ct] 28)))
          replace HVs := Lib.hid (HVs.out.alloc (.cells #[.int .i64 xt, .bool ft, .slice At nt ct] 28))
          replace HSt := Lib.hid (HSt.out.keep (keeps_alloc w109 (.cells #[.int .i64 xt, .bool ft, .slice At nt ct] 28)))
          have HVt := Lib.hid (Blk.new w109 28 #[.int .i64 xt, .bool ft, .slice At nt ct])
          obtain ⟨Vt, HXt⟩ : ∃ z, Hid (w109.heap.size = z) := ⟨_, rfl⟩
          rw [HXt.out] at HVt
          replace hB := hB.alloc hB.size (.cells #[.int .i64 xt, .bool ft, .slice At nt ct] 28)
          go_upto_region 17 with fail
          rw [HXt.out]
          generalize hWW : (w109.alloc (.cells #[.int .i64 xt, .bool ft, .slice At nt ct] 28)) = WW10 at *
          clear hWW
          go_wp2_with fail
          refine (fBox_any A3 t3 c3 ps3 _ (setq_of HQ.out.own HQ.out.len HQ.out.set)).mono ?_
          rintro e w111 ⟨xu, fu, Au, nu, cu, rfl, hSu, hb11⟩
          rw [Het.out]
          rw [Hrt.out] at hSu
          replace HSp := Lib.hid (HSp.out.keep (keeps_of hb11))
          replace HVp := Lib.hid (HVp.out.below hb11)
          replace HSq := Lib.hid (HSq.out.keep (keeps_of hb11))
          replace HVq := Lib.hid (HVq.out.below hb11)
          replace HSr := Lib.hid (HSr.out.keep (keeps_of hb11))
          replace HVr := Lib.hid (HVr.out.below hb11)
          replace HSs := Lib.hid (HSs.out.keep (keeps_of hb11))
          replace HVs := Lib.hid (HVs.out.below hb11)
          replace HSt := Lib.hid (HSt.out.keep (keeps_of hb11))
          replace HVt := Lib.hid (HVt.out.below hb11)
          replace hB := Below.next hB hb11
          replace HQ := Lib.hid (HQ.out.below hb11)
          replace HV := Lib.hid (HV.out.keep (keeps_of hb11))
          have HSu := Lib.hid hSu
          clear hSu hb11
          replace HQ := Lib.hid (HQ.out.below ((Below.refl _ _).alloc (Nat.le_refl _) (.cells #[.int .i64 xu, .bool fu, .slice Au nu cu] 28)))
          replace HV := Lib.hid (HV.out.keep (keeps_alloc w111 (.cells #[.int .i64 xu, .bool fu, .slice Au nu cu] 28)))
          replace HSp := Lib.hid (HSp.out.keep (keeps_alloc w111 (.cells #[.int .i64 xu, .bool fu, .slice Au nu cu] 28)))
          replace HVp := Lib.hid (HVp.out.alloc (.cells #[.int .i64 xu, .bool fu, .slice Au nu cu] 28))
          replace HSq := Lib.hid (HSq.out.keep (keeps_alloc w111 (.cells #[.int .i64 xu, .bool fu, .slice Au nu cu] 28)))
          replace HVq := Lib.hid (HVq.out.alloc (.cells #[.int .i64 xu, .bool fu, .slice Au nu cu] 28))
          replace HSr := Lib.hid (HSr.out.keep (keeps_alloc w111 (.cells #[.int .i64 xu, .bool fu, .slice Au nu cu] 28)))
          replace HVr := Lib.hid (HVr.out.alloc (.cells #[.int .i64 xu, .bool fu, .slice Au nu cu] 28))
          replace HSs := Lib.hid (HSs.out.keep (keeps_alloc w111 (.cells #[.int .i64 xu, .bool fu, .slice Au nu cu] 28)))
          replace HVs := Lib.hid (HVs.out.alloc (.cells #[.int .i64 xu, .bool fu, .slice Au nu cu] 28))
          replace HSt := Lib.hid (HSt.out.keep (keeps_alloc w111 (.cells #[.int .i64 xu, .bool fu, .slice Au nu cu] 28)))
          replace HVt := Lib.hid (HVt.out.alloc (.cells #[.int .i64 xu, .bool fu, .slice Au nu cu] 28))
          replace HSu := Lib.hid (HSu.out.keep (keeps_alloc w111 (.cells #[.int .i64 xu, .bool fu, .slice Au nu cu] 28)))
          have HVu := Lib.hid (Blk.new w111 28 #[.int .i64 xu, .bool fu, .slice Au nu cu])
          obtain ⟨Vu, HXu⟩ : ∃ z, Hid (w111.heap.size = z) := ⟨_, rfl⟩
          rw [HXu.out] at HVu
          replace hB := hB.alloc hB.size (.cells #[.int .i64 xu, .bool fu, .slice Au nu cu] 28)
          go_upto_region 18 with fail
          rw [HXu.out]
          generalize hWW : (w111.alloc (.cells #[.int .i64 xu, .bool fu, .slice Au nu cu] 28)) = WW12 at *
          clear hWW
          go_wp2_with fail
          refine (gOne_any l Br m cb _ HV.out).mono ?_
          rintro e w113 ⟨xv, fv, Av, nv, cv, rfl, hSv, hb13⟩
          obtain ⟨ev, Hev⟩ : ∃ z, Hid (oneErr l = z) := ⟨_, rfl⟩
          obtain ⟨rv, Hrv⟩ : ∃ z, Hid (oneRes l = z) := ⟨_, rfl⟩
          rw [Hev.out]
          rw [Hrv.out] at hSv
          replace HSp := Lib.hid (HSp.out.keep (keeps_of hb13))
          replace HVp := Lib.hid (HVp.out.below hb13)
          replace HSq := Lib.hid (HSq.out.keep (keeps_of hb13))
          replace HVq := Lib.hid (HVq.out.below hb13)
          replace HSr := Lib.hid (HSr.out.keep (keeps_of hb13))
          replace HVr := Lib.hid (HVr.out.below hb13)
          replace HSs := Lib.hid (HSs.out.keep (keeps_of hb13))
          replace HVs := Lib.hid (HVs.out.below hb13)
          replace HSt := Lib.hid (HSt.out.keep (keeps_of hb13))
          replace HVt := Lib.hid (HVt.out.below hb13)
          replace HSu := Lib.hid (HSu.out.keep (keeps_of hb13))
          replace HVu := Lib.hid (HVu.out.below hb13)
          replace hB := Below.next hB hb13
          replace HQ := Lib.hid (HQ.out.below hb13)
          replace HV := Lib.hid (HV.out.keep (keeps_of hb13))
          have HSv := Lib.hid hSv
          clear hSv hb13
          replace HQ := Lib.hid (HQ.out.below ((Below.refl _ _).alloc (Nat.le_refl _) (.cells #[.int .i64 xv, .bool fv, .slice Av nv cv] 28)))
          replace HV := Lib.hid (HV.out.keep (keeps_alloc w113 (.cells #[.int .i64 xv, .bool fv, .slice Av nv cv] 28)))
          replace HSp := Lib.hid (HSp.out.keep (keeps_alloc w113 (.cells #[.int .i64 xv, .bool fv, .slice Av nv cv] 28)))
          replace HVp := Lib.hid (HVp.out.alloc (.cells #[.int .i64 xv, .bool fv, .slice Av nv cv] 28))
          replace HSq := Lib.hid (HSq.out.keep (keeps_alloc w113 (.cells #[.int .i64 xv, .bool fv, .slice Av nv cv] 28)))
          replace HVq := Lib.hid (HVq.out.alloc (.cells #[.int .i64 xv, .bool fv, .slice Av nv cv] 28))
          replace HSr := Lib.hid (HSr.out.keep (keeps_alloc w113 (.cells #[.int .i64 xv, .bool fv, .slice Av nv cv] 28)))
          replace HVr := Lib.hid (HVr.out.alloc (.cells #[.int .i64 xv, .bool fv, .slice Av nv cv] 28))
          replace HSs := Lib.hid (HSs.out.keep (keeps_alloc w113 (.cells #[.int .i64 xv, .bool fv, .slice Av nv cv] 28)))
          replace HVs := Lib.hid (HVs.out.alloc (.cells #[.int .i64 xv, .bool fv, .slice Av nv cv] 28))
          replace HSt := Lib.hid (HSt.out.keep (keeps_alloc w113 (.cells #[.int .i64 xv, .bool fv, .slice Av nv cv] 28)))
          replace HVt := Lib.hid (HVt.out.alloc (.cells #[.int .i64 xv, .bool fv, .slice Av nv cv] 28))
          replace HSu := Lib.hid (HSu.out.keep (keeps_alloc w113 (.cells #[.int .i64 xv, .bool fv, .slice Av nv cv] 28)))
          replace HVu := Lib.hid (HVu.out.alloc (.cells #[.int .i64 xv, .bool fv, .slice Av nv cv] 28))
          replace HSv := Lib.hid (HSv.out.keep (keeps_alloc w113 (.cells #[.int .i64 xv, .bool fv, .slice Av nv cv] 28)))
          have HVv := Lib.hid (Blk.new w113 28 #[.int .i64 xv, .bool fv, .slice Av nv cv])
          obtain ⟨Vv, HXv⟩ : ∃ z, Hid (w113.heap.size = z) := ⟨_, rfl⟩
          rw [HXv.out] at HVv
          replace hB := hB.alloc hB.size (.cells #[.int .i64 xv, .bool fv, .slice Av nv cv] 28)
          go_upto_region 19 with fail
          rw [HXv.out]
          generalize hWW : (w113.alloc (.cells #[.int .i64 xv, .bool fv, .slice Av nv cv] 28)) = WW14 at *
          clear hWW
          go_wp2_with fail
          refine (fOne_any l Br m cb _ HV.out).mono ?_
          rintro e w115 ⟨xz, fz, Az, nz, cz, rfl, hSz, hb15⟩
          rw [Hev.out]
          rw [Hrv.out] at hSz
          replace HSp := Lib.hid (HSp.out.keep (keeps_of hb15))
          replace HVp := Lib.hid (HVp.out.below hb15)
          replace HSq := Lib.hid (HSq.out.keep (keeps_of hb15))
          replace HVq := Lib.hid (HVq.out.below hb15)
          replace HSr := Lib.hid (HSr.out.keep (keeps_of hb15))
          replace HVr := Lib.hid (HVr.out.below hb15)
          replace HSs := Lib.hid (HSs.out.keep (keeps_of hb15))
          replace HVs := Lib.hid (HVs.out.below hb15)
          replace HSt := Lib.hid (HSt.out.keep (keeps_of hb15))
          replace HVt := Lib.hid (HVt.out.below hb15)
          replace HSu := Lib.hid (HSu.out.keep (keeps_of hb15))
          replace HVu := Lib.hid (HVu.out.below hb15)
          replace HSv := Lib.hid (HSv.out.keep (keeps_of hb15))
          replace HVv := Lib.hid (HVv.out.below hb15)
          replace hB := Below.next hB hb15
          replace HQ := Lib.hid (HQ.out.below hb15)
          replace HV := Lib.hid (HV.out.keep (keeps_of hb15))
          have HSz := Lib.hid hSz
          clear hSz hb15
          replace HQ := Lib.hid (HQ.out.below ((Below.refl _ _).alloc (Nat.le_refl _) (.cells #[.int .i64 xz, .bool fz, .slice Az nz cz] 28)))
          replace HV := Lib.hid (HV.out.keep (keeps_alloc w115 (.cells #[.int .i64 xz, .bool fz, .slice Az nz cz] 28)))
          replace HSp := Lib.hid (HSp.out.keep (keeps_alloc w115 (.cells #[.int .i64 xz, .bool fz, .slice Az nz cz] 28)))
          replace HVp := Lib.hid (HVp.out.alloc (.cells #[.int .i64 xz, .bool fz, .slice Az nz cz] 28))
          replace HSq := Lib.hid (HSq.out.keep (keeps_alloc w115 (.cells #[.int .i64 xz, .bool fz, .slice Az nz cz] 28)))
          replace HVq := Lib.hid (HVq.out.alloc (.cells #[.int .i64 xz, .bool fz, .slice Az nz cz] 28))
          replace HSr := Lib.hid (HSr.out.keep (keeps_alloc w115 (.cells #[.int .i64 xz, .bool fz, .slice Az nz cz] 28)))
          replace HVr := Lib.hid (HVr.out.alloc (.cells #[.int .i64 xz, .bool fz, .slice Az nz cz] 28))
          replace HSs := Lib.hid (HSs.out.keep (keeps_alloc w115 (.cells #[.int .i64 xz, .bool fz, .slice Az nz cz] 28)))
          replace HVs := Lib.hid (HVs.out.alloc (.cells #[.int .i64 xz, .bool fz, .slice Az nz cz] 28))
          replace HSt := Lib.hid (HSt.out.keep (keeps_alloc w115 (.cells #[.int .i64 xz, .bool fz, .slice Az nz cz] 28)))
          replace HVt := Lib.hid (HVt.out.alloc (.cells #[.int .i64 xz, .bool fz, .slice Az nz cz] 28))
          replace HSu := Lib.hid (HSu.out.keep (keeps_alloc w115 (.cells #[.int .i64 xz, .bool fz, .slice Az nz cz] 28)))
          replace HVu := Lib.hid (HVu.out.alloc (.cells #[.int .i64 xz, .bool fz, .slice Az nz cz] 28))
          replace HSv := Lib.hid (HSv.out.keep (keeps_alloc w115 (.cells #[.int .i64 xz, .bool fz, .slice Az nz cz] 28)))
          replace HVv := Lib.hid (HVv.out.alloc (.cells #[.int .i64 xz, .bool fz, .slice Az nz cz] 28))
          replace HSz := Lib.hid (HSz.out.keep (keeps_alloc w115 (.cells #[.int .i64 xz, .bool fz, .slice Az nz cz] 28)))
          have HVz := Lib.hid (Blk.new w115 28 #[.int .i64 xz, .bool fz, .slice Az nz cz])
          obtain ⟨Vz, HXz⟩ : ∃ z, Hid (w115.heap.size = z) := ⟨_, rfl⟩
          rw [HXz.out] at HVz
          replace hB := hB.alloc hB.size (.cells #[.int .i64 xz, .bool fz, .slice Az nz cz] 28)
          go_upto_region 20 with fail
          rw [HXz.out]
          generalize hWW : (w115.alloc (.cells #[.int .i64 xz, .bool fz, .slice Az nz cz] 28)) = WW16 at *
          clear hWW
          have hc := HQ.out.cs
          clear HQ HV
          go_wp2_with fail
          refine (int_any g 4 _ hc (by omega) (by omega)).mono ?_
          rintro e w117 ⟨⟨y, hy1, hy2, rfl⟩, hc17, hb17⟩
          replace HSp := Lib.hid (HSp.out.case hc hb17)
          replace HVp := Lib.hid (HVp.out.but hb17 (hc.ne HVp.out (by decide)))
          replace HSq := Lib.hid (HSq.out.case hc hb17)
          replace HVq := Lib.hid (HVq.out.but hb17 (hc.ne HVq.out (by decide)))
          replace HSr := Lib.hid (HSr.out.case hc hb17)
          replace HVr := Lib.hid (HVr.out.but hb17 (hc.ne HVr.out (by decide)))
          replace HSs := Lib.hid (HSs.out.case hc hb17)
          replace HVs := Lib.hid (HVs.out.but hb17 (hc.ne HVs.out (by decide)))
          replace HSt := Lib.hid (HSt.out.case hc hb17)
          replace HVt := Lib.hid (HVt.out.but hb17 (hc.ne HVt.out (by decide)))
          replace HSu := Lib.hid (HSu.out.case hc hb17)
          replace HVu := Lib.hid (HVu.out.but hb17 (hc.ne HVu.out (by decide)))
          replace HSv := Lib.hid (HSv.out.case hc hb17)
          replace HVv := Lib.hid (HVv.out.but hb17 (hc.ne HVv.out (by decide)))
          replace HSz := Lib.hid (HSz.out.case hc hb17)
          replace HVz := Lib.hid (HVz.out.but hb17 (hc.ne HVz.out (by decide)))
          replace hB := hb17.below hB hB.size (fun k hk => by subst hk; exact hg)
          replace hc := hc17
          clear hb17
          obtain ⟨wd, rfl⟩ := Int.eq_ofNat_of_zero_le hy1
          go_wp2_with fail
          refine (gcells2_any g wd (by omega) _ hc).mono ?_
          rintro e w118 ⟨B, m2, cm, row, rfl, hml, hmw, hval, hown, hrow, hc18, hb18⟩
          replace HSp := Lib.hid (HSp.out.case hc hb18)
          replace HVp := Lib.hid (HVp.out.but hb18 (hc.ne HVp.out (by decide)))
          replace HSq := Lib.hid (HSq.out.case hc hb18)
          replace HVq := Lib.hid (HVq.out.but hb18 (hc.ne HVq.out (by decide)))
          replace HSr := Lib.hid (HSr.out.case hc hb18)
          replace HVr := Lib.hid (HVr.out.but hb18 (hc.ne HVr.out (by decide)))
          replace HSs := Lib.hid (HSs.out.case hc hb18)
          replace HVs := Lib.hid (HVs.out.but hb18 (hc.ne HVs.out (by decide)))
          replace HSt := Lib.hid (HSt.out.case hc hb18)
          replace HVt := Lib.hid (HVt.out.but hb18 (hc.ne HVt.out (by decide)))
          replace HSu := Lib.hid (HSu.out.case hc hb18)
          replace HVu := Lib.hid (HVu.out.but hb18 (hc.ne HVu.out (by decide)))
          replace HSv := Lib.hid (HSv.out.case hc hb18)
          replace HVv := Lib.hid (HVv.out.but hb18 (hc.ne HVv.out (by decide)))
          replace HSz := Lib.hid (HSz.out.case hc hb18)
          replace HVz := Lib.hid (HVz.out.but hb18 (hc.ne HVz.out (by decide)))
          replace hB := hb18.below hB hB.size (fun k hk => by subst hk; exact hg)
          have HRow := Lib.hid hrow
          have H1 := Lib.hid (one_has (l := row) (by omega) hval)
          clear hb18 hc hc18 hval hown hrow hml hmw hy1 hy2
          go_wp2_with fail
          refine (gOne_any row B m2 cm _ HRow.out).mono ?_
          rintro e w119 ⟨xo, fo, Ao, no, co, rfl, hSo, hb19⟩
          rw [H1.out.1]
          replace HSp := Lib.hid (HSp.out.keep (keeps_of hb19))
          replace HVp := Lib.hid (HVp.out.below hb19)
          replace HSq := Lib.hid (HSq.out.keep (keeps_of hb19))
          replace HVq := Lib.hid (HVq.out.below hb19)
          replace HSr := Lib.hid (HSr.out.keep (keeps_of hb19))
          replace HVr := Lib.hid (HVr.out.below hb19)
          replace HSs := Lib.hid (HSs.out.keep (keeps_of hb19))
          replace HVs := Lib.hid (HVs.out.below hb19)
          replace HSt := Lib.hid (HSt.out.keep (keeps_of hb19))
          replace HVt := Lib.hid (HVt.out.below hb19)
          replace HSu := Lib.hid (HSu.out.keep (keeps_of hb19))
          replace HVu := Lib.hid (HVu.out.below hb19)
          replace HSv := Lib.hid (HSv.out.keep (keeps_of hb19))
          replace HVv := Lib.hid (HVv.out.below hb19)
          replace HSz := Lib.hid (HSz.out.keep (keeps_of hb19))
          replace HVz := Lib.hid (HVz.out.below hb19)
          replace hB := Below.next hB hb19
          replace HRow := Lib.hid (HRow.out.keep (keeps_of hb19))
          have HSo := Lib.hid hSo
          clear hSo hb19
          replace HRow := Lib.hid (HRow.out.keep (keeps_alloc w119 (.cells #[.int .i64 xo, .bool fo, .slice Ao no co] 28)))
          replace HSp := Lib.hid (HSp.out.keep (keeps_alloc w119 (.cells #[.int .i64 xo, .bool fo, .slice Ao no co] 28)))
          replace HVp := Lib.hid (HVp.out.alloc (.cells #[.int .i64 xo, .bool fo, .slice Ao no co] 28))
          replace HSq := Lib.hid (HSq.out.keep (keeps_alloc w119 (.cells #[.int .i64 xo, .bool fo, .slice Ao no co] 28)))
          replace HVq := Lib.hid (HVq.out.alloc (.cells #[.int .i64 xo, .bool fo, .slice Ao no co] 28))
          replace HSr := Lib.hid (HSr.out.keep (keeps_alloc w119 (.cells #[.int .i64 xo, .bool fo, .slice Ao no co] 28)))
          replace HVr := Lib.hid (HVr.out.alloc (.cells #[.int .i64 xo, .bool fo, .slice Ao no co] 28))
          replace HSs := Lib.hid (HSs.out.keep (keeps_alloc w119 (.cells #[.int .i64 xo, .bool fo, .slice Ao no co] 28)))
          replace HVs := Lib.hid (HVs.out.alloc (.cells #[.int .i64 xo, .bool fo, .slice Ao no co] 28))
          replace HSt := Lib.hid (HSt.out.keep (keeps_alloc w119 (.cells #[.int .i64 xo, .bool fo, .slice Ao no co] 28)))
          replace HVt := Lib.hid (HVt.out.alloc (.cells #[.int .i64 xo, .bool fo, .slice Ao no co] 28))
          replace HSu := Lib.hid (HSu.out.keep (keeps_alloc w119 (.cells #[.int .i64 xo, .bool fo, .slice Ao no co] 28)))
          replace HVu := Lib.hid (HVu.out.alloc (.cells #[.int .i64 xo, .bool fo, .slice Ao no co] 28))
          replace HSv := Lib.hid (HSv.out.keep (keeps_alloc w119 (.cells #[.int .i64 xo, .bool fo, .slice Ao no co] 28)))
          replace HVv := Lib.hid (HVv.out.alloc (.cells #[.int .i64 xo, .bool fo, .slice Ao no co] 28))
          replace HSz := Lib.hid (HSz.out.keep (keeps_alloc w119 (.cells #[.int .i64 xo, .bool fo, .slice Ao no co] 28)))
          replace HVz := Lib.hid (HVz.out.alloc (.cells #[.int .i64 xo, .bool fo, .slice Ao no co] 28))
          replace HSo := Lib.hid (HSo.out.keep (keeps_alloc w119 (.cells #[.int .i64 xo, .bool fo, .slice Ao no co] 28)))
          have HVo := Lib.hid (Blk.new w119 28 #[.int .i64 xo, .bool fo, .slice Ao no co])
          obtain ⟨Vo, HXo⟩ : ∃ z, Hid (w119.heap.size = z) := ⟨_, rfl⟩
          rw [HXo.out] at HVo
          replace hB := hB.alloc hB.size (.cells #[.int .i64 xo, .bool fo, .slice Ao no co] 28)
          go_upto_region 22 with fail
          rw [HXo.out]
          generalize hWW : (w119.alloc (.cells #[.int .i64 xo, .bool fo, .slice Ao no co] 28)) = WW20 at *
          clear hWW
          go_wp2_with fail
          refine (begun4_any _).mono ?_
          rintro e w21 ⟨rfl, hb21⟩
          replace HSp := Lib.hid (HSp.out.keep (keeps_of hb21))
          replace HVp := Lib.hid (HVp.out.below hb21)
          replace HSq := Lib.hid (HSq.out.keep (keeps_of hb21))
          replace HVq := Lib.hid (HVq.out.below hb21)
          replace HSr := Lib.hid (HSr.out.keep (keeps_of hb21))
          replace HVr := Lib.hid (HVr.out.below hb21)
          replace HSs := Lib.hid (HSs.out.keep (keeps_of hb21))
          replace HVs := Lib.hid (HVs.out.below hb21)
          replace HSt := Lib.hid (HSt.out.keep (keeps_of hb21))
          replace HVt := Lib.hid (HVt.out.below hb21)
          replace HSu := Lib.hid (HSu.out.keep (keeps_of hb21))
          replace HVu := Lib.hid (HVu.out.below hb21)
          replace HSv := Lib.hid (HSv.out.keep (keeps_of hb21))
          replace HVv := Lib.hid (HVv.out.below hb21)
          replace HSz := Lib.hid (HSz.out.keep (keeps_of hb21))
          replace HVz := Lib.hid (HVz.out.below hb21)
          replace HSo := Lib.hid (HSo.out.keep (keeps_of hb21))
          replace HVo := Lib.hid (HVo.out.below hb21)
          replace hB := Below.next hB hb21
          replace HRow := Lib.hid (HRow.out.keep (keeps_of hb21))
          clear hb21
          have zp := HVp.out.cell
          have zq := HVq.out.cell
          have hsm : Sm rp := by rw [← Hrp.out]; exact sm_empty x
          go_wp2_with fail
          refine (fsame_any rp xp fp Ap np cp xq fq Aq nq cq rp _ HSp.out HSq.out hsm hsm).mono ?_
          rintro e w122 ⟨rfl, hb22⟩
          rw [decide_eq_true rfl]
          clear zp zq hsm
          replace HSp := Lib.hid (HSp.out.keep (keeps_of hb22))
          replace HVp := Lib.hid (HVp.out.below hb22)
          replace HSq := Lib.hid (HSq.out.keep (keeps_of hb22))
          replace HVq := Lib.hid (HVq.out.below hb22)
          replace HSr := Lib.hid (HSr.out.keep (keeps_of hb22))
          replace HVr := Lib.hid (HVr.out.below hb22)
          replace HSs := Lib.hid (HSs.out.keep (keeps_of hb22))
          replace HVs := Lib.hid (HVs.out.below hb22)
          replace HSt := Lib.hid (HSt.out.keep (keeps_of hb22))
          replace HVt := Lib.hid (HVt.out.below hb22)
          replace HSu := Lib.hid (HSu.out.keep (keeps_of hb22))
          replace HVu := Lib.hid (HVu.out.below hb22)
          replace HSv := Lib.hid (HSv.out.keep (keeps_of hb22))
          replace HVv := Lib.hid (HVv.out.below hb22)
          replace HSz := Lib.hid (HSz.out.keep (keeps_of hb22))
          replace HVz := Lib.hid (HVz.out.below hb22)
          replace HSo := Lib.hid (HSo.out.keep (keeps_of hb22))
          replace HVo := Lib.hid (HVo.out.below hb22)
          replace hB := Below.next hB hb22
          replace HRow := Lib.hid (HRow.out.keep (keeps_of hb22))
          clear hb22
          clear HSp HVp
          clear HSq HVq
          have zr := HVr.out.cell
          have zs := HVs.out.cell
          have hsm : Sm rr := by rw [← Hrr.out]; exact sm_all x
          go_wp2_with fail
          refine (fsame_any rr xr fr Ar nr cr xs fs As ns cs rr _ HSr.out HSs.out hsm hsm).mono ?_
          rintro e w123 ⟨rfl, hb23⟩
          rw [decide_eq_true rfl]
          clear zr zs hsm
          replace HSr := Lib.hid (HSr.out.keep (keeps_of hb23))
          replace HVr := Lib.hid (HVr.out.below hb23)
          replace HSs := Lib.hid (HSs.out.keep (keeps_of hb23))
          replace HVs := Lib.hid (HVs.out.below hb23)
          replace HSt := Lib.hid (HSt.out.keep (keeps_of hb23))
          replace HVt := Lib.hid (HVt.out.below hb23)
          replace HSu := Lib.hid (HSu.out.keep (keeps_of hb23))
          replace HVu := Lib.hid (HVu.out.below hb23)
          replace HSv := Lib.hid (HSv.out.keep (keeps_of hb23))
          replace HVv := Lib.hid (HVv.out.below hb23)
          replace HSz := Lib.hid (HSz.out.keep (keeps_of hb23))
          replace HVz := Lib.hid (HVz.out.below hb23)
          replace HSo := Lib.hid (HSo.out.keep (keeps_of hb23))
          replace HVo := Lib.hid (HVo.out.below hb23)
          replace hB := Below.next hB hb23
          replace HRow := Lib.hid (HRow.out.keep (keeps_of hb23))
          clear hb23
          clear HSr HVr
          clear HSs HVs
          have zt := HVt.out.cell
          have zu := HVu.out.cell
          have hsm : Sm rt := by rw [← Hrt.out]; exact sm_box _
          go_wp2_with fail
          refine (fsame_any rt xt ft At nt ct xu fu Au nu cu rt _ HSt.out HSu.out hsm hsm).mono ?_
          rintro e w124 ⟨rfl, hb24⟩
          rw [decide_eq_true rfl]
          clear zt zu hsm
          replace HSt := Lib.hid (HSt.out.keep (keeps_of hb24))
          replace HVt := Lib.hid (HVt.out.below hb24)
          replace HSu := Lib.hid (HSu.out.keep (keeps_of hb24))
          replace HVu := Lib.hid (HVu.out.below hb24)
          replace HSv := Lib.hid (HSv.out.keep (keeps_of hb24))
          replace HVv := Lib.hid (HVv.out.below hb24)
          replace HSz := Lib.hid (HSz.out.keep (keeps_of hb24))
          replace HVz := Lib.hid (HVz.out.below hb24)
          replace HSo := Lib.hid (HSo.out.keep (keeps_of hb24))
          replace HVo := Lib.hid (HVo.out.below hb24)
          replace hB := Below.next hB hb24
          replace HRow := Lib.hid (HRow.out.keep (keeps_of hb24))
          clear hb24
          clear HSt HVt
          clear HSu HVu
          have zv := HVv.out.cell
          have zz := HVz.out.cell
          have hsm : Sm rv := by rw [← Hrv.out]; exact sm_one l
          go_wp2_with fail
          refine (fsame_any rv xv fv Av nv cv xz fz Az nz cz rv _ HSv.out HSz.out hsm hsm).mono ?_
          rintro e w125 ⟨rfl, hb25⟩
          rw [decide_eq_true rfl]
          clear zv zz hsm
          replace HSv := Lib.hid (HSv.out.keep (keeps_of hb25))
          replace HVv := Lib.hid (HVv.out.below hb25)
          replace HSz := Lib.hid (HSz.out.keep (keeps_of hb25))
          replace HVz := Lib.hid (HVz.out.below hb25)
          replace HSo := Lib.hid (HSo.out.keep (keeps_of hb25))
          replace HVo := Lib.hid (HVo.out.below hb25)
          replace hB := Below.next hB hb25
          replace HRow := Lib.hid (HRow.out.keep (keeps_of hb25))
          clear hb25
          clear HSv HVv
          clear HSz HVz
          have zo := HVo.out.cell
          go_wp2_with fail
          refine (ghas_any (oneRes row) xo fo Ao no co row B m2 cm _ HSo.out HRow.out).mono ?_
          rintro e w126 ⟨rfl, hb26⟩
          rw [H1.out.2]
          clear zo
          replace HSo := Lib.hid (HSo.out.keep (keeps_of hb26))
          replace HVo := Lib.hid (HVo.out.below hb26)
          replace hB := Below.next hB hb26
          replace HRow := Lib.hid (HRow.out.keep (keeps_of hb26))
          clear hb26
          go_wp2
          go_ret
          exact ⟨rfl, hB⟩
end Go.Proofs.YtnocbigcdjlliaaGreat
