/-
  The walk of the law RegionIdentity.
-/
import Derived.Test.YtmnmckblmoalkaaGreatB48
import Derived.Test.YtmnmckblmoalkaaGreatB51
import Derived.Test.YtmnmckblmoalkaaGreatB47
set_option linter.unusedVariables false
namespace Go.Proofs.YtmnmckblmoalkaaGreat
open Go.RowKit
set_option maxRecDepth 100000
open Rg

/-- the columns in the opposite order, the first k of them -/
def turnP (n k : Nat) : List Int := (List.range k).map fun (i : Nat) => (n : Int) - 1 - (i : Int)
theorem same_succ (k : Nat) : sameC (k + 1) = sameC k ++ [(k : Int)] := by simp [sameC, List.range_succ]
theorem turn_succ (n k : Nat) : turnP n (k + 1) = turnP n k ++ [(n : Int) - 1 - (k : Int)] := by simp [turnP, List.range_succ]
set_option maxHeartbeats 8000000 in
theorem ident4_walk (A : Option Addr) (n c : Nat) (zs : List Int) (w : World) (hs : Sl 1 u8c w A n zs) (hz : ∀ z ∈ zs, 0 ≤ z ∧ z ≤ 255) (hnil : A = none → n = 0 ∧ c = 0) (hsp : ∀ ad, A = some ad → ad.spot = none) (hnc : n ≤ c) (hcm : c ≤ 9223372036854775807) :
    Calls Tryz.prog 4 #[.slice A n c] w fun e w' => e = .returned (.bool true) ∧ Below w.heap.size w w' := by
  have HS := Lib.hid hs
  have HZ := Lib.hid hz
  have HN := Lib.hid hnil
  have HP := Lib.hid hsp
  clear hs hz hnil hsp
  go_enter Tryz.func4, Tryz.ntmps4
  go_wp2_with fail
  refine (new_any A n c zs 160 _ HS.out HZ.out HN.out HP.out hnc hcm (by omega)).mono ?_
  rintro e w0 ⟨g, hg, rfl, hc, hB⟩
  clear HS HZ HN HP
  go_wp2_with fail
  refine (int_any g 3 _ hc (by omega) (by omega)).mono ?_
  rintro e w1 ⟨⟨y, hy1, hy2, rfl⟩, hc1, hb1⟩
  replace hB := hb1.below hB hB.size (fun k hk => by subst hk; exact hg)
  replace hc := hc1
  clear hb1
  obtain ⟨wd, hwd1, hwd2, hwd⟩ : ∃ wd : Nat, 1 ≤ wd ∧ wd ≤ 3 ∧ 1 + y = (wd : Int) := ⟨(1 + y).toNat, by omega, by omega, by omega⟩
  have hw1 : wd ≤ 3 := by omega
  go_wp2_with fail
  refine (cregion_any g wd (by omega) _ hc).mono ?_
  rintro e w2 ⟨xa, fa, Aa, na, ca, ra, rfl, hSa, hOa, hWa, hFa, hc2, hb2⟩
  have hxa := hSa.hw
  obtain rfl : xa = (wd : Int) := by omega
  clear hxa
  replace hB := hb2.below hB hB.size (fun k hk => by subst hk; exact hg)
  replace hc := hc2
  have HSa := Lib.hid hSa
  have HKa := Lib.hid (And.intro hOa (And.intro hWa hFa))
  clear hb2 hSa hOa hWa hFa
  replace HSa := Lib.hid (HSa.out.keep (keeps_alloc w2 (.cells #[.int .i64 (wd : Int), .bool fa, .slice Aa na ca] 27)))
  have HVa := Lib.hid (Blk.new w2 27 #[.int .i64 (wd : Int), .bool fa, .slice Aa na ca])
  obtain ⟨Va, HXa⟩ : ∃ z, Hid (w2.heap.size = z) := ⟨_, rfl⟩
  rw [HXa.out] at HVa
  replace hB := hB.alloc hB.size (.cells #[.int .i64 (wd : Int), .bool fa, .slice Aa na ca] 27)
  replace hc := hc.below ((Below.refl _ _).alloc (Nat.le_refl _) (.cells #[.int .i64 (wd : Int), .bool fa, .slice Aa na ca] 27))
  go_upto_region 3 with fail
  rw [HXa.out]
  generalize hWW : (w2.alloc (.cells #[.int .i64 (wd : Int), .bool fa, .slice Aa na ca] 27)) = WW3 at *
  clear hWW
  clear hwd hy1 hy2 hwd2
  clear hc
  obtain ⟨i0, hi, hz0, hz1, hz2⟩ := info_parts info_i64
  have hVlt : Va < WW3.heap.size := HVa.out.lt
  obtain ⟨Wh, HWh⟩ : ∃ z, Hid (WW3 = z) := ⟨_, rfl⟩
  rw [HWh.out] at hVlt HVa HSa hB
  rw [HWh.out]
  clear HWh
  have za := HVa.out.cell
  go_wp2_with fail
  clear za
  go_loopw [5, 6, 7] (fun s t i wr => ∃ (k : Nat) (A1 : Option Addr) (c1 : Nat) (A2 : Option Addr) (c2 : Nat), k ≤ wd ∧ i = .int .i64 (k : Int) ∧ s = .slice A1 k c1 ∧ t = .slice A2 k c2 ∧ Hid (Pr Wh.heap.size Wh wr (.slice A1 k c1) k ((sameC k).flatMap i64c) (.slice A2 k c2) k ((turnP wd k).flatMap i64c) none none)) (fun _ _ i _ => wd - (intOf i).toNat)
  case atStart => exact ⟨0, none, 0, none, 0, by omega, rfl, rfl, rfl, Lib.hid ⟨⟨by simp [sameC], .inl ⟨rfl, rfl⟩⟩, ⟨by simp [turnP], .inl ⟨rfl, rfl⟩⟩, fun b e => (by simp [Value.ownBlock] at e), fun q e => (by cases e), fun q e => (by cases e), Below.refl _ _⟩⟩
  case round =>
    obtain ⟨k, A1, c1, A2, c2, hk, rfl, rfl, rfl, HP⟩ := hrel
    have hVb := keep_blk HVa.out HP.out.be hVlt
    have za := hVb.cell
    by_cases hlt : k < wd
    · go_upto_region 7 with fail
      clear za
      refine wp_region_planB (lessB Wh.heap.size) (lessB_trans _) (.two [0, 1, 4, 5, 6, 7, 8, 9] 2 (.two [] 3 (.one [] 10 (.one [] 11 (.last [12, 13]))) 10 (.one [] 3 (.one [] 11 (.last [12, 13])))) 10 (.one [] 2 (.one [] 3 (.one [] 11 (.last [12, 13]))))) (by kernel_rfl) (by kernel_rfl) (fun _ _ d _ _ h => by cases d <;> exact h) ?_
      have HP0 := Lib.hid HP.out.drew
      have HVd : Hid (Blk wr.drew Va 27 #[.int .i64 (wd : Int), .bool fa, .slice Aa na ca]) := Lib.hid hVb.drew
      clear hVb HP
      generalize hWd : World.drew _ = wn0 at *
      clear hWd
      have qa : ∀ (y : LaterR (lessB Wh.heap.size) wn0) z, (afterR (lessB Wh.heap.size) wn0 y).cell? ⟨Va, z, none⟩ = (#[.int .i64 (wd : Int), .bool fa, .slice Aa na ca] : Array Value)[z]? := fun y z => y.cell (HVd.out.cell z) (fun W h => (keep_blk HVd.out h hVlt).cell z)
      unfold wpPlanB
      simp only [pickOps, opAt, List.map_cons, List.map_nil, List.getElem?_toArray, List.getElem?_cons_zero, List.getElem?_cons_succ, Option.getD_some]
      repeat (go_big_quiet_step (fail))
      refine wpQuiet_nil ?_
      clear qa
      refine ⟨?_, ?_⟩
      · go_wp2_with fail
        refine ⟨(Below.refl _ _).alloc (by have := HP0.out.be.size; omega) _, ?_⟩
        have HP1 := Lib.hid ((HP0.out.build (Nat.le_refl _) (.int .i64 (k : Int))))
        obtain ⟨q1, Hq1⟩ : ∃ z, Hid (wn0.heap.size = z) := ⟨_, rfl⟩
        rw [Hq1.out] at HP1
        rw [Hq1.out]
        generalize hWW : World.alloc wn0 (.cells #[.int .i64 (k : Int)] 3) = wn1 at *
        clear hWW Hq1 HP0
        unfold wpPlanB
        simp only [pickOps, opAt, List.map_nil, List.getElem?_toArray, List.getElem?_cons_zero, List.getElem?_cons_succ, Option.getD_some]
        repeat (go_big_quiet_step (fail))
        refine wpQuiet_nil ?_
        refine ⟨?_, ?_⟩
        · have hLE : Wh.heap.size ≤ wn1.heap.size := HP1.out.be.size
          go_wp2_with (at_builtin; refine wpList_append_lies _ (by rfl) (.tmp 28) (.tmp 30) _ (by rfl) Wh.heap.size 3 i0 _ 1 8 Tryz.underlying30 hi hz0 hz1 hz2 (by rfl) (by omega) (.slice A1 k c1) k _ (by rfl) HP1.out.o1 ⟨q1, 0, none⟩ 1 1 (i64c (k : Int)) (by rfl) (by rfl) (World.news_of_block (HP1.out.b1 _ rfl).1) (one_i64 (k : Int)) (by omega) (by simp only [maxLen]; omega) (by omega) hLE wn1.heap.size (by rfl) ?_; intro g2 cap2 wn2 hown hgr hat hlt8)
          refine ⟨(Below.refl _ _).grown hgr hLE (own_base HP1.out.o1), ?_⟩
          have HP2 := Lib.hid ((HP1.out.app (Nat.le_refl _) hown hgr hat))
          clear hown hgr hat hlt8 hLE HP1
          unfold wpPlanB
          simp only [pickOps, opAt, List.map_nil, List.getElem?_toArray, List.getElem?_cons_zero, List.getElem?_cons_succ, Option.getD_some]
          repeat (go_big_quiet_step (fail))
          refine wpQuiet_nil ?_
          go_wp2_with fail
          refine ⟨(Below.refl _ _).alloc (by have := HP2.out.be.size; omega) _, ?_⟩
          have HP3 := Lib.hid ((HP2.out.swap.build (Nat.le_refl _) (.int .i64 ((wd : Int) - 1 - (k : Int)))).swap)
          obtain ⟨q3, Hq3⟩ : ∃ z, Hid (wn2.heap.size = z) := ⟨_, rfl⟩
          rw [Hq3.out] at HP3
          rw [Hq3.out]
          generalize hWW : World.alloc wn2 (.cells #[.int .i64 ((wd : Int) - 1 - (k : Int))] 3) = wn3 at *
          clear hWW Hq3 HP2
          unfold wpPlanB
          simp only [pickOps, opAt, List.map_nil, List.getElem?_toArray, List.getElem?_cons_zero, List.getElem?_cons_succ, Option.getD_some]
          repeat (go_big_quiet_step (fail))
          refine wpQuiet_nil ?_
          have hLE : Wh.heap.size ≤ wn3.heap.size := HP3.out.be.size
          go_wp2_with (at_builtin; refine wpList_append_lies _ (by rfl) (.tmp 32) (.tmp 38) _ (by rfl) Wh.heap.size 3 i0 _ 1 8 Tryz.underlying30 hi hz0 hz1 hz2 (by rfl) (by omega) (.slice A2 k c2) k _ (by rfl) HP3.out.swap.o1 ⟨q3, 0, none⟩ 1 1 (i64c ((wd : Int) - 1 - (k : Int))) (by rfl) (by rfl) (World.news_of_block (HP3.out.swap.b1 _ rfl).1) (one_i64 ((wd : Int) - 1 - (k : Int))) (by omega) (by simp only [maxLen]; omega) (by omega) hLE wn3.heap.size (by rfl) ?_; intro g4 cap4 wn4 hown hgr hat hlt8)
          refine ⟨(Below.refl _ _).grown hgr hLE (own_base HP3.out.swap.o1), ?_⟩
          have HP4 := Lib.hid ((HP3.out.swap.app (Nat.le_refl _) hown hgr hat).swap)
          clear hown hgr hat hlt8 hLE HP3
          unfold wpPlanB
          simp only [pickOps, opAt, List.map_cons, List.map_nil, List.getElem?_toArray, List.getElem?_cons_zero, List.getElem?_cons_succ, Option.getD_some]
          go_simp
          repeat (go_big_quiet_step (fail))
          refine wpQuiet_nil ?_
          go_wp2
          go_roundw
          case rel =>
            refine ⟨k + 1, _, _, _, _, by omega, by go_num, rfl, rfl, Lib.hid ?_⟩
            have h := HP4.out
            rw [same_succ, turn_succ, List.flatMap_append, List.flatMap_append]
            exact h
          case measure => simp [intOf]; omega
        · go_wp2_with fail
          refine ⟨(Below.refl _ _).alloc (by have := HP1.out.be.size; omega) _, ?_⟩
          have HP5 := Lib.hid ((HP1.out.swap.build (Nat.le_refl _) (.int .i64 ((wd : Int) - 1 - (k : Int)))).swap)
          obtain ⟨q5, Hq5⟩ : ∃ z, Hid (wn1.heap.size = z) := ⟨_, rfl⟩
          rw [Hq5.out] at HP5
          rw [Hq5.out]
          generalize hWW : World.alloc wn1 (.cells #[.int .i64 ((wd : Int) - 1 - (k : Int))] 3) = wn5 at *
          clear hWW Hq5 HP1
          unfold wpPlanB
          simp only [pickOps, opAt, List.map_nil, List.getElem?_toArray, List.getElem?_cons_zero, List.getElem?_cons_succ, Option.getD_some]
          repeat (go_big_quiet_step (fail))
          refine wpQuiet_nil ?_
          have hLE : Wh.heap.size ≤ wn5.heap.size := HP5.out.be.size
          go_wp2_with (at_builtin; refine wpList_append_lies _ (by rfl) (.tmp 28) (.tmp 30) _ (by rfl) Wh.heap.size 3 i0 _ 1 8 Tryz.underlying30 hi hz0 hz1 hz2 (by rfl) (by omega) (.slice A1 k c1) k _ (by rfl) HP5.out.o1 ⟨q1, 0, none⟩ 1 1 (i64c (k : Int)) (by rfl) (by rfl) (World.news_of_block (HP5.out.b1 _ rfl).1) (one_i64 (k : Int)) (by omega) (by simp only [maxLen]; omega) (by omega) hLE wn5.heap.size (by rfl) ?_; intro g6 cap6 wn6 hown hgr hat hlt8)
          refine ⟨(Below.refl _ _).grown hgr hLE (own_base HP5.out.o1), ?_⟩
          have HP6 := Lib.hid ((HP5.out.app (Nat.le_refl _) hown hgr hat))
          clear hown hgr hat hlt8 hLE HP5
          unfold wpPlanB
          simp only [pickOps, opAt, List.map_nil, List.getElem?_toArray, List.getElem?_cons_zero, List.getElem?_cons_succ, Option.getD_some]
          repeat (go_big_quiet_step (fail))
          refine wpQuiet_nil ?_
          have hLE : Wh.heap.size ≤ wn6.heap.size := HP6.out.be.size
          go_wp2_with (at_builtin; refine wpList_append_lies _ (by rfl) (.tmp 32) (.tmp 38) _ (by rfl) Wh.heap.size 3 i0 _ 1 8 Tryz.underlying30 hi hz0 hz1 hz2 (by rfl) (by omega) (.slice A2 k c2) k _ (by rfl) HP6.out.swap.o1 ⟨q5, 0, none⟩ 1 1 (i64c ((wd : Int) - 1 - (k : Int))) (by rfl) (by rfl) (World.news_of_block (HP6.out.swap.b1 _ rfl).1) (one_i64 ((wd : Int) - 1 - (k : Int))) (by omega) (by simp only [maxLen]; omega) (by omega) hLE wn6.heap.size (by rfl) ?_; intro g7 cap7 wn7 hown hgr hat hlt8)
          refine ⟨(Below.refl _ _).grown hgr hLE (own_base HP6.out.swap.o1), ?_⟩
          have HP7 := Lib.hid ((HP6.out.swap.app (Nat.le_refl _) hown hgr hat).swap)
          clear hown hgr hat hlt8 hLE HP6
          unfold wpPlanB
          simp only [pickOps, opAt, List.map_cons, List.map_nil, List.getElem?_toArray, List.getElem?_cons_zero, List.getElem?_cons_succ, Option.getD_some]
          go_simp
          repeat (go_big_quiet_step (fail))
          refine wpQuiet_nil ?_
          go_wp2
          go_roundw
          case rel =>
            refine ⟨k + 1, _, _, _, _, by omega, by go_num, rfl, rfl, Lib.hid ?_⟩
            have h := HP7.out
            rw [same_succ, turn_succ, List.flatMap_append, List.flatMap_append]
            exact h
          case measure => simp [intOf]; omega
      · go_wp2_with fail
        refine ⟨(Below.refl _ _).alloc (by have := HP0.out.be.size; omega) _, ?_⟩
        have HP8 := Lib.hid ((HP0.out.swap.build (Nat.le_refl _) (.int .i64 ((wd : Int) - 1 - (k : Int)))).swap)
        obtain ⟨q8, Hq8⟩ : ∃ z, Hid (wn0.heap.size = z) := ⟨_, rfl⟩
        rw [Hq8.out] at HP8
        rw [Hq8.out]
        generalize hWW : World.alloc wn0 (.cells #[.int .i64 ((wd : Int) - 1 - (k : Int))] 3) = wn8 at *
        clear hWW Hq8 HP0
        unfold wpPlanB
        simp only [pickOps, opAt, List.map_nil, List.getElem?_toArray, List.getElem?_cons_zero, List.getElem?_cons_succ, Option.getD_some]
        repeat (go_big_quiet_step (fail))
        refine wpQuiet_nil ?_
        go_wp2_with fail
        refine ⟨(Below.refl _ _).alloc (by have := HP8.out.be.size; omega) _, ?_⟩
        have HP9 := Lib.hid ((HP8.out.build (Nat.le_refl _) (.int .i64 (k : Int))))
        obtain ⟨q9, Hq9⟩ : ∃ z, Hid (wn8.heap.size = z) := ⟨_, rfl⟩
        rw [Hq9.out] at HP9
        rw [Hq9.out]
        generalize hWW : World.alloc wn8 (.cells #[.int .i64 (k : Int)] 3) = wn9 at *
        clear hWW Hq9 HP8
        unfold wpPlanB
        simp only [pickOps, opAt, List.map_nil, List.getElem?_toArray, List.getElem?_cons_zero, List.getElem?_cons_succ, Option.getD_some]
        repeat (go_big_quiet_step (fail))
        refine wpQuiet_nil ?_
        have hLE : Wh.heap.size ≤ wn9.heap.size := HP9.out.be.size
        go_wp2_with (at_builtin; refine wpList_append_lies _ (by rfl) (.tmp 28) (.tmp 30) _ (by rfl) Wh.heap.size 3 i0 _ 1 8 Tryz.underlying30 hi hz0 hz1 hz2 (by rfl) (by omega) (.slice A1 k c1) k _ (by rfl) HP9.out.o1 ⟨q9, 0, none⟩ 1 1 (i64c (k : Int)) (by rfl) (by rfl) (World.news_of_block (HP9.out.b1 _ rfl).1) (one_i64 (k : Int)) (by omega) (by simp only [maxLen]; omega) (by omega) hLE wn9.heap.size (by rfl) ?_; intro g10 cap10 wn10 hown hgr hat hlt8)
        refine ⟨(Below.refl _ _).grown hgr hLE (own_base HP9.out.o1), ?_⟩
        have HP10 := Lib.hid ((HP9.out.app (Nat.le_refl _) hown hgr hat))
        clear hown hgr hat hlt8 hLE HP9
        unfold wpPlanB
        simp only [pickOps, opAt, List.map_nil, List.getElem?_toArray, List.getElem?_cons_zero, List.getElem?_cons_succ, Option.getD_some]
        repeat (go_big_quiet_step (fail))
        refine wpQuiet_nil ?_
        have hLE : Wh.heap.size ≤ wn10.heap.size := HP10.out.be.size
        go_wp2_with (at_builtin; refine wpList_append_lies _ (by rfl) (.tmp 32) (.tmp 38) _ (by rfl) Wh.heap.size 3 i0 _ 1 8 Tryz.underlying30 hi hz0 hz1 hz2 (by rfl) (by omega) (.slice A2 k c2) k _ (by rfl) HP10.out.swap.o1 ⟨q8, 0, none⟩ 1 1 (i64c ((wd : Int) - 1 - (k : Int))) (by rfl) (by rfl) (World.news_of_block (HP10.out.swap.b1 _ rfl).1) (one_i64 ((wd : Int) - 1 - (k : Int))) (by omega) (by simp only [maxLen]; omega) (by omega) hLE wn10.heap.size (by rfl) ?_; intro g11 cap11 wn11 hown hgr hat hlt8)
        refine ⟨(Below.refl _ _).grown hgr hLE (own_base HP10.out.swap.o1), ?_⟩
        have HP11 := Lib.hid ((HP10.out.swap.app (Nat.le_refl _) hown hgr hat).swap)
        clear hown hgr hat hlt8 hLE HP10
        unfold wpPlanB
        simp only [pickOps, opAt, List.map_cons, List.map_nil, List.getElem?_toArray, List.getElem?_cons_zero, List.getElem?_cons_succ, Option.getD_some]
        go_simp
        repeat (go_big_quiet_step (fail))
        refine wpQuiet_nil ?_
        go_wp2
        go_roundw
        case rel =>
          refine ⟨k + 1, _, _, _, _, by omega, by go_num, rfl, rfl, Lib.hid ?_⟩
          have h := HP11.out
          rw [same_succ, turn_succ, List.flatMap_append, List.flatMap_append]
          exact h
        case measure => simp [intOf]; omega
    · obtain rfl : k = wd := by omega
      clear za
      have HOs : Hid (ClS wr A1 k (sameC k)) := Lib.hid (Sl.of_own i64c_len (same_len k) HP.out.o1)
      have HOt : Hid (ClS wr A2 k (turnC k)) := Lib.hid (Sl.of_own i64c_len (turn_len k) HP.out.o2)
      replace HSa := Lib.hid (HSa.out.keep (keeps_of HP.out.be))
      replace HVa := Lib.hid hVb
      replace hB := Below.next hB HP.out.be
      clear HP hVb hVlt
      have za := HVa.out.cell
      go_wp2_with fail
      refine (gproject_any ra (k : Int) fa Aa na ca A1 k c1 (sameC k) _ HSa.out HKa.out.2.2 HOs.out).mono ?_
      rintro e w104 ⟨xx, fx, Ax, nx, cx, rfl, hSx, hb4⟩
      obtain ⟨ex, Hex⟩ : ∃ z, Hid (pjE ra (sameC k) = z) := ⟨_, rfl⟩
      obtain ⟨rx, Hrx⟩ : ∃ z, Hid (pjR ra (sameC k) = z) := ⟨_, rfl⟩
      rw [Hex.out]
      rw [Hrx.out] at hSx
      clear za
      replace HSa := Lib.hid (HSa.out.keep (keeps_of hb4))
      replace HVa := Lib.hid (HVa.out.below hb4)
      replace hB := Below.next hB hb4
      replace HOs := Lib.hid (HOs.out.keep (keeps_of hb4))
      replace HOt := Lib.hid (HOt.out.keep (keeps_of hb4))
      have HSx := Lib.hid hSx
      clear hSx hb4
      replace HOs := Lib.hid (HOs.out.keep (keeps_alloc _ (.cells #[.int .i64 xx, .bool fx, .slice Ax nx cx] 27)))
      replace HOt := Lib.hid (HOt.out.keep (keeps_alloc _ (.cells #[.int .i64 xx, .bool fx, .slice Ax nx cx] 27)))
      replace HSa := Lib.hid (HSa.out.keep (keeps_alloc w104 (.cells #[.int .i64 xx, .bool fx, .slice Ax nx cx] 27)))
      replace HVa := Lib.hid (HVa.out.alloc (.cells #[.int .i64 xx, .bool fx, .slice Ax nx cx] 27))
      replace HSx := Lib.hid (HSx.out.keep (keeps_alloc w104 (.cells #[.int .i64 xx, .bool fx, .slice Ax nx cx] 27)))
      have HVx := Lib.hid (Blk.new w104 27 #[.int .i64 xx, .bool fx, .slice Ax nx cx])
      obtain ⟨Vx, HXx⟩ : ∃ z, Hid (w104.heap.size = z) := ⟨_, rfl⟩
      rw [HXx.out] at HVx
      replace hB := hB.alloc hB.size (.cells #[.int .i64 xx, .bool fx, .slice Ax nx cx] 27)
      go_upto_region 9 with fail
      rw [HXx.out]
      generalize hWW : (w104.alloc (.cells #[.int .i64 xx, .bool fx, .slice Ax nx cx] 27)) = WW5 at *
      clear hWW
      have za := HVa.out.cell
      go_wp2_with fail
      refine (glift_any ra (k : Int) fa Aa na ca A1 k c1 (sameC k) (k : Int) _ HSa.out HKa.out.2.2 HOs.out).mono ?_
      rintro e w106 ⟨xy, fy, Ay, ny, cy, rfl, hSy, hb6⟩
      obtain ⟨ey, Hey⟩ : ∃ z, Hid (lfE ra (sameC k) (k : Int) = z) := ⟨_, rfl⟩
      obtain ⟨ry, Hry⟩ : ∃ z, Hid (lfR ra (sameC k) (k : Int) = z) := ⟨_, rfl⟩
      rw [Hey.out]
      rw [Hry.out] at hSy
      clear za
      replace HSa := Lib.hid (HSa.out.keep (keeps_of hb6))
      replace HVa := Lib.hid (HVa.out.below hb6)
      replace HSx := Lib.hid (HSx.out.keep (keeps_of hb6))
      replace HVx := Lib.hid (HVx.out.below hb6)
      replace hB := Below.next hB hb6
      replace HOs := Lib.hid (HOs.out.keep (keeps_of hb6))
      replace HOt := Lib.hid (HOt.out.keep (keeps_of hb6))
      have HSy := Lib.hid hSy
      clear hSy hb6
      replace HOs := Lib.hid (HOs.out.keep (keeps_alloc _ (.cells #[.int .i64 xy, .bool fy, .slice Ay ny cy] 27)))
      replace HOt := Lib.hid (HOt.out.keep (keeps_alloc _ (.cells #[.int .i64 xy, .bool fy, .slice Ay ny cy] 27)))
      replace HSa := Lib.hid (HSa.out.keep (keeps_alloc w106 (.cells #[.int .i64 xy, .bool fy, .slice Ay ny cy] 27)))
      replace HVa := Lib.hid (HVa.out.alloc (.cells #[.int .i64 xy, .bool fy, .slice Ay ny cy] 27))
      replace HSx := Lib.hid (HSx.out.keep (keeps_alloc w106 (.cells #[.int .i64 xy, .bool fy, .slice Ay ny cy] 27)))
      replace HVx := Lib.hid (HVx.out.alloc (.cells #[.int .i64 xy, .bool fy, .slice Ay ny cy] 27))
      replace HSy := Lib.hid (HSy.out.keep (keeps_alloc w106 (.cells #[.int .i64 xy, .bool fy, .slice Ay ny cy] 27)))
      have HVy := Lib.hid (Blk.new w106 27 #[.int .i64 xy, .bool fy, .slice Ay ny cy])
      obtain ⟨Vy, HXy⟩ : ∃ z, Hid (w106.heap.size = z) := ⟨_, rfl⟩
      rw [HXy.out] at HVy
      replace hB := hB.alloc hB.size (.cells #[.int .i64 xy, .bool fy, .slice Ay ny cy] 27)
      go_upto_region 10 with fail
      rw [HXy.out]
      generalize hWW : (w106.alloc (.cells #[.int .i64 xy, .bool fy, .slice Ay ny cy] 27)) = WW7 at *
      clear hWW
      have HG := Lib.hid (ident_same HKa.out.1 HKa.out.2.1)
      rw [Hex.out, Hrx.out, Hey.out, Hry.out] at HG
      refine wp_region_lit ?_
      refine wpList_at 17 [54, 55, 56, 57, 58, 59, 60, 61, 62, 63, 64, 65, 66, 67, 68, 69, 70] (fun us w8 => us 70 = .bool false ∧ Below WW7.heap.size WW7 w8) ?_ ?_
      · simp only [List.take_succ_cons, List.take_zero]
        rcases HG.out.1 with rfl | ⟨rfl, h5⟩
        · go_wp2_with fail
          exact EndAt.intro ⟨rfl, Below.refl _ _⟩ (by kernel_rfl)
        · skip
          have zz := HVx.out.cell
          have za := HVa.out.cell
          go_wp2_with fail
          refine (gequal_any rx xx fx Ax nx cx ra (k : Int) fa Aa na ca _ HSx.out HSa.out).mono ?_
          rintro e w200 ⟨rfl, hb⟩
          rw [h5]
          clear zz za h5
          go_wp2_with fail
          exact EndAt.intro ⟨rfl, hb⟩ (by kernel_rfl)
      · simp only [List.drop_succ_cons, List.drop_zero, overU, List.foldl]
        intro us0 w300 hh
        have h70 := hh.1
        have hb := hh.2
        clear hh
        replace HSa := Lib.hid (HSa.out.keep (keeps_of hb))
        replace HVa := Lib.hid (HVa.out.below hb)
        replace HSx := Lib.hid (HSx.out.keep (keeps_of hb))
        replace HVx := Lib.hid (HVx.out.below hb)
        replace HSy := Lib.hid (HSy.out.keep (keeps_of hb))
        replace HVy := Lib.hid (HVy.out.below hb)
        replace hB := Below.next hB hb
        replace HOs := Lib.hid (HOs.out.keep (keeps_of hb))
        replace HOt := Lib.hid (HOt.out.keep (keeps_of hb))
        clear hb
        go_simp
        refine wpList_at 8 [71, 72, 73, 74, 75, 76, 77, 78] (fun us w8 => us 78 = .bool false ∧ Below w300.heap.size w300 w8) ?_ ?_
        · simp only [List.take_succ_cons, List.take_zero]
          rcases HG.out.2 with rfl | ⟨rfl, h5⟩
          · go_wp2_with fail
            exact EndAt.intro ⟨rfl, Below.refl _ _⟩ (by kernel_rfl)
          · go_wp2_with fail
            exact EndAt.intro ⟨rfl, Below.refl _ _⟩ (by kernel_rfl)
        · simp only [List.drop_succ_cons, List.drop_zero, overU, List.foldl]
          intro us1 w301 hh
          have h78 := hh.1
          have hb := hh.2
          clear hh
          replace HSa := Lib.hid (HSa.out.keep (keeps_of hb))
          replace HVa := Lib.hid (HVa.out.below hb)
          replace HSx := Lib.hid (HSx.out.keep (keeps_of hb))
          replace HVx := Lib.hid (HVx.out.below hb)
          replace HSy := Lib.hid (HSy.out.keep (keeps_of hb))
          replace HVy := Lib.hid (HVy.out.below hb)
          replace hB := Below.next hB hb
          replace HOs := Lib.hid (HOs.out.keep (keeps_of hb))
          replace HOt := Lib.hid (HOt.out.keep (keeps_of hb))
          clear hb
          go_simp
          refine wpList_at 9 [79, 80, 81, 82, 83, 84, 85, 86, 87] (fun us w8 => us 87 = .bool false ∧ Below w301.heap.size w301 w8) ?_ ?_
          · simp only [List.take_succ_cons, List.take_zero]
            rcases HG.out.2 with rfl | ⟨rfl, h5⟩
            · go_wp2_with fail
              exact EndAt.intro ⟨rfl, Below.refl _ _⟩ (by kernel_rfl)
            · skip
              have zz := HVy.out.cell
              have za := HVa.out.cell
              go_wp2_with fail
              refine (gequal_any ry xy fy Ay ny cy ra (k : Int) fa Aa na ca _ HSy.out HSa.out).mono ?_
              rintro e w200 ⟨rfl, hb⟩
              rw [h5]
              clear zz za h5
              go_wp2_with fail
              exact EndAt.intro ⟨rfl, hb⟩ (by kernel_rfl)
          · simp only [List.drop_succ_cons, List.drop_zero, overU, List.foldl]
            intro us2 w302 hh
            have h87 := hh.1
            have hb := hh.2
            clear hh
            replace HSa := Lib.hid (HSa.out.keep (keeps_of hb))
            replace HVa := Lib.hid (HVa.out.below hb)
            replace HSx := Lib.hid (HSx.out.keep (keeps_of hb))
            replace HVx := Lib.hid (HVx.out.below hb)
            replace HSy := Lib.hid (HSy.out.keep (keeps_of hb))
            replace HVy := Lib.hid (HVy.out.below hb)
            replace hB := Below.next hB hb
            replace HOs := Lib.hid (HOs.out.keep (keeps_of hb))
            replace HOt := Lib.hid (HOt.out.keep (keeps_of hb))
            clear hb
            go_simp
            clear HSx HVx
            clear HSy HVy
            clear HG HOs
            have HT := Lib.hid (ident_turn HKa.out.1 HKa.out.2.1)
            have za := HVa.out.cell
            go_wp2_with fail
            refine (gproject_any ra (k : Int) fa Aa na ca A2 k c2 (turnC k) _ HSa.out HKa.out.2.2 HOt.out).mono ?_
            rintro e w108 ⟨xu, fu, Au, nu, cu, rfl, hSu, hb8⟩
            obtain ⟨eu, Heu⟩ : ∃ z, Hid (pjE ra (turnC k) = z) := ⟨_, rfl⟩
            obtain ⟨ru, Hru⟩ : ∃ z, Hid (pjR ra (turnC k) = z) := ⟨_, rfl⟩
            rw [Heu.out]
            rw [Hru.out] at hSu
            clear za
            replace HSa := Lib.hid (HSa.out.keep (keeps_of hb8))
            replace HVa := Lib.hid (HVa.out.below hb8)
            replace hB := Below.next hB hb8
            replace HOt := Lib.hid (HOt.out.keep (keeps_of hb8))
            have HSu := Lib.hid hSu
            clear hSu hb8
            replace HOt := Lib.hid (HOt.out.keep (keeps_alloc _ (.cells #[.int .i64 xu, .bool fu, .slice Au nu cu] 27)))
            replace HSa := Lib.hid (HSa.out.keep (keeps_alloc w108 (.cells #[.int .i64 xu, .bool fu, .slice Au nu cu] 27)))
            replace HVa := Lib.hid (HVa.out.alloc (.cells #[.int .i64 xu, .bool fu, .slice Au nu cu] 27))
            replace HSu := Lib.hid (HSu.out.keep (keeps_alloc w108 (.cells #[.int .i64 xu, .bool fu, .slice Au nu cu] 27)))
            have HVu := Lib.hid (Blk.new w108 27 #[.int .i64 xu, .bool fu, .slice Au nu cu])
            obtain ⟨Vu, HXu⟩ : ∃ z, Hid (w108.heap.size = z) := ⟨_, rfl⟩
            rw [HXu.out] at HVu
            replace hB := hB.alloc hB.size (.cells #[.int .i64 xu, .bool fu, .slice Au nu cu] 27)
            go_upto_region 13 with fail
            rw [HXu.out]
            generalize hWW : (w108.alloc (.cells #[.int .i64 xu, .bool fu, .slice Au nu cu] 27)) = WW9 at *
            clear hWW
            rw [Heu.out, Hru.out] at HT
            rcases HT.out with h | ⟨h, h6, h7⟩
            · subst h
              go_wp2_with fail
              refine (begun4_any _).mono ?_
              rintro e w99 ⟨rfl, hb99⟩
              replace hB := Below.next hB hb99
              clear hb99
              go_wp2
              go_ret
              exact ⟨rfl, hB⟩
            · subst h
              have H6 := Lib.hid h6
              have H7 := Lib.hid h7
              clear h6 h7 HT
              have HWu : Hid (WfR ru) := Lib.hid (by rw [← Hru.out]; exact pj_wf HKa.out.2.2 _)
              have zu := HVu.out.cell
              go_wp2_with fail
              refine (gproject_any ru xu fu Au nu cu A2 k c2 (turnC k) _ HSu.out HWu.out HOt.out).mono ?_
              rintro e w110 ⟨xv, fv, Av, nv, cv, rfl, hSv, hb10⟩
              obtain ⟨ev, Hev⟩ : ∃ z, Hid (pjE ru (turnC k) = z) := ⟨_, rfl⟩
              obtain ⟨rv, Hrv⟩ : ∃ z, Hid (pjR ru (turnC k) = z) := ⟨_, rfl⟩
              rw [Hev.out]
              rw [Hrv.out] at hSv
              clear zu
              replace HSa := Lib.hid (HSa.out.keep (keeps_of hb10))
              replace HVa := Lib.hid (HVa.out.below hb10)
              replace HSu := Lib.hid (HSu.out.keep (keeps_of hb10))
              replace HVu := Lib.hid (HVu.out.below hb10)
              replace hB := Below.next hB hb10
              replace HOt := Lib.hid (HOt.out.keep (keeps_of hb10))
              have HSv := Lib.hid hSv
              clear hSv hb10
              replace HOt := Lib.hid (HOt.out.keep (keeps_alloc _ (.cells #[.int .i64 xv, .bool fv, .slice Av nv cv] 27)))
              replace HSa := Lib.hid (HSa.out.keep (keeps_alloc w110 (.cells #[.int .i64 xv, .bool fv, .slice Av nv cv] 27)))
              replace HVa := Lib.hid (HVa.out.alloc (.cells #[.int .i64 xv, .bool fv, .slice Av nv cv] 27))
              replace HSu := Lib.hid (HSu.out.keep (keeps_alloc w110 (.cells #[.int .i64 xv, .bool fv, .slice Av nv cv] 27)))
              replace HVu := Lib.hid (HVu.out.alloc (.cells #[.int .i64 xv, .bool fv, .slice Av nv cv] 27))
              replace HSv := Lib.hid (HSv.out.keep (keeps_alloc w110 (.cells #[.int .i64 xv, .bool fv, .slice Av nv cv] 27)))
              have HVv := Lib.hid (Blk.new w110 27 #[.int .i64 xv, .bool fv, .slice Av nv cv])
              obtain ⟨Vv, HXv⟩ : ∃ z, Hid (w110.heap.size = z) := ⟨_, rfl⟩
              rw [HXv.out] at HVv
              replace hB := hB.alloc hB.size (.cells #[.int .i64 xv, .bool fv, .slice Av nv cv] 27)
              go_upto_region 16 with fail
              rw [HXv.out]
              generalize hWW : (w110.alloc (.cells #[.int .i64 xv, .bool fv, .slice Av nv cv] 27)) = WW11 at *
              clear hWW
              have za := HVa.out.cell
              have zu := HVu.out.cell
              go_wp2_with fail
              refine (glift_any ru xu fu Au nu cu A2 k c2 (turnC k) (k : Int) _ HSu.out HWu.out HOt.out).mono ?_
              rintro e w112 ⟨xw, fw, Aw, nw, cw, rfl, hSw, hb12⟩
              obtain ⟨ew, Hew⟩ : ∃ z, Hid (lfE ru (turnC k) (k : Int) = z) := ⟨_, rfl⟩
              obtain ⟨rw_, Hrw_⟩ : ∃ z, Hid (lfR ru (turnC k) (k : Int) = z) := ⟨_, rfl⟩
              rw [Hew.out]
              rw [Hrw_.out] at hSw
              clear zu
              replace HSa := Lib.hid (HSa.out.keep (keeps_of hb12))
              replace HVa := Lib.hid (HVa.out.below hb12)
              replace HSu := Lib.hid (HSu.out.keep (keeps_of hb12))
              replace HVu := Lib.hid (HVu.out.below hb12)
              replace HSv := Lib.hid (HSv.out.keep (keeps_of hb12))
              replace HVv := Lib.hid (HVv.out.below hb12)
              replace hB := Below.next hB hb12
              replace HOt := Lib.hid (HOt.out.keep (keeps_of hb12))
              have HSw := Lib.hid hSw
              clear hSw hb12
              replace HOt := Lib.hid (HOt.out.keep (keeps_alloc _ (.cells #[.int .i64 xw, .bool fw, .slice Aw nw cw] 27)))
              replace HSa := Lib.hid (HSa.out.keep (keeps_alloc w112 (.cells #[.int .i64 xw, .bool fw, .slice Aw nw cw] 27)))
              replace HVa := Lib.hid (HVa.out.alloc (.cells #[.int .i64 xw, .bool fw, .slice Aw nw cw] 27))
              replace HSu := Lib.hid (HSu.out.keep (keeps_alloc w112 (.cells #[.int .i64 xw, .bool fw, .slice Aw nw cw] 27)))
              replace HVu := Lib.hid (HVu.out.alloc (.cells #[.int .i64 xw, .bool fw, .slice Aw nw cw] 27))
              replace HSv := Lib.hid (HSv.out.keep (keeps_alloc w112 (.cells #[.int .i64 xw, .bool fw, .slice Aw nw cw] 27)))
              replace HVv := Lib.hid (HVv.out.alloc (.cells #[.int .i64 xw, .bool fw, .slice Aw nw cw] 27))
              replace HSw := Lib.hid (HSw.out.keep (keeps_alloc w112 (.cells #[.int .i64 xw, .bool fw, .slice Aw nw cw] 27)))
              have HVw := Lib.hid (Blk.new w112 27 #[.int .i64 xw, .bool fw, .slice Aw nw cw])
              obtain ⟨Vw, HXw⟩ : ∃ z, Hid (w112.heap.size = z) := ⟨_, rfl⟩
              rw [HXw.out] at HVw
              replace hB := hB.alloc hB.size (.cells #[.int .i64 xw, .bool fw, .slice Aw nw cw] 27)
              go_upto_region 17 with fail
              rw [HXw.out]
              generalize hWW : (w112.alloc (.cells #[.int .i64 xw, .bool fw, .slice Aw nw cw] 27)) = WW13 at *
              clear hWW
              clear za
              rw [Hev.out, Hrv.out] at H6
              rw [Hew.out, Hrw_.out] at H7
              go_wp2_with fail
              refine (begun4_any _).mono ?_
              rintro e w14 ⟨rfl, hb14⟩
              replace HSa := Lib.hid (HSa.out.keep (keeps_of hb14))
              replace HVa := Lib.hid (HVa.out.below hb14)
              replace HSu := Lib.hid (HSu.out.keep (keeps_of hb14))
              replace HVu := Lib.hid (HVu.out.below hb14)
              replace HSv := Lib.hid (HSv.out.keep (keeps_of hb14))
              replace HVv := Lib.hid (HVv.out.below hb14)
              replace HSw := Lib.hid (HSw.out.keep (keeps_of hb14))
              replace HVw := Lib.hid (HVw.out.below hb14)
              replace hB := Below.next hB hb14
              replace HOt := Lib.hid (HOt.out.keep (keeps_of hb14))
              clear hb14
              have zv := HVv.out.cell
              have zw := HVw.out.cell
              have za := HVa.out.cell
              rcases H6.out with h | ⟨h, h6⟩
              · subst h
                rcases H7.out with h | ⟨h, h7⟩
                · subst h
                  go_wp2
                  go_ret
                  exact ⟨rfl, hB⟩
                · subst h
                  have H9 := Lib.hid h7
                  clear h7
                  go_wp2_with fail
                  refine (gequal_any rw_ xw fw Aw nw cw ra (k : Int) fa Aa na ca _ HSw.out HSa.out).mono ?_
                  rintro e w409 ⟨rfl, hb⟩
                  rw [H9.out]
                  replace hB := Below.next hB hb
                  clear hb
                  go_wp2
                  go_ret
                  exact ⟨rfl, hB⟩
              · subst h
                have H8 := Lib.hid h6
                clear h6
                go_wp2_with fail
                refine (gequal_any rv xv fv Av nv cv ra (k : Int) fa Aa na ca _ HSv.out HSa.out).mono ?_
                rintro e w408 ⟨rfl, hb⟩
                rw [H8.out]
                replace hB := Below.next hB hb
                replace HSw := Lib.hid (HSw.out.keep (keeps_of hb))
                replace HVw := Lib.hid (HVw.out.below hb)
                replace HSa := Lib.hid (HSa.out.keep (keeps_of hb))
                replace HVa := Lib.hid (HVa.out.below hb)
                clear hb zv zw za
                have zw := HVw.out.cell
                have za := HVa.out.cell
                rcases H7.out with h | ⟨h, h7⟩
                · subst h
                  go_wp2
                  go_ret
                  exact ⟨rfl, hB⟩
                · subst h
                  have H9 := Lib.hid h7
                  clear h7
                  go_wp2_with fail
                  refine (gequal_any rw_ xw fw Aw nw cw ra (k : Int) fa Aa na ca _ HSw.out HSa.out).mono ?_
                  rintro e w409 ⟨rfl, hb⟩
                  rw [H9.out]
                  replace hB := Below.next hB hb
                  clear hb
                  go_wp2
                  go_ret
                  exact ⟨rfl, hB⟩
end Go.Proofs.YtmnmckblmoalkaaGreat
