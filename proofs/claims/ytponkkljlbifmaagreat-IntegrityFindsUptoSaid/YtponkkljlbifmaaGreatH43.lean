/-
  Texts: IgVlL, IgSame, Open.
-/
import Derived.Test.YtponkkljlbifmaaGreatH21
import Derived.ProofKit
import Derived.OpenShut
import Derived.ShutString
import Derived.Carry
import Derived.Deep.Slices
import Derived.Lib.SmallJoins
set_option linter.unusedVariables false
/-
  The program's Count, Check and Violations of a state, of many lists.
-/
namespace Go.Proofs.YtponkkljlbifmaaGreat
open Go.RowKit
set_option maxRecDepth 100000
open Pd

set_option maxHeartbeats 2000000 in
theorem countL_any (A : Option Addr) (n c : Nat) (ls : List TlP) (w : World) (hs : StS w A n ls) (hb : cntS (stR ls) ≤ 4611686018427387904) (hn : n ≤ 4000000) :
    Calls Tryz.prog 46 #[.agg #[.slice A n c]] w fun e w' => e = .returned (.int .i64 (cntS (stR ls) : Int)) ∧ Below w.heap.size w w' := by
  have HS := Lib.hid (hs.keep (keeps_alloc w (.cells #[.slice A n c] 25)))
  have HB := Lib.hid ((Below.refl w.heap.size w).alloc (Nat.le_refl _) (.cells #[.slice A n c] 25))
  have Hln := Lib.hid hs.sl.len
  clear hs
  go_enter Tryz.func46, Tryz.ntmps46
  go_wp2_with fail
  generalize hW : w.alloc (.cells #[.slice A n c] 25) = w1 at *
  go_loopw [3, 9] (fun v i wr => ∃ k : Nat, k ≤ n ∧ i = .int .i64 (k : Int) ∧ v = .int .i64 (cntS (stR (ls.take k)) : Int) ∧ wr = w1) (fun _ i _ => n - (intOf i).toNat)
  case atStart => exact ⟨0, by omega, rfl, rfl, rfl⟩
  case round =>
    obtain ⟨k, hk, rfl, rfl, rfl⟩ := hrel
    by_cases hlt : k < n
    · obtain ⟨b, o, ⟨⟨B, m, cb⟩, ps⟩, rfl, hp, hok, c0⟩ := HS.out.at hlt
      dsimp only at c0
      have hc := cnt_take hp
      have hle := cnt_le (ls := ls) (k + 1)
      rw [hok.len] at hc
      dsimp only at hc
      have Hc := Lib.hid hc
      generalize cntS (stR (ls.take k)) = x at *
      have hbb : x + m ≤ 4611686018427387904 := by omega
      clear hp hok hc
      go_wp2
      go_roundw
      case rel => exact ⟨k + 1, by omega, by go_num, by rw [Hc.out]; go_num, trivial⟩
      case measure => simp [intOf]; omega
    · obtain rfl : k = n := by omega
      rw [List.take_of_length_le (by rw [Hln.out]; exact Nat.le_refl _)]
      go_wp2
      go_ret
      exact ⟨rfl, HB.out⟩
set_option maxHeartbeats 8000000 in
theorem tcheckL_any (ver : Int) (A : Option Addr) (n c : Nat) (tbs : List Tb) (B : Option Addr) (m cb : Nat) (ls : List TlP) (w : World) (hs : ScS w A n tbs) (hg : GoodS ver tbs) (hst : StS w B m ls) (hb : cntS (stR ls) ≤ 4611686018427387904) (hm : m ≤ 4000000) :
    Calls Tryz.prog 31 #[.agg #[.int .i64 ver, .slice A n c], .int .i64 1, .agg #[.slice B m cb]] w fun e w' => e = .returned (.int .i64 (chkS tbs (stR ls))) ∧ Below w.heap.size w w' := by
  have HB : Hid (Below w.heap.size w ((w.alloc (.cells #[.int .i64 ver, .slice A n c] 30)).alloc (.cells #[.slice B m cb] 25))) := Lib.hid (((Below.refl _ _).alloc (Nat.le_refl _) _).alloc (by simp) _)
  have HS := Lib.hid (hs.keep (keeps_of HB.out))
  have HST := Lib.hid (hst.keep (keeps_of HB.out))
  have HZ := Lib.hid ((Blk.new w 30 #[.int .i64 ver, .slice A n c]).alloc (.cells #[.slice B m cb] 25))
  have HY := Lib.hid (Blk.new (w.alloc (.cells #[.int .i64 ver, .slice A n c] 30)) 25 #[.slice B m cb])
  rw [World.size_alloc] at HY
  have HG := Lib.hid hg
  have Hln := Lib.hid hs.len
  have Hlm := Lib.hid hst.sl.len
  have hn8 : n ≤ 8 := by have := hg.ln; have := Hln.out; omega
  obtain ⟨ee, Hee⟩ : ∃ z, Hid (chkS tbs (stR ls) = z) := ⟨_, Lib.hid rfl⟩
  rw [Hee.out]
  clear hs hst hg
  go_enter Tryz.func31, Tryz.ntmps31
  go_upto_region 1 with fail
  generalize hW : (w.alloc (.cells #[.int .i64 ver, .slice A n c] 30)).alloc (.cells #[.slice B m cb] 25) = w1 at *
  have z := HZ.out.cell
  have zy := HY.out.cell
  go_wp2_with fail
  refine (checkmode_any ver A n c tbs _ HS.out HG.out).mono ?_
  rintro e w2 ⟨rfl, hb2⟩
  have HZ2 := Lib.hid (HZ.out.below hb2)
  have HY2 := Lib.hid (HY.out.below hb2)
  have HB2 := Lib.hid (HB.out.trans (hb2.mono HB.out.size))
  have HS2 := Lib.hid (HS.out.keep (keeps_of hb2))
  have HST2 := Lib.hid (HST.out.keep (keeps_of hb2))
  clear z zy hb2 HZ HY HB HS HST hW
  have z := HZ2.out.cell
  have zy := HY2.out.cell
  go_wp2_with fail
  refine (countL_any B m cb ls _ HST2.out hb hm).mono ?_
  rintro e w3 ⟨rfl, hb3⟩
  have HZ3 := Lib.hid (HZ2.out.below hb3)
  have HY3 := Lib.hid (HY2.out.below hb3)
  have HB3 := Lib.hid (HB2.out.trans (hb3.mono HB2.out.size))
  have HS3 := Lib.hid (HS2.out.keep (keeps_of hb3))
  have HST3 := Lib.hid (HST2.out.keep (keeps_of hb3))
  clear z zy hb3 HZ2 HY2 HB2 HS2 HST2
  have z := HZ3.out.cell
  have zy := HY3.out.cell
  unfold chkS at Hee
  by_cases hc : 512 < cntS (stR ls)
  · have g1 : decide (512 < (cntS (stR ls) : Int)) = true := by simp; omega
    rw [if_pos hc] at Hee
    have he := Hee.out
    subst he
    clear hc
    go_wp2
    go_ret
    exact ⟨rfl, HB3.out⟩
  · have g1 : decide (512 < (cntS (stR ls) : Int)) = false := by simp; omega
    rw [if_neg hc] at Hee
    have hls : (stR ls).length = m := by unfold stR; rw [List.length_map]; exact Hlm.out
    rw [hls, Hln.out] at Hee
    by_cases hmn : m = n
    · subst hmn
      rw [if_neg (by simp)] at Hee
      obtain ⟨rr, Hrr⟩ : ∃ z, Hid (tabsB (tbs.drop 0) ((stR ls).drop 0) = z) := ⟨_, Lib.hid rfl⟩
      have Hee2 : Hid ((if rr = true then (0 : Int) else 80) = ee) := Lib.hid (by rw [← Hee.out, ← Hrr.out]; rfl)
      have g2 : ((m : Int) != (m : Int)) = false := by simp
      clear hc Hee
      go_wp2_with fail
      go_loopw [31] (fun i wr => ∃ k : Nat, k ≤ m ∧ i = .int .i64 (k : Int) ∧ Hid (tabsB (tbs.drop k) ((stR ls).drop k) = rr) ∧ Hid (Below w3.heap.size w3 wr)) (fun i _ => m - (intOf i).toNat)
      case atStart => exact ⟨0, by omega, rfl, Hrr, Lib.hid (Below.refl _ _)⟩
      case round =>
        obtain ⟨k, hk, rfl, Hq, HBr⟩ := hrel
        clear z zy Hrr
        by_cases hlt : k < m
        · obtain ⟨T, hT⟩ : ∃ T, tbs[k]? = some T := ⟨_, List.getElem?_eq_getElem (by rw [Hln.out]; exact hlt)⟩
          obtain ⟨b, o, ⟨⟨L, ln, lc⟩, ps⟩, rfl, hl, hok, c0⟩ := (HST3.out.keep (keeps_of HBr.out)).at hlt
          dsimp only at c0
          have HT := Lib.hid hT
          have HGT := Lib.hid (HG.out.tb T (List.mem_of_getElem? hT))
          obtain ⟨x, Hx⟩ : ∃ z, Hid (tabsB (tbs.drop (k + 1)) ((stR ls).drop (k + 1)) = z) := ⟨_, Lib.hid rfl⟩
          have Hst := Lib.hid (tabs_step hT (stR_at hl) Hq.out)
          rw [Hx.out] at Hst
          have HR := Lib.hid hok.rd
          have Hll := Lib.hid hok.len
          dsimp only at HR Hll
          have hlm : ln ≤ 9223372036854775807 := Nat.le_trans hok.le hok.mx
          have zy := (HY3.out.below HBr.out).cell
          clear hT hl hok Hq
          obtain ⟨w4, HW4⟩ : ∃ z, Hid (wr = z) := ⟨_, Lib.hid rfl⟩
          go_wp2_with fail
          go_loopw [38] (fun i wr => ∃ j : Nat, j ≤ ln ∧ i = .int .i64 (j : Int) ∧ Hid ((rowsB T (prv (tlR ((L, ln, lc), ps)) j) ((tlR ((L, ln, lc), ps)).drop j) && x) = rr) ∧ Hid (Below w4.heap.size w4 wr)) (fun i _ => ln - (intOf i).toNat)
          case atStart => exact ⟨0, by omega, rfl, Hst, Lib.hid (by rw [← HW4.out]; exact Below.refl _ _)⟩
          case round =>
            obtain ⟨j, hj, rfl, Hqj, HBj⟩ := hrel
            clear zy Hst c0
            rw [HW4.out] at HBr HR
            have HB4 := Lib.hid (HBr.out.trans (HBj.out.mono HBr.out.size))
            by_cases hjn : j < ln
            · obtain ⟨b2, o2, ⟨⟨R, rn, rc⟩, r⟩, rfl, c1, hro, hp⟩ := (HR.out.keep (keeps_of HBj.out)).get2 hjn
              dsimp only at c1
              have Hs := Lib.hid (rows_step (tlR_at hp) Hqj.out)
              have HRO := Lib.hid hro
              have zb := (HZ3.out.below HB4.out).cell
              clear hro hp Hqj
              go_wp2_with fail
              refine (fits_any ver A m c tbs k T R rn rc r _ (HS3.out.keep (keeps_of HB4.out)) hn8 HT.out HGT.out.cl HRO.out.rd).mono ?_
              rintro e w5 ⟨rfl, hb5⟩
              have HB5 := Lib.hid (Below.next HBj.out hb5)
              have HB6 := Lib.hid (Below.next HB4.out hb5)
              have HRO5 := Lib.hid (HRO.out.keep (keeps_of hb5))
              clear zb hb5 HBj HB4 HRO c1
              cases hfit : fitsB T r
              · rw [hfit, Bool.false_and] at Hs
                have he := Hee2.out
                rw [if_neg (by rw [← Hs.out]; simp)] at he
                subst he
                have HE := Lib.hid (HB3.out.trans (HB6.out.mono HB3.out.size))
                clear hfit
                go_wp2
                go_ret
                exact ⟨rfl, HE.out⟩
              · rw [hfit, Bool.true_and] at Hs
                clear hfit
                have zb : ∀ i, w5.drew.cell? ⟨w.heap.size, i, none⟩ = (#[.int .i64 ver, .slice A m c] : Array Value)[i]? := (HZ3.out.below HB6.out).cell
                have HB5d : Hid (Below w4.heap.size w4 w5.drew) := Lib.hid HB5.out.drew
                have HB6d : Hid (Below w3.heap.size w3 w5.drew) := Lib.hid HB6.out.drew
                have HRd : Hid (RowOk w5.drew ((R, rn, rc), r)) := Lib.hid (HRO5.out.keep (Keeps.refl _).drew)
                clear HB5 HB6 HRO5
                rcases j with _ | q
                · have Hs2 : Hid ((rowsB T (prv (tlR ((some ⟨b2, o2, none⟩, ln, lc), ps)) 1) ((tlR ((some ⟨b2, o2, none⟩, ln, lc), ps)).drop 1) && x) = rr) := Lib.hid (by have := Hs.out; unfold prv nxtB at this; simpa [prv] using this)
                  clear Hs
                  go_wp2_with fail
                  generalize hWn : w5.drew = Wn at *
                  have hca := @cell_after Wn
                  refine wp_region_seg [([0, 1, 2, 3, 4, 5, 6, 7, 8, 9, 11, 12, 13], 10), ([], 14), ([], 15)] [16, 17] (by kernel_rfl) (by kernel_rfl) (fun _ _ d _ _ h => by cases d <;> exact h) ?_
                  rw [hWn]
                  clear hWn
                  simp only [pickSegs, pickOps, opAt, List.map_cons, List.map_nil, List.getElem?_toArray, List.getElem?_cons_zero, List.getElem?_cons_succ, Option.getD_some]
                  unfold wpBlocks
                  repeat (go_big_quiet_step (fail))
                  refine wpQuiet_nil ?_
                  clear hca zb
                  go_wp2_with fail
                  refine ⟨Below.refl _ _, ?_⟩
                  unfold wpBlocks
                  refine wpQuiet_nil ?_
                  go_wp2_with fail
                  refine ⟨Below.refl _ _, ?_⟩
                  unfold wpBlocks
                  refine wpQuiet_nil ?_
                  go_wp2_with fail
                  refine ⟨Below.refl _ _, ?_⟩
                  unfold wpBlocks
                  repeat (go_big_quiet_step (fail))
                  refine wpQuiet_nil ?_
                  go_wp2
                  go_roundw
                  case rel => exact ⟨1, by omega, by go_num, Hs2, HB5d⟩
                  case measure => simp [intOf]; omega
                · obtain ⟨b6, o6, ⟨⟨R', rn', rc'⟩, r'⟩, e6, c6, hro, hp⟩ := (HR.out.keep (keeps_of HB5d.out)).get2 (show q < ln by omega)
                  injection e6 with e6
                  injection e6 with e6 e7
                  subst e6 e7
                  dsimp only at c6
                  have HP : Hid (RowOk w5.drew ((R', rn', rc'), r')) := Lib.hid hro
                  have hn : nxtB T (prv (tlR ((some ⟨b2, o2, none⟩, ln, lc), ps)) (q + 1)) r = decide (cmpR (keyT T r') (keyT T r) < 0) := by
                    have : prv (tlR ((some ⟨b2, o2, none⟩, ln, lc), ps)) (q + 1) = some r' := by unfold prv; rw [if_neg (by omega), Nat.add_sub_cancel]; exact tlR_at hp
                    rw [this]
                    rfl
                  rw [hn] at Hs
                  clear hro hp hn
                  go_wp2_with fail
                  generalize hWn : w5.drew = Wn at *
                  have hca := @cell_after Wn
                  refine wp_region_seg [([0, 1, 2, 3, 4, 5, 6, 7, 8, 9, 11, 12, 13], 10), ([], 14), ([], 15)] [16, 17] (by kernel_rfl) (by kernel_rfl) (fun _ _ d _ _ h => by cases d <;> exact h) ?_
                  rw [hWn]
                  clear hWn
                  simp only [pickSegs, pickOps, opAt, List.map_cons, List.map_nil, List.getElem?_toArray, List.getElem?_cons_zero, List.getElem?_cons_succ, Option.getD_some]
                  unfold wpBlocks
                  repeat (go_big_quiet_step (fail))
                  refine wpQuiet_nil ?_
                  clear hca zb c6
                  go_wp2_with fail
                  refine (prefix_any ver A m c tbs k T R' rn' rc' r' _ (HS3.out.keep (keeps_of HB6d.out)) hn8 HT.out (by have := HGT.out.k1; omega) HP.out).mono ?_
                  rintro e w6 ⟨⟨⟨Q, qn, qc⟩, y⟩, rfl, hq, hqo, hb6⟩
                  dsimp only at hq
                  subst hq
                  have HQ := Lib.hid hqo
                  have HR6 := Lib.hid (HRd.out.keep (keeps_of hb6))
                  have HB6 := Lib.hid (Below.next HB6d.out hb6)
                  have HB7 := Lib.hid (Below.next HB5d.out hb6)
                  clear hqo HRd HP HB6d HB5d
                  go_wp2_with fail
                  refine ⟨hb6, ?_⟩
                  unfold wpBlocks
                  refine wpQuiet_nil ?_
                  clear hb6
                  go_wp2_with fail
                  refine (prefix_any ver A m c tbs k T R rn rc r _ (HS3.out.keep (keeps_of HB6.out)) hn8 HT.out (by have := HGT.out.k1; omega) HR6.out).mono ?_
                  rintro e w7 ⟨⟨⟨Q2, qn2, qc2⟩, y⟩, rfl, hq, hqo, hb7⟩
                  dsimp only at hq
                  subst hq
                  have HQ2 := Lib.hid hqo
                  have HQ1 := Lib.hid (HQ.out.keep (keeps_of hb7))
                  have HB8 := Lib.hid (Below.next HB6.out hb7)
                  have HB9 := Lib.hid (Below.next HB7.out hb7)
                  clear hqo HQ HB6 HB7
                  go_wp2_with fail
                  refine ⟨hb7, ?_⟩
                  unfold wpBlocks
                  refine wpQuiet_nil ?_
                  clear hb7
                  go_wp2_with fail
                  refine (comp_rw Q qn qc (keyT T r') Q2 qn2 qc2 (keyT T r) _ HQ1.out HQ2.out).mono ?_
                  rintro e w8 ⟨rfl, hb8⟩
                  have HBA := Lib.hid (Below.next HB8.out hb8)
                  have HBC := Lib.hid (Below.next HB9.out hb8)
                  clear HB8 HB9 HQ1 HQ2
                  by_cases hc : cmpR (keyT T r') (keyT T r) < 0
                  · have g5 : decide ((0 : Int) ≤ cmpR (keyT T r') (keyT T r)) = false := by simp; omega
                    rw [decide_eq_true hc, Bool.true_and] at Hs
                    clear hc
                    go_wp2_with fail
                    refine ⟨hb8, ?_⟩
                    unfold wpBlocks
                    repeat (go_big_quiet_step (fail))
                    refine wpQuiet_nil ?_
                    clear hb8
                    go_wp2
                    go_roundw
                    case rel => exact ⟨q + 1 + 1, by omega, by go_num, Lib.hid Hs.out, HBC⟩
                    case measure => simp [intOf]; omega
                  · have g5 : decide ((0 : Int) ≤ cmpR (keyT T r') (keyT T r)) = true := by simp; omega
                    rw [decide_eq_false hc, Bool.false_and] at Hs
                    have he := Hee2.out
                    rw [if_neg (by rw [← Hs.out]; simp)] at he
                    subst he
                    have HE := Lib.hid (HB3.out.trans (HBA.out.mono HB3.out.size))
                    clear hc
                    go_wp2_with fail
                    refine ⟨hb8, ?_⟩
                    unfold wpBlocks
                    repeat (go_big_quiet_step (fail))
                    refine wpQuiet_nil ?_
                    clear hb8
                    go_wp2
                    go_ret
                    exact ⟨rfl, HE.out⟩
            · obtain rfl : j = ln := by omega
              have Hx2 : Hid (tabsB (tbs.drop (k + 1)) ((stR ls).drop (k + 1)) = rr) := Lib.hid (by
                have := Hqj.out
                rw [List.drop_of_length_le (by rw [Hll.out]; exact Nat.le_refl _)] at this
                rw [Hx.out, ← this]
                rfl)
              go_wp2
              go_roundw
              case rel => exact ⟨k + 1, by omega, by go_num, Hx2, HB4⟩
              case measure => simp [intOf]; omega
        · obtain rfl : k = m := by omega
          have hf : rr = true := by
            rw [← Hq.out, List.drop_of_length_le (by rw [Hln.out]; exact Nat.le_refl _)]
            rfl
          have he := Hee2.out
          rw [if_pos hf] at he
          subst he
          have HE := Lib.hid (HB3.out.trans (HBr.out.mono HB3.out.size))
          go_wp2
          go_ret
          exact ⟨rfl, HE.out⟩
    · have g2 : ((m : Int) != (n : Int)) = true := by simp; omega
      rw [if_pos hmn] at Hee
      have he := Hee.out
      subst he
      clear hc
      go_wp2
      go_ret
      exact ⟨rfl, HB3.out⟩
set_option maxHeartbeats 4000000 in
theorem violL_any (ver : Int) (A : Option Addr) (n c : Nat) (tbs : List Tb) (B : Option Addr) (m cb : Nat) (ls : List TlP) (w : World) (hs : ScS w A n tbs) (hg : GoodS ver tbs) (hst : StS w B m ls) (hb : cntS (stR ls) ≤ 4611686018427387904) (hm : m ≤ 4000000) :
    Calls Tryz.prog 10 #[.agg #[.int .i64 ver, .slice A n c], .agg #[.slice B m cb]] w fun e w' => ViolO tbs (stR ls) w e w' := by
  have HB : Hid (Below w.heap.size w ((w.alloc (.cells #[.int .i64 ver, .slice A n c] 30)).alloc (.cells #[.slice B m cb] 25))) := Lib.hid (((Below.refl _ _).alloc (Nat.le_refl _) _).alloc (by simp) _)
  have HS := Lib.hid (hs.keep (keeps_of HB.out))
  have HST := Lib.hid (hst.keep (keeps_of HB.out))
  have HZ := Lib.hid ((Blk.new w 30 #[.int .i64 ver, .slice A n c]).alloc (.cells #[.slice B m cb] 25))
  have HY := Lib.hid (Blk.new (w.alloc (.cells #[.int .i64 ver, .slice A n c] 30)) 25 #[.slice B m cb])
  rw [World.size_alloc] at HY
  have HG := Lib.hid hg
  have Hln := Lib.hid hs.len
  have Hlm := Lib.hid hst.sl.len
  clear hs hst hg
  go_enter Tryz.func10, Tryz.ntmps10
  go_upto_region 1 with fail
  generalize hW : (w.alloc (.cells #[.int .i64 ver, .slice A n c] 30)).alloc (.cells #[.slice B m cb] 25) = w1 at *
  have z := HZ.out.cell
  have zy := HY.out.cell
  go_wp2_with fail
  refine (tcheckL_any ver A n c tbs B m cb ls _ HS.out HG.out HST.out hb hm).mono ?_
  rintro e w2 ⟨rfl, hb2⟩
  have HB2 := Lib.hid (HB.out.trans (hb2.mono HB.out.size))
  have HS2 := Lib.hid (HS.out.keep (keeps_of hb2))
  have HST2 := Lib.hid (HST.out.keep (keeps_of hb2))
  have z2 := (HZ.out.below hb2).cell
  have zy2 := (HY.out.below hb2).cell
  clear z zy hb2
  by_cases he : chkS tbs (stR ls) = 0
  · obtain ⟨h5, hl, hv⟩ := chkS_zero he
    have hls : (stR ls).length = m := by unfold stR; rw [List.length_map]; exact Hlm.out
    obtain rfl : m = n := by rw [← hls, hl, Hln.out]
    have HE := Lib.hid he
    rw [he]
    clear he hls hl
    go_wp2_with fail
    refine (find_any ver A m c tbs B cb ls 32 32 #[] #[] (fun _ _ => true) (fun _ _ => true) _ HS2.out HG.out HST2.out hv h5 ent_every ent_every (every_ok _ _) (every_ok _ _)).mono ?_
    rintro e w3 ⟨V, vn, vc, xs, rfl, hvn, hxs, hb3⟩
    have HR : Hid (ViolO tbs (stR ls) w (.returned (.tuple #[.slice V vn vc, .int .i64 0])) w3) := Lib.hid ⟨.inl ⟨HE.out, V, vn, vc, xs, rfl, hvn.mono HB2.out.size, hxs⟩, Below.next HB2.out hb3⟩
    clear hvn hxs hb3
    go_wp2
    exact bodyPost_ret (v := .tuple #[.slice V vn vc, .int .i64 0]) (by simp [results, Tryz.results10, go_sem]) rfl HR.out
  · have HR : Hid (ViolO tbs (stR ls) w (.returned (.tuple #[.slice none 0 0, .int .i64 (chkS tbs (stR ls))])) w2) := Lib.hid ⟨.inr ⟨he, rfl⟩, HB2.out⟩
    have g : (chkS tbs (stR ls) != 0) = true := by simpa using he
    generalize chkS tbs (stR ls) = ee at *
    clear he
    go_wp2
    exact bodyPost_ret (v := .tuple #[.slice none 0 0, .int .i64 ee]) (by simp [results, Tryz.results10, go_sem]) rfl HR.out
end Go.Proofs.YtponkkljlbifmaaGreat

/-
  The reference's Same of two lists of violations.
-/
namespace Go.Proofs.YtponkkljlbifmaaGreat
open Go.RowKit
set_option maxRecDepth 100000
open Pd

/-- a list of violations -/
structure VosS (w : World) (V : Option Addr) (n : Nat) (xs : List VoE) : Prop where
  sl : Sl 4 VoE.cs w V n xs
  ok : ∀ x ∈ xs, RowOk w x.p
theorem VosS.keep {w w' : World} {V : Option Addr} {n : Nat} {xs : List VoE} (h : VosS w V n xs) (hk : Keeps w w') : VosS w' V n xs := ⟨h.sl.keep hk, fun x hx => (h.ok x hx).keep hk⟩
theorem VosN.s {base : Nat} {w : World} {V : Option Addr} {n : Nat} {xs : List VoE} (h : VosN base w V n xs) : VosS w V n xs := ⟨h.sl, fun x hx => (h.keys x hx).ok⟩
theorem VosS.at {w : World} {V : Option Addr} {n : Nat} {xs : List VoE} (h : VosS w V n xs) {k : Nat} (hk : k < n) : ∃ (b o : Nat) (x : VoE), V = some ⟨b, o, none⟩ ∧ xs[k]? = some x ∧ RowOk w x.p ∧
    w.cell? ⟨b, o + k * 4, none⟩ = some (.int .i64 x.v.k) ∧ w.cell? ⟨b, o + k * 4 + 1, none⟩ = some (.int .i64 x.v.t) ∧ w.cell? ⟨b, o + k * 4 + 2, none⟩ = some (.slice x.A x.n x.c) ∧ w.cell? ⟨b, o + k * 4 + 3, none⟩ = some (.int .i64 x.v.ix) := by
  obtain ⟨b, o, x, hV, hx, hc⟩ := h.sl.at hk
  exact ⟨b, o, x, hV, hx, h.ok x (List.mem_of_getElem? hx), by simpa using hc 0 _ rfl, hc 1 _ rfl, hc 2 _ rfl, hc 3 _ rfl⟩
set_option maxHeartbeats 4000000 in
theorem rsame9_any (V : Option Addr) (n vc : Nat) (xs : List VoE) (U : Option Addr) (m uc : Nat) (ys : List VoE) (w : World) (hx : VosS w V n xs) (hy : VosS w U m ys) (hn : n ≤ 1000000) :
    Calls Tryz.prog 12 #[.slice V n vc, .slice U m uc] w fun e w' => e = .returned (.bool (decide (xs.map (·.v) = ys.map (·.v)))) ∧ Below w.heap.size w w' := by
  have HX := Lib.hid hx
  have HY := Lib.hid hy
  obtain ⟨q, Hq⟩ : ∃ z, Hid (decide (xs.map (·.v) = ys.map (·.v)) = z) := ⟨_, Lib.hid rfl⟩
  rw [Hq.out]
  clear hx hy
  go_enter Tryz.func12, Tryz.ntmps12
  by_cases hnm : n = m
  rotate_left
  · have g1 : ((n : Int) != (m : Int)) = true := by simp; omega
    have hq : false = q := by
      rw [← Hq.out]
      refine (decide_eq_false fun e => hnm ?_).symm
      have := congrArg List.length e
      rw [List.length_map, List.length_map, HX.out.sl.len, HY.out.sl.len] at this
      exact this
    subst hq
    clear hnm
    go_wp2
    go_ret
    exact ⟨rfl, Below.refl _ _⟩
  subst hnm
  have g1 : ((n : Int) != (n : Int)) = false := by simp
  go_wp2_with fail
  go_loopw [13] (fun i wr => ∃ k : Nat, k ≤ n ∧ i = .int .i64 (k : Int) ∧ Hid ((xs.map (·.v)).take k = (ys.map (·.v)).take k) ∧ Hid (Below w.heap.size w wr)) (fun i _ => n - (intOf i).toNat)
  case atStart => exact ⟨0, by omega, rfl, Lib.hid rfl, Lib.hid (Below.refl _ _)⟩
  case round =>
    obtain ⟨k, hk, rfl, Ht, HB⟩ := hrel
    by_cases hkn : k < n
    · obtain ⟨b, o, ⟨⟨xk, xt, xkey, xi⟩, XA, xn, xc⟩, rfl, hx, hxo, c0, c1, c2, c3⟩ := (HX.out.keep (keeps_of HB.out)).at hkn
      obtain ⟨b2, o2, ⟨⟨yk, yt, ykey, yi⟩, YA, yn, yc⟩, rfl, hy, hyo, d0, d1, d2, d3⟩ := (HY.out.keep (keeps_of HB.out)).at hkn
      dsimp only at c0 c1 c2 c3 d0 d1 d2 d3
      have HXo : Hid (RowOk wr.drew ((XA, xn, xc), xkey)) := Lib.hid (hxo.keep (Keeps.refl _).drew)
      have HYo : Hid (RowOk wr.drew ((YA, yn, yc), ykey)) := Lib.hid (hyo.keep (Keeps.refl _).drew)
      have hx1 : (xs.map (·.v))[k]? = some ⟨xk, xt, xkey, xi⟩ := by rw [List.getElem?_map, hx]; rfl
      have hy1 : (ys.map (·.v))[k]? = some ⟨yk, yt, ykey, yi⟩ := by rw [List.getElem?_map, hy]; rfl
      have Hne : Hid (∀ h : (⟨xk, xt, xkey, xi⟩ : Vo) ≠ ⟨yk, yt, ykey, yi⟩, false = q) := Lib.hid (fun h => by
        rw [← Hq.out]
        refine (decide_eq_false fun e => h ?_).symm
        rw [e, hy1] at hx1
        injection hx1 with hx1
        exact hx1.symm)
      have Heq : Hid ((⟨xk, xt, xkey, xi⟩ : Vo) = ⟨yk, yt, ykey, yi⟩ → (xs.map (·.v)).take (k + 1) = (ys.map (·.v)).take (k + 1)) := Lib.hid (fun h => by rw [take_snoc' hx1, take_snoc' hy1, h, Ht.out])
      have HBd : Hid (Below w.heap.size w wr.drew) := Lib.hid HB.out.drew
      clear hx hy hxo hyo hx1 hy1
      have e0 : wr.drew.cell? ⟨b, o + k * 4, none⟩ = some (.int .i64 xk) := c0
      have e1 : wr.drew.cell? ⟨b, o + k * 4 + 1, none⟩ = some (.int .i64 xt) := c1
      have e2 : wr.drew.cell? ⟨b, o + k * 4 + 2, none⟩ = some (.slice XA xn xc) := c2
      have e3 : wr.drew.cell? ⟨b, o + k * 4 + 3, none⟩ = some (.int .i64 xi) := c3
      have f0 : wr.drew.cell? ⟨b2, o2 + k * 4, none⟩ = some (.int .i64 yk) := d0
      have f1 : wr.drew.cell? ⟨b2, o2 + k * 4 + 1, none⟩ = some (.int .i64 yt) := d1
      have f2 : wr.drew.cell? ⟨b2, o2 + k * 4 + 2, none⟩ = some (.slice YA yn yc) := d2
      have f3 : wr.drew.cell? ⟨b2, o2 + k * 4 + 3, none⟩ = some (.int .i64 yi) := d3
      clear c0 c1 c2 c3 d0 d1 d2 d3
      obtain ⟨p0, hp0⟩ : ∃ p, (xk != yk) = p := ⟨_, rfl⟩
      obtain ⟨p1, hp1⟩ : ∃ p, (xt != yt) = p := ⟨_, rfl⟩
      obtain ⟨p2, hp2⟩ : ∃ p, (xi != yi) = p := ⟨_, rfl⟩
      have Hp : Hid ((p0 = false → xk = yk) ∧ (p0 = true → xk ≠ yk) ∧ (p1 = false → xt = yt) ∧ (p1 = true → xt ≠ yt) ∧ (p2 = false → xi = yi) ∧ (p2 = true → xi ≠ yi)) := Lib.hid (by subst hp0 hp1 hp2; simp)
      rcases p0 with _ | _
      rotate_left
      · go_wp2_with fail
        generalize hWn : wr.drew = Wn at *
        have hca := @cell_after Wn
        refine wp_region_seg [([0, 1, 2, 3, 4, 5, 6, 7, 8, 9, 10, 11, 12, 13, 14, 15, 16, 17, 18, 19, 20, 21, 22, 23, 24, 25, 26, 27, 28, 29, 30, 31, 32, 33, 34, 35, 36, 37, 38, 39, 40, 41, 42, 43, 44, 45, 46, 47], 48)] [49, 50] (by kernel_rfl) (by kernel_rfl) (fun _ _ d _ _ h => by cases d <;> exact h) ?_
        rw [hWn]
        clear hWn
        simp only [pickSegs, pickOps, opAt, List.map_cons, List.map_nil, List.getElem?_toArray, List.getElem?_cons_zero, List.getElem?_cons_succ, Option.getD_some]
        unfold wpBlocks
        repeat (go_big_quiet_step (fail))
        refine wpQuiet_nil ?_
        clear hca e0 e1 e2 e3 f0 f1 f2 f3
        have hq : false = q := Hne.out (fun e => Hp.out.2.1 (by simp) (by injection e))
        subst hq
        go_wp2_with fail
        refine ⟨Below.refl _ _, ?_⟩
        unfold wpBlocks
        repeat (go_big_quiet_step (fail))
        refine wpQuiet_nil ?_
        go_wp2
        go_ret
        exact ⟨rfl, HBd.out⟩
      rcases p1 with _ | _
      rotate_left
      · go_wp2_with fail
        generalize hWn : wr.drew = Wn at *
        have hca := @cell_after Wn
        refine wp_region_seg [([0, 1, 2, 3, 4, 5, 6, 7, 8, 9, 10, 11, 12, 13, 14, 15, 16, 17, 18, 19, 20, 21, 22, 23, 24, 25, 26, 27, 28, 29, 30, 31, 32, 33, 34, 35, 36, 37, 38, 39, 40, 41, 42, 43, 44, 45, 46, 47], 48)] [49, 50] (by kernel_rfl) (by kernel_rfl) (fun _ _ d _ _ h => by cases d <;> exact h) ?_
        rw [hWn]
        clear hWn
        simp only [pickSegs, pickOps, opAt, List.map_cons, List.map_nil, List.getElem?_toArray, List.getElem?_cons_zero, List.getElem?_cons_succ, Option.getD_some]
        unfold wpBlocks
        repeat (go_big_quiet_step (fail))
        refine wpQuiet_nil ?_
        clear hca e0 e1 e2 e3 f0 f1 f2 f3
        have hq : false = q := Hne.out (fun e => Hp.out.2.2.2.1 (by simp) (by injection e))
        subst hq
        go_wp2_with fail
        refine ⟨Below.refl _ _, ?_⟩
        unfold wpBlocks
        repeat (go_big_quiet_step (fail))
        refine wpQuiet_nil ?_
        go_wp2
        go_ret
        exact ⟨rfl, HBd.out⟩
      rcases p2 with _ | _
      rotate_left
      · go_wp2_with fail
        generalize hWn : wr.drew = Wn at *
        have hca := @cell_after Wn
        refine wp_region_seg [([0, 1, 2, 3, 4, 5, 6, 7, 8, 9, 10, 11, 12, 13, 14, 15, 16, 17, 18, 19, 20, 21, 22, 23, 24, 25, 26, 27, 28, 29, 30, 31, 32, 33, 34, 35, 36, 37, 38, 39, 40, 41, 42, 43, 44, 45, 46, 47], 48)] [49, 50] (by kernel_rfl) (by kernel_rfl) (fun _ _ d _ _ h => by cases d <;> exact h) ?_
        rw [hWn]
        clear hWn
        simp only [pickSegs, pickOps, opAt, List.map_cons, List.map_nil, List.getElem?_toArray, List.getElem?_cons_zero, List.getElem?_cons_succ, Option.getD_some]
        unfold wpBlocks
        repeat (go_big_quiet_step (fail))
        refine wpQuiet_nil ?_
        clear hca e0 e1 e2 e3 f0 f1 f2 f3
        have hq : false = q := Hne.out (fun e => Hp.out.2.2.2.2.2 (by simp) (by injection e))
        subst hq
        go_wp2_with fail
        refine ⟨Below.refl _ _, ?_⟩
        unfold wpBlocks
        repeat (go_big_quiet_step (fail))
        refine wpQuiet_nil ?_
        go_wp2
        go_ret
        exact ⟨rfl, HBd.out⟩
      go_wp2_with fail
      generalize hWn : wr.drew = Wn at *
      have hca := @cell_after Wn
      refine wp_region_seg [([0, 1, 2, 3, 4, 5, 6, 7, 8, 9, 10, 11, 12, 13, 14, 15, 16, 17, 18, 19, 20, 21, 22, 23, 24, 25, 26, 27, 28, 29, 30, 31, 32, 33, 34, 35, 36, 37, 38, 39, 40, 41, 42, 43, 44, 45, 46, 47], 48)] [49, 50] (by kernel_rfl) (by kernel_rfl) (fun _ _ d _ _ h => by cases d <;> exact h) ?_
      rw [hWn]
      clear hWn
      simp only [pickSegs, pickOps, opAt, List.map_cons, List.map_nil, List.getElem?_toArray, List.getElem?_cons_zero, List.getElem?_cons_succ, Option.getD_some]
      unfold wpBlocks
      repeat (go_big_quiet_step (fail))
      refine wpQuiet_nil ?_
      clear hca e0 e1 e2 e3 f0 f1 f2 f3
      go_wp2_with fail
      refine (rcomp_rw XA xn xc xkey YA yn yc ykey _ HXo.out HYo.out).mono ?_
      rintro e w2 ⟨rfl, hb2⟩
      have HB2 := Lib.hid (Below.next HBd.out hb2)
      by_cases hc : cmpR xkey ykey = 0
      · have hk : xkey = ykey := (cmpR_zero _ _).1 hc
        have Ht2 := Lib.hid (Heq.out (by have h1 := Hp.out; simp at h1; simp [h1, hk]))
        rw [hc]
        clear hc hk
        go_wp2_with fail
        refine ⟨hb2, ?_⟩
        unfold wpBlocks
        repeat (go_big_quiet_step (fail))
        refine wpQuiet_nil ?_
        clear hb2
        go_wp2
        go_roundw
        case rel => exact ⟨k + 1, by omega, by go_num, Ht2, HB2⟩
        case measure => simp [intOf]; omega
      · have g5 : (cmpR xkey ykey != 0) = true := by simpa using hc
        have hq : false = q := Hne.out (fun e => hc (by injection e with _ _ e _; rw [e, cmpR_self]))
        subst hq
        generalize cmpR xkey ykey = cc at *
        clear hc
        go_wp2_with fail
        refine ⟨hb2, ?_⟩
        unfold wpBlocks
        repeat (go_big_quiet_step (fail))
        refine wpQuiet_nil ?_
        clear hb2
        go_wp2
        go_ret
        exact ⟨rfl, HB2.out⟩
    · obtain rfl : k = n := by omega
      have hq : true = q := by
        rw [← Hq.out]
        refine (decide_eq_true ?_).symm
        have h := Ht.out
        rw [List.take_of_length_le (by rw [List.length_map, HX.out.sl.len]; exact Nat.le_refl _), List.take_of_length_le (by rw [List.length_map, HY.out.sl.len]; exact Nat.le_refl _)] at h
        exact h
      subst hq
      go_wp2
      go_ret
      exact ⟨rfl, HB.out⟩
end Go.Proofs.YtponkkljlbifmaaGreat

/-
  What the law's arguments are in memory, and that they read behind the call as before. No walk here.
-/
namespace Go.Proofs.YtponkkljlbifmaaGreat
open Go.ChangeShapes Go.WideShapes Go.ChangeAt Go.RowKit
set_option maxRecDepth 100000
open Go.ChangeMaps (open_string shut_string)

theorem own : ownKnob Tryz.prog.godebug = none := by kernel_rfl
theorem laidOut : laidOutB Tryz.prog = true := by kernel_rfl

section
variable {H : Type} {enc : TypeId × Value → H} {P : Program}
/-- the arguments read behind the call as before -/
theorem trodAll_below (hl : laidOutB P = true) {W W' : World} (hb : Below W.heap.size W W') : ∀ {ts : List TypeId} {vs : List Value} {ds : List (DataW H)} {ps : List MemPlace},
    (∀ t ∈ ts, P.readableRec t = true ∧ t < P.types.size) → DataW.TrodAll enc P W 0 (fun _ => true) true ts vs ds ps → (∀ x ∈ ps, x.block < W.heap.size) → DataW.TrodAll enc P W' 0 (fun b => decide (b < W.heap.size)) true ts vs ds ps
  | [], vs, ds, ps, _, h, _ => by
    obtain ⟨rfl, rfl, rfl⟩ := trodAll_nil h
    exact trodAll_mk0
  | t :: ts, vs, ds, ps, ht, h, hlt => by
    obtain ⟨v0, vs0, d0, ds0, p0, q0, rfl, rfl, rfl, h0, r0⟩ := trodAll_cons h
    have hr := ht t List.mem_cons_self
    exact trodAll_cons_mk (Below.trod hl hr.1 hr.2 h0 hb (fun x hx => hlt x (List.mem_append_left _ hx))) (trodAll_below hl hb (fun t h => ht t (List.mem_cons_of_mem _ h)) r0 (fun x hx => hlt x (List.mem_append_right _ hx)))
theorem okWide_slice_form {w : World} {r : Reach} {base : Nat} {t e : TypeId} {A : Option Addr} {n c : Nat} (ht : P.underlying t = some (.slice e)) (h : Value.okWide P w r base t (.slice A n c)) :
    (A = none → n = 0 ∧ c = 0) ∧ (∀ ad, A = some ad → ad.spot = none) ∧ n ≤ c ∧ c ≤ 9223372036854775807 := by
  simp only [Value.okWide, ht, Cell.okWide] at h
  cases A with
  | none =>
    unfold Cell.ok at h
    rw [ht] at h
    split at h <;> simp_all
  | some a =>
    unfold Cell.ok at h
    rw [ht] at h
    simp only at h
    obtain ⟨h1, h2, h3⟩ := h
    refine ⟨(fun h => by cases h), fun ad e => ?_, h1, ?_⟩
    · injection e with e
      rw [← e]
      exact h3.2.1
    · have : IntKind.i64.max = 9223372036854775807 := by decide
      omega
theorem trod_fields {w : World} {base : Nat} {sp : Nat → Bool} {hd : Bool} {fuel : Nat} {t : TypeId} {cs : List Value} {x : DataW H × List MemPlace} {fs : Array Field} (ht : P.underlying t = some (.struct fs)) (h : DataW.trod enc P w base sp hd fuel t cs = some x) :
    ∃ n, cs.length = P.cellsOf t ∧ ∀ (i : Nat) (f : Field), fs[i]? = some f → ∃ y, DataW.trod enc P w base sp hd n f.type ((cs.drop f.offset).take (P.cellsOf f.type)) = some y := by
  obtain ⟨ys, n, _, _, hl, hyl, hf⟩ := DataW.trod_struct ht h
  refine ⟨n, hl, fun i f hi => ?_⟩
  have hlt : i < ys.length := by rw [hyl]; exact (Array.getElem?_eq_some_iff.1 hi).1
  exact ⟨ys[i], (hf i f hi).trans (List.getElem?_eq_getElem hlt)⟩
end

theorem choose_list {α : Type} {Q : Nat → α → Prop} : ∀ n : Nat, (∀ i, i < n → ∃ y, Q i y) → ∃ l : List α, l.length = n ∧ ∀ i y, l[i]? = some y → Q i y
  | 0, _ => ⟨[], rfl, fun i y h => (by simp at h)⟩
  | n + 1, h => by
    obtain ⟨l, hl, hi⟩ := choose_list n (fun i hi => h i (by omega))
    obtain ⟨y, hy⟩ := h n (by omega)
    refine ⟨l ++ [y], by simp [hl], fun i z hz => ?_⟩
    rcases Nat.lt_or_ge i l.length with h | h
    · rw [List.getElem?_append_left h] at hz
      exact hi i z hz
    · rw [List.getElem?_append_right h] at hz
      have h0 : i - l.length = 0 := by
        have := (List.getElem?_eq_some_iff.1 hz).1
        simp at this
        omega
      rw [h0] at hz
      have : y = z := by simpa using hz
      rw [← this, show i = n by omega]
      exact hy
/-- a list of bytes as argument -/
theorem open_u8s {H : Type} {enc : TypeId × Value → H} {W : World} {base : Nat} {r : Reach} {b0 : Nat} {v : Value} {d : DataW H} {p : List MemPlace} (hv : Value.okWide Tryz.prog W r b0 22 v) (h : DataW.Trod enc Tryz.prog W base (fun _ => true) true 22 v d p) :
    ∃ (A : Option Addr) (n c : Nat) (zs : List Int), v = .slice A n c ∧ Sl 1 u8c W A n zs ∧ (∀ z ∈ zs, 0 ≤ z ∧ z ≤ 255) ∧ (A = none → n = 0 ∧ c = 0) ∧ (∀ ad, A = some ad → ad.spot = none) ∧ n ≤ c ∧ c ≤ 9223372036854775807 := by
  obtain ⟨A, n, c, rfl⟩ := okWide_slice Tryz.underlying22 hv
  obtain ⟨f1, f2, f3, f4⟩ := okWide_slice_form Tryz.underlying22 hv
  obtain ⟨fuel, hf⟩ := h
  have hf' : DataW.trod enc Tryz.prog W base (fun _ => true) true fuel 22 [.slice A n c] = some (d, p) := hf
  rcases open_ints Tryz.underlying22 Tryz.underlying5 (by kernel_rfl) hf' with ⟨h0, _⟩ | ⟨a, len, cap, zs, h0, hb, hl, hm, hzl, _, hc, hw⟩
  · injection h0 with h0
    injection h0 with e1 e2 e3
    subst e1 e2 e3
    exact ⟨none, 0, 0, [], rfl, Sl.nil, fun z hz => (by cases hz), fun _ => ⟨rfl, rfl⟩, fun ad e => (by cases e), Nat.le_refl _, by omega⟩
  · injection h0 with h0
    injection h0 with e1 e2 e3
    subst e1 e2 e3
    refine ⟨some a, n, c, zs.take n, rfl, ⟨?_, fun hn => ?_⟩, fun z hz => bounds_u8 (hw z (List.mem_of_mem_take hz)), f1, f2, f3, f4⟩
    · rw [List.length_take, hzl]; simp; omega
    · obtain ⟨b, o, sp⟩ := a
      obtain rfl : sp = none := f2 _ rfl
      refine ⟨b, o, rfl, fun k x hx j u hu => ?_⟩
      rw [List.getElem?_take] at hx
      split at hx
      · rename_i hk
        rcases j with _ | j
        · simp only [u8c, List.getElem?_cons_zero, Option.some.injEq] at hu
          subst hu
          have hkl := (List.getElem?_eq_some_iff.1 hx).1
          have := hc k hkl
          rw [add_at] at this
          rw [Nat.mul_one, Nat.add_zero, this, List.getD, hx]
          rfl
        · simp [u8c] at hu
      · cases hx
theorem trod_vl {H : Type} {enc : TypeId × Value → H} {W : World} {base : Nat} {sp : Nat → Bool} {hd : Bool} {fuel : Nat} {cs : List Value} {x : DataW H × List MemPlace} (h : DataW.trod enc Tryz.prog W base sp hd fuel 67 cs = some x) :
    ∃ y : Vl, cs = y.cs ∧ y.t.size ≤ 9223372036854775807 := by
  obtain ⟨n, hl, g⟩ := trod_fields Tryz.underlying67 h
  have hl' : cs.length = 3 := hl.trans (by kernel_rfl)
  match cs, hl' with
  | [v0, v1, v2], _ =>
    obtain ⟨y0, g0⟩ := g 0 _ rfl
    obtain ⟨y1, g1⟩ := g 1 _ rfl
    obtain ⟨y2, g2⟩ := g 2 _ rfl
    obtain ⟨a, e0, _, _⟩ := DataW.trod_int (k := .i64) (by kernel_rfl) g0
    obtain ⟨b, e1, _, _⟩ := DataW.trod_int (k := .i64) (by kernel_rfl) g1
    obtain ⟨s, e2, _, hs⟩ := DataW.trod_string (by kernel_rfl) g2
    have f0 : v0 = .int .i64 a := by
      have : [v0] = [.int .i64 a] := e0
      injection this
    have f1 : v1 = .int .i64 b := by
      have : [v1] = [.int .i64 b] := e1
      injection this
    have f2 : v2 = .string s := by
      have : [v2] = [.string s] := e2
      injection this
    subst f0 f1 f2
    exact ⟨⟨a, b, s⟩, rfl, hs⟩
end Go.Proofs.YtponkkljlbifmaaGreat
