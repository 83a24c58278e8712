/-
  Texts: IgCV.
-/
import Derived.Test.YtponkkljlbifmaaGreatH28
set_option linter.unusedVariables false
/-
  The program's valid: which changes are valid, in the mode of the server.
-/
namespace Go.Proofs.YtponkkljlbifmaaGreat
open Go.RowKit
set_option maxRecDepth 100000
open Pd

set_option maxHeartbeats 4000000 in
theorem tvalid_any (ver : Int) (A : Option Addr) (n c : Nat) (tbs : List Tb) (t : Int) (OA : Option Addr) (on oc : Nat) (o : Rw) (NA : Option Addr) (nn nc : Nat) (r : Rw) (w : World) (hs : ScS w A n tbs) (hg : GoodS ver tbs) (ho : RowOk w ((OA, on, oc), o)) (hr : RowOk w ((NA, nn, nc), r)) :
    Calls Tryz.prog 47 #[.agg #[.int .i64 ver, .slice A n c], .int .i64 1, .agg #[.int .i64 t, .slice OA on oc, .slice NA nn nc]] w fun e w' => e = .returned (.bool (validC tbs ⟨t, o, r⟩)) ∧ Below w.heap.size w w' := by
  have HB : Hid (Below w.heap.size w ((w.alloc (.cells #[.int .i64 ver, .slice A n c] 30)).alloc (.cells #[.int .i64 t, .slice OA on oc, .slice NA nn nc] 91))) := Lib.hid (((Below.refl _ _).alloc (Nat.le_refl _) _).alloc (by simp) _)
  have HS := Lib.hid (hs.keep (keeps_of HB.out))
  have HO := Lib.hid (ho.keep (keeps_of HB.out))
  have HR := Lib.hid (hr.keep (keeps_of HB.out))
  have HZ := Lib.hid ((Blk.new w 30 #[.int .i64 ver, .slice A n c]).alloc (.cells #[.int .i64 t, .slice OA on oc, .slice NA nn nc] 91))
  have HY := Lib.hid (Blk.new (w.alloc (.cells #[.int .i64 ver, .slice A n c] 30)) 91 #[.int .i64 t, .slice OA on oc, .slice NA nn nc])
  rw [World.size_alloc] at HY
  have HG := Lib.hid hg
  have Hln := Lib.hid hs.len
  have Hol := Lib.hid ho.rd.len
  have Hrl := Lib.hid hr.rd.len
  have hn8 : n ≤ 8 := by have := hg.ln; have := Hln.out; omega
  obtain ⟨vb, Hvb⟩ : ∃ z, Hid (validC tbs ⟨t, o, r⟩ = z) := ⟨_, Lib.hid rfl⟩
  rw [Hvb.out]
  clear hs ho hr hg
  have i0 : ∀ w, (Instr.index 119 (.agg #[.slice OA on oc, .slice NA nn nc]) (.int .i64 0)).run Tryz.prog w = .ok (.slice OA on oc) w := fun _ => by kernel_rfl
  have i1 : ∀ w, (Instr.index 119 (.agg #[.slice OA on oc, .slice NA nn nc]) (.int .i64 1)).run Tryz.prog w = .ok (.slice NA nn nc) w := fun _ => by kernel_rfl
  go_enter Tryz.func47, Tryz.ntmps47
  go_upto_region 1 with fail
  generalize hW : (w.alloc (.cells #[.int .i64 ver, .slice A n c] 30)).alloc (.cells #[.int .i64 t, .slice OA on oc, .slice NA nn nc] 91) = w1 at *
  have z := HZ.out.cell
  have zy := HY.out.cell
  by_cases ht0 : t < 0
  · have g1 : decide (t < 0) = true := by simp [ht0]
    have hv : false = vb := by rw [← Hvb.out]; unfold validC tabC; rw [if_neg (by show ¬ 0 ≤ t; omega)]
    subst hv
    have HE := Lib.hid HB.out
    go_wp2
    go_ret
    exact ⟨rfl, HE.out⟩
  have g1 : decide (t < 0) = false := by simp; omega
  obtain ⟨t, rfl⟩ := Int.eq_ofNat_of_zero_le (show 0 ≤ t by omega)
  clear ht0
  by_cases htn : n ≤ t
  · have g2 : decide (n ≤ t) = true := by simp [htn]
    have hv : false = vb := by
      rw [← Hvb.out]; unfold validC tabC
      rw [if_pos (by show 0 ≤ (t : Int); omega)]
      have : tbs[(Int.ofNat t).toNat]? = none := List.getElem?_eq_none (by rw [Hln.out]; simpa using htn)
      show false = (match tbs[(Int.ofNat t).toNat]? with | none => false | some T => _)
      rw [this]
    subst hv
    have HE := Lib.hid HB.out
    go_wp2
    go_ret
    exact ⟨rfl, HE.out⟩
  have g2 : decide (n ≤ t) = false := by simp; omega
  obtain ⟨T, hT⟩ : ∃ T, tbs[t]? = some T := ⟨_, List.getElem?_eq_getElem (by rw [Hln.out]; omega)⟩
  have HT := Lib.hid hT
  have HGT := Lib.hid (HG.out.tb T (List.mem_of_getElem? hT))
  replace Hvb : Hid (okC T ⟨t, o, r⟩ = vb) := Lib.hid (by
    rw [← Hvb.out]; unfold validC tabC
    rw [if_pos (by show 0 ≤ (t : Int); omega)]
    show _ = (match tbs[(t : Int).toNat]? with | none => false | some T => _)
    rw [Int.toNat_natCast, hT])
  clear hT htn
  have hol : o.length = on := Hol.out
  have hrl : r.length = nn := Hrl.out
  have Hv2 : Hid (((!(decide (on = 0) && decide (nn = 0))) && (decide (on = 0) || fitsB T o) && (decide (nn = 0) || fitsB T r) && (decide (on = 0) || decide (nn = 0) || decide (cmpR (keyT T o) (keyT T r) = 0))) = vb) := Lib.hid (by
    rw [← Hvb.out]; unfold okC; simp only [hol, hrl])
  clear hol hrl Hvb Hol Hrl
  obtain ⟨b0, hb0⟩ : ∃ b, decide (on = 0) = b := ⟨_, rfl⟩
  obtain ⟨b1, hb1⟩ : ∃ b, decide (nn = 0) = b := ⟨_, rfl⟩
  rw [hb0, hb1] at Hv2
  have g3 : ((on : Int) == 0) = b0 := by rw [← hb0]; by_cases h : on = 0 <;> simp [h]
  have g4 : ((nn : Int) == 0) = b1 := by rw [← hb1]; by_cases h : nn = 0 <;> simp [h]
  have g5 : decide (0 < on) = !b0 := by rw [← hb0]; by_cases h : on = 0 <;> simp [h]; omega
  have g6 : decide (0 < nn) = !b1 := by rw [← hb1]; by_cases h : nn = 0 <;> simp [h]; omega
  clear hb0 hb1
  cases b0
  · cases b1
    · go_wp2_with fail
      clear z zy
      go_loopw [37] (fun i wr => Hid (Below w1.heap.size w1 wr) ∧ ((i = .int .i64 0) ∨ (i = .int .i64 1 ∧ Hid ((false || fitsB T o) = true)) ∨ (i = .int .i64 2 ∧ Hid ((false || fitsB T o) = true) ∧ Hid ((false || fitsB T r) = true)))) (fun i _ => 2 - (intOf i).toNat)
      case atStart => exact ⟨Lib.hid (Below.refl _ _), .inl rfl⟩
      case round =>
        obtain ⟨HBr, rfl | ⟨rfl, HF0⟩ | ⟨rfl, HF0, HF1⟩⟩ := hrel
        · have z := (HZ.out.below HBr.out).cell
          have zy := (HY.out.below HBr.out).cell
          go_wp2_with fail
          refine (fits_any ver A n c tbs t T OA on oc o _ (HS.out.keep (keeps_of HBr.out)) hn8 HT.out HGT.out.cl (HO.out.rd.keep (keeps_of HBr.out))).mono ?_
          rintro e w5 ⟨rfl, hb5⟩
          have HB5 := Lib.hid (Below.next HBr.out hb5)
          clear hb5 z zy
          obtain ⟨f, Hf⟩ : ∃ z, Hid (fitsB T o = z) := ⟨_, Lib.hid rfl⟩
          rw [Hf.out]
          cases f
          · have hv : false = vb := by rw [← Hv2.out, Hf.out]; simp
            subst hv
            have HE := Lib.hid (HB.out.trans (HB5.out.mono HB.out.size))
            go_wp2
            go_ret
            exact ⟨rfl, HE.out⟩
          · go_wp2
            go_roundw
            case rel => exact ⟨HB5, .inr (.inl ⟨rfl, Lib.hid (by rw [Hf.out]; rfl)⟩)⟩
            case measure => simp [intOf]
        · have z := (HZ.out.below HBr.out).cell
          have zy := (HY.out.below HBr.out).cell
          go_wp2_with fail
          refine (fits_any ver A n c tbs t T NA nn nc r _ (HS.out.keep (keeps_of HBr.out)) hn8 HT.out HGT.out.cl (HR.out.rd.keep (keeps_of HBr.out))).mono ?_
          rintro e w5 ⟨rfl, hb5⟩
          have HB5 := Lib.hid (Below.next HBr.out hb5)
          clear hb5 z zy
          obtain ⟨f, Hf⟩ : ∃ z, Hid (fitsB T r = z) := ⟨_, Lib.hid rfl⟩
          rw [Hf.out]
          cases f
          · have hv : false = vb := by rw [← Hv2.out, Hf.out]; simp
            subst hv
            have HE := Lib.hid (HB.out.trans (HB5.out.mono HB.out.size))
            go_wp2
            go_ret
            exact ⟨rfl, HE.out⟩
          · go_wp2
            go_roundw
            case rel => exact ⟨HB5, .inr (.inr ⟨rfl, HF0, Lib.hid (by rw [Hf.out]; rfl)⟩)⟩
            case measure => simp [intOf]
        · have HBd : Hid (Below w1.heap.size w1 wr.drew) := Lib.hid HBr.out.drew
          have zb : ∀ i, wr.drew.cell? ⟨w.heap.size, i, none⟩ = (#[.int .i64 ver, .slice A n c] : Array Value)[i]? := (HZ.out.below HBr.out).cell
          have zy : ∀ i, wr.drew.cell? ⟨w.heap.size + 1, i, none⟩ = (#[.int .i64 (t : Int), .slice OA on oc, .slice NA nn nc] : Array Value)[i]? := (HY.out.below HBr.out).cell
          clear HBr
          go_wp2_with fail
          generalize hWn : wr.drew = Wn at *
          have hca := @cell_after Wn
          refine wp_region_seg [([0, 1, 2, 3, 4, 5, 6, 7, 8, 9, 10, 11, 12, 13, 14, 15, 17, 18, 19, 20, 21], 16), ([], 22), ([], 23)] [24, 25] (by kernel_rfl) (by kernel_rfl) (fun _ _ d _ _ h => by cases d <;> exact h) ?_
          rw [hWn]
          clear hWn
          simp only [pickSegs, pickOps, opAt, List.map_cons, List.map_nil, List.getElem?_toArray, List.getElem?_cons_zero, List.getElem?_cons_succ, Option.getD_some]
          unfold wpBlocks
          repeat (go_big_quiet_step (fail))
          refine wpQuiet_nil ?_
          clear hca zb zy
          have h0 : 0 ≤ T.key := by have := HGT.out.k1; omega
          go_wp2_with fail
          refine (prefix_any ver A n c tbs t T OA on oc o _ (HS.out.keep (keeps_of HBd.out)) hn8 HT.out h0 (HO.out.keep (keeps_of HBd.out))).mono ?_
          rintro e w6 ⟨⟨⟨Q, qn, qc⟩, y⟩, rfl, hq, hqo, hb6⟩
          dsimp only at hq
          subst hq
          have HQ := Lib.hid hqo
          have HB6 := Lib.hid (Below.next HBd.out hb6)
          clear hqo HBd
          go_wp2_with fail
          refine ⟨hb6, ?_⟩
          unfold wpBlocks
          refine wpQuiet_nil ?_
          clear hb6
          go_wp2_with fail
          refine (prefix_any ver A n c tbs t T NA nn nc r _ (HS.out.keep (keeps_of HB6.out)) hn8 HT.out h0 (HR.out.keep (keeps_of HB6.out))).mono ?_
          rintro e w7 ⟨⟨⟨Q2, qn2, qc2⟩, y⟩, rfl, hq, hqo, hb7⟩
          dsimp only at hq
          subst hq
          have HQ2 := Lib.hid hqo
          have HQ1 := Lib.hid (HQ.out.keep (keeps_of hb7))
          have HB7 := Lib.hid (Below.next HB6.out hb7)
          clear hqo HQ HB6
          go_wp2_with fail
          refine ⟨hb7, ?_⟩
          unfold wpBlocks
          refine wpQuiet_nil ?_
          clear hb7
          go_wp2_with fail
          refine (tequal_any Q qn qc (keyT T o) Q2 qn2 qc2 (keyT T r) _ HQ1.out HQ2.out).mono ?_
          rintro e w8 ⟨rfl, hb8⟩
          have HB8 := Lib.hid (Below.next HB7.out hb8)
          clear HQ1 HQ2 HB7
          obtain ⟨q, Hq⟩ : ∃ z, Hid (decide (cmpR (keyT T o) (keyT T r) = 0) = z) := ⟨_, Lib.hid rfl⟩
          rw [Hq.out]
          have hv : q = vb := by rw [← Hv2.out, Hq.out]; have h1 := HF0.out; have h2 := HF1.out; simp at h1 h2; simp [h1, h2]
          subst hv
          have HE := Lib.hid (HB.out.trans (HB8.out.mono HB.out.size))
          go_wp2_with fail
          refine ⟨hb8, ?_⟩
          unfold wpBlocks
          repeat (go_big_quiet_step (fail))
          refine wpQuiet_nil ?_
          clear hb8
          go_wp2
          go_ret
          exact ⟨rfl, HE.out⟩
    · go_wp2_with fail
      clear z zy
      go_loopw [37] (fun i wr => Hid (Below w1.heap.size w1 wr) ∧ ((i = .int .i64 0) ∨ (i = .int .i64 1 ∧ Hid ((false || fitsB T o) = true)) ∨ (i = .int .i64 2 ∧ Hid ((false || fitsB T o) = true) ∧ Hid ((true || fitsB T r) = true)))) (fun i _ => 2 - (intOf i).toNat)
      case atStart => exact ⟨Lib.hid (Below.refl _ _), .inl rfl⟩
      case round =>
        obtain ⟨HBr, rfl | ⟨rfl, HF0⟩ | ⟨rfl, HF0, HF1⟩⟩ := hrel
        · have z := (HZ.out.below HBr.out).cell
          have zy := (HY.out.below HBr.out).cell
          go_wp2_with fail
          refine (fits_any ver A n c tbs t T OA on oc o _ (HS.out.keep (keeps_of HBr.out)) hn8 HT.out HGT.out.cl (HO.out.rd.keep (keeps_of HBr.out))).mono ?_
          rintro e w5 ⟨rfl, hb5⟩
          have HB5 := Lib.hid (Below.next HBr.out hb5)
          clear hb5 z zy
          obtain ⟨f, Hf⟩ : ∃ z, Hid (fitsB T o = z) := ⟨_, Lib.hid rfl⟩
          rw [Hf.out]
          cases f
          · have hv : false = vb := by rw [← Hv2.out, Hf.out]; simp
            subst hv
            have HE := Lib.hid (HB.out.trans (HB5.out.mono HB.out.size))
            go_wp2
            go_ret
            exact ⟨rfl, HE.out⟩
          · go_wp2
            go_roundw
            case rel => exact ⟨HB5, .inr (.inl ⟨rfl, Lib.hid (by rw [Hf.out]; rfl)⟩)⟩
            case measure => simp [intOf]
        · go_wp2
          go_roundw
          case rel => exact ⟨HBr, .inr (.inr ⟨rfl, HF0, Lib.hid rfl⟩)⟩
          case measure => simp [intOf]
        · have HBd : Hid (Below w1.heap.size w1 wr.drew) := Lib.hid HBr.out.drew
          have zb : ∀ i, wr.drew.cell? ⟨w.heap.size, i, none⟩ = (#[.int .i64 ver, .slice A n c] : Array Value)[i]? := (HZ.out.below HBr.out).cell
          have zy : ∀ i, wr.drew.cell? ⟨w.heap.size + 1, i, none⟩ = (#[.int .i64 (t : Int), .slice OA on oc, .slice NA nn nc] : Array Value)[i]? := (HY.out.below HBr.out).cell
          clear HBr
          go_wp2_with fail
          generalize hWn : wr.drew = Wn at *
          have hca := @cell_after Wn
          refine wp_region_seg [([0, 1, 2, 3, 4, 5, 6, 7, 8, 9, 10, 11, 12, 13, 14, 15, 17, 18, 19, 20, 21], 16), ([], 22), ([], 23)] [24, 25] (by kernel_rfl) (by kernel_rfl) (fun _ _ d _ _ h => by cases d <;> exact h) ?_
          rw [hWn]
          clear hWn
          simp only [pickSegs, pickOps, opAt, List.map_cons, List.map_nil, List.getElem?_toArray, List.getElem?_cons_zero, List.getElem?_cons_succ, Option.getD_some]
          unfold wpBlocks
          repeat (go_big_quiet_step (fail))
          refine wpQuiet_nil ?_
          clear hca zb zy
          have hv : true = vb := by rw [← Hv2.out]; have h := HF0.out; simp at h; simp [h]
          subst hv
          have HE := Lib.hid (HB.out.trans (HBd.out.mono HB.out.size))
          go_wp2_with fail
          refine ⟨Below.refl _ _, ?_⟩
          unfold wpBlocks
          refine wpQuiet_nil ?_
          go_wp2_with fail
          refine ⟨Below.refl _ _, ?_⟩
          unfold wpBlocks
          refine wpQuiet_nil ?_
          go_wp2_with fail
          refine ⟨Below.refl _ _, ?_⟩
          unfold wpBlocks
          repeat (go_big_quiet_step (fail))
          refine wpQuiet_nil ?_
          go_wp2
          go_ret
          exact ⟨rfl, HE.out⟩
  · cases b1
    · go_wp2_with fail
      clear z zy
      go_loopw [37] (fun i wr => Hid (Below w1.heap.size w1 wr) ∧ ((i = .int .i64 0) ∨ (i = .int .i64 1 ∧ Hid ((true || fitsB T o) = true)) ∨ (i = .int .i64 2 ∧ Hid ((true || fitsB T o) = true) ∧ Hid ((false || fitsB T r) = true)))) (fun i _ => 2 - (intOf i).toNat)
      case atStart => exact ⟨Lib.hid (Below.refl _ _), .inl rfl⟩
      case round =>
        obtain ⟨HBr, rfl | ⟨rfl, HF0⟩ | ⟨rfl, HF0, HF1⟩⟩ := hrel
        · go_wp2
          go_roundw
          case rel => exact ⟨HBr, .inr (.inl ⟨rfl, Lib.hid rfl⟩)⟩
          case measure => simp [intOf]
        · have z := (HZ.out.below HBr.out).cell
          have zy := (HY.out.below HBr.out).cell
          go_wp2_with fail
          refine (fits_any ver A n c tbs t T NA nn nc r _ (HS.out.keep (keeps_of HBr.out)) hn8 HT.out HGT.out.cl (HR.out.rd.keep (keeps_of HBr.out))).mono ?_
          rintro e w5 ⟨rfl, hb5⟩
          have HB5 := Lib.hid (Below.next HBr.out hb5)
          clear hb5 z zy
          obtain ⟨f, Hf⟩ : ∃ z, Hid (fitsB T r = z) := ⟨_, Lib.hid rfl⟩
          rw [Hf.out]
          cases f
          · have hv : false = vb := by rw [← Hv2.out, Hf.out]; simp
            subst hv
            have HE := Lib.hid (HB.out.trans (HB5.out.mono HB.out.size))
            go_wp2
            go_ret
            exact ⟨rfl, HE.out⟩
          · go_wp2
            go_roundw
            case rel => exact ⟨HB5, .inr (.inr ⟨rfl, HF0, Lib.hid (by rw [Hf.out]; rfl)⟩)⟩
            case measure => simp [intOf]
        · have HBd : Hid (Below w1.heap.size w1 wr.drew) := Lib.hid HBr.out.drew
          have zb : ∀ i, wr.drew.cell? ⟨w.heap.size, i, none⟩ = (#[.int .i64 ver, .slice A n c] : Array Value)[i]? := (HZ.out.below HBr.out).cell
          have zy : ∀ i, wr.drew.cell? ⟨w.heap.size + 1, i, none⟩ = (#[.int .i64 (t : Int), .slice OA on oc, .slice NA nn nc] : Array Value)[i]? := (HY.out.below HBr.out).cell
          clear HBr
          go_wp2_with fail
          generalize hWn : wr.drew = Wn at *
          have hca := @cell_after Wn
          refine wp_region_seg [([0, 1, 2, 3, 4, 5, 6, 7, 8, 9, 10, 11, 12, 13, 14, 15, 17, 18, 19, 20, 21], 16), ([], 22), ([], 23)] [24, 25] (by kernel_rfl) (by kernel_rfl) (fun _ _ d _ _ h => by cases d <;> exact h) ?_
          rw [hWn]
          clear hWn
          simp only [pickSegs, pickOps, opAt, List.map_cons, List.map_nil, List.getElem?_toArray, List.getElem?_cons_zero, List.getElem?_cons_succ, Option.getD_some]
          unfold wpBlocks
          repeat (go_big_quiet_step (fail))
          refine wpQuiet_nil ?_
          clear hca zb zy
          have hv : true = vb := by rw [← Hv2.out]; have h := HF1.out; simp at h; simp [h]
          subst hv
          have HE := Lib.hid (HB.out.trans (HBd.out.mono HB.out.size))
          go_wp2_with fail
          refine ⟨Below.refl _ _, ?_⟩
          unfold wpBlocks
          refine wpQuiet_nil ?_
          go_wp2_with fail
          refine ⟨Below.refl _ _, ?_⟩
          unfold wpBlocks
          refine wpQuiet_nil ?_
          go_wp2_with fail
          refine ⟨Below.refl _ _, ?_⟩
          unfold wpBlocks
          repeat (go_big_quiet_step (fail))
          refine wpQuiet_nil ?_
          go_wp2
          go_ret
          exact ⟨rfl, HE.out⟩
    · have hv : false = vb := by rw [← Hv2.out]; rfl
      subst hv
      have HE := Lib.hid HB.out
      go_wp2
      go_ret
      exact ⟨rfl, HE.out⟩
end Go.Proofs.YtponkkljlbifmaaGreat
