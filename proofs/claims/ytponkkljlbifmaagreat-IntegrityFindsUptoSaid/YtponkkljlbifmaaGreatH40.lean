/-
  Texts: IgRSC, IgR8, IgRGet.
-/
import Derived.Test.YtponkkljlbifmaaGreatH39
import Derived.Test.YtponkkljlbifmaaGreatH26
set_option linter.unusedVariables false
/-
  The reference's Check of a good schema.
-/
namespace Go.Proofs.YtponkkljlbifmaaGreat
open Go.RowKit
set_option maxRecDepth 100000
open Pd

set_option maxRecDepth 100000 in
set_option maxHeartbeats 8000000 in
theorem rscheck_any (ver : Int) (A : Option Addr) (n c : Nat) (tbs : List Tb) (w : World) (hs : ScS w A n tbs) (hg : GoodS ver tbs) :
    Calls Tryz.prog 62 #[.agg #[.int .i64 ver, .slice A n c]] w fun e w' => e = .returned (.int .i64 0) ∧ Below w.heap.size w w' := by
  have Hln := Lib.hid hs.len
  have hn8 : n ≤ 8 := by have := hg.ln; have := Hln.out; omega
  have HG := Lib.hid hg
  have HS := Lib.hid (hs.keep (keeps_alloc w (.cells #[.int .i64 ver, .slice A n c] 30)))
  have HZ := Lib.hid (Blk.new w 30 #[.int .i64 ver, .slice A n c])
  have HB := Lib.hid ((Below.refl w.heap.size w).alloc (Nat.le_refl _) (.cells #[.int .i64 ver, .slice A n c] 30))
  have hW1 : (w.alloc (.cells #[.int .i64 ver, .slice A n c] 30)).heap.size = w.heap.size + 1 := World.size_alloc _ _
  have g1 : decide ((8 : Int) < (n : Int)) = false := by simp; omega
  have g2 : decide (ver < 0) = false := by have := hg.v0; simp; omega
  have g3 : decide ((1000 : Int) < ver) = false := by have := hg.v1; simp; omega
  clear hs hg
  go_enter Tryz.func62, Tryz.ntmps62
  go_upto_region 1 with fail
  generalize hW : w.alloc (.cells #[.int .i64 ver, .slice A n c] 30) = w1 at *
  have z := HZ.out.cell
  go_wp2_with fail
  go_loopw [18] (fun i wr => ∃ k : Nat, k ≤ n ∧ i = .int .i64 (k : Int) ∧ Hid (Below w1.heap.size w1 wr)) (fun i _ => n - (intOf i).toNat)
  case atStart => exact ⟨0, by omega, rfl, Lib.hid (Below.refl _ _)⟩
  case round =>
    obtain ⟨k, hk, rfl, HBr⟩ := hrel
    clear z g1
    by_cases hlt : k < n
    · obtain ⟨b, o, ⟨T, ⟨A1, n1, k1⟩, ⟨A2, n2, k2⟩, ⟨A3, n3, k3⟩⟩, rfl, hT, hok, c0, c1, c2, c3, c4⟩ := (HS.out.keep (keeps_of HBr.out)).at hlt
      dsimp only at hT c0 c1 c2 c3 c4
      have hGT := HG.out.tb T (List.mem_of_getElem? hT)
      obtain ⟨xs, hrs⟩ := hok.rs
      obtain ⟨ys, hhs⟩ := hok.hs
      have g4 : decide ((8 : Int) < (n1 : Int)) = false := by have := hok.cs.len; have := hGT.cl; simp only at *; simp; omega
      have g5 : decide ((4 : Int) < (n2 : Int)) = false := by have := hrs.len; have := hGT.rl; simp only at *; simp; omega
      have g6 : decide ((4 : Int) < (n3 : Int)) = false := by have := hhs.len; have := hGT.hl; simp only at *; simp; omega
      have HX := Lib.hid (Blk.new wr 62 #[.string T.nm, .slice A1 n1 k1, .int .i64 T.key, .slice A2 n2 k2, .slice A3 n3 k3])
      have HBx := Lib.hid (HBr.out.alloc HBr.out.size (.cells #[.string T.nm, .slice A1 n1 k1, .int .i64 T.key, .slice A2 n2 k2, .slice A3 n3 k3] 62))
      have zx := HX.out.cell
      clear hT hGT hok hrs hhs HBr
      go_wp2
      go_roundw
      case rel => exact ⟨k + 1, by omega, by go_num, HBx⟩
      case measure => simp [intOf]; omega
    · obtain rfl : k = n := by omega
      have z := (HZ.out.below HBr.out).cell
      go_wp2_with fail
      go_loopw [50] (fun i wr => ∃ j : Nat, j ≤ k ∧ i = .int .i64 (j : Int) ∧ Hid (Below w1.heap.size w1 wr)) (fun i _ => k - (intOf i).toNat)
      case atStart => exact ⟨0, by omega, rfl, HBr⟩
      case round =>
        clear HBr
        obtain ⟨j, hj, rfl, HBr⟩ := hrel
        clear z
        by_cases hjk : j < k
        · obtain ⟨T, hT⟩ : ∃ T, tbs[j]? = some T := ⟨_, List.getElem?_eq_getElem (by have := Hln.out; omega)⟩
          have HT := Lib.hid hT
          have z := (HZ.out.below HBr.out).cell
          clear hT
          go_wp2_with fail
          refine (rtable_any ver _ k c tbs j T _ (HS.out.keep (keeps_of HBr.out)) HG.out HT.out).mono ?_
          rintro e w2 ⟨rfl, hb2⟩
          have HB2 := Lib.hid (Below.next HBr.out hb2)
          clear hb2 z HBr
          go_wp2
          go_roundw
          case rel => exact ⟨j + 1, by omega, by go_num, HB2⟩
          case measure => simp [intOf]; omega
        · obtain rfl : j = k := by omega
          have z := (HZ.out.below HBr.out).cell
          go_wp2_with fail
          go_loopw [61] (fun i wr => ∃ q : Nat, q ≤ j ∧ i = .int .i64 (q : Int) ∧ Hid (Below w1.heap.size w1 wr)) (fun i _ => j - (intOf i).toNat)
          case atStart => exact ⟨0, by omega, rfl, HBr⟩
          case round =>
            clear HBr
            obtain ⟨q, hq, rfl, HBr⟩ := hrel
            clear z
            by_cases hqk : q < j
            · obtain ⟨T, hT⟩ : ∃ T, tbs[q]? = some T := ⟨_, List.getElem?_eq_getElem (by have := Hln.out; omega)⟩
              have HT := Lib.hid hT
              have z := (HZ.out.below HBr.out).cell
              clear hT
              go_wp2_with fail
              refine (rrefs_any ver _ j c tbs q T _ (HS.out.keep (keeps_of HBr.out)) HG.out HT.out).mono ?_
              rintro e w2 ⟨rfl, hb2⟩
              have HB2 := Lib.hid (Below.next HBr.out hb2)
              clear hb2 z HBr
              go_wp2
              go_roundw
              case rel => exact ⟨q + 1, by omega, by go_num, HB2⟩
              case measure => simp [intOf]; omega
            · obtain rfl : q = j := by omega
              have z := (HZ.out.below HBr.out).cell
              go_wp2_with fail
              go_loopw [72] (fun i wr => ∃ j : Nat, j ≤ q ∧ i = .int .i64 (j : Int) ∧ Hid (Below w1.heap.size w1 wr)) (fun i _ => q - (intOf i).toNat)
              case atStart => exact ⟨0, by omega, rfl, HBr⟩
              case round =>
                clear HBr z
                obtain ⟨j, hj, rfl, HBr⟩ := hrel
                by_cases hjk : j < q
                · obtain ⟨b, o, ⟨T, ⟨A1, n1, k1⟩, ⟨A2, n2, k2⟩, ⟨A3, n3, k3⟩⟩, rfl, hT, hok, c0, c1, c2, c3, c4⟩ := (HS.out.keep (keeps_of HBr.out)).at hjk
                  dsimp only at hT c0 c1 c2 c3 c4
                  have HT := Lib.hid hT
                  have HGT := Lib.hid (HG.out.tb T (List.mem_of_getElem? hT))
                  obtain ⟨ys, hhs⟩ := hok.hs
                  have HH := Lib.hid hhs
                  have hn3 : n3 ≤ 4 := by have := hhs.len; have := HGT.out.hl; simp only at *; omega
                  have hcl : T.cols.length ≤ 9223372036854775807 := by have := HGT.out.cl; omega
                  have z := (HZ.out.below HBr.out).cell
                  have g7 : decide ((j : Int) < 0) = false := by simp
                  have g8 : decide (q ≤ j) = false := by simp; omega
                  clear hT hok hhs c0 c1 c2 c3
                  go_wp2_with fail
                  clear g7 g8 c4 z
                  go_loopw [82] (fun i wq => ∃ q : Nat, q ≤ n3 ∧ i = .int .i64 (q : Int) ∧ Hid (Below wr.heap.size wr wq)) (fun i _ => n3 - (intOf i).toNat)
                  case atStart => exact ⟨0, by omega, rfl, Lib.hid (Below.refl _ _)⟩
                  case round =>
                    obtain ⟨i2, hi2, rfl, HBq⟩ := hrel
                    have HBw := Lib.hid (HBr.out.trans (HBq.out.mono HBr.out.size))
                    by_cases hqn : i2 < n3
                    · obtain ⟨b2, o2, p, A4, n4, k4, rfl, hp, d⟩ := (HH.out.keep (keeps_of HBq.out)).arg hqn
                      have Hck := Lib.hid (HGT.out.ck p (List.mem_of_getElem? hp)).1
                      have HSp := Lib.hid (d.s.keep (keeps_alloc wr (.cells (pdV p.h A4 n4 k4) 71)))
                      have HY := Lib.hid (Blk.new wr 71 (pdV p.h A4 n4 k4))
                      have HBy := Lib.hid (HBw.out.alloc HBw.out.size (.cells (pdV p.h A4 n4 k4) 71))
                      have HBz := Lib.hid (HBq.out.alloc HBq.out.size (.cells (pdV p.h A4 n4 k4) 71))
                      obtain ⟨d0, d1, d2, d3, d4, d5, d6, d7, d8, d9, d10, d11, d12, ds⟩ := d
                      obtain ⟨Y, HYY⟩ : ∃ z, Hid (wr.heap.size = z) := ⟨_, Lib.hid rfl⟩
                      rw [HYY.out] at HY
                      unfold pdV at HSp HY HBy HBz
                      clear ds hp HBq HBw
                      go_upto_region 29 with fail
                      rw [HYY.out]
                      clear d0 d1 d2 d3 d4 d5 d6 d7 d8 d9 d10 d11 d12 HYY
                      generalize wr.alloc (.cells #[.int .i64 p.h.op, .int .i64 p.h.cm, .int .i64 p.h.l.k, .int .i64 p.h.l.ix, .int .i64 p.h.l.v.k, .int .i64 p.h.l.v.i, .string p.h.l.v.t, .int .i64 p.h.r.k, .int .i64 p.h.r.ix, .int .i64 p.h.r.v.k, .int .i64 p.h.r.v.i, .string p.h.r.v.t, .slice A4 n4 k4] 71) = wy at *
                      have zz : ∀ i, wy.drew.cell? ⟨w.heap.size, i, none⟩ = (#[.int .i64 ver, .slice (some ⟨b, o, none⟩) q c] : Array Value)[i]? := (HZ.out.below HBy.out).cell
                      have zy : ∀ i, wy.drew.cell? ⟨Y, i, none⟩ = (#[.int .i64 p.h.op, .int .i64 p.h.cm, .int .i64 p.h.l.k, .int .i64 p.h.l.ix, .int .i64 p.h.l.v.k, .int .i64 p.h.l.v.i, .string p.h.l.v.t, .int .i64 p.h.r.k, .int .i64 p.h.r.ix, .int .i64 p.h.r.v.k, .int .i64 p.h.r.v.i, .string p.h.r.v.t, .slice A4 n4 k4] : Array Value)[i]? := HY.out.cell
                      have HSd : Hid (ScS wy.drew (some ⟨b, o, none⟩) q tbs) := Lib.hid (HS.out.keep (keeps_of HBy.out.drew))
                      have HPd : Hid (PrdS wy.drew A4 n4 k4 p) := Lib.hid (HSp.out.keep (Keeps.refl _).drew)
                      have HBd := Lib.hid HBz.out.drew
                      clear HSp HY HBy HBz
                      generalize hWn : wy.drew = Wn at *
                      have hca := @cell_after Wn
                      refine wp_region_seg [([0, 1, 3], 2), ([], 4)] [5] (by kernel_rfl) (by kernel_rfl) (fun _ _ d _ _ h => by cases d <;> exact h) ?_
                      rw [hWn]
                      clear hWn
                      simp only [pickSegs, pickOps, opAt, List.map_cons, List.map_nil, List.getElem?_toArray, List.getElem?_cons_zero, List.getElem?_cons_succ, Option.getD_some]
                      unfold wpBlocks
                      repeat (go_big_quiet_step (fail))
                      refine wpQuiet_nil ?_
                      clear hca zz zy
                      go_wp2_with fail
                      refine (rkinds_any ver _ q c tbs j T _ HSd.out hn8 HT.out HGT.out.cl).mono ?_
                      rintro e w5 ⟨KA, kc, rfl, hown, hb5⟩
                      have HK := Lib.hid (KdsO.cl hown)
                      have HP5 := Lib.hid (HPd.out.keep (keeps_of hb5))
                      have HB5 := Lib.hid (Below.next HBd.out hb5)
                      clear hown HSd HPd HBd
                      go_wp2_with fail
                      refine ⟨hb5, ?_⟩
                      unfold wpBlocks
                      refine wpQuiet_nil ?_
                      clear hb5
                      go_wp2_with fail
                      refine (rpcheck_any T.kinds [] p A4 n4 k4 KA _ kc none 0 0 _ HP5.out HK.out Sl.nil hcl (by omega)).mono ?_
                      rintro e w7 ⟨rfl, hb7⟩
                      rw [Hck.out]
                      have HB7 := Lib.hid (Below.next HB5.out hb7)
                      clear HP5 HK HB5
                      go_wp2_with fail
                      refine ⟨hb7, ?_⟩
                      unfold wpBlocks
                      repeat (go_big_quiet_step (fail))
                      refine wpQuiet_nil ?_
                      clear hb7
                      go_wp2
                      go_roundw
                      case rel => exact ⟨i2 + 1, by omega, by go_num, HB7⟩
                      case measure => simp [intOf]; omega
                    · obtain rfl : i2 = n3 := by omega
                      go_wp2
                      go_roundw
                      case rel => exact ⟨j + 1, by omega, by go_num, HBw⟩
                      case measure => simp [intOf]; omega
                · obtain rfl : j = q := by omega
                  have HE := Lib.hid (HB.out.trans (HBr.out.mono (by omega)))
                  go_wp2
                  go_ret
                  exact ⟨rfl, HE.out⟩
end Go.Proofs.YtponkkljlbifmaaGreat

/-
  The reference's Check of a state, in the mode of the server.
-/
namespace Go.Proofs.YtponkkljlbifmaaGreat
open Go.RowKit
set_option maxRecDepth 100000
open Pd

set_option maxHeartbeats 8000000 in
theorem rcheck8_any (ver : Int) (A : Option Addr) (n c : Nat) (tbs : List Tb) (B : Option Addr) (m cb : Nat) (ls : List TlP) (w : World) (hs : ScS w A n tbs) (hg : GoodS ver tbs) (hst : StS w B m ls) (hm : m ≤ 9223372036854775807) :
    Calls Tryz.prog 34 #[.agg #[.int .i64 ver, .slice A n c], .int .i64 1, .agg #[.slice B m cb]] w fun e w' => e = .returned (.int .i64 (chkS tbs (stR ls))) ∧ Below w.heap.size w w' := by
  have HB : Hid (Below w.heap.size w ((w.alloc (.cells #[.int .i64 ver, .slice A n c] 30)).alloc (.cells #[.slice B m cb] 25))) := Lib.hid (((Below.refl _ _).alloc (Nat.le_refl _) _).alloc (by simp) _)
  have HS := Lib.hid (hs.keep (keeps_of HB.out))
  have HST := Lib.hid (hst.keep (keeps_of HB.out))
  have HZ := Lib.hid ((Blk.new w 30 #[.int .i64 ver, .slice A n c]).alloc (.cells #[.slice B m cb] 25))
  have HY := Lib.hid (Blk.new (w.alloc (.cells #[.int .i64 ver, .slice A n c] 30)) 25 #[.slice B m cb])
  rw [World.size_alloc] at HY
  have HG := Lib.hid hg
  have Hln := Lib.hid hs.len
  have Hlm := Lib.hid hst.sl.len
  have hn8 : n ≤ 8 := by have := hg.ln; have := Hln.out; omega
  obtain ⟨ee, Hee⟩ : ∃ z, Hid (chkS tbs (stR ls) = z) := ⟨_, Lib.hid rfl⟩
  rw [Hee.out]
  clear hs hst hg
  go_enter Tryz.func34, Tryz.ntmps34
  go_upto_region 1 with fail
  generalize hW : (w.alloc (.cells #[.int .i64 ver, .slice A n c] 30)).alloc (.cells #[.slice B m cb] 25) = w1 at *
  have z := HZ.out.cell
  have zy := HY.out.cell
  go_wp2_with fail
  refine (rscheck_any ver A n c tbs _ HS.out HG.out).mono ?_
  rintro e w2 ⟨rfl, hb2⟩
  have HZ2 := Lib.hid (HZ.out.below hb2)
  have HY2 := Lib.hid (HY.out.below hb2)
  have HB2 := Lib.hid (HB.out.trans (hb2.mono HB.out.size))
  have HS2 := Lib.hid (HS.out.keep (keeps_of hb2))
  have HST2 := Lib.hid (HST.out.keep (keeps_of hb2))
  clear z zy hb2 HZ HY HB HS HST hW
  have z := HZ2.out.cell
  have zy := HY2.out.cell
  have hx0 : cntS (stR (ls.take 0)) = 0 := rfl
  have Hx0 := Lib.hid hx0
  clear hx0
  go_wp2_with fail
  obtain ⟨w2', HW2'⟩ : ∃ z, Hid (w2 = z) := ⟨_, Lib.hid rfl⟩
  go_loopw [8, 29] (fun v i wr => ∃ k : Nat, k ≤ m ∧ i = .int .i64 (k : Int) ∧ v = .int .i64 (cntS (stR (ls.take k)) : Int) ∧ cntS (stR (ls.take k)) ≤ 512 ∧ wr = w2) (fun _ i _ => m - (intOf i).toNat)
  case atStart => exact ⟨0, by omega, rfl, by rw [Hx0.out]; rfl, by rw [Hx0.out]; omega, rfl⟩
  case round =>
    obtain ⟨k, hk, rfl, rfl, hx, hwr⟩ := hrel
    obtain rfl : w2 = wr := hwr.symm
    clear Hx0
    by_cases hlt : k < m
    · obtain ⟨b, o, ⟨⟨L, ln, lc⟩, ps⟩, rfl, hp, hok, c0⟩ := HST2.out.at hlt
      dsimp only at c0
      have hc := cnt_take hp
      have hle := cnt_le (ls := ls) (k + 1)
      have hlm : ln ≤ 9223372036854775807 := Nat.le_trans hok.le hok.mx
      rw [hok.len] at hc
      dsimp only at hc
      have Hc := Lib.hid hc
      have Hle := Lib.hid hle
      clear hp hok hc hle z zy
      by_cases hgt : cntS (stR (ls.take k)) + ln ≤ 512
      · generalize cntS (stR (ls.take k)) = x at *
        have g1 : decide ((512 : Int) - (x : Int) < (ln : Int)) = false := by rw [decide_eq_false_iff_not]; omega
        have hxx : (cntS (stR (ls.take (k + 1))) : Int) = (x : Int) + (ln : Int) := by have := Hc.out; omega
        have Hxx := Lib.hid hxx
        have Hx2 : Hid (cntS (stR (ls.take (k + 1))) ≤ 512) := Lib.hid (by rw [Hc.out]; exact hgt)
        clear hxx
        go_wp2
        go_roundw
        case rel => exact ⟨k + 1, by omega, by go_num, by rw [Hxx.out], Hx2.out, trivial⟩
        case measure => simp [intOf]; omega
      · unfold chkS at Hee
        rw [if_pos (by have := Hc.out; have := Hle.out; omega)] at Hee
        have he := Hee.out
        subst he
        generalize cntS (stR (ls.take k)) = x at *
        have g1 : decide ((512 : Int) - (x : Int) < (ln : Int)) = true := by rw [decide_eq_true_eq]; omega
        clear Hc Hle
        go_wp2
        go_ret
        exact ⟨rfl, HB2.out⟩
    · obtain rfl : m = k := by omega
      rw [List.take_of_length_le (by rw [Hlm.out]; exact Nat.le_refl _)] at hx
      have Hx := Lib.hid hx
      rw [List.take_of_length_le (by rw [Hlm.out]; exact Nat.le_refl _)]
      clear hx
      unfold chkS at Hee
      have hc : ¬ 512 < cntS (stR ls) := by have := Hx.out; omega
      rw [if_neg hc] at Hee
      have hls : (stR ls).length = m := by unfold stR; rw [List.length_map]; exact Hlm.out
      rw [hls, Hln.out] at Hee
      by_cases hmn : m = n
      · subst hmn
        rw [if_neg (by simp)] at Hee
        obtain ⟨rr, Hrr⟩ : ∃ z, Hid (tabsB (tbs.drop 0) ((stR ls).drop 0) = z) := ⟨_, Lib.hid rfl⟩
        have Hee2 : Hid ((if rr = true then (0 : Int) else 80) = ee) := Lib.hid (by rw [← Hee.out, ← Hrr.out]; rfl)
        have g2 : ((m : Int) != (m : Int)) = false := by simp
        clear hc Hee
        go_wp2_with fail
        go_loopw [53] (fun i wr => ∃ k : Nat, k ≤ m ∧ i = .int .i64 (k : Int) ∧ Hid (tabsB (tbs.drop k) ((stR ls).drop k) = rr) ∧ Hid (Below w2.heap.size w2 wr)) (fun i _ => m - (intOf i).toNat)
        case atStart => exact ⟨0, by omega, rfl, Hrr, Lib.hid (Below.refl _ _)⟩
        case round =>
          obtain ⟨k, hk, rfl, Hq, HBr⟩ := hrel
          clear z zy Hrr
          by_cases hlt : k < m
          · obtain ⟨T, hT⟩ : ∃ T, tbs[k]? = some T := ⟨_, List.getElem?_eq_getElem (by rw [Hln.out]; exact hlt)⟩
            obtain ⟨b, o, ⟨⟨L, ln, lc⟩, ps⟩, rfl, hl, hok, c0⟩ := (HST2.out.keep (keeps_of HBr.out)).at hlt
            dsimp only at c0
            have HT := Lib.hid hT
            have HGT := Lib.hid (HG.out.tb T (List.mem_of_getElem? hT))
            obtain ⟨x, Hx⟩ : ∃ z, Hid (tabsB (tbs.drop (k + 1)) ((stR ls).drop (k + 1)) = z) := ⟨_, Lib.hid rfl⟩
            have Hst := Lib.hid (tabs_step hT (stR_at hl) Hq.out)
            rw [Hx.out] at Hst
            have HR := Lib.hid hok.rd
            have Hll := Lib.hid hok.len
            dsimp only at HR Hll
            have hlm : ln ≤ 9223372036854775807 := Nat.le_trans hok.le hok.mx
            have zy := (HY2.out.below HBr.out).cell
            clear hT hl hok Hq
            obtain ⟨w4, HW4⟩ : ∃ z, Hid (wr = z) := ⟨_, Lib.hid rfl⟩
            go_wp2_with fail
            go_loopw [60] (fun i wr => ∃ j : Nat, j ≤ ln ∧ i = .int .i64 (j : Int) ∧ Hid ((rowsB T (prv (tlR ((L, ln, lc), ps)) j) ((tlR ((L, ln, lc), ps)).drop j) && x) = rr) ∧ Hid (Below w4.heap.size w4 wr)) (fun i _ => ln - (intOf i).toNat)
            case atStart => exact ⟨0, by omega, rfl, Hst, Lib.hid (by rw [← HW4.out]; exact Below.refl _ _)⟩
            case round =>
              obtain ⟨j, hj, rfl, Hqj, HBj⟩ := hrel
              clear zy Hst c0
              rw [HW4.out] at HBr HR
              have HB4 := Lib.hid (HBr.out.trans (HBj.out.mono HBr.out.size))
              by_cases hjn : j < ln
              · obtain ⟨b2, o2, ⟨⟨R, rn, rc⟩, r⟩, rfl, c1, hro, hp⟩ := (HR.out.keep (keeps_of HBj.out)).get2 hjn
                dsimp only at c1
                have Hs := Lib.hid (rows_step (tlR_at hp) Hqj.out)
                have HRO := Lib.hid hro
                have zb := (HZ2.out.below HB4.out).cell
                clear hro hp Hqj
                go_wp2_with fail
                refine (rfits_any ver A m c tbs k T R rn rc r _ (HS2.out.keep (keeps_of HB4.out)) hn8 HT.out HGT.out.cl HRO.out.rd).mono ?_
                rintro e w5 ⟨rfl, hb5⟩
                have HB5 := Lib.hid (Below.next HBj.out hb5)
                have HB6 := Lib.hid (Below.next HB4.out hb5)
                have HRO5 := Lib.hid (HRO.out.keep (keeps_of hb5))
                clear zb hb5 HBj HB4 HRO c1
                cases hfit : fitsB T r
                · rw [hfit, Bool.false_and] at Hs
                  have he := Hee2.out
                  rw [if_neg (by rw [← Hs.out]; simp)] at he
                  subst he
                  have HE := Lib.hid (HB2.out.trans (HB6.out.mono HB2.out.size))
                  clear hfit
                  go_wp2
                  go_ret
                  exact ⟨rfl, HE.out⟩
                · rw [hfit, Bool.true_and] at Hs
                  clear hfit
                  have zb : ∀ i, w5.drew.cell? ⟨w.heap.size, i, none⟩ = (#[.int .i64 ver, .slice A m c] : Array Value)[i]? := (HZ2.out.below HB6.out).cell
                  have HB5d : Hid (Below w4.heap.size w4 w5.drew) := Lib.hid HB5.out.drew
                  have HB6d : Hid (Below w2.heap.size w2 w5.drew) := Lib.hid HB6.out.drew
                  have HRd : Hid (RowOk w5.drew ((R, rn, rc), r)) := Lib.hid (HRO5.out.keep (Keeps.refl _).drew)
                  clear HB5 HB6 HRO5
                  rcases j with _ | q
                  · have Hs2 : Hid ((rowsB T (prv (tlR ((some ⟨b2, o2, none⟩, ln, lc), ps)) 1) ((tlR ((some ⟨b2, o2, none⟩, ln, lc), ps)).drop 1) && x) = rr) := Lib.hid (by have := Hs.out; unfold prv nxtB at this; simpa [prv] using this)
                    clear Hs
                    go_wp2_with fail
                    generalize hWn : w5.drew = Wn at *
                    have hca := @cell_after Wn
                    refine wp_region_seg [([0, 1, 2, 3, 4, 5, 6, 7, 8, 9, 11, 12, 13], 10), ([], 14), ([], 15)] [16, 17] (by kernel_rfl) (by kernel_rfl) (fun _ _ d _ _ h => by cases d <;> exact h) ?_
                    rw [hWn]
                    clear hWn
                    simp only [pickSegs, pickOps, opAt, List.map_cons, List.map_nil, List.getElem?_toArray, List.getElem?_cons_zero, List.getElem?_cons_succ, Option.getD_some]
                    unfold wpBlocks
                    repeat (go_big_quiet_step (fail))
                    refine wpQuiet_nil ?_
                    clear hca zb
                    go_wp2_with fail
                    refine ⟨Below.refl _ _, ?_⟩
                    unfold wpBlocks
                    refine wpQuiet_nil ?_
                    go_wp2_with fail
                    refine ⟨Below.refl _ _, ?_⟩
                    unfold wpBlocks
                    refine wpQuiet_nil ?_
                    go_wp2_with fail
                    refine ⟨Below.refl _ _, ?_⟩
                    unfold wpBlocks
                    repeat (go_big_quiet_step (fail))
                    refine wpQuiet_nil ?_
                    go_wp2
                    go_roundw
                    case rel => exact ⟨1, by omega, by go_num, Hs2, HB5d⟩
                    case measure => simp [intOf]; omega
                  · obtain ⟨b6, o6, ⟨⟨R', rn', rc'⟩, r'⟩, e6, c6, hro, hp⟩ := (HR.out.keep (keeps_of HB5d.out)).get2 (show q < ln by omega)
                    injection e6 with e6
                    injection e6 with e6 e7
                    subst e6 e7
                    dsimp only at c6
                    have HP : Hid (RowOk w5.drew ((R', rn', rc'), r')) := Lib.hid hro
                    have hn : nxtB T (prv (tlR ((some ⟨b2, o2, none⟩, ln, lc), ps)) (q + 1)) r = decide (cmpR (keyT T r') (keyT T r) < 0) := by
                      have : prv (tlR ((some ⟨b2, o2, none⟩, ln, lc), ps)) (q + 1) = some r' := by unfold prv; rw [if_neg (by omega), Nat.add_sub_cancel]; exact tlR_at hp
                      rw [this]
                      rfl
                    rw [hn] at Hs
                    clear hro hp hn
                    go_wp2_with fail
                    generalize hWn : w5.drew = Wn at *
                    have hca := @cell_after Wn
                    refine wp_region_seg [([0, 1, 2, 3, 4, 5, 6, 7, 8, 9, 11, 12, 13], 10), ([], 14), ([], 15)] [16, 17] (by kernel_rfl) (by kernel_rfl) (fun _ _ d _ _ h => by cases d <;> exact h) ?_
                    rw [hWn]
                    clear hWn
                    simp only [pickSegs, pickOps, opAt, List.map_cons, List.map_nil, List.getElem?_toArray, List.getElem?_cons_zero, List.getElem?_cons_succ, Option.getD_some]
                    unfold wpBlocks
                    repeat (go_big_quiet_step (fail))
                    refine wpQuiet_nil ?_
                    clear hca zb c6
                    go_wp2_with fail
                    refine (rkey_any ver A m c tbs k T R' rn' rc' r' _ (HS2.out.keep (keeps_of HB6d.out)) hn8 HT.out (by have := HGT.out.k1; omega) (by have := HGT.out.k2; have := HGT.out.cl; omega) HP.out).mono ?_
                    rintro e w6 ⟨Q, qc, rfl, hqo, hb6⟩
                    have HQ := Lib.hid hqo.ok
                    have HR6 := Lib.hid (HRd.out.keep (keeps_of hb6))
                    have HB6 := Lib.hid (Below.next HB6d.out hb6)
                    have HB7 := Lib.hid (Below.next HB5d.out hb6)
                    clear hqo HRd HP HB6d HB5d
                    go_wp2_with fail
                    refine ⟨hb6, ?_⟩
                    unfold wpBlocks
                    refine wpQuiet_nil ?_
                    clear hb6
                    go_wp2_with fail
                    refine (rkey_any ver A m c tbs k T R rn rc r _ (HS2.out.keep (keeps_of HB6.out)) hn8 HT.out (by have := HGT.out.k1; omega) (by have := HGT.out.k2; have := HGT.out.cl; omega) HR6.out).mono ?_
                    rintro e w7 ⟨Q2, qc2, rfl, hqo, hb7⟩
                    have HQ2 := Lib.hid hqo.ok
                    have HQ1 := Lib.hid (HQ.out.keep (keeps_of hb7))
                    have HB8 := Lib.hid (Below.next HB6.out hb7)
                    have HB9 := Lib.hid (Below.next HB7.out hb7)
                    clear hqo HQ HB6 HB7
                    go_wp2_with fail
                    refine ⟨hb7, ?_⟩
                    unfold wpBlocks
                    refine wpQuiet_nil ?_
                    clear hb7
                    go_wp2_with fail
                    refine (rcomp_rw Q _ qc (keyT T r') Q2 _ qc2 (keyT T r) _ HQ1.out HQ2.out).mono ?_
                    rintro e w8 ⟨rfl, hb8⟩
                    have HBA := Lib.hid (Below.next HB8.out hb8)
                    have HBC := Lib.hid (Below.next HB9.out hb8)
                    clear HB8 HB9 HQ1 HQ2
                    by_cases hc : cmpR (keyT T r') (keyT T r) < 0
                    · have g5 : decide ((0 : Int) ≤ cmpR (keyT T r') (keyT T r)) = false := by simp; omega
                      rw [decide_eq_true hc, Bool.true_and] at Hs
                      clear hc
                      go_wp2_with fail
                      refine ⟨hb8, ?_⟩
                      unfold wpBlocks
                      repeat (go_big_quiet_step (fail))
                      refine wpQuiet_nil ?_
                      clear hb8
                      go_wp2
                      go_roundw
                      case rel => exact ⟨q + 1 + 1, by omega, by go_num, Lib.hid Hs.out, HBC⟩
                      case measure => simp [intOf]; omega
                    · have g5 : decide ((0 : Int) ≤ cmpR (keyT T r') (keyT T r)) = true := by simp; omega
                      rw [decide_eq_false hc, Bool.false_and] at Hs
                      have he := Hee2.out
                      rw [if_neg (by rw [← Hs.out]; simp)] at he
                      subst he
                      have HE := Lib.hid (HB2.out.trans (HBA.out.mono HB2.out.size))
                      clear hc
                      go_wp2_with fail
                      refine ⟨hb8, ?_⟩
                      unfold wpBlocks
                      repeat (go_big_quiet_step (fail))
                      refine wpQuiet_nil ?_
                      clear hb8
                      go_wp2
                      go_ret
                      exact ⟨rfl, HE.out⟩
              · obtain rfl : j = ln := by omega
                have Hx2 : Hid (tabsB (tbs.drop (k + 1)) ((stR ls).drop (k + 1)) = rr) := Lib.hid (by
                  have := Hqj.out
                  rw [List.drop_of_length_le (by rw [Hll.out]; exact Nat.le_refl _)] at this
                  rw [Hx.out, ← this]
                  rfl)
                go_wp2
                go_roundw
                case rel => exact ⟨k + 1, by omega, by go_num, Hx2, HB4⟩
                case measure => simp [intOf]; omega
          · obtain rfl : k = m := by omega
            have hf : rr = true := by
              rw [← Hq.out, List.drop_of_length_le (by rw [Hln.out]; exact Nat.le_refl _)]
              rfl
            have he := Hee2.out
            rw [if_pos hf] at he
            subst he
            have HE := Lib.hid (HB2.out.trans (HBr.out.mono HB2.out.size))
            go_wp2
            go_ret
            exact ⟨rfl, HE.out⟩
      · have g2 : ((m : Int) != (n : Int)) = true := by simp; omega
        rw [if_pos hmn] at Hee
        have he := Hee.out
        subst he
        clear hc
        go_wp2
        go_ret
        exact ⟨rfl, HB2.out⟩
end Go.Proofs.YtponkkljlbifmaaGreat

/-
  The reference's find and Get of the row with a key.
-/
namespace Go.Proofs.YtponkkljlbifmaaGreat
open Go.RowKit
set_option maxRecDepth 100000
open Pd

/-- where the first row with a key stands -/
def FindO (T : Tb) (l : List Rw) (key : Rw) (w : World) (e : Ending) (w' : World) : Prop :=
  ((∃ (j : Nat) (r : Rw), e = .returned (.int .i64 (j : Int)) ∧ l[j]? = some r ∧ getT T l key = some r) ∨ (e = .returned (.int .i64 (-1)) ∧ getT T l key = none)) ∧ Below w.heap.size w w'
set_option maxHeartbeats 4000000 in
theorem rfind_any (ver : Int) (A : Option Addr) (n c : Nat) (tbs : List Tb) (B : Option Addr) (m cb : Nat) (ls : List TlP) (t : Nat) (T : Tb) (pl : TlP) (K : Option Addr) (kn kc : Nat) (key : Rw) (w : World) (hs : ScS w A n tbs) (hn : n ≤ 8) (hT : tbs[t]? = some T) (h0 : 0 ≤ T.key) (h8 : T.key ≤ 8) (hst : StS w B m ls) (hl : ls[t]? = some pl) (hk : RowOk w ((K, kn, kc), key)) :
    Calls Tryz.prog 66 #[.agg #[.int .i64 ver, .slice A n c], .agg #[.slice B m cb], .int .i64 (t : Int), .slice K kn kc] w fun e w' => FindO T (tlR pl) key w e w' := by
  have ht : t < n := by rw [← hs.len]; exact (List.getElem?_eq_some_iff.1 hT).1
  have htm : t < m := by rw [← hst.sl.len]; exact (List.getElem?_eq_some_iff.1 hl).1
  have g0 : decide ((t : Int) < 0) = false := by simp
  have g1 : decide (n ≤ t) = false := by simp; omega
  have g2 : decide (m ≤ t) = false := by simp; omega
  have HB : Hid (Below w.heap.size w ((w.alloc (.cells #[.int .i64 ver, .slice A n c] 30)).alloc (.cells #[.slice B m cb] 25))) := Lib.hid (((Below.refl _ _).alloc (Nat.le_refl _) _).alloc (by simp) _)
  have HS := Lib.hid (hs.keep (keeps_of HB.out))
  have HST := Lib.hid (hst.keep (keeps_of HB.out))
  have HK := Lib.hid (hk.keep (keeps_of HB.out))
  have HZ := Lib.hid ((Blk.new w 30 #[.int .i64 ver, .slice A n c]).alloc (.cells #[.slice B m cb] 25))
  have HY := Lib.hid (Blk.new (w.alloc (.cells #[.int .i64 ver, .slice A n c] 30)) 25 #[.slice B m cb])
  rw [World.size_alloc] at HY
  have Hl := Lib.hid hl
  have HT := Lib.hid hT
  clear hs hst hk hl hT
  go_enter Tryz.func66, Tryz.ntmps66
  go_upto_region 1 with fail
  generalize hW : (w.alloc (.cells #[.int .i64 ver, .slice A n c] 30)).alloc (.cells #[.slice B m cb] 25) = w1 at *
  have z := HZ.out.cell
  have zy := HY.out.cell
  obtain ⟨b, o, ⟨⟨L, ln, lc⟩, ps⟩, rfl, hl2, hok, c0⟩ := HST.out.at htm
  obtain rfl : pl = ((L, ln, lc), ps) := by have := Hl.out; rw [hl2] at this; injection this with this; exact this.symm
  dsimp only at c0
  have HR := Lib.hid hok.rd
  have Hf : Hid (getT T ((tlR ((L, ln, lc), ps)).drop 0) key = getT T (tlR ((L, ln, lc), ps)) key) := Lib.hid rfl
  have Hlen := Lib.hid hok.len
  dsimp only at HR Hlen
  obtain ⟨rr, Hrr⟩ : ∃ z, Hid (getT T (tlR ((L, ln, lc), ps)) key = z) := ⟨_, Lib.hid rfl⟩
  rw [Hrr.out] at Hf
  have hlm : ln ≤ 9223372036854775807 := Nat.le_trans hok.le hok.mx
  clear hl2 hok
  go_wp2_with fail
  clear z zy c0
  go_loopw [33] (fun i wr => ∃ k : Nat, k ≤ ln ∧ i = .int .i64 (k : Int) ∧ Hid (getT T ((tlR ((L, ln, lc), ps)).drop k) key = rr) ∧ Hid (Below w1.heap.size w1 wr)) (fun i _ => ln - (intOf i).toNat)
  case atStart => exact ⟨0, by omega, rfl, Hf, Lib.hid (Below.refl _ _)⟩
  case round =>
    obtain ⟨k, hk, rfl, Hq, HBr⟩ := hrel
    have z := (HZ.out.below HBr.out).cell
    by_cases hlt : k < ln
    · obtain ⟨b2, o2, ⟨⟨R, rn, rc⟩, r⟩, rfl, c1, hro, hp⟩ := (HR.out.keep (keeps_of HBr.out)).get2 hlt
      dsimp only at c1
      have Hst := Lib.hid (getT_step (tlR_at hp) Hq.out)
      have Hp : Hid ((tlR ((some ⟨b2, o2, none⟩, ln, lc), ps))[k]? = some r) := Lib.hid (tlR_at hp)
      have HRO := Lib.hid hro
      clear hro hp Hq
      go_wp2_with fail
      refine (rkey_any ver A n c tbs t T R rn rc r _ (HS.out.keep (keeps_of HBr.out)) hn HT.out h0 h8 HRO.out).mono ?_
      rintro e w2 ⟨QA, qc, rfl, hqo, hb2⟩
      have HB2 := Lib.hid (Below.next HBr.out hb2)
      have HQ := Lib.hid hqo.ok
      clear z hb2 hqo HBr c1 HRO
      go_wp2_with fail
      refine (rcomp_rw QA _ qc (keyT T r) K kn kc key _ HQ.out (HK.out.keep (keeps_of HB2.out))).mono ?_
      rintro e w3 ⟨rfl, hb3⟩
      have HB3 := Lib.hid (Below.next HB2.out hb3)
      clear hb3 HB2 HQ
      by_cases hc : cmpR (keyT T r) key = 0
      · have Hs2 := Hst.out
        rw [if_pos hc] at Hs2
        rw [hc]
        have HE : Hid (FindO T (tlR ((some ⟨b2, o2, none⟩, ln, lc), ps)) key w (.returned (.int .i64 (k : Int))) w3) := Lib.hid ⟨.inl ⟨k, r, rfl, Hp.out, by rw [Hrr.out, ← Hs2]⟩, HB.out.trans (HB3.out.mono HB.out.size)⟩
        clear hc Hs2
        go_wp2
        go_ret
        exact HE.out
      · have g3 : (cmpR (keyT T r) key == 0) = false := by simp [hc]
        have Hs2 := Lib.hid Hst.out
        rw [if_neg hc] at Hs2
        generalize cmpR (keyT T r) key = cc at *
        clear hc
        go_wp2
        go_roundw
        case rel => exact ⟨k + 1, by omega, by go_num, Hs2, HB3⟩
        case measure => simp [intOf]; omega
    · obtain rfl : k = ln := by omega
      have hf : rr = none := by
        rw [← Hq.out, List.drop_of_length_le (by rw [Hlen.out]; exact Nat.le_refl _)]
        rfl
      have HE : Hid (FindO T (tlR ((L, k, lc), ps)) key w (.returned (.int .i64 (-1))) wr) := Lib.hid ⟨.inr ⟨rfl, by rw [Hrr.out, hf]⟩, HB.out.trans (HBr.out.mono HB.out.size)⟩
      clear z hf
      go_wp2
      go_ret
      exact HE.out
/-- a copy of the row with a key -/
def RGetO (T : Tb) (l : List Rw) (key : Rw) (w : World) (e : Ending) (w' : World) : Prop :=
  ((∃ (r : Rw) (R : Option Addr) (rc : Nat), e = .returned (.tuple #[.slice R r.length rc, .bool true]) ∧ getT T l key = some r ∧ OwnRow w' w.heap.size ((R, r.length, rc), r)) ∨ (e = .returned (.tuple #[.slice none 0 0, .bool false]) ∧ getT T l key = none)) ∧ Below w.heap.size w w'
set_option maxHeartbeats 4000000 in
theorem rget_any (ver : Int) (A : Option Addr) (n c : Nat) (tbs : List Tb) (B : Option Addr) (m cb : Nat) (ls : List TlP) (t : Nat) (T : Tb) (pl : TlP) (K : Option Addr) (kn kc : Nat) (key : Rw) (w : World) (hs : ScS w A n tbs) (hn : n ≤ 8) (hT : tbs[t]? = some T) (h0 : 0 ≤ T.key) (hk8 : T.key ≤ 8) (hst : StS w B m ls) (hl : ls[t]? = some pl) (hk : RowOk w ((K, kn, kc), key)) (h8 : ∀ r ∈ tlR pl, r.length ≤ 1000) :
    Calls Tryz.prog 37 #[.agg #[.int .i64 ver, .slice A n c], .agg #[.slice B m cb], .int .i64 (t : Int), .slice K kn kc] w fun e w' => RGetO T (tlR pl) key w e w' := by
  have htm : t < m := by rw [← hst.sl.len]; exact (List.getElem?_eq_some_iff.1 hl).1
  have HB : Hid (Below w.heap.size w ((w.alloc (.cells #[.int .i64 ver, .slice A n c] 30)).alloc (.cells #[.slice B m cb] 25))) := Lib.hid (((Below.refl _ _).alloc (Nat.le_refl _) _).alloc (by simp) _)
  have HS := Lib.hid (hs.keep (keeps_of HB.out))
  have HST := Lib.hid (hst.keep (keeps_of HB.out))
  have HK := Lib.hid (hk.keep (keeps_of HB.out))
  have HY := Lib.hid (Blk.new (w.alloc (.cells #[.int .i64 ver, .slice A n c] 30)) 25 #[.slice B m cb])
  rw [World.size_alloc] at HY
  have Hl := Lib.hid hl
  have HT := Lib.hid hT
  clear hs hst hk hl hT
  go_enter Tryz.func37, Tryz.ntmps37
  go_wp2_with fail
  refine (rfind_any ver A n c tbs B m cb ls t T pl K kn kc key _ HS.out hn HT.out h0 hk8 HST.out Hl.out HK.out).mono ?_
  rintro e w1 ⟨⟨j, r, rfl, hj, hg⟩ | ⟨rfl, hg⟩, hb1⟩
  · have HB1 := Lib.hid (Below.next HB.out hb1)
    have HY1 := Lib.hid (HY.out.below hb1)
    obtain ⟨b, o, ⟨⟨L, ln, lc⟩, ps⟩, rfl, hl2, hok, c0⟩ := (HST.out.keep (keeps_of hb1)).at htm
    obtain rfl : pl = ((L, ln, lc), ps) := by have := Hl.out; rw [hl2] at this; injection this with this; exact this.symm
    dsimp only at c0
    have hjl : j < ln := by
      have h1 := (List.getElem?_eq_some_iff.1 hj).1
      have h2 := hok.len
      dsimp only at h2
      omega
    obtain ⟨b2, o2, ⟨⟨R, rn, rc⟩, r'⟩, rfl, c1, hro, hp⟩ := hok.rd.get2 hjl
    obtain rfl : r' = r := by have : (tlR ((some ⟨b2, o2, none⟩, ln, lc), ps))[j]? = some r' := tlR_at hp; rw [hj] at this; injection this with this; exact this.symm
    dsimp only at c1
    have HRO := Lib.hid hro
    have hrn : rn = r'.length := hro.rd.len.symm
    have hr8 := h8 r' (List.mem_of_getElem? hj)
    have Hg := Lib.hid hg
    have zy := HY1.out.cell
    subst hrn
    have gj : decide ((j : Int) < 0) = false := by simp
    clear hl2 hok hj hg hro hp hb1
    go_wp2_with fail
    refine (copy_any ((R, r'.length, rc), r') _ HRO.out (by show r'.length ≤ _; omega)).mono ?_
    rintro e w2 ⟨A', c', rfl, hown, hb2⟩
    have hsz : w.heap.size ≤ w1.heap.size := HB1.out.size
    have HE : Hid (RGetO T (tlR ((some ⟨b2, o2, none⟩, ln, lc), ps)) key w (.returned (.tuple #[.slice A' r'.length c', .bool true])) w2) := Lib.hid ⟨.inl ⟨r', A', c', rfl, Hg.out, ⟨own_weaken hown hsz, rfl⟩⟩, Below.next HB1.out hb2⟩
    clear hown hb2 c0 c1 zy
    dsimp only
    go_wp2
    exact bodyPost_ret (v := .tuple #[.slice A' r'.length c', .bool true]) (by simp [results, Tryz.results37, go_sem]) rfl HE.out
  · have HE : Hid (RGetO T (tlR pl) key w (.returned (.tuple #[.slice none 0 0, .bool false])) w1) := Lib.hid ⟨.inr ⟨rfl, hg⟩, Below.next HB.out hb1⟩
    clear hg hb1
    go_wp2
    exact bodyPost_ret (v := .tuple #[.slice none 0 0, .bool false]) (by simp [results, Tryz.results37, go_sem]) rfl HE.out
end Go.Proofs.YtponkkljlbifmaaGreat
