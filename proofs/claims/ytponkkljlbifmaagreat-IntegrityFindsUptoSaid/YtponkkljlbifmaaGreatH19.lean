/-
  Texts: PdC, IgChk.
-/
import Derived.Test.YtponkkljlbifmaaGreatH18
import Derived.Test.YtponkkljlbifmaaGreatH16
set_option linter.unusedVariables false
/-
  The program's Check of a predicate.
-/
namespace Go.Proofs.YtponkkljlbifmaaGreat
open Go.RowKit
set_option maxRecDepth 100000
open Pd

set_option maxHeartbeats 8000000 in
theorem pcheck_any (cols ps : List Int) (p : Pd) (A : Option Addr) (n c : Nat) (Ac : Option Addr) (nc cc : Nat) (Ap : Option Addr) (np cp : Nat) (w : World) (hs : PrdS w A n c p) (hc : ClS w Ac nc cols) (hp : ClS w Ap np ps) (hnc : nc ≤ 9223372036854775807) (hnp : np ≤ 9223372036854775807) :
    Calls Tryz.prog 113 #[.slice Ac nc cc, .slice Ap np cp, .agg (pdV p.h A n c)] w fun e w' => e = .returned (.int .i64 (checkE cols ps p)) ∧ Below w.heap.size w w' := by
  obtain ⟨er, Her⟩ : ∃ z, Hid (checkE cols ps p = z) := ⟨_, rfl⟩
  rw [Her.out]
  unfold pdV
  have HS := Lib.hid (hs.keep (keeps_alloc w (.cells #[.int .i64 p.h.op, .int .i64 p.h.cm, .int .i64 p.h.l.k, .int .i64 p.h.l.ix, .int .i64 p.h.l.v.k, .int .i64 p.h.l.v.i, .string p.h.l.v.t, .int .i64 p.h.r.k, .int .i64 p.h.r.ix, .int .i64 p.h.r.v.k, .int .i64 p.h.r.v.i, .string p.h.r.v.t, .slice A n c] 71)))
  have HC := Lib.hid (hc.keep (keeps_alloc w (.cells #[.int .i64 p.h.op, .int .i64 p.h.cm, .int .i64 p.h.l.k, .int .i64 p.h.l.ix, .int .i64 p.h.l.v.k, .int .i64 p.h.l.v.i, .string p.h.l.v.t, .int .i64 p.h.r.k, .int .i64 p.h.r.ix, .int .i64 p.h.r.v.k, .int .i64 p.h.r.v.i, .string p.h.r.v.t, .slice A n c] 71)))
  have HP := Lib.hid (hp.keep (keeps_alloc w (.cells #[.int .i64 p.h.op, .int .i64 p.h.cm, .int .i64 p.h.l.k, .int .i64 p.h.l.ix, .int .i64 p.h.l.v.k, .int .i64 p.h.l.v.i, .string p.h.l.v.t, .int .i64 p.h.r.k, .int .i64 p.h.r.ix, .int .i64 p.h.r.v.k, .int .i64 p.h.r.v.i, .string p.h.r.v.t, .slice A n c] 71)))
  have HX := Lib.hid (Blk.new w 71 #[.int .i64 p.h.op, .int .i64 p.h.cm, .int .i64 p.h.l.k, .int .i64 p.h.l.ix, .int .i64 p.h.l.v.k, .int .i64 p.h.l.v.i, .string p.h.l.v.t, .int .i64 p.h.r.k, .int .i64 p.h.r.ix, .int .i64 p.h.r.v.k, .int .i64 p.h.r.v.i, .string p.h.r.v.t, .slice A n c])
  have HB := Lib.hid ((Below.refl w.heap.size w).alloc (Nat.le_refl _) (.cells #[.int .i64 p.h.op, .int .i64 p.h.cm, .int .i64 p.h.l.k, .int .i64 p.h.l.ix, .int .i64 p.h.l.v.k, .int .i64 p.h.l.v.i, .string p.h.l.v.t, .int .i64 p.h.r.k, .int .i64 p.h.r.ix, .int .i64 p.h.r.v.k, .int .i64 p.h.r.v.i, .string p.h.r.v.t, .slice A n c] 71))
  clear hs hc hp
  go_enter Tryz.func113, Tryz.ntmps113
  go_upto_region 1 with fail
  obtain ⟨X, HXe⟩ : ∃ z, Hid (w.heap.size = z) := ⟨_, rfl⟩
  rw [HXe.out] at HX
  rw [HXe.out]
  generalize hW : w.alloc (.cells #[.int .i64 p.h.op, .int .i64 p.h.cm, .int .i64 p.h.l.k, .int .i64 p.h.l.ix, .int .i64 p.h.l.v.k, .int .i64 p.h.l.v.i, .string p.h.l.v.t, .int .i64 p.h.r.k, .int .i64 p.h.r.ix, .int .i64 p.h.r.v.k, .int .i64 p.h.r.v.i, .string p.h.r.v.t, .slice A n c] 71) = w1 at *
  clear hW
  go_wp2_with fail
  refine (colK_any Ac nc cc cols _ HC.out hnc).mono ?_
  rintro e w2 ⟨rfl, rfl⟩
  obtain ⟨b1, H1⟩ : ∃ z, Hid (colB cols = z) := ⟨_, rfl⟩
  rw [H1.out]
  cases b1
  · obtain rfl : 1 = er := by rw [← Her.out, checkE, H1.out]; rfl
    go_wp2
    go_ret
    exact ⟨rfl, HB.out⟩
  · go_wp2_with fail
    refine (colK_any Ap np cp ps _ HP.out hnp).mono ?_
    rintro e w2 ⟨rfl, rfl⟩
    obtain ⟨b2, H2⟩ : ∃ z, Hid (colB ps = z) := ⟨_, rfl⟩
    rw [H2.out]
    cases b2
    · obtain rfl : 1 = er := by rw [← Her.out, checkE, H1.out, H2.out]; rfl
      go_wp2
      go_ret
      exact ⟨rfl, HB.out⟩
    · have Hs : Hid ((if p.nodes ≤ 24 ∧ p.depth ≤ 8 then (if validB cols ps p = true then 0 else 50) else 2) = er) := Lib.hid (by rw [← Her.out, checkE, H1.out, H2.out]; rfl)
      clear Her H1 H2
      have HS2 := Lib.hid (HS.out.keep (keeps_alloc w1 (.cells #[.int .i64 24] 3)))
      have HX2 := Lib.hid (HX.out.alloc (.cells #[.int .i64 24] 3))
      have HU := Lib.hid ((Below.refl w1.heap.size w1).alloc (Nat.le_refl _) (.cells #[.int .i64 24] 3))
      have HG := Lib.hid (Blk.new w1 3 #[.int .i64 24])
      obtain ⟨G, HGe⟩ : ∃ z, Hid (w1.heap.size = z) := ⟨_, rfl⟩
      rw [HGe.out] at HG
      have Hle : Hid (w1.heap.size = G) := Lib.hid HGe.out
      go_upto_region 4 with fail
      rw [HGe.out]
      generalize hW : w1.alloc (.cells #[.int .i64 24] 3) = w2 at *
      clear hW HGe
      have zx := HX2.out.cell
      go_wp2_with fail
      refine (small_any p.nodes p A n c 1 1 24 G _ (Nat.le_refl _) HS2.out HG.out rfl (by omega) (by omega) (by omega)).mono ?_
      rintro e w3 ⟨b', rfl, hb3, hx3, hu3⟩
      rw [smB_eq p]
      have HU3 := Lib.hid (hu3.below HU.out HU.out.size (fun k hk => by have := Hle.out; omega))
      have HS3 := Lib.hid (HS.out.keep (keeps_of HU3.out))
      have HX3 := Lib.hid (HX.out.below HU3.out)
      have HB3 := Lib.hid (Below.next HB.out HU3.out)
      have HC3 := Lib.hid (HC.out.keep (keeps_of HU3.out))
      have HP3 := Lib.hid (HP.out.keep (keeps_of HU3.out))
      clear zx hb3 hx3 hu3 HS2 HX2 HG HU HS HX HB HC HP HU3
      by_cases hsm : p.nodes ≤ 24 ∧ p.depth ≤ 8
      · have Hn := Lib.hid hsm.1
        rw [if_pos hsm] at Hs
        rw [decide_eq_true hsm]
        clear hsm
        have zx := HX3.out.cell
        go_wp2_with fail
        refine (pvalid_any cols ps p.nodes p A n c Ac nc cc Ap np cp _ (Nat.le_refl _) (by have := Hn.out; omega) HS3.out HC3.out HP3.out).mono ?_
        rintro e w4 ⟨rfl, hb4⟩
        have HB4 := Lib.hid (Below.next HB3.out hb4)
        obtain ⟨v, Hv⟩ : ∃ z, Hid (validB cols ps p = z) := ⟨_, rfl⟩
        rw [Hv.out] at Hs ⊢
        clear hb4 zx
        cases v
        · obtain rfl : 50 = er := Hs.out
          go_wp2
          go_ret
          exact ⟨rfl, HB4.out⟩
        · obtain rfl : 0 = er := Hs.out
          go_wp2
          go_ret
          exact ⟨rfl, HB4.out⟩
      · rw [if_neg hsm] at Hs
        rw [decide_eq_false hsm]
        obtain rfl : 2 = er := Hs.out
        clear hsm
        go_wp2
        go_ret
        exact ⟨rfl, HB3.out⟩
end Go.Proofs.YtponkkljlbifmaaGreat

/-
  The program's Check of a good schema; checkMode.
-/
namespace Go.Proofs.YtponkkljlbifmaaGreat
open Go.RowKit
set_option maxRecDepth 100000
open Pd

theorem PdsS.arg {w : World} {A : Option Addr} {n : Nat} {l : List Pd} {xs : List PdE} (h : PdsS w A n l xs) {k : Nat} (hk : k < n) : ∃ (b o : Nat) (q : Pd) (A1 : Option Addr) (n1 c1 : Nat), A = some ⟨b, o, none⟩ ∧ l[k]? = some q ∧ ArgAt w b (o + k * 13) q A1 n1 c1 := by
  obtain ⟨b, o, ⟨q, A1, n1, c1⟩, rfl, hx, hp, hc⟩ := h.at hk
  refine ⟨b, o, q, A1, n1, c1, rfl, hx, ?_⟩
  exact ⟨hc 0 _ rfl, hc 1 _ rfl, hc 2 _ rfl, hc 3 _ rfl, hc 4 _ rfl, hc 5 _ rfl, hc 6 _ rfl, hc 7 _ rfl, hc 8 _ rfl, hc 9 _ rfl, hc 10 _ rfl, hc 11 _ rfl, hc 12 _ rfl, hp⟩
theorem KdsO.cl {T : Tb} {w' : World} {A : Option Addr} {c : Nat} {b : Nat} (h : w'.ownsRow b 3 1 (.slice A T.cols.length c) T.cols.length (T.kinds.flatMap i64c)) : ClS w' A T.cols.length T.kinds :=
  Sl.of_own i64c_len (by unfold Tb.kinds; rw [List.length_map]) h
set_option maxHeartbeats 8000000 in
theorem scheck_any (ver : Int) (A : Option Addr) (n c : Nat) (tbs : List Tb) (w : World) (hs : ScS w A n tbs) (hg : GoodS ver tbs) :
    Calls Tryz.prog 83 #[.agg #[.int .i64 ver, .slice A n c]] w fun e w' => e = .returned (.int .i64 0) ∧ Below w.heap.size w w' := by
  have Hln := Lib.hid hs.len
  have hn8 : n ≤ 8 := by have := hg.ln; have := Hln.out; omega
  have HG := Lib.hid hg
  have HS := Lib.hid (hs.keep (keeps_alloc w (.cells #[.int .i64 ver, .slice A n c] 30)))
  have HZ := Lib.hid (Blk.new w 30 #[.int .i64 ver, .slice A n c])
  have HB := Lib.hid ((Below.refl w.heap.size w).alloc (Nat.le_refl _) (.cells #[.int .i64 ver, .slice A n c] 30))
  have hW1 : (w.alloc (.cells #[.int .i64 ver, .slice A n c] 30)).heap.size = w.heap.size + 1 := World.size_alloc _ _
  have g1 : decide ((8 : Int) < (n : Int)) = false := by simp; omega
  have g2 : decide (ver < 0) = false := by have := hg.v0; simp; omega
  have g3 : decide ((1000 : Int) < ver) = false := by have := hg.v1; simp; omega
  clear hs hg
  go_enter Tryz.func83, Tryz.ntmps83
  go_upto_region 1 with fail
  generalize hW : w.alloc (.cells #[.int .i64 ver, .slice A n c] 30) = w1 at *
  have z := HZ.out.cell
  go_wp2_with fail
  go_loopw [18] (fun i wr => ∃ k : Nat, k ≤ n ∧ i = .int .i64 (k : Int) ∧ Hid (Below w1.heap.size w1 wr)) (fun i _ => n - (intOf i).toNat)
  case atStart => exact ⟨0, by omega, rfl, Lib.hid (Below.refl _ _)⟩
  case round =>
    obtain ⟨k, hk, rfl, HBr⟩ := hrel
    clear z g1
    by_cases hlt : k < n
    · obtain ⟨b, o, ⟨T, ⟨A1, n1, k1⟩, ⟨A2, n2, k2⟩, ⟨A3, n3, k3⟩⟩, rfl, hT, hok, c0, c1, c2, c3, c4⟩ := (HS.out.keep (keeps_of HBr.out)).at hlt
      dsimp only at hT c0 c1 c2 c3 c4
      have hGT := HG.out.tb T (List.mem_of_getElem? hT)
      obtain ⟨xs, hrs⟩ := hok.rs
      obtain ⟨ys, hhs⟩ := hok.hs
      have g4 : decide ((8 : Int) < (n1 : Int)) = false := by have := hok.cs.len; have := hGT.cl; simp only at *; simp; omega
      have g5 : decide ((4 : Int) < (n2 : Int)) = false := by have := hrs.len; have := hGT.rl; simp only at *; simp; omega
      have g6 : decide ((4 : Int) < (n3 : Int)) = false := by have := hhs.len; have := hGT.hl; simp only at *; simp; omega
      have HX := Lib.hid (Blk.new wr 62 #[.string T.nm, .slice A1 n1 k1, .int .i64 T.key, .slice A2 n2 k2, .slice A3 n3 k3])
      have HBx := Lib.hid (HBr.out.alloc HBr.out.size (.cells #[.string T.nm, .slice A1 n1 k1, .int .i64 T.key, .slice A2 n2 k2, .slice A3 n3 k3] 62))
      have zx := HX.out.cell
      clear hT hGT hok hrs hhs HBr
      go_wp2
      go_roundw
      case rel => exact ⟨k + 1, by omega, by go_num, HBx⟩
      case measure => simp [intOf]; omega
    · obtain rfl : k = n := by omega
      have z := (HZ.out.below HBr.out).cell
      go_wp2_with fail
      refine (named_any ver _ k c tbs _ (HS.out.keep (keeps_of HBr.out)) HG.out).mono ?_
      rintro e w2 ⟨rfl, hb2⟩
      have HB2 := Lib.hid (Below.next HBr.out hb2)
      have z2 := (HZ.out.below HB2.out).cell
      clear z hb2
      go_wp2_with fail
      refine (referring_any ver _ k c tbs _ (HS.out.keep (keeps_of HB2.out)) HG.out).mono ?_
      rintro e w3 ⟨rfl, hb3⟩
      have HB3 := Lib.hid (Below.next HB2.out hb3)
      have z3 := (HZ.out.below HB3.out).cell
      clear z2 hb3 HB2 HBr
      go_wp2_with fail
      go_loopw [60] (fun i wr => ∃ j : Nat, j ≤ k ∧ i = .int .i64 (j : Int) ∧ Hid (Below w1.heap.size w1 wr)) (fun i _ => k - (intOf i).toNat)
      case atStart => exact ⟨0, by omega, rfl, HB3⟩
      case round =>
        obtain ⟨j, hj, rfl, HBr⟩ := hrel
        clear z3 HB3
        by_cases hjk : j < k
        · obtain ⟨b, o, ⟨T, ⟨A1, n1, k1⟩, ⟨A2, n2, k2⟩, ⟨A3, n3, k3⟩⟩, rfl, hT, hok, c0, c1, c2, c3, c4⟩ := (HS.out.keep (keeps_of HBr.out)).at hjk
          dsimp only at hT c0 c1 c2 c3 c4
          have HT := Lib.hid hT
          have HGT := Lib.hid (HG.out.tb T (List.mem_of_getElem? hT))
          obtain ⟨ys, hhs⟩ := hok.hs
          have HH := Lib.hid (hhs.keep (keeps_alloc wr (.cells #[.string T.nm, .slice A1 n1 k1, .int .i64 T.key, .slice A2 n2 k2, .slice A3 n3 k3] 62)))
          have hn3 : n3 ≤ 4 := by have := hhs.len; have := HGT.out.hl; simp only at *; omega
          have HX := Lib.hid (Blk.new wr 62 #[.string T.nm, .slice A1 n1 k1, .int .i64 T.key, .slice A2 n2 k2, .slice A3 n3 k3])
          have HBx := Lib.hid (HBr.out.alloc HBr.out.size (.cells #[.string T.nm, .slice A1 n1 k1, .int .i64 T.key, .slice A2 n2 k2, .slice A3 n3 k3] 62))
          have zb := (HZ.out.below HBx.out).cell
          have zx := HX.out.cell
          clear hT hok hhs HBr
          go_wp2_with fail
          refine (kinds_any ver _ k c tbs j T _ (HS.out.keep (keeps_of HBx.out)) hn8 HT.out HGT.out.cl).mono ?_
          rintro e w5 ⟨KA, kc, rfl, hown, hb5⟩
          have HKd := Lib.hid (KdsO.cl hown)
          have HX5 := Lib.hid (HX.out.below hb5)
          have HH5 := Lib.hid (HH.out.keep (keeps_of hb5))
          have HB5 := Lib.hid (Below.next HBx.out hb5)
          have zx5 := HX5.out.cell
          have hcl : T.cols.length ≤ 9223372036854775807 := by have := HGT.out.cl; omega
          clear zb zx c0 c1 c2 c3 c4 hown hb5 HX HH HBx
          go_wp2_with fail
          go_loopw [71] (fun i wr => ∃ q : Nat, q ≤ n3 ∧ i = .int .i64 (q : Int) ∧ Hid (Below w5.heap.size w5 wr)) (fun i _ => n3 - (intOf i).toNat)
          case atStart => exact ⟨0, by omega, rfl, Lib.hid (Below.refl _ _)⟩
          case round =>
            obtain ⟨q, hq, rfl, HBq⟩ := hrel
            clear zx5
            by_cases hqn : q < n3
            · obtain ⟨b2, o2, p, A4, n4, k4, rfl, hp, d⟩ := (HH5.out.keep (keeps_of HBq.out)).arg hqn
              have Hck := Lib.hid (HGT.out.ck p (List.mem_of_getElem? hp)).1
              have HSp := Lib.hid (d.s.keep (keeps_alloc wr (.cells (pdV p.h A4 n4 k4) 71)))
              have HY := Lib.hid (Blk.new wr 71 (pdV p.h A4 n4 k4))
              have HBy := Lib.hid (HBq.out.alloc HBq.out.size (.cells (pdV p.h A4 n4 k4) 71))
              have HK2 := Lib.hid (HKd.out.keep (keeps_of HBy.out))
              obtain ⟨d0, d1, d2, d3, d4, d5, d6, d7, d8, d9, d10, d11, d12, ds⟩ := d
              unfold pdV at HSp HY HBy HK2
              have zy := HY.out.cell
              clear ds hp
              go_wp2_with fail
              refine (pcheck_any T.kinds [] p A4 n4 k4 KA _ kc none 0 0 _ HSp.out HK2.out Sl.nil hcl (by omega)).mono ?_
              rintro e w7 ⟨rfl, hb7⟩
              rw [Hck.out]
              have HB7 := Lib.hid (Below.next HBy.out hb7)
              clear zy hb7 HY HBy HBq d0 d1 d2 d3 d4 d5 d6 d7 d8 d9 d10 d11 d12
              go_wp2
              go_roundw
              case rel => exact ⟨q + 1, by omega, by go_num, HB7⟩
              case measure => simp [intOf]; omega
            · obtain rfl : q = n3 := by omega
              have HB8 := Lib.hid (HB5.out.trans (HBq.out.mono HB5.out.size))
              go_wp2
              go_roundw
              case rel => exact ⟨j + 1, by omega, by go_num, HB8⟩
              case measure => simp [intOf]; omega
        · have HE := Lib.hid (HB.out.trans (HBr.out.mono (by omega)))
          obtain rfl : j = k := by omega
          go_wp2
          go_ret
          exact ⟨rfl, HE.out⟩

set_option maxHeartbeats 2000000 in
theorem checkmode_any (ver : Int) (A : Option Addr) (n c : Nat) (tbs : List Tb) (w : World) (hs : ScS w A n tbs) (hg : GoodS ver tbs) :
    Calls Tryz.prog 52 #[.agg #[.int .i64 ver, .slice A n c], .int .i64 1] w fun e w' => e = .returned (.int .i64 0) ∧ Below w.heap.size w w' := by
  have HG := Lib.hid hg
  have HS := Lib.hid (hs.keep (keeps_alloc w (.cells #[.int .i64 ver, .slice A n c] 30)))
  have HB := Lib.hid ((Below.refl w.heap.size w).alloc (Nat.le_refl _) (.cells #[.int .i64 ver, .slice A n c] 30))
  clear hs hg
  go_enter Tryz.func52, Tryz.ntmps52
  go_wp2_with fail
  refine (scheck_any ver A n c tbs _ HS.out HG.out).mono ?_
  rintro e w1 ⟨rfl, hb1⟩
  have HE := Lib.hid (Below.next HB.out hb1)
  go_wp2
  go_ret
  exact ⟨rfl, HE.out⟩
end Go.Proofs.YtponkkljlbifmaaGreat
