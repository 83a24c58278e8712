/-
  Texts: IgRef, EqO, PdK.
-/
import Derived.Test.YtponkkljlbifmaaGreatH7
import Derived.Deep.Cut
set_option linter.unusedVariables false
/-
  The program's referring: the references of a good schema.
-/
namespace Go.Proofs.YtponkkljlbifmaaGreat
open Go.RowKit
set_option maxRecDepth 100000
open Pd

set_option maxHeartbeats 4000000 in
theorem referring_any (ver : Int) (A : Option Addr) (n c : Nat) (tbs : List Tb) (w : World) (hs : ScS w A n tbs) (hg : GoodS ver tbs) :
    Calls Tryz.prog 111 #[.agg #[.int .i64 ver, .slice A n c]] w fun e w' => e = .returned (.bool true) ∧ Below w.heap.size w w' := by
  have Hln := Lib.hid hs.len
  have hn8 : n ≤ 8 := by have := hg.ln; have := Hln.out; omega
  have HG := Lib.hid hg
  have HS := Lib.hid (hs.keep (keeps_alloc w (.cells #[.int .i64 ver, .slice A n c] 30)))
  have HZ := Lib.hid (Blk.new w 30 #[.int .i64 ver, .slice A n c])
  have HB := Lib.hid ((Below.refl w.heap.size w).alloc (Nat.le_refl _) (.cells #[.int .i64 ver, .slice A n c] 30))
  have hW1 : (w.alloc (.cells #[.int .i64 ver, .slice A n c] 30)).heap.size = w.heap.size + 1 := World.size_alloc _ _
  clear hs hg
  go_enter Tryz.func111, Tryz.ntmps111
  go_upto_region 1 with fail
  generalize hW : w.alloc (.cells #[.int .i64 ver, .slice A n c] 30) = w1 at *
  have z := HZ.out.cell
  go_wp2_with fail
  go_loopw [13] (fun i wr => ∃ k : Nat, k ≤ n ∧ i = .int .i64 (k : Int) ∧ Hid (Below w1.heap.size w1 wr)) (fun i _ => n - (intOf i).toNat)
  case atStart => exact ⟨0, by omega, rfl, Lib.hid (Below.refl _ _)⟩
  case round =>
    obtain ⟨k, hk, rfl, HBr⟩ := hrel
    clear z
    by_cases hlt : k < n
    · obtain ⟨b, o, ⟨T, ⟨A1, n1, k1⟩, ⟨A2, n2, k2⟩, ⟨A3, n3, k3⟩⟩, rfl, hT, hok, c0, c1, c2, c3, c4⟩ := HS.out.at hlt
      dsimp only at hT c0 c1 c2 c3 c4
      have hkp := keeps_of HBr.out
      have d0 := (hkp _ (by rw [c0]; rfl)).trans c0
      have d1 := (hkp _ (by rw [c1]; rfl)).trans c1
      have d2 := (hkp _ (by rw [c2]; rfl)).trans c2
      have d3 := (hkp _ (by rw [c3]; rfl)).trans c3
      have d4 := (hkp _ (by rw [c4]; rfl)).trans c4
      have hTm := List.mem_of_getElem? hT
      have hGT := HG.out.tb T hTm
      have HGR := Lib.hid (HG.out.rf T hTm)
      obtain ⟨xs, hrs⟩ := hok.rs
      have HRS := Lib.hid hrs
      have HCc := Lib.hid hok.cs
      have hn2 : n2 ≤ 4 := by have := hrs.len; have := hGT.rl; simp only at *; omega
      have hn1 : n1 ≤ 8 := by have := hok.cs.len; have := hGT.cl; simp only at *; omega
      have HX := Lib.hid (Blk.new wr 62 #[.string T.nm, .slice A1 n1 k1, .int .i64 T.key, .slice A2 n2 k2, .slice A3 n3 k3])
      have HBx := Lib.hid (HBr.out.alloc HBr.out.size (.cells #[.string T.nm, .slice A1 n1 k1, .int .i64 T.key, .slice A2 n2 k2, .slice A3 n3 k3] 62))
      have zx := HX.out.cell
      clear hT hGT hTm hok hrs c0 c1 c2 c3 c4 hkp
      go_upto_region 4 with fail
      obtain ⟨X, hX⟩ : ∃ z, wr.heap.size = z := ⟨_, rfl⟩
      rw [hX] at HX zx ⊢
      generalize hW2 : wr.alloc (.cells #[.string T.nm, .slice A1 n1 k1, .int .i64 T.key, .slice A2 n2 k2, .slice A3 n3 k3] 62) = w2 at *
      clear d0 d1 d2 d3 d4 HBr
      go_wp2_with fail
      go_loopw [20] (fun i wr => ∃ q : Nat, q ≤ n2 ∧ i = .int .i64 (q : Int) ∧ Hid (Below w2.heap.size w2 wr)) (fun i _ => n2 - (intOf i).toNat)
      case atStart => exact ⟨0, by omega, rfl, Lib.hid (Below.refl _ _)⟩
      case round =>
        obtain ⟨q, hq, rfl, HBy⟩ := hrel
        clear zx
        have HBw := Lib.hid (HBx.out.trans (HBy.out.mono (HBx.out.size)))
        by_cases hqn : q < n2
        · obtain ⟨b2, o2, ⟨x, XA, xn, xc⟩, rfl, hx, hcl, x0, x1⟩ := (HRS.out.keep (keeps_of HBw.out)).at hqn
          dsimp only at hx hcl x0 x1
          obtain ⟨ht0, U, hU, hUk, hUc⟩ := HGR.out x (List.mem_of_getElem? hx)
          obtain ⟨tt, htt⟩ := Int.eq_ofNat_of_zero_le ht0
          rw [htt, Int.toNat_natCast] at hU
          rw [htt] at x1
          have htn : tt < n := by rw [← Hln.out]; exact (List.getElem?_eq_some_iff.1 hU).1
          obtain ⟨b3, o3, ⟨U', ⟨B1, m1, l1⟩, ⟨B2, m2, l2⟩, ⟨B3, m3, l3⟩⟩, e3, hU', hok3, u0, u1, u2, u3, u4⟩ := (HS.out.keep (keeps_of HBw.out)).at htn
          obtain rfl : U = U' := by rw [hU] at hU'; injection hU'
          injection e3 with e3
          injection e3 with e3 e4
          subst e3 e4
          dsimp only at u0 u1 u2 u3 u4
          have HCu := Lib.hid hok3.cs
          have hm1 : (x.cols.length : Int) ≤ m1 := by
            have h1 := hok3.cs.len
            have h2 := (HG.out.tb U (List.mem_of_getElem? hU)).k2
            simp only at h1
            omega
          have Hxl := Lib.hid hcl.len
          have hxn : (xn : Int) = U.key := by rw [← hUk]; have := Hxl.out; omega
          have HCL := Lib.hid hcl
          have HUC := Lib.hid hUc
          have g1 : decide ((tt : Int) < 0) = false := by simp
          have g2 : decide ((n : Int) ≤ (tt : Int)) = false := by simp; omega
          have g3 : ((xn : Int) != U.key) = false := by simp [hxn]
          have hm18 : m1 ≤ 8 := by have := hok3.cs.len; have := (HG.out.tb U (List.mem_of_getElem? hU)).cl; simp only at *; omega
          have hxm : xn ≤ m1 := by have := Hxl.out; omega
          have zb := ((HZ.out.below HBw.out).alloc (.cells #[.slice XA xn xc, .int .i64 (tt : Int)] 65)).cell
          have HY := Lib.hid ((Blk.new wr 65 #[.slice XA xn xc, .int .i64 (tt : Int)]).alloc (.cells #[.string U.nm, .slice B1 m1 l1, .int .i64 U.key, .slice B2 m2 l2, .slice B3 m3 l3] 62))
          have zy := (Blk.new wr 65 #[.slice XA xn xc, .int .i64 (tt : Int)]).cell
          have HV := Lib.hid (Blk.new (wr.alloc (.cells #[.slice XA xn xc, .int .i64 (tt : Int)] 65)) 62 #[.string U.nm, .slice B1 m1 l1, .int .i64 U.key, .slice B2 m2 l2, .slice B3 m3 l3])
          rw [World.size_alloc] at HV
          have HB3 := Lib.hid ((HBy.out.alloc HBy.out.size (.cells #[.slice XA xn xc, .int .i64 (tt : Int)] 65)).alloc (by have := HBy.out.size; simp; omega) (.cells #[.string U.nm, .slice B1 m1 l1, .int .i64 U.key, .slice B2 m2 l2, .slice B3 m3 l3] 62))
          have v0 := (keeps_alloc wr (.cells #[.slice XA xn xc, .int .i64 (tt : Int)] 65) _ (by rw [u0]; rfl)).trans u0
          have v1 := (keeps_alloc wr (.cells #[.slice XA xn xc, .int .i64 (tt : Int)] 65) _ (by rw [u1]; rfl)).trans u1
          have v2 := (keeps_alloc wr (.cells #[.slice XA xn xc, .int .i64 (tt : Int)] 65) _ (by rw [u2]; rfl)).trans u2
          have v3 := (keeps_alloc wr (.cells #[.slice XA xn xc, .int .i64 (tt : Int)] 65) _ (by rw [u3]; rfl)).trans u3
          have v4 := (keeps_alloc wr (.cells #[.slice XA xn xc, .int .i64 (tt : Int)] 65) _ (by rw [u4]; rfl)).trans u4
          have zv := HV.out.cell
          have zy3 := HY.out.cell
          have HCL3 := Lib.hid ((HCL.out.keep (keeps_alloc _ (.cells #[.slice XA xn xc, .int .i64 (tt : Int)] 65))).keep (keeps_alloc _ (.cells #[.string U.nm, .slice B1 m1 l1, .int .i64 U.key, .slice B2 m2 l2, .slice B3 m3 l3] 62)))
          have HCu3 := Lib.hid ((HCu.out.keep (keeps_alloc _ (.cells #[.slice XA xn xc, .int .i64 (tt : Int)] 65))).keep (keeps_alloc _ (.cells #[.string U.nm, .slice B1 m1 l1, .int .i64 U.key, .slice B2 m2 l2, .slice B3 m3 l3] 62)))
          clear hx hcl hok3 u0 u1 u2 u3 u4 hUc hU hU' HCL HCu ht0 htt
          go_upto_region 12 with fail
          obtain ⟨V, hV⟩ : ∃ z, wr.heap.size = z := ⟨_, rfl⟩
          rw [hV] at zv zy3 HV HY ⊢
          generalize hW3 : (wr.alloc (.cells #[.slice XA xn xc, .int .i64 (tt : Int)] 65)).alloc (.cells #[.string U.nm, .slice B1 m1 l1, .int .i64 U.key, .slice B2 m2 l2, .slice B3 m3 l3] 62) = w3 at *
          have HX3 := Lib.hid (HX.out.below HB3.out)
          have HC3 := Lib.hid (HCc.out.keep (keeps_of (HBx.out.trans (HB3.out.mono HBx.out.size))))
          clear zb zy v0 v1 v2 v3 v4 HBy g1 g2 g3
          go_wp2_with fail
          go_loopw [50] (fun i wr => ∃ j : Nat, j ≤ xn ∧ i = .int .i64 (j : Int) ∧ Hid (Below w3.heap.size w3 wr)) (fun i _ => xn - (intOf i).toNat)
          case atStart => exact ⟨0, by omega, rfl, Lib.hid (Below.refl _ _)⟩
          case round =>
            obtain ⟨j, hj, rfl, HBj⟩ := hrel
            clear zv zy3
            have HBq := Lib.hid (HB3.out.trans (HBj.out.mono HB3.out.size))
            by_cases hjn : j < xn
            · obtain ⟨b5, o5, cc, rfl, hcc, hcx⟩ := (HCL3.out.keep (keeps_of HBj.out)).at hjn
              have y0 := hcx 0 _ rfl
              simp only [Nat.mul_one, Nat.add_zero] at y0
              obtain ⟨h0, ca, cb, hca, hcb, hab⟩ := HUC.out j cc hcc
              obtain ⟨cn, rfl⟩ := Int.eq_ofNat_of_zero_le h0
              rw [Int.toNat_natCast] at hca
              have hcn : cn < n1 := by rw [← HC3.out.len]; exact (List.getElem?_eq_some_iff.1 hca).1
              obtain ⟨b6, o6, ca', rfl, hca', p0, p1⟩ := Cm.at (HC3.out.keep (keeps_of HBj.out)) hcn
              obtain rfl : ca = ca' := by rw [hca] at hca'; injection hca'
              obtain ⟨b7, o7, cb', rfl, hcb', q0, q1⟩ := Cm.at (HCu3.out.keep (keeps_of HBj.out)) (show j < m1 by omega)
              obtain rfl : cb = cb' := by rw [hcb] at hcb'; injection hcb'
              rw [← hab] at q1
              have g4 : decide ((cn : Int) < 0) = false := by simp
              have g5 : decide (n1 ≤ cn) = false := by simp; omega
              obtain ⟨ak, hak⟩ : ∃ z, ca.k = z := ⟨_, rfl⟩
              rw [hak] at p1 q1
              have g6 : (ak != ak) = false := by simp
              have zv := (HV.out.below HBj.out).cell
              have zx := (HX3.out.below HBj.out).cell
              clear hcc hcx h0 hca hcb hab hca' hcb' p0 q0 hak
              go_wp2_with fail
              have y1 : wr.drew.cell? ⟨b5, o5 + j, none⟩ = some (.int .i64 (cn : Int)) := y0
              have p2 : wr.drew.cell? ⟨b6, o6 + cn * 2 + 1, none⟩ = some (.int .i64 ak) := p1
              have q2 : wr.drew.cell? ⟨b7, o7 + j * 2 + 1, none⟩ = some (.int .i64 ak) := q1
              have zv2 : ∀ i, wr.drew.cell? ⟨V + 1, i, none⟩ = (#[.string U.nm, .slice (some ⟨b7, o7, none⟩) m1 l1, .int .i64 U.key, .slice B2 m2 l2, .slice B3 m3 l3] : Array Value)[i]? := zv
              have zx2 : ∀ i, wr.drew.cell? ⟨X, i, none⟩ = (#[.string T.nm, .slice (some ⟨b6, o6, none⟩) n1 k1, .int .i64 T.key, .slice (some ⟨b2, o2, none⟩) n2 k2, .slice A3 n3 k3] : Array Value)[i]? := zx
              have HBd : Hid (Below w3.heap.size w3 wr.drew) := Lib.hid HBj.out.drew
              clear y0 p1 q1 zv zx HBj HBq
              generalize hWn : wr.drew = Wn at *
              have hca := @cell_after Wn
              refine wp_region_seg [] [0, 1, 2, 3, 4, 5, 6, 7, 8, 9, 10, 11, 12, 13, 14, 15, 16, 17, 18, 19, 20, 21, 22, 23] (by kernel_rfl) (by kernel_rfl) (fun _ _ d _ _ h => by cases d <;> exact h) ?_
              rw [hWn]
              clear hWn
              simp only [pickSegs, pickOps, opAt, List.map_cons, List.map_nil, List.getElem?_toArray, List.getElem?_cons_zero, List.getElem?_cons_succ, Option.getD_some]
              unfold wpBlocks
              repeat (go_big_quiet_step (fail))
              refine wpQuiet_nil ?_
              go_wp2
              go_roundw
              case rel => exact ⟨j + 1, by omega, by go_num, HBd⟩
              case measure => simp [intOf]; omega
            · obtain rfl : j = xn := by omega
              go_wp2
              go_roundw
              case rel => exact ⟨q + 1, by omega, by go_num, HBq⟩
              case measure => simp [intOf]; omega
        · obtain rfl : q = n2 := by omega
          go_wp2
          go_roundw
          case rel => exact ⟨k + 1, by omega, by go_num, HBw⟩
          case measure => simp [intOf]; omega
    · obtain rfl : k = n := by omega
      have HE := Lib.hid (HB.out.trans (HBr.out.mono (by omega)))
      go_wp2
      go_ret
      exact ⟨rfl, HE.out⟩
end Go.Proofs.YtponkkljlbifmaaGreat

/-
  Comparisons of operands and of values with the zero ones.
-/
namespace Go.Proofs.YtponkkljlbifmaaGreat
open Go.RowKit
set_option maxRecDepth 100000

theorem run_neqV (a b : Int) (c : ByteArray) (a' b' : Int) (c' : ByteArray) (w : World) : (binOp .neq 67 (.agg #[.int .i64 a, .int .i64 b, .string c]) (.agg #[.int .i64 a', .int .i64 b', .string c'])).run Tryz.prog w =
    .ok (.bool (decide ((⟨a, b, c⟩ : Vl) ≠ ⟨a', b', c'⟩))) w := by
  have h : decide ((⟨a, b, c⟩ : Vl) ≠ ⟨a', b', c'⟩) = !((a == a') && ((b == b') && (c.toList == c'.toList))) := by
    rw [Bool.eq_iff_iff]
    simp only [Vl.mk.injEq, text_eq, decide_eq_true_eq, Bool.not_eq_true', Bool.and_eq_false_imp, beq_iff_eq, ne_eq, not_and, beq_eq_false_iff_ne]
  rw [h]
  clear h
  by_cases h1 : (a == a') = true
  · by_cases h2 : (b == b') = true
    · simp [go_sem, h1, h2]
      split <;> simp_all
    · simp [go_sem, h1, h2]
  · simp [go_sem, h1]
theorem run_neqO (k ix a b : Int) (c : ByteArray) (k' ix' a' b' : Int) (c' : ByteArray) (w : World) : (binOp .neq 69 (.agg #[.int .i64 k, .int .i64 ix, .int .i64 a, .int .i64 b, .string c]) (.agg #[.int .i64 k', .int .i64 ix', .int .i64 a', .int .i64 b', .string c'])).run Tryz.prog w =
    .ok (.bool (decide ((⟨k, ix, ⟨a, b, c⟩⟩ : Od) ≠ ⟨k', ix', ⟨a', b', c'⟩⟩))) w := by
  have h : decide ((⟨k, ix, ⟨a, b, c⟩⟩ : Od) ≠ ⟨k', ix', ⟨a', b', c'⟩⟩) = !((k == k') && ((ix == ix') && ((a == a') && ((b == b') && (c.toList == c'.toList))))) := by
    rw [Bool.eq_iff_iff]
    simp only [Od.mk.injEq, Vl.mk.injEq, text_eq, decide_eq_true_eq, Bool.not_eq_true', Bool.and_eq_false_imp, beq_iff_eq, ne_eq, not_and, beq_eq_false_iff_ne]
  rw [h]
  clear h
  by_cases g1 : (k == k') = true
  · by_cases g2 : (ix == ix') = true
    · by_cases h1 : (a == a') = true
      · by_cases h2 : (b == b') = true
        · simp [go_sem, g1, g2, h1, h2]
          split <;> simp_all
        · simp [go_sem, g1, g2, h1, h2]
      · simp [go_sem, g1, g2, h1]
    · simp [go_sem, g1, g2]
  · simp [go_sem, g1]
theorem run_eqO (k ix a b : Int) (c : ByteArray) (k' ix' a' b' : Int) (c' : ByteArray) (w : World) : (binOp .eql 69 (.agg #[.int .i64 k, .int .i64 ix, .int .i64 a, .int .i64 b, .string c]) (.agg #[.int .i64 k', .int .i64 ix', .int .i64 a', .int .i64 b', .string c'])).run Tryz.prog w =
    .ok (.bool (decide ((⟨k, ix, ⟨a, b, c⟩⟩ : Od) = ⟨k', ix', ⟨a', b', c'⟩⟩))) w := by
  have h : decide ((⟨k, ix, ⟨a, b, c⟩⟩ : Od) = ⟨k', ix', ⟨a', b', c'⟩⟩) = ((k == k') && ((ix == ix') && ((a == a') && ((b == b') && (c.toList == c'.toList))))) := by
    rw [Bool.eq_iff_iff]
    simp only [Od.mk.injEq, Vl.mk.injEq, text_eq, decide_eq_true_eq, Bool.and_eq_true, beq_iff_eq]
  rw [h]
  clear h
  by_cases g1 : (k == k') = true
  · by_cases g2 : (ix == ix') = true
    · by_cases h1 : (a == a') = true
      · by_cases h2 : (b == b') = true
        · simp [go_sem, g1, g2, h1, h2]
          split <;> simp_all
        · simp [go_sem, g1, g2, h1, h2]
      · simp [go_sem, g1, g2, h1]
    · simp [go_sem, g1, g2]
  · simp [go_sem, g1]
end Go.Proofs.YtponkkljlbifmaaGreat

/-
  The kind of an operand: the program's.
-/
namespace Go.Proofs.YtponkkljlbifmaaGreat
open Go.RowKit
set_option maxRecDepth 100000

theorem kindOf_val {cols ps : List Int} {o : Od} (h : o.k = 3) : kindOf cols ps o = if o.ix = 0 ∧ realV o.v = true then o.v.k else 0 := by unfold kindOf; rw [if_pos h]
theorem kindOf_col {cols ps : List Int} {o : Od} (h : o.k = 1) : kindOf cols ps o = if 0 ≤ o.ix ∧ o.ix < (cols.length : Int) ∧ o.v = zeroV then cols.getD o.ix.toNat 0 else 0 := by unfold kindOf; rw [if_neg (by omega), if_pos h]
theorem kindOf_par {cols ps : List Int} {o : Od} (h : o.k = 2) : kindOf cols ps o = if 0 ≤ o.ix ∧ o.ix < (ps.length : Int) ∧ o.v = zeroV then ps.getD o.ix.toNat 0 else 0 := by unfold kindOf; rw [if_neg (by omega), if_neg (by omega), if_pos h]
theorem kindOf_none {cols ps : List Int} {o : Od} (h1 : o.k ≠ 1) (h2 : o.k ≠ 2) (h3 : o.k ≠ 3) : kindOf cols ps o = 0 := by unfold kindOf; rw [if_neg h3, if_neg h1, if_neg h2]

set_option maxHeartbeats 4000000 in
theorem kof_any (cols ps : List Int) (o : Od) (Ac : Option Addr) (nc cc : Nat) (Ap : Option Addr) (np cp : Nat) (w : World) (hc : ClS w Ac nc cols) (hp : ClS w Ap np ps) :
    Calls Tryz.prog 155 #[.agg #[.slice Ac nc cc, .slice Ap np cp], .agg #[.int .i64 o.k, .int .i64 o.ix, .int .i64 o.v.k, .int .i64 o.v.i, .string o.v.t]] w fun e w' => e = .returned (.int .i64 (kindOf cols ps o)) ∧ Below w.heap.size w w' := by
  obtain ⟨k, ix, ⟨vk, vi, vt⟩⟩ := o
  obtain ⟨rr, Hrr⟩ : ∃ z, Hid (kindOf cols ps ⟨k, ix, ⟨vk, vi, vt⟩⟩ = z) := ⟨_, rfl⟩
  rw [Hrr.out]
  have Hlc := Lib.hid hc.len
  have Hlp := Lib.hid hp.len
  have HC := Lib.hid ((hc.keep (keeps_alloc w (.cells #[.slice Ac nc cc, .slice Ap np cp] 168))).keep (keeps_alloc _ (.cells #[.int .i64 k, .int .i64 ix, .int .i64 vk, .int .i64 vi, .string vt] 69)))
  have HP := Lib.hid ((hp.keep (keeps_alloc w (.cells #[.slice Ac nc cc, .slice Ap np cp] 168))).keep (keeps_alloc _ (.cells #[.int .i64 k, .int .i64 ix, .int .i64 vk, .int .i64 vi, .string vt] 69)))
  have HK := Lib.hid ((Blk.new w 168 #[.slice Ac nc cc, .slice Ap np cp]).alloc (.cells #[.int .i64 k, .int .i64 ix, .int .i64 vk, .int .i64 vi, .string vt] 69))
  have HX := Lib.hid (Blk.new (w.alloc (.cells #[.slice Ac nc cc, .slice Ap np cp] 168)) 69 #[.int .i64 k, .int .i64 ix, .int .i64 vk, .int .i64 vi, .string vt])
  rw [show (w.alloc (.cells #[.slice Ac nc cc, .slice Ap np cp] 168)).heap.size = w.heap.size + 1 by simp] at HX
  have HB0 := (Below.refl w.heap.size w).alloc (Nat.le_refl _) (.cells #[.slice Ac nc cc, .slice Ap np cp] 168)
  have HB := Lib.hid (HB0.alloc HB0.size (.cells #[.int .i64 k, .int .i64 ix, .int .i64 vk, .int .i64 vi, .string vt] 69))
  clear HB0
  clear hc hp
  go_enter Tryz.func155, Tryz.ntmps155
  go_upto_region 1 with fail
  generalize hW : (w.alloc (.cells #[.slice Ac nc cc, .slice Ap np cp] 168)).alloc (.cells #[.int .i64 k, .int .i64 ix, .int .i64 vk, .int .i64 vi, .string vt] 69) = w1 at *
  clear hW
  have zx := HX.out.cell
  have zk := HK.out.cell
  by_cases h3 : k = 3
  · have Hs : Hid ((if ix = 0 ∧ realV ⟨vk, vi, vt⟩ = true then vk else 0) = rr) := Lib.hid (by rw [← Hrr.out, kindOf_val h3])
    subst h3
    clear Hrr
    by_cases hi : ix = 0
    · subst hi
      go_wp2_with fail
      refine (real_any ⟨vk, vi, vt⟩ _).mono ?_
      rintro e w2 ⟨rfl, hb2⟩
      have zx2 := (HX.out.below hb2).cell
      have HB2 := Lib.hid (Below.next HB.out hb2)
      clear zx hb2
      obtain ⟨q, Hq⟩ : ∃ z, Hid (realV ⟨vk, vi, vt⟩ = z) := ⟨_, rfl⟩
      rw [Hq.out] at Hs ⊢
      cases q
      · obtain rfl : 0 = rr := Hs.out
        go_wp2
        go_ret
        exact ⟨rfl, HB2.out⟩
      · obtain rfl : vk = rr := Hs.out
        go_wp2
        go_ret
        exact ⟨rfl, HB2.out⟩
    · have g1 : (ix != 0) = true := by simpa using hi
      obtain rfl : 0 = rr := by rw [← Hs.out, if_neg (fun h => hi h.1)]
      clear hi Hs
      go_wp2
      go_ret
      exact ⟨rfl, HB.out⟩
  by_cases h1 : k = 1
  · have Hs : Hid ((if 0 ≤ ix ∧ ix < (cols.length : Int) ∧ (⟨vk, vi, vt⟩ : Vl) = zeroV then cols.getD ix.toNat 0 else 0) = rr) := Lib.hid (by rw [← Hrr.out, kindOf_col h1])
    clear Hrr h3
    subst h1
    by_cases h0 : ix < 0
    · obtain rfl : 0 = rr := by rw [← Hs.out, if_neg (fun h => by omega)]
      have g1 : decide (ix < 0) = true := decide_eq_true h0
      clear Hs h0
      go_wp2
      go_ret
      exact ⟨rfl, HB.out⟩
    · have g1 : decide (ix < 0) = false := decide_eq_false h0
      by_cases hn : ix < (nc : Int)
      · have g2 : decide ((nc : Int) ≤ ix) = false := decide_eq_false (by omega)
        have hev := run_neqV vk vi vt 0 0 ⟨#[]⟩
        by_cases hz : (⟨vk, vi, vt⟩ : Vl) = ⟨0, 0, ⟨#[]⟩⟩
        · obtain ⟨j, rfl⟩ := Int.eq_ofNat_of_zero_le (Int.not_lt.1 h0)
          obtain ⟨b, o, x, rfl, hx, hxc⟩ := HC.out.at (show j < nc by omega)
          have d0 := hxc 0 _ rfl
          simp only [Nat.mul_one, Nat.add_zero] at d0
          obtain rfl : x = rr := by
            rw [← Hs.out, if_pos ⟨by omega, by rw [Hlc.out]; omega, hz⟩, Int.toNat_natCast, List.getD_eq_getElem?_getD, hx]
            rfl
          rw [decide_eq_false (fun h => h hz)] at hev
          have hjn : j < nc := by omega
          have g3 : decide (nc ≤ j) = false := by simp; omega
          clear hx hxc Hs hz h0 hn
          go_wp2
          go_ret
          exact ⟨rfl, HB.out⟩
        · obtain rfl : 0 = rr := by rw [← Hs.out, if_neg (fun h => hz h.2.2)]
          rw [decide_eq_true hz] at hev
          clear Hs hz h0 hn
          go_wp2
          go_ret
          exact ⟨rfl, HB.out⟩
      · have g2 : decide ((nc : Int) ≤ ix) = true := decide_eq_true (by omega)
        obtain rfl : 0 = rr := by rw [← Hs.out, if_neg (fun h => by have := Hlc.out; omega)]
        clear Hs h0 hn
        go_wp2
        go_ret
        exact ⟨rfl, HB.out⟩
  by_cases h2 : k = 2
  · have Hs : Hid ((if 0 ≤ ix ∧ ix < (ps.length : Int) ∧ (⟨vk, vi, vt⟩ : Vl) = zeroV then ps.getD ix.toNat 0 else 0) = rr) := Lib.hid (by rw [← Hrr.out, kindOf_par h2])
    clear Hrr h3 h1
    subst h2
    by_cases h0 : ix < 0
    · obtain rfl : 0 = rr := by rw [← Hs.out, if_neg (fun h => by omega)]
      have g1 : decide (ix < 0) = true := decide_eq_true h0
      clear Hs h0
      go_wp2
      go_ret
      exact ⟨rfl, HB.out⟩
    · have g1 : decide (ix < 0) = false := decide_eq_false h0
      by_cases hn : ix < (np : Int)
      · have g2 : decide ((np : Int) ≤ ix) = false := decide_eq_false (by omega)
        have hev := run_neqV vk vi vt 0 0 ⟨#[]⟩
        by_cases hz : (⟨vk, vi, vt⟩ : Vl) = ⟨0, 0, ⟨#[]⟩⟩
        · obtain ⟨j, rfl⟩ := Int.eq_ofNat_of_zero_le (Int.not_lt.1 h0)
          obtain ⟨b, o, x, rfl, hx, hxc⟩ := HP.out.at (show j < np by omega)
          have d0 := hxc 0 _ rfl
          simp only [Nat.mul_one, Nat.add_zero] at d0
          obtain rfl : x = rr := by
            rw [← Hs.out, if_pos ⟨by omega, by rw [Hlp.out]; omega, hz⟩, Int.toNat_natCast, List.getD_eq_getElem?_getD, hx]
            rfl
          rw [decide_eq_false (fun h => h hz)] at hev
          have hjn : j < np := by omega
          have g3 : decide (np ≤ j) = false := by simp; omega
          clear hx hxc Hs hz h0 hn
          go_wp2
          go_ret
          exact ⟨rfl, HB.out⟩
        · obtain rfl : 0 = rr := by rw [← Hs.out, if_neg (fun h => hz h.2.2)]
          rw [decide_eq_true hz] at hev
          clear Hs hz h0 hn
          go_wp2
          go_ret
          exact ⟨rfl, HB.out⟩
      · have g2 : decide ((np : Int) ≤ ix) = true := decide_eq_true (by omega)
        obtain rfl : 0 = rr := by rw [← Hs.out, if_neg (fun h => by have := Hlp.out; omega)]
        clear Hs h0 hn
        go_wp2
        go_ret
        exact ⟨rfl, HB.out⟩
  obtain rfl : 0 = rr := by rw [← Hrr.out, kindOf_none h1 h2 h3]
  have g1 : (k == 1) = false := by simpa using h1
  have g2 : (k == 2) = false := by simpa using h2
  have g3 : (k == 3) = false := by simpa using h3
  clear h1 h2 h3 Hrr
  go_wp2
  go_ret
  exact ⟨rfl, HB.out⟩
end Go.Proofs.YtponkkljlbifmaaGreat
