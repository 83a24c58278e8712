/-
  Texts: IgRRf, IgRSC.
-/
import Derived.Test.YtponkkljlbifmaaGreatG39
set_option linter.unusedVariables false
/-
  The reference's check of the references of one table of a good schema.
-/
namespace Go.Proofs.YtponkkljlbifmaaGreat
open Go.RowKit
set_option maxRecDepth 100000
open Pd

set_option maxRecDepth 100000 in
set_option maxHeartbeats 4000000 in
theorem rrefs_any (ver : Int) (A : Option Addr) (n c : Nat) (tbs : List Tb) (t : Nat) (T : Tb) (w : World) (hs : ScS w A n tbs) (hg : GoodS ver tbs) (hT : tbs[t]? = some T) :
    Calls Tryz.prog 101 #[.agg #[.int .i64 ver, .slice A n c], .int .i64 (t : Int)] w fun e w' => e = .returned (.bool true) ∧ Below w.heap.size w w' := by
  have ht : t < n := by rw [← hs.len]; exact (List.getElem?_eq_some_iff.1 hT).1
  have hn8 : n ≤ 8 := by have := hg.ln; have := hs.len; omega
  have HS0 := Lib.hid hs
  obtain ⟨b, o, e, rfl, he, hok, c0, c1, c2, c3, c4⟩ := hs.at ht
  obtain rfl : T = e.T := by rw [hT] at he; injection he
  have HC0 := Lib.hid hok.cs
  have Hln := Lib.hid (hok.cs.len)
  have HG := Lib.hid hg
  have HGT := Lib.hid (hg.tb e.T (List.mem_of_getElem? hT))
  have HT := Lib.hid hT
  obtain ⟨xs, hrs⟩ := hok.rs
  have hok_rs := Lib.hid hrs
  clear hrs hs hok hT he hg
  obtain ⟨T, ⟨A1, n1, k1⟩, ⟨A2, n2, k2⟩, ⟨A3, n3, k3⟩⟩ := e
  dsimp only at HC0 Hln HGT HT hok_rs c0 c1 c2 c3 c4 ⊢
  have HZ := Lib.hid (Blk.new w 30 #[.int .i64 ver, .slice (some ⟨b, o, none⟩) n c])
  have hB1 : Below w.heap.size w (w.alloc (.cells #[.int .i64 ver, .slice (some ⟨b, o, none⟩) n c] 30)) := (Below.refl _ w).alloc (Nat.le_refl _) _
  have hk := keeps_of hB1
  have d0 := (hk _ (by rw [c0]; rfl)).trans c0
  have d1 := (hk _ (by rw [c1]; rfl)).trans c1
  have d2 := (hk _ (by rw [c2]; rfl)).trans c2
  have d3 := (hk _ (by rw [c3]; rfl)).trans c3
  have d4 := (hk _ (by rw [c4]; rfl)).trans c4
  have hB2 := Below.next hB1 ((Below.refl _ _).alloc (Nat.le_refl _) (.cells #[.string T.nm, .slice A1 n1 k1, .int .i64 T.key, .slice A2 n2 k2, .slice A3 n3 k3] 62))
  have HI : Hid (RtI w ver (some ⟨b, o, none⟩) n c tbs #[.string T.nm, .slice A1 n1 k1, .int .i64 T.key, .slice A2 n2 k2, .slice A3 n3 k3] A1 n1 T.cols ((w.alloc (.cells #[.int .i64 ver, .slice (some ⟨b, o, none⟩) n c] 30)).alloc (.cells #[.string T.nm, .slice A1 n1 k1, .int .i64 T.key, .slice A2 n2 k2, .slice A3 n3 k3] 62))) := Lib.hid
    ⟨HZ.out.alloc _, by have h := Blk.new (w.alloc (.cells #[.int .i64 ver, .slice (some ⟨b, o, none⟩) n c] 30)) 62 #[.string T.nm, .slice A1 n1 k1, .int .i64 T.key, .slice A2 n2 k2, .slice A3 n3 k3]; rwa [World.size_alloc] at h, HS0.out.keep (keeps_of hB2), HC0.out.keep (keeps_of hB2), hB2⟩
  have HRS := Lib.hid (hok_rs.out.keep (keeps_of hB2))
  have z0 := HZ.out.cell
  have g0 : decide ((t : Int) < 0) = false := by simp
  have g1 : decide (n ≤ t) = false := by simp; omega
  clear hB1 hB2 hk c0 c1 c2 c3 c4 HZ HS0 HC0 hok_rs
  go_enter Tryz.func101, Tryz.ntmps101
  go_upto_region 2 with fail
  clear d0 d1 d2 d3 d4 z0
  generalize (w.alloc (.cells #[.int .i64 ver, .slice (some ⟨b, o, none⟩) n c] 30)).alloc (.cells #[.string T.nm, .slice A1 n1 k1, .int .i64 T.key, .slice A2 n2 k2, .slice A3 n3 k3] 62) = w1 at *
  have hn1 : n1 ≤ 8 := by have := HGT.out.cl; have := Hln.out; omega
  have hn2 : n2 ≤ 4 := by have := HGT.out.rl; have := HRS.out.len; omega
  have HGR := Lib.hid (HG.out.rf T (List.mem_of_getElem? HT.out))
  have zy := HI.out.y.cell
  go_wp2_with fail
  clear zy g0 g1
  go_loopw [18] (fun i wr => ∃ q : Nat, q ≤ n2 ∧ i = .int .i64 (q : Int) ∧ Hid (RtI w ver (some ⟨b, o, none⟩) n c tbs #[.string T.nm, .slice A1 n1 k1, .int .i64 T.key, .slice A2 n2 k2, .slice A3 n3 k3] A1 n1 T.cols wr) ∧ Hid (RfsS wr A2 n2 T.refs xs)) (fun i _ => n2 - (intOf i).toNat)
  case atStart => exact ⟨0, by omega, rfl, HI, HRS⟩
  case round =>
    clear HI HRS
    obtain ⟨q, hq, rfl, HI, HRS⟩ := hrel
    by_cases hqn : q < n2
    · obtain ⟨b2, o2, ⟨x, XA, xn, xc⟩, rfl, hx, hcl, x0, x1⟩ := HRS.out.at hqn
      dsimp only at hx hcl x0 x1
      obtain ⟨ht0, U, hU, hUk, hUc⟩ := HGR.out x (List.mem_of_getElem? hx)
      obtain ⟨tt, htt⟩ := Int.eq_ofNat_of_zero_le ht0
      rw [htt, Int.toNat_natCast] at hU
      rw [htt] at x1
      have htn : tt < n := by have h1 := (List.getElem?_eq_some_iff.1 hU).1; have h2 := HI.out.sc.len; omega
      have hal : Below wr.heap.size wr (wr.alloc (.cells #[.slice XA xn xc, .int .i64 (tt : Int)] 65)) := (Below.refl _ _).alloc (Nat.le_refl _) _
      have HX := Lib.hid (Blk.new wr 65 #[.slice XA xn xc, .int .i64 (tt : Int)])
      have HI2 := Lib.hid (HI.out.below hal)
      have HRS2 := Lib.hid (HRS.out.keep (keeps_of hal))
      have HCL := Lib.hid (hcl.keep (keeps_of hal))
      have HU := Lib.hid hU
      have HUC := Lib.hid hUc
      have HGU := Lib.hid (HG.out.tb U (List.mem_of_getElem? hU))
      have Hxl := Lib.hid hcl.len
      have hxn : (xn : Int) = U.key := by rw [← hUk]; have := Hxl.out; omega
      have hxn8 : xn ≤ 8 := by have := HGU.out.k2; have := HGU.out.cl; omega
      obtain ⟨X, HXX⟩ : ∃ z, Hid (wr.heap.size = z) := ⟨_, Lib.hid rfl⟩
      rw [HXX.out] at HX
      clear ht0 hU hUc hUk htt hx hcl hal HI HRS
      go_upto_region 5 with fail
      rw [HXX.out]
      clear x0 x1 HXX
      generalize wr.alloc (.cells #[.slice XA xn xc, .int .i64 (tt : Int)] 65) = wr at *
      obtain ⟨b3, o3, ⟨U', ⟨B1, m1, l1⟩, y2, y3⟩, e3, hU', hok3, _, u1, u2, _, _⟩ := HI2.out.sc.at htn
      obtain rfl : U = U' := by have h1 := HU.out; rw [hU'] at h1; injection h1 with h1; exact h1.symm
      injection e3 with e3
      injection e3 with e3 e4
      subst e3 e4
      dsimp only at u1 u2 hok3
      have f2 : wr.drew.cell? ⟨b, o + tt * 5 + 2, none⟩ = some (.int .i64 U.key) := u2
      have zz : ∀ i, wr.drew.cell? ⟨w.heap.size, i, none⟩ = (#[.int .i64 ver, .slice (some ⟨b, o, none⟩) n c] : Array Value)[i]? := HI2.out.z.cell
      have zx : ∀ i, wr.drew.cell? ⟨X, i, none⟩ = (#[.slice XA xn xc, .int .i64 (tt : Int)] : Array Value)[i]? := HX.out.cell
      have HI3 : Hid (RtI w ver (some ⟨b, o, none⟩) n c tbs #[.string T.nm, .slice A1 n1 k1, .int .i64 T.key, .slice (some ⟨b2, o2, none⟩) n2 k2, .slice A3 n3 k3] A1 n1 T.cols wr.drew) := Lib.hid (HI2.out.below (Below.refl _ _).drew)
      have HRS3 : Hid (RfsS wr.drew (some ⟨b2, o2, none⟩) n2 T.refs xs) := Lib.hid (HRS2.out.keep (Keeps.refl _).drew)
      have HX3 : Hid (Blk wr.drew X 65 #[.slice XA xn xc, .int .i64 (tt : Int)]) := Lib.hid HX.out
      have HCL3 : Hid (ClS wr.drew XA xn x.cols) := Lib.hid (HCL.out.keep (Keeps.refl _).drew)
      have g1 : decide ((tt : Int) < 0) = false := by simp
      have g2 : decide (n ≤ tt) = false := by simp; omega
      have g3 : ((xn : Int) != U.key) = false := by simp [hxn]
      clear HI2 HRS2 HX HCL u1 u2 hok3 hU'
      go_wp2_with fail
      generalize hWn : wr.drew = Wn at *
      have hca := @cell_after Wn
      refine wp_region_seg [] [0, 1, 2, 3, 4, 5, 6, 7, 8, 9, 10, 11, 12, 13, 14, 15, 16, 17, 18, 19, 20, 21, 22, 23] (by kernel_rfl) (by kernel_rfl) (fun _ _ d _ _ h => by cases d <;> exact h) ?_
      rw [hWn]
      clear hWn
      simp only [pickSegs, pickOps, opAt, List.map_cons, List.map_nil, List.getElem?_toArray, List.getElem?_cons_zero, List.getElem?_cons_succ, Option.getD_some]
      unfold wpBlocks
      repeat (go_big_quiet_step (fail))
      refine wpQuiet_nil ?_
      clear hca f2 zz zx
      have zx := HX3.out.cell
      clear g1 g2 g3
      go_wp2_with fail
      clear zx
      go_loopw [49] (fun i wr => ∃ j : Nat, j ≤ xn ∧ i = .int .i64 (j : Int) ∧ Hid (RtI w ver (some ⟨b, o, none⟩) n c tbs #[.string T.nm, .slice A1 n1 k1, .int .i64 T.key, .slice (some ⟨b2, o2, none⟩) n2 k2, .slice A3 n3 k3] A1 n1 T.cols wr) ∧ Hid (RfsS wr (some ⟨b2, o2, none⟩) n2 T.refs xs) ∧ Hid (Blk wr X 65 #[.slice XA xn xc, .int .i64 (tt : Int)]) ∧ Hid (ClS wr XA xn x.cols)) (fun i _ => xn - (intOf i).toNat)
      case atStart => exact ⟨0, by omega, rfl, HI3, HRS3, HX3, HCL3⟩
      case round =>
        clear HI3 HRS3 HX3 HCL3
        obtain ⟨j, hj, rfl, HI, HRS, HX, HCL⟩ := hrel
        by_cases hjn : j < xn
        · obtain ⟨b5, o5, cz, rfl, hcc, hcx⟩ := HCL.out.at hjn
          have y0 := hcx 0 _ rfl
          simp only [Nat.mul_one, Nat.add_zero] at y0
          obtain ⟨h0, ca, cb, hca, hcb, hab⟩ := HUC.out j cz hcc
          obtain ⟨cn, rfl⟩ := Int.eq_ofNat_of_zero_le h0
          rw [Int.toNat_natCast] at hca
          have hcn : cn < n1 := by rw [← Hln.out]; exact (List.getElem?_eq_some_iff.1 hca).1
          obtain ⟨b6, o6, ca', rfl, hca', _, p1⟩ := Cm.at HI.out.cl hcn
          obtain rfl : ca = ca' := by rw [hca] at hca'; injection hca'
          obtain ⟨b3, o3, ⟨U', ⟨B1, m1, l1⟩, y2, y3⟩, e3, hU', hok3, _, u1, _, _, _⟩ := HI.out.sc.at htn
          obtain rfl : U = U' := by have h1 := HU.out; rw [hU'] at h1; injection h1 with h1; exact h1.symm
          injection e3 with e3
          injection e3 with e3 e4
          subst e3 e4
          dsimp only at u1 hok3
          have hcs3 := hok3.cs
          dsimp only at hcs3
          have hjm : j < m1 := by rw [← hcs3.len]; exact (List.getElem?_eq_some_iff.1 hcb).1
          obtain ⟨b7, o7, cb', rfl, hcb', _, q1⟩ := Cm.at hcs3 hjm
          obtain rfl : cb = cb' := by rw [hcb] at hcb'; injection hcb'
          rw [← hab] at q1
          have g1 : decide ((tt : Int) < 0) = false := by simp
          have g2 : decide (n ≤ tt) = false := by simp; omega
          have g4 : decide ((cn : Int) < 0) = false := by simp
          have g5 : decide (n1 ≤ cn) = false := by simp; omega
          have g7 : decide ((j : Int) < 0) = false := by simp
          have g8 : decide (m1 ≤ j) = false := by simp; omega
          obtain ⟨ak, hak⟩ : ∃ z, ca.k = z := ⟨_, rfl⟩
          rw [hak] at p1 q1
          have g6 : (ak != ak) = false := by simp
          clear hcc hcx h0 hca hcb hab hca' hcb' hak hok3 hcs3 hU'
          go_wp2_with fail
          have p2 : wr.drew.cell? ⟨b6, o6 + cn * 2 + 1, none⟩ = some (.int .i64 ak) := p1
          have q2 : wr.drew.cell? ⟨b7, o7 + j * 2 + 1, none⟩ = some (.int .i64 ak) := q1
          have f1 : wr.drew.cell? ⟨b, o + tt * 5 + 1, none⟩ = some (.slice (some ⟨b7, o7, none⟩) m1 l1) := u1
          have zz : ∀ i, wr.drew.cell? ⟨w.heap.size, i, none⟩ = (#[.int .i64 ver, .slice (some ⟨b, o, none⟩) n c] : Array Value)[i]? := HI.out.z.cell
          have zy : ∀ i, wr.drew.cell? ⟨w.heap.size + 1, i, none⟩ = (#[.string T.nm, .slice (some ⟨b6, o6, none⟩) n1 k1, .int .i64 T.key, .slice (some ⟨b2, o2, none⟩) n2 k2, .slice A3 n3 k3] : Array Value)[i]? := HI.out.y.cell
          have zx : ∀ i, wr.drew.cell? ⟨X, i, none⟩ = (#[.slice (some ⟨b5, o5, none⟩) xn xc, .int .i64 (tt : Int)] : Array Value)[i]? := HX.out.cell
          have HI3 : Hid (RtI w ver (some ⟨b, o, none⟩) n c tbs #[.string T.nm, .slice (some ⟨b6, o6, none⟩) n1 k1, .int .i64 T.key, .slice (some ⟨b2, o2, none⟩) n2 k2, .slice A3 n3 k3] (some ⟨b6, o6, none⟩) n1 T.cols wr.drew) := Lib.hid (HI.out.below (Below.refl _ _).drew)
          have HRS3 : Hid (RfsS wr.drew (some ⟨b2, o2, none⟩) n2 T.refs xs) := Lib.hid (HRS.out.keep (Keeps.refl _).drew)
          have HX3 : Hid (Blk wr.drew X 65 #[.slice (some ⟨b5, o5, none⟩) xn xc, .int .i64 (tt : Int)]) := Lib.hid HX.out
          have HCL3 : Hid (ClS wr.drew (some ⟨b5, o5, none⟩) xn x.cols) := Lib.hid (HCL.out.keep (Keeps.refl _).drew)
          clear p1 q1 u1 y0 HI HRS HX HCL
          generalize hWn : wr.drew = Wn at *
          have hca := @cell_after Wn
          refine wp_region_seg [] [0, 1, 2, 3, 4, 5, 6, 7, 8, 9, 10, 11, 12, 13, 14, 15, 16, 17, 18, 19, 20, 21, 22, 23, 24, 25, 26, 27, 28] (by kernel_rfl) (by kernel_rfl) (fun _ _ d _ _ h => by cases d <;> exact h) ?_
          rw [hWn]
          clear hWn
          simp only [pickSegs, pickOps, opAt, List.map_cons, List.map_nil, List.getElem?_toArray, List.getElem?_cons_zero, List.getElem?_cons_succ, Option.getD_some]
          unfold wpBlocks
          repeat (go_big_quiet_step (fail))
          refine wpQuiet_nil ?_
          clear hca p2 q2 f1 zz zy zx
          go_wp2
          go_roundw
          case rel => exact ⟨j + 1, by omega, by go_num, HI3, HRS3, HX3, HCL3⟩
          case measure => simp [intOf]; omega
        · obtain rfl : j = xn := by omega
          go_wp2
          go_roundw
          case rel => exact ⟨q + 1, by omega, by go_num, HI, HRS⟩
          case measure => simp [intOf]; omega
    · obtain rfl : q = n2 := by omega
      have HE := Lib.hid HI.out.be
      go_wp2
      go_ret
      exact ⟨rfl, HE.out⟩
end Go.Proofs.YtponkkljlbifmaaGreat

/-
  The reference's Check of a good schema.
-/
namespace Go.Proofs.YtponkkljlbifmaaGreat
open Go.RowKit
set_option maxRecDepth 100000
open Pd

set_option maxRecDepth 100000 in
set_option maxHeartbeats 8000000 in
theorem rscheck_any (ver : Int) (A : Option Addr) (n c : Nat) (tbs : List Tb) (w : World) (hs : ScS w A n tbs) (hg : GoodS ver tbs) :
    Calls Tryz.prog 62 #[.agg #[.int .i64 ver, .slice A n c]] w fun e w' => e = .returned (.int .i64 0) ∧ Below w.heap.size w w' := by
  have Hln := Lib.hid hs.len
  have hn8 : n ≤ 8 := by have := hg.ln; have := Hln.out; omega
  have HG := Lib.hid hg
  have HS := Lib.hid (hs.keep (keeps_alloc w (.cells #[.int .i64 ver, .slice A n c] 30)))
  have HZ := Lib.hid (Blk.new w 30 #[.int .i64 ver, .slice A n c])
  have HB := Lib.hid ((Below.refl w.heap.size w).alloc (Nat.le_refl _) (.cells #[.int .i64 ver, .slice A n c] 30))
  have hW1 : (w.alloc (.cells #[.int .i64 ver, .slice A n c] 30)).heap.size = w.heap.size + 1 := World.size_alloc _ _
  have g1 : decide ((8 : Int) < (n : Int)) = false := by simp; omega
  have g2 : decide (ver < 0) = false := by have := hg.v0; simp; omega
  have g3 : decide ((1000 : Int) < ver) = false := by have := hg.v1; simp; omega
  clear hs hg
  go_enter Tryz.func62, Tryz.ntmps62
  go_upto_region 1 with fail
  generalize hW : w.alloc (.cells #[.int .i64 ver, .slice A n c] 30) = w1 at *
  have z := HZ.out.cell
  go_wp2_with fail
  go_loopw [18] (fun i wr => ∃ k : Nat, k ≤ n ∧ i = .int .i64 (k : Int) ∧ Hid (Below w1.heap.size w1 wr)) (fun i _ => n - (intOf i).toNat)
  case atStart => exact ⟨0, by omega, rfl, Lib.hid (Below.refl _ _)⟩
  case round =>
    obtain ⟨k, hk, rfl, HBr⟩ := hrel
    clear z g1
    by_cases hlt : k < n
    · obtain ⟨b, o, ⟨T, ⟨A1, n1, k1⟩, ⟨A2, n2, k2⟩, ⟨A3, n3, k3⟩⟩, rfl, hT, hok, c0, c1, c2, c3, c4⟩ := (HS.out.keep (keeps_of HBr.out)).at hlt
      dsimp only at hT c0 c1 c2 c3 c4
      have hGT := HG.out.tb T (List.mem_of_getElem? hT)
      obtain ⟨xs, hrs⟩ := hok.rs
      obtain ⟨ys, hhs⟩ := hok.hs
      have g4 : decide ((8 : Int) < (n1 : Int)) = false := by have := hok.cs.len; have := hGT.cl; simp only at *; simp; omega
      have g5 : decide ((4 : Int) < (n2 : Int)) = false := by have := hrs.len; have := hGT.rl; simp only at *; simp; omega
      have g6 : decide ((4 : Int) < (n3 : Int)) = false := by have := hhs.len; have := hGT.hl; simp only at *; simp; omega
      have HX := Lib.hid (Blk.new wr 62 #[.string T.nm, .slice A1 n1 k1, .int .i64 T.key, .slice A2 n2 k2, .slice A3 n3 k3])
      have HBx := Lib.hid (HBr.out.alloc HBr.out.size (.cells #[.string T.nm, .slice A1 n1 k1, .int .i64 T.key, .slice A2 n2 k2, .slice A3 n3 k3] 62))
      have zx := HX.out.cell
      clear hT hGT hok hrs hhs HBr
      go_wp2
      go_roundw
      case rel => exact ⟨k + 1, by omega, by go_num, HBx⟩
      case measure => simp [intOf]; omega
    · obtain rfl : k = n := by omega
      have z := (HZ.out.below HBr.out).cell
      go_wp2_with fail
      go_loopw [50] (fun i wr => ∃ j : Nat, j ≤ k ∧ i = .int .i64 (j : Int) ∧ Hid (Below w1.heap.size w1 wr)) (fun i _ => k - (intOf i).toNat)
      case atStart => exact ⟨0, by omega, rfl, HBr⟩
      case round =>
        clear HBr
        obtain ⟨j, hj, rfl, HBr⟩ := hrel
        clear z
        by_cases hjk : j < k
        · obtain ⟨T, hT⟩ : ∃ T, tbs[j]? = some T := ⟨_, List.getElem?_eq_getElem (by have := Hln.out; omega)⟩
          have HT := Lib.hid hT
          have z := (HZ.out.below HBr.out).cell
          clear hT
          go_wp2_with fail
          refine (rtable_any ver _ k c tbs j T _ (HS.out.keep (keeps_of HBr.out)) HG.out HT.out).mono ?_
          rintro e w2 ⟨rfl, hb2⟩
          have HB2 := Lib.hid (Below.next HBr.out hb2)
          clear hb2 z HBr
          go_wp2
          go_roundw
          case rel => exact ⟨j + 1, by omega, by go_num, HB2⟩
          case measure => simp [intOf]; omega
        · obtain rfl : j = k := by omega
          have z := (HZ.out.below HBr.out).cell
          go_wp2_with fail
          go_loopw [61] (fun i wr => ∃ q : Nat, q ≤ j ∧ i = .int .i64 (q : Int) ∧ Hid (Below w1.heap.size w1 wr)) (fun i _ => j - (intOf i).toNat)
          case atStart => exact ⟨0, by omega, rfl, HBr⟩
          case round =>
            clear HBr
            obtain ⟨q, hq, rfl, HBr⟩ := hrel
            clear z
            by_cases hqk : q < j
            · obtain ⟨T, hT⟩ : ∃ T, tbs[q]? = some T := ⟨_, List.getElem?_eq_getElem (by have := Hln.out; omega)⟩
              have HT := Lib.hid hT
              have z := (HZ.out.below HBr.out).cell
              clear hT
              go_wp2_with fail
              refine (rrefs_any ver _ j c tbs q T _ (HS.out.keep (keeps_of HBr.out)) HG.out HT.out).mono ?_
              rintro e w2 ⟨rfl, hb2⟩
              have HB2 := Lib.hid (Below.next HBr.out hb2)
              clear hb2 z HBr
              go_wp2
              go_roundw
              case rel => exact ⟨q + 1, by omega, by go_num, HB2⟩
              case measure => simp [intOf]; omega
            · obtain rfl : q = j := by omega
              have z := (HZ.out.below HBr.out).cell
              go_wp2_with fail
              go_loopw [72] (fun i wr => ∃ j : Nat, j ≤ q ∧ i = .int .i64 (j : Int) ∧ Hid (Below w1.heap.size w1 wr)) (fun i _ => q - (intOf i).toNat)
              case atStart => exact ⟨0, by omega, rfl, HBr⟩
              case round =>
                clear HBr z
                obtain ⟨j, hj, rfl, HBr⟩ := hrel
                by_cases hjk : j < q
                · obtain ⟨b, o, ⟨T, ⟨A1, n1, k1⟩, ⟨A2, n2, k2⟩, ⟨A3, n3, k3⟩⟩, rfl, hT, hok, c0, c1, c2, c3, c4⟩ := (HS.out.keep (keeps_of HBr.out)).at hjk
                  dsimp only at hT c0 c1 c2 c3 c4
                  have HT := Lib.hid hT
                  have HGT := Lib.hid (HG.out.tb T (List.mem_of_getElem? hT))
                  obtain ⟨ys, hhs⟩ := hok.hs
                  have HH := Lib.hid hhs
                  have hn3 : n3 ≤ 4 := by have := hhs.len; have := HGT.out.hl; simp only at *; omega
                  have hcl : T.cols.length ≤ 9223372036854775807 := by have := HGT.out.cl; omega
                  have z := (HZ.out.below HBr.out).cell
                  have g7 : decide ((j : Int) < 0) = false := by simp
                  have g8 : decide (q ≤ j) = false := by simp; omega
                  clear hT hok hhs c0 c1 c2 c3
                  go_wp2_with fail
                  clear g7 g8 c4 z
                  go_loopw [82] (fun i wq => ∃ q : Nat, q ≤ n3 ∧ i = .int .i64 (q : Int) ∧ Hid (Below wr.heap.size wr wq)) (fun i _ => n3 - (intOf i).toNat)
                  case atStart => exact ⟨0, by omega, rfl, Lib.hid (Below.refl _ _)⟩
                  case round =>
                    obtain ⟨i2, hi2, rfl, HBq⟩ := hrel
                    have HBw := Lib.hid (HBr.out.trans (HBq.out.mono HBr.out.size))
                    by_cases hqn : i2 < n3
                    · obtain ⟨b2, o2, p, A4, n4, k4, rfl, hp, d⟩ := (HH.out.keep (keeps_of HBq.out)).arg hqn
                      have Hck := Lib.hid (HGT.out.ck p (List.mem_of_getElem? hp)).1
                      have HSp := Lib.hid (d.s.keep (keeps_alloc wr (.cells (pdV p.h A4 n4 k4) 71)))
                      have HY := Lib.hid (Blk.new wr 71 (pdV p.h A4 n4 k4))
                      have HBy := Lib.hid (HBw.out.alloc HBw.out.size (.cells (pdV p.h A4 n4 k4) 71))
                      have HBz := Lib.hid (HBq.out.alloc HBq.out.size (.cells (pdV p.h A4 n4 k4) 71))
                      obtain ⟨d0, d1, d2, d3, d4, d5, d6, d7, d8, d9, d10, d11, d12, ds⟩ := d
                      obtain ⟨Y, HYY⟩ : ∃ z, Hid (wr.heap.size = z) := ⟨_, Lib.hid rfl⟩
                      rw [HYY.out] at HY
                      unfold pdV at HSp HY HBy HBz
                      clear ds hp HBq HBw
                      go_upto_region 29 with fail
                      rw [HYY.out]
                      clear d0 d1 d2 d3 d4 d5 d6 d7 d8 d9 d10 d11 d12 HYY
                      generalize wr.alloc (.cells #[.int .i64 p.h.op, .int .i64 p.h.cm, .int .i64 p.h.l.k, .int .i64 p.h.l.ix, .int .i64 p.h.l.v.k, .int .i64 p.h.l.v.i, .string p.h.l.v.t, .int .i64 p.h.r.k, .int .i64 p.h.r.ix, .int .i64 p.h.r.v.k, .int .i64 p.h.r.v.i, .string p.h.r.v.t, .slice A4 n4 k4] 71) = wy at *
                      have zz : ∀ i, wy.drew.cell? ⟨w.heap.size, i, none⟩ = (#[.int .i64 ver, .slice (some ⟨b, o, none⟩) q c] : Array Value)[i]? := (HZ.out.below HBy.out).cell
                      have zy : ∀ i, wy.drew.cell? ⟨Y, i, none⟩ = (#[.int .i64 p.h.op, .int .i64 p.h.cm, .int .i64 p.h.l.k, .int .i64 p.h.l.ix, .int .i64 p.h.l.v.k, .int .i64 p.h.l.v.i, .string p.h.l.v.t, .int .i64 p.h.r.k, .int .i64 p.h.r.ix, .int .i64 p.h.r.v.k, .int .i64 p.h.r.v.i, .string p.h.r.v.t, .slice A4 n4 k4] : Array Value)[i]? := HY.out.cell
                      have HSd : Hid (ScS wy.drew (some ⟨b, o, none⟩) q tbs) := Lib.hid (HS.out.keep (keeps_of HBy.out.drew))
                      have HPd : Hid (PrdS wy.drew A4 n4 k4 p) := Lib.hid (HSp.out.keep (Keeps.refl _).drew)
                      have HBd := Lib.hid HBz.out.drew
                      clear HSp HY HBy HBz
                      generalize hWn : wy.drew = Wn at *
                      have hca := @cell_after Wn
                      refine wp_region_seg [([0, 1, 3], 2), ([], 4)] [5] (by kernel_rfl) (by kernel_rfl) (fun _ _ d _ _ h => by cases d <;> exact h) ?_
                      rw [hWn]
                      clear hWn
                      simp only [pickSegs, pickOps, opAt, List.map_cons, List.map_nil, List.getElem?_toArray, List.getElem?_cons_zero, List.getElem?_cons_succ, Option.getD_some]
                      unfold wpBlocks
                      repeat (go_big_quiet_step (fail))
                      refine wpQuiet_nil ?_
                      clear hca zz zy
                      go_wp2_with fail
                      refine (rkinds_any ver _ q c tbs j T _ HSd.out hn8 HT.out HGT.out.cl).mono ?_
                      rintro e w5 ⟨KA, kc, rfl, hown, hb5⟩
                      have HK := Lib.hid (KdsO.cl hown)
                      have HP5 := Lib.hid (HPd.out.keep (keeps_of hb5))
                      have HB5 := Lib.hid (Below.next HBd.out hb5)
                      clear hown HSd HPd HBd
                      go_wp2_with fail
                      refine ⟨hb5, ?_⟩
                      unfold wpBlocks
                      refine wpQuiet_nil ?_
                      clear hb5
                      go_wp2_with fail
                      refine (rpcheck_any T.kinds [] p A4 n4 k4 KA _ kc none 0 0 _ HP5.out HK.out Sl.nil hcl (by omega)).mono ?_
                      rintro e w7 ⟨rfl, hb7⟩
                      rw [Hck.out]
                      have HB7 := Lib.hid (Below.next HB5.out hb7)
                      clear HP5 HK HB5
                      go_wp2_with fail
                      refine ⟨hb7, ?_⟩
                      unfold wpBlocks
                      repeat (go_big_quiet_step (fail))
                      refine wpQuiet_nil ?_
                      clear hb7
                      go_wp2
                      go_roundw
                      case rel => exact ⟨i2 + 1, by omega, by go_num, HB7⟩
                      case measure => simp [intOf]; omega
                    · obtain rfl : i2 = n3 := by omega
                      go_wp2
                      go_roundw
                      case rel => exact ⟨j + 1, by omega, by go_num, HBw⟩
                      case measure => simp [intOf]; omega
                · obtain rfl : j = q := by omega
                  have HE := Lib.hid (HB.out.trans (HBr.out.mono (by omega)))
                  go_wp2
                  go_ret
                  exact ⟨rfl, HE.out⟩
end Go.Proofs.YtponkkljlbifmaaGreat
