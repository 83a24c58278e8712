/-
  Texts: IgRName, IgRTab, IgRFt, IgRRf.
-/
import Derived.Test.YtponkkljlbifmaaGreatH16
import Derived.Test.YtponkkljlbifmaaGreatH25
import Derived.Test.YtponkkljlbifmaaGreatH11
set_option linter.unusedVariables false
/-
  The reference's Name of a name of small letters.
-/
namespace Go.Proofs.YtponkkljlbifmaaGreat
open Go.RowKit
set_option maxRecDepth 100000
open Pd

set_option maxHeartbeats 4000000 in
theorem rname_any (s : ByteArray) (w : World) (h : nameB s = true) :
    Calls Tryz.prog 133 #[.string s] w fun e w' => e = .returned (.bool true) ∧ Below w.heap.size w w' := by
  have hsz : 1 ≤ s.size ∧ s.size ≤ 32 := by
    unfold nameB at h
    rw [Bool.and_eq_true] at h
    simpa using h.1
  have ix : ∀ (k : Nat) (hk : k < s.size) (wa : World), (Instr.index 9 (.string s) (.int .i64 (k : Int))).run Tryz.prog wa = .ok (.int .u8 ((s[k]'hk).toNat : Int)) wa := fun k hk wa => by
    rw [run_index_string wa 9 s .i64 (k : Int) Tryz.underlying9, dif_pos ⟨by omega, by omega⟩]
    rfl
  have g0 : ((s.size : Int) == 0) = false := by rw [beq_eq_false_iff_ne]; omega
  have g1 : decide ((32 : Int) < (s.size : Int)) = false := by simp; omega
  obtain ⟨c0, hc0⟩ : ∃ z, (s[0]'(by omega)).toNat = z := ⟨_, rfl⟩
  have i0 : ∀ wa : World, (Instr.index 9 (.string s) (.int .i64 0)).run Tryz.prog wa = .ok (.int .u8 (c0 : Int)) wa := fun wa => by rw [← hc0]; exact ix 0 (show 0 < s.size by omega) wa
  have h0 := nameB_at h 0 (by omega)
  rw [hc0] at h0
  have g2 : decide ((c0 : Int) < 97) = false := by simp; omega
  have g3 : decide ((122 : Int) < (c0 : Int)) = false := by simp; omega
  have Hix := Lib.hid ix
  clear ix hc0
  go_enter Tryz.func133, Tryz.ntmps133
  go_wp2_with fail
  go_loopw [3] (fun i wr => ∃ pos : Nat, pos ≤ s.size ∧ i = .int .i64 (pos : Int) ∧ wr = w) (fun i _ => s.size - (intOf i).toNat)
  case atStart => exact ⟨0, Nat.zero_le _, rfl, rfl⟩
  case round =>
    obtain ⟨pos, hps, rfl, rfl⟩ := hrel
    clear i0 g2 g3 h0
    by_cases hp : pos < s.size
    · have h1 := nameB_at h pos hp
      obtain ⟨c1, hc1⟩ : ∃ z, (s[pos]'hp).toNat = z := ⟨_, rfl⟩
      have i1 : ∀ wa : World, (Instr.index 9 (.string s) (.int .i64 (pos : Int))).run Tryz.prog wa = .ok (.int .u8 (c1 : Int)) wa := fun wa => by rw [← hc1]; exact Hix.out pos hp wa
      rw [hc1] at h1
      have g2 : decide ((c1 : Int) < 97) = false := by simp; omega
      have g3 : decide ((122 : Int) < (c1 : Int)) = false := by simp; omega
      clear hc1
      go_wp2
      go_roundw
      case rel => exact ⟨pos + 1, by omega, by go_num, trivial⟩
      case measure => simp [intOf]; omega
    · obtain rfl : pos = s.size := by omega
      go_wp2
      go_ret
      exact ⟨rfl, Below.refl _ _⟩
end Go.Proofs.YtponkkljlbifmaaGreat

/-
  The reference's check of one table of a good schema.
-/
namespace Go.Proofs.YtponkkljlbifmaaGreat
open Go.RowKit
set_option maxRecDepth 100000
open Pd

theorem nd_ne {α β : Type} {f : α → β} : ∀ (l : List α), (l.map f).Nodup → ∀ (i j : Nat) (x y : α), i < j → l[i]? = some x → l[j]? = some y → f x ≠ f y := by
  intro l h i j x y hij hx hy e
  rw [List.nodup_iff_pairwise_ne, List.pairwise_iff_getElem] at h
  obtain ⟨h1, h2⟩ := List.getElem?_eq_some_iff.1 hx
  obtain ⟨h3, h4⟩ := List.getElem?_eq_some_iff.1 hy
  refine h i j (by rw [List.length_map]; exact h1) (by rw [List.length_map]; exact h3) hij ?_
  rw [List.getElem_map, List.getElem_map, h2, h4, e]
/-- what the check holds -/
structure RtI (w : World) (ver : Int) (A : Option Addr) (n c : Nat) (tbs : List Tb) (tc : Array Value) (cl : Option Addr) (n1 : Nat) (cols : List Cm) (wr : World) : Prop where
  z : Blk wr w.heap.size 30 #[.int .i64 ver, .slice A n c]
  y : Blk wr (w.heap.size + 1) 62 tc
  sc : ScS wr A n tbs
  cl : Sl 2 Cm.cs wr cl n1 cols
  be : Below w.heap.size w wr
theorem RtI.below {w : World} {ver : Int} {A : Option Addr} {n c : Nat} {tbs : List Tb} {tc : Array Value} {cl : Option Addr} {n1 : Nat} {cols : List Cm} {wr w' : World} (h : RtI w ver A n c tbs tc cl n1 cols wr) (hb : Below wr.heap.size wr w') : RtI w ver A n c tbs tc cl n1 cols w' :=
  ⟨h.z.below hb, h.y.below hb, h.sc.keep (keeps_of hb), h.cl.keep (keeps_of hb), Below.next h.be hb⟩
set_option maxRecDepth 100000 in
set_option maxHeartbeats 4000000 in
theorem rtable_any (ver : Int) (A : Option Addr) (n c : Nat) (tbs : List Tb) (t : Nat) (T : Tb) (w : World) (hs : ScS w A n tbs) (hg : GoodS ver tbs) (hT : tbs[t]? = some T) :
    Calls Tryz.prog 100 #[.agg #[.int .i64 ver, .slice A n c], .int .i64 (t : Int)] w fun e w' => e = .returned (.bool true) ∧ Below w.heap.size w w' := by
  have ht : t < n := by rw [← hs.len]; exact (List.getElem?_eq_some_iff.1 hT).1
  have hn8 : n ≤ 8 := by have := hg.ln; have := hs.len; omega
  have HS0 := Lib.hid hs
  obtain ⟨b, o, e, rfl, he, hok, c0, c1, c2, c3, c4⟩ := hs.at ht
  obtain rfl : T = e.T := by rw [hT] at he; injection he
  have HC0 := Lib.hid hok.cs
  have Hln := Lib.hid (hok.cs.len)
  have HG := Lib.hid hg
  have HGT := Lib.hid (hg.tb e.T (List.mem_of_getElem? hT))
  have HT := Lib.hid hT
  clear hs hok hT he hg
  obtain ⟨T, ⟨A1, n1, k1⟩, ⟨A2, n2, k2⟩, ⟨A3, n3, k3⟩⟩ := e
  dsimp only at HC0 Hln HGT HT c0 c1 c2 c3 c4 ⊢
  have HZ := Lib.hid (Blk.new w 30 #[.int .i64 ver, .slice (some ⟨b, o, none⟩) n c])
  have hB1 : Below w.heap.size w (w.alloc (.cells #[.int .i64 ver, .slice (some ⟨b, o, none⟩) n c] 30)) := (Below.refl _ w).alloc (Nat.le_refl _) _
  have hk := keeps_of hB1
  have d0 := (hk _ (by rw [c0]; rfl)).trans c0
  have d1 := (hk _ (by rw [c1]; rfl)).trans c1
  have d2 := (hk _ (by rw [c2]; rfl)).trans c2
  have d3 := (hk _ (by rw [c3]; rfl)).trans c3
  have d4 := (hk _ (by rw [c4]; rfl)).trans c4
  have hB2 := Below.next hB1 ((Below.refl _ _).alloc (Nat.le_refl _) (.cells #[.string T.nm, .slice A1 n1 k1, .int .i64 T.key, .slice A2 n2 k2, .slice A3 n3 k3] 62))
  have HI : Hid (RtI w ver (some ⟨b, o, none⟩) n c tbs #[.string T.nm, .slice A1 n1 k1, .int .i64 T.key, .slice A2 n2 k2, .slice A3 n3 k3] A1 n1 T.cols ((w.alloc (.cells #[.int .i64 ver, .slice (some ⟨b, o, none⟩) n c] 30)).alloc (.cells #[.string T.nm, .slice A1 n1 k1, .int .i64 T.key, .slice A2 n2 k2, .slice A3 n3 k3] 62))) := Lib.hid
    ⟨HZ.out.alloc _, by have h := Blk.new (w.alloc (.cells #[.int .i64 ver, .slice (some ⟨b, o, none⟩) n c] 30)) 62 #[.string T.nm, .slice A1 n1 k1, .int .i64 T.key, .slice A2 n2 k2, .slice A3 n3 k3]; rwa [World.size_alloc] at h, HS0.out.keep (keeps_of hB2), HC0.out.keep (keeps_of hB2), hB2⟩
  have z0 := HZ.out.cell
  have g0 : decide ((t : Int) < 0) = false := by simp
  have g1 : decide (n ≤ t) = false := by simp; omega
  clear hB1 hB2 hk c0 c1 c2 c3 c4 HZ HS0 HC0
  go_enter Tryz.func100, Tryz.ntmps100
  go_upto_region 2 with fail
  clear d0 d1 d2 d3 d4 z0
  generalize (w.alloc (.cells #[.int .i64 ver, .slice (some ⟨b, o, none⟩) n c] 30)).alloc (.cells #[.string T.nm, .slice A1 n1 k1, .int .i64 T.key, .slice A2 n2 k2, .slice A3 n3 k3] 62) = w1 at *
  have zy := HI.out.y.cell
  go_wp2_with fail
  refine (rname_any T.nm _ HGT.out.nm).mono ?_
  rintro e w2 ⟨rfl, hb2⟩
  have HI2 := Lib.hid (HI.out.below hb2)
  have hk1 := HGT.out.k1
  have hk2 := HGT.out.k2
  have hk3 := HGT.out.cl
  have hln := Hln.out
  have g2 : ((n1 : Int) == 0) = false := by rw [beq_eq_false_iff_ne]; omega
  have g3 : decide (T.key < 1) = false := by simp; omega
  have g4 : decide ((n1 : Int) < T.key) = false := by simp; omega
  have hn1 : n1 ≤ 8 := by omega
  clear hb2 zy HI hk1 hk2 hk3 hln
  have zy := HI2.out.y.cell
  go_wp2_with fail
  clear g2 g3 g4 zy
  go_loopw [6] (fun i wr => ∃ k : Nat, k ≤ t ∧ i = .int .i64 (k : Int) ∧ Hid (RtI w ver (some ⟨b, o, none⟩) n c tbs #[.string T.nm, .slice A1 n1 k1, .int .i64 T.key, .slice A2 n2 k2, .slice A3 n3 k3] A1 n1 T.cols wr)) (fun i _ => t - (intOf i).toNat)
  case atStart => exact ⟨0, by omega, rfl, HI2⟩
  case round =>
    clear HI2
    obtain ⟨k, hk, rfl, HI⟩ := hrel
    by_cases hkt : k < t
    · obtain ⟨b', o', ⟨U, x1, x2, x3⟩, hbo, hU, _, d0, _⟩ := HI.out.sc.at (show k < n by omega)
      injection hbo with hbo
      injection hbo with h1 h2
      subst h1 h2
      dsimp only at hU d0
      have hne2 : (U.nm.toList == T.nm.toList) = false := by
        rw [beq_eq_false_iff_ne, Lib.toList_data, Lib.toList_data]
        exact nd_ne (f := fun T : Tb => T.nm.data.toList) tbs HG.out.nd k t U T hkt hU HT.out
      have e0 : wr.drew.cell? ⟨b, o + k * 5, none⟩ = some (.string U.nm) := d0
      have zz : ∀ i, wr.drew.cell? ⟨w.heap.size, i, none⟩ = (#[.int .i64 ver, .slice (some ⟨b, o, none⟩) n c] : Array Value)[i]? := HI.out.z.cell
      have zy : ∀ i, wr.drew.cell? ⟨w.heap.size + 1, i, none⟩ = (#[.string T.nm, .slice A1 n1 k1, .int .i64 T.key, .slice A2 n2 k2, .slice A3 n3 k3] : Array Value)[i]? := HI.out.y.cell
      have HI3 : Hid (RtI w ver (some ⟨b, o, none⟩) n c tbs #[.string T.nm, .slice A1 n1 k1, .int .i64 T.key, .slice A2 n2 k2, .slice A3 n3 k3] A1 n1 T.cols wr.drew) := Lib.hid (HI.out.below (Below.refl _ _).drew)
      have g2 : decide (n ≤ k) = false := by simp; omega
      have g3 : decide ((k : Int) < 0) = false := by simp
      clear d0 HI hU g0 g1
      go_wp2_with fail
      generalize hWn : wr.drew = Wn at *
      have hca := @cell_after Wn
      refine wp_region_seg [] [0, 1, 2, 3, 4, 5, 6, 7, 8] (by kernel_rfl) (by kernel_rfl) (fun _ _ d _ _ h => by cases d <;> exact h) ?_
      rw [hWn]
      clear hWn
      simp only [pickSegs, pickOps, opAt, List.map_cons, List.map_nil, List.getElem?_toArray, List.getElem?_cons_zero, List.getElem?_cons_succ, Option.getD_some]
      unfold wpBlocks
      repeat (go_big_quiet_step (fail))
      refine wpQuiet_nil ?_
      clear hca e0 zz zy
      go_wp2
      go_roundw
      case rel => exact ⟨k + 1, by omega, by go_num, HI3⟩
      case measure => simp [intOf]; omega
    · obtain rfl : k = t := by omega
      clear g0 g1
      have zy := HI.out.y.cell
      go_wp2_with fail
      clear zy
      go_loopw [54] (fun i wr => ∃ j : Nat, j ≤ n1 ∧ i = .int .i64 (j : Int) ∧ Hid (RtI w ver (some ⟨b, o, none⟩) n c tbs #[.string T.nm, .slice A1 n1 k1, .int .i64 T.key, .slice A2 n2 k2, .slice A3 n3 k3] A1 n1 T.cols wr)) (fun i _ => n1 - (intOf i).toNat)
      case atStart => exact ⟨0, by omega, rfl, HI⟩
      case round =>
        clear HI
        obtain ⟨j, hj, rfl, HI⟩ := hrel
        by_cases hjn : j < n1
        · obtain ⟨b1, o1, x, rfl, hx, e0, e1⟩ := Cm.at HI.out.cl hjn
          have hcx := HGT.out.cn x (List.mem_of_getElem? hx)
          have Hx := Lib.hid hx
          have hkx : decide (3 ≤ x.k ∧ x.k ≤ 5) = true := by
            have h1 := hcx.2
            unfold kindB at h1
            simp only [decide_eq_true_eq] at h1 ⊢
            omega
          have Hkx := Lib.hid hkx
          have zy := HI.out.y.cell
          have q0 : decide ((j : Int) < 0) = false := by simp
          have q1 : decide (n1 ≤ j) = false := by simp; omega
          clear hx hkx
          go_wp2_with fail
          refine (rname_any x.nm _ hcx.1).mono ?_
          rintro e w3 ⟨rfl, hb3⟩
          have HI3 := Lib.hid (HI.out.below hb3)
          have f1 := (keeps_of hb3 _ (by rw [e1]; rfl)).trans e1
          clear hb3 HI e0 e1 zy
          have zy := HI3.out.y.cell
          go_wp2_with fail
          refine (rcolk_any x.k _).mono ?_
          rintro e _ ⟨rfl, rfl⟩
          rw [Hkx.out]
          clear f1 zy q0 q1 hcx
          go_wp2_with fail
          go_loopw [8] (fun i wr => ∃ q : Nat, q ≤ j ∧ i = .int .i64 (q : Int) ∧ Hid (RtI w ver (some ⟨b, o, none⟩) n c tbs #[.string T.nm, .slice (some ⟨b1, o1, none⟩) n1 k1, .int .i64 T.key, .slice A2 n2 k2, .slice A3 n3 k3] (some ⟨b1, o1, none⟩) n1 T.cols wr)) (fun i _ => j - (intOf i).toNat)
          case atStart => exact ⟨0, by omega, rfl, HI3⟩
          case round =>
            clear HI3
            obtain ⟨q, hq, rfl, HI⟩ := hrel
            by_cases hqj : q < j
            · obtain ⟨b2, o2, y, hbo, hy, e0, _⟩ := Cm.at HI.out.cl (show q < n1 by omega)
              injection hbo with hbo
              injection hbo with h1 h2
              subst h1 h2
              obtain ⟨b2, o2, x2, hbo, hx2, f0, _⟩ := Cm.at HI.out.cl hjn
              injection hbo with hbo
              injection hbo with h1 h2
              subst h1 h2
              obtain rfl : x2 = x := by have h1 := Hx.out; rw [hx2] at h1; injection h1
              have hne2 : (y.nm.toList == x2.nm.toList) = false := by
                rw [beq_eq_false_iff_ne, Lib.toList_data, Lib.toList_data]
                exact nd_ne (f := fun c : Cm => c.nm.data.toList) T.cols HGT.out.cd q j y x2 hqj hy hx2
              have e2 : wr.drew.cell? ⟨b1, o1 + q * 2, none⟩ = some (.string y.nm) := e0
              have f2 : wr.drew.cell? ⟨b1, o1 + j * 2, none⟩ = some (.string x2.nm) := f0
              have zy : ∀ i, wr.drew.cell? ⟨w.heap.size + 1, i, none⟩ = (#[.string T.nm, .slice (some ⟨b1, o1, none⟩) n1 k1, .int .i64 T.key, .slice A2 n2 k2, .slice A3 n3 k3] : Array Value)[i]? := HI.out.y.cell
              have HI3 : Hid (RtI w ver (some ⟨b, o, none⟩) n c tbs #[.string T.nm, .slice (some ⟨b1, o1, none⟩) n1 k1, .int .i64 T.key, .slice A2 n2 k2, .slice A3 n3 k3] (some ⟨b1, o1, none⟩) n1 T.cols wr.drew) := Lib.hid (HI.out.below (Below.refl _ _).drew)
              have g2 : decide (n1 ≤ q) = false := by simp; omega
              have g3 : decide ((q : Int) < 0) = false := by simp
              have g4 : decide (n1 ≤ j) = false := by simp; omega
              have g5 : decide ((j : Int) < 0) = false := by simp
              clear e0 f0 HI hy hx2
              go_wp2_with fail
              generalize hWn : wr.drew = Wn at *
              have hca := @cell_after Wn
              refine wp_region_seg [] [0, 1, 2, 3, 4, 5, 6, 7, 8, 9, 10, 11, 12] (by kernel_rfl) (by kernel_rfl) (fun _ _ d _ _ h => by cases d <;> exact h) ?_
              rw [hWn]
              clear hWn
              simp only [pickSegs, pickOps, opAt, List.map_cons, List.map_nil, List.getElem?_toArray, List.getElem?_cons_zero, List.getElem?_cons_succ, Option.getD_some]
              unfold wpBlocks
              repeat (go_big_quiet_step (fail))
              refine wpQuiet_nil ?_
              clear hca e2 f2 zy
              go_wp2
              go_roundw
              case rel => exact ⟨q + 1, by omega, by go_num, HI3⟩
              case measure => simp [intOf]; omega
            · obtain rfl : q = j := by omega
              go_wp2
              go_roundw
              case rel => exact ⟨q + 1, by omega, by go_num, HI⟩
              case measure => simp [intOf]; omega
        · obtain rfl : j = n1 := by omega
          have HE := Lib.hid HI.out.be
          go_wp2
          go_ret
          exact ⟨rfl, HE.out⟩
end Go.Proofs.YtponkkljlbifmaaGreat

/-
  The reference's Fits of a row, in the mode of the server.
-/
namespace Go.Proofs.YtponkkljlbifmaaGreat
open Go.RowKit
set_option maxRecDepth 100000
open Pd

set_option maxHeartbeats 4000000 in
theorem rfits_any (ver : Int) (A : Option Addr) (n c : Nat) (tbs : List Tb) (t : Nat) (T : Tb) (B : Option Addr) (m cb : Nat) (r : Rw) (w : World) (hs : ScS w A n tbs) (hn : n ≤ 8) (hT : tbs[t]? = some T) (h8 : T.cols.length ≤ 8) (hr : VlS w B m r) :
    Calls Tryz.prog 63 #[.agg #[.int .i64 ver, .slice A n c], .int .i64 (t : Int), .slice B m cb, .int .i64 1] w fun e w' => e = .returned (.bool (fitsB T r)) ∧ Below w.heap.size w w' := by
  have ht : t < n := by rw [← hs.len]; exact (List.getElem?_eq_some_iff.1 hT).1
  obtain ⟨b, o, e, rfl, he, hok, c0, c1, c2, c3, c4⟩ := hs.at ht
  obtain rfl : T = e.T := by rw [hT] at he; injection he
  have HC := Lib.hid hok.cs
  have Hln := Lib.hid hok.cs.len
  have HR := Lib.hid hr
  have Hrl := Lib.hid hr.len
  clear hs hok hT he hr c0 c2 c3 c4
  obtain ⟨T, ⟨A1, n1, k1⟩, ⟨A2, n2, k2⟩, ⟨A3, n3, k3⟩⟩ := e
  dsimp only at HC Hln c1 h8 ⊢
  have hn1 : n1 ≤ 8 := by have := Hln.out; omega
  obtain ⟨rr, Hrr⟩ : ∃ z, Hid (fitsB T r = z) := ⟨_, Lib.hid rfl⟩
  rw [Hrr.out]
  have HZ := Lib.hid (Blk.new w 30 #[.int .i64 ver, .slice (some ⟨b, o, none⟩) n c])
  have HB := Lib.hid ((Below.refl w.heap.size w).alloc (Nat.le_refl _) (.cells #[.int .i64 ver, .slice (some ⟨b, o, none⟩) n c] 30))
  have hk := keeps_of HB.out
  have d1 := (hk _ (by rw [c1]; rfl)).trans c1
  have HC2 := Lib.hid (HC.out.keep hk)
  have HR2 := Lib.hid (HR.out.keep hk)
  have g0 : decide ((t : Int) < 0) = false := by simp
  have g1 : decide (n ≤ t) = false := by simp; omega
  clear c1 hk HC HR
  go_enter Tryz.func63, Tryz.ntmps63
  by_cases hm : (m : Int) = (n1 : Int)
  · obtain rfl : m = n1 := by omega
    have Hf : Hid (fitL (r.drop 0) (T.kinds.drop 0) = rr) := Lib.hid Hrr.out
    have Hc1 : Hid (∀ w', Below (w.alloc (.cells #[.int .i64 ver, .slice (some ⟨b, o, none⟩) n c] 30)).heap.size (w.alloc (.cells #[.int .i64 ver, .slice (some ⟨b, o, none⟩) n c] 30)) w' → w'.cell? ⟨b, o + t * 5 + 1, none⟩ = some (.slice A1 m k1)) := Lib.hid (fun w' h => (keeps_of h _ (by rw [d1]; rfl)).trans d1)
    go_upto_region 1 with fail
    generalize hW : w.alloc (.cells #[.int .i64 ver, .slice (some ⟨b, o, none⟩) n c] 30) = w2 at *
    have z := HZ.out.cell
    go_wp2_with fail
    clear z d1 g0 g1
    go_loopw [42] (fun i wr => ∃ k : Nat, k ≤ m ∧ i = .int .i64 (k : Int) ∧ Hid (fitL (r.drop k) (T.kinds.drop k) = rr) ∧ Hid (Below w2.heap.size w2 wr)) (fun i _ => m - (intOf i).toNat)
    case atStart => exact ⟨0, by omega, rfl, Hf, Lib.hid (Below.refl _ _)⟩
    case round =>
      obtain ⟨k, hk, rfl, Hq, HBr⟩ := hrel
      by_cases hlt : k < m
      · obtain ⟨b1, o1, ⟨vk, vi, vt⟩, rfl, hv, hvc⟩ := (HR2.out.keep (keeps_of HBr.out)).at hlt
        obtain ⟨b2, o2, x, rfl, hx, x0, x1⟩ := Cm.at (HC2.out.keep (keeps_of HBr.out)) hlt
        have e0 : wr.cell? ⟨b1, o1 + k * 3, none⟩ = some (.int .i64 vk) := hvc 0 (.int .i64 vk) rfl
        have e1 : wr.cell? ⟨b1, o1 + k * 3 + 1, none⟩ = some (.int .i64 vi) := hvc 1 (.int .i64 vi) rfl
        have e2 : wr.cell? ⟨b1, o1 + k * 3 + 2, none⟩ = some (.string vt) := hvc 2 (.string vt) rfl
        have Hs : Hid ((fitC ⟨vk, vi, vt⟩ x.k && fitL (r.drop (k + 1)) (T.kinds.drop (k + 1))) = rr) := Lib.hid (by rw [← Hq.out, drop_at' hv, drop_at' (kinds_at hx)]; rfl)
        have HX := Lib.hid (Blk.new wr 67 #[.int .i64 vk, .int .i64 vi, .string vt])
        have HBx := Lib.hid (HBr.out.alloc HBr.out.size (.cells #[.int .i64 vk, .int .i64 vi, .string vt] 67))
        have x5 := (keeps_alloc wr (.cells #[.int .i64 vk, .int .i64 vi, .string vt] 67) _ (by rw [x1]; rfl)).trans x1
        have zx := HX.out.cell
        clear hv hx hvc Hq x0 x1 HBr
        go_wp2_with fail
        refine (rvalid_any ⟨vk, vi, vt⟩ _).mono ?_
        rintro e w4 ⟨rfl, hb4⟩
        have x6 := (keeps_of hb4 _ (by rw [x5]; rfl)).trans x5
        have zx4 := (HX.out.below hb4).cell
        have HB4 := Lib.hid (Below.next HBx.out hb4)
        have zz4 := (HZ.out.below HB4.out).cell
        have y1 := Hc1.out _ HB4.out
        have HE := Lib.hid (HB.out.trans (HB4.out.mono HB.out.size))
        clear x5 e0 e1 e2 zx hb4 HX HBx
        cases hval : validV ⟨vk, vi, vt⟩
        · have hf : rr = false := by rw [← Hs.out]; unfold fitC; rw [hval]; rfl
          subst hf
          clear hval
          go_wp2
          go_ret
          exact ⟨rfl, HE.out⟩
        · obtain ⟨xk, hxk⟩ : ∃ z, x.k = z := ⟨_, rfl⟩
          rw [hxk] at x6
          have Hs2 : Hid ((decide (vk = xk) && fitL (r.drop (k + 1)) (T.kinds.drop (k + 1))) = rr) := Lib.hid (by rw [← Hs.out]; unfold fitC; rw [hval, hxk]; rfl)
          have g0 : decide ((t : Int) < 0) = false := by simp
          have g1 : decide (n ≤ t) = false := by simp; omega
          have g2 : decide ((k : Int) < 0) = false := by simp
          have g3 : decide (m ≤ k) = false := by simp; omega
          clear hval hxk Hs
          go_wp2_with fail
          have x7 : w4.drew.cell? ⟨b2, o2 + k * 2 + 1, none⟩ = some (.int .i64 xk) := x6
          have zx5 : ∀ j, w4.drew.cell? ⟨wr.heap.size, j, none⟩ = (#[.int .i64 vk, .int .i64 vi, .string vt] : Array Value)[j]? := zx4
          have zz5 : ∀ j, w4.drew.cell? ⟨w.heap.size, j, none⟩ = (#[.int .i64 ver, .slice (some ⟨b, o, none⟩) n c] : Array Value)[j]? := zz4
          have y7 : w4.drew.cell? ⟨b, o + t * 5 + 1, none⟩ = some (.slice (some ⟨b2, o2, none⟩) m k1) := y1
          have HE5 : Hid (Below w.heap.size w w4.drew) := Lib.hid HE.out.drew
          have HB5 : Hid (Below w2.heap.size w2 w4.drew) := Lib.hid HB4.out.drew
          clear x6 zx4 zz4 y1 HE HB4
          by_cases hxx : vk = xk
          · have g5 : (vk == xk) = true := by simp [hxx]
            rw [decide_eq_true hxx, Bool.true_and] at Hs2
            clear hxx
            generalize hWn : w4.drew = Wn at *
            have hca := @cell_after Wn
            refine wp_region_seg [] [0, 1, 2, 3, 4, 5, 6, 7, 8, 9, 10, 11, 12, 13] (by kernel_rfl) (by kernel_rfl) (fun _ _ d _ _ h => by cases d <;> exact h) ?_
            rw [hWn]
            clear hWn
            simp only [pickSegs, pickOps, opAt, List.map_cons, List.map_nil, List.getElem?_toArray, List.getElem?_cons_zero, List.getElem?_cons_succ, Option.getD_some]
            unfold wpBlocks
            repeat (go_big_quiet_step (fail))
            refine wpQuiet_nil ?_
            clear hca x7 zx5 zz5 y7
            go_wp2
            go_roundw
            case rel => exact ⟨k + 1, by omega, by go_num, Lib.hid Hs2.out, HB5⟩
            case measure => simp [intOf]; omega
          · have g5 : (vk == xk) = false := by simp [hxx]
            rw [decide_eq_false hxx, Bool.false_and] at Hs2
            have hf : rr = false := Hs2.out.symm
            subst hf
            clear hxx
            generalize hWn : w4.drew = Wn at *
            have hca := @cell_after Wn
            refine wp_region_seg [] [0, 1, 2, 3, 4, 5, 6, 7, 8, 9, 10, 11, 12, 13] (by kernel_rfl) (by kernel_rfl) (fun _ _ d _ _ h => by cases d <;> exact h) ?_
            rw [hWn]
            clear hWn
            simp only [pickSegs, pickOps, opAt, List.map_cons, List.map_nil, List.getElem?_toArray, List.getElem?_cons_zero, List.getElem?_cons_succ, Option.getD_some]
            unfold wpBlocks
            repeat (go_big_quiet_step (fail))
            refine wpQuiet_nil ?_
            clear hca x7 y7
            cases h2 : (vk == 2) <;> cases h1 : (vk == 1)
            all_goals
              go_wp2_with fail
              go_ret
              exact ⟨rfl, HE5.out⟩
      · obtain rfl : k = m := by omega
        have hf : rr = true := by
          rw [← Hq.out, List.drop_of_length_le (by rw [Hrl.out]; exact Nat.le_refl _), List.drop_of_length_le (by unfold Tb.kinds; rw [List.length_map, Hln.out]; exact Nat.le_refl _)]
          rfl
        have HE := Lib.hid (HB.out.trans (HBr.out.mono HB.out.size))
        subst hf
        go_wp2
        go_ret
        exact ⟨rfl, HE.out⟩
  · have hf : rr = false := by
      rw [← Hrr.out]
      unfold fitsB
      rw [Bool.eq_false_iff]
      intro h
      have := fitL_len h
      unfold Tb.kinds at this
      rw [List.length_map, Hln.out, Hrl.out] at this
      omega
    subst hf
    have g4 : ((m : Int) != (n1 : Int)) = true := by simp [hm]
    have z := HZ.out.cell
    clear hm
    go_wp2
    go_ret
    exact ⟨rfl, HB.out⟩
end Go.Proofs.YtponkkljlbifmaaGreat

/-
  The reference's check of the references of one table of a good schema.
-/
namespace Go.Proofs.YtponkkljlbifmaaGreat
open Go.RowKit
set_option maxRecDepth 100000
open Pd

set_option maxRecDepth 100000 in
set_option maxHeartbeats 4000000 in
theorem rrefs_any (ver : Int) (A : Option Addr) (n c : Nat) (tbs : List Tb) (t : Nat) (T : Tb) (w : World) (hs : ScS w A n tbs) (hg : GoodS ver tbs) (hT : tbs[t]? = some T) :
    Calls Tryz.prog 101 #[.agg #[.int .i64 ver, .slice A n c], .int .i64 (t : Int)] w fun e w' => e = .returned (.bool true) ∧ Below w.heap.size w w' := by
  have ht : t < n := by rw [← hs.len]; exact (List.getElem?_eq_some_iff.1 hT).1
  have hn8 : n ≤ 8 := by have := hg.ln; have := hs.len; omega
  have HS0 := Lib.hid hs
  obtain ⟨b, o, e, rfl, he, hok, c0, c1, c2, c3, c4⟩ := hs.at ht
  obtain rfl : T = e.T := by rw [hT] at he; injection he
  have HC0 := Lib.hid hok.cs
  have Hln := Lib.hid (hok.cs.len)
  have HG := Lib.hid hg
  have HGT := Lib.hid (hg.tb e.T (List.mem_of_getElem? hT))
  have HT := Lib.hid hT
  obtain ⟨xs, hrs⟩ := hok.rs
  have hok_rs := Lib.hid hrs
  clear hrs hs hok hT he hg
  obtain ⟨T, ⟨A1, n1, k1⟩, ⟨A2, n2, k2⟩, ⟨A3, n3, k3⟩⟩ := e
  dsimp only at HC0 Hln HGT HT hok_rs c0 c1 c2 c3 c4 ⊢
  have HZ := Lib.hid (Blk.new w 30 #[.int .i64 ver, .slice (some ⟨b, o, none⟩) n c])
  have hB1 : Below w.heap.size w (w.alloc (.cells #[.int .i64 ver, .slice (some ⟨b, o, none⟩) n c] 30)) := (Below.refl _ w).alloc (Nat.le_refl _) _
  have hk := keeps_of hB1
  have d0 := (hk _ (by rw [c0]; rfl)).trans c0
  have d1 := (hk _ (by rw [c1]; rfl)).trans c1
  have d2 := (hk _ (by rw [c2]; rfl)).trans c2
  have d3 := (hk _ (by rw [c3]; rfl)).trans c3
  have d4 := (hk _ (by rw [c4]; rfl)).trans c4
  have hB2 := Below.next hB1 ((Below.refl _ _).alloc (Nat.le_refl _) (.cells #[.string T.nm, .slice A1 n1 k1, .int .i64 T.key, .slice A2 n2 k2, .slice A3 n3 k3] 62))
  have HI : Hid (RtI w ver (some ⟨b, o, none⟩) n c tbs #[.string T.nm, .slice A1 n1 k1, .int .i64 T.key, .slice A2 n2 k2, .slice A3 n3 k3] A1 n1 T.cols ((w.alloc (.cells #[.int .i64 ver, .slice (some ⟨b, o, none⟩) n c] 30)).alloc (.cells #[.string T.nm, .slice A1 n1 k1, .int .i64 T.key, .slice A2 n2 k2, .slice A3 n3 k3] 62))) := Lib.hid
    ⟨HZ.out.alloc _, by have h := Blk.new (w.alloc (.cells #[.int .i64 ver, .slice (some ⟨b, o, none⟩) n c] 30)) 62 #[.string T.nm, .slice A1 n1 k1, .int .i64 T.key, .slice A2 n2 k2, .slice A3 n3 k3]; rwa [World.size_alloc] at h, HS0.out.keep (keeps_of hB2), HC0.out.keep (keeps_of hB2), hB2⟩
  have HRS := Lib.hid (hok_rs.out.keep (keeps_of hB2))
  have z0 := HZ.out.cell
  have g0 : decide ((t : Int) < 0) = false := by simp
  have g1 : decide (n ≤ t) = false := by simp; omega
  clear hB1 hB2 hk c0 c1 c2 c3 c4 HZ HS0 HC0 hok_rs
  go_enter Tryz.func101, Tryz.ntmps101
  go_upto_region 2 with fail
  clear d0 d1 d2 d3 d4 z0
  generalize (w.alloc (.cells #[.int .i64 ver, .slice (some ⟨b, o, none⟩) n c] 30)).alloc (.cells #[.string T.nm, .slice A1 n1 k1, .int .i64 T.key, .slice A2 n2 k2, .slice A3 n3 k3] 62) = w1 at *
  have hn1 : n1 ≤ 8 := by have := HGT.out.cl; have := Hln.out; omega
  have hn2 : n2 ≤ 4 := by have := HGT.out.rl; have := HRS.out.len; omega
  have HGR := Lib.hid (HG.out.rf T (List.mem_of_getElem? HT.out))
  have zy := HI.out.y.cell
  go_wp2_with fail
  clear zy g0 g1
  go_loopw [18] (fun i wr => ∃ q : Nat, q ≤ n2 ∧ i = .int .i64 (q : Int) ∧ Hid (RtI w ver (some ⟨b, o, none⟩) n c tbs #[.string T.nm, .slice A1 n1 k1, .int .i64 T.key, .slice A2 n2 k2, .slice A3 n3 k3] A1 n1 T.cols wr) ∧ Hid (RfsS wr A2 n2 T.refs xs)) (fun i _ => n2 - (intOf i).toNat)
  case atStart => exact ⟨0, by omega, rfl, HI, HRS⟩
  case round =>
    clear HI HRS
    obtain ⟨q, hq, rfl, HI, HRS⟩ := hrel
    by_cases hqn : q < n2
    · obtain ⟨b2, o2, ⟨x, XA, xn, xc⟩, rfl, hx, hcl, x0, x1⟩ := HRS.out.at hqn
      dsimp only at hx hcl x0 x1
      obtain ⟨ht0, U, hU, hUk, hUc⟩ := HGR.out x (List.mem_of_getElem? hx)
      obtain ⟨tt, htt⟩ := Int.eq_ofNat_of_zero_le ht0
      rw [htt, Int.toNat_natCast] at hU
      rw [htt] at x1
      have htn : tt < n := by have h1 := (List.getElem?_eq_some_iff.1 hU).1; have h2 := HI.out.sc.len; omega
      have hal : Below wr.heap.size wr (wr.alloc (.cells #[.slice XA xn xc, .int .i64 (tt : Int)] 65)) := (Below.refl _ _).alloc (Nat.le_refl _) _
      have HX := Lib.hid (Blk.new wr 65 #[.slice XA xn xc, .int .i64 (tt : Int)])
      have HI2 := Lib.hid (HI.out.below hal)
      have HRS2 := Lib.hid (HRS.out.keep (keeps_of hal))
      have HCL := Lib.hid (hcl.keep (keeps_of hal))
      have HU := Lib.hid hU
      have HUC := Lib.hid hUc
      have HGU := Lib.hid (HG.out.tb U (List.mem_of_getElem? hU))
      have Hxl := Lib.hid hcl.len
      have hxn : (xn : Int) = U.key := by rw [← hUk]; have := Hxl.out; omega
      have hxn8 : xn ≤ 8 := by have := HGU.out.k2; have := HGU.out.cl; omega
      obtain ⟨X, HXX⟩ : ∃ z, Hid (wr.heap.size = z) := ⟨_, Lib.hid rfl⟩
      rw [HXX.out] at HX
      clear ht0 hU hUc hUk htt hx hcl hal HI HRS
      go_upto_region 5 with fail
      rw [HXX.out]
      clear x0 x1 HXX
      generalize wr.alloc (.cells #[.slice XA xn xc, .int .i64 (tt : Int)] 65) = wr at *
      obtain ⟨b3, o3, ⟨U', ⟨B1, m1, l1⟩, y2, y3⟩, e3, hU', hok3, _, u1, u2, _, _⟩ := HI2.out.sc.at htn
      obtain rfl : U = U' := by have h1 := HU.out; rw [hU'] at h1; injection h1 with h1; exact h1.symm
      injection e3 with e3
      injection e3 with e3 e4
      subst e3 e4
      dsimp only at u1 u2 hok3
      have f2 : wr.drew.cell? ⟨b, o + tt * 5 + 2, none⟩ = some (.int .i64 U.key) := u2
      have zz : ∀ i, wr.drew.cell? ⟨w.heap.size, i, none⟩ = (#[.int .i64 ver, .slice (some ⟨b, o, none⟩) n c] : Array Value)[i]? := HI2.out.z.cell
      have zx : ∀ i, wr.drew.cell? ⟨X, i, none⟩ = (#[.slice XA xn xc, .int .i64 (tt : Int)] : Array Value)[i]? := HX.out.cell
      have HI3 : Hid (RtI w ver (some ⟨b, o, none⟩) n c tbs #[.string T.nm, .slice A1 n1 k1, .int .i64 T.key, .slice (some ⟨b2, o2, none⟩) n2 k2, .slice A3 n3 k3] A1 n1 T.cols wr.drew) := Lib.hid (HI2.out.below (Below.refl _ _).drew)
      have HRS3 : Hid (RfsS wr.drew (some ⟨b2, o2, none⟩) n2 T.refs xs) := Lib.hid (HRS2.out.keep (Keeps.refl _).drew)
      have HX3 : Hid (Blk wr.drew X 65 #[.slice XA xn xc, .int .i64 (tt : Int)]) := Lib.hid HX.out
      have HCL3 : Hid (ClS wr.drew XA xn x.cols) := Lib.hid (HCL.out.keep (Keeps.refl _).drew)
      have g1 : decide ((tt : Int) < 0) = false := by simp
      have g2 : decide (n ≤ tt) = false := by simp; omega
      have g3 : ((xn : Int) != U.key) = false := by simp [hxn]
      clear HI2 HRS2 HX HCL u1 u2 hok3 hU'
      go_wp2_with fail
      generalize hWn : wr.drew = Wn at *
      have hca := @cell_after Wn
      refine wp_region_seg [] [0, 1, 2, 3, 4, 5, 6, 7, 8, 9, 10, 11, 12, 13, 14, 15, 16, 17, 18, 19, 20, 21, 22, 23] (by kernel_rfl) (by kernel_rfl) (fun _ _ d _ _ h => by cases d <;> exact h) ?_
      rw [hWn]
      clear hWn
      simp only [pickSegs, pickOps, opAt, List.map_cons, List.map_nil, List.getElem?_toArray, List.getElem?_cons_zero, List.getElem?_cons_succ, Option.getD_some]
      unfold wpBlocks
      repeat (go_big_quiet_step (fail))
      refine wpQuiet_nil ?_
      clear hca f2 zz zx
      have zx := HX3.out.cell
      clear g1 g2 g3
      go_wp2_with fail
      clear zx
      go_loopw [49] (fun i wr => ∃ j : Nat, j ≤ xn ∧ i = .int .i64 (j : Int) ∧ Hid (RtI w ver (some ⟨b, o, none⟩) n c tbs #[.string T.nm, .slice A1 n1 k1, .int .i64 T.key, .slice (some ⟨b2, o2, none⟩) n2 k2, .slice A3 n3 k3] A1 n1 T.cols wr) ∧ Hid (RfsS wr (some ⟨b2, o2, none⟩) n2 T.refs xs) ∧ Hid (Blk wr X 65 #[.slice XA xn xc, .int .i64 (tt : Int)]) ∧ Hid (ClS wr XA xn x.cols)) (fun i _ => xn - (intOf i).toNat)
      case atStart => exact ⟨0, by omega, rfl, HI3, HRS3, HX3, HCL3⟩
      case round =>
        clear HI3 HRS3 HX3 HCL3
        obtain ⟨j, hj, rfl, HI, HRS, HX, HCL⟩ := hrel
        by_cases hjn : j < xn
        · obtain ⟨b5, o5, cz, rfl, hcc, hcx⟩ := HCL.out.at hjn
          have y0 := hcx 0 _ rfl
          simp only [Nat.mul_one, Nat.add_zero] at y0
          obtain ⟨h0, ca, cb, hca, hcb, hab⟩ := HUC.out j cz hcc
          obtain ⟨cn, rfl⟩ := Int.eq_ofNat_of_zero_le h0
          rw [Int.toNat_natCast] at hca
          have hcn : cn < n1 := by rw [← Hln.out]; exact (List.getElem?_eq_some_iff.1 hca).1
          obtain ⟨b6, o6, ca', rfl, hca', _, p1⟩ := Cm.at HI.out.cl hcn
          obtain rfl : ca = ca' := by rw [hca] at hca'; injection hca'
          obtain ⟨b3, o3, ⟨U', ⟨B1, m1, l1⟩, y2, y3⟩, e3, hU', hok3, _, u1, _, _, _⟩ := HI.out.sc.at htn
          obtain rfl : U = U' := by have h1 := HU.out; rw [hU'] at h1; injection h1 with h1; exact h1.symm
          injection e3 with e3
          injection e3 with e3 e4
          subst e3 e4
          dsimp only at u1 hok3
          have hcs3 := hok3.cs
          dsimp only at hcs3
          have hjm : j < m1 := by rw [← hcs3.len]; exact (List.getElem?_eq_some_iff.1 hcb).1
          obtain ⟨b7, o7, cb', rfl, hcb', _, q1⟩ := Cm.at hcs3 hjm
          obtain rfl : cb = cb' := by rw [hcb] at hcb'; injection hcb'
          rw [← hab] at q1
          have g1 : decide ((tt : Int) < 0) = false := by simp
          have g2 : decide (n ≤ tt) = false := by simp; omega
          have g4 : decide ((cn : Int) < 0) = false := by simp
          have g5 : decide (n1 ≤ cn) = false := by simp; omega
          have g7 : decide ((j : Int) < 0) = false := by simp
          have g8 : decide (m1 ≤ j) = false := by simp; omega
          obtain ⟨ak, hak⟩ : ∃ z, ca.k = z := ⟨_, rfl⟩
          rw [hak] at p1 q1
          have g6 : (ak != ak) = false := by simp
          clear hcc hcx h0 hca hcb hab hca' hcb' hak hok3 hcs3 hU'
          go_wp2_with fail
          have p2 : wr.drew.cell? ⟨b6, o6 + cn * 2 + 1, none⟩ = some (.int .i64 ak) := p1
          have q2 : wr.drew.cell? ⟨b7, o7 + j * 2 + 1, none⟩ = some (.int .i64 ak) := q1
          have f1 : wr.drew.cell? ⟨b, o + tt * 5 + 1, none⟩ = some (.slice (some ⟨b7, o7, none⟩) m1 l1) := u1
          have zz : ∀ i, wr.drew.cell? ⟨w.heap.size, i, none⟩ = (#[.int .i64 ver, .slice (some ⟨b, o, none⟩) n c] : Array Value)[i]? := HI.out.z.cell
          have zy : ∀ i, wr.drew.cell? ⟨w.heap.size + 1, i, none⟩ = (#[.string T.nm, .slice (some ⟨b6, o6, none⟩) n1 k1, .int .i64 T.key, .slice (some ⟨b2, o2, none⟩) n2 k2, .slice A3 n3 k3] : Array Value)[i]? := HI.out.y.cell
          have zx : ∀ i, wr.drew.cell? ⟨X, i, none⟩ = (#[.slice (some ⟨b5, o5, none⟩) xn xc, .int .i64 (tt : Int)] : Array Value)[i]? := HX.out.cell
          have HI3 : Hid (RtI w ver (some ⟨b, o, none⟩) n c tbs #[.string T.nm, .slice (some ⟨b6, o6, none⟩) n1 k1, .int .i64 T.key, .slice (some ⟨b2, o2, none⟩) n2 k2, .slice A3 n3 k3] (some ⟨b6, o6, none⟩) n1 T.cols wr.drew) := Lib.hid (HI.out.below (Below.refl _ _).drew)
          have HRS3 : Hid (RfsS wr.drew (some ⟨b2, o2, none⟩) n2 T.refs xs) := Lib.hid (HRS.out.keep (Keeps.refl _).drew)
          have HX3 : Hid (Blk wr.drew X 65 #[.slice (some ⟨b5, o5, none⟩) xn xc, .int .i64 (tt : Int)]) := Lib.hid HX.out
          have HCL3 : Hid (ClS wr.drew (some ⟨b5, o5, none⟩) xn x.cols) := Lib.hid (HCL.out.keep (Keeps.refl _).drew)
          clear p1 q1 u1 y0 HI HRS HX HCL
          generalize hWn : wr.drew = Wn at *
          have hca := @cell_after Wn
          refine wp_region_seg [] [0, 1, 2, 3, 4, 5, 6, 7, 8, 9, 10, 11, 12, 13, 14, 15, 16, 17, 18, 19, 20, 21, 22, 23, 24, 25, 26, 27, 28] (by kernel_rfl) (by kernel_rfl) (fun _ _ d _ _ h => by cases d <;> exact h) ?_
          rw [hWn]
          clear hWn
          simp only [pickSegs, pickOps, opAt, List.map_cons, List.map_nil, List.getElem?_toArray, List.getElem?_cons_zero, List.getElem?_cons_succ, Option.getD_some]
          unfold wpBlocks
          repeat (go_big_quiet_step (fail))
          refine wpQuiet_nil ?_
          clear hca p2 q2 f1 zz zy zx
          go_wp2
          go_roundw
          case rel => exact ⟨j + 1, by omega, by go_num, HI3, HRS3, HX3, HCL3⟩
          case measure => simp [intOf]; omega
        · obtain rfl : j = xn := by omega
          go_wp2
          go_roundw
          case rel => exact ⟨q + 1, by omega, by go_num, HI, HRS⟩
          case measure => simp [intOf]; omega
    · obtain rfl : q = n2 := by omega
      have HE := Lib.hid HI.out.be
      go_wp2
      go_ret
      exact ⟨rfl, HE.out⟩
end Go.Proofs.YtponkkljlbifmaaGreat
