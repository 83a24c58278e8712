/-
  Texts: FPdA, FPdK.
-/
import Derived.Test.YtponkkljlbifmaaGreatH18
set_option linter.unusedVariables false
/-
  The reference's ColumnKind, ColumnKinds, nodes, deeper.
-/
namespace Go.Proofs.YtponkkljlbifmaaGreat
open Go.RowKit
set_option maxRecDepth 100000
open Pd

theorem rcolk_any (x : Int) (w : World) : Calls Tryz.prog 107 #[.int .i64 x] w fun e w' => e = .returned (.bool (decide (3 ≤ x ∧ x ≤ 5))) ∧ w = w' := by
  by_cases h : 3 ≤ x ∧ x ≤ 5
  · rw [decide_eq_true h]
    have h : x = 3 ∨ x = 4 ∨ x = 5 := by omega
    rcases h with rfl | rfl | rfl
    all_goals
      go_enter Tryz.func107, Tryz.ntmps107
      go_wp2
      go_ret
      exact ⟨rfl, rfl⟩
  · rw [decide_eq_false h]
    have g3 : (x == 3) = false := by simp; omega
    have g4 : (x == 4) = false := by simp; omega
    have g5 : (x == 5) = false := by simp; omega
    clear h
    go_enter Tryz.func107, Tryz.ntmps107
    go_wp2
    go_ret
    exact ⟨rfl, rfl⟩
theorem rcolK_any (A : Option Addr) (n c : Nat) (cs : List Int) (w : World) (hs : ClS w A n cs) (hnm : n ≤ 9223372036854775807) :
    Calls Tryz.prog 77 #[.slice A n c] w fun e w' => e = .returned (.bool (colB cs)) ∧ w = w' := by
  have HS := Lib.hid hs
  have Hln := Lib.hid hs.len
  clear hs
  obtain ⟨rr, Hrr⟩ : ∃ z, Hid (colB (cs.drop 0) = z) := ⟨_, rfl⟩
  have hrr : colB cs = rr := Hrr.out
  rw [hrr]
  clear hrr
  go_enter Tryz.func77, Tryz.ntmps77
  go_wp2_with fail
  go_loop [7] (fun i => ∃ k : Nat, k ≤ n ∧ i = .int .i64 (k : Int) ∧ Hid (colB (cs.drop k) = rr)) (fun i => n - (intOf i).toNat)
  case atStart => exact ⟨0, by omega, rfl, Hrr⟩
  case round =>
    obtain ⟨k, hk, rfl, Hq⟩ := hrel
    clear Hrr
    by_cases hlt : k < n
    · obtain ⟨b, o, x, rfl, hx, hxc⟩ := HS.out.at hlt
      have d0 := hxc 0 _ rfl
      simp only [Nat.mul_one, Nat.add_zero] at d0
      have Hs := Lib.hid (colB_step hx)
      clear hx hxc
      go_wp2_with fail
      refine (rcolk_any x _).mono ?_
      rintro e w2 ⟨rfl, rfl⟩
      obtain ⟨d, Hd⟩ : ∃ z, Hid (decide (3 ≤ x ∧ x ≤ 5) = z) := ⟨_, rfl⟩
      rw [Hd.out] at Hs ⊢
      cases d
      · obtain rfl : false = rr := by rw [← Hq.out, Hs.out]; rfl
        go_wp2
        go_ret
        exact ⟨rfl, rfl⟩
      · have Hn : Hid (colB (cs.drop (k + 1)) = rr) := Lib.hid (by rw [← Hq.out, Hs.out]; rfl)
        go_wp2
        go_round
        case rel => exact ⟨k + 1, by omega, by go_num, Hn⟩
        case measure => simp [intOf]; omega
    · obtain rfl : true = rr := by
        rw [← Hq.out, List.drop_eq_nil_of_le (by rw [Hln.out]; omega)]
        rfl
      clear Hq
      go_wp2
      go_ret
      exact ⟨rfl, rfl⟩
set_option maxHeartbeats 4000000 in
theorem rnodes_any : ∀ (N : Nat) (p : Pd) (A : Option Addr) (n c : Nat) (a : Int) (w : World), p.nodes ≤ N → PrdS w A n c p → 0 ≤ a → a ≤ 24 →
    Calls Tryz.prog 78 #[.agg (pdV p.h A n c), .int .i64 a] w fun e w' => e = .returned (.int .i64 (min 25 (a + (p.nodes : Int)))) ∧ Below w.heap.size w w' := by
  intro N
  induction N with
  | zero => intro p A n c a w hN; have := nodes_pos p; omega
  | succ N ih =>
    intro p A n c a w hN hs h0 h24
    have IH := Lib.hid ih
    have HN := Lib.hid hN
    have Hlen := Lib.hid hs.len
    obtain ⟨rr, Hrr⟩ : ∃ z, Hid (min 25 (a + (p.nodes : Int)) = z) := ⟨_, rfl⟩
    rw [Hrr.out]
    unfold pdV
    have HS := Lib.hid (hs.keep (keeps_alloc w (.cells #[.int .i64 p.h.op, .int .i64 p.h.cm, .int .i64 p.h.l.k, .int .i64 p.h.l.ix, .int .i64 p.h.l.v.k, .int .i64 p.h.l.v.i, .string p.h.l.v.t, .int .i64 p.h.r.k, .int .i64 p.h.r.ix, .int .i64 p.h.r.v.k, .int .i64 p.h.r.v.i, .string p.h.r.v.t, .slice A n c] 71)))
    have HB := Lib.hid ((Below.refl w.heap.size w).alloc (Nat.le_refl _) (.cells #[.int .i64 p.h.op, .int .i64 p.h.cm, .int .i64 p.h.l.k, .int .i64 p.h.l.ix, .int .i64 p.h.l.v.k, .int .i64 p.h.l.v.i, .string p.h.l.v.t, .int .i64 p.h.r.k, .int .i64 p.h.r.ix, .int .i64 p.h.r.v.k, .int .i64 p.h.r.v.i, .string p.h.r.v.t, .slice A n c] 71))
    have HX := Lib.hid (Blk.new w 71 #[.int .i64 p.h.op, .int .i64 p.h.cm, .int .i64 p.h.l.k, .int .i64 p.h.l.ix, .int .i64 p.h.l.v.k, .int .i64 p.h.l.v.i, .string p.h.l.v.t, .int .i64 p.h.r.k, .int .i64 p.h.r.ix, .int .i64 p.h.r.v.k, .int .i64 p.h.r.v.i, .string p.h.r.v.t, .slice A n c])
    clear ih hN hs
    go_enter Tryz.func78, Tryz.ntmps78
    go_upto_region 1 with fail
    obtain ⟨X, HXe⟩ : ∃ z, Hid (w.heap.size = z) := ⟨_, rfl⟩
    rw [HXe.out] at HX
    rw [HXe.out]
    generalize hW1 : w.alloc (.cells #[.int .i64 p.h.op, .int .i64 p.h.cm, .int .i64 p.h.l.k, .int .i64 p.h.l.ix, .int .i64 p.h.l.v.k, .int .i64 p.h.l.v.i, .string p.h.l.v.t, .int .i64 p.h.r.k, .int .i64 p.h.r.ix, .int .i64 p.h.r.v.k, .int .i64 p.h.r.v.i, .string p.h.r.v.t, .slice A n c] 71) = w1 at *
    clear hW1 HXe
    have zx := HX.out.cell
    have H0 : Hid (min 25 (a + 1 + ((p.rest 0).nodes : Int) - 1) = rr) := Lib.hid (by rw [rest_zero, ← Hrr.out]; congr 1; omega)
    clear Hrr
    go_wp2_with fail
    go_loopw [1, 5] (fun m i wr => ∃ (k : Nat) (mk : Int), k ≤ n ∧ i = .int .i64 (k : Int) ∧ m = .int .i64 mk ∧ (k : Int) + 1 ≤ mk ∧ mk ≤ 25 ∧ Hid (min 25 (mk + ((p.rest k).nodes : Int) - 1) = rr) ∧ Hid (Below w1.heap.size w1 wr)) (fun _ i _ => n - (intOf i).toNat)
    case atStart => exact ⟨0, a + 1, by omega, rfl, rfl, by omega, by omega, H0, Lib.hid (Below.refl _ _)⟩
    case round =>
      obtain ⟨k, mk, hk, rfl, rfl, hm0, hm1, Hq, HM⟩ := hrel
      clear zx H0
      have zx := (HX.out.below HM.out).cell
      by_cases hlt : k < n
      · by_cases hm : mk ≤ 24
        · have HSk := Lib.hid (HS.out.keep (keeps_of HM.out))
          obtain ⟨b', o', q, A1, n1, c1, rfl, hq, d⟩ := HSk.out.at hlt
          have HSq := Lib.hid d.s
          obtain ⟨d0, d1, d2, d3, d4, d5, d6, d7, d8, d9, d10, d11, d12, ds⟩ := d
          have Hqn := Lib.hid (at_nodes hq)
          have Hst := Lib.hid (nodes_rest hq)
          have Hqp := Lib.hid (nodes_pos q)
          have Hrp := Lib.hid (nodes_pos (p.rest (k + 1)))
          have g1 : decide (mk ≤ 24) = true := decide_eq_true hm
          clear ds hq HSk
          go_wp2_with fail
          refine (IH.out q A1 n1 c1 mk _ (by have := Hqn.out; have := HN.out; omega) HSq.out (by omega) hm).mono ?_
          rintro e w4 ⟨rfl, hb4⟩
          have HM4 := Lib.hid (Below.next HM.out hb4)
          obtain ⟨m2, Hm2⟩ : ∃ z, Hid (min 25 (mk + (q.nodes : Int)) = z) := ⟨_, rfl⟩
          rw [Hm2.out]
          have hm2 : (k : Int) + 1 + 1 ≤ m2 ∧ m2 ≤ 25 := by have := Hm2.out; have := Hqp.out; omega
          have Hn : Hid (min 25 (m2 + ((p.rest (k + 1)).nodes : Int) - 1) = rr) := Lib.hid (by have h1 := Hm2.out; have h2 := Hqp.out; have h3 := Hrp.out; have h4 := Hst.out; rw [← Hq.out]; omega)
          obtain ⟨hm3, hm4⟩ := hm2
          clear hb4 zx d0 d1 d2 d3 d4 d5 d6 d7 d8 d9 d10 d11 d12 g1
          go_wp2
          go_roundw
          case rel => exact ⟨k + 1, m2, by omega, by go_num, rfl, by omega, hm4, Hn, HM4⟩
          case measure => simp [intOf]; omega
        · obtain rfl : mk = rr := by have := nodes_pos (p.rest k); rw [← Hq.out]; omega
          have g1 : decide (mk ≤ 24) = false := decide_eq_false hm
          clear Hq
          go_wp2
          go_ret
          exact ⟨rfl, Below.next HB.out HM.out⟩
      · obtain rfl : mk = rr := by
          have h : (p.rest k).nodes = 1 := by
            rw [rest_end (by rw [← Hlen.out]; omega)]
            rfl
          rw [← Hq.out, h]
          omega
        clear Hq
        go_wp2
        go_ret
        exact ⟨rfl, Below.next HB.out HM.out⟩
set_option maxHeartbeats 4000000 in
theorem rdeeper_any : ∀ (N : Nat) (p : Pd) (A : Option Addr) (n c : Nat) (m : Nat) (mi : Int) (w : World), p.nodes ≤ N → N ≤ 1000 → PrdS w A n c p → mi = (m : Int) → m ≤ 1000 →
    Calls Tryz.prog 79 #[.agg (pdV p.h A n c), .int .i64 mi] w fun e w' => e = .returned (.bool (decide (m < p.depth))) ∧ Below w.heap.size w w' := by
  intro N
  induction N with
  | zero => intro p A n c m mi w hN; have := nodes_pos p; omega
  | succ N ih =>
    intro p A n c m mi w hN hN2 hs hmi hm
    have IH := Lib.hid ih
    have HN : Hid (p.nodes ≤ N + 1 ∧ N + 1 ≤ 1000) := Lib.hid ⟨hN, hN2⟩
    have Hlen := Lib.hid hs.len
    have hn1 : n ≤ 1000 := by have := len_lt p; have := hs.len; omega
    obtain ⟨rr, Hrr⟩ : ∃ z, Hid (decide (m < p.depth) = z) := ⟨_, rfl⟩
    rw [Hrr.out]
    unfold pdV
    have HS := Lib.hid (hs.keep (keeps_alloc w (.cells #[.int .i64 p.h.op, .int .i64 p.h.cm, .int .i64 p.h.l.k, .int .i64 p.h.l.ix, .int .i64 p.h.l.v.k, .int .i64 p.h.l.v.i, .string p.h.l.v.t, .int .i64 p.h.r.k, .int .i64 p.h.r.ix, .int .i64 p.h.r.v.k, .int .i64 p.h.r.v.i, .string p.h.r.v.t, .slice A n c] 71)))
    have HB := Lib.hid ((Below.refl w.heap.size w).alloc (Nat.le_refl _) (.cells #[.int .i64 p.h.op, .int .i64 p.h.cm, .int .i64 p.h.l.k, .int .i64 p.h.l.ix, .int .i64 p.h.l.v.k, .int .i64 p.h.l.v.i, .string p.h.l.v.t, .int .i64 p.h.r.k, .int .i64 p.h.r.ix, .int .i64 p.h.r.v.k, .int .i64 p.h.r.v.i, .string p.h.r.v.t, .slice A n c] 71))
    have HX := Lib.hid (Blk.new w 71 #[.int .i64 p.h.op, .int .i64 p.h.cm, .int .i64 p.h.l.k, .int .i64 p.h.l.ix, .int .i64 p.h.l.v.k, .int .i64 p.h.l.v.i, .string p.h.l.v.t, .int .i64 p.h.r.k, .int .i64 p.h.r.ix, .int .i64 p.h.r.v.k, .int .i64 p.h.r.v.i, .string p.h.r.v.t, .slice A n c])
    clear ih hN hN2 hs
    go_enter Tryz.func79, Tryz.ntmps79
    go_upto_region 1 with fail
    obtain ⟨X, HXe⟩ : ∃ z, Hid (w.heap.size = z) := ⟨_, rfl⟩
    rw [HXe.out] at HX
    rw [HXe.out]
    generalize hW1 : w.alloc (.cells #[.int .i64 p.h.op, .int .i64 p.h.cm, .int .i64 p.h.l.k, .int .i64 p.h.l.ix, .int .i64 p.h.l.v.k, .int .i64 p.h.l.v.i, .string p.h.l.v.t, .int .i64 p.h.r.k, .int .i64 p.h.r.ix, .int .i64 p.h.r.v.k, .int .i64 p.h.r.v.i, .string p.h.r.v.t, .slice A n c] 71) = w1 at *
    clear hW1 HXe
    have zx := HX.out.cell
    by_cases hm0 : mi = 0
    · subst hm0
      obtain rfl : true = rr := by rw [← Hrr.out, decide_eq_true (by have := depth_pos p; omega)]
      clear hmi
      go_wp2
      go_ret
      exact ⟨rfl, HB.out⟩
    · have g0 : (mi == 0) = false := by simpa using hm0
      have H0 : Hid (decide (m < (p.rest 0).depth) = rr) := Lib.hid (by rw [rest_zero]; exact Hrr.out)
      have Hm : Hid (mi = (m : Int) ∧ 1 ≤ m) := Lib.hid ⟨hmi, by omega⟩
      have hm1 : 1 ≤ mi := by omega
      have hm2 : mi ≤ 1000 := by omega
      clear Hrr hmi hm hm0
      go_wp2_with fail
      clear g0
      go_loopw [11] (fun i wr => ∃ k : Nat, k ≤ n ∧ i = .int .i64 (k : Int) ∧ Hid (decide (m < (p.rest k).depth) = rr) ∧ Hid (Below w1.heap.size w1 wr)) (fun i _ => n - (intOf i).toNat)
      case atStart => exact ⟨0, by omega, rfl, H0, Lib.hid (Below.refl _ _)⟩
      case round =>
        obtain ⟨k, hk, rfl, Hq, HM⟩ := hrel
        clear zx H0
        have zx := (HX.out.below HM.out).cell
        by_cases hlt : k < n
        · have HSk := Lib.hid (HS.out.keep (keeps_of HM.out))
          obtain ⟨b', o', q, A1, n1, c1, rfl, hq, d⟩ := HSk.out.at hlt
          have HSq := Lib.hid d.s
          obtain ⟨d0, d1, d2, d3, d4, d5, d6, d7, d8, d9, d10, d11, d12, ds⟩ := d
          have Hqn := Lib.hid (at_nodes hq)
          have Hst := Lib.hid (depth_rest hq)
          clear ds hq HSk
          go_wp2_with fail
          refine (IH.out q A1 n1 c1 (m - 1) (mi - 1) _ (by have := Hqn.out; have := HN.out; omega) (by have := HN.out; omega) HSq.out (by have := Hm.out; omega) (by have := Hm.out; omega)).mono ?_
          rintro e w4 ⟨rfl, hb4⟩
          have HM4 := Lib.hid (Below.next HM.out hb4)
          obtain ⟨d, Hd⟩ : ∃ z, Hid (decide (m - 1 < q.depth) = z) := ⟨_, rfl⟩
          rw [Hd.out]
          clear hb4 zx d0 d1 d2 d3 d4 d5 d6 d7 d8 d9 d10 d11 d12
          cases d
          · have Hn : Hid (decide (m < (p.rest (k + 1)).depth) = rr) := Lib.hid (by
              have h1 := of_decide_eq_false Hd.out
              have h2 := Hm.out
              rw [← Hq.out, Hst.out]
              rw [decide_eq_decide]
              omega)
            go_wp2
            go_roundw
            case rel => exact ⟨k + 1, by omega, by go_num, Hn, HM4⟩
            case measure => simp [intOf]; omega
          · obtain rfl : true = rr := by
              have h1 := of_decide_eq_true Hd.out
              have h2 := Hm.out
              rw [← Hq.out, Hst.out, decide_eq_true (by omega)]
            go_wp2
            go_ret
            exact ⟨rfl, Below.next HB.out HM4.out⟩
        · obtain rfl : false = rr := by
            have h : (p.rest k).depth = 1 := by
              rw [rest_end (by rw [← Hlen.out]; omega)]
              rfl
            rw [← Hq.out, h, decide_eq_false (by have := Hm.out; omega)]
          clear Hq
          go_wp2
          go_ret
          exact ⟨rfl, Below.next HB.out HM.out⟩
end Go.Proofs.YtponkkljlbifmaaGreat

/-
  The kind of an operand: the reference's.
-/
namespace Go.Proofs.YtponkkljlbifmaaGreat
open Go.RowKit
set_option maxRecDepth 100000

set_option maxHeartbeats 4000000 in
theorem rkind_any (cols ps : List Int) (o : Od) (Ac : Option Addr) (nc cc : Nat) (Ap : Option Addr) (np cp : Nat) (w : World) (hc : ClS w Ac nc cols) (hp : ClS w Ap np ps) :
    Calls Tryz.prog 109 #[.slice Ac nc cc, .slice Ap np cp, .agg #[.int .i64 o.k, .int .i64 o.ix, .int .i64 o.v.k, .int .i64 o.v.i, .string o.v.t]] w fun e w' => e = .returned (.int .i64 (kindOf cols ps o)) ∧ Below w.heap.size w w' := by
  obtain ⟨k, ix, ⟨vk, vi, vt⟩⟩ := o
  obtain ⟨rr, Hrr⟩ : ∃ z, Hid (kindOf cols ps ⟨k, ix, ⟨vk, vi, vt⟩⟩ = z) := ⟨_, rfl⟩
  rw [Hrr.out]
  have Hlc := Lib.hid hc.len
  have Hlp := Lib.hid hp.len
  have HC := Lib.hid (hc.keep (keeps_alloc w (.cells #[.int .i64 k, .int .i64 ix, .int .i64 vk, .int .i64 vi, .string vt] 69)))
  have HP := Lib.hid (hp.keep (keeps_alloc w (.cells #[.int .i64 k, .int .i64 ix, .int .i64 vk, .int .i64 vi, .string vt] 69)))
  have HX := Lib.hid (Blk.new w 69 #[.int .i64 k, .int .i64 ix, .int .i64 vk, .int .i64 vi, .string vt])
  have HB := Lib.hid ((Below.refl w.heap.size w).alloc (Nat.le_refl _) (.cells #[.int .i64 k, .int .i64 ix, .int .i64 vk, .int .i64 vi, .string vt] 69))
  clear hc hp
  go_enter Tryz.func109, Tryz.ntmps109
  go_upto_region 1 with fail
  generalize hW : w.alloc (.cells #[.int .i64 k, .int .i64 ix, .int .i64 vk, .int .i64 vi, .string vt] 69) = w1 at *
  clear hW
  have zx := HX.out.cell
  by_cases h3 : k = 3
  · have Hs : Hid ((if ix = 0 ∧ realV ⟨vk, vi, vt⟩ = true then vk else 0) = rr) := Lib.hid (by rw [← Hrr.out, kindOf_val h3])
    subst h3
    clear Hrr
    by_cases hi : ix = 0
    · subst hi
      go_wp2_with fail
      refine (rreal_any ⟨vk, vi, vt⟩ _).mono ?_
      rintro e w2 ⟨rfl, hb2⟩
      have zx2 := (HX.out.below hb2).cell
      have HB2 := Lib.hid (Below.next HB.out hb2)
      clear zx hb2
      obtain ⟨q, Hq⟩ : ∃ z, Hid (realV ⟨vk, vi, vt⟩ = z) := ⟨_, rfl⟩
      rw [Hq.out] at Hs ⊢
      cases q
      · obtain rfl : 0 = rr := Hs.out
        go_wp2
        go_ret
        exact ⟨rfl, HB2.out⟩
      · obtain rfl : vk = rr := Hs.out
        go_wp2
        go_ret
        exact ⟨rfl, HB2.out⟩
    · have g1 : (ix != 0) = true := by simpa using hi
      obtain rfl : 0 = rr := by rw [← Hs.out, if_neg (fun h => hi h.1)]
      clear hi Hs
      go_wp2
      go_ret
      exact ⟨rfl, HB.out⟩
  by_cases h1 : k = 1
  · have Hs : Hid ((if 0 ≤ ix ∧ ix < (cols.length : Int) ∧ (⟨vk, vi, vt⟩ : Vl) = zeroV then cols.getD ix.toNat 0 else 0) = rr) := Lib.hid (by rw [← Hrr.out, kindOf_col h1])
    clear Hrr h3
    subst h1
    by_cases h0 : ix < 0
    · obtain rfl : 0 = rr := by rw [← Hs.out, if_neg (fun h => by omega)]
      have g1 : decide (ix < 0) = true := decide_eq_true h0
      clear Hs h0
      go_wp2
      go_ret
      exact ⟨rfl, HB.out⟩
    · have g1 : decide (ix < 0) = false := decide_eq_false h0
      by_cases hn : ix < (nc : Int)
      · have g2 : decide ((nc : Int) ≤ ix) = false := decide_eq_false (by omega)
        have hev := run_neqV vk vi vt 0 0 ⟨#[]⟩
        by_cases hz : (⟨vk, vi, vt⟩ : Vl) = ⟨0, 0, ⟨#[]⟩⟩
        · obtain ⟨j, rfl⟩ := Int.eq_ofNat_of_zero_le (Int.not_lt.1 h0)
          obtain ⟨b, o, x, rfl, hx, hxc⟩ := HC.out.at (show j < nc by omega)
          have d0 := hxc 0 _ rfl
          simp only [Nat.mul_one, Nat.add_zero] at d0
          obtain rfl : x = rr := by
            rw [← Hs.out, if_pos ⟨by omega, by rw [Hlc.out]; omega, hz⟩, Int.toNat_natCast, List.getD_eq_getElem?_getD, hx]
            rfl
          rw [decide_eq_false (fun h => h hz)] at hev
          have hjn : j < nc := by omega
          have g3 : decide (nc ≤ j) = false := by simp; omega
          clear hx hxc Hs hz h0 hn
          go_wp2
          go_ret
          exact ⟨rfl, HB.out⟩
        · obtain rfl : 0 = rr := by rw [← Hs.out, if_neg (fun h => hz h.2.2)]
          rw [decide_eq_true hz] at hev
          clear Hs hz h0 hn
          go_wp2
          go_ret
          exact ⟨rfl, HB.out⟩
      · have g2 : decide ((nc : Int) ≤ ix) = true := decide_eq_true (by omega)
        obtain rfl : 0 = rr := by rw [← Hs.out, if_neg (fun h => by have := Hlc.out; omega)]
        clear Hs h0 hn
        go_wp2
        go_ret
        exact ⟨rfl, HB.out⟩
  by_cases h2 : k = 2
  · have Hs : Hid ((if 0 ≤ ix ∧ ix < (ps.length : Int) ∧ (⟨vk, vi, vt⟩ : Vl) = zeroV then ps.getD ix.toNat 0 else 0) = rr) := Lib.hid (by rw [← Hrr.out, kindOf_par h2])
    clear Hrr h3 h1
    subst h2
    by_cases h0 : ix < 0
    · obtain rfl : 0 = rr := by rw [← Hs.out, if_neg (fun h => by omega)]
      have g1 : decide (ix < 0) = true := decide_eq_true h0
      clear Hs h0
      go_wp2
      go_ret
      exact ⟨rfl, HB.out⟩
    · have g1 : decide (ix < 0) = false := decide_eq_false h0
      by_cases hn : ix < (np : Int)
      · have g2 : decide ((np : Int) ≤ ix) = false := decide_eq_false (by omega)
        have hev := run_neqV vk vi vt 0 0 ⟨#[]⟩
        by_cases hz : (⟨vk, vi, vt⟩ : Vl) = ⟨0, 0, ⟨#[]⟩⟩
        · obtain ⟨j, rfl⟩ := Int.eq_ofNat_of_zero_le (Int.not_lt.1 h0)
          obtain ⟨b, o, x, rfl, hx, hxc⟩ := HP.out.at (show j < np by omega)
          have d0 := hxc 0 _ rfl
          simp only [Nat.mul_one, Nat.add_zero] at d0
          obtain rfl : x = rr := by
            rw [← Hs.out, if_pos ⟨by omega, by rw [Hlp.out]; omega, hz⟩, Int.toNat_natCast, List.getD_eq_getElem?_getD, hx]
            rfl
          rw [decide_eq_false (fun h => h hz)] at hev
          have hjn : j < np := by omega
          have g3 : decide (np ≤ j) = false := by simp; omega
          clear hx hxc Hs hz h0 hn
          go_wp2
          go_ret
          exact ⟨rfl, HB.out⟩
        · obtain rfl : 0 = rr := by rw [← Hs.out, if_neg (fun h => hz h.2.2)]
          rw [decide_eq_true hz] at hev
          clear Hs hz h0 hn
          go_wp2
          go_ret
          exact ⟨rfl, HB.out⟩
      · have g2 : decide ((np : Int) ≤ ix) = true := decide_eq_true (by omega)
        obtain rfl : 0 = rr := by rw [← Hs.out, if_neg (fun h => by have := Hlp.out; omega)]
        clear Hs h0 hn
        go_wp2
        go_ret
        exact ⟨rfl, HB.out⟩
  obtain rfl : 0 = rr := by rw [← Hrr.out, kindOf_none h1 h2 h3]
  have g1 : (k == 1) = false := by simpa using h1
  have g2 : (k == 2) = false := by simpa using h2
  have g3 : (k == 3) = false := by simpa using h3
  clear h1 h2 h3 Hrr
  go_wp2
  go_ret
  exact ⟨rfl, HB.out⟩
end Go.Proofs.YtponkkljlbifmaaGreat
