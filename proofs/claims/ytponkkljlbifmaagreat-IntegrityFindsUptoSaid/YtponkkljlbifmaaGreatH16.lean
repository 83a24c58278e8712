/-
  Texts: PdH, IgName, IgMap, IgNamed.
-/
import Derived.Test.YtponkkljlbifmaaGreatH15
import Derived.Lib.Strings
import Derived.Maps.Own
import Derived.StringKeys
set_option linter.unusedVariables false
/-
  The program's Holds.
-/
namespace Go.Proofs.YtponkkljlbifmaaGreat
open Go.RowKit
set_option maxRecDepth 100000
open Pd

theorem fin_true {row ps : List Vl} {h : Nd} {x : Bool × Bool × Bool} (ho : h.op = 1) : finH row ps h x = true := by unfold finH; rw [if_pos ho]
theorem fin_cmp {row ps : List Vl} {h : Nd} {x : Bool × Bool × Bool} (ho : h.op = 3) : finH row ps h x = cmpOk h.cm (dnV row ps h.l) (dnV row ps h.r) := by unfold finH; rw [if_neg (by omega), if_pos ho]
theorem fin_and {row ps : List Vl} {h : Nd} {x : Bool × Bool × Bool} (ho : h.op = 4) : finH row ps h x = x.1 := by unfold finH; rw [if_neg (by omega), if_neg (by omega), if_pos ho]
theorem fin_or {row ps : List Vl} {h : Nd} {x : Bool × Bool × Bool} (ho : h.op = 5) : finH row ps h x = x.2.1 := by unfold finH; rw [if_neg (by omega), if_neg (by omega), if_neg (by omega), if_pos ho]
theorem fin_not {row ps : List Vl} {h : Nd} {x : Bool × Bool × Bool} (ho : h.op = 6) : finH row ps h x = x.2.2 := by unfold finH; rw [if_neg (by omega), if_neg (by omega), if_neg (by omega), if_neg (by omega), if_pos ho]
theorem fin_none {row ps : List Vl} {h : Nd} {x : Bool × Bool × Bool} (h1 : h.op ≠ 1) (h3 : h.op ≠ 3) (h4 : h.op ≠ 4) (h5 : h.op ≠ 5) (h6 : h.op ≠ 6) : finH row ps h x = false := by unfold finH; rw [if_neg h1, if_neg h3, if_neg h4, if_neg h5, if_neg h6]
set_option maxHeartbeats 8000000 in
theorem holds_any (row ps : List Vl) : ∀ (N : Nat) (p : Pd) (A : Option Addr) (n c : Nat) (Ar : Option Addr) (nr cr : Nat) (Ap : Option Addr) (np cp : Nat) (w : World), p.nodes ≤ N → N ≤ 1000 → PrdS w A n c p → VlS w Ar nr row → VlS w Ap np ps →
    Calls Tryz.prog 59 #[.agg (pdV p.h A n c), .slice Ar nr cr, .slice Ap np cp] w fun e w' => e = .returned (.bool (holdsB row ps p)) ∧ Below w.heap.size w w' := by
  intro N
  induction N with
  | zero => intro p A n c Ar nr cr Ap np cp w hN; have := nodes_pos p; omega
  | succ N ih =>
    intro p A n c Ar nr cr Ap np cp w hN hN2 hs hr hp
    have IH := Lib.hid ih
    have HN : Hid (p.nodes ≤ N + 1 ∧ N + 1 ≤ 1000) := Lib.hid ⟨hN, hN2⟩
    have hn1 : n ≤ 1000 := by have := len_lt p; have := hs.len; omega
    have Hlen := Lib.hid hs.len
    obtain ⟨rr, Hrr⟩ : ∃ z, Hid (holdsB row ps p = z) := ⟨_, rfl⟩
    rw [Hrr.out]
    obtain ⟨hd, Hhd⟩ : ∃ z, Hid (p.h = z) := ⟨_, rfl⟩
    have Hs : Hid (finH row ps hd (holdsA row ps (p.rest 0)) = rr) := Lib.hid (by rw [rest_zero, ← Hhd.out]; exact Hrr.out)
    rw [Hhd.out]
    clear ih hN hN2 Hrr Hhd
    obtain ⟨op, cm, ⟨lk, lx, ⟨vk, vi, vt⟩⟩, ⟨rk, rx, ⟨uk, ui, ut⟩⟩⟩ := hd
    by_cases h3 : op = 3
    · subst h3
      obtain rfl : cmpOk cm (dnV row ps ⟨lk, lx, ⟨vk, vi, vt⟩⟩) (dnV row ps ⟨rk, rx, ⟨uk, ui, ut⟩⟩) = rr := by rw [← Hs.out, fin_cmp rfl]
      exact hcmp_any row ps cm ⟨lk, lx, ⟨vk, vi, vt⟩⟩ ⟨rk, rx, ⟨uk, ui, ut⟩⟩ A n c Ar nr cr Ap np cp w hr hp
    unfold pdV
    have HS := Lib.hid (hs.keep (keeps_alloc w (.cells #[.int .i64 op, .int .i64 cm, .int .i64 lk, .int .i64 lx, .int .i64 vk, .int .i64 vi, .string vt, .int .i64 rk, .int .i64 rx, .int .i64 uk, .int .i64 ui, .string ut, .slice A n c] 71)))
    have HR := Lib.hid (hr.keep (keeps_alloc w (.cells #[.int .i64 op, .int .i64 cm, .int .i64 lk, .int .i64 lx, .int .i64 vk, .int .i64 vi, .string vt, .int .i64 rk, .int .i64 rx, .int .i64 uk, .int .i64 ui, .string ut, .slice A n c] 71)))
    have HP := Lib.hid (hp.keep (keeps_alloc w (.cells #[.int .i64 op, .int .i64 cm, .int .i64 lk, .int .i64 lx, .int .i64 vk, .int .i64 vi, .string vt, .int .i64 rk, .int .i64 rx, .int .i64 uk, .int .i64 ui, .string ut, .slice A n c] 71)))
    have HX := Lib.hid (Blk.new w 71 #[.int .i64 op, .int .i64 cm, .int .i64 lk, .int .i64 lx, .int .i64 vk, .int .i64 vi, .string vt, .int .i64 rk, .int .i64 rx, .int .i64 uk, .int .i64 ui, .string ut, .slice A n c])
    have HB := Lib.hid ((Below.refl w.heap.size w).alloc (Nat.le_refl _) (.cells #[.int .i64 op, .int .i64 cm, .int .i64 lk, .int .i64 lx, .int .i64 vk, .int .i64 vi, .string vt, .int .i64 rk, .int .i64 rx, .int .i64 uk, .int .i64 ui, .string ut, .slice A n c] 71))
    clear hs hr hp
    go_enter Tryz.func59, Tryz.ntmps59
    go_upto_region 1 with fail
    obtain ⟨X, HXe⟩ : ∃ z, Hid (w.heap.size = z) := ⟨_, rfl⟩
    rw [HXe.out] at HX
    rw [HXe.out]
    generalize hW : w.alloc (.cells #[.int .i64 op, .int .i64 cm, .int .i64 lk, .int .i64 lx, .int .i64 vk, .int .i64 vi, .string vt, .int .i64 rk, .int .i64 rx, .int .i64 uk, .int .i64 ui, .string ut, .slice A n c] 71) = w1 at *
    clear hW HXe
    have zx := HX.out.cell
    by_cases h1 : op = 1
    · obtain rfl : true = rr := by rw [← Hs.out, fin_true h1]
      clear Hs h3
      subst h1
      go_wp2
      go_ret
      exact ⟨rfl, HB.out⟩
    by_cases h4 : op = 4
    · have H0 : Hid ((holdsA row ps (p.rest 0)).1 = rr) := Lib.hid (by rw [← Hs.out, fin_and h4])
      clear Hs h1 h3
      subst h4
      go_wp2_with fail
      go_loopw [62] (fun i wr => ∃ k : Nat, k ≤ n ∧ i = .int .i64 (k : Int) ∧ Hid ((holdsA row ps (p.rest k)).1 = rr) ∧ Hid (Below w1.heap.size w1 wr)) (fun i _ => n - (intOf i).toNat)
      case atStart => exact ⟨0, by omega, rfl, H0, Lib.hid (Below.refl _ _)⟩
      case round =>
        obtain ⟨k, hk, rfl, Hq, HM⟩ := hrel
        clear zx H0
        by_cases hlt : k < n
        · have HSk := Lib.hid (HS.out.keep (keeps_of HM.out))
          obtain ⟨b', o', q, A1, n1, c1, rfl, hq, d⟩ := HSk.out.at hlt
          have Hqn := Lib.hid (at_nodes hq)
          have Hst := Lib.hid (hold_rest hq row ps)
          have HSq := Lib.hid (d.s.keep (keeps_alloc wr (.cells #[.int .i64 q.h.op, .int .i64 q.h.cm, .int .i64 q.h.l.k, .int .i64 q.h.l.ix, .int .i64 q.h.l.v.k, .int .i64 q.h.l.v.i, .string q.h.l.v.t, .int .i64 q.h.r.k, .int .i64 q.h.r.ix, .int .i64 q.h.r.v.k, .int .i64 q.h.r.v.i, .string q.h.r.v.t, .slice A1 n1 c1] 71)))
          obtain ⟨d0, d1, d2, d3, d4, d5, d6, d7, d8, d9, d10, d11, d12, ds⟩ := d
          have HMa := Lib.hid (HM.out.alloc HM.out.size (.cells #[.int .i64 q.h.op, .int .i64 q.h.cm, .int .i64 q.h.l.k, .int .i64 q.h.l.ix, .int .i64 q.h.l.v.k, .int .i64 q.h.l.v.i, .string q.h.l.v.t, .int .i64 q.h.r.k, .int .i64 q.h.r.ix, .int .i64 q.h.r.v.k, .int .i64 q.h.r.v.i, .string q.h.r.v.t, .slice A1 n1 c1] 71))
          have HY := Lib.hid (Blk.new wr 71 #[.int .i64 q.h.op, .int .i64 q.h.cm, .int .i64 q.h.l.k, .int .i64 q.h.l.ix, .int .i64 q.h.l.v.k, .int .i64 q.h.l.v.i, .string q.h.l.v.t, .int .i64 q.h.r.k, .int .i64 q.h.r.ix, .int .i64 q.h.r.v.k, .int .i64 q.h.r.v.i, .string q.h.r.v.t, .slice A1 n1 c1])
          clear ds hq
          obtain ⟨Y, HYe⟩ : ∃ z, Hid (wr.heap.size = z) := ⟨_, rfl⟩
          rw [HYe.out] at HY
          go_upto_region 14 with fail
          rw [HYe.out]
          generalize hW3 : wr.alloc (.cells #[.int .i64 q.h.op, .int .i64 q.h.cm, .int .i64 q.h.l.k, .int .i64 q.h.l.ix, .int .i64 q.h.l.v.k, .int .i64 q.h.l.v.i, .string q.h.l.v.t, .int .i64 q.h.r.k, .int .i64 q.h.r.ix, .int .i64 q.h.r.v.k, .int .i64 q.h.r.v.i, .string q.h.r.v.t, .slice A1 n1 c1] 71) = w3 at *
          clear hW3 HYe d0 d1 d2 d3 d4 d5 d6 d7 d8 d9 d10 d11 d12 HSk
          have zy := HY.out.cell
          have HR3 := Lib.hid (HR.out.keep (keeps_of HMa.out))
          have HP3 := Lib.hid (HP.out.keep (keeps_of HMa.out))
          go_wp2_with fail
          refine (IH.out q A1 n1 c1 Ar nr cr Ap np cp _ (by have := Hqn.out; have := HN.out; omega) (by have := HN.out; omega) HSq.out HR3.out HP3.out).mono ?_
          rintro e w4 ⟨rfl, hb4⟩
          have HM4 := Lib.hid (Below.next HMa.out hb4)
          clear hb4 zy
          obtain ⟨oq, Hoq⟩ : ∃ z, Hid (holdsB row ps q = z) := ⟨_, rfl⟩
          rw [Hoq.out] at Hst ⊢
          have Hcut : Hid (oq = false → false = rr) := Lib.hid (fun h => by rw [← Hq.out, Hst.out, h]; rfl)
          have Hgo : Hid (oq = !false → (holdsA row ps (p.rest (k + 1))).1 = rr) := Lib.hid (fun h => by rw [← Hq.out, Hst.out, h]; rfl)
          cases oq
          · obtain rfl := Hcut.out rfl
            go_wp2
            go_ret
            exact ⟨rfl, Below.next HB.out HM4.out⟩
          · have Hn := Lib.hid (Hgo.out rfl)
            go_wp2
            go_roundw
            case rel => exact ⟨k + 1, by omega, by go_num, Hn, HM4⟩
            case measure => simp [intOf]; omega
        · obtain rfl : true = rr := by
            rw [← Hq.out, rest_end (by rw [← Hlen.out]; omega)]
            rfl
          clear Hq
          go_wp2
          go_ret
          exact ⟨rfl, Below.next HB.out HM.out⟩
    by_cases h5 : op = 5
    · have H0 : Hid ((holdsA row ps (p.rest 0)).2.1 = rr) := Lib.hid (by rw [← Hs.out, fin_or h5])
      clear Hs h1 h3 h4
      subst h5
      go_wp2_with fail
      go_loopw [77] (fun i wr => ∃ k : Nat, k ≤ n ∧ i = .int .i64 (k : Int) ∧ Hid ((holdsA row ps (p.rest k)).2.1 = rr) ∧ Hid (Below w1.heap.size w1 wr)) (fun i _ => n - (intOf i).toNat)
      case atStart => exact ⟨0, by omega, rfl, H0, Lib.hid (Below.refl _ _)⟩
      case round =>
        obtain ⟨k, hk, rfl, Hq, HM⟩ := hrel
        clear zx H0
        by_cases hlt : k < n
        · have HSk := Lib.hid (HS.out.keep (keeps_of HM.out))
          obtain ⟨b', o', q, A1, n1, c1, rfl, hq, d⟩ := HSk.out.at hlt
          have Hqn := Lib.hid (at_nodes hq)
          have Hst := Lib.hid (hold_rest hq row ps)
          have HSq := Lib.hid (d.s.keep (keeps_alloc wr (.cells #[.int .i64 q.h.op, .int .i64 q.h.cm, .int .i64 q.h.l.k, .int .i64 q.h.l.ix, .int .i64 q.h.l.v.k, .int .i64 q.h.l.v.i, .string q.h.l.v.t, .int .i64 q.h.r.k, .int .i64 q.h.r.ix, .int .i64 q.h.r.v.k, .int .i64 q.h.r.v.i, .string q.h.r.v.t, .slice A1 n1 c1] 71)))
          obtain ⟨d0, d1, d2, d3, d4, d5, d6, d7, d8, d9, d10, d11, d12, ds⟩ := d
          have HMa := Lib.hid (HM.out.alloc HM.out.size (.cells #[.int .i64 q.h.op, .int .i64 q.h.cm, .int .i64 q.h.l.k, .int .i64 q.h.l.ix, .int .i64 q.h.l.v.k, .int .i64 q.h.l.v.i, .string q.h.l.v.t, .int .i64 q.h.r.k, .int .i64 q.h.r.ix, .int .i64 q.h.r.v.k, .int .i64 q.h.r.v.i, .string q.h.r.v.t, .slice A1 n1 c1] 71))
          have HY := Lib.hid (Blk.new wr 71 #[.int .i64 q.h.op, .int .i64 q.h.cm, .int .i64 q.h.l.k, .int .i64 q.h.l.ix, .int .i64 q.h.l.v.k, .int .i64 q.h.l.v.i, .string q.h.l.v.t, .int .i64 q.h.r.k, .int .i64 q.h.r.ix, .int .i64 q.h.r.v.k, .int .i64 q.h.r.v.i, .string q.h.r.v.t, .slice A1 n1 c1])
          clear ds hq
          obtain ⟨Y, HYe⟩ : ∃ z, Hid (wr.heap.size = z) := ⟨_, rfl⟩
          rw [HYe.out] at HY
          go_upto_region 22 with fail
          rw [HYe.out]
          generalize hW3 : wr.alloc (.cells #[.int .i64 q.h.op, .int .i64 q.h.cm, .int .i64 q.h.l.k, .int .i64 q.h.l.ix, .int .i64 q.h.l.v.k, .int .i64 q.h.l.v.i, .string q.h.l.v.t, .int .i64 q.h.r.k, .int .i64 q.h.r.ix, .int .i64 q.h.r.v.k, .int .i64 q.h.r.v.i, .string q.h.r.v.t, .slice A1 n1 c1] 71) = w3 at *
          clear hW3 HYe d0 d1 d2 d3 d4 d5 d6 d7 d8 d9 d10 d11 d12 HSk
          have zy := HY.out.cell
          have HR3 := Lib.hid (HR.out.keep (keeps_of HMa.out))
          have HP3 := Lib.hid (HP.out.keep (keeps_of HMa.out))
          go_wp2_with fail
          refine (IH.out q A1 n1 c1 Ar nr cr Ap np cp _ (by have := Hqn.out; have := HN.out; omega) (by have := HN.out; omega) HSq.out HR3.out HP3.out).mono ?_
          rintro e w4 ⟨rfl, hb4⟩
          have HM4 := Lib.hid (Below.next HMa.out hb4)
          clear hb4 zy
          obtain ⟨oq, Hoq⟩ : ∃ z, Hid (holdsB row ps q = z) := ⟨_, rfl⟩
          rw [Hoq.out] at Hst ⊢
          have Hcut : Hid (oq = true → true = rr) := Lib.hid (fun h => by rw [← Hq.out, Hst.out, h]; rfl)
          have Hgo : Hid (oq = !true → (holdsA row ps (p.rest (k + 1))).2.1 = rr) := Lib.hid (fun h => by rw [← Hq.out, Hst.out, h]; rfl)
          cases oq
          · have Hn := Lib.hid (Hgo.out rfl)
            go_wp2
            go_roundw
            case rel => exact ⟨k + 1, by omega, by go_num, Hn, HM4⟩
            case measure => simp [intOf]; omega
          · obtain rfl := Hcut.out rfl
            go_wp2
            go_ret
            exact ⟨rfl, Below.next HB.out HM4.out⟩
        · obtain rfl : false = rr := by
            rw [← Hq.out, rest_end (by rw [← Hlen.out]; omega)]
            rfl
          clear Hq
          go_wp2
          go_ret
          exact ⟨rfl, Below.next HB.out HM.out⟩
    by_cases h6 : op = 6
    · have H0 : Hid ((holdsA row ps (p.rest 0)).2.2 = rr) := Lib.hid (by rw [← Hs.out, fin_not h6])
      clear Hs h1 h3 h4 h5
      subst h6
      by_cases hn : 0 < n
      · obtain ⟨b', o', q, A1, n1, c1, rfl, hq, d⟩ := HS.out.at hn
        have HSq := Lib.hid d.s
        obtain ⟨d0, d1, d2, d3, d4, d5, d6, d7, d8, d9, d10, d11, d12, ds⟩ := d
        have Hqn := Lib.hid (at_nodes hq)
        have Hst := Lib.hid (hold_rest hq row ps)
        simp only [Nat.zero_mul, Nat.add_zero] at d0 d1 d2 d3 d4 d5 d6 d7 d8 d9 d10 d11 d12
        clear ds hq
        go_wp2_with fail
        refine (IH.out q A1 n1 c1 Ar nr cr Ap np cp _ (by have := Hqn.out; have := HN.out; omega) (by have := HN.out; omega) HSq.out HR.out HP.out).mono ?_
        rintro e w4 ⟨rfl, hb4⟩
        have HB4 := Lib.hid (Below.next HB.out hb4)
        clear hb4 zx d0 d1 d2 d3 d4 d5 d6 d7 d8 d9 d10 d11 d12
        obtain ⟨oq, Hoq⟩ : ∃ z, Hid (holdsB row ps q = z) := ⟨_, rfl⟩
        rw [Hoq.out] at Hst ⊢
        obtain rfl : (!oq) = rr := by rw [← H0.out, Hst.out]
        clear Hst H0 Hoq
        cases oq
        all_goals
          go_wp2
          go_ret
          exact ⟨rfl, HB4.out⟩
      · obtain rfl : false = rr := by
          rw [← H0.out, rest_end (by rw [← Hlen.out]; omega)]
          rfl
        obtain rfl : n = 0 := by omega
        clear H0 hn
        go_wp2
        go_ret
        exact ⟨rfl, HB.out⟩
    obtain rfl : false = rr := by rw [← Hs.out, fin_none h1 h3 h4 h5 h6]
    have g1 : (op == 1) = false := by simpa using h1
    have g3 : (op == 3) = false := by simpa using h3
    have g4 : (op == 4) = false := by simpa using h4
    have g5 : (op == 5) = false := by simpa using h5
    have g6 : (op == 6) = false := by simpa using h6
    clear h1 h3 h4 h5 h6 Hs
    go_wp2
    go_ret
    exact ⟨rfl, HB.out⟩
end Go.Proofs.YtponkkljlbifmaaGreat

/-
  The program's isName of a name of small letters.
-/
namespace Go.Proofs.YtponkkljlbifmaaGreat
open Go.RowKit
set_option maxRecDepth 100000
open Pd

theorem nameB_at {s : ByteArray} (h : nameB s = true) (i : Nat) (hi : i < s.size) : 97 ≤ (s[i]'hi).toNat ∧ (s[i]'hi).toNat ≤ 122 := by
  unfold nameB at h
  rw [Bool.and_eq_true, List.all_eq_true] at h
  have hm : s[i]'hi ∈ s.toList := by
    rw [Lib.toList_data, List.mem_iff_getElem]
    exact ⟨i, by rw [← Lib.size_eq]; exact hi, rfl⟩
  have := h.2 _ hm
  unfold lowB at this
  simpa using this
set_option maxHeartbeats 2000000 in
theorem isname_any (s : ByteArray) (w : World) (h : nameB s = true) :
    Calls Tryz.prog 136 #[.string s] w fun e w' => e = .returned (.bool true) ∧ Below w.heap.size w w' := by
  have hsz : 1 ≤ s.size ∧ s.size ≤ 32 := by
    unfold nameB at h
    rw [Bool.and_eq_true] at h
    simpa using h.1
  have g1 : decide ((s.size : Int) < 1) = false := by simp; omega
  have g2 : decide ((32 : Int) < (s.size : Int)) = false := by simp; omega
  have hk0 : (w.iter s 0).heap[w.heap.size]? = some (.stringIter s 0) := by
    have h5 := World.iter_heap w s 0
    simpa using h5
  have hb0 : Below w.heap.size w (w.iter s 0) := (Below.refl _ w).alloc (Nat.le_refl _) _
  go_enter Tryz.func136, Tryz.ntmps136
  go_wp2
  go_loopw [3] (fun _ wr => ∃ pos : Nat, pos ≤ s.size ∧ wr.heap[w.heap.size]? = some (.stringIter s pos) ∧ Below w.heap.size w wr) (fun _ wr => s.size - wr.iterPos w.heap.size)
  case atStart => exact ⟨0, Nat.zero_le _, hk0, hb0⟩
  case round =>
    obtain ⟨pos, hps, hk, hnx⟩ := hrel
    clear hk0 hb0
    by_cases hp : pos < s.size
    · have hr := nameB_at h pos hp
      have hnext : ∀ ty, (Instr.next (.pointer (some ⟨w.heap.size, 0, none⟩)) true ty).run Tryz.prog wr = _ := fun ty => Lib.run_next_ascii_at wr w.heap.size s pos ty hk hp (by omega)
      have hk1 := Lib.iterAt_heap wr w.heap.size s pos (pos + 1) hk
      have hnx1 : Below w.heap.size w (wr.iterAt w.heap.size s (pos + 1)) := Lib.below_iterAt hnx (Nat.le_refl _) s (pos + 1)
      have hmu : wr.iterPos w.heap.size = pos := by simp [World.iterPos, hk]
      generalize wr.iterAt w.heap.size s (pos + 1) = W1 at hnext hk1 hnx1
      have g3 : decide ((97 : Int) ≤ ((s[pos]'hp).toNat : Int)) = true := by simp; omega
      have g4 : decide (((s[pos]'hp).toNat : Int) ≤ 122) = true := by simp; omega
      go_wp2
      go_roundw
      case rel => exact ⟨pos + 1, by omega, hk1, hnx1⟩
      case measure =>
        have hmu2 : W1.iterPos w.heap.size = pos + 1 := by simp [World.iterPos, hk1]
        rw [hmu, hmu2]
        omega
    · have hnext : ∀ ty, (Instr.next (.pointer (some ⟨w.heap.size, 0, none⟩)) true ty).run Tryz.prog wr = _ := fun ty => Lib.run_next_end_at wr w.heap.size s pos ty hk hp
      go_wp2
      go_ret
      exact ⟨rfl, hnx⟩
end Go.Proofs.YtponkkljlbifmaaGreat

/-
  A set of strings as a map from strings to booleans that the call makes: the look-up of a string that is not there, and the store of one more.
-/
namespace Go.Proofs.YtponkkljlbifmaaGreat
open Go.RowKit Go.Maps
set_option maxRecDepth 100000

section
variable {P : Program} {K E T : TypeId}
/-- a set of strings -/
def StrSet (P : Program) (K E : TypeId) (w : World) (b n : Nat) (acc : List (List UInt8)) : Prop := w.ownsMap (H := Unit) P K (plainElem P E) b n (setOf (.lit (.bool true)) (acc.map fun l => Lit.string l))
theorem keyLit_str (acc : List (List UInt8)) : ∀ x ∈ acc.map (fun l => Lit.string l), WideAt.IsKeyLit x := by
  intro x hx
  obtain ⟨l, _, rfl⟩ := List.mem_map.1 hx
  first | trivial | (unfold WideAt.IsKeyLit; trivial) | simp [WideAt.IsKeyLit]
theorem strset_not {acc : List (List UInt8)} {l : List UInt8} (h : l ∉ acc) : Maps.has (setOf (H := Unit) (.lit (.bool true)) (acc.map fun l => Lit.string l)) (.string l) = false := by
  rw [has_setOf _ _ _ (keyLit_str acc), List.any_eq_false]
  intro x hx
  obtain ⟨y, hy, rfl⟩ := List.mem_map.1 hx
  rw [sameKey_ne (fun e => h (by injection e with e; rw [← e]; exact hy))]
  simp
theorem StrSet.made (w : World) : StrSet P K E (w.alloc (.map #[] 0)) w.heap.size 0 [] := World.ownsMap_made w P K _
theorem StrSet.kept {w w' : World} {b n : Nat} {acc : List (List UInt8)} {row : Option Nat} (h : StrSet P K E w b n acc) (hg : w.grownBy w' row) (hne : some b ≠ row) : StrSet P K E w' b n acc := World.ownsMap.kept h hg hne
theorem StrSet.block {w w' : World} {b n : Nat} {acc : List (List UInt8)} (h : StrSet P K E w b n acc) (hb : w'.heap[b]? = w.heap[b]?) : StrSet P K E w' b n acc := by
  obtain ⟨es, clock, h1, h2⟩ := h
  exact ⟨es, clock, hb.trans h1, h2⟩
theorem StrSet.lt {w : World} {b n : Nat} {acc : List (List UInt8)} (h : StrSet P K E w b n acc) : b < w.heap.size := World.ownsMap.lt h
theorem StrSet.look {w : World} {b n : Nat} {acc : List (List UInt8)} (h : StrSet P K E w b n acc) (KK : Keyed P K) (hk : P.underlying K = some .string) (ht : P.underlying T = some (.map K E)) (he : P.underlying E = some .bool) (hz : (zeroValue E).run P w = .ok (.bool false) w)
    {s : ByteArray} (hs : s.size ≤ maxLen) (hn : s.data.toList ∉ acc) : (Instr.lookup T (.map (some b)) (.string s) false).run P w = .ok (.bool false) w := by
  obtain ⟨v, ps, hrun, hv⟩ := World.ownsMap.lookup h KK ht hz (plainElem_bool he false) (WideMaps.keyOf_string_mk hk hs)
  rw [atKey_of_not_has (strset_not hn)] at hv
  unfold plainElem at hv
  rw [he] at hv
  cases v <;> simp at hv
  obtain ⟨rfl, rfl⟩ := hv
  exact hrun
theorem wpList_store_new {w : World} {ops : Array Oper} {rest : List Oper} {o : Oper} {a : Act} {Q : Exit → Act → World → Prop}
    (hg : o.guard = none) (m x v : Operand) (hop : o.op = Op.mapUpdate T m x v) (KK : Keyed P K) (hk : P.underlying K = some .string) (ht : P.underlying T = some (.map K E)) (he : P.underlying E = some .bool)
    (b n : Nat) (acc : List (List UInt8)) (hm : a.eval m = .map (some b)) (h : StrSet P K E w b n acc) (hlt : n < maxLen) (s : ByteArray) (hx : a.eval x = .string s) (hv : a.eval v = .bool true) (hs : s.size ≤ maxLen)
    (hK : ∀ w', StrSet P K E w' b (n + 1) (acc ++ [s.data.toList]) → w.grownBy w' (some b) → wpList P ops Q rest (a.put o.dst undef) w') : wpList P ops Q (o :: rest) a w :=
  wpList_mapUpdate_own w hg m x v T hop K E KK ht (plainElem P E) b n _ hm h hlt (.string s) (.bool true) (.string s.data.toList) hx hv (WideMaps.keyOf_string_mk hk hs) (.lit (.bool true)) [] (plainElem_bool he true) fun w' h1 h2 =>
    hK w' (by unfold StrSet; rw [List.map_append, List.map_singleton, setOf_snoc]; exact h1) h2
end
end Go.Proofs.YtponkkljlbifmaaGreat

/-
  The program's named: the names, columns and keys of a good schema.
-/
namespace Go.Proofs.YtponkkljlbifmaaGreat
open Go.RowKit
set_option maxRecDepth 100000
open Pd

abbrev nmL (s : ByteArray) : List UInt8 := s.data.toList
abbrev SetB (w : World) (b n : Nat) (acc : List (List UInt8)) : Prop := StrSet Tryz.prog 9 4 w b n acc
theorem take_new {α : Type} {f : α → List UInt8} {l : List α} {k : Nat} {x : α} (hn : (l.map f).Nodup) (h : l[k]? = some x) : f x ∉ (l.take k).map f := by
  intro hm
  obtain ⟨y, hy, e⟩ := List.mem_map.1 hm
  obtain ⟨j, hj⟩ := List.mem_iff_getElem?.1 hy
  rw [List.getElem?_take] at hj
  split at hj
  · rename_i hlt
    have h1 : (l.map f)[j]? = some (f x) := by rw [List.getElem?_map, hj, Option.map_some, e]
    have h2 : (l.map f)[k]? = some (f x) := by rw [List.getElem?_map, h]; rfl
    obtain ⟨h3, h4⟩ := List.getElem?_eq_some_iff.1 h1
    obtain ⟨h5, h6⟩ := List.getElem?_eq_some_iff.1 h2
    have := (List.getElem_inj (h₀ := h3) (h₁ := h5) hn).1 (h4.trans h6.symm)
    omega
  · cases hj
theorem take_step {α β : Type} {f : α → β} {l : List α} {k : Nat} {x : α} (h : l[k]? = some x) : (l.take (k + 1)).map f = (l.take k).map f ++ [f x] := by
  rw [List.take_add_one, h, List.map_append]
  rfl
theorem name_max {s : ByteArray} (h : nameB s = true) : s.size ≤ maxLen := by
  unfold nameB at h
  rw [Bool.and_eq_true] at h
  have := h.1
  simp only [decide_eq_true_eq] at this
  unfold maxLen
  omega
theorem look_new {w : World} {b n : Nat} {acc : List (List UInt8)} (h : SetB w b n acc) {s : ByteArray} (hs : nameB s = true) (hn : nmL s ∉ acc) : (Instr.lookup 164 (.map (some b)) (.string s) false).run Tryz.prog w = .ok (.bool false) w :=
  h.look (Maps.string_keyed Tryz.underlying9) Tryz.underlying9 Tryz.underlying164 Tryz.underlying4 (by simp [go_sem]) (name_max hs) hn
set_option maxHeartbeats 4000000 in
theorem named_any (ver : Int) (A : Option Addr) (n c : Nat) (tbs : List Tb) (w : World) (hs : ScS w A n tbs) (hg : GoodS ver tbs) :
    Calls Tryz.prog 110 #[.agg #[.int .i64 ver, .slice A n c]] w fun e w' => e = .returned (.bool true) ∧ Below w.heap.size w w' := by
  have hmm := @run_makeMap Tryz.prog
  have Hln := Lib.hid hs.len
  have hn8 : n ≤ 8 := by have := hg.ln; have := Hln.out; omega
  have HG := Lib.hid hg
  have HS := Lib.hid (hs.keep (keeps_alloc w (.cells #[.int .i64 ver, .slice A n c] 30)))
  have HZ := Lib.hid (Blk.new w 30 #[.int .i64 ver, .slice A n c])
  have HB := Lib.hid ((Below.refl w.heap.size w).alloc (Nat.le_refl _) (.cells #[.int .i64 ver, .slice A n c] 30))
  have hW1 : (w.alloc (.cells #[.int .i64 ver, .slice A n c] 30)).heap.size = w.heap.size + 1 := World.size_alloc _ _
  clear hs hg
  go_enter Tryz.func110, Tryz.ntmps110
  go_upto_region 2 with fail
  generalize hW : w.alloc (.cells #[.int .i64 ver, .slice A n c] 30) = w1 at *
  have HM : Hid (SetB (w1.alloc (.map #[] 0)) (w.heap.size + 1) 0 []) := Lib.hid (by have := StrSet.made (P := Tryz.prog) (K := 9) (E := 4) w1; rwa [hW1] at this)
  have HB2 : Hid (Below w1.heap.size w1 (w1.alloc (.map #[] 0))) := Lib.hid ((Below.refl _ _).alloc (Nat.le_refl _) _)
  have z := (HZ.out.alloc (.map #[] 0)).cell
  go_wp2_with fail
  go_loopw [13] (fun i wr => ∃ k : Nat, k ≤ n ∧ i = .int .i64 (k : Int) ∧ Hid (SetB wr (w.heap.size + 1) k ((tbs.take k).map fun T => nmL T.nm)) ∧ Hid (Below w1.heap.size w1 wr)) (fun i _ => n - (intOf i).toNat)
  case atStart => exact ⟨0, by omega, rfl, HM, HB2⟩
  case round =>
    obtain ⟨k, hk, rfl, HMr, HBr⟩ := hrel
    clear z
    by_cases hlt : k < n
    · obtain ⟨b, o, ⟨T, ⟨A1, n1, k1⟩, ⟨A2, n2, k2⟩, ⟨A3, n3, k3⟩⟩, rfl, hT, hok, c0, c1, c2, c3, c4⟩ := HS.out.at hlt
      dsimp only at hT c0 c1 c2 c3 c4
      have hkp := keeps_of HBr.out
      have d0 := (hkp _ (by rw [c0]; rfl)).trans c0
      have d1 := (hkp _ (by rw [c1]; rfl)).trans c1
      have d2 := (hkp _ (by rw [c2]; rfl)).trans c2
      have d3 := (hkp _ (by rw [c3]; rfl)).trans c3
      have d4 := (hkp _ (by rw [c4]; rfl)).trans c4
      have hGT := HG.out.tb T (List.mem_of_getElem? hT)
      have hnew := take_new (f := fun T : Tb => nmL T.nm) HG.out.nd hT
      have HT := Lib.hid (take_step (f := fun T : Tb => nmL T.nm) hT)
      have HGT := Lib.hid hGT
      have Hcl := Lib.hid hok.cs.len
      have HCc := Lib.hid hok.cs
      have g1 : decide (T.key < 1) = false := by have := hGT.k1; simp; omega
      have g2 : decide ((n1 : Int) < T.key) = false := by have := hGT.k2; have := Hcl.out; simp only at this; simp; omega
      have HX := Lib.hid (Blk.new wr 62 #[.string T.nm, .slice A1 n1 k1, .int .i64 T.key, .slice A2 n2 k2, .slice A3 n3 k3])
      have HBx := Lib.hid (HBr.out.alloc HBr.out.size (.cells #[.string T.nm, .slice A1 n1 k1, .int .i64 T.key, .slice A2 n2 k2, .slice A3 n3 k3] 62))
      have zx := HX.out.cell
      clear hT hGT
      go_wp2_with fail
      refine (isname_any T.nm _ HGT.out.nm).mono ?_
      rintro e w4 ⟨rfl, hb4⟩
      have hmlt : w.heap.size + 1 < wr.heap.size := HMr.out.lt
      have HX4 := Lib.hid (HX.out.below hb4)
      have HM4 : Hid (SetB w4 (w.heap.size + 1) k ((tbs.take k).map fun T => nmL T.nm)) := Lib.hid (HMr.out.block ((hb4.block _ (by simp; omega)).trans (Below.heap_alloc wr _ _ hmlt)))
      have HB4 := Lib.hid (Below.next HBx.out hb4)
      have hlook := look_new HM4.out HGT.out.nm hnew
      have zx4 := HX4.out.cell
      clear zx hb4 HX HBx HMr HBr c0 c1 c2 c3 c4 d0 d1 d2 d3 d4 hkp hok
      go_upto_region 8 with (at_mapUpdate; refine wpList_store_new (P := Tryz.prog) (K := 9) (E := 4) (by rfl) _ _ _ (by rfl) (Maps.string_keyed Tryz.underlying9) Tryz.underlying9 Tryz.underlying164 Tryz.underlying4 (w.heap.size + 1) k _ (by rfl) HM4.out (by simp only [maxLen]; omega) T.nm (by rfl) (by rfl) (name_max HGT.out.nm) ?_; intro w5 hs5 hg5)
      have HX5 := Lib.hid (HX4.out.grown hg5 (by intro e; injection e with e; omega))
      have HB5 := Lib.hid (HB4.out.grown hg5 HB4.out.size (fun q hq => by injection hq with hq; omega))
      have HM5 : Hid (SetB w5 (w.heap.size + 1) (k + 1) ((tbs.take (k + 1)).map fun T => nmL T.nm)) := Lib.hid (by rw [HT.out]; exact hs5)
      have HC5 := Lib.hid (HCc.out.keep (keeps_of HB5.out))
      have HM6 : Hid (SetB (w5.alloc (.map #[] 0)) w5.heap.size 0 []) := Lib.hid (StrSet.made w5)
      have HB6 : Hid (Below w5.heap.size w5 (w5.alloc (.map #[] 0))) := Lib.hid ((Below.refl _ _).alloc (Nat.le_refl _) _)
      have hw5 : wr.heap.size < w5.heap.size := HX5.out.lt
      have z6 := (HX5.out.alloc (.map #[] 0)).cell
      have hn18 : n1 ≤ 8 := by have := HGT.out.cl; have := Hcl.out; omega
      clear hlook zx4 HX4 HM4 HB4 HT HCc hs5 hg5 g1 g2 hnew
      go_wp2_with fail
      go_loopw [47] (fun j wr => ∃ q : Nat, q ≤ n1 ∧ j = .int .i64 (q : Int) ∧ Hid (SetB wr w5.heap.size q ((T.cols.take q).map fun x => nmL x.nm)) ∧ Hid (Below w5.heap.size w5 wr)) (fun j _ => n1 - (intOf j).toNat)
      case atStart => exact ⟨0, by omega, rfl, HM6, HB6⟩
      case round =>
        obtain ⟨q, hq, rfl, HMx, HBx⟩ := hrel
        clear z6
        by_cases hqn : q < n1
        · obtain ⟨b2, o2, ⟨xn, xk⟩, rfl, hx, x0, x1⟩ := Cm.at (HC5.out.keep (keeps_of HBx.out)) hqn
          dsimp only at x0 x1
          have hgx := HGT.out.cn _ (List.mem_of_getElem? hx)
          have hnew := take_new (f := fun x : Cm => nmL x.nm) HGT.out.cd hx
          have HT := Lib.hid (take_step (f := fun x : Cm => nmL x.nm) hx)
          have HN := Lib.hid hgx.1
          have HK : Hid (xk = 3 ∨ xk = 4 ∨ xk = 5) := Lib.hid (by have := hgx.2; unfold kindB at this; simpa using this)
          have HY := Lib.hid (Blk.new wr 56 #[.string xn, .int .i64 xk])
          have HBy := Lib.hid (HBx.out.alloc HBx.out.size (.cells #[.string xn, .int .i64 xk] 56))
          have zy := HY.out.cell
          clear hx hgx
          go_wp2_with fail
          refine (isname_any xn _ HN.out).mono ?_
          rintro e w8 ⟨rfl, hb8⟩
          have hmlt : w5.heap.size < wr.heap.size := HMx.out.lt
          have HY8 := Lib.hid (HY.out.below hb8)
          have HM8 : Hid (SetB w8 w5.heap.size q ((T.cols.take q).map fun x => nmL x.nm)) := Lib.hid (HMx.out.block ((hb8.block _ (by simp; omega)).trans (Below.heap_alloc wr _ _ hmlt)))
          have HB8 := Lib.hid (Below.next HBy.out hb8)
          have hlook := look_new HM8.out HN.out hnew
          have zy8 := HY8.out.cell
          clear zy hb8 HY HBy HMx HBx x0 x1
          go_upto_region 15 with (at_mapUpdate; refine wpList_store_new (P := Tryz.prog) (K := 9) (E := 4) (by rfl) _ _ _ (by rfl) (Maps.string_keyed Tryz.underlying9) Tryz.underlying9 Tryz.underlying164 Tryz.underlying4 w5.heap.size q _ (by rfl) HM8.out (by simp only [maxLen]; omega) xn (by rfl) (by rfl) (name_max HN.out) ?_; intro w9 hs9 hg9)
          have zy9 := (HY8.out.grown hg9 (by intro e; injection e with e; omega)).cell
          have HM9 : Hid (SetB w9 w5.heap.size (q + 1) ((T.cols.take (q + 1)).map fun x => nmL x.nm)) := Lib.hid (by rw [HT.out]; exact hs9)
          have HB9 := Lib.hid (HB8.out.grown hg9 HB8.out.size (fun q hq => by injection hq with hq; omega))
          clear hlook zy8 HY8 HM8 HB8 hs9 hg9 hnew HT
          rcases HK.out with rfl | rfl | rfl
          all_goals
            go_wp2
            go_roundw
            case rel => exact ⟨q + 1, by omega, by go_num, HM9, HB9⟩
            case measure => simp [intOf]; omega
        · obtain rfl : q = n1 := by omega
          have HM7 : Hid (SetB wr (w.heap.size + 1) (k + 1) ((tbs.take (k + 1)).map fun T => nmL T.nm)) := Lib.hid (HM5.out.block (HBx.out.block _ HM5.out.lt))
          have HB7 : Hid (Below w1.heap.size w1 wr) := Lib.hid (HB5.out.trans (HBx.out.mono (by omega)))
          go_wp2
          go_roundw
          case rel => exact ⟨k + 1, by omega, by go_num, HM7, HB7⟩
          case measure => simp [intOf]; omega
    · obtain rfl : k = n := by omega
      have HE := Lib.hid (HB.out.trans (HBr.out.mono (by omega)))
      go_wp2
      go_ret
      exact ⟨rfl, HE.out⟩
end Go.Proofs.YtponkkljlbifmaaGreat
