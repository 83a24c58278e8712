/-
  Texts: PdV, PdA.
-/
import Derived.Test.YtponkkljlbifmaaGreatH17
import Derived.Test.YtponkkljlbifmaaGreatH14
set_option linter.unusedVariables false
/-
  The program's valid of a predicate.
-/
namespace Go.Proofs.YtponkkljlbifmaaGreat
open Go.RowKit
set_option maxRecDepth 100000
open Pd

theorem headOk_cmp {cols ps : List Int} {h : Nd} {n : Nat} (ho : h.op = 3) : headOk cols ps h n = decide (n = 0 ∧ (1 ≤ h.cm ∧ h.cm ≤ 6) ∧ kindOf cols ps h.l ≠ 0 ∧ kindOf cols ps h.l = kindOf cols ps h.r) := by unfold headOk; rw [if_pos ho]
theorem headOk_tf {cols ps : List Int} {h : Nd} {n : Nat} (ho : h.op = 1 ∨ h.op = 2) : headOk cols ps h n = (decide (n = 0) && plainH h) := by unfold headOk; rw [if_neg (by omega), if_pos ho]
theorem headOk_not {cols ps : List Int} {h : Nd} {n : Nat} (ho : h.op = 6) : headOk cols ps h n = (decide (n = 1) && plainH h) := by unfold headOk; rw [if_neg (by omega), if_neg (by omega), if_pos ho]
theorem headOk_ao {cols ps : List Int} {h : Nd} {n : Nat} (ho : h.op = 4 ∨ h.op = 5) : headOk cols ps h n = plainH h := by unfold headOk; rw [if_neg (by omega), if_neg (by omega), if_neg (by omega), if_pos ho]
theorem headOk_none {cols ps : List Int} {h : Nd} {n : Nat} (h1 : h.op ≠ 1) (h2 : h.op ≠ 2) (h3 : h.op ≠ 3) (h4 : h.op ≠ 4) (h5 : h.op ≠ 5) (h6 : h.op ≠ 6) : headOk cols ps h n = false := by unfold headOk; rw [if_neg h3, if_neg (by omega), if_neg h6, if_neg (by omega)]
theorem validA_len0 {cols ps : List Int} {p : Pd} (h : p.len = 0) : validA cols ps p = true := by
  cases p with
  | nil _ => rfl
  | cons a t => simp [Pd.len] at h
set_option maxHeartbeats 8000000 in
theorem pvalid_any (cols ps : List Int) : ∀ (N : Nat) (p : Pd) (A : Option Addr) (n c : Nat) (Ac : Option Addr) (nc cc : Nat) (Ap : Option Addr) (np cp : Nat) (w : World), p.nodes ≤ N → N ≤ 1000 → PrdS w A n c p → ClS w Ac nc cols → ClS w Ap np ps →
    Calls Tryz.prog 139 #[.agg #[.slice Ac nc cc, .slice Ap np cp], .agg (pdV p.h A n c)] w fun e w' => e = .returned (.bool (validB cols ps p)) ∧ Below w.heap.size w w' := by
  intro N
  induction N with
  | zero => intro p A n c Ac nc cc Ap np cp w hN; have := nodes_pos p; omega
  | succ N ih =>
    intro p A n c Ac nc cc Ap np cp w hN hN2 hs hc hp
    have IH := Lib.hid ih
    have HN : Hid (p.nodes ≤ N + 1 ∧ N + 1 ≤ 1000) := Lib.hid ⟨hN, hN2⟩
    have hlen := hs.len
    have hn1 : n ≤ 1000 := by have := len_lt p; omega
    obtain ⟨rr, Hrr⟩ : ∃ z, Hid (validB cols ps p = z) := ⟨_, rfl⟩
    rw [Hrr.out]
    obtain ⟨hd, Hhd⟩ : ∃ z, Hid (p.h = z) := ⟨_, rfl⟩
    have Hs : Hid ((headOk cols ps hd n && validA cols ps (p.rest 0)) = rr) := Lib.hid (by rw [rest_zero, hlen, ← Hhd.out]; exact Hrr.out)
    rw [Hhd.out]
    have Hlen := Lib.hid hlen
    clear ih hN hN2 Hrr hlen Hhd
    obtain ⟨op, cm, ⟨lk, lx, ⟨vk, vi, vt⟩⟩, ⟨rk, rx, ⟨uk, ui, ut⟩⟩⟩ := hd
    unfold pdV
    have HS := Lib.hid ((hs.keep (keeps_alloc w (.cells #[.slice Ac nc cc, .slice Ap np cp] 168))).keep (keeps_alloc _ (.cells #[.int .i64 op, .int .i64 cm, .int .i64 lk, .int .i64 lx, .int .i64 vk, .int .i64 vi, .string vt, .int .i64 rk, .int .i64 rx, .int .i64 uk, .int .i64 ui, .string ut, .slice A n c] 71)))
    have HC := Lib.hid ((hc.keep (keeps_alloc w (.cells #[.slice Ac nc cc, .slice Ap np cp] 168))).keep (keeps_alloc _ (.cells #[.int .i64 op, .int .i64 cm, .int .i64 lk, .int .i64 lx, .int .i64 vk, .int .i64 vi, .string vt, .int .i64 rk, .int .i64 rx, .int .i64 uk, .int .i64 ui, .string ut, .slice A n c] 71)))
    have HP := Lib.hid ((hp.keep (keeps_alloc w (.cells #[.slice Ac nc cc, .slice Ap np cp] 168))).keep (keeps_alloc _ (.cells #[.int .i64 op, .int .i64 cm, .int .i64 lk, .int .i64 lx, .int .i64 vk, .int .i64 vi, .string vt, .int .i64 rk, .int .i64 rx, .int .i64 uk, .int .i64 ui, .string ut, .slice A n c] 71)))
    have HK := Lib.hid ((Blk.new w 168 #[.slice Ac nc cc, .slice Ap np cp]).alloc (.cells #[.int .i64 op, .int .i64 cm, .int .i64 lk, .int .i64 lx, .int .i64 vk, .int .i64 vi, .string vt, .int .i64 rk, .int .i64 rx, .int .i64 uk, .int .i64 ui, .string ut, .slice A n c] 71))
    have HX := Lib.hid (Blk.new (w.alloc (.cells #[.slice Ac nc cc, .slice Ap np cp] 168)) 71 #[.int .i64 op, .int .i64 cm, .int .i64 lk, .int .i64 lx, .int .i64 vk, .int .i64 vi, .string vt, .int .i64 rk, .int .i64 rx, .int .i64 uk, .int .i64 ui, .string ut, .slice A n c])
    rw [show (w.alloc (.cells #[.slice Ac nc cc, .slice Ap np cp] 168)).heap.size = w.heap.size + 1 by simp] at HX
    have HB0 := (Below.refl w.heap.size w).alloc (Nat.le_refl _) (.cells #[.slice Ac nc cc, .slice Ap np cp] 168)
    have HB := Lib.hid (HB0.alloc HB0.size (.cells #[.int .i64 op, .int .i64 cm, .int .i64 lk, .int .i64 lx, .int .i64 vk, .int .i64 vi, .string vt, .int .i64 rk, .int .i64 rx, .int .i64 uk, .int .i64 ui, .string ut, .slice A n c] 71))
    clear HB0 hs hc hp
    go_enter Tryz.func139, Tryz.ntmps139
    go_upto_region 1 with fail
    generalize hW : (w.alloc (.cells #[.slice Ac nc cc, .slice Ap np cp] 168)).alloc (.cells #[.int .i64 op, .int .i64 cm, .int .i64 lk, .int .i64 lx, .int .i64 vk, .int .i64 vi, .string vt, .int .i64 rk, .int .i64 rx, .int .i64 uk, .int .i64 ui, .string ut, .slice A n c] 71) = w1 at *
    clear hW
    obtain ⟨X, HXe⟩ : ∃ z, Hid (w.heap.size + 1 = z) := ⟨_, rfl⟩
    rw [HXe.out] at HX
    rw [HXe.out]
    clear HXe
    have zx := HX.out.cell
    have zk := HK.out.cell
    by_cases h3 : op = 3
    · subst h3
      rw [headOk_cmp rfl] at Hs
      go_upto_region 4 with fail
      have hca := @cell_after w1.drew
      refine wp_region_seg [([0, 1, 2, 4, 5, 6], 3), ([], 7)] [8, 9] (by kernel_rfl) (by kernel_rfl) (fun _ _ d _ _ h => by cases d <;> exact h) ?_
      simp only [pickSegs, pickOps, opAt, List.map_cons, List.map_nil, List.getElem?_toArray, List.getElem?_cons_zero, List.getElem?_cons_succ, Option.getD_some]
      unfold wpBlocks
      repeat (go_big_quiet_step (fail))
      refine wpQuiet_nil ?_
      clear hca
      go_wp2_with fail
      refine (kof_any cols ps ⟨lk, lx, ⟨vk, vi, vt⟩⟩ Ac nc cc Ap np cp _ (HC.out.keep (keeps_of (Below.refl _ _).drew)) (HP.out.keep (keeps_of (Below.refl _ _).drew))).mono ?_
      rintro e w2 ⟨rfl, hb2⟩
      go_wp2_with fail
      refine ⟨hb2, ?_⟩
      have HB2 := Lib.hid (Below.next HB.out.drew hb2)
      have HX2 := Lib.hid (HX.out.drew.below hb2)
      replace HC := Lib.hid ((HC.out.keep (keeps_of (Below.refl _ _).drew)).keep (keeps_of hb2))
      replace HP := Lib.hid ((HP.out.keep (keeps_of (Below.refl _ _).drew)).keep (keeps_of hb2))
      clear HB HX HK HS hb2 zx zk
      obtain ⟨k1, Hk1⟩ : ∃ z, Hid (kindOf cols ps ⟨lk, lx, ⟨vk, vi, vt⟩⟩ = z) := ⟨_, rfl⟩
      obtain ⟨k2, Hk2⟩ : ∃ z, Hid (kindOf cols ps ⟨rk, rx, ⟨uk, ui, ut⟩⟩ = z) := ⟨_, rfl⟩
      rw [Hk1.out] at Hs ⊢
      rw [Hk2.out] at Hs
      unfold wpBlocks
      refine wpQuiet_nil ?_
      go_wp2_with fail
      refine (kof_any cols ps ⟨rk, rx, ⟨uk, ui, ut⟩⟩ Ac nc cc Ap np cp _ HC.out HP.out).mono ?_
      rintro e w3 ⟨rfl, hb3⟩
      go_wp2_with fail
      refine ⟨hb3, ?_⟩
      have HB3 := Lib.hid (Below.next HB2.out hb3)
      have HX3 := Lib.hid (HX2.out.below hb3)
      clear HB2 HX2 hb3
      rw [Hk2.out]
      clear Hk1 Hk2
      unfold wpBlocks
      repeat (go_big_quiet_step (fail))
      refine wpQuiet_nil ?_
      go_upto_region 5 with fail
      have zx := HX3.out.cell
      by_cases a1 : n = 0
      · subst a1
        rw [validA_len0 (by rw [rest_zero]; exact Hlen.out.symm), Bool.and_true] at Hs
        by_cases a2 : 1 ≤ cm
        · have g2 : decide (1 ≤ cm) = true := decide_eq_true a2
          by_cases a3 : cm ≤ 6
          · have g3 : decide (cm ≤ 6) = true := decide_eq_true a3
            by_cases a4 : k1 = 0
            · have g4 : (k1 != 0) = false := by simpa using a4
              obtain rfl : false = rr := by rw [← Hs.out, decide_eq_false (fun h => h.2.2.1 a4)]
              clear Hs a2 a3 a4
              go_wp2
              go_ret
              exact ⟨rfl, HB3.out⟩
            · have g4 : (k1 != 0) = true := by simpa using a4
              by_cases a5 : k1 = k2
              · have g5 : (k1 == k2) = true := by simpa using a5
                obtain rfl : true = rr := by rw [← Hs.out, decide_eq_true ⟨rfl, ⟨a2, a3⟩, a4, a5⟩]
                clear Hs a2 a3 a4 a5
                go_wp2
                go_ret
                exact ⟨rfl, HB3.out⟩
              · have g5 : (k1 == k2) = false := by simpa using a5
                obtain rfl : false = rr := by rw [← Hs.out, decide_eq_false (fun h => a5 h.2.2.2)]
                clear Hs a2 a3 a4 a5
                go_wp2
                go_ret
                exact ⟨rfl, HB3.out⟩
          · have g3 : decide (cm ≤ 6) = false := decide_eq_false a3
            obtain rfl : false = rr := by rw [← Hs.out, decide_eq_false (fun h => a3 h.2.1.2)]
            clear Hs a2 a3
            go_wp2
            go_ret
            exact ⟨rfl, HB3.out⟩
        · have g2 : decide (1 ≤ cm) = false := decide_eq_false a2
          obtain rfl : false = rr := by rw [← Hs.out, decide_eq_false (fun h => a2 h.2.1.1)]
          clear Hs a2
          go_wp2
          go_ret
          exact ⟨rfl, HB3.out⟩
      · have g1 : ((n : Int) == 0) = false := by simp; omega
        obtain rfl : false = rr := by rw [← Hs.out, decide_eq_false (fun h => a1 h.1)]; rfl
        clear Hs a1
        go_wp2
        go_ret
        exact ⟨rfl, HB3.out⟩
    by_cases hop : op = 1 ∨ op = 2 ∨ op = 4 ∨ op = 5 ∨ op = 6
    · by_cases hbad : ((op = 1 ∨ op = 2) ∧ n ≠ 0) ∨ (op = 6 ∧ n ≠ 1)
      · obtain rfl : false = rr := by
          rw [← Hs.out]
          rcases hbad with ⟨h1, h2⟩ | ⟨h1, h2⟩
          · rw [headOk_tf h1, decide_eq_false h2]; rfl
          · rw [headOk_not h1, decide_eq_false h2]; rfl
        clear Hs hop h3
        rcases hbad with ⟨rfl | rfl, h2⟩ | ⟨rfl, h2⟩
        all_goals
          go_wp2
          go_ret
          exact ⟨rfl, HB.out⟩
      · have Hs2 : Hid ((plainH ⟨op, cm, ⟨lk, lx, ⟨vk, vi, vt⟩⟩, ⟨rk, rx, ⟨uk, ui, ut⟩⟩⟩ && validA cols ps (p.rest 0)) = rr) := Lib.hid (by
          rw [← Hs.out]
          rcases hop with h | h | h | h | h
          · rw [headOk_tf (.inl h), decide_eq_true (show n = 0 by omega)]; rfl
          · rw [headOk_tf (.inr h), decide_eq_true (show n = 0 by omega)]; rfl
          · rw [headOk_ao (.inl h)]
          · rw [headOk_ao (.inr h)]
          · rw [headOk_not h, decide_eq_true (show n = 1 by omega)]; rfl)
        have Hnn : Hid (((op = 1 ∨ op = 2) → n = 0) ∧ (op = 6 → n = 1)) := Lib.hid ⟨fun h => by omega, fun h => by omega⟩
        clear Hs h3 hbad
        have hev1 := run_neqO lk lx vk vi vt 0 0 0 0 ⟨#[]⟩
        have hev2 := run_neqO rk rx uk ui ut 0 0 0 0 ⟨#[]⟩
        obtain ⟨q1, Hq1⟩ : ∃ z, Hid (decide ((⟨lk, lx, ⟨vk, vi, vt⟩⟩ : Od) ≠ ⟨0, 0, ⟨0, 0, ⟨#[]⟩⟩⟩) = z) := ⟨_, rfl⟩
        obtain ⟨q2, Hq2⟩ : ∃ z, Hid (decide ((⟨rk, rx, ⟨uk, ui, ut⟩⟩ : Od) ≠ ⟨0, 0, ⟨0, 0, ⟨#[]⟩⟩⟩) = z) := ⟨_, rfl⟩
        have Hpl : Hid (plainH ⟨op, cm, ⟨lk, lx, ⟨vk, vi, vt⟩⟩, ⟨rk, rx, ⟨uk, ui, ut⟩⟩⟩ = (decide (cm = 0) && (!q1 && !q2))) := Lib.hid (by
          rw [← Hq1.out, ← Hq2.out, Bool.eq_iff_iff]
          simp [plainH, zeroOd, zeroV])
        rw [Hq1.out] at hev1
        rw [Hq2.out] at hev2
        rw [Hpl.out] at Hs2
        clear Hpl Hq1 Hq2
        have upto : (decide (cm = 0) && (!q1 && !q2)) = true ∨ (rr = false ∧ ((cm ≠ 0) ∨ (cm = 0 ∧ q1 = true) ∨ (cm = 0 ∧ q1 = false ∧ q2 = true))) := by
          by_cases h : cm = 0
          · cases q1 <;> cases q2 <;> simp [h] at Hs2 ⊢ <;> first | exact Hs2.out | exact Hs2.out.symm
          · have := Hs2.out
            rw [decide_eq_false h] at this
            exact .inr ⟨this.symm, .inl h⟩
        rcases upto with hpl | ⟨rfl, hno⟩
        rotate_left
        · clear Hs2
          rcases hno with h | ⟨rfl, rfl⟩ | ⟨rfl, rfl, rfl⟩
          · have gc : (cm != 0) = true := by simpa using h
            clear h
            rcases hop with rfl | rfl | rfl | rfl | rfl
            · obtain rfl := Hnn.out.1 (.inl rfl)
              go_wp2
              go_ret
              exact ⟨rfl, HB.out⟩
            · obtain rfl := Hnn.out.1 (.inr rfl)
              go_wp2
              go_ret
              exact ⟨rfl, HB.out⟩
            · go_wp2
              go_ret
              exact ⟨rfl, HB.out⟩
            · go_wp2
              go_ret
              exact ⟨rfl, HB.out⟩
            · obtain rfl := Hnn.out.2 rfl
              go_wp2
              go_ret
              exact ⟨rfl, HB.out⟩
          all_goals
            rcases hop with rfl | rfl | rfl | rfl | rfl
            · obtain rfl := Hnn.out.1 (.inl rfl)
              go_wp2
              go_ret
              exact ⟨rfl, HB.out⟩
            · obtain rfl := Hnn.out.1 (.inr rfl)
              go_wp2
              go_ret
              exact ⟨rfl, HB.out⟩
            · go_wp2
              go_ret
              exact ⟨rfl, HB.out⟩
            · go_wp2
              go_ret
              exact ⟨rfl, HB.out⟩
            · obtain rfl := Hnn.out.2 rfl
              go_wp2
              go_ret
              exact ⟨rfl, HB.out⟩
        rw [hpl, Bool.true_and] at Hs2
        obtain ⟨rfl, rfl, rfl⟩ : cm = 0 ∧ q1 = false ∧ q2 = false := by simpa using hpl
        clear hpl
        have Hfin : Hid (p.nodes ≤ N + 1 ∧ N + 1 ≤ 1000) := HN
        rcases hop with rfl | rfl | rfl | rfl | rfl
        · obtain rfl := Hnn.out.1 (.inl rfl)
          obtain rfl : true = rr := by rw [← Hs2.out, validA_len0 (by rw [rest_zero]; exact Hlen.out.symm)]
          go_wp2_with fail
          go_loop [78] (fun i => i = .int .i64 0) (fun _ => 0)
          case atStart => exact rfl
          case round =>
            obtain rfl := hrel
            go_wp2
            go_ret
            exact ⟨rfl, HB.out⟩
        · obtain rfl := Hnn.out.1 (.inr rfl)
          obtain rfl : true = rr := by rw [← Hs2.out, validA_len0 (by rw [rest_zero]; exact Hlen.out.symm)]
          go_wp2_with fail
          go_loop [78] (fun i => i = .int .i64 0) (fun _ => 0)
          case atStart => exact rfl
          case round =>
            obtain rfl := hrel
            go_wp2
            go_ret
            exact ⟨rfl, HB.out⟩
        · clear Hnn
          go_wp2_with fail
          clear hev1 hev2
          go_loopw [78] (fun i wr => ∃ k : Nat, k ≤ n ∧ i = .int .i64 (k : Int) ∧ Hid (validA cols ps (p.rest k) = rr) ∧ Hid (Below w1.heap.size w1 wr)) (fun i _ => n - (intOf i).toNat)
          case atStart => exact ⟨0, by omega, rfl, Hs2, Lib.hid (Below.refl _ _)⟩
          case round =>
            obtain ⟨k, hk, rfl, Hq, HM⟩ := hrel
            clear zx zk
            by_cases hlt : k < n
            · have HSk := Lib.hid (HS.out.keep (keeps_of HM.out))
              obtain ⟨b', o', q, A1, n1, c1, rfl, hq, d⟩ := HSk.out.at hlt
              have HSq := Lib.hid (d.s.keep (keeps_alloc wr (.cells #[.int .i64 q.h.op, .int .i64 q.h.cm, .int .i64 q.h.l.k, .int .i64 q.h.l.ix, .int .i64 q.h.l.v.k, .int .i64 q.h.l.v.i, .string q.h.l.v.t, .int .i64 q.h.r.k, .int .i64 q.h.r.ix, .int .i64 q.h.r.v.k, .int .i64 q.h.r.v.i, .string q.h.r.v.t, .slice A1 n1 c1] 71)))
              obtain ⟨d0, d1, d2, d3, d4, d5, d6, d7, d8, d9, d10, d11, d12, ds⟩ := d
              have Hqn := Lib.hid (at_nodes hq)
              have Hst := Lib.hid (val_rest hq cols ps)
              have HMa := Lib.hid (HM.out.alloc HM.out.size (.cells #[.int .i64 q.h.op, .int .i64 q.h.cm, .int .i64 q.h.l.k, .int .i64 q.h.l.ix, .int .i64 q.h.l.v.k, .int .i64 q.h.l.v.i, .string q.h.l.v.t, .int .i64 q.h.r.k, .int .i64 q.h.r.ix, .int .i64 q.h.r.v.k, .int .i64 q.h.r.v.i, .string q.h.r.v.t, .slice A1 n1 c1] 71))
              have HY := Lib.hid (Blk.new wr 71 #[.int .i64 q.h.op, .int .i64 q.h.cm, .int .i64 q.h.l.k, .int .i64 q.h.l.ix, .int .i64 q.h.l.v.k, .int .i64 q.h.l.v.i, .string q.h.l.v.t, .int .i64 q.h.r.k, .int .i64 q.h.r.ix, .int .i64 q.h.r.v.k, .int .i64 q.h.r.v.i, .string q.h.r.v.t, .slice A1 n1 c1])
              clear ds hq
              obtain ⟨Y, HYe⟩ : ∃ z, Hid (wr.heap.size = z) := ⟨_, rfl⟩
              rw [HYe.out] at HY
              go_upto_region 20 with fail
              rw [HYe.out]
              generalize hW3 : wr.alloc (.cells #[.int .i64 q.h.op, .int .i64 q.h.cm, .int .i64 q.h.l.k, .int .i64 q.h.l.ix, .int .i64 q.h.l.v.k, .int .i64 q.h.l.v.i, .string q.h.l.v.t, .int .i64 q.h.r.k, .int .i64 q.h.r.ix, .int .i64 q.h.r.v.k, .int .i64 q.h.r.v.i, .string q.h.r.v.t, .slice A1 n1 c1] 71) = w3 at *
              clear hW3 HYe d0 d1 d2 d3 d4 d5 d6 d7 d8 d9 d10 d11 d12 HSk
              have zy := HY.out.cell
              have zk := (HK.out.below HMa.out).cell
              have HC3 := Lib.hid (HC.out.keep (keeps_of HMa.out))
              have HP3 := Lib.hid (HP.out.keep (keeps_of HMa.out))
              go_wp2_with fail
              refine (IH.out q A1 n1 c1 Ac nc cc Ap np cp _ (by have := Hqn.out; have := HN.out; omega) (by have := HN.out; omega) HSq.out HC3.out HP3.out).mono ?_
              rintro e w4 ⟨rfl, hb4⟩
              have HM4 := Lib.hid (Below.next HMa.out hb4)
              clear hb4 zy zk
              obtain ⟨oq, Hoq⟩ : ∃ z, Hid (validB cols ps q = z) := ⟨_, rfl⟩
              rw [Hoq.out] at Hst ⊢
              cases oq
              · obtain rfl : false = rr := by rw [← Hq.out, Hst.out]; rfl
                go_wp2
                go_ret
                exact ⟨rfl, Below.next HB.out HM4.out⟩
              · have Hn : Hid (validA cols ps (p.rest (k + 1)) = rr) := Lib.hid (by rw [← Hq.out, Hst.out]; rfl)
                go_wp2
                go_roundw
                case rel => exact ⟨k + 1, by omega, by go_num, Hn, HM4⟩
                case measure => simp [intOf]; omega
            · obtain rfl : true = rr := by
                rw [← Hq.out, rest_end (by rw [← Hlen.out]; omega)]
                rfl
              clear Hq
              go_wp2
              go_ret
              exact ⟨rfl, Below.next HB.out HM.out⟩
        · clear Hnn
          go_wp2_with fail
          clear hev1 hev2
          go_loopw [78] (fun i wr => ∃ k : Nat, k ≤ n ∧ i = .int .i64 (k : Int) ∧ Hid (validA cols ps (p.rest k) = rr) ∧ Hid (Below w1.heap.size w1 wr)) (fun i _ => n - (intOf i).toNat)
          case atStart => exact ⟨0, by omega, rfl, Hs2, Lib.hid (Below.refl _ _)⟩
          case round =>
            obtain ⟨k, hk, rfl, Hq, HM⟩ := hrel
            clear zx zk
            by_cases hlt : k < n
            · have HSk := Lib.hid (HS.out.keep (keeps_of HM.out))
              obtain ⟨b', o', q, A1, n1, c1, rfl, hq, d⟩ := HSk.out.at hlt
              have HSq := Lib.hid (d.s.keep (keeps_alloc wr (.cells #[.int .i64 q.h.op, .int .i64 q.h.cm, .int .i64 q.h.l.k, .int .i64 q.h.l.ix, .int .i64 q.h.l.v.k, .int .i64 q.h.l.v.i, .string q.h.l.v.t, .int .i64 q.h.r.k, .int .i64 q.h.r.ix, .int .i64 q.h.r.v.k, .int .i64 q.h.r.v.i, .string q.h.r.v.t, .slice A1 n1 c1] 71)))
              obtain ⟨d0, d1, d2, d3, d4, d5, d6, d7, d8, d9, d10, d11, d12, ds⟩ := d
              have Hqn := Lib.hid (at_nodes hq)
              have Hst := Lib.hid (val_rest hq cols ps)
              have HMa := Lib.hid (HM.out.alloc HM.out.size (.cells #[.int .i64 q.h.op, .int .i64 q.h.cm, .int .i64 q.h.l.k, .int .i64 q.h.l.ix, .int .i64 q.h.l.v.k, .int .i64 q.h.l.v.i, .string q.h.l.v.t, .int .i64 q.h.r.k, .int .i64 q.h.r.ix, .int .i64 q.h.r.v.k, .int .i64 q.h.r.v.i, .string q.h.r.v.t, .slice A1 n1 c1] 71))
              have HY := Lib.hid (Blk.new wr 71 #[.int .i64 q.h.op, .int .i64 q.h.cm, .int .i64 q.h.l.k, .int .i64 q.h.l.ix, .int .i64 q.h.l.v.k, .int .i64 q.h.l.v.i, .string q.h.l.v.t, .int .i64 q.h.r.k, .int .i64 q.h.r.ix, .int .i64 q.h.r.v.k, .int .i64 q.h.r.v.i, .string q.h.r.v.t, .slice A1 n1 c1])
              clear ds hq
              obtain ⟨Y, HYe⟩ : ∃ z, Hid (wr.heap.size = z) := ⟨_, rfl⟩
              rw [HYe.out] at HY
              go_upto_region 20 with fail
              rw [HYe.out]
              generalize hW3 : wr.alloc (.cells #[.int .i64 q.h.op, .int .i64 q.h.cm, .int .i64 q.h.l.k, .int .i64 q.h.l.ix, .int .i64 q.h.l.v.k, .int .i64 q.h.l.v.i, .string q.h.l.v.t, .int .i64 q.h.r.k, .int .i64 q.h.r.ix, .int .i64 q.h.r.v.k, .int .i64 q.h.r.v.i, .string q.h.r.v.t, .slice A1 n1 c1] 71) = w3 at *
              clear hW3 HYe d0 d1 d2 d3 d4 d5 d6 d7 d8 d9 d10 d11 d12 HSk
              have zy := HY.out.cell
              have zk := (HK.out.below HMa.out).cell
              have HC3 := Lib.hid (HC.out.keep (keeps_of HMa.out))
              have HP3 := Lib.hid (HP.out.keep (keeps_of HMa.out))
              go_wp2_with fail
              refine (IH.out q A1 n1 c1 Ac nc cc Ap np cp _ (by have := Hqn.out; have := HN.out; omega) (by have := HN.out; omega) HSq.out HC3.out HP3.out).mono ?_
              rintro e w4 ⟨rfl, hb4⟩
              have HM4 := Lib.hid (Below.next HMa.out hb4)
              clear hb4 zy zk
              obtain ⟨oq, Hoq⟩ : ∃ z, Hid (validB cols ps q = z) := ⟨_, rfl⟩
              rw [Hoq.out] at Hst ⊢
              cases oq
              · obtain rfl : false = rr := by rw [← Hq.out, Hst.out]; rfl
                go_wp2
                go_ret
                exact ⟨rfl, Below.next HB.out HM4.out⟩
              · have Hn : Hid (validA cols ps (p.rest (k + 1)) = rr) := Lib.hid (by rw [← Hq.out, Hst.out]; rfl)
                go_wp2
                go_roundw
                case rel => exact ⟨k + 1, by omega, by go_num, Hn, HM4⟩
                case measure => simp [intOf]; omega
            · obtain rfl : true = rr := by
                rw [← Hq.out, rest_end (by rw [← Hlen.out]; omega)]
                rfl
              clear Hq
              go_wp2
              go_ret
              exact ⟨rfl, Below.next HB.out HM.out⟩
        · obtain rfl := Hnn.out.2 rfl
          clear Hnn
          go_wp2_with fail
          clear hev1 hev2
          go_loopw [78] (fun i wr => ∃ k : Nat, k ≤ 1 ∧ i = .int .i64 (k : Int) ∧ Hid (validA cols ps (p.rest k) = rr) ∧ Hid (Below w1.heap.size w1 wr)) (fun i _ => 1 - (intOf i).toNat)
          case atStart => exact ⟨0, by omega, rfl, Hs2, Lib.hid (Below.refl _ _)⟩
          case round =>
            obtain ⟨k, hk, rfl, Hq, HM⟩ := hrel
            clear zx zk
            by_cases hlt : k < 1
            · have HSk := Lib.hid (HS.out.keep (keeps_of HM.out))
              obtain ⟨b', o', q, A1, n1, c1, rfl, hq, d⟩ := HSk.out.at hlt
              have HSq := Lib.hid (d.s.keep (keeps_alloc wr (.cells #[.int .i64 q.h.op, .int .i64 q.h.cm, .int .i64 q.h.l.k, .int .i64 q.h.l.ix, .int .i64 q.h.l.v.k, .int .i64 q.h.l.v.i, .string q.h.l.v.t, .int .i64 q.h.r.k, .int .i64 q.h.r.ix, .int .i64 q.h.r.v.k, .int .i64 q.h.r.v.i, .string q.h.r.v.t, .slice A1 n1 c1] 71)))
              obtain ⟨d0, d1, d2, d3, d4, d5, d6, d7, d8, d9, d10, d11, d12, ds⟩ := d
              have Hqn := Lib.hid (at_nodes hq)
              have Hst := Lib.hid (val_rest hq cols ps)
              have HMa := Lib.hid (HM.out.alloc HM.out.size (.cells #[.int .i64 q.h.op, .int .i64 q.h.cm, .int .i64 q.h.l.k, .int .i64 q.h.l.ix, .int .i64 q.h.l.v.k, .int .i64 q.h.l.v.i, .string q.h.l.v.t, .int .i64 q.h.r.k, .int .i64 q.h.r.ix, .int .i64 q.h.r.v.k, .int .i64 q.h.r.v.i, .string q.h.r.v.t, .slice A1 n1 c1] 71))
              have HY := Lib.hid (Blk.new wr 71 #[.int .i64 q.h.op, .int .i64 q.h.cm, .int .i64 q.h.l.k, .int .i64 q.h.l.ix, .int .i64 q.h.l.v.k, .int .i64 q.h.l.v.i, .string q.h.l.v.t, .int .i64 q.h.r.k, .int .i64 q.h.r.ix, .int .i64 q.h.r.v.k, .int .i64 q.h.r.v.i, .string q.h.r.v.t, .slice A1 n1 c1])
              clear ds hq
              obtain ⟨Y, HYe⟩ : ∃ z, Hid (wr.heap.size = z) := ⟨_, rfl⟩
              rw [HYe.out] at HY
              go_upto_region 20 with fail
              rw [HYe.out]
              generalize hW3 : wr.alloc (.cells #[.int .i64 q.h.op, .int .i64 q.h.cm, .int .i64 q.h.l.k, .int .i64 q.h.l.ix, .int .i64 q.h.l.v.k, .int .i64 q.h.l.v.i, .string q.h.l.v.t, .int .i64 q.h.r.k, .int .i64 q.h.r.ix, .int .i64 q.h.r.v.k, .int .i64 q.h.r.v.i, .string q.h.r.v.t, .slice A1 n1 c1] 71) = w3 at *
              clear hW3 HYe d0 d1 d2 d3 d4 d5 d6 d7 d8 d9 d10 d11 d12 HSk
              have zy := HY.out.cell
              have zk := (HK.out.below HMa.out).cell
              have HC3 := Lib.hid (HC.out.keep (keeps_of HMa.out))
              have HP3 := Lib.hid (HP.out.keep (keeps_of HMa.out))
              go_wp2_with fail
              refine (IH.out q A1 n1 c1 Ac nc cc Ap np cp _ (by have := Hqn.out; have := HN.out; omega) (by have := HN.out; omega) HSq.out HC3.out HP3.out).mono ?_
              rintro e w4 ⟨rfl, hb4⟩
              have HM4 := Lib.hid (Below.next HMa.out hb4)
              clear hb4 zy zk
              obtain ⟨oq, Hoq⟩ : ∃ z, Hid (validB cols ps q = z) := ⟨_, rfl⟩
              rw [Hoq.out] at Hst ⊢
              cases oq
              · obtain rfl : false = rr := by rw [← Hq.out, Hst.out]; rfl
                go_wp2
                go_ret
                exact ⟨rfl, Below.next HB.out HM4.out⟩
              · have Hn : Hid (validA cols ps (p.rest (k + 1)) = rr) := Lib.hid (by rw [← Hq.out, Hst.out]; rfl)
                go_wp2
                go_roundw
                case rel => exact ⟨k + 1, by omega, by go_num, Hn, HM4⟩
                case measure => simp [intOf]; omega
            · obtain rfl : true = rr := by
                rw [← Hq.out, rest_end (by rw [← Hlen.out]; omega)]
                rfl
              clear Hq
              go_wp2
              go_ret
              exact ⟨rfl, Below.next HB.out HM.out⟩
    · have g1 : (op == 1) = false := by simp; omega
      have g2 : (op == 2) = false := by simp; omega
      have g3 : (op == 3) = false := by simpa using h3
      have g4 : (op == 4) = false := by simp; omega
      have g5 : (op == 5) = false := by simp; omega
      have g6 : (op == 6) = false := by simp; omega
      obtain rfl : false = rr := by rw [← Hs.out, headOk_none (by simp only; omega) (by simp only; omega) (by simp only; omega) (by simp only; omega) (by simp only; omega) (by simp only; omega)]; rfl
      clear Hs hop h3
      go_wp2
      go_ret
      exact ⟨rfl, HB.out⟩
end Go.Proofs.YtponkkljlbifmaaGreat

/-
  The program's columnKinds and small.
-/
namespace Go.Proofs.YtponkkljlbifmaaGreat
open Go.RowKit
set_option maxRecDepth 100000
open Pd

theorem colB_step {cs : List Int} {k : Nat} {x : Int} (h : cs[k]? = some x) : colB (cs.drop k) = (decide (3 ≤ x ∧ x ≤ 5) && colB (cs.drop (k + 1))) := by
  have hk : k < cs.length := (List.getElem?_eq_some_iff.1 h).1
  have he : cs[k] = x := (List.getElem?_eq_some_iff.1 h).2
  rw [List.drop_eq_getElem_cons hk, he]
  rfl
theorem colK_any (A : Option Addr) (n c : Nat) (cs : List Int) (w : World) (hs : ClS w A n cs) (hnm : n ≤ 9223372036854775807) :
    Calls Tryz.prog 137 #[.slice A n c] w fun e w' => e = .returned (.bool (colB cs)) ∧ w = w' := by
  have HS := Lib.hid hs
  have Hln := Lib.hid hs.len
  clear hs
  obtain ⟨rr, Hrr⟩ : ∃ z, Hid (colB (cs.drop 0) = z) := ⟨_, rfl⟩
  have hrr : colB cs = rr := Hrr.out
  rw [hrr]
  clear hrr
  go_enter Tryz.func137, Tryz.ntmps137
  go_wp2_with fail
  go_loop [7] (fun i => ∃ k : Nat, k ≤ n ∧ i = .int .i64 (k : Int) ∧ Hid (colB (cs.drop k) = rr)) (fun i => n - (intOf i).toNat)
  case atStart => exact ⟨0, by omega, rfl, Hrr⟩
  case round =>
    obtain ⟨k, hk, rfl, Hq⟩ := hrel
    clear Hrr
    by_cases hlt : k < n
    · obtain ⟨b, o, x, rfl, hx, hxc⟩ := HS.out.at hlt
      have d0 := hxc 0 _ rfl
      simp only [Nat.mul_one, Nat.add_zero] at d0
      have Hs := Lib.hid (colB_step hx)
      clear hx hxc
      by_cases hx3 : 3 ≤ x ∧ x ≤ 5
      · have Hn : Hid (colB (cs.drop (k + 1)) = rr) := Lib.hid (by rw [← Hq.out, Hs.out, decide_eq_true hx3]; rfl)
        have h : x = 3 ∨ x = 4 ∨ x = 5 := by omega
        clear hx3 Hs Hq
        rcases h with rfl | rfl | rfl
        all_goals
          go_wp2
          go_round
          case rel => exact ⟨k + 1, by omega, by go_num, Hn⟩
          case measure => simp [intOf]; omega
      · obtain rfl : rr = false := by rw [← Hq.out, Hs.out, decide_eq_false hx3]; rfl
        have g3 : (x != 3) = true := by simp; omega
        have g4 : (x != 4) = true := by simp; omega
        have g5 : (x != 5) = true := by simp; omega
        clear hx3 Hs Hq
        go_wp2
        go_ret
        exact ⟨rfl, rfl⟩
    · obtain rfl : rr = true := by
        rw [← Hq.out, List.drop_eq_nil_of_le (by rw [Hln.out]; omega)]
        rfl
      clear Hq
      go_wp2
      go_ret
      exact ⟨rfl, rfl⟩

theorem sm_lt {l : Nat} {b x : Int} {p : Pd} (h : smB l b p = some x) : 0 ≤ x ∧ x < b := by
  have hn := nodes_pos p
  unfold smB at h
  split at h
  · cases h
  · rename_i h1
    rw [smA_eq p (l + 1) (b - 1) (by omega) (by omega)] at h
    split at h
    · injection h with h
      omega
    · cases h
/-- what small does to its budget -/
def SmRes (w : World) (B : Nat) (o : Option Int) (e : Ending) (w' : World) : Prop := ∃ b' : Int, e = .returned (.bool o.isSome) ∧ Blk w' B 3 #[.int .i64 b'] ∧ (∀ x, o = some x → b' = x) ∧ But (· = B) w w'
set_option maxHeartbeats 4000000 in
theorem small_any : ∀ (N : Nat) (p : Pd) (A : Option Addr) (n c : Nat) (l : Nat) (li b : Int) (B : Nat) (w : World), p.nodes ≤ N → PrdS w A n c p → Blk w B 3 #[.int .i64 b] → li = (l : Int) → l ≤ 9 → 0 ≤ b → b ≤ 24 →
    Calls Tryz.prog 138 #[.agg (pdV p.h A n c), .int .i64 li, .pointer (some ⟨B, 0, none⟩)] w fun e w' => SmRes w B (smB l b p) e w' := by
  intro N
  induction N with
  | zero => intro p A n c l li b B w hN; have := nodes_pos p; omega
  | succ N ih =>
    intro p A n c l li b B w hN hs hb hli hl h0 h24
    have IH := Lib.hid ih
    have HN := Lib.hid hN
    have HS := Lib.hid (hs.keep (keeps_alloc w (.cells (pdV p.h A n c) 71)))
    have HB := Lib.hid (hb.alloc (.cells (pdV p.h A n c) 71))
    have HU : Hid (But (· = B) w (w.alloc (.cells (pdV p.h A n c) 71))) := Lib.hid (But.of_below ((Below.refl _ _).alloc (Nat.le_refl _) _))
    have HX := Lib.hid (Blk.new w 71 (pdV p.h A n c))
    have Hne := Lib.hid (show B ≠ w.heap.size by have := hb.lt; omega)
    have Hli := Lib.hid hli
    clear ih hN hs hb hli
    unfold pdV at HX HS HB HU ⊢
    obtain ⟨rr, Hrr⟩ : ∃ z, Hid (smB l b p = z) := ⟨_, rfl⟩
    rw [Hrr.out]
    go_enter Tryz.func138, Tryz.ntmps138
    obtain ⟨X, HXe⟩ : ∃ z, Hid (w.heap.size = z) := ⟨_, rfl⟩
    rw [HXe.out] at HX Hne
    go_upto_region 1 with fail
    rw [HXe.out]
    generalize hW1 : w.alloc (.cells #[.int .i64 p.h.op, .int .i64 p.h.cm, .int .i64 p.h.l.k, .int .i64 p.h.l.ix, .int .i64 p.h.l.v.k, .int .i64 p.h.l.v.i, .string p.h.l.v.t, .int .i64 p.h.r.k, .int .i64 p.h.r.ix, .int .i64 p.h.r.v.k, .int .i64 p.h.r.v.i, .string p.h.r.v.t, .slice A n c] 71) = w1 at *
    clear hW1 HXe
    have z := HB.out.cell
    have zf := HB.out.free 0
    have HB2 : Hid (Blk (w1.setCell ⟨B, 0, none⟩ (.int .i64 (b - 1))) B 3 #[.int .i64 (b - 1)]) := Lib.hid (HB.out.set_ 0 (.int .i64 (b - 1)))
    have HU2 := Lib.hid (But.set (S := fun k => k = B) w1 (p := ⟨B, 0, none⟩) rfl (.int .i64 (b - 1)))
    have HX2 := Lib.hid (HX.out.but HU2.out (fun e => Hne.out e.symm))
    have HS2 := Lib.hid (HS.out.blk HB.out (by simp) HU2.out)
    replace HU := Lib.hid (HU.out.trans HU2.out)
    go_upto_region 2 with fail
    generalize hW2 : w1.setCell ⟨B, 0, none⟩ (.int .i64 (b - 1)) = w2 at *
    clear hW2 z zf HB HU2 HX HS
    have z := HB2.out.cell
    by_cases hbad : b - 1 < 0 ∨ 8 < l
    · obtain rfl : none = rr := by rw [← Hrr.out, smB, if_pos hbad]
      by_cases h1 : b - 1 < 0
      · have g1 : decide (b - 1 < 0) = true := decide_eq_true h1
        clear h1 hbad
        go_wp2
        go_ret
        exact ⟨_, rfl, HB2.out, fun x h => (by cases h), HU.out⟩
      · have g1 : decide (b - 1 < 0) = false := decide_eq_false h1
        have g2 : decide (8 < li) = true := decide_eq_true (by have := Hli.out; omega)
        clear h1 hbad
        go_wp2
        go_ret
        exact ⟨_, rfl, HB2.out, fun x h => (by cases h), HU.out⟩
    · have g1 : decide (b - 1 < 0) = false := decide_eq_false (fun h => hbad (.inl h))
      have g2 : decide (8 < li) = false := decide_eq_false (by have := Hli.out; omega)
      have hl8 : l ≤ 8 := by omega
      have H0 : Hid (smA (l + 1) (b - 1) (p.rest 0) = rr) := Lib.hid (by rw [rest_zero, ← Hrr.out, smB, if_neg hbad])
      have hb0 : 0 ≤ b - 1 := by omega
      have hlm : li + 1 ≤ 9 := by have := Hli.out; omega
      have hl0 : 0 ≤ li := by have := Hli.out; omega
      clear hbad Hrr
      have zx := HX2.out.cell
      go_wp2_with fail
      go_loopw [25] (fun i wr => ∃ (k : Nat) (bk : Int), k ≤ n ∧ i = .int .i64 (k : Int) ∧ 0 ≤ bk ∧ (k : Int) + bk ≤ 24 ∧ Hid (smA (l + 1) bk (p.rest k) = rr) ∧ Hid (Blk wr B 3 #[.int .i64 bk]) ∧ Hid (But (· = B) w2 wr)) (fun i _ => n - (intOf i).toNat)
      case atStart => exact ⟨0, b - 1, by omega, rfl, by omega, by omega, H0, HB2, Lib.hid (But.refl _ _)⟩
      case round =>
        obtain ⟨k, bk, hk, rfl, hbk0, hbk1, Hq, HBk, HUk⟩ := hrel
        clear z zx g1 g2 H0
        by_cases hlt : k < n
        · have HSk := Lib.hid (HS2.out.blk HB2.out (by simp) HUk.out)
          obtain ⟨b', o', q, A1, n1, c1, rfl, hq, d⟩ := HSk.out.at hlt
          have HSq := Lib.hid (d.s.keep (keeps_alloc wr (.cells #[.int .i64 q.h.op, .int .i64 q.h.cm, .int .i64 q.h.l.k, .int .i64 q.h.l.ix, .int .i64 q.h.l.v.k, .int .i64 q.h.l.v.i, .string q.h.l.v.t, .int .i64 q.h.r.k, .int .i64 q.h.r.ix, .int .i64 q.h.r.v.k, .int .i64 q.h.r.v.i, .string q.h.r.v.t, .slice A1 n1 c1] 71)))
          obtain ⟨d0, d1, d2, d3, d4, d5, d6, d7, d8, d9, d10, d11, d12, ds⟩ := d
          have Hqn := Lib.hid (at_nodes hq)
          have Hst := Lib.hid (sm_rest hq (l + 1) bk)
          have HBa := Lib.hid (HBk.out.alloc (.cells #[.int .i64 q.h.op, .int .i64 q.h.cm, .int .i64 q.h.l.k, .int .i64 q.h.l.ix, .int .i64 q.h.l.v.k, .int .i64 q.h.l.v.i, .string q.h.l.v.t, .int .i64 q.h.r.k, .int .i64 q.h.r.ix, .int .i64 q.h.r.v.k, .int .i64 q.h.r.v.i, .string q.h.r.v.t, .slice A1 n1 c1] 71))
          have HUa := Lib.hid (HUk.out.allocNew (.cells #[.int .i64 q.h.op, .int .i64 q.h.cm, .int .i64 q.h.l.k, .int .i64 q.h.l.ix, .int .i64 q.h.l.v.k, .int .i64 q.h.l.v.i, .string q.h.l.v.t, .int .i64 q.h.r.k, .int .i64 q.h.r.ix, .int .i64 q.h.r.v.k, .int .i64 q.h.r.v.i, .string q.h.r.v.t, .slice A1 n1 c1] 71))
          have HY := Lib.hid (Blk.new wr 71 (pdV q.h A1 n1 c1))
          unfold pdV at HY
          clear ds hq
          obtain ⟨Y, HYe⟩ : ∃ z, Hid (wr.heap.size = z) := ⟨_, rfl⟩
          rw [HYe.out] at HY
          go_upto_region 7 with fail
          rw [HYe.out]
          generalize hW3 : wr.alloc (.cells #[.int .i64 q.h.op, .int .i64 q.h.cm, .int .i64 q.h.l.k, .int .i64 q.h.l.ix, .int .i64 q.h.l.v.k, .int .i64 q.h.l.v.i, .string q.h.l.v.t, .int .i64 q.h.r.k, .int .i64 q.h.r.ix, .int .i64 q.h.r.v.k, .int .i64 q.h.r.v.i, .string q.h.r.v.t, .slice A1 n1 c1] 71) = w3 at *
          clear hW3 HYe d0 d1 d2 d3 d4 d5 d6 d7 d8 d9 d10 d11 d12 HSk
          have zy := HY.out.cell
          go_wp2_with fail
          refine (IH.out q A1 n1 c1 (l + 1) (li + 1) bk B _ (by have := Hqn.out; have := HN.out; omega) HSq.out HBa.out (by have := Hli.out; omega) (by omega) hbk0 (by omega)).mono ?_
          rintro e w4 ⟨b4, rfl, hb4, hx4, hu4⟩
          have HB4 := Lib.hid hb4
          have HX4 := Lib.hid hx4
          have HU4 := Lib.hid (HUa.out.trans hu4)
          clear hb4 hx4 hu4 zy
          obtain ⟨oq, Hoq⟩ : ∃ z, Hid (smB (l + 1) bk q = z) := ⟨_, rfl⟩
          rw [Hoq.out] at HX4 Hst ⊢
          cases oq with
          | none =>
            obtain rfl : none = rr := by rw [← Hq.out, Hst.out]
            go_wp2
            go_ret
            exact ⟨_, rfl, HB4.out, fun x h => (by cases h), HU.out.trans HU4.out⟩
          | some x =>
            obtain ⟨hx0, hx1⟩ := sm_lt Hoq.out
            obtain rfl : b4 = x := HX4.out x rfl
            go_wp2
            go_roundw
            case rel => exact ⟨k + 1, b4, by omega, by go_num, by omega, by omega, Lib.hid (by rw [← Hq.out, Hst.out]), HB4, HU4⟩
            case measure => simp [intOf]; omega
        · obtain rfl : some bk = rr := by
            rw [← Hq.out, rest_end (by rw [← HS2.out.len]; omega)]
            rfl
          go_wp2
          go_ret
          exact ⟨_, rfl, HBk.out, fun x h => (by injection h), HU.out.trans HUk.out⟩
end Go.Proofs.YtponkkljlbifmaaGreat
