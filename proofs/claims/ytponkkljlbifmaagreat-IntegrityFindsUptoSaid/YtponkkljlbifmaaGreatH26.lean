/-
  Texts: FPdV, BdPred.
-/
import Derived.Test.YtponkkljlbifmaaGreatH25
import Derived.Test.YtponkkljlbifmaaGreatH24
set_option linter.unusedVariables false
/-
  The reference's plain, valid, Check of a predicate.
-/
namespace Go.Proofs.YtponkkljlbifmaaGreat
open Go.RowKit
set_option maxRecDepth 100000
open Pd

theorem rplain_any (h : Nd) (A : Option Addr) (n c : Nat) (w : World) : Calls Tryz.prog 108 #[.agg (pdV h A n c)] w fun e w' => e = .returned (.bool (plainH h)) ∧ Below w.heap.size w w' := by
  obtain ⟨rr, Hrr⟩ : ∃ z, Hid (plainH h = z) := ⟨_, rfl⟩
  rw [Hrr.out]
  obtain ⟨op, cm, ⟨lk, lx, ⟨vk, vi, vt⟩⟩, ⟨rk, rx, ⟨uk, ui, ut⟩⟩⟩ := h
  unfold pdV
  have HB := Lib.hid ((Below.refl w.heap.size w).alloc (Nat.le_refl _) (.cells #[.int .i64 op, .int .i64 cm, .int .i64 lk, .int .i64 lx, .int .i64 vk, .int .i64 vi, .string vt, .int .i64 rk, .int .i64 rx, .int .i64 uk, .int .i64 ui, .string ut, .slice A n c] 71))
  have HX := Lib.hid (Blk.new w 71 #[.int .i64 op, .int .i64 cm, .int .i64 lk, .int .i64 lx, .int .i64 vk, .int .i64 vi, .string vt, .int .i64 rk, .int .i64 rx, .int .i64 uk, .int .i64 ui, .string ut, .slice A n c])
  have hev1 := run_eqO lk lx vk vi vt 0 0 0 0 ⟨#[]⟩
  have hev2 := run_eqO rk rx uk ui ut 0 0 0 0 ⟨#[]⟩
  obtain ⟨q1, Hq1⟩ : ∃ z, Hid (decide ((⟨lk, lx, ⟨vk, vi, vt⟩⟩ : Od) = ⟨0, 0, ⟨0, 0, ⟨#[]⟩⟩⟩) = z) := ⟨_, rfl⟩
  obtain ⟨q2, Hq2⟩ : ∃ z, Hid (decide ((⟨rk, rx, ⟨uk, ui, ut⟩⟩ : Od) = ⟨0, 0, ⟨0, 0, ⟨#[]⟩⟩⟩) = z) := ⟨_, rfl⟩
  have Hpl : Hid ((decide (cm = 0) && (q1 && q2)) = rr) := Lib.hid (by
    rw [← Hrr.out, ← Hq1.out, ← Hq2.out, Bool.eq_iff_iff]
    simp [plainH, zeroOd, zeroV])
  rw [Hq1.out] at hev1
  rw [Hq2.out] at hev2
  clear Hq1 Hq2 Hrr
  go_enter Tryz.func108, Tryz.ntmps108
  go_upto_region 1 with fail
  generalize hW1 : w.alloc (.cells #[.int .i64 op, .int .i64 cm, .int .i64 lk, .int .i64 lx, .int .i64 vk, .int .i64 vi, .string vt, .int .i64 rk, .int .i64 rx, .int .i64 uk, .int .i64 ui, .string ut, .slice A n c] 71) = w1 at *
  clear hW1
  have zx := HX.out.cell
  by_cases hc : cm = 0
  · subst hc
    have Hp : Hid ((q1 && q2) = rr) := Hpl
    clear Hpl
    cases q1
    · obtain rfl : false = rr := Hp.out
      go_wp2
      go_ret
      exact ⟨rfl, HB.out⟩
    · cases q2
      · obtain rfl : false = rr := Hp.out
        go_wp2
        go_ret
        exact ⟨rfl, HB.out⟩
      · obtain rfl : true = rr := Hp.out
        go_wp2
        go_ret
        exact ⟨rfl, HB.out⟩
  · have g1 : (cm == 0) = false := by simpa using hc
    obtain rfl : false = rr := by rw [← Hpl.out, decide_eq_false hc]; rfl
    clear hc Hpl
    go_wp2
    go_ret
    exact ⟨rfl, HB.out⟩
set_option maxHeartbeats 8000000 in
theorem rpvalid_any (cols ps : List Int) : ∀ (N : Nat) (p : Pd) (A : Option Addr) (n c : Nat) (Ac : Option Addr) (nc cc : Nat) (Ap : Option Addr) (np cp : Nat) (w : World), p.nodes ≤ N → N ≤ 1000 → PrdS w A n c p → ClS w Ac nc cols → ClS w Ap np ps →
    Calls Tryz.prog 80 #[.slice Ac nc cc, .slice Ap np cp, .agg (pdV p.h A n c)] w fun e w' => e = .returned (.bool (validB cols ps p)) ∧ Below w.heap.size w w' := by
  intro N
  induction N with
  | zero => intro p A n c Ac nc cc Ap np cp w hN; have := nodes_pos p; omega
  | succ N ih =>
    intro p A n c Ac nc cc Ap np cp w hN hN2 hs hc hp
    have IH := Lib.hid ih
    have HN : Hid (p.nodes ≤ N + 1 ∧ N + 1 ≤ 1000) := Lib.hid ⟨hN, hN2⟩
    have hlen := hs.len
    have hn1 : n ≤ 1000 := by have := len_lt p; omega
    obtain ⟨rr, Hrr⟩ : ∃ z, Hid (validB cols ps p = z) := ⟨_, rfl⟩
    rw [Hrr.out]
    obtain ⟨hd, Hhd⟩ : ∃ z, Hid (p.h = z) := ⟨_, rfl⟩
    have Hs : Hid ((headOk cols ps hd n && validA cols ps (p.rest 0)) = rr) := Lib.hid (by rw [rest_zero, hlen, ← Hhd.out]; exact Hrr.out)
    rw [Hhd.out]
    have Hlen := Lib.hid hlen
    clear ih hN hN2 Hrr hlen Hhd
    obtain ⟨op, cm, ⟨lk, lx, ⟨vk, vi, vt⟩⟩, ⟨rk, rx, ⟨uk, ui, ut⟩⟩⟩ := hd
    unfold pdV
    have HS := Lib.hid (hs.keep (keeps_alloc w (.cells #[.int .i64 op, .int .i64 cm, .int .i64 lk, .int .i64 lx, .int .i64 vk, .int .i64 vi, .string vt, .int .i64 rk, .int .i64 rx, .int .i64 uk, .int .i64 ui, .string ut, .slice A n c] 71)))
    have HC := Lib.hid (hc.keep (keeps_alloc w (.cells #[.int .i64 op, .int .i64 cm, .int .i64 lk, .int .i64 lx, .int .i64 vk, .int .i64 vi, .string vt, .int .i64 rk, .int .i64 rx, .int .i64 uk, .int .i64 ui, .string ut, .slice A n c] 71)))
    have HP := Lib.hid (hp.keep (keeps_alloc w (.cells #[.int .i64 op, .int .i64 cm, .int .i64 lk, .int .i64 lx, .int .i64 vk, .int .i64 vi, .string vt, .int .i64 rk, .int .i64 rx, .int .i64 uk, .int .i64 ui, .string ut, .slice A n c] 71)))
    have HX := Lib.hid (Blk.new w 71 #[.int .i64 op, .int .i64 cm, .int .i64 lk, .int .i64 lx, .int .i64 vk, .int .i64 vi, .string vt, .int .i64 rk, .int .i64 rx, .int .i64 uk, .int .i64 ui, .string ut, .slice A n c])
    have HB := Lib.hid ((Below.refl w.heap.size w).alloc (Nat.le_refl _) (.cells #[.int .i64 op, .int .i64 cm, .int .i64 lk, .int .i64 lx, .int .i64 vk, .int .i64 vi, .string vt, .int .i64 rk, .int .i64 rx, .int .i64 uk, .int .i64 ui, .string ut, .slice A n c] 71))
    clear hs hc hp
    go_enter Tryz.func80, Tryz.ntmps80
    go_upto_region 1 with fail
    obtain ⟨X, HXe⟩ : ∃ z, Hid (w.heap.size = z) := ⟨_, rfl⟩
    rw [HXe.out] at HX
    rw [HXe.out]
    generalize hW : w.alloc (.cells #[.int .i64 op, .int .i64 cm, .int .i64 lk, .int .i64 lx, .int .i64 vk, .int .i64 vi, .string vt, .int .i64 rk, .int .i64 rx, .int .i64 uk, .int .i64 ui, .string ut, .slice A n c] 71) = w1 at *
    clear hW HXe
    have zx := HX.out.cell
    by_cases h3 : op = 3
    · subst h3
      rw [headOk_cmp rfl] at Hs
      go_wp2_with fail
      refine (rkind_any cols ps ⟨lk, lx, ⟨vk, vi, vt⟩⟩ Ac nc cc Ap np cp _ HC.out HP.out).mono ?_
      rintro e w2 ⟨rfl, hb2⟩
      have HB2 := Lib.hid (Below.next HB.out hb2)
      have HX2 := Lib.hid (HX.out.below hb2)
      replace HC := Lib.hid (HC.out.keep (keeps_of hb2))
      replace HP := Lib.hid (HP.out.keep (keeps_of hb2))
      clear HB HX HS hb2 zx
      have zx := HX2.out.cell
      obtain ⟨k1, Hk1⟩ : ∃ z, Hid (kindOf cols ps ⟨lk, lx, ⟨vk, vi, vt⟩⟩ = z) := ⟨_, rfl⟩
      obtain ⟨k2, Hk2⟩ : ∃ z, Hid (kindOf cols ps ⟨rk, rx, ⟨uk, ui, ut⟩⟩ = z) := ⟨_, rfl⟩
      rw [Hk1.out] at Hs ⊢
      rw [Hk2.out] at Hs
      go_upto_region 8 with fail
      by_cases a1 : n = 0
      · subst a1
        rw [validA_len0 (by rw [rest_zero]; exact Hlen.out.symm), Bool.and_true] at Hs
        by_cases a2 : 1 ≤ cm
        · have g2 : decide (1 ≤ cm) = true := decide_eq_true a2
          by_cases a3 : cm ≤ 6
          · have g3 : decide (cm ≤ 6) = true := decide_eq_true a3
            by_cases a4 : k1 = 0
            · have g4 : (k1 != 0) = false := by simpa using a4
              obtain rfl : false = rr := by rw [← Hs.out, decide_eq_false (fun h => h.2.2.1 a4)]
              clear Hs a2 a3 a4
              go_wp2
              go_ret
              exact ⟨rfl, HB2.out⟩
            · have g4 : (k1 != 0) = true := by simpa using a4
              go_wp2_with fail
              refine (rkind_any cols ps ⟨rk, rx, ⟨uk, ui, ut⟩⟩ Ac nc cc Ap np cp _ HC.out HP.out).mono ?_
              rintro e w3 ⟨rfl, hb3⟩
              have HB3 := Lib.hid (Below.next HB2.out hb3)
              rw [Hk2.out]
              clear zx hb3
              by_cases a5 : k1 = k2
              · have g5 : (k1 == k2) = true := by simpa using a5
                obtain rfl : true = rr := by rw [← Hs.out, decide_eq_true (by first | exact ⟨rfl, ⟨a2, a3⟩, a4, a5⟩ | exact ⟨trivial, ⟨a2, a3⟩, a4, a5⟩)]
                clear Hs a2 a3 a4 a5
                go_wp2
                go_ret
                exact ⟨rfl, HB3.out⟩
              · have g5 : (k1 == k2) = false := by simpa using a5
                obtain rfl : false = rr := by rw [← Hs.out, decide_eq_false (fun h => a5 h.2.2.2)]
                clear Hs a2 a3 a4 a5
                go_wp2
                go_ret
                exact ⟨rfl, HB3.out⟩
          · have g3 : decide (cm ≤ 6) = false := decide_eq_false a3
            obtain rfl : false = rr := by rw [← Hs.out, decide_eq_false (fun h => a3 h.2.1.2)]
            clear Hs a2 a3
            go_wp2
            go_ret
            exact ⟨rfl, HB2.out⟩
        · have g2 : decide (1 ≤ cm) = false := decide_eq_false a2
          obtain rfl : false = rr := by rw [← Hs.out, decide_eq_false (fun h => a2 h.2.1.1)]
          clear Hs a2
          go_wp2
          go_ret
          exact ⟨rfl, HB2.out⟩
      · have g1 : ((n : Int) == 0) = false := by simp; omega
        obtain rfl : false = rr := by rw [← Hs.out, decide_eq_false (fun h => a1 h.1)]; rfl
        clear Hs a1
        go_wp2
        go_ret
        exact ⟨rfl, HB2.out⟩
    by_cases h12 : op = 1 ∨ op = 2
    · rw [headOk_tf h12] at Hs
      have CALL : Hid (∀ (W : World), Calls Tryz.prog 108 #[.agg #[.int .i64 op, .int .i64 cm, .int .i64 lk, .int .i64 lx, .int .i64 vk, .int .i64 vi, .string vt, .int .i64 rk, .int .i64 rx, .int .i64 uk, .int .i64 ui, .string ut, .slice A n c]] W fun e w' => e = .returned (.bool (plainH ⟨op, cm, ⟨lk, lx, ⟨vk, vi, vt⟩⟩, ⟨rk, rx, ⟨uk, ui, ut⟩⟩⟩)) ∧ Below W.heap.size W w') := Lib.hid fun W => rplain_any ⟨op, cm, ⟨lk, lx, ⟨vk, vi, vt⟩⟩, ⟨rk, rx, ⟨uk, ui, ut⟩⟩⟩ A n c W
      obtain ⟨pl, Hpl⟩ : ∃ z, Hid (plainH ⟨op, cm, ⟨lk, lx, ⟨vk, vi, vt⟩⟩, ⟨rk, rx, ⟨uk, ui, ut⟩⟩⟩ = z) := ⟨_, rfl⟩
      rw [Hpl.out] at Hs CALL
      clear h3
      rcases h12 with rfl | rfl
      all_goals
        go_wp2_with fail
        refine (CALL.out _).mono ?_
        rintro e w2 ⟨rfl, hb2⟩
        have HB2 := Lib.hid (Below.next HB.out hb2)
        have zx2 := (HX.out.below hb2).cell
        clear zx hb2
        cases pl
        · obtain rfl : false = rr := by rw [← Hs.out]; simp
          go_wp2
          go_ret
          exact ⟨rfl, HB2.out⟩
        · by_cases a1 : n = 0
          · subst a1
            obtain rfl : true = rr := by rw [← Hs.out, validA_len0 (by rw [rest_zero]; exact Hlen.out.symm)]; rfl
            go_wp2
            go_ret
            exact ⟨rfl, HB2.out⟩
          · have g1 : ((n : Int) == 0) = false := by simp; omega
            obtain rfl : false = rr := by rw [← Hs.out, decide_eq_false a1]; rfl
            clear a1 Hs
            go_wp2
            go_ret
            exact ⟨rfl, HB2.out⟩
    by_cases hop : op = 4 ∨ op = 5 ∨ op = 6
    · by_cases hbad : op = 6 ∧ n ≠ 1
      · obtain rfl : false = rr := by
          rw [← Hs.out, headOk_not hbad.1, decide_eq_false hbad.2]; rfl
        clear Hs hop h3 h12
        obtain ⟨rfl, h2⟩ := hbad
        go_wp2
        go_ret
        exact ⟨rfl, HB.out⟩
      · have Hs2 : Hid ((plainH ⟨op, cm, ⟨lk, lx, ⟨vk, vi, vt⟩⟩, ⟨rk, rx, ⟨uk, ui, ut⟩⟩⟩ && validA cols ps (p.rest 0)) = rr) := Lib.hid (by
          rw [← Hs.out]
          rcases hop with h | h | h
          · rw [headOk_ao (.inl h)]
          · rw [headOk_ao (.inr h)]
          · rw [headOk_not h, decide_eq_true (show n = 1 by omega)]; rfl)
        have Hnn : Hid (op = 6 → n = 1) := Lib.hid (fun h => by omega)
        have CALL : Hid (∀ (W : World), Calls Tryz.prog 108 #[.agg #[.int .i64 op, .int .i64 cm, .int .i64 lk, .int .i64 lx, .int .i64 vk, .int .i64 vi, .string vt, .int .i64 rk, .int .i64 rx, .int .i64 uk, .int .i64 ui, .string ut, .slice A n c]] W fun e w' => e = .returned (.bool (plainH ⟨op, cm, ⟨lk, lx, ⟨vk, vi, vt⟩⟩, ⟨rk, rx, ⟨uk, ui, ut⟩⟩⟩)) ∧ Below W.heap.size W w') := Lib.hid fun W => rplain_any ⟨op, cm, ⟨lk, lx, ⟨vk, vi, vt⟩⟩, ⟨rk, rx, ⟨uk, ui, ut⟩⟩⟩ A n c W
        obtain ⟨pl, Hpl⟩ : ∃ z, Hid (plainH ⟨op, cm, ⟨lk, lx, ⟨vk, vi, vt⟩⟩, ⟨rk, rx, ⟨uk, ui, ut⟩⟩⟩ = z) := ⟨_, rfl⟩
        rw [Hpl.out] at Hs2 CALL
        clear Hs h3 h12 hbad Hpl
        have HL := Lib.hid hn1
        rcases hop with rfl | rfl | rfl
        · clear Hnn
          go_wp2_with fail
          refine (CALL.out _).mono ?_
          rintro e w2 ⟨rfl, hb2⟩
          have HB2 := Lib.hid (Below.next HB.out hb2)
          have HX2 := Lib.hid (HX.out.below hb2)
          have HS2 := Lib.hid (HS.out.keep (keeps_of hb2))
          have HC2 := Lib.hid (HC.out.keep (keeps_of hb2))
          have HP2 := Lib.hid (HP.out.keep (keeps_of hb2))
          clear zx hb2 HB HX HS HC HP
          have zx := HX2.out.cell
          cases pl
          · obtain rfl : false = rr := by rw [← Hs2.out]; rfl
            go_wp2
            go_ret
            exact ⟨rfl, HB2.out⟩
          rw [Bool.true_and] at Hs2
          go_wp2_with fail
          go_loopw [71] (fun i wr => ∃ k : Nat, k ≤ n ∧ i = .int .i64 (k : Int) ∧ Hid (validA cols ps (p.rest k) = rr) ∧ Hid (Below w2.heap.size w2 wr)) (fun i _ => n - (intOf i).toNat)
          case atStart => exact ⟨0, by omega, rfl, Hs2, Lib.hid (Below.refl _ _)⟩
          case round =>
            obtain ⟨k, hk, rfl, Hq, HM⟩ := hrel
            clear zx
            by_cases hlt : k < n
            · have HSk := Lib.hid (HS2.out.keep (keeps_of HM.out))
              obtain ⟨b', o', q, A1, n1, c1, rfl, hq, d⟩ := HSk.out.at hlt
              have HSq := Lib.hid d.s
              obtain ⟨d0, d1, d2, d3, d4, d5, d6, d7, d8, d9, d10, d11, d12, ds⟩ := d
              have Hqn := Lib.hid (at_nodes hq)
              have Hst := Lib.hid (val_rest hq cols ps)
              clear ds hq HSk
              have zx := (HX2.out.below HM.out).cell
              have HC3 := Lib.hid (HC2.out.keep (keeps_of HM.out))
              have HP3 := Lib.hid (HP2.out.keep (keeps_of HM.out))
              go_wp2_with fail
              refine (IH.out q A1 n1 c1 Ac nc cc Ap np cp _ (by have := Hqn.out; have := HN.out; omega) (by have := HN.out; omega) HSq.out HC3.out HP3.out).mono ?_
              rintro e w4 ⟨rfl, hb4⟩
              have HM4 := Lib.hid (Below.next HM.out hb4)
              clear hb4 zx d0 d1 d2 d3 d4 d5 d6 d7 d8 d9 d10 d11 d12
              obtain ⟨oq, Hoq⟩ : ∃ z, Hid (validB cols ps q = z) := ⟨_, rfl⟩
              rw [Hoq.out] at Hst ⊢
              cases oq
              · obtain rfl : false = rr := by rw [← Hq.out, Hst.out]; rfl
                go_wp2
                go_ret
                exact ⟨rfl, Below.next HB2.out HM4.out⟩
              · have Hn : Hid (validA cols ps (p.rest (k + 1)) = rr) := Lib.hid (by rw [← Hq.out, Hst.out]; rfl)
                go_wp2
                go_roundw
                case rel => exact ⟨k + 1, by omega, by go_num, Hn, HM4⟩
                case measure => simp [intOf]; omega
            · obtain rfl : true = rr := by
                rw [← Hq.out, rest_end (by rw [← Hlen.out]; omega)]
                rfl
              clear Hq
              go_wp2
              go_ret
              exact ⟨rfl, Below.next HB2.out HM.out⟩
        · clear Hnn
          go_wp2_with fail
          refine (CALL.out _).mono ?_
          rintro e w2 ⟨rfl, hb2⟩
          have HB2 := Lib.hid (Below.next HB.out hb2)
          have HX2 := Lib.hid (HX.out.below hb2)
          have HS2 := Lib.hid (HS.out.keep (keeps_of hb2))
          have HC2 := Lib.hid (HC.out.keep (keeps_of hb2))
          have HP2 := Lib.hid (HP.out.keep (keeps_of hb2))
          clear zx hb2 HB HX HS HC HP
          have zx := HX2.out.cell
          cases pl
          · obtain rfl : false = rr := by rw [← Hs2.out]; rfl
            go_wp2
            go_ret
            exact ⟨rfl, HB2.out⟩
          rw [Bool.true_and] at Hs2
          go_wp2_with fail
          go_loopw [71] (fun i wr => ∃ k : Nat, k ≤ n ∧ i = .int .i64 (k : Int) ∧ Hid (validA cols ps (p.rest k) = rr) ∧ Hid (Below w2.heap.size w2 wr)) (fun i _ => n - (intOf i).toNat)
          case atStart => exact ⟨0, by omega, rfl, Hs2, Lib.hid (Below.refl _ _)⟩
          case round =>
            obtain ⟨k, hk, rfl, Hq, HM⟩ := hrel
            clear zx
            by_cases hlt : k < n
            · have HSk := Lib.hid (HS2.out.keep (keeps_of HM.out))
              obtain ⟨b', o', q, A1, n1, c1, rfl, hq, d⟩ := HSk.out.at hlt
              have HSq := Lib.hid d.s
              obtain ⟨d0, d1, d2, d3, d4, d5, d6, d7, d8, d9, d10, d11, d12, ds⟩ := d
              have Hqn := Lib.hid (at_nodes hq)
              have Hst := Lib.hid (val_rest hq cols ps)
              clear ds hq HSk
              have zx := (HX2.out.below HM.out).cell
              have HC3 := Lib.hid (HC2.out.keep (keeps_of HM.out))
              have HP3 := Lib.hid (HP2.out.keep (keeps_of HM.out))
              go_wp2_with fail
              refine (IH.out q A1 n1 c1 Ac nc cc Ap np cp _ (by have := Hqn.out; have := HN.out; omega) (by have := HN.out; omega) HSq.out HC3.out HP3.out).mono ?_
              rintro e w4 ⟨rfl, hb4⟩
              have HM4 := Lib.hid (Below.next HM.out hb4)
              clear hb4 zx d0 d1 d2 d3 d4 d5 d6 d7 d8 d9 d10 d11 d12
              obtain ⟨oq, Hoq⟩ : ∃ z, Hid (validB cols ps q = z) := ⟨_, rfl⟩
              rw [Hoq.out] at Hst ⊢
              cases oq
              · obtain rfl : false = rr := by rw [← Hq.out, Hst.out]; rfl
                go_wp2
                go_ret
                exact ⟨rfl, Below.next HB2.out HM4.out⟩
              · have Hn : Hid (validA cols ps (p.rest (k + 1)) = rr) := Lib.hid (by rw [← Hq.out, Hst.out]; rfl)
                go_wp2
                go_roundw
                case rel => exact ⟨k + 1, by omega, by go_num, Hn, HM4⟩
                case measure => simp [intOf]; omega
            · obtain rfl : true = rr := by
                rw [← Hq.out, rest_end (by rw [← Hlen.out]; omega)]
                rfl
              clear Hq
              go_wp2
              go_ret
              exact ⟨rfl, Below.next HB2.out HM.out⟩
        · obtain rfl := Hnn.out rfl
          clear Hnn
          go_wp2_with fail
          refine (CALL.out _).mono ?_
          rintro e w2 ⟨rfl, hb2⟩
          have HB2 := Lib.hid (Below.next HB.out hb2)
          have HX2 := Lib.hid (HX.out.below hb2)
          have HS2 := Lib.hid (HS.out.keep (keeps_of hb2))
          have HC2 := Lib.hid (HC.out.keep (keeps_of hb2))
          have HP2 := Lib.hid (HP.out.keep (keeps_of hb2))
          clear zx hb2 HB HX HS HC HP
          have zx := HX2.out.cell
          cases pl
          · obtain rfl : false = rr := by rw [← Hs2.out]; rfl
            go_wp2
            go_ret
            exact ⟨rfl, HB2.out⟩
          rw [Bool.true_and] at Hs2
          go_wp2_with fail
          go_loopw [71] (fun i wr => ∃ k : Nat, k ≤ 1 ∧ i = .int .i64 (k : Int) ∧ Hid (validA cols ps (p.rest k) = rr) ∧ Hid (Below w2.heap.size w2 wr)) (fun i _ => 1 - (intOf i).toNat)
          case atStart => exact ⟨0, by omega, rfl, Hs2, Lib.hid (Below.refl _ _)⟩
          case round =>
            obtain ⟨k, hk, rfl, Hq, HM⟩ := hrel
            clear zx
            by_cases hlt : k < 1
            · have HSk := Lib.hid (HS2.out.keep (keeps_of HM.out))
              obtain ⟨b', o', q, A1, n1, c1, rfl, hq, d⟩ := HSk.out.at hlt
              have HSq := Lib.hid d.s
              obtain ⟨d0, d1, d2, d3, d4, d5, d6, d7, d8, d9, d10, d11, d12, ds⟩ := d
              have Hqn := Lib.hid (at_nodes hq)
              have Hst := Lib.hid (val_rest hq cols ps)
              clear ds hq HSk
              have zx := (HX2.out.below HM.out).cell
              have HC3 := Lib.hid (HC2.out.keep (keeps_of HM.out))
              have HP3 := Lib.hid (HP2.out.keep (keeps_of HM.out))
              go_wp2_with fail
              refine (IH.out q A1 n1 c1 Ac nc cc Ap np cp _ (by have := Hqn.out; have := HN.out; omega) (by have := HN.out; omega) HSq.out HC3.out HP3.out).mono ?_
              rintro e w4 ⟨rfl, hb4⟩
              have HM4 := Lib.hid (Below.next HM.out hb4)
              clear hb4 zx d0 d1 d2 d3 d4 d5 d6 d7 d8 d9 d10 d11 d12
              obtain ⟨oq, Hoq⟩ : ∃ z, Hid (validB cols ps q = z) := ⟨_, rfl⟩
              rw [Hoq.out] at Hst ⊢
              cases oq
              · obtain rfl : false = rr := by rw [← Hq.out, Hst.out]; rfl
                go_wp2
                go_ret
                exact ⟨rfl, Below.next HB2.out HM4.out⟩
              · have Hn : Hid (validA cols ps (p.rest (k + 1)) = rr) := Lib.hid (by rw [← Hq.out, Hst.out]; rfl)
                go_wp2
                go_roundw
                case rel => exact ⟨k + 1, by omega, by go_num, Hn, HM4⟩
                case measure => simp [intOf]; omega
            · obtain rfl : true = rr := by
                rw [← Hq.out, rest_end (by rw [← Hlen.out]; omega)]
                rfl
              clear Hq
              go_wp2
              go_ret
              exact ⟨rfl, Below.next HB2.out HM.out⟩
    · have g1 : (op == 1) = false := by simp; omega
      have g2 : (op == 2) = false := by simp; omega
      have g3 : (op == 3) = false := by simpa using h3
      have g4 : (op == 4) = false := by simp; omega
      have g5 : (op == 5) = false := by simp; omega
      have g6 : (op == 6) = false := by simp; omega
      obtain rfl : false = rr := by rw [← Hs.out, headOk_none (by simp only; omega) (by simp only; omega) (by simp only; omega) (by simp only; omega) (by simp only; omega) (by simp only; omega)]; rfl
      clear Hs hop h3 h12
      go_wp2
      go_ret
      exact ⟨rfl, HB.out⟩
set_option maxHeartbeats 8000000 in
theorem rpcheck_any (cols ps : List Int) (p : Pd) (A : Option Addr) (n c : Nat) (Ac : Option Addr) (nc cc : Nat) (Ap : Option Addr) (np cp : Nat) (w : World) (hs : PrdS w A n c p) (hc : ClS w Ac nc cols) (hp : ClS w Ap np ps) (hnc : nc ≤ 9223372036854775807) (hnp : np ≤ 9223372036854775807) :
    Calls Tryz.prog 50 #[.slice Ac nc cc, .slice Ap np cp, .agg (pdV p.h A n c)] w fun e w' => e = .returned (.int .i64 (checkE cols ps p)) ∧ Below w.heap.size w w' := by
  obtain ⟨er, Her⟩ : ∃ z, Hid (checkE cols ps p = z) := ⟨_, rfl⟩
  rw [Her.out]
  unfold pdV
  have HS := Lib.hid (hs.keep (keeps_alloc w (.cells #[.int .i64 p.h.op, .int .i64 p.h.cm, .int .i64 p.h.l.k, .int .i64 p.h.l.ix, .int .i64 p.h.l.v.k, .int .i64 p.h.l.v.i, .string p.h.l.v.t, .int .i64 p.h.r.k, .int .i64 p.h.r.ix, .int .i64 p.h.r.v.k, .int .i64 p.h.r.v.i, .string p.h.r.v.t, .slice A n c] 71)))
  have HC := Lib.hid (hc.keep (keeps_alloc w (.cells #[.int .i64 p.h.op, .int .i64 p.h.cm, .int .i64 p.h.l.k, .int .i64 p.h.l.ix, .int .i64 p.h.l.v.k, .int .i64 p.h.l.v.i, .string p.h.l.v.t, .int .i64 p.h.r.k, .int .i64 p.h.r.ix, .int .i64 p.h.r.v.k, .int .i64 p.h.r.v.i, .string p.h.r.v.t, .slice A n c] 71)))
  have HP := Lib.hid (hp.keep (keeps_alloc w (.cells #[.int .i64 p.h.op, .int .i64 p.h.cm, .int .i64 p.h.l.k, .int .i64 p.h.l.ix, .int .i64 p.h.l.v.k, .int .i64 p.h.l.v.i, .string p.h.l.v.t, .int .i64 p.h.r.k, .int .i64 p.h.r.ix, .int .i64 p.h.r.v.k, .int .i64 p.h.r.v.i, .string p.h.r.v.t, .slice A n c] 71)))
  have HX := Lib.hid (Blk.new w 71 #[.int .i64 p.h.op, .int .i64 p.h.cm, .int .i64 p.h.l.k, .int .i64 p.h.l.ix, .int .i64 p.h.l.v.k, .int .i64 p.h.l.v.i, .string p.h.l.v.t, .int .i64 p.h.r.k, .int .i64 p.h.r.ix, .int .i64 p.h.r.v.k, .int .i64 p.h.r.v.i, .string p.h.r.v.t, .slice A n c])
  have HB := Lib.hid ((Below.refl w.heap.size w).alloc (Nat.le_refl _) (.cells #[.int .i64 p.h.op, .int .i64 p.h.cm, .int .i64 p.h.l.k, .int .i64 p.h.l.ix, .int .i64 p.h.l.v.k, .int .i64 p.h.l.v.i, .string p.h.l.v.t, .int .i64 p.h.r.k, .int .i64 p.h.r.ix, .int .i64 p.h.r.v.k, .int .i64 p.h.r.v.i, .string p.h.r.v.t, .slice A n c] 71))
  clear hs hc hp
  go_enter Tryz.func50, Tryz.ntmps50
  go_upto_region 1 with fail
  obtain ⟨X, HXe⟩ : ∃ z, Hid (w.heap.size = z) := ⟨_, rfl⟩
  rw [HXe.out] at HX
  rw [HXe.out]
  generalize hW : w.alloc (.cells #[.int .i64 p.h.op, .int .i64 p.h.cm, .int .i64 p.h.l.k, .int .i64 p.h.l.ix, .int .i64 p.h.l.v.k, .int .i64 p.h.l.v.i, .string p.h.l.v.t, .int .i64 p.h.r.k, .int .i64 p.h.r.ix, .int .i64 p.h.r.v.k, .int .i64 p.h.r.v.i, .string p.h.r.v.t, .slice A n c] 71) = w1 at *
  clear hW
  go_wp2_with fail
  refine (rcolK_any Ac nc cc cols _ HC.out hnc).mono ?_
  rintro e w2 ⟨rfl, rfl⟩
  obtain ⟨b1, H1⟩ : ∃ z, Hid (colB cols = z) := ⟨_, rfl⟩
  rw [H1.out]
  cases b1
  · obtain rfl : 1 = er := by rw [← Her.out, checkE, H1.out]; rfl
    go_wp2
    go_ret
    exact ⟨rfl, HB.out⟩
  go_wp2_with fail
  refine (rcolK_any Ap np cp ps _ HP.out hnp).mono ?_
  rintro e w2 ⟨rfl, rfl⟩
  obtain ⟨b2, H2⟩ : ∃ z, Hid (colB ps = z) := ⟨_, rfl⟩
  rw [H2.out]
  cases b2
  · obtain rfl : 1 = er := by rw [← Her.out, checkE, H1.out, H2.out]; rfl
    go_wp2
    go_ret
    exact ⟨rfl, HB.out⟩
  have Hs : Hid ((if p.nodes ≤ 24 ∧ p.depth ≤ 8 then (if validB cols ps p = true then 0 else 50) else 2) = er) := Lib.hid (by rw [← Her.out, checkE, H1.out, H2.out]; rfl)
  clear Her H1 H2
  have zx := HX.out.cell
  go_wp2_with fail
  refine (rnodes_any p.nodes p A n c 0 _ (Nat.le_refl _) HS.out (by omega) (by omega)).mono ?_
  rintro e w3 ⟨rfl, hb3⟩
  have HS3 := Lib.hid (HS.out.keep (keeps_of hb3))
  have HC3 := Lib.hid (HC.out.keep (keeps_of hb3))
  have HP3 := Lib.hid (HP.out.keep (keeps_of hb3))
  have HX3 := Lib.hid (HX.out.below hb3)
  have HB3 := Lib.hid (Below.next HB.out hb3)
  clear HS HC HP HX HB zx hb3
  have zx := HX3.out.cell
  obtain ⟨m, Hm⟩ : ∃ z, Hid (min 25 (0 + (p.nodes : Int)) = z) := ⟨_, rfl⟩
  rw [Hm.out]
  by_cases hn : p.nodes ≤ 24
  rotate_left
  · rw [if_neg (fun h => hn h.1)] at Hs
    obtain rfl : 2 = er := Hs.out
    have g1 : decide (24 < m) = true := decide_eq_true (by have := Hm.out; omega)
    clear hn
    go_wp2
    go_ret
    exact ⟨rfl, HB3.out⟩
  have Hn := Lib.hid hn
  have g1 : decide (24 < m) = false := decide_eq_false (by have := Hm.out; omega)
  clear hn
  go_wp2_with fail
  refine (rdeeper_any p.nodes p A n c 8 8 _ (Nat.le_refl _) (by have := Hn.out; omega) HS3.out rfl (by omega)).mono ?_
  rintro e w4 ⟨rfl, hb4⟩
  have HS4 := Lib.hid (HS3.out.keep (keeps_of hb4))
  have HC4 := Lib.hid (HC3.out.keep (keeps_of hb4))
  have HP4 := Lib.hid (HP3.out.keep (keeps_of hb4))
  have HX4 := Lib.hid (HX3.out.below hb4)
  have HB4 := Lib.hid (Below.next HB3.out hb4)
  clear HS3 HC3 HP3 HX3 HB3 zx hb4 g1
  by_cases hd : p.depth ≤ 8
  rotate_left
  · rw [if_neg (fun h => hd h.2)] at Hs
    rw [decide_eq_true (show 8 < p.depth by omega)]
    obtain rfl : 2 = er := Hs.out
    clear hd
    go_wp2
    go_ret
    exact ⟨rfl, HB4.out⟩
  rw [if_pos ⟨Hn.out, hd⟩] at Hs
  rw [decide_eq_false (show ¬ 8 < p.depth by omega)]
  clear hd
  have zx := HX4.out.cell
  go_wp2_with fail
  refine (rpvalid_any cols ps p.nodes p A n c Ac nc cc Ap np cp _ (Nat.le_refl _) (by have := Hn.out; omega) HS4.out HC4.out HP4.out).mono ?_
  rintro e w5 ⟨rfl, hb5⟩
  have HB5 := Lib.hid (Below.next HB4.out hb5)
  obtain ⟨v, Hv⟩ : ∃ z, Hid (validB cols ps p = z) := ⟨_, rfl⟩
  rw [Hv.out] at Hs ⊢
  clear hb5 zx
  cases v
  · obtain rfl : 50 = er := Hs.out
    go_wp2
    go_ret
    exact ⟨rfl, HB5.out⟩
  · obtain rfl : 0 = er := Hs.out
    go_wp2
    go_ret
    exact ⟨rfl, HB5.out⟩
end Go.Proofs.YtponkkljlbifmaaGreat

/-
  Case.Predicate: a valid predicate, laid into new memory.
-/
namespace Go.Proofs.YtponkkljlbifmaaGreat
open Go.RowKit
set_option maxRecDepth 100000
open Pd
set_option linter.unusedVariables false

set_option maxRecDepth 100000 in
set_option maxHeartbeats 16000000 in
theorem predicateK_any (K : Nat) (cols : List Int) (d : Nat) (hd : d ≤ 3) (hdK : tnD d ≤ K) (h1K : tnD 1 ≤ K) (B g : Nat) (Ac : Option Addr) (nc cc : Nat) (dz : Int) (w : World) (hdz : dz = (d : Int)) (hc : CaseAt w g) (hl : ClJ B g w Ac nc cols) (hn : nc ≤ 12) (hcb : colB cols = true) :
    Calls Tryz.prog 22 #[.pointer (some ⟨g, 0, none⟩), .slice Ac nc cc, .slice none 0 0, .int .i64 dz] w fun e w' => TreeR cols K w g e w' := by
  have HCB := Lib.hid hcb
  have HDZ := Lib.hid hdz
  obtain ⟨W0, HW0⟩ : ∃ W : World, Hid (w.alloc (.cells #[.int .i64 0, .int .i64 0, .int .i64 0, .int .i64 0, .int .i64 0, .int .i64 0, .string ⟨#[]⟩, .int .i64 0, .int .i64 0, .int .i64 0, .int .i64 0, .string ⟨#[]⟩, .slice none 0 0] 71) = W) := ⟨_, rfl⟩
  obtain ⟨T, HTe⟩ : ∃ z, Hid (w.heap.size = z) := ⟨_, rfl⟩
  have HQ : Hid (TrS w g T W0 ∧ T + 1 ≤ W0.heap.size) := by
    rw [← HW0.out, ← HTe.out]
    exact Lib.hid ⟨⟨Blk.new _ _ _, hc.below ((Below.refl _ _).alloc (Nat.le_refl _) _), But.alloc _ _, Nat.le_refl _, hc.lt⟩, by simp⟩
  have HL : Hid (ClJ B g W0 Ac nc cols) := Lib.hid (hl.case HQ.out.1.bu)
  have HT1 := Lib.hid HQ.out.2
  replace HQ := Lib.hid HQ.out.1
  clear hc hl hcb hdz
  go_enter Tryz.func22, Tryz.ntmps22
  go_wp2_with fail
  rw [HW0.out, HTe.out]
  refine (tree_any cols d hd B g Ac nc cc dz _ HDZ.out HQ.out.cs HL.out hn HCB.out).mono ?_
  rintro e w1 ⟨p, Ap, np, cp, rfl, hP, hv, hw, hc1, hb1, hk1⟩
  have HPp : Hid (PrdL (fun b => w.heap.size ≤ b ∧ b ≠ T) w1 Ap np cp p) := Lib.hid (hP.mono fun b hl _ => by have := HT1.out; have := HQ.out.hT; exact ⟨by omega, by omega⟩)
  have HKp : Hid (p.nodes ≤ K) := Lib.hid (Nat.le_trans hk1 hdK)
  have HVp := Lib.hid (And.intro hv hw)
  replace HQ := Lib.hid (HQ.out.step hb1 hc1)
  replace HL := Lib.hid (HL.out.case hb1)
  clear hP hv hw hc1 hb1 hk1 HW0 HT1
  unfold pdV
  have hal : Below w1.heap.size w1 (w1.alloc (.cells #[.int .i64 p.h.op, .int .i64 p.h.cm, .int .i64 p.h.l.k, .int .i64 p.h.l.ix, .int .i64 p.h.l.v.k, .int .i64 p.h.l.v.i, .string p.h.l.v.t, .int .i64 p.h.r.k, .int .i64 p.h.r.ix, .int .i64 p.h.r.v.k, .int .i64 p.h.r.v.i, .string p.h.r.v.t, .slice Ap np cp] 71)) := (Below.refl _ _).alloc (Nat.le_refl _) _
  have HX := Lib.hid (Blk.new w1 71 #[.int .i64 p.h.op, .int .i64 p.h.cm, .int .i64 p.h.l.k, .int .i64 p.h.l.ix, .int .i64 p.h.l.v.k, .int .i64 p.h.l.v.i, .string p.h.l.v.t, .int .i64 p.h.r.k, .int .i64 p.h.r.ix, .int .i64 p.h.r.v.k, .int .i64 p.h.r.v.i, .string p.h.r.v.t, .slice Ap np cp])
  obtain ⟨X, HXe⟩ : ∃ z, Hid (w1.heap.size = z) := ⟨_, rfl⟩
  rw [HXe.out] at HX
  replace HQ := Lib.hid (HQ.out.below hal)
  replace HL := Lib.hid (HL.out.below hal)
  replace HPp := Lib.hid (HPp.out.below hal)
  clear hal
  go_upto_region 2 with fail
  rw [HXe.out]
  generalize hWW : w1.alloc (.cells #[.int .i64 p.h.op, .int .i64 p.h.cm, .int .i64 p.h.l.k, .int .i64 p.h.l.ix, .int .i64 p.h.l.v.k, .int .i64 p.h.l.v.i, .string p.h.l.v.t, .int .i64 p.h.r.k, .int .i64 p.h.r.ix, .int .i64 p.h.r.v.k, .int .i64 p.h.r.v.i, .string p.h.r.v.t, .slice Ap np cp] 71) = w2 at *
  clear hWW HXe
  have zx := HX.out.cell
  go_wp2_with fail
  refine (rpcheck_any cols [] p Ap np cp Ac nc cc none 0 0 _ HPp.out.s HL.out.sl Sl.nil (by omega) (by omega)).mono ?_
  rintro e w3 ⟨rfl, hb3⟩
  obtain ⟨er, Her⟩ : ∃ z, Hid (checkE cols [] p = z) := ⟨_, rfl⟩
  rw [Her.out]
  replace HX := Lib.hid (HX.out.below hb3)
  replace HQ := Lib.hid (HQ.out.below hb3)
  replace HL := Lib.hid (HL.out.below hb3)
  replace HPp := Lib.hid (HPp.out.below hb3)
  clear hb3 zx
  by_cases h2 : er = 2
  · subst h2
    clear HX Her HPp HVp HKp
    have HT1 : Hid (T + 1 ≤ w3.heap.size) := Lib.hid HQ.out.bt.lt
    go_wp2_with fail
    refine (tree_any cols 1 (by omega) B g Ac nc cc 1 _ rfl HQ.out.cs HL.out hn HCB.out).mono ?_
    rintro e w4 ⟨q, Aq, nq, cq, rfl, hP, hv, hw, hc4, hb4, hk4⟩
    have hsz := HQ.out.bu.size
    have HPq : Hid (PrdL (fun b => w.heap.size ≤ b ∧ b ≠ T) w4 Aq nq cq q) := Lib.hid (hP.mono fun b hl _ => by have := HT1.out; exact ⟨by omega, by omega⟩)
    have HKq : Hid (q.nodes ≤ K) := Lib.hid (Nat.le_trans hk4 h1K)
    have HVq := Lib.hid (And.intro hv hw)
    replace HQ := Lib.hid (HQ.out.step hb4 hc4)
    clear hP hv hw hc4 hb4 hk4 hsz HT1 HL HCB HDZ
    unfold pdV
    have HE : Hid (TreeR cols K w g (.returned (.agg #[.int .i64 q.h.op, .int .i64 q.h.cm, .int .i64 q.h.l.k, .int .i64 q.h.l.ix, .int .i64 q.h.l.v.k, .int .i64 q.h.l.v.i, .string q.h.l.v.t, .int .i64 q.h.r.k, .int .i64 q.h.r.ix, .int .i64 q.h.r.v.k, .int .i64 q.h.r.v.i, .string q.h.r.v.t, .slice Aq nq cq])) (putL w4 T 0 [.int .i64 q.h.op, .int .i64 q.h.cm, .int .i64 q.h.l.k, .int .i64 q.h.l.ix, .int .i64 q.h.l.v.k, .int .i64 q.h.l.v.i, .string q.h.l.v.t, .int .i64 q.h.r.k, .int .i64 q.h.r.ix, .int .i64 q.h.r.v.k, .int .i64 q.h.r.v.i, .string q.h.r.v.t, .slice Aq nq cq])) := Lib.hid (HQ.out.fin (p := q) HPq.out HVq.out.1 HVq.out.2 HKq.out _ rfl)
    obtain ⟨yc0, yf0, yc1, yf1, yc2, yf2, yc3, yf3, yc4, yf4, yc5, yf5, yc6, yf6, yc7, yf7, yc8, yf8, yc9, yf9, yc10, yf10, yc11, yf11, yc12, yf12, yc13, yB, yE⟩ := put13 (w := w4) (HQ.out.bt) (.int .i64 q.h.op) (.int .i64 q.h.cm) (.int .i64 q.h.l.k) (.int .i64 q.h.l.ix) (.int .i64 q.h.l.v.k) (.int .i64 q.h.l.v.i) (.string q.h.l.v.t) (.int .i64 q.h.r.k) (.int .i64 q.h.r.ix) (.int .i64 q.h.r.v.k) (.int .i64 q.h.r.v.i) (.string q.h.r.v.t) (.slice Aq nq cq)
    rw [yE] at HE
    clear yB yE
    clear HQ HPq HVq HKq HTe
    go_wp2
    exact bodyPost_ret (v := .agg #[.int .i64 q.h.op, .int .i64 q.h.cm, .int .i64 q.h.l.k, .int .i64 q.h.l.ix, .int .i64 q.h.l.v.k, .int .i64 q.h.l.v.i, .string q.h.l.v.t, .int .i64 q.h.r.k, .int .i64 q.h.r.ix, .int .i64 q.h.r.v.k, .int .i64 q.h.r.v.i, .string q.h.r.v.t, .slice Aq nq cq]) (by simp [results, Tryz.results22, go_sem, yc13]) rfl HE.out
  · have g2 : (er == 2) = false := by simpa using h2
    clear h2 Her HCB HDZ HL
    have zx := HX.out.cell
    have HE : Hid (TreeR cols K w g (.returned (.agg #[.int .i64 p.h.op, .int .i64 p.h.cm, .int .i64 p.h.l.k, .int .i64 p.h.l.ix, .int .i64 p.h.l.v.k, .int .i64 p.h.l.v.i, .string p.h.l.v.t, .int .i64 p.h.r.k, .int .i64 p.h.r.ix, .int .i64 p.h.r.v.k, .int .i64 p.h.r.v.i, .string p.h.r.v.t, .slice Ap np cp])) (putL w3 T 0 [.int .i64 p.h.op, .int .i64 p.h.cm, .int .i64 p.h.l.k, .int .i64 p.h.l.ix, .int .i64 p.h.l.v.k, .int .i64 p.h.l.v.i, .string p.h.l.v.t, .int .i64 p.h.r.k, .int .i64 p.h.r.ix, .int .i64 p.h.r.v.k, .int .i64 p.h.r.v.i, .string p.h.r.v.t, .slice Ap np cp])) := Lib.hid (HQ.out.fin (p := p) HPp.out HVp.out.1 HVp.out.2 HKp.out _ rfl)
    obtain ⟨yc0, yf0, yc1, yf1, yc2, yf2, yc3, yf3, yc4, yf4, yc5, yf5, yc6, yf6, yc7, yf7, yc8, yf8, yc9, yf9, yc10, yf10, yc11, yf11, yc12, yf12, yc13, yB, yE⟩ := put13 (w := w3) (HQ.out.bt) (.int .i64 p.h.op) (.int .i64 p.h.cm) (.int .i64 p.h.l.k) (.int .i64 p.h.l.ix) (.int .i64 p.h.l.v.k) (.int .i64 p.h.l.v.i) (.string p.h.l.v.t) (.int .i64 p.h.r.k) (.int .i64 p.h.r.ix) (.int .i64 p.h.r.v.k) (.int .i64 p.h.r.v.i) (.string p.h.r.v.t) (.slice Ap np cp)
    rw [yE] at HE
    clear yB yE
    clear HQ HPp HVp HKp HTe HX
    go_wp2
    exact bodyPost_ret (v := .agg #[.int .i64 p.h.op, .int .i64 p.h.cm, .int .i64 p.h.l.k, .int .i64 p.h.l.ix, .int .i64 p.h.l.v.k, .int .i64 p.h.l.v.i, .string p.h.l.v.t, .int .i64 p.h.r.k, .int .i64 p.h.r.ix, .int .i64 p.h.r.v.k, .int .i64 p.h.r.v.i, .string p.h.r.v.t, .slice Ap np cp]) (by simp [results, Tryz.results22, go_sem, yc13]) rfl HE.out
end Go.Proofs.YtponkkljlbifmaaGreat
