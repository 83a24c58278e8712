/-
  Texts: RgForm, RgValid.
-/
import Derived.Test.YtmnmckblmoalkaaGreatB9
set_option linter.unusedVariables false
/-
  The program's region function formed: it says whether a region has the canonical form of a width.
-/
namespace Go.Proofs.YtmnmckblmoalkaaGreat
open Go.RowKit
set_option maxRecDepth 100000
open Rg

open Classical in
noncomputable def formB (n : Nat) (r : Rg) : Bool := decide (FormF n r)
theorem formB_true {n : Nat} {r : Rg} : formB n r = true ↔ FormF n r := by simp [formB]
theorem formB_false {n : Nat} {r : Rg} (h : ¬ FormF n r) : formB n r = false := by simp [formB, h]
theorem lo_at {w : World} {A : Option Addr} {n : Nat} {l : List Iv} (h : IvS w A n l) (hn : 0 < n) : ∃ (b o : Nat) (x : Iv), A = some ⟨b, o, none⟩ ∧ lo l = x.f ∧ VlAt w b o x.f := by
  obtain ⟨b, o, x, e, hx, hc⟩ := h.at hn
  have := (IvAt.of hc).from_
  rw [Nat.zero_mul, Nat.add_zero] at this
  refine ⟨b, o, x, e, ?_, this⟩
  cases l with
  | nil => simp at hx
  | cons y l => simp only [List.getElem?_cons_zero, Option.some.injEq] at hx; subst hx; rfl

set_option maxRecDepth 8000 in
set_option maxHeartbeats 8000000 in
theorem formed_any : ∀ (d : Nat) (r : Rg) (x : Int) (f : Bool) (A : Option Addr) (n c : Nat) (w : World), RgS w x f A n c r → r.size ≤ 64 → d ≤ 12 →
    Calls Tryz.prog 101 #[.agg #[.int .i64 x, .bool f, .slice A n c], .int .i64 (d : Int)] w fun e w' => e = .returned (.bool (formB d r)) ∧ Below w.heap.size w w' := by
  intro d
  induction d with
  | zero =>
    intro r x f A n c w hR hs _
    have h0 : formB 0 r = (decide (x = 0) && decide (n = 0)) := by
      rw [Bool.eq_iff_iff, formB_true, formF_zero, hR.hw, ← hR.len]
      simp
    rw [h0]
    have hB0 : Below w.heap.size w (w.alloc (.cells #[.int .i64 x, .bool f, .slice A n c] 27)) := (Below.refl _ _).alloc (Nat.le_refl _) _
    clear h0 hR hs
    by_cases hx : x = 0
    · subst hx
      go_enter Tryz.func101, Tryz.ntmps101
      go_wp2
      go_ret
      refine ⟨ret_bool ?_, hB0⟩
      rw [Bool.eq_iff_iff]
      simp
    · have g1 : (x != 0) = true := by simp [hx]
      have hr : (decide (x = 0) && decide (n = 0)) = false := by simp [hx]
      rw [hr]
      clear hr hx
      go_enter Tryz.func101, Tryz.ntmps101
      go_wp2
      go_ret
      exact ⟨rfl, hB0⟩
  | succ d ih =>
    intro r x f A n c w hR hs hd
    have hB0 : Below w.heap.size w (w.alloc (.cells #[.int .i64 x, .bool f, .slice A n c] 27)) := (Below.refl _ _).alloc (Nat.le_refl _) _
    by_cases hx : x = ((d + 1 : Nat) : Int)
    · cases f
      · have HF : Hid (FormF (d + 1) r ↔ GoodTo d r.parts) := by
          show _ ↔ _
          rw [formF_succ, hR.hw, hR.hf]
          simp [hx, GoodTo]
        have g1 : (x != ((d + 1 : Nat) : Int)) = false := by simp [hx]
        have g2 : (((d + 1 : Nat) : Int) == 0) = false := by simp; omega
        generalize hdd : ((d + 1 : Nat) : Int) = dd at *
        have hdn : n ≤ 64 := by have := hR.len; have := len_le_size r; omega
        have hnc := hR.ok.1
        have HI := Lib.hid ih
        have HR := Lib.hid hR
        have HX := Lib.hid hx
        have HDD := Lib.hid hdd
        have hd1 : dd - 1 = (d : Int) := by omega
        have hd2 : 1 ≤ dd ∧ dd ≤ 12 := by omega
        have HD1 := Lib.hid hd1
        clear ih hR hx hdd hd1
        obtain ⟨W0, HW0⟩ : ∃ W : World, Hid (w.alloc (.cells #[.int .i64 x, .bool false, .slice A n c] 27) = W) := ⟨_, rfl⟩
        rw [HW0.out] at hB0
        have E1 : Hid (Blk W0 w.heap.size 27 #[.int .i64 x, .bool false, .slice A n c]) := by
          have := Blk.new w 27 #[.int .i64 x, .bool false, .slice A n c]
          rw [HW0.out] at this
          exact this
        go_enter Tryz.func101, Tryz.ntmps101
        go_wp2
        go_loopw [26] (fun i wr => ∃ k : Nat, k ≤ n ∧ i = .int .i64 (k : Int) ∧ Hid (GoodTo d (r.parts.take k)) ∧ Below W0.heap.size W0 wr) (fun i _ => n - (intOf i).toNat)
        case atStart => exact ⟨0, by omega, rfl, ⟨by simp, by simp⟩, by rw [HW0.out]; exact Below.refl _ _⟩
        case round =>
          obtain ⟨k, hk, rfl, hinv, hb0⟩ := hrel
          have hb := Below.next hB0 hb0
          by_cases hlt : k < n
          · obtain ⟨b1, o1, p, A1, n1, c1, x1, f1, A2, n2, c2, rfl, hp, hpt⟩ := (HR.out.keep (keeps_of hb)).at hlt
            have HPT := Lib.hid hpt
            have HP := Lib.hid hp
            have hps := size_at hp
            obtain ⟨p0, p1, p2, p3, pok, pvs, prg⟩ := hpt
            have PV := Lib.hid pvs
            have PR := Lib.hid prg
            have hn1 := pvs.len
            have Hn1 := Lib.hid hn1
            have z1 := (E1.out.below hb0).cell
            have Pb := Lib.hid (Blk.new wr 86 #[.slice A1 n1 c1, .int .i64 x1, .bool f1, .slice A2 n2 c2])
            have hba : Below wr.heap.size wr (wr.alloc (.cells #[.slice A1 n1 c1, .int .i64 x1, .bool f1, .slice A2 n2 c2] 86)) := (Below.refl _ _).alloc (Nat.le_refl _) _
            have HBA := Lib.hid hba
            clear hp pok pvs prg hn1 hba
            by_cases hn0 : n1 = 0
            · have g3 : ((n1 : Int) == 0) = true := by simp [hn0]
              have Hno : Hid (¬ PtOk d p) := Lib.hid fun h => h.1 (List.eq_nil_of_length_eq_zero (by rw [Hn1.out, hn0]))
              clear hn0
              go_wp2
              go_ret
              exact ⟨ret_bool (formB_false (not_ptok HP.out Hno.out)).symm, Below.next hb HBA.out⟩
            · have g3 : ((n1 : Int) == 0) = false := by simp [hn0]
              have hn0' : 0 < n1 := by omega
              clear hn0
              go_wp2_with fail
              refine (validL_any A1 n1 c1 p.1 _ (PV.out.keep (keeps_of HBA.out))).mono ?_
              rintro e w1 ⟨rfl, hb1⟩
              obtain ⟨v1, Hv1⟩ : ∃ t, Hid (validL p.1 = t) := ⟨_, rfl⟩
              rw [Hv1.out]
              have hB1 := Below.next HBA.out hb1
              have y1 := (Pb.out.below hb1).cell
              clear z1 p0 p1 p2 p3
              cases v1
              · have Hno : Hid (¬ PtOk d p) := Lib.hid fun h => by have h1 := h.2.1; rw [Hv1.out] at h1; cases h1
                go_wp2
                go_ret
                exact ⟨ret_bool (formB_false (not_ptok HP.out Hno.out)).symm, Below.next hb hB1⟩
              · go_wp2_with fail
                refine (rempty_any x1 f1 A2 n2 c2 p.2 _ (PR.out.keep (keeps_of hB1))).mono ?_
                rintro e w2 ⟨rfl, hb2⟩
                obtain ⟨v2, Hv2⟩ : ∃ t, Hid (p.2.nix = t) := ⟨_, rfl⟩
                rw [Hv2.out]
                have hB2 := Below.next hB1 hb2
                have y2 := ((Pb.out.below hb1).below hb2).cell
                clear y1
                cases v2
                · go_wp2_with fail
                  rw [HD1.out]
                  refine (HI.out p.2 x1 f1 A2 n2 c2 _ (PR.out.keep (keeps_of hB2)) (by omega) (by omega)).mono ?_
                  rintro e w3 ⟨rfl, hb3⟩
                  obtain ⟨v3, Hv3⟩ : ∃ t, Hid (formB d p.2 = t) := ⟨_, rfl⟩
                  rw [Hv3.out]
                  have hB3 := Below.next hB2 hb3
                  have Y3 := Lib.hid (((Pb.out.below hb1).below hb2).below hb3)
                  have y3 := Y3.out.cell
                  clear y2
                  cases v3
                  · have Hno : Hid (¬ PtOk d p) := Lib.hid fun h => by have h1 := formB_true.2 ⟨h.2.2.2.1, h.2.2.2.2⟩; rw [Hv3.out] at h1; cases h1
                    go_wp2
                    go_ret
                    exact ⟨ret_bool (formB_false (not_ptok HP.out Hno.out)).symm, Below.next hb hB3⟩
                  · have Hpo : Hid (PtOk d p) := by
                      have h1 := formB_true.1 Hv3.out
                      refine ⟨fun h => ?_, Hv1.out, Hv2.out, h1.1, h1.2⟩
                      have := Hn1.out
                      rw [h] at this
                      simp at this
                      omega
                    have HB3 := Lib.hid hB3
                    have hbw := Lib.hid (Below.next hb0 hB3)
                    clear hb1 hb2 hb3 hB1 hB2 hB3 HBA Pb Hv1 Hv2 Hv3
                    go_wp2
                    have hca := @cell_after w3
                    have hkc : k ≤ c := by omega
                    have z3 := (E1.out.below hbw.out).cell
                    refine wp_region_later (by kernel_rfl) (by kernel_rfl) ?_
                    rcases Nat.eq_zero_or_pos k with hk0 | hk0
                    · have g0 : decide (0 < k) = false := by simp [hk0]
                      have HK0 := Lib.hid hk0
                      clear hk0
                      repeat (go_big_quiet_step (fail))
                      refine wpQuiet_nil ?_
                      intro w4 hb4
                      have z4 := (E1.out.below (Below.next hbw.out hb4)).cell
                      have HB4 := Lib.hid hb4
                      clear hca z3 y3 hb4 g0
                      go_wp2
                      go_loopw [80] (fun i wr' => i = .int .i64 0 ∧ Below w4.heap.size w4 wr') (fun _ _ => 0)
                      case atStart => exact ⟨rfl, Below.refl _ _⟩
                      case round =>
                        obtain ⟨rfl, hb5⟩ := hrel
                        have g5 : decide (0 < k) = false := by have := HK0.out; simp; omega
                        go_wp2
                        go_roundw
                        case rel =>
                          refine ⟨k + 1, by omega, by go_num, ?_, Below.next (Below.next hbw.out HB4.out) hb5⟩
                          show GoodTo _ _
                          rw [take_snoc' HP.out]
                          refine hinv.out.snoc Hpo.out fun q hq => ?_
                          rw [HK0.out] at hq
                          simp at hq
                        case measure => simp [intOf]; omega
                    · have g0 : decide (0 < k) = true := by simp [hk0]
                      obtain ⟨b6, o6, pp, B1, m1, d1, x2, f2, B2, m2, d2, hA6, hpp, hppt⟩ := (HR.out.keep (keeps_of hb)).at (show k - 1 < n by omega)
                      obtain ⟨rfl, rfl⟩ : b1 = b6 ∧ o1 = o6 := by injection hA6 with h; injection h with h1 h2; exact ⟨h1, h2⟩
                      have hpp3 := hppt.keep (keeps_of HB3.out)
                      have Hpk : Hid (PtOk d pp) := hinv.out.1 pp (List.mem_of_getElem? (i := k - 1) (by rw [List.getElem?_take, if_pos (by omega)]; exact hpp))
                      have hm1 : 0 < m1 := by
                        have h1 := hpp3.vs.len
                        have h2 := Hpk.out.1
                        rcases Nat.eq_zero_or_pos m1 with h | h
                        · exact absurd (List.eq_nil_of_length_eq_zero (by omega)) h2
                        · exact h
                      obtain ⟨b7, o7, u, rfl, hlu, hu⟩ := lo_at hpp3.vs hm1
                      obtain ⟨b8, o8, v, rfl, hlv, hv⟩ := lo_at (PV.out.keep (keeps_of HB3.out)) hn0'
                      obtain ⟨q0, _, _, _, _, _, _⟩ := hpp3
                      obtain ⟨⟨uk, ui, ut⟩, u', uo⟩ := u
                      obtain ⟨⟨vk, vi, vt⟩, v', vo⟩ := v
                      obtain ⟨u0, u1, u2⟩ := hu
                      obtain ⟨v0, v1, v2⟩ := hv
                      dsimp only at hlu hlv u0 u1 u2 v0 v1 v2
                      have HLU := Lib.hid hlu
                      have HLV := Lib.hid hlv
                      have HPP := Lib.hid hpp
                      have HPPT := Lib.hid hppt
                      clear hlu hlv hpp hA6 hppt
                      obtain ⟨cv, Hcv⟩ : ∃ t, Hid (cmpV ⟨uk, ui, ut⟩ ⟨vk, vi, vt⟩ = t) := ⟨_, rfl⟩
                      repeat (go_big_quiet_step (first | (go_at_call 87; exact later_of (compare_any ⟨_, _, _⟩ ⟨_, _, _⟩ _))))
                      refine wpQuiet_nil ?_
                      intro w4 hb4
                      rw [Hcv.out]
                      have z4 := (E1.out.below (Below.next hbw.out hb4)).cell
                      have HB4 := Lib.hid (Below.next HB3.out hb4)
                      have Y4 := Lib.hid (Y3.out.below hb4)
                      clear hca z3 y3 hb4 g0 q0 u0 u1 u2 v0 v1 v2 Y3 HB3
                      rcases Int.lt_or_le cv 0 with hc0 | hc0
                      · have g5 : decide (0 ≤ cv) = false := by simp; omega
                        rw [g5]
                        have PV4 := Lib.hid (PV.out.keep (keeps_of HB4.out))
                        have PR4 := Lib.hid (PR.out.keep (keeps_of HB4.out))
                        have Hfit := Lib.hid Hpo.out.2.2.2.2
                        go_wp2
                        go_loopw [80] (fun i wr' => ∃ j : Nat, j ≤ k ∧ i = .int .i64 (j : Int) ∧ Hid (∀ q ∈ r.parts.take j, disj q.1 p.1 ∧ q.2 ≠ p.2) ∧ Below w4.heap.size w4 wr') (fun i _ => k - (intOf i).toNat)
                        case atStart => exact ⟨0, by omega, rfl, (by show ∀ q ∈ _, _; simp), Below.refl _ _⟩
                        case round =>
                          obtain ⟨j, hj, rfl, hinv2, hb5⟩ := hrel
                          have hb5' := Below.next HB4.out hb5
                          by_cases hjk : j < k
                          · obtain ⟨b9, o9, q, C1, l1, e1, x3, f3, C2, l2, e2, hA9, hq, hqt⟩ := (HR.out.keep (keeps_of (Below.next hb hb5'))).at (show j < n by omega)
                            obtain ⟨rfl, rfl⟩ : b1 = b9 ∧ o1 = o9 := by injection hA9 with h; injection h with h1 h2; exact ⟨h1, h2⟩
                            have Hqo : Hid (PtOk d q) := hinv.out.1 q (List.mem_of_getElem? (i := j) (by rw [List.getElem?_take, if_pos (by omega)]; exact hq))
                            have hqs := size_at hq
                            obtain ⟨q0, q1, q2, q3, qok, qvs, qrg⟩ := hqt
                            have QV := Lib.hid qvs
                            have QR := Lib.hid qrg
                            have HQ := Lib.hid hq
                            have hy5 := Y4.out.below hb5
                            have hl5 := hy5.lt
                            have Y5 := Lib.hid (hy5.alloc (.cells #[.slice C1 l1 e1, .int .i64 x3, .bool f3, .slice C2 l2 e2] 86))
                            have y5 := Y5.out.cell
                            have Q5 := Lib.hid (Blk.new wr 86 #[.slice C1 l1 e1, .int .i64 x3, .bool f3, .slice C2 l2 e2])
                            have hba5 : Below wr.heap.size wr (wr.alloc (.cells #[.slice C1 l1 e1, .int .i64 x3, .bool f3, .slice C2 l2 e2] 86)) := (Below.refl _ _).alloc (Nat.le_refl _) _
                            have HB5 := Lib.hid (Below.next hb5 hba5)
                            have HBA5 := Lib.hid hba5
                            clear hq qok qvs qrg hA9 hy5 hba5
                            go_wp2_with fail
                            refine (intersect_any C1 (some ⟨b8, o8, none⟩) l1 n1 e1 c1 q.1 p.1 _ (QV.out.keep (keeps_of HBA5.out)) (PV4.out.keep (keeps_of HB5.out))).mono ?_
                            rintro e w6 ⟨A6, c6, rfl, hS6, hb6⟩
                            have HM := Lib.hid (meet_iff Hqo.out.2.1 Hpo.out.2.1)
                            obtain ⟨rr, Hrr⟩ : ∃ t, Hid (combineL opI q.1 p.1 = t) := ⟨_, rfl⟩
                            rw [Hrr.out] at hS6 HM
                            rw [Hrr.out]
                            obtain ⟨rl, re⟩ := rr
                            dsimp only at hS6
                            dsimp only at HM
                            have Y6 := (Y5.out.below hb6).cell
                            have Q6 := (Q5.out.below hb6).cell
                            have HB6x := Lib.hid hb6
                            have HB6 := Lib.hid (Below.next HB5.out hb6)
                            clear y5 q0 q1 q2 q3 hS6 hb6
                            have HBR := Lib.hid (Below.next hb (Below.next HB4.out HB6.out))
                            by_cases hre : re = 0
                            · have g6 : (re != 0) = false := by simp [hre]
                              have HRE := Lib.hid hre
                              clear hre
                              by_cases hrl : rl.length = 0
                              · have g7 : decide (0 < rl.length) = false := by simp [List.eq_nil_of_length_eq_zero hrl]
                                have Hdj : Hid (disj q.1 p.1) := HM.out.1 ⟨HRE.out, hrl⟩
                                clear hrl
                                go_wp2_with fail
                                refine (rsame_any q.2 x3 f3 C2 l2 e2 x1 f1 A2 n2 c2 p.2 _ (QR.out.keep ((keeps_of HBA5.out).trans (keeps_of HB6x.out))) (PR4.out.keep (keeps_of HB6.out)) (by omega) Hqo.out.2.2.2.2).mono ?_
                                rintro e w7 ⟨rfl, hb7⟩
                                obtain ⟨sm, Hsm⟩ : ∃ t, Hid (decide (q.2 = p.2) = t) := ⟨_, rfl⟩
                                rw [Hsm.out]
                                clear Y6 Q6
                                cases sm
                                · go_wp2
                                  go_roundw
                                  case rel =>
                                    refine ⟨j + 1, by omega, by go_num, ?_, Below.next HB6.out hb7⟩
                                    show ∀ s ∈ _, _
                                    rw [take_snoc' HQ.out]
                                    intro s hs
                                    rcases List.mem_append.1 hs with hs | hs
                                    · exact hinv2.out s hs
                                    · have : s = q := by simpa using hs
                                      rw [this]
                                      exact ⟨Hdj.out, by simpa using Hsm.out⟩
                                  case measure => simp [intOf]; omega
                                · have Hno : Hid (¬ FormF (d + 1) r) := Lib.hid fun h => (rel_at h hjk HQ.out HP.out).2.2 (by simpa using Hsm.out)
                                  go_wp2
                                  go_ret
                                  exact ⟨ret_bool (formB_false Hno.out).symm, Below.next HBR.out hb7⟩
                              · have g7 : decide (0 < rl.length) = true := by simp only [decide_eq_true_eq]; omega
                                have Hno : Hid (¬ FormF (d + 1) r) := Lib.hid fun h => hrl (HM.out.2 (rel_at h hjk HQ.out HP.out).2.1).2
                                clear hrl
                                go_wp2
                                go_ret
                                exact ⟨ret_bool (formB_false Hno.out).symm, HBR.out⟩
                            · have g6 : (re != 0) = true := by simp [hre]
                              have Hno : Hid (¬ FormF (d + 1) r) := Lib.hid fun h => hre (HM.out.2 (rel_at h hjk HQ.out HP.out).2.1).1
                              clear hre
                              go_wp2
                              go_ret
                              exact ⟨ret_bool (formB_false Hno.out).symm, HBR.out⟩
                          · go_wp2
                            go_roundw
                            case rel =>
                              refine ⟨k + 1, by omega, by go_num, ?_, Below.next hb0 hb5'⟩
                              show GoodTo _ _
                              have hkj : j = k := by omega
                              have h2 := hinv2.out
                              rw [hkj] at h2
                              rw [take_snoc' HP.out]
                              refine hinv.out.snoc Hpo.out fun q hq => ⟨?_, h2 q hq⟩
                              have h3 := lo_take (k := k - 1) (p := p) (by rw [Nat.sub_add_cancel hk0]; exact hinv.out) HPP.out (by rw [HLU.out, HLV.out, Hcv.out]; exact hc0)
                              rw [Nat.sub_add_cancel hk0] at h3
                              exact h3 q hq
                            case measure => simp [intOf]; omega
                      · have g5 : decide (0 ≤ cv) = true := by simp; omega
                        have Hno : Hid (¬ FormF (d + 1) r) := Lib.hid fun h => by
                          have := (rel_at h (show k - 1 < k by omega) HPP.out HP.out).1
                          rw [HLU.out, HLV.out, Hcv.out] at this
                          omega
                        go_wp2
                        go_ret
                        exact ⟨ret_bool (formB_false Hno.out).symm, Below.next hb HB4.out⟩
                · have Hno : Hid (¬ PtOk d p) := Lib.hid fun h => by have h1 := h.2.2.1; rw [Hv2.out] at h1; cases h1
                  go_wp2
                  go_ret
                  exact ⟨ret_bool (formB_false (not_ptok HP.out Hno.out)).symm, Below.next hb hB2⟩
          · go_wp2
            go_ret
            refine ⟨ret_bool ?_, hb⟩
            have h1 := hinv.out
            rw [List.take_of_length_le (by rw [len_parts]; have := HR.out.len; omega)] at h1
            exact (formB_true.2 (HF.out.2 h1)).symm
      · rw [formB_false (fun h => by have := ((formF_succ d r).1 h).2.1; rw [hR.hf] at this; cases this)]
        have g1 : (x != ((d + 1 : Nat) : Int)) = false := by simp [hx]
        have g2 : (((d + 1 : Nat) : Int) == 0) = false := by simp; omega
        generalize ((d + 1 : Nat) : Int) = dd at *
        clear ih hR hx
        go_enter Tryz.func101, Tryz.ntmps101
        go_wp2
        go_ret
        exact ⟨rfl, hB0⟩
    · rw [formB_false (fun h => hx (by rw [← hR.hw]; exact ((formF_succ d r).1 h).1))]
      have g1 : (x != ((d + 1 : Nat) : Int)) = true := by simp only [bne_iff_ne]; exact hx
      generalize ((d + 1 : Nat) : Int) = dd at *
      clear ih hR hx
      go_enter Tryz.func101, Tryz.ntmps101
      go_wp2
      go_ret
      exact ⟨rfl, hB0⟩
end Go.Proofs.YtmnmckblmoalkaaGreat

/-
  The program's region functions Valid, Size, Empty.
-/
namespace Go.Proofs.YtmnmckblmoalkaaGreat
open Go.RowKit
set_option maxRecDepth 100000
open Rg

/-- a region is canonical, with all limits -/
def OkR (r : Rg) : Prop := 0 ≤ r.w ∧ r.w ≤ 12 ∧ r.size ≤ 64 ∧ FormF r.w.toNat r
open Classical in
noncomputable def okB (r : Rg) : Bool := decide (OkR r)
theorem okB_true {r : Rg} : okB r = true ↔ OkR r := by simp [okB]
theorem okB_false {r : Rg} (h : ¬ OkR r) : okB r = false := by simp [okB, h]

set_option maxHeartbeats 1000000 in
theorem rvalidR_any (r : Rg) (x : Int) (f : Bool) (A : Option Addr) (n c : Nat) (w : World) (hR : RgS w x f A n c r) :
    Calls Tryz.prog 50 #[.agg #[.int .i64 x, .bool f, .slice A n c]] w fun e w' => e = .returned (.bool (okB r)) ∧ Below w.heap.size w w' := by
  have hx := hR.hw
  have HR := Lib.hid hR
  have HX := Lib.hid hx
  clear hR hx
  have E0 := Lib.hid (Blk.new w 27 #[.int .i64 x, .bool f, .slice A n c])
  have hB0 : Below w.heap.size w (w.alloc (.cells #[.int .i64 x, .bool f, .slice A n c] 27)) := (Below.refl _ _).alloc (Nat.le_refl _) _
  have HB0 := Lib.hid hB0
  clear hB0
  have HB1 := Lib.hid ((HB0.out).alloc (by simp) (.cells #[.int .i64 64] 3))
  rcases Int.lt_or_le x 0 with h0 | h0
  · rw [okB_false (fun h => by have h1 := h.1; rw [HX.out] at h1; omega)]
    have g1 : decide (0 ≤ x) = false := by simp; omega
    go_enter Tryz.func50, Tryz.ntmps50
    go_wp2
    go_ret
    exact ⟨rfl, HB1.out⟩
  · have g1 : decide (0 ≤ x) = true := by simp; omega
    rcases Int.lt_or_le 12 x with h1 | h1
    · rw [okB_false (fun h => by have h2 := h.2.1; rw [HX.out] at h2; omega)]
      have g2 : decide (x ≤ 12) = false := by simp; omega
      go_enter Tryz.func50, Tryz.ntmps50
      go_wp2
      go_ret
      exact ⟨rfl, HB1.out⟩
    · have g2 : decide (x ≤ 12) = true := by simp; omega
      have hfew := few_any (w.alloc (.cells #[.int .i64 x, .bool f, .slice A n c] 27)) (w.heap.size + 1) (by simp) r x f A n c 64 ((w.alloc (.cells #[.int .i64 x, .bool f, .slice A n c] 27)).alloc (.cells #[.int .i64 64] 3)) (HR.out.keep (keeps_alloc _ _)) (by omega) ((Below.refl _ _).alloc (Nat.le_refl _) _) (by
        have := Blk.new (w.alloc (.cells #[.int .i64 x, .bool f, .slice A n c] 27)) 3 #[.int .i64 64]
        rw [World.size_alloc] at this
        exact this)
      have HFEW := Lib.hid hfew
      clear hfew
      go_enter Tryz.func50, Tryz.ntmps50
      go_wp2_with fail
      refine HFEW.out.mono ?_
      rintro e w1 ⟨rfl, hb1, _⟩
      have hz := (E0.out.below hb1).cell
      have hB2 := Below.next HB0.out hb1
      by_cases hs : r.size ≤ 64
      · have g3 : decide (r.size ≤ 64) = true := by simp [hs]
        rw [g3]
        obtain ⟨d, rfl⟩ := Int.eq_ofNat_of_zero_le h0
        go_wp2_with fail
        refine (formed_any d r _ f A n c _ (HR.out.keep (keeps_of hB2)) hs (by omega)).mono ?_
        rintro e w2 ⟨rfl, hb2⟩
        go_wp2
        go_ret
        refine ⟨ret_bool ?_, Below.next hB2 hb2⟩
        rw [Bool.eq_iff_iff, okB_true, formB_true]
        unfold OkR
        rw [HX.out]
        constructor
        · intro h; exact ⟨h0, h1, hs, h⟩
        · intro h; exact h.2.2.2
      · have g3 : decide (r.size ≤ 64) = false := by simp; omega
        rw [g3]
        have Hno := Lib.hid (okB_false (fun h => hs h.2.2.1))
        go_wp2
        go_ret
        exact ⟨ret_bool Hno.out.symm, hB2⟩

theorem sizeR_any (r : Rg) (x : Int) (f : Bool) (A : Option Addr) (n c : Nat) (w : World) (hR : RgS w x f A n c r) :
    Calls Tryz.prog 56 #[.agg #[.int .i64 x, .bool f, .slice A n c]] w fun e w' => e = .returned (.int .i64 (if okB r then (r.size : Int) else 0)) ∧ Below w.heap.size w w' := by
  have HR := Lib.hid hR
  clear hR
  generalize hz : (if okB r then (r.size : Int) else 0) = z
  have HZ := Lib.hid hz
  clear hz
  have E0 := Lib.hid (Blk.new w 27 #[.int .i64 x, .bool f, .slice A n c])
  have hB0 : Below w.heap.size w (w.alloc (.cells #[.int .i64 x, .bool f, .slice A n c] 27)) := (Below.refl _ _).alloc (Nat.le_refl _) _
  go_enter Tryz.func56, Tryz.ntmps56
  go_wp2_with fail
  refine (rvalidR_any r x f A n c _ (HR.out.keep (keeps_alloc _ _))).mono ?_
  rintro e w1 ⟨rfl, hb1⟩
  obtain ⟨v, Hv⟩ : ∃ t, Hid (okB r = t) := ⟨_, rfl⟩
  rw [Hv.out]
  have hz := (E0.out.below hb1).cell
  have hB2 := Below.next hB0 hb1
  cases v
  · go_wp2
    go_ret
    exact ⟨ret_i64 (by rw [← HZ.out, Hv.out]; rfl), hB2⟩
  · have hs := (okB_true.1 Hv.out).2.2.1
    go_wp2_with fail
    refine (rsize_any r x f A n c _ (HR.out.keep (keeps_of hB2)) (by omega)).mono ?_
    rintro e w2 ⟨rfl, hb2⟩
    go_wp2
    go_ret
    exact ⟨ret_i64 (by rw [← HZ.out, Hv.out]; rfl), Below.next hB2 hb2⟩

/-- what an operation that makes a region returns -/
def RgRes (w : World) (r : Rg) (er : Int) (e : Ending) (w' : World) : Prop :=
  ∃ (x : Int) (f : Bool) (A : Option Addr) (n c : Nat), e = .returned (.tuple #[.agg #[.int .i64 x, .bool f, .slice A n c], .int .i64 er]) ∧ RgS w' x f A n c r ∧ Below w.heap.size w w'
def zeroR : Rg := .nil 0 false
end Go.Proofs.YtmnmckblmoalkaaGreat
