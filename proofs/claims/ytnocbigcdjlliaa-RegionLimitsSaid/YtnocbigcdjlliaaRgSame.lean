/-
  The program's region function same: it says whether two regions are the same tree.
-/
import Derived.Test.YtnocbigcdjlliaaRgA
import Derived.Test.YtnocbigcdjlliaaNeqI
namespace Go.Proofs.Ytnocbigcdjlliaa
open Go.RowKit
open Rg

theorem rg_eq_iff (a b : Rg) : a = b ↔ a.w = b.w ∧ a.f = b.f ∧ a.parts = b.parts := ⟨fun h => by subst h; exact ⟨rfl, rfl, rfl⟩, fun ⟨h1, h2, h3⟩ => Rg.ext h1 h2 h3⟩

set_option maxRecDepth 8000 in
set_option maxHeartbeats 4000000 in
theorem rsame_any (a : Rg) : ∀ (x : Int) (f : Bool) (A : Option Addr) (n c : Nat) (y : Int) (g : Bool) (B : Option Addr) (m d : Nat) (b : Rg) (w : World), RgS w x f A n c a → RgS w y g B m d b → a.size ≤ 1000 → a.fits = true →
    Calls Try.prog 28 #[.agg #[.int .i64 x, .bool f, .slice A n c], .agg #[.int .i64 y, .bool g, .slice B m d]] w fun e w' => e = .returned (.bool (decide (a = b))) ∧ Below w.heap.size w w' := by
  induction hsz : a.size using Nat.strongRecOn generalizing a with
  | _ s ih =>
    intro x f A n c y g B m d b w hR hS hs hft
    have hB0 : Below w.heap.size w ((w.alloc (.cells #[.int .i64 x, .bool f, .slice A n c] 24)).alloc (.cells #[.int .i64 y, .bool g, .slice B m d] 24)) := ((Below.refl _ _).alloc (Nat.le_refl _) _).alloc (by simp) _
    have h0 : decide (a = b) = (decide (x = y) && decide (f = g) && decide (a.parts = b.parts)) := by
      rw [Bool.eq_iff_iff]
      simp only [decide_eq_true_eq, Bool.and_eq_true]
      rw [rg_eq_iff, hR.hw, hS.hw, hR.hf, hS.hf, and_assoc]
    have hn := hR.len
    have hm := hS.len
    have hns : n ≤ s := by have := len_le_size a; omega
    rw [h0]
    clear h0
    by_cases hxy : x = y
    · by_cases hfg : f = g
      · by_cases hnm : n = m
        · subst hxy hfg hnm
          generalize hr : (decide (x = x) && decide (f = f) && decide (a.parts = b.parts)) = r
          have HRR : Hid (decide (a.parts.drop 0 = b.parts.drop 0) = r) := by
            show _ = _
            simpa using hr
          have HI := Lib.hid ih
          have HR := Lib.hid hR
          have HS := Lib.hid hS
          have Hsz := Lib.hid hsz
          have HF := Lib.hid hft
          have HB0 := Lib.hid hB0
          clear ih hR hS hsz hr hft hn hm hB0
          have g1 : (x != x) = false := by simp
          have g2 : (f != f) = false := by simp
          go_enter Try.func28, Try.ntmps28
          go_wp2
          obtain ⟨W0, HW0⟩ : ∃ W : World, Hid ((w.alloc (.cells #[.int .i64 x, .bool f, .slice A n c] 24)).alloc (.cells #[.int .i64 x, .bool f, .slice B n d] 24) = W) := ⟨_, rfl⟩
          rw [HW0.out] at HB0
          have E2 : Hid (Blk W0 (w.heap.size + 1) 24 #[.int .i64 x, .bool f, .slice B n d]) := by
            have := Blk.new (w.alloc (.cells #[.int .i64 x, .bool f, .slice A n c] 24)) 24 #[.int .i64 x, .bool f, .slice B n d]
            rw [HW0.out, World.size_alloc] at this
            exact this
          go_loopw [34] (fun i wr => ∃ k : Nat, k ≤ n ∧ i = .int .i64 (k : Int) ∧ Hid (decide (a.parts.drop k = b.parts.drop k) = r) ∧ Below W0.heap.size W0 wr) (fun i _ => n - (intOf i).toNat)
          case atStart => exact ⟨0, by omega, rfl, HRR, by rw [HW0.out]; exact Below.refl _ _⟩
          case round =>
            obtain ⟨k, hk, rfl, hinv, hb0⟩ := hrel
            have hb := Below.next HB0.out hb0
            have hsw : w.heap.size + 1 < wr.heap.size := by have h1 := E2.out.lt; have h2 := hb0.size; omega
            by_cases hlt : k < n
            · obtain ⟨b1, o1, p, A1, n1, c1, x1, f1, A2, n2, c2, rfl, hp, hpt0, hpt⟩ := HR.out.at2 (keeps_of hb) hlt
              obtain ⟨b2, o2, q, B1, m1, d1, y1, g1', B2, m2, d2, rfl, hq, hqt0, hqt⟩ := HS.out.at2 (keeps_of hb) hlt
              have hK := keeps_of hb
              have Hst : Hid (r = (decide (p.1 = q.1) && decide (p.2 = q.2) && decide (a.parts.drop (k + 1) = b.parts.drop (k + 1)))) := by
                show _ = _
                rw [← hinv.out, drop_at hp, drop_at hq, Bool.eq_iff_iff]
                simp only [List.cons.injEq, decide_eq_true_eq, Bool.and_eq_true, Prod.ext_iff]
              have hps := size_at hp
              rw [Hsz.out] at hps
              have hpf := fits_mem HF.out (List.mem_of_getElem? hp)
              have HI' := Lib.hid (HI.out p.2.size hps p.2 rfl)
              have Hpf := Lib.hid hpf.2
              obtain ⟨p0, p1, p2, p3, pok, pvs, prg⟩ := hpt
              obtain ⟨q0, q1, q2, q3, qok, _, _⟩ := hqt.keep (keeps_alloc wr (.cells #[.slice A1 n1 c1, .int .i64 x1, .bool f1, .slice A2 n2 c2] 49))
              have qvs := hqt.vs
              have qrg := hqt.rg
              have hn1 : n1 ≤ 64 := by have := pvs.len; omega
              have PV := Lib.hid pvs
              have QV := Lib.hid qvs
              have PR := Lib.hid prg
              have QR := Lib.hid qrg
              have z1 := (E2.out.below hb0).cell
              clear hp hq hpt0 hqt0 hqt pok qok pvs qvs prg qrg hinv hpf
              have hba : Below wr.heap.size wr ((wr.alloc (.cells #[.slice A1 n1 c1, .int .i64 x1, .bool f1, .slice A2 n2 c2] 49)).alloc (.cells #[.slice B1 m1 d1, .int .i64 y1, .bool g1', .slice B2 m2 d2] 49)) := ((Below.refl _ _).alloc (Nat.le_refl _) _).alloc (by simp) _
              have HBA := Lib.hid hba
              clear hba
              by_cases hnm : n1 = m1
              · subst hnm
                have g3 : ((n1 : Int) != (n1 : Int)) = false := by simp
                go_wp2_with fail
                refine (HI'.out x1 f1 A2 n2 c2 y1 g1' B2 m2 d2 q.2 _ (PR.out.keep (keeps_of HBA.out)) (QR.out.keep (keeps_of HBA.out)) (by omega) Hpf.out).mono ?_
                rintro e w2 ⟨rfl, hb2⟩
                have hb2' := Below.next HBA.out hb2
                have E3 := Lib.hid (((Blk.new wr 49 #[.slice A1 n1 c1, .int .i64 x1, .bool f1, .slice A2 n2 c2]).alloc (.cells #[.slice B1 n1 d1, .int .i64 y1, .bool g1', .slice B2 m2 d2] 49)).below hb2)
                have E4 : Hid (Blk w2 (wr.heap.size + 1) 49 #[.slice B1 n1 d1, .int .i64 y1, .bool g1', .slice B2 m2 d2]) := by
                  have := (Blk.new (wr.alloc (.cells #[.slice A1 n1 c1, .int .i64 x1, .bool f1, .slice A2 n2 c2] 49)) 49 #[.slice B1 n1 d1, .int .i64 y1, .bool g1', .slice B2 m2 d2]).below hb2
                  rw [World.size_alloc] at this
                  exact this
                have z3 := E3.out.cell
                clear p0 p1 p2 p3 q0 q1 q2 q3 z1
                have PV2 := Lib.hid (PV.out.keep (keeps_of hb2'))
                have QV2 := Lib.hid (QV.out.keep (keeps_of hb2'))
                have HB2 := Lib.hid (Below.next hb0 hb2')
                clear hb2 hb2' hb hb0 HBA PR QR
                obtain ⟨q2, Hq2⟩ : ∃ t, Hid (decide (p.2 = q.2) = t) := ⟨_, rfl⟩
                rw [Hq2.out]
                cases q2
                · go_wp2
                  go_ret
                  exact ⟨ret_bool (by rw [Hst.out, Hq2.out]; simp), Below.next HB0.out HB2.out⟩
                · go_wp2
                  obtain ⟨r2, Hr2⟩ : ∃ t, Hid (decide (p.1.drop 0 = q.1.drop 0) = t) := ⟨_, rfl⟩
                  clear z3
                  go_loopw [62] (fun i wr' => ∃ j : Nat, j ≤ n1 ∧ i = .int .i64 (j : Int) ∧ Hid (decide (p.1.drop j = q.1.drop j) = r2) ∧ Below w2.heap.size w2 wr') (fun i _ => n1 - (intOf i).toNat)
                  case atStart => exact ⟨0, by omega, rfl, Hr2, Below.refl _ _⟩
                  case round =>
                    obtain ⟨j, hj, rfl, hinv2, hb3⟩ := hrel
                    have hB4 := Below.next HB2.out hb3
                    by_cases hjl : j < n1
                    · obtain ⟨b3, o3, u, rfl, hu, huc⟩ := (PV2.out.keep (keeps_of hb3)).at hjl
                      obtain ⟨b4, o4, v, rfl, hv, hvc⟩ := (QV2.out.keep (keeps_of hb3)).at hjl
                      have Hst2 : Hid (r2 = (decide (u = v) && decide (p.1.drop (j + 1) = q.1.drop (j + 1)))) := by
                        show _ = _
                        rw [← hinv2.out, drop_at hu, drop_at hv]
                        simp
                      have hev := run_neqI u v
                      obtain ⟨t, Ht⟩ : ∃ t, Hid (decide (u ≠ v) = t) := ⟨_, rfl⟩
                      rw [Ht.out] at hev
                      obtain ⟨⟨fk, fi, ft⟩, ⟨tk, ti, tt⟩, xo⟩ := u
                      obtain ⟨⟨gk, gi, gt⟩, ⟨uk, ui, ut⟩, yo⟩ := v
                      dsimp only at hev
                      obtain ⟨a0, a1, a2, a3, a4, a5, a6⟩ := IvAt.of huc
                      obtain ⟨v0, v1, v2, v3, v4, v5, v6⟩ := IvAt.of hvc
                      dsimp only at a0 a1 a2 a3 a4 a5 a6 v0 v1 v2 v3 v4 v5 v6
                      have hE4 := E4.out.below hb3
                      have hsz3 := hE4.lt
                      clear hu hv huc hvc
                      go_wp2
                      have hxx := (Blk.new wr 41 #[.int .i64 fk, .int .i64 fi, .string ft, .int .i64 tk, .int .i64 ti, .string tt, .bool xo]).drew.cell
                      have hyy := (hE4.alloc (.cells #[.int .i64 fk, .int .i64 fi, .string ft, .int .i64 tk, .int .i64 ti, .string tt, .bool xo] 41)).drew.cell
                      obtain ⟨s0, s1, s2, s3, s4, s5, s6⟩ := (IvAt.mk (w := wr) (b := b4) (p := o4 + j * 7) (x := ⟨⟨gk, gi, gt⟩, ⟨uk, ui, ut⟩, yo⟩) v0 v1 v2 v3 v4 v5 v6).keep (keeps_alloc wr (.cells #[.int .i64 fk, .int .i64 fi, .string ft, .int .i64 tk, .int .i64 ti, .string tt, .bool xo] 41)).drew
                      dsimp only at s0 s1 s2 s3 s4 s5 s6
                      have hB5 : Below w.heap.size w (wr.alloc (.cells #[.int .i64 fk, .int .i64 fi, .string ft, .int .i64 tk, .int .i64 ti, .string tt, .bool xo] 41)).drew := ((Below.next HB0.out hB4).alloc (Below.next HB0.out hB4).size _).drew
                      have hB6 : Below w2.heap.size w2 (wr.alloc (.cells #[.int .i64 fk, .int .i64 fi, .string ft, .int .i64 tk, .int .i64 ti, .string tt, .bool xo] 41)).drew := (hb3.alloc hb3.size _).drew
                      clear a0 a1 a2 a3 a4 a5 a6 v0 v1 v2 v3 v4 v5 v6 hE4
                      generalize hWn : (wr.alloc (.cells #[.int .i64 fk, .int .i64 fi, .string ft, .int .i64 tk, .int .i64 ti, .string tt, .bool xo] 41)).drew = Wn at *
                      have hca := @cell_after Wn
                      refine wp_region_seg [] [0, 1, 2, 3, 4, 5, 6] (by kernel_rfl) (by kernel_rfl) (fun _ _ d _ _ h => by cases d <;> exact h) ?_
                      rw [hWn]
                      clear hWn
                      simp only [pickSegs, pickOps, opAt, List.map_cons, List.map_nil, List.getElem?_toArray, List.getElem?_cons_zero, List.getElem?_cons_succ, Option.getD_some]
                      unfold wpBlocks
                      repeat (go_big_quiet_step (fail))
                      refine wpQuiet_nil ?_
                      clear hca hxx hyy s0 s1 s2 s3 s4 s5 s6
                      cases t
                      · go_wp2
                        go_roundw
                        case rel => exact ⟨j + 1, by omega, by go_num, (by show _ = _; rw [Hst2.out]; have := Ht.out; simp at this; simp [this]), hB6⟩
                        case measure => simp [intOf]; omega
                      · go_wp2
                        go_ret
                        refine ⟨ret_bool ?_, hB5⟩
                        have h1 := Ht.out
                        have h2 := Hst2.out
                        have h3 := Hr2.out
                        simp only [decide_eq_true_eq] at h1
                        rw [decide_eq_false h1, Bool.false_and] at h2
                        rw [h2, List.drop_zero, List.drop_zero] at h3
                        rw [Hst.out, h3]
                        rfl
                    · go_wp2
                      go_roundw
                      case rel =>
                        refine ⟨k + 1, by omega, by go_num, ?_, hB4⟩
                        have h1 : p.1.drop j = [] := List.drop_eq_nil_of_le (by have := PV.out.len; omega)
                        have h2 : q.1.drop j = [] := List.drop_eq_nil_of_le (by have := QV.out.len; omega)
                        have h3 := hinv2.out
                        rw [h1, h2] at h3
                        have h4 := Hr2.out
                        rw [← h3, List.drop_zero, List.drop_zero] at h4
                        show _ = _
                        rw [Hst.out, h4, Hq2.out]
                        simp
                      case measure => simp [intOf]; omega
              · have g3 : ((n1 : Int) != (m1 : Int)) = true := by simp; omega
                have Hne : Hid (p.1 ≠ q.1) := Lib.hid (fun h => hnm (by rw [← PV.out.len, ← QV.out.len, h]))
                clear hnm
                go_wp2
                go_ret
                exact ⟨ret_bool (by rw [Hst.out]; simp [Hne.out]), Below.next hb HBA.out⟩
            · go_wp2
              go_ret
              have h1 : a.parts.drop k = [] := List.drop_eq_nil_of_le (by rw [len_parts]; have := HR.out.len; omega)
              have h2 : b.parts.drop k = [] := List.drop_eq_nil_of_le (by rw [len_parts]; have := HS.out.len; omega)
              exact ⟨ret_bool (by rw [← hinv.out, h1, h2]; simp), hb⟩
        · have hr : (decide (x = y) && decide (f = g) && decide (a.parts = b.parts)) = false := by
            have : a.parts ≠ b.parts := fun h => hnm (by rw [hn, hm, ← len_parts, ← len_parts, h])
            simp [this]
          rw [hr]
          have g3 : ((n : Int) != (m : Int)) = true := by simp; omega
          subst hxy hfg
          have g1 : (x != x) = false := by simp
          have g2 : (f != f) = false := by simp
          have HB0 := Lib.hid hB0
          clear ih hR hS hsz hr hft hn hm hB0 hnm
          go_enter Try.func28, Try.ntmps28
          go_wp2
          go_ret
          exact ⟨rfl, HB0.out⟩
      · have hr : (decide (x = y) && decide (f = g) && decide (a.parts = b.parts)) = false := by simp [hfg]
        rw [hr]
        subst hxy
        have g1 : (x != x) = false := by simp
        have HB0 := Lib.hid hB0
        clear ih hR hS hsz hr hft hn hm hB0
        cases f <;> cases g <;> first | exact absurd rfl hfg | skip
        all_goals
          clear hfg
          go_enter Try.func28, Try.ntmps28
          go_wp2
          go_ret
          exact ⟨rfl, HB0.out⟩
    · have hr : (decide (x = y) && decide (f = g) && decide (a.parts = b.parts)) = false := by simp [hxy]
      rw [hr]
      have g1 : (x != y) = true := by simp [hxy]
      have HB0 := Lib.hid hB0
      clear ih hR hS hsz hr hft hn hm hB0 hxy
      go_enter Try.func28, Try.ntmps28
      go_wp2
      go_ret
      exact ⟨rfl, HB0.out⟩
end Go.Proofs.Ytnocbigcdjlliaa
