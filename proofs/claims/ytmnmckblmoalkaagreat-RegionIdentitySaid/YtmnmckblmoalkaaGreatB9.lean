/-
  Texts: RgSame, IvValid, Combine, RgFormP.
-/
import Derived.Test.YtmnmckblmoalkaaGreatB8
import Derived.Shelf.Abstract
set_option linter.unusedVariables false
/-
  The program's region function same: it says whether two regions are the same tree.
-/
namespace Go.Proofs.YtmnmckblmoalkaaGreat
open Go.RowKit
set_option maxRecDepth 100000
open Rg

theorem rg_eq_iff (a b : Rg) : a = b ↔ a.w = b.w ∧ a.f = b.f ∧ a.parts = b.parts := ⟨fun h => by subst h; exact ⟨rfl, rfl, rfl⟩, fun ⟨h1, h2, h3⟩ => Rg.ext h1 h2 h3⟩

set_option maxRecDepth 8000 in
set_option maxHeartbeats 4000000 in
theorem rsame_any (a : Rg) : ∀ (x : Int) (f : Bool) (A : Option Addr) (n c : Nat) (y : Int) (g : Bool) (B : Option Addr) (m d : Nat) (b : Rg) (w : World), RgS w x f A n c a → RgS w y g B m d b → a.size ≤ 1000 → a.fits = true →
    Calls Tryz.prog 57 #[.agg #[.int .i64 x, .bool f, .slice A n c], .agg #[.int .i64 y, .bool g, .slice B m d]] w fun e w' => e = .returned (.bool (decide (a = b))) ∧ Below w.heap.size w w' := by
  induction hsz : a.size using Nat.strongRecOn generalizing a with
  | _ s ih =>
    intro x f A n c y g B m d b w hR hS hs hft
    have hB0 : Below w.heap.size w ((w.alloc (.cells #[.int .i64 x, .bool f, .slice A n c] 27)).alloc (.cells #[.int .i64 y, .bool g, .slice B m d] 27)) := ((Below.refl _ _).alloc (Nat.le_refl _) _).alloc (by simp) _
    have h0 : decide (a = b) = (decide (x = y) && decide (f = g) && decide (a.parts = b.parts)) := by
      rw [Bool.eq_iff_iff]
      simp only [decide_eq_true_eq, Bool.and_eq_true]
      rw [rg_eq_iff, hR.hw, hS.hw, hR.hf, hS.hf, and_assoc]
    have hn := hR.len
    have hm := hS.len
    have hns : n ≤ s := by have := len_le_size a; omega
    rw [h0]
    clear h0
    by_cases hxy : x = y
    · by_cases hfg : f = g
      · by_cases hnm : n = m
        · subst hxy hfg hnm
          generalize hr : (decide (x = x) && decide (f = f) && decide (a.parts = b.parts)) = r
          have HRR : Hid (decide (a.parts.drop 0 = b.parts.drop 0) = r) := by
            show _ = _
            simpa using hr
          have HI := Lib.hid ih
          have HR := Lib.hid hR
          have HS := Lib.hid hS
          have Hsz := Lib.hid hsz
          have HF := Lib.hid hft
          have HB0 := Lib.hid hB0
          clear ih hR hS hsz hr hft hn hm hB0
          have g1 : (x != x) = false := by simp
          have g2 : (f != f) = false := by simp
          go_enter Tryz.func57, Tryz.ntmps57
          go_wp2
          obtain ⟨W0, HW0⟩ : ∃ W : World, Hid ((w.alloc (.cells #[.int .i64 x, .bool f, .slice A n c] 27)).alloc (.cells #[.int .i64 x, .bool f, .slice B n d] 27) = W) := ⟨_, rfl⟩
          rw [HW0.out] at HB0
          have E2 : Hid (Blk W0 (w.heap.size + 1) 27 #[.int .i64 x, .bool f, .slice B n d]) := by
            have := Blk.new (w.alloc (.cells #[.int .i64 x, .bool f, .slice A n c] 27)) 27 #[.int .i64 x, .bool f, .slice B n d]
            rw [HW0.out, World.size_alloc] at this
            exact this
          go_loopw [34] (fun i wr => ∃ k : Nat, k ≤ n ∧ i = .int .i64 (k : Int) ∧ Hid (decide (a.parts.drop k = b.parts.drop k) = r) ∧ Below W0.heap.size W0 wr) (fun i _ => n - (intOf i).toNat)
          case atStart => exact ⟨0, by omega, rfl, HRR, by rw [HW0.out]; exact Below.refl _ _⟩
          case round =>
            obtain ⟨k, hk, rfl, hinv, hb0⟩ := hrel
            have hb := Below.next HB0.out hb0
            have hsw : w.heap.size + 1 < wr.heap.size := by have h1 := E2.out.lt; have h2 := hb0.size; omega
            by_cases hlt : k < n
            · obtain ⟨b1, o1, p, A1, n1, c1, x1, f1, A2, n2, c2, rfl, hp, hpt0, hpt⟩ := HR.out.at2 (keeps_of hb) hlt
              obtain ⟨b2, o2, q, B1, m1, d1, y1, g1', B2, m2, d2, rfl, hq, hqt0, hqt⟩ := HS.out.at2 (keeps_of hb) hlt
              have hK := keeps_of hb
              have Hst : Hid (r = (decide (p.1 = q.1) && decide (p.2 = q.2) && decide (a.parts.drop (k + 1) = b.parts.drop (k + 1)))) := by
                show _ = _
                rw [← hinv.out, drop_at hp, drop_at hq, Bool.eq_iff_iff]
                simp only [List.cons.injEq, decide_eq_true_eq, Bool.and_eq_true, Prod.ext_iff]
              have hps := size_at hp
              rw [Hsz.out] at hps
              have hpf := fits_mem HF.out (List.mem_of_getElem? hp)
              have HI' := Lib.hid (HI.out p.2.size hps p.2 rfl)
              have Hpf := Lib.hid hpf.2
              obtain ⟨p0, p1, p2, p3, pok, pvs, prg⟩ := hpt
              obtain ⟨q0, q1, q2, q3, qok, _, _⟩ := hqt.keep (keeps_alloc wr (.cells #[.slice A1 n1 c1, .int .i64 x1, .bool f1, .slice A2 n2 c2] 86))
              have qvs := hqt.vs
              have qrg := hqt.rg
              have hn1 : n1 ≤ 64 := by have := pvs.len; omega
              have PV := Lib.hid pvs
              have QV := Lib.hid qvs
              have PR := Lib.hid prg
              have QR := Lib.hid qrg
              have z1 := (E2.out.below hb0).cell
              clear hp hq hpt0 hqt0 hqt pok qok pvs qvs prg qrg hinv hpf
              have hba : Below wr.heap.size wr ((wr.alloc (.cells #[.slice A1 n1 c1, .int .i64 x1, .bool f1, .slice A2 n2 c2] 86)).alloc (.cells #[.slice B1 m1 d1, .int .i64 y1, .bool g1', .slice B2 m2 d2] 86)) := ((Below.refl _ _).alloc (Nat.le_refl _) _).alloc (by simp) _
              have HBA := Lib.hid hba
              clear hba
              by_cases hnm : n1 = m1
              · subst hnm
                have g3 : ((n1 : Int) != (n1 : Int)) = false := by simp
                go_wp2_with fail
                refine (HI'.out x1 f1 A2 n2 c2 y1 g1' B2 m2 d2 q.2 _ (PR.out.keep (keeps_of HBA.out)) (QR.out.keep (keeps_of HBA.out)) (by omega) Hpf.out).mono ?_
                rintro e w2 ⟨rfl, hb2⟩
                have hb2' := Below.next HBA.out hb2
                have E3 := Lib.hid (((Blk.new wr 86 #[.slice A1 n1 c1, .int .i64 x1, .bool f1, .slice A2 n2 c2]).alloc (.cells #[.slice B1 n1 d1, .int .i64 y1, .bool g1', .slice B2 m2 d2] 86)).below hb2)
                have E4 : Hid (Blk w2 (wr.heap.size + 1) 86 #[.slice B1 n1 d1, .int .i64 y1, .bool g1', .slice B2 m2 d2]) := by
                  have := (Blk.new (wr.alloc (.cells #[.slice A1 n1 c1, .int .i64 x1, .bool f1, .slice A2 n2 c2] 86)) 86 #[.slice B1 n1 d1, .int .i64 y1, .bool g1', .slice B2 m2 d2]).below hb2
                  rw [World.size_alloc] at this
                  exact this
                have z3 := E3.out.cell
                clear p0 p1 p2 p3 q0 q1 q2 q3 z1
                have PV2 := Lib.hid (PV.out.keep (keeps_of hb2'))
                have QV2 := Lib.hid (QV.out.keep (keeps_of hb2'))
                have HB2 := Lib.hid (Below.next hb0 hb2')
                clear hb2 hb2' hb hb0 HBA PR QR
                obtain ⟨q2, Hq2⟩ : ∃ t, Hid (decide (p.2 = q.2) = t) := ⟨_, rfl⟩
                rw [Hq2.out]
                cases q2
                · go_wp2
                  go_ret
                  exact ⟨ret_bool (by rw [Hst.out, Hq2.out]; simp), Below.next HB0.out HB2.out⟩
                · go_wp2
                  obtain ⟨r2, Hr2⟩ : ∃ t, Hid (decide (p.1.drop 0 = q.1.drop 0) = t) := ⟨_, rfl⟩
                  clear z3
                  go_loopw [62] (fun i wr' => ∃ j : Nat, j ≤ n1 ∧ i = .int .i64 (j : Int) ∧ Hid (decide (p.1.drop j = q.1.drop j) = r2) ∧ Below w2.heap.size w2 wr') (fun i _ => n1 - (intOf i).toNat)
                  case atStart => exact ⟨0, by omega, rfl, Hr2, Below.refl _ _⟩
                  case round =>
                    obtain ⟨j, hj, rfl, hinv2, hb3⟩ := hrel
                    have hB4 := Below.next HB2.out hb3
                    by_cases hjl : j < n1
                    · obtain ⟨b3, o3, u, rfl, hu, huc⟩ := (PV2.out.keep (keeps_of hb3)).at hjl
                      obtain ⟨b4, o4, v, rfl, hv, hvc⟩ := (QV2.out.keep (keeps_of hb3)).at hjl
                      have Hst2 : Hid (r2 = (decide (u = v) && decide (p.1.drop (j + 1) = q.1.drop (j + 1)))) := by
                        show _ = _
                        rw [← hinv2.out, drop_at hu, drop_at hv]
                        simp
                      have hev := run_neqI u v
                      obtain ⟨t, Ht⟩ : ∃ t, Hid (decide (u ≠ v) = t) := ⟨_, rfl⟩
                      rw [Ht.out] at hev
                      obtain ⟨⟨fk, fi, ft⟩, ⟨tk, ti, tt⟩, xo⟩ := u
                      obtain ⟨⟨gk, gi, gt⟩, ⟨uk, ui, ut⟩, yo⟩ := v
                      dsimp only at hev
                      obtain ⟨a0, a1, a2, a3, a4, a5, a6⟩ := IvAt.of huc
                      obtain ⟨v0, v1, v2, v3, v4, v5, v6⟩ := IvAt.of hvc
                      dsimp only at a0 a1 a2 a3 a4 a5 a6 v0 v1 v2 v3 v4 v5 v6
                      have hE4 := E4.out.below hb3
                      have hsz3 := hE4.lt
                      clear hu hv huc hvc
                      go_wp2
                      have hxx := (Blk.new wr 90 #[.int .i64 fk, .int .i64 fi, .string ft, .int .i64 tk, .int .i64 ti, .string tt, .bool xo]).drew.cell
                      have hyy := (hE4.alloc (.cells #[.int .i64 fk, .int .i64 fi, .string ft, .int .i64 tk, .int .i64 ti, .string tt, .bool xo] 90)).drew.cell
                      obtain ⟨s0, s1, s2, s3, s4, s5, s6⟩ := (IvAt.mk (w := wr) (b := b4) (p := o4 + j * 7) (x := ⟨⟨gk, gi, gt⟩, ⟨uk, ui, ut⟩, yo⟩) v0 v1 v2 v3 v4 v5 v6).keep (keeps_alloc wr (.cells #[.int .i64 fk, .int .i64 fi, .string ft, .int .i64 tk, .int .i64 ti, .string tt, .bool xo] 90)).drew
                      dsimp only at s0 s1 s2 s3 s4 s5 s6
                      have hB5 : Below w.heap.size w (wr.alloc (.cells #[.int .i64 fk, .int .i64 fi, .string ft, .int .i64 tk, .int .i64 ti, .string tt, .bool xo] 90)).drew := ((Below.next HB0.out hB4).alloc (Below.next HB0.out hB4).size _).drew
                      have hB6 : Below w2.heap.size w2 (wr.alloc (.cells #[.int .i64 fk, .int .i64 fi, .string ft, .int .i64 tk, .int .i64 ti, .string tt, .bool xo] 90)).drew := (hb3.alloc hb3.size _).drew
                      clear a0 a1 a2 a3 a4 a5 a6 v0 v1 v2 v3 v4 v5 v6 hE4
                      generalize hWn : (wr.alloc (.cells #[.int .i64 fk, .int .i64 fi, .string ft, .int .i64 tk, .int .i64 ti, .string tt, .bool xo] 90)).drew = Wn at *
                      have hca := @cell_after Wn
                      refine wp_region_seg [] [0, 1, 2, 3, 4, 5, 6] (by kernel_rfl) (by kernel_rfl) (fun _ _ d _ _ h => by cases d <;> exact h) ?_
                      rw [hWn]
                      clear hWn
                      simp only [pickSegs, pickOps, opAt, List.map_cons, List.map_nil, List.getElem?_toArray, List.getElem?_cons_zero, List.getElem?_cons_succ, Option.getD_some]
                      unfold wpBlocks
                      repeat (go_big_quiet_step (fail))
                      refine wpQuiet_nil ?_
                      clear hca hxx hyy s0 s1 s2 s3 s4 s5 s6
                      cases t
                      · go_wp2
                        go_roundw
                        case rel => exact ⟨j + 1, by omega, by go_num, (by show _ = _; rw [Hst2.out]; have := Ht.out; simp at this; simp [this]), hB6⟩
                        case measure => simp [intOf]; omega
                      · go_wp2
                        go_ret
                        refine ⟨ret_bool ?_, hB5⟩
                        have h1 := Ht.out
                        have h2 := Hst2.out
                        have h3 := Hr2.out
                        simp only [decide_eq_true_eq] at h1
                        rw [decide_eq_false h1, Bool.false_and] at h2
                        rw [h2, List.drop_zero, List.drop_zero] at h3
                        rw [Hst.out, h3]
                        rfl
                    · go_wp2
                      go_roundw
                      case rel =>
                        refine ⟨k + 1, by omega, by go_num, ?_, hB4⟩
                        have h1 : p.1.drop j = [] := List.drop_eq_nil_of_le (by have := PV.out.len; omega)
                        have h2 : q.1.drop j = [] := List.drop_eq_nil_of_le (by have := QV.out.len; omega)
                        have h3 := hinv2.out
                        rw [h1, h2] at h3
                        have h4 := Hr2.out
                        rw [← h3, List.drop_zero, List.drop_zero] at h4
                        show _ = _
                        rw [Hst.out, h4, Hq2.out]
                        simp
                      case measure => simp [intOf]; omega
              · have g3 : ((n1 : Int) != (m1 : Int)) = true := by simp; omega
                have Hne : Hid (p.1 ≠ q.1) := Lib.hid (fun h => hnm (by rw [← PV.out.len, ← QV.out.len, h]))
                clear hnm
                go_wp2
                go_ret
                exact ⟨ret_bool (by rw [Hst.out]; simp [Hne.out]), Below.next hb HBA.out⟩
            · go_wp2
              go_ret
              have h1 : a.parts.drop k = [] := List.drop_eq_nil_of_le (by rw [len_parts]; have := HR.out.len; omega)
              have h2 : b.parts.drop k = [] := List.drop_eq_nil_of_le (by rw [len_parts]; have := HS.out.len; omega)
              exact ⟨ret_bool (by rw [← hinv.out, h1, h2]; simp), hb⟩
        · have hr : (decide (x = y) && decide (f = g) && decide (a.parts = b.parts)) = false := by
            have : a.parts ≠ b.parts := fun h => hnm (by rw [hn, hm, ← len_parts, ← len_parts, h])
            simp [this]
          rw [hr]
          have g3 : ((n : Int) != (m : Int)) = true := by simp; omega
          subst hxy hfg
          have g1 : (x != x) = false := by simp
          have g2 : (f != f) = false := by simp
          have HB0 := Lib.hid hB0
          clear ih hR hS hsz hr hft hn hm hB0 hnm
          go_enter Tryz.func57, Tryz.ntmps57
          go_wp2
          go_ret
          exact ⟨rfl, HB0.out⟩
      · have hr : (decide (x = y) && decide (f = g) && decide (a.parts = b.parts)) = false := by simp [hfg]
        rw [hr]
        subst hxy
        have g1 : (x != x) = false := by simp
        have HB0 := Lib.hid hB0
        clear ih hR hS hsz hr hft hn hm hB0
        cases f <;> cases g <;> first | exact absurd rfl hfg | skip
        all_goals
          clear hfg
          go_enter Tryz.func57, Tryz.ntmps57
          go_wp2
          go_ret
          exact ⟨rfl, HB0.out⟩
    · have hr : (decide (x = y) && decide (f = g) && decide (a.parts = b.parts)) = false := by simp [hxy]
      rw [hr]
      have g1 : (x != y) = true := by simp [hxy]
      have HB0 := Lib.hid hB0
      clear ih hR hS hsz hr hft hn hm hB0 hxy
      go_enter Tryz.func57, Tryz.ntmps57
      go_wp2
      go_ret
      exact ⟨rfl, HB0.out⟩
end Go.Proofs.YtmnmckblmoalkaaGreat

namespace Go.Proofs.YtmnmckblmoalkaaGreat
open Go.RowKit
set_option maxRecDepth 100000

set_option maxHeartbeats 1000000 in
theorem ivvalid_any (A : Option Addr) (n c : Nat) (l : List Iv) (w : World) (hn : n ≤ 64) (hs : IvS w A n l) :
    Calls Tryz.prog 104 #[.slice A n c] w fun e w' => e = .returned (.bool (ordFrom none l)) ∧ Below w.heap.size w w' := by
  have Hs := Lib.hid hs
  have hln := hs.len
  clear hs
  go_enter Tryz.func104, Tryz.ntmps104
  go_wp2
  go_loopw [10] (fun i wr => ∃ k : Nat, k ≤ n ∧ i = .int .i64 (k : Int) ∧ Hid (ordFrom none l = ordFrom (prevI l k) (l.drop k)) ∧ Below w.heap.size w wr) (fun i _ => n - (intOf i).toNat)
  case atStart => exact ⟨0, by omega, rfl, by simp [Hid, prevI], Below.refl _ _⟩
  case round =>
    obtain ⟨k, hk, rfl, hinv, hb⟩ := hrel
    by_cases hlt : k < n
    · have hS := Hs.out.keep (keeps_of hb)
      obtain ⟨b, o, x, rfl, hx, hc⟩ := hS.at hlt
      have hi := ord_step hx hinv.out
      obtain ⟨⟨fk, fi, ft⟩, ⟨tk, ti, tt⟩, xo⟩ := x
      obtain ⟨c0, c1, c2, c3, c4, c5, c6⟩ := IvAt.of hc
      dsimp only at c0 c1 c2 c3 c4 c5 c6
      rw [okI_eq] at hi
      obtain ⟨lst, Hl⟩ : ∃ lst, Hid (decide (k + 1 = l.length) = lst) := ⟨_, rfl⟩
      rw [Hl.out] at hi
      obtain ⟨pok, Hp⟩ : ∃ pok, Hid (prevOk (prevI l k) ⟨fk, fi, ft⟩ = pok) := ⟨_, rfl⟩
      rw [Hp.out] at hi
      have Hi := Lib.hid hi
      clear hi hinv hc hx
      go_wp2_with (first | (go_at_call 110; refine (valid_any ⟨_, _, _⟩ _).mono ?_; rintro e w1 ⟨rfl, hb1⟩))
      · go_ret
        refine ⟨ret_bool ?_, ?_⟩
        · rw [Hi.out]; simp_all
        · exact Below.next (hb.alloc hb.size _) hb1
      · have hK1 := keeps_of hb1
        obtain ⟨e0, e1, e2, e3, e4, e5, e6⟩ := (IvAt.new wr 90 ⟨⟨fk, fi, ft⟩, ⟨tk, ti, tt⟩, xo⟩).keep hK1
        dsimp only at e0 e1 e2 e3 e4 e5 e6
        simp only [Nat.zero_add] at e1 e2 e3 e4 e5 e6
        clear c0 c1 c2 c3 c4 c5 c6
        have hca := @cell_after w1
        refine wp_region_later (by kernel_rfl) (by kernel_rfl) ?_
        rcases Nat.eq_zero_or_pos k with hk0 | hk0
        · have g0 : decide (0 < k) = false := by simp [hk0]
          obtain rfl : pok = true := by rw [← Hp.out, hk0]; rfl
          clear hk0
          clear hS
          repeat (go_big_quiet_step (fail))
          refine wpQuiet_nil ?_
          intro w2 hb2
          have hB := Below.next (hb.alloc hb.size _) (Below.next hb1 hb2)
          have hX := (IvAt.new wr 90 ⟨⟨fk, fi, ft⟩, ⟨tk, ti, tt⟩, xo⟩).keep (hK1.trans (keeps_of hb2))
          clear hb1 e0 e1 e2 e3 e4 e5 e6 hca hK1 g0
          obtain ⟨e0, e1, e2, e3, e4, e5, e6⟩ := hX
          dsimp only at e0 e1 e2 e3 e4 e5 e6
          simp only [Nat.zero_add] at e1 e2 e3 e4 e5 e6
          go_wp2_with (first
             | (go_at_call 110; refine (valid_any ⟨_, _, _⟩ _).mono ?_; rintro e w3 ⟨rfl, hb3⟩; replace hB := Below.next hB hb3; have hk3 := bcell hb3)
             | (go_at_call 87; refine (compare_any ⟨_, _, _⟩ ⟨_, _, _⟩ _).mono ?_; rintro e w4 ⟨rfl, hb4⟩; replace hB := Below.next hB hb4))
          all_goals
            have hl := Hl.out
            have hi := Hi.out
            first
              | (go_ret
                 refine ⟨ret_bool ?_, hB⟩
                 rw [hi]
                 first | (simp [*]; done) | (simp [*]; intros; omega) | (obtain rfl : lst = false := (by rw [← hl]; simp; omega); simp [*]))
              | (go_roundw
                 case rel =>
                   refine ⟨k + 1, by omega, by go_num, ?_, hB⟩
                   show _ = _
                   rw [hi]
                   first | (simp_all; done) | (obtain rfl : lst = true := (by rw [← hl]; simp; omega); simp_all)
                 case measure => simp [intOf]; omega)
        · have g0 : decide (0 < k) = true := by simp [hk0]
          obtain ⟨b', o', y, hA, hy, hd⟩ := hS.at (show k - 1 < n by omega)
          obtain ⟨rfl, rfl⟩ : b = b' ∧ o = o' := by injection hA with h; injection h with h1 h2; exact ⟨h1, h2⟩
          obtain ⟨⟨pk, pi, pt⟩, ⟨qk, qi, qt⟩, yo⟩ := y
          obtain ⟨d3, d4, d5⟩ := (IvAt.of hd).to_.keep ((keeps_alloc _ _).trans hK1)
          dsimp only at d3 d4 d5
          obtain rfl : decide (cmpV ⟨qk, qi, qt⟩ ⟨fk, fi, ft⟩ < 0) = pok := by
            rw [← Hp.out]
            have : prevI l k = l[k - 1]? := by obtain ⟨j, rfl⟩ : ∃ j, k = j + 1 := ⟨k - 1, by omega⟩; rfl
            rw [this, hy]; rfl
          clear hy hd hA hS
          repeat (go_big_quiet_step (first | (go_at_call 87; exact later_of (compare_any ⟨_, _, _⟩ ⟨_, _, _⟩ _))))
          refine wpQuiet_nil ?_
          intro w2 hb2
          have hB := Below.next (hb.alloc hb.size _) (Below.next hb1 hb2)
          have hX := (IvAt.new wr 90 ⟨⟨fk, fi, ft⟩, ⟨tk, ti, tt⟩, xo⟩).keep (hK1.trans (keeps_of hb2))
          clear hb1 e0 e1 e2 e3 e4 e5 e6 hca hK1 g0 d3 d4 d5
          obtain ⟨e0, e1, e2, e3, e4, e5, e6⟩ := hX
          dsimp only at e0 e1 e2 e3 e4 e5 e6
          simp only [Nat.zero_add] at e1 e2 e3 e4 e5 e6
          go_wp2_with (first
             | (go_at_call 110; refine (valid_any ⟨_, _, _⟩ _).mono ?_; rintro e w3 ⟨rfl, hb3⟩; replace hB := Below.next hB hb3; have hk3 := bcell hb3)
             | (go_at_call 87; refine (compare_any ⟨_, _, _⟩ ⟨_, _, _⟩ _).mono ?_; rintro e w4 ⟨rfl, hb4⟩; replace hB := Below.next hB hb4))
          all_goals
            have hl := Hl.out
            have hi := Hi.out
            first
              | (go_ret
                 refine ⟨ret_bool ?_, hB⟩
                 rw [hi]
                 first | (simp [*]; done) | (simp [*]; intros; omega) | (obtain rfl : lst = false := (by rw [← hl]; simp; omega); simp [*]))
              | (go_roundw
                 case rel =>
                   refine ⟨k + 1, by omega, by go_num, ?_, hB⟩
                   show _ = _
                   rw [hi]
                   first | (simp_all; done) | (obtain rfl : lst = true := (by rw [← hl]; simp; omega); simp_all)
                 case measure => simp [intOf]; omega)
    · go_wp2
      go_ret
      exact ⟨ret_bool (by rw [hinv.out]; have hkl : k = l.length := (by have := Hs.out.len; omega); subst hkl; simp [ordFrom]), hb⟩
end Go.Proofs.YtmnmckblmoalkaaGreat

namespace Go.Proofs.YtmnmckblmoalkaaGreat
open Go.RowKit
set_option maxRecDepth 100000

theorem validLong (A : Option Addr) (n c : Nat) (w : World) (hn : 64 < n) :
    Calls Tryz.prog 104 #[.slice A n c] w fun e w' => e = .returned (.bool false) ∧ Below w.heap.size w w' := by
  go_enter Tryz.func104, Tryz.ntmps104
  go_wp2
  go_ret
  exact ⟨rfl, Below.refl _ _⟩
theorem validL_any (A : Option Addr) (n c : Nat) (l : List Iv) (w : World) (hs : IvS w A n l) :
    Calls Tryz.prog 104 #[.slice A n c] w fun e w' => e = .returned (.bool (validL l)) ∧ Below w.heap.size w w' := by
  have hl := hs.len
  rcases Nat.lt_or_ge 64 n with h | h
  · have : validL l = false := by simp [validL]; omega
    rw [this]
    exact validLong A n c w h
  · have : validL l = ordFrom none l := by simp [validL]; omega
    rw [this]
    exact ivvalid_any A n c l w h hs

theorem opI_any (x y : Bool) (w : World) : Calls Tryz.prog 173 #[.bool x, .bool y] w fun e w' => e = .returned (.bool (x && y)) ∧ w = w' := by
  cases x <;> cases y <;>
  · go_enter Tryz.func173, Tryz.ntmps173
    go_wp2
    go_ret
    exact ⟨rfl, rfl⟩
/-- the result of an operation on two lists, and its error -/
def combineL (op : Bool → Bool → Bool) (a b : List Iv) : List Iv × Int :=
  if validL a && validL b then (if (mergeL op a b).length ≤ 64 then (mergeL op a b, 0) else ([], 2)) else ([], 30)

def IvRes (w : World) (r : List Iv × Int) (e : Ending) (w' : World) : Prop :=
  ∃ (A' : Option Addr) (c' : Nat), e = .returned (.tuple #[.slice A' r.1.length c', .int .i64 r.2]) ∧ IvS w' A' r.1.length r.1 ∧ Below w.heap.size w w'
theorem ivres_nil {w w' : World} {r : List Iv × Int} {x : Int} (h : r = ([], x)) (hb : Below w.heap.size w w') : IvRes w r (.returned (.tuple #[.slice none 0 0, .int .i64 x])) w' := by
  subst h
  exact ⟨none, 0, rfl, Sl.nil, hb⟩

set_option maxHeartbeats 1000000 in
theorem combine_any (F : Nat) (op : Bool → Bool → Bool) (hent : ∀ args w, (callFunc F args).run Tryz.prog w = .ok (.enter F args) w)
    (hop : ∀ x y W, Calls Tryz.prog F #[.bool x, .bool y] W fun e w' => e = .returned (.bool (op x y)) ∧ W = w')
    (A B : Option Addr) (n m ca cb : Nat) (la lb : List Iv) (w : World) (hA : IvS w A n la) (hB : IvS w B m lb) :
    Calls Tryz.prog 172 #[.slice A n ca, .slice B m cb, .func (.func F) #[] #[]] w fun e w' => IvRes w (combineL op la lb) e w' := by
  have Hop := Lib.hid hop
  have HA := Lib.hid hA
  have HB := Lib.hid hB
  have hln := hA.len
  have hlm := hB.len
  have Hln := Lib.hid hln
  have Hlm := Lib.hid hlm
  clear hop hA hB hln hlm
  obtain ⟨va, Hva⟩ : ∃ va, Hid (validL la = va) := ⟨_, rfl⟩
  obtain ⟨vb, Hvb⟩ : ∃ vb, Hid (validL lb = vb) := ⟨_, rfl⟩
  go_enter Tryz.func172, Tryz.ntmps172
  go_wp2_with fail
  refine (validL_any A n ca la _ HA.out).mono ?_
  rintro e w1 ⟨rfl, hb1⟩
  rw [Hva.out]
  cases va
  · go_wp2
    go_ret2
    exact ivres_nil (by simp [combineL, Hva.out]) hb1
  · go_wp2_with fail
    refine (validL_any B m cb lb _ (HB.out.keep (keeps_of hb1))).mono ?_
    rintro e w2 ⟨rfl, hb2⟩
    rw [Hvb.out]
    have hb2' := Below.next hb1 hb2
    cases vb
    · go_wp2
      go_ret2
      exact ivres_nil (by simp [combineL, Hva.out, Hvb.out]) hb2'
    · have hn : n ≤ 64 := by have h := Hva.out; have := Hln.out; simp [validL] at h; omega
      have hm : m ≤ 64 := by have h := Hvb.out; have := Hlm.out; simp [validL] at h; omega
      have hK := keeps_of hb2'
      go_wp2_with fail
      refine (merge_any F op hent Hop.out A B n m ca cb la lb _ hn hm (HA.out.keep hK) (HB.out.keep hK)).mono ?_
      rintro e w3 ⟨A3, c3, rfl, hS3, hb3⟩
      have hb3' := Below.next hb2' hb3
      have HS3 := Lib.hid hS3
      clear hS3 hK
      rcases Nat.lt_or_ge 64 (mergeL op la lb).length with h64 | h64
      · go_wp2
        go_ret2
        exact ivres_nil (by simp [combineL, Hva.out, Hvb.out]; omega) hb3'
      · go_wp2
        go_ret2
        have hr : combineL op la lb = (mergeL op la lb, 0) := by simp [combineL, Hva.out, Hvb.out]; omega
        rw [hr]
        exact ⟨A3, c3, rfl, HS3.out, hb3'⟩
def opU : Bool → Bool → Bool := fun x y => x || y
def opI : Bool → Bool → Bool := fun x y => x && y
def opM : Bool → Bool → Bool := fun x y => x && !y

theorem entI : ∀ args w, (callFunc 173 args).run Tryz.prog w = .ok (.enter 173 args) w := Go.Proofs.enters_of Tryz.func173 (by kernel_rfl) rfl
theorem intersect_any (A B : Option Addr) (n m ca cb : Nat) (la lb : List Iv) (w : World) (hA : IvS w A n la) (hB : IvS w B m lb) :
    Calls Tryz.prog 150 #[.slice A n ca, .slice B m cb] w fun e w' => IvRes w (combineL opI la lb) e w' := by
  have HA := Lib.hid hA
  have HB := Lib.hid hB
  clear hA hB
  go_enter Tryz.func150, Tryz.ntmps150
  go_wp2_with fail
  refine (combine_any 173 opI entI opI_any A B n m ca cb la lb _ HA.out HB.out).mono ?_
  rintro e w1 ⟨A1, c1, rfl, hS1, hb1⟩
  have HS1 := Lib.hid hS1
  clear hS1
  go_wp2
  go_ret2
  exact ⟨A1, c1, rfl, HS1.out, hb1⟩
end Go.Proofs.YtmnmckblmoalkaaGreat

/-
  Plain mathematics: the canonical form, as the program's formed looks at it, part by part. No program here.
-/
namespace Go.Proofs.YtmnmckblmoalkaaGreat
open Go.RowKit
set_option maxRecDepth 100000
open Rg

/-- a part is as the canonical form asks -/
def PtOk (n : Nat) (p : List Iv × Rg) : Prop := p.1 ≠ [] ∧ validL p.1 = true ∧ p.2.nix = false ∧ Form n p.2 ∧ p.2.fits = true
/-- a part may stand before another -/
def RelP (p q : List Iv × Rg) : Prop := cmpV (lo p.1) (lo q.1) < 0 ∧ disj p.1 q.1 ∧ p.2 ≠ q.2
def FormF (n : Nat) (r : Rg) : Prop := Form n r ∧ r.fits = true
theorem fits_iff : ∀ r : Rg, r.fits = true ↔ ∀ p ∈ r.parts, p.1.length ≤ 64 ∧ p.2.fits = true
  | .nil _ _ => by simp [Rg.fits, parts]
  | .cons vs rest tail => by
    have ih := fits_iff tail
    simp only [Rg.fits, parts, Bool.and_eq_true, decide_eq_true_eq, List.mem_cons, forall_eq_or_imp, ih]
theorem formF_zero (r : Rg) : FormF 0 r ↔ r.w = 0 ∧ r.len = 0 := by
  unfold FormF Form
  rw [← len_parts]
  constructor
  · rintro ⟨⟨h1, h2⟩, _⟩; exact ⟨h1, by rw [h2]; rfl⟩
  · rintro ⟨h1, h2⟩
    have h2 := List.eq_nil_of_length_eq_zero h2
    exact ⟨⟨h1, h2⟩, (fits_iff r).2 (by rw [h2]; simp)⟩
theorem formF_succ (n : Nat) (r : Rg) : FormF (n + 1) r ↔ r.w = ((n + 1 : Nat) : Int) ∧ r.f = false ∧ (∀ p ∈ r.parts, PtOk n p) ∧ r.parts.Pairwise RelP := by
  unfold FormF
  rw [fits_iff]
  constructor
  · rintro ⟨⟨h1, h2, h3, h4⟩, h5⟩
    refine ⟨h1, h2, fun p hp => ?_, h4⟩
    obtain ⟨a1, a2, a3, a4⟩ := h3 p hp
    obtain ⟨b1, b2⟩ := h5 p hp
    exact ⟨a1, by simp [validL, b1, a2], a4, a3, b2⟩
  · rintro ⟨h1, h2, h3, h4⟩
    have h3' : ∀ p ∈ r.parts, p.1.length ≤ 64 ∧ ordFrom none p.1 = true := fun p hp => by
      have := (h3 p hp).2.1
      simpa [validL] using this
    exact ⟨⟨h1, h2, fun p hp => ⟨(h3 p hp).1, (h3' p hp).2, (h3 p hp).2.2.2.1, (h3 p hp).2.2.1⟩, h4⟩, fun p hp => ⟨(h3' p hp).1, (h3 p hp).2.2.2.2⟩⟩
theorem not_ptok {n : Nat} {r : Rg} {k : Nat} {p : List Iv × Rg} (hp : r.parts[k]? = some p) (h : ¬ PtOk n p) : ¬ FormF (n + 1) r := fun hf => h (((formF_succ n r).1 hf).2.2.1 p (List.mem_of_getElem? hp))
theorem rel_at {n : Nat} {r : Rg} {j k : Nat} {p q : List Iv × Rg} (hf : FormF (n + 1) r) (hjk : j < k) (hq : r.parts[j]? = some q) (hp : r.parts[k]? = some p) : RelP q p := by
  have h := ((formF_succ n r).1 hf).2.2.2
  rw [List.pairwise_iff_getElem] at h
  obtain ⟨h1, e1⟩ := List.getElem?_eq_some_iff.1 hq
  obtain ⟨h2, e2⟩ := List.getElem?_eq_some_iff.1 hp
  have := h j k h1 h2 hjk
  rw [e1, e2] at this
  exact this
/-- lists that meet nowhere -/
theorem meet_iff {a b : List Iv} (ha : validL a = true) (hb : validL b = true) : ((combineL opI a b).2 = 0 ∧ (combineL opI a b).1.length = 0) ↔ disj a b := by
  have ha' : ordFrom none a = true := by simp [validL] at ha; exact ha.2
  have hb' : ordFrom none b = true := by simp [validL] at hb; exact hb.2
  obtain ⟨m1, _, m3⟩ := merge_spec opI rfl ha' hb'
  have key : mergeL opI a b = [] ↔ disj a b := by
    constructor
    · intro h v _ hv
      have := m3 v
      rw [h, hv] at this
      simpa [inL, opI] using this.symm
    · intro h
      rcases hm : mergeL opI a b with _ | ⟨x, l⟩
      · rfl
      · obtain ⟨l1, l2⟩ := lo_in m1 (by rw [hm]; simp)
        have h3 := m3 (lo (mergeL opI a b))
        rw [l2] at h3
        have h4 : inL a (lo (mergeL opI a b)) = true ∧ inL b (lo (mergeL opI a b)) = true := by simpa [opI] using h3.symm
        rw [h _ l1 h4.1] at h4
        cases h4.2
  rw [← key]
  unfold combineL
  rw [ha, hb]
  simp only [Bool.and_self, if_true]
  split
  · simp
  · rename_i hl
    constructor
    · intro h; cases h.1
    · intro h; rw [h] at hl; simp at hl
/-- the parts up to k are good, and the next one goes with the one before it -/
def GoodTo (n : Nat) (L : List (List Iv × Rg)) : Prop := (∀ p ∈ L, PtOk n p) ∧ L.Pairwise RelP
theorem GoodTo.snoc {n : Nat} {L : List (List Iv × Rg)} {p : List Iv × Rg} (h : GoodTo n L) (hp : PtOk n p) (hr : ∀ q ∈ L, RelP q p) : GoodTo n (L ++ [p]) := by
  refine ⟨fun q hq => ?_, List.pairwise_append.2 ⟨h.2, List.pairwise_singleton _ _, fun q hq s hs => ?_⟩⟩
  · rcases List.mem_append.1 hq with hq | hq
    · exact h.1 q hq
    · have : q = p := by simpa using hq
      rw [this]; exact hp
  · have : s = p := by simpa using hs
    rw [this]; exact hr q hq
theorem lo_take {n : Nat} {l : List (List Iv × Rg)} {k : Nat} {p : List Iv × Rg} (h : GoodTo n (l.take (k + 1))) {q : List Iv × Rg} (hq : l[k]? = some q) (hlt : cmpV (lo q.1) (lo p.1) < 0) : ∀ s ∈ l.take (k + 1), cmpV (lo s.1) (lo p.1) < 0 := by
  rw [take_snoc' hq] at h ⊢
  intro s hs
  rcases List.mem_append.1 hs with hs | hs
  · exact cmpV_lt_trans ((List.pairwise_append.1 h.2).2.2 s hs q (by simp)).1 hlt
  · have : s = q := by simpa using hs
    rw [this]; exact hlt
end Go.Proofs.YtmnmckblmoalkaaGreat
