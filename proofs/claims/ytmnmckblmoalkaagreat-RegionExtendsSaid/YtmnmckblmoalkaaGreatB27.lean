/-
  Texts: Ref03, FSame.
-/
import Derived.Test.YtmnmckblmoalkaaGreatB26
import Derived.Test.YtmnmckblmoalkaaGreatB22
set_option linter.unusedVariables false
namespace Go.Proofs.YtmnmckblmoalkaaGreat
open Go.RowKit
set_option maxRecDepth 100000

theorem rvalidL_any (A : Option Addr) (n c : Nat) (l : List Iv) (w : World) (hs : IvS w A n l) (hn : n ≤ 9223372036854775807) :
    Calls Tryz.prog 98 #[.slice A n c] w fun e w' => e = .returned (.bool (validL l)) ∧ Below w.heap.size w w' := by
  have Hs := Lib.hid hs
  have hl := hs.len
  clear hs
  rcases Nat.lt_or_ge 64 n with h | h
  · have hv : validL l = false := by simp [validL]; omega
    rw [hv]
    have g1 : decide ((n : Int) ≤ 64) = false := by simp; omega
    clear hl
    go_enter Tryz.func98, Tryz.ntmps98
    go_wp2
    go_ret
    exact ⟨rfl, Below.refl _ _⟩
  · have hv : validL l = ordFrom none l := by simp [validL]; omega
    rw [hv]
    have g1 : decide ((n : Int) ≤ 64) = true := by simp; omega
    clear hl
    go_enter Tryz.func98, Tryz.ntmps98
    go_wp2_with fail
    refine (ordered_any A n c l _ (by omega) Hs.out).mono ?_
    rintro e w1 ⟨rfl, hb1⟩
    go_wp2
    go_ret
    exact ⟨rfl, hb1⟩

set_option maxHeartbeats 400000 in
theorem rbetween_any (f t : Vl) (w : World) : Calls Tryz.prog 96 #[.agg #[.int .i64 f.k, .int .i64 f.i, .string f.t], .agg #[.int .i64 t.k, .int .i64 t.i, .string t.t]] w fun e w' => IvRes w (betweenL f t) e w' := by
  obtain ⟨fk, fi, ft⟩ := f
  obtain ⟨tk, ti, tt⟩ := t
  obtain ⟨v1, H1⟩ : ∃ v, Hid (validV ⟨fk, fi, ft⟩ = v) := ⟨_, rfl⟩
  obtain ⟨v2, H2⟩ : ∃ v, Hid (validV ⟨tk, ti, tt⟩ = v) := ⟨_, rfl⟩
  obtain ⟨c, H3⟩ : ∃ v, Hid (cmpV ⟨fk, fi, ft⟩ ⟨tk, ti, tt⟩ = v) := ⟨_, rfl⟩
  go_enter Tryz.func96, Tryz.ntmps96
  go_wp2_with fail
  refine (rvalid_any ⟨fk, fi, ft⟩ _).mono ?_
  rintro e w1 ⟨rfl, hb1⟩
  rw [H1.out]
  have hx1 := ((Blk.new w 49 #[.int .i64 fk, .int .i64 fi, .string ft]).alloc (.cells #[.int .i64 tk, .int .i64 ti, .string tt] 49)).below hb1
  have hx2 := (Blk.new (w.alloc (.cells #[.int .i64 fk, .int .i64 fi, .string ft] 49)) 49 #[.int .i64 tk, .int .i64 ti, .string tt]).below hb1
  simp only [World.size_alloc] at hx2
  have hB1 : Below w.heap.size w w1 := Below.next (((Below.refl _ _).alloc (Nat.le_refl _) _).alloc (by simp) _) hb1
  cases v1
  · go_wp2
    go_ret2
    exact ivres_nil (by simp [betweenL, H1.out]) hB1
  · have y1 := hx1.cell
    have y2 := hx2.cell
    go_wp2_with fail
    refine (rvalid_any ⟨tk, ti, tt⟩ _).mono ?_
    rintro e w2 ⟨rfl, hb2⟩
    rw [H2.out]
    have hB2 := Below.next hB1 hb2
    cases v2
    · go_wp2
      go_ret2
      exact ivres_nil (by simp [betweenL, H1.out, H2.out]) hB2
    · clear y1 y2
      have y1 := (hx1.below hb2).cell
      have y2 := (hx2.below hb2).cell
      go_wp2_with fail
      refine (rcompare_any ⟨fk, fi, ft⟩ ⟨tk, ti, tt⟩ _).mono ?_
      rintro e w3 ⟨rfl, hb3⟩
      rw [H3.out]
      have hB3 := Below.next hB2 hb3
      clear y1 y2
      have y1 := ((hx1.below hb2).below hb3).cell
      have y2 := ((hx2.below hb2).below hb3).cell
      rcases Int.lt_or_le c 0 with h | h
      · go_wp2
        go_ret2
        have hr : betweenL ⟨fk, fi, ft⟩ ⟨tk, ti, tt⟩ = ([⟨⟨fk, fi, ft⟩, ⟨tk, ti, tt⟩, false⟩], 0) := by simp [betweenL, H1.out, H2.out, H3.out, h]
        rw [hr]
        exact ⟨_, _, rfl, iv_one (x := ⟨⟨fk, fi, ft⟩, ⟨tk, ti, tt⟩, false⟩) (Blk.new _ _ _), hB3.alloc hB3.size _⟩
      · go_wp2
        go_ret2
        exact ivres_nil (by simp [betweenL, H1.out, H2.out, H3.out]; omega) hB3

theorem rfrom_any (f : Vl) (w : World) : Calls Tryz.prog 94 #[.agg #[.int .i64 f.k, .int .i64 f.i, .string f.t]] w fun e w' => IvRes w (fromL f) e w' := by
  obtain ⟨fk, fi, ft⟩ := f
  obtain ⟨v1, H1⟩ : ∃ v, Hid (validV ⟨fk, fi, ft⟩ = v) := ⟨_, rfl⟩
  go_enter Tryz.func94, Tryz.ntmps94
  go_wp2_with fail
  refine (rvalid_any ⟨fk, fi, ft⟩ _).mono ?_
  rintro e w1 ⟨rfl, hb1⟩
  rw [H1.out]
  have y1 := ((Blk.new w 49 #[.int .i64 fk, .int .i64 fi, .string ft]).below hb1).cell
  have hB1 : Below w.heap.size w w1 := Below.next ((Below.refl _ _).alloc (Nat.le_refl _) _) hb1
  cases v1
  · go_wp2
    go_ret2
    exact ivres_nil (by simp [fromL, H1.out]) hB1
  · go_wp2
    go_ret2
    have hr : fromL ⟨fk, fi, ft⟩ = ([⟨⟨fk, fi, ft⟩, zeroV, true⟩], 0) := by simp [fromL, H1.out]
    rw [hr]
    exact ⟨_, _, rfl, iv_one (T := 90) (x := ⟨⟨fk, fi, ft⟩, zeroV, true⟩) (Blk.new _ _ _), hB1.alloc hB1.size _⟩

theorem rall_any (w : World) : Calls Tryz.prog 45 #[] w fun e w' => IvLst w allL e w' := by
  go_enter Tryz.func45, Tryz.ntmps45
  go_wp2
  go_ret
  exact ⟨_, _, rfl, iv_one (T := 90) (x := ⟨⟨1, 0, ⟨#[]⟩⟩, zeroV, true⟩) (Blk.new _ _ _), (Below.refl _ _).alloc (Nat.le_refl _) _⟩

set_option maxHeartbeats 1000000 in
theorem same_any (A B : Option Addr) (n m ca cb : Nat) (la lb : List Iv) (w : World) (hA : IvS w A n la) (hB : IvS w B m lb) (hn : n ≤ 9223372036854775807) (hm : m ≤ 9223372036854775807) :
    Calls Tryz.prog 64 #[.slice A n ca, .slice B m cb] w fun e w' => e = .returned (.bool (decide (la = lb))) ∧ Below w.heap.size w w' := by
  have HA := Lib.hid hA
  have HB := Lib.hid hB
  have Hla := Lib.hid hA.len
  have Hlb := Lib.hid hB.len
  clear hA hB
  by_cases hnm : n = m
  · subst hnm
    generalize hr : decide (la = lb) = r
    have HR : Hid (decide (la.drop 0 = lb.drop 0) = r) := by
      show _ = _
      simpa using hr
    clear hr
    go_enter Tryz.func64, Tryz.ntmps64
    go_wp2
    go_loopw [13] (fun i wr => ∃ k : Nat, k ≤ n ∧ i = .int .i64 (k : Int) ∧ Hid (decide (la.drop k = lb.drop k) = r) ∧ Below w.heap.size w wr) (fun i _ => n - (intOf i).toNat)
    case atStart => exact ⟨0, by omega, rfl, HR, Below.refl _ _⟩
    case round =>
      obtain ⟨k, hk, rfl, hinv, hb⟩ := hrel
      by_cases hlt : k < n
      · obtain ⟨b1, o1, x, rfl, hx, hxc⟩ := (HA.out.keep (keeps_of hb)).at hlt
        obtain ⟨b2, o2, y, rfl, hy, hyc⟩ := (HB.out.keep (keeps_of hb)).at hlt
        have Hst : Hid (r = (decide (x = y) && decide (la.drop (k + 1) = lb.drop (k + 1)))) := by
          show _ = _
          rw [← hinv.out, drop_at hx, drop_at hy]
          simp
        have hev := run_neqI x y
        obtain ⟨q, Hq⟩ : ∃ q, Hid (decide (x ≠ y) = q) := ⟨_, rfl⟩
        rw [Hq.out] at hev
        obtain ⟨⟨fk, fi, ft⟩, ⟨tk, ti, tt⟩, xo⟩ := x
        obtain ⟨⟨gk, gi, gt⟩, ⟨uk, ui, ut⟩, yo⟩ := y
        dsimp only at hev
        obtain ⟨c0, c1, c2, c3, c4, c5, c6⟩ := IvAt.of hxc
        obtain ⟨d0, d1, d2, d3, d4, d5, d6⟩ := IvAt.of hyc
        dsimp only at c0 c1 c2 c3 c4 c5 c6 d0 d1 d2 d3 d4 d5 d6
        clear hx hy hxc hyc
        go_wp2
        have hca := @cell_after wr.drew
        refine wp_region_seg [] [0, 1, 2, 3, 4, 5, 6, 7, 8] (by kernel_rfl) (by kernel_rfl) (fun _ _ d _ _ h => by cases d <;> exact h) ?_
        simp only [pickSegs, pickOps, opAt, List.map_cons, List.map_nil, List.getElem?_toArray, List.getElem?_cons_zero, List.getElem?_cons_succ, Option.getD_some]
        unfold wpBlocks
        repeat (go_big_quiet_step (fail))
        refine wpQuiet_nil ?_
        clear hca
        cases q
        · go_wp2
          go_roundw
          case rel => exact ⟨k + 1, by omega, by go_num, (by show _ = _; rw [Hst.out]; have := Hq.out; simp at this; simp [this]), hb.drew⟩
          case measure => simp [intOf]; omega
        · go_wp2
          go_ret
          exact ⟨ret_bool (by rw [Hst.out]; have := Hq.out; simp at this; simp; intros; simp_all), hb.drew⟩
      · go_wp2
        go_ret
        have h1 : la.drop k = [] := List.drop_eq_nil_of_le (by have := Hla.out; omega)
        have h2 : lb.drop k = [] := List.drop_eq_nil_of_le (by have := Hlb.out; omega)
        exact ⟨ret_bool (by rw [← hinv.out, h1, h2]; simp), hb⟩
  · have hr : decide (la = lb) = false := by
      simp only [decide_eq_false_iff_not]
      rintro rfl
      have := Hla.out
      have := Hlb.out
      omega
    rw [hr]
    have g1 : ((n : Int) != (m : Int)) = true := by simp; omega
    clear hr
    go_enter Tryz.func64, Tryz.ntmps64
    go_wp2
    go_ret
    exact ⟨rfl, Below.refl _ _⟩
end Go.Proofs.YtmnmckblmoalkaaGreat

/-
  The reference's Same on regions: it says whether two regions are the same tree.
-/
namespace Go.Proofs.YtmnmckblmoalkaaGreat
open Go.RowKit
set_option maxRecDepth 100000
open Rg

set_option maxHeartbeats 4000000 in
theorem fsame_any (a : Rg) : ∀ (x : Int) (f : Bool) (A : Option Addr) (n c : Nat) (y : Int) (g : Bool) (B : Option Addr) (m d : Nat) (b : Rg) (w : World), RgS w x f A n c a → RgS w y g B m d b → Sm a → Sm b →
    Calls Tryz.prog 25 #[.agg #[.int .i64 x, .bool f, .slice A n c], .agg #[.int .i64 y, .bool g, .slice B m d]] w fun e w' => e = .returned (.bool (decide (a = b))) ∧ Below w.heap.size w w' := by
  induction hsz : a.size using Nat.strongRecOn generalizing a with
  | _ s ih =>
    intro x f A n c y g B m d b w hR hS hsa hsb
    have hB0 : Below w.heap.size w ((w.alloc (.cells #[.int .i64 x, .bool f, .slice A n c] 27)).alloc (.cells #[.int .i64 y, .bool g, .slice B m d] 27)) := ((Below.refl _ _).alloc (Nat.le_refl _) _).alloc (by simp) _
    have h0 : decide (a = b) = (decide (x = y) && decide (f = g) && decide (a.parts = b.parts)) := by
      rw [Bool.eq_iff_iff]
      simp only [decide_eq_true_eq, Bool.and_eq_true]
      rw [rg_eq_iff, hR.hw, hS.hw, hR.hf, hS.hf, and_assoc]
    have hn := hR.len
    have hm := hS.len
    have hns : n ≤ 100000 := by rw [hn]; exact hsa.1
    have hms : m ≤ 100000 := by rw [hm]; exact hsb.1
    rw [h0]
    clear h0
    by_cases hxy : x = y
    · by_cases hfg : f = g
      · by_cases hnm : n = m
        · subst hxy hfg hnm
          generalize hr : (decide (x = x) && decide (f = f) && decide (a.parts = b.parts)) = r
          have HRR : Hid (decide (a.parts.drop 0 = b.parts.drop 0) = r) := by
            show _ = _
            simpa using hr
          have HI := Lib.hid ih
          have HR := Lib.hid hR
          have HS := Lib.hid hS
          have Hsz := Lib.hid hsz
          have HSA := Lib.hid hsa
          have HSB := Lib.hid hsb
          have HB0 := Lib.hid hB0
          have hnc := hR.ok.1
          have hnd := hS.ok.1
          clear ih hR hS hsz hr hsa hsb hn hm hB0
          have g1 : (x != x) = false := by simp
          have g2 : (f != f) = false := by simp
          go_enter Tryz.func25, Tryz.ntmps25
          go_wp2
          obtain ⟨W0, HW0⟩ : ∃ W : World, Hid ((w.alloc (.cells #[.int .i64 x, .bool f, .slice A n c] 27)).alloc (.cells #[.int .i64 x, .bool f, .slice B n d] 27) = W) := ⟨_, rfl⟩
          rw [HW0.out] at HB0
          have E1 : Hid (Blk W0 w.heap.size 27 #[.int .i64 x, .bool f, .slice A n c]) := by
            rw [← HW0.out]
            exact Lib.hid ((Blk.new w _ _).alloc _)
          have E2 : Hid (Blk W0 (w.heap.size + 1) 27 #[.int .i64 x, .bool f, .slice B n d]) := by
            have := Blk.new (w.alloc (.cells #[.int .i64 x, .bool f, .slice A n c] 27)) 27 #[.int .i64 x, .bool f, .slice B n d]
            rw [HW0.out, World.size_alloc] at this
            exact this
          go_loopw [30] (fun i wr => ∃ k : Nat, k ≤ n ∧ i = .int .i64 (k : Int) ∧ Hid (decide (a.parts.drop k = b.parts.drop k) = r) ∧ Below W0.heap.size W0 wr) (fun i _ => n - (intOf i).toNat)
          case atStart => exact ⟨0, by omega, rfl, HRR, by rw [HW0.out]; exact Below.refl _ _⟩
          case round =>
            obtain ⟨k, hk, rfl, hinv, hb0⟩ := hrel
            have hb := Below.next HB0.out hb0
            by_cases hlt : k < n
            · obtain ⟨b1, o1, p, A1, n1, c1, x1, f1, A2, n2, c2, rfl, hp, hpt⟩ := (HR.out.keep (keeps_of hb.drew)).at hlt
              obtain ⟨b2, o2, q, B1, m1, d1, y1, g1', B2, m2, d2, rfl, hq, hqt⟩ := (HS.out.keep (keeps_of hb.drew)).at hlt
              have Hst : Hid (r = (decide (p.1 = q.1) && decide (p.2 = q.2) && decide (a.parts.drop (k + 1) = b.parts.drop (k + 1)))) := by
                show _ = _
                rw [← hinv.out, drop_at hp, drop_at hq, Bool.eq_iff_iff]
                simp only [List.cons.injEq, decide_eq_true_eq, Bool.and_eq_true, Prod.ext_iff]
              have hps := size_at hp
              rw [Hsz.out] at hps
              have HPS := Lib.hid (HSA.out.mem (List.mem_of_getElem? hp))
              have HQS := Lib.hid (HSB.out.mem (List.mem_of_getElem? hq))
              have HI' := Lib.hid (HI.out p.2.size hps p.2 rfl)
              have hn1 : n1 ≤ 100000 := by rw [← hpt.vs.len]; exact HPS.out.1
              have hm1 : m1 ≤ 100000 := by rw [← hqt.vs.len]; exact HQS.out.1
              have HPT := Lib.hid hpt
              have HQT := Lib.hid hqt
              obtain ⟨p0, p1, p2, p3, _, _, _⟩ := hpt
              obtain ⟨q0, q1, q2, q3, _, _, _⟩ := hqt
              have z1 := (E1.out.below hb0).drew.cell
              have z2 := (E2.out.below hb0).drew.cell
              have hca := @cell_after wr.drew
              clear hp hq hinv
              obtain ⟨t, Ht⟩ : ∃ t, Hid (decide (p.1 = q.1) = t) := ⟨_, rfl⟩
              go_wp2
              refine wp_region_seg [([0, 1, 2, 3, 4, 5, 6, 7, 8, 9, 10, 11], 12), ([13, 14, 15, 16, 17, 18, 19, 20, 21, 22, 23, 24, 25, 26], 27)] [28, 29] (by kernel_rfl) (by kernel_rfl) (fun _ _ d _ _ h => by cases d <;> exact h) ?_
              simp only [pickSegs, pickOps, opAt, List.map_cons, List.map_nil, List.getElem?_toArray, List.getElem?_cons_zero, List.getElem?_cons_succ, Option.getD_some]
              unfold wpBlocks
              repeat (go_big_quiet_step (fail))
              refine wpQuiet_nil ?_
              clear hca z1 z2 p0 p1 p2 p3 q0 q1 q2 q3
              go_wp2_with (first | (go_at_call 64; refine (same_any A1 B1 n1 m1 c1 d1 p.1 q.1 _ HPT.out.vs HQT.out.vs (by omega) (by omega)).mono ?_; rintro e w2 ⟨rfl, hb2⟩; rw [Ht.out]))
              refine ⟨hb2, ?_⟩
              have hb02 := Below.next hb0.drew hb2
              have HB2 := Lib.hid hb02
              obtain ⟨p0, p1, p2, p3, _, _, prg⟩ := HPT.out.keep (keeps_of hb2)
              obtain ⟨q0, q1, q2, q3, _, _, qrg⟩ := HQT.out.keep (keeps_of hb2)
              have PR := Lib.hid prg
              have QR := Lib.hid qrg
              have z1 := (E1.out.below hb02).cell
              have z2 := (E2.out.below hb02).cell
              have hca := @cell_after w2
              clear prg qrg hb2 hb02 HPT HQT hb hb0
              unfold wpBlocks
              cases t
              · repeat (go_big_quiet_step (fail))
                refine wpQuiet_nil ?_
                clear hca z1 z2 p0 p1 p2 p3 q0 q1 q2 q3
                go_wp2_with fail
                refine ⟨Below.refl _ _, ?_⟩
                unfold wpBlocks
                repeat (go_big_quiet_step (fail))
                refine wpQuiet_nil ?_
                go_wp2
                go_ret
                exact ⟨ret_bool (by rw [Hst.out, Ht.out]; rfl), Below.next HB0.out HB2.out⟩
              · repeat (go_big_quiet_step (fail))
                refine wpQuiet_nil ?_
                clear hca z1 z2 p0 p1 p2 p3 q0 q1 q2 q3
                obtain ⟨u, Hu⟩ : ∃ t, Hid (decide (p.2 = q.2) = t) := ⟨_, rfl⟩
                go_wp2_with (first | (go_at_call 25; refine (HI'.out x1 f1 A2 n2 c2 y1 g1' B2 m2 d2 q.2 _ PR.out QR.out HPS.out.2 HQS.out.2).mono ?_; rintro e w3 ⟨rfl, hb3⟩; rw [Hu.out]))
                refine ⟨hb3, ?_⟩
                have HB3 := Lib.hid (Below.next HB2.out hb3)
                clear hb3
                unfold wpBlocks
                cases u
                · repeat (go_big_quiet_step (fail))
                  refine wpQuiet_nil ?_
                  go_wp2
                  go_ret
                  exact ⟨ret_bool (by rw [Hst.out, Ht.out, Hu.out]; rfl), Below.next HB0.out HB3.out⟩
                · repeat (go_big_quiet_step (fail))
                  refine wpQuiet_nil ?_
                  go_wp2
                  go_roundw
                  case rel =>
                    refine ⟨k + 1, by omega, by go_num, ?_, HB3.out⟩
                    show _ = _
                    rw [Hst.out, Ht.out, Hu.out]
                    simp
                  case measure => simp [intOf]; omega
            · go_wp2
              go_ret
              have h1 : a.parts.drop k = [] := List.drop_eq_nil_of_le (by rw [len_parts]; have := HR.out.len; omega)
              have h2 : b.parts.drop k = [] := List.drop_eq_nil_of_le (by rw [len_parts]; have := HS.out.len; omega)
              exact ⟨ret_bool (by rw [← hinv.out, h1, h2]; simp), hb⟩
        · have hr : (decide (x = y) && decide (f = g) && decide (a.parts = b.parts)) = false := by
            have : a.parts ≠ b.parts := fun h => hnm (by rw [hn, hm, ← len_parts, ← len_parts, h])
            simp [this]
          rw [hr]
          have g3 : ((n : Int) != (m : Int)) = true := by simp; omega
          subst hxy hfg
          have g1 : (x != x) = false := by simp
          have g2 : (f != f) = false := by simp
          have HB0 := Lib.hid hB0
          clear ih hR hS hsz hr hsa hsb hn hm hB0 hnm
          go_enter Tryz.func25, Tryz.ntmps25
          go_wp2
          go_ret
          exact ⟨rfl, HB0.out⟩
      · have hr : (decide (x = y) && decide (f = g) && decide (a.parts = b.parts)) = false := by simp [hfg]
        rw [hr]
        subst hxy
        have g1 : (x != x) = false := by simp
        have HB0 := Lib.hid hB0
        clear ih hR hS hsz hr hsa hsb hn hm hB0
        cases f <;> cases g <;> first | exact absurd rfl hfg | skip
        all_goals
          clear hfg
          go_enter Tryz.func25, Tryz.ntmps25
          go_wp2
          go_ret
          exact ⟨rfl, HB0.out⟩
    · have hr : (decide (x = y) && decide (f = g) && decide (a.parts = b.parts)) = false := by simp [hxy]
      rw [hr]
      have g1 : (x != y) = true := by simp [hxy]
      have HB0 := Lib.hid hB0
      clear ih hR hS hsz hr hsa hsb hn hm hB0 hxy
      go_enter Tryz.func25, Tryz.ntmps25
      go_wp2
      go_ret
      exact ⟨rfl, HB0.out⟩
end Go.Proofs.YtmnmckblmoalkaaGreat
