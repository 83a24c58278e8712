/-
  Texts: Contains.
-/
import Derived.Test.YtmnmckblmoalkaaGreatB3
set_option linter.unusedVariables false
namespace Go.Proofs.YtmnmckblmoalkaaGreat
open Go.RowKit
set_option maxRecDepth 100000
set_option linter.unusedVariables false

def hitL (la : List Vl) (p : Vl) : Bool := match la with
  | [] => false
  | x :: _ => decide (x = p)
def bump (i : Nat) (q : Bool) : Nat := i + (if q then 1 else 0)
def ContPost (w : World) (gi gj ga gb i j : Nat) (A B : Option Addr) (n m ca cb : Nat) (q1 q2 : Bool) (e : Ending) (w' : World) : Prop :=
  e = .returned (.tuple #[.bool (bump i q1 % 2 == 1), .bool (bump j q2 % 2 == 1)]) ∧ MCap w' gi gj ga gb (bump i q1) (bump j q2) A B n m ca cb ∧ But (fun k => k = gi ∨ k = gj) w w'
theorem MCap.lt {w : World} {gi gj ga gb i j : Nat} {A B : Option Addr} {n m ca cb : Nat} (h : MCap w gi gj ga gb i j A B n m ca cb) : gi < w.heap.size ∧ gj < w.heap.size ∧ ga < w.heap.size ∧ gb < w.heap.size := ⟨h.hi.lt, h.hj.lt, h.ha.lt, h.hb.lt⟩
theorem MCap.alloc {w : World} {gi gj ga gb i j : Nat} {A B : Option Addr} {n m ca cb : Nat} (h : MCap w gi gj ga gb i j A B n m ca cb) (o : Obj) : MCap (w.alloc o) gi gj ga gb i j A B n m ca cb := ⟨h.hi.alloc o, h.hj.alloc o, h.ha.alloc o, h.hb.alloc o⟩
theorem MCap.below {w w' : World} {gi gj ga gb i j : Nat} {A B : Option Addr} {n m ca cb : Nat} (h : MCap w gi gj ga gb i j A B n m ca cb) (hb : Below w.heap.size w w') : MCap w' gi gj ga gb i j A B n m ca cb := ⟨h.hi.below hb, h.hj.below hb, h.ha.below hb, h.hb.below hb⟩
theorem MCap.grown {w w' : World} {gi gj ga gb i j : Nat} {A B : Option Addr} {n m ca cb : Nat} (h : MCap w gi gj ga gb i j A B n m ca cb) {row : Option Nat} (hg : w.grownBy w' row) (hr : some gi ≠ row ∧ some gj ≠ row ∧ some ga ≠ row ∧ some gb ≠ row) : MCap w' gi gj ga gb i j A B n m ca cb :=
  ⟨h.hi.grown hg hr.1, h.hj.grown hg hr.2.1, h.ha.grown hg hr.2.2.1, h.hb.grown hg hr.2.2.2⟩

theorem par_n (i : Nat) : ((i : Int) % 2 == 1) = (bump i false % 2 == 1) := by
  rw [Bool.eq_iff_iff]; simp [bump]; omega
theorem par_y (i : Nat) : (((i : Int) + 1) % 2 == 1) = (bump i true % 2 == 1) := by
  rw [Bool.eq_iff_iff]; simp [bump]; omega
theorem MCap.drew {w : World} {gi gj ga gb i j : Nat} {A B : Option Addr} {n m ca cb : Nat} (h : MCap w gi gj ga gb i j A B n m ca cb) : MCap w.drew gi gj ga gb i j A B n m ca cb := ⟨h.hi, h.hj, h.ha, h.hb⟩
theorem MCap.setI {w : World} {gi gj ga gb i j : Nat} {A B : Option Addr} {n m ca cb : Nat} (h : MCap w gi gj ga gb i j A B n m ca cb) (hij : gi ≠ gj) (hga : ga ≠ gi ∧ ga ≠ gj) (hgb : gb ≠ gi ∧ gb ≠ gj) :
    MCap (w.setCell ⟨gi, 0, none⟩ (.int .i64 ((i : Int) + 1))) gi gj ga gb (i + 1) j A B n m ca cb :=
  ⟨h.hi.set_ 0 (.int .i64 ((i : Int) + 1)), h.hj.far (p := ⟨gi, 0, none⟩) (Ne.symm hij) _, h.ha.far (p := ⟨gi, 0, none⟩) hga.1 _, h.hb.far (p := ⟨gi, 0, none⟩) hgb.1 _⟩
theorem MCap.setJ {w : World} {gi gj ga gb i j : Nat} {A B : Option Addr} {n m ca cb : Nat} (h : MCap w gi gj ga gb i j A B n m ca cb) (hij : gi ≠ gj) (hga : ga ≠ gi ∧ ga ≠ gj) (hgb : gb ≠ gi ∧ gb ≠ gj) :
    MCap (w.setCell ⟨gj, 0, none⟩ (.int .i64 ((j : Int) + 1))) gi gj ga gb i (j + 1) A B n m ca cb :=
  ⟨h.hi.far (p := ⟨gj, 0, none⟩) hij _, h.hj.set_ 0 (.int .i64 ((j : Int) + 1)), h.ha.far (p := ⟨gj, 0, none⟩) hga.2 _, h.hb.far (p := ⟨gj, 0, none⟩) hgb.2 _⟩

set_option maxHeartbeats 2000000 in
theorem contains_tt (w : World) (gi gj ga gb i j : Nat) (A B : Option Addr) (n m ca cb : Nat) (pa pb : List Vl) (p : Vl) (hc : MCap w gi gj ga gb i j A B n m ca cb)
    (hA : VlS w A n pa) (hB : VlS w B m pb) (hi : i < n) (hj : j < m) (hn : n ≤ 1000) (hm : m ≤ 1000) (hij : gi ≠ gj)
    (hdA : 0 < n → ∀ b o, A = some ⟨b, o, none⟩ → b ≠ gi ∧ b ≠ gj) (hdB : 0 < m → ∀ b o, B = some ⟨b, o, none⟩ → b ≠ gi ∧ b ≠ gj) (hga : ga ≠ gi ∧ ga ≠ gj) (hgb : gb ≠ gi ∧ gb ≠ gj) :
    Calls Tryz.prog 196 #[.agg #[.int .i64 p.k, .int .i64 p.i, .string p.t], .pointer (some ⟨gi, 0, none⟩), .pointer (some ⟨ga, 0, none⟩), .pointer (some ⟨gj, 0, none⟩), .pointer (some ⟨gb, 0, none⟩)] w fun e w' =>
      ContPost w gi gj ga gb i j A B n m ca cb (hitL (pa.drop i) p) (hitL (pb.drop j) p) e w' := by
  obtain ⟨b, o, x, rfl, hx, hxc⟩ := hA.at hi
  have HA : hitL (pa.drop i) p = decide (x = p) := by rw [drop_at hx]; rfl
  obtain ⟨hd1, hd2⟩ := hdA (by omega) _ _ rfl
  obtain ⟨xk, xi, xt⟩ := x
  obtain ⟨b', o', y, rfl, hy, hyc⟩ := hB.at hj
  have HB : hitL (pb.drop j) p = decide (y = p) := by rw [drop_at hy]; rfl
  obtain ⟨hd3, hd4⟩ := hdB (by omega) _ _ rfl
  obtain ⟨yk, yi, yt⟩ := y
  obtain ⟨pk, pi, pt⟩ := p
  rw [HA, HB]
  clear HA HB
  obtain ⟨c0, c1, c2⟩ := VlAt.of hxc
  dsimp only at c0 c1 c2
  have hev1 := run_eqV xk xi pk pi xt pt
  generalize decide ((⟨xk, xi, xt⟩ : Vl) = ⟨pk, pi, pt⟩) = q1 at *
  have g1 : decide (i < n) = true := by simp [hi]
  have hib : i ≤ 1000 := by omega
  clear hx hxc
  obtain ⟨d0, d1, d2⟩ := VlAt.of hyc
  dsimp only at d0 d1 d2
  have hev2 := run_eqV yk yi pk pi yt pt
  generalize decide ((⟨yk, yi, yt⟩ : Vl) = ⟨pk, pi, pt⟩) = q2 at *
  have g2 : decide (j < m) = true := by simp [hj]
  have hjb : j ≤ 1000 := by omega
  clear hy hyc
  clear hA hB hdA hdB
  go_enter Tryz.func196, Tryz.ntmps196
  go_wp2
  have hX := (Blk.new w 49 #[.int .i64 pk, .int .i64 pi, .string pt])
  have hK0 := keeps_alloc w (.cells #[.int .i64 pk, .int .i64 pi, .string pt] 49)
  have hne : w.heap.size ≠ gi ∧ w.heap.size ≠ gj := ⟨by have := hc.hi.lt; omega, by have := hc.hj.lt; omega⟩
  replace c0 := keep_cell hK0 c0
  replace c1 := keep_cell hK0 c1
  replace c2 := keep_cell hK0 c2
  replace d0 := keep_cell hK0 d0
  replace d1 := keep_cell hK0 d1
  replace d2 := keep_cell hK0 d2
  have hC := hc.alloc (.cells #[.int .i64 pk, .int .i64 pi, .string pt] 49)
  have hB0 : But (fun k => k = gi ∨ k = gj) w (w.alloc (.cells #[.int .i64 pk, .int .i64 pi, .string pt] 49)) := But.alloc _ _
  generalize w.alloc (.cells #[.int .i64 pk, .int .i64 pi, .string pt] 49) = W at *
  generalize hwz : w.heap.size = z at *
  clear hwz hK0 hc
  have hXc := hX.cell
  have a1 := blocks_at hC.hi (i := 0) rfl
  have a2 := blocks_at hC.hj (i := 0) rfl
  have a3 := blocks_at hC.ha (i := 0) rfl
  have a4 := blocks_at hC.hb (i := 0) rfl
  have hca := @cell_after W.drew
  refine wp_region_seg [] [0, 1, 2, 3, 4, 5, 6, 7, 8, 9, 10, 11] (by kernel_rfl) (by kernel_rfl) (fun _ _ d _ _ h => by cases d <;> exact h) ?_
  simp only [pickSegs, pickOps, opAt, List.map_cons, List.map_nil, List.getElem?_toArray, List.getElem?_cons_zero, List.getElem?_cons_succ, Option.getD_some]
  unfold wpBlocks
  repeat (go_big_quiet_step (fail))
  refine wpQuiet_nil ?_
  clear hca
  clear hXc
  cases q1
  · go_wp2
    have hC1 : MCap W.drew gi gj ga gb i j _ _ n m ca cb := hC.drew
    have hB1 := hB0.drew
    have hXc := hX.drew.cell
    replace d0 : W.drew.cell? _ = _ := d0
    replace d1 : W.drew.cell? _ = _ := d1
    replace d2 : W.drew.cell? _ = _ := d2
    clear a1 a2 a3 a4 hX hC hB0
    clear c0 c1 c2
    generalize W.drew = W1 at *
    have a1 := blocks_at hC1.hi (i := 0) rfl
    have a2 := blocks_at hC1.hj (i := 0) rfl
    have a3 := blocks_at hC1.ha (i := 0) rfl
    have a4 := blocks_at hC1.hb (i := 0) rfl
    have hca := @cell_after W1.drew
    refine wp_region_seg [] [0, 1, 2, 3, 4, 5, 6, 7, 8, 9, 10, 11] (by kernel_rfl) (by kernel_rfl) (fun _ _ d _ _ h => by cases d <;> exact h) ?_
    simp only [pickSegs, pickOps, opAt, List.map_cons, List.map_nil, List.getElem?_toArray, List.getElem?_cons_zero, List.getElem?_cons_succ, Option.getD_some]
    unfold wpBlocks
    repeat (go_big_quiet_step (fail))
    refine wpQuiet_nil ?_
    clear hca
    cases q2
    · go_wp2
      have hC2 : MCap W1.drew gi gj ga gb _ j _ _ n m ca cb := hC1.drew
      have hB2 := hB1.drew
      clear a1 a2 a3 a4
      generalize W1.drew = W2 at *
      have a1 := blocks_at hC2.hi (i := 0) rfl
      have a2 := blocks_at hC2.hj (i := 0) rfl
      have a3 := blocks_at hC2.ha (i := 0) rfl
      have a4 := blocks_at hC2.hb (i := 0) rfl
      have hca := @cell_after W2.drew
      refine wp_region_seg [] [0, 1, 2, 3, 4, 5, 6, 7] (by kernel_rfl) (by kernel_rfl) (fun _ _ d _ _ h => by cases d <;> exact h) ?_
      simp only [pickSegs, pickOps, opAt, List.map_cons, List.map_nil, List.getElem?_toArray, List.getElem?_cons_zero, List.getElem?_cons_succ, Option.getD_some]
      unfold wpBlocks
      repeat (go_big_quiet_step (fail))
      refine wpQuiet_nil ?_
      clear hca
      go_wp2
      go_ret2
      refine ⟨?_, hC2.drew, hB2.drew⟩
      exact ret_bools (par_n i) (par_n j)
    · have f2 := hC1.hj.free 0
      go_wp2
      have hC2 : MCap (W1.setCell ⟨gj, 0, none⟩ (.int .i64 ((j : Int) + 1))).drew gi gj ga gb _ (j + 1) _ _ n m ca cb := (hC1.setJ hij hga hgb).drew
      have hB2 := (hB1.trans (But.set (S := fun k => k = gi ∨ k = gj) W1 (p := ⟨gj, 0, none⟩) (.inr rfl) (.int .i64 ((j : Int) + 1)))).drew
      clear a1 a2 a3 a4 f2
      generalize (W1.setCell ⟨gj, 0, none⟩ (.int .i64 ((j : Int) + 1))).drew = W2 at *
      have a1 := blocks_at hC2.hi (i := 0) rfl
      have a2 := blocks_at hC2.hj (i := 0) rfl
      have a3 := blocks_at hC2.ha (i := 0) rfl
      have a4 := blocks_at hC2.hb (i := 0) rfl
      have hca := @cell_after W2.drew
      refine wp_region_seg [] [0, 1, 2, 3, 4, 5, 6, 7] (by kernel_rfl) (by kernel_rfl) (fun _ _ d _ _ h => by cases d <;> exact h) ?_
      simp only [pickSegs, pickOps, opAt, List.map_cons, List.map_nil, List.getElem?_toArray, List.getElem?_cons_zero, List.getElem?_cons_succ, Option.getD_some]
      unfold wpBlocks
      repeat (go_big_quiet_step (fail))
      refine wpQuiet_nil ?_
      clear hca
      go_wp2
      go_ret2
      refine ⟨?_, hC2.drew, hB2.drew⟩
      exact ret_bools (par_n i) (par_y j)
  · have f1 := hC.hi.free 0
    go_wp2
    have hC1 : MCap (W.setCell ⟨gi, 0, none⟩ (.int .i64 ((i : Int) + 1))).drew gi gj ga gb (i + 1) j _ _ n m ca cb := (hC.setI hij hga hgb).drew
    have hB1 := (hB0.trans (But.set (S := fun k => k = gi ∨ k = gj) W (p := ⟨gi, 0, none⟩) (.inl rfl) (.int .i64 ((i : Int) + 1)))).drew
    have hXc := (hX.far (p := ⟨gi, 0, none⟩) hne.1 (.int .i64 ((i : Int) + 1))).drew.cell
    replace d0 : (W.setCell ⟨gi, 0, none⟩ (.int .i64 ((i : Int) + 1))).drew.cell? _ = _ := far_cell (p := ⟨gi, 0, none⟩) (u := .int .i64 ((i : Int) + 1)) d0 hd3
    replace d1 : (W.setCell ⟨gi, 0, none⟩ (.int .i64 ((i : Int) + 1))).drew.cell? _ = _ := far_cell (p := ⟨gi, 0, none⟩) (u := .int .i64 ((i : Int) + 1)) d1 hd3
    replace d2 : (W.setCell ⟨gi, 0, none⟩ (.int .i64 ((i : Int) + 1))).drew.cell? _ = _ := far_cell (p := ⟨gi, 0, none⟩) (u := .int .i64 ((i : Int) + 1)) d2 hd3
    clear a1 a2 a3 a4 hX hC hB0 f1
    clear c0 c1 c2
    generalize (W.setCell ⟨gi, 0, none⟩ (.int .i64 ((i : Int) + 1))).drew = W1 at *
    have a1 := blocks_at hC1.hi (i := 0) rfl
    have a2 := blocks_at hC1.hj (i := 0) rfl
    have a3 := blocks_at hC1.ha (i := 0) rfl
    have a4 := blocks_at hC1.hb (i := 0) rfl
    have hca := @cell_after W1.drew
    refine wp_region_seg [] [0, 1, 2, 3, 4, 5, 6, 7, 8, 9, 10, 11] (by kernel_rfl) (by kernel_rfl) (fun _ _ d _ _ h => by cases d <;> exact h) ?_
    simp only [pickSegs, pickOps, opAt, List.map_cons, List.map_nil, List.getElem?_toArray, List.getElem?_cons_zero, List.getElem?_cons_succ, Option.getD_some]
    unfold wpBlocks
    repeat (go_big_quiet_step (fail))
    refine wpQuiet_nil ?_
    clear hca
    cases q2
    · go_wp2
      have hC2 : MCap W1.drew gi gj ga gb _ j _ _ n m ca cb := hC1.drew
      have hB2 := hB1.drew
      clear a1 a2 a3 a4
      generalize W1.drew = W2 at *
      have a1 := blocks_at hC2.hi (i := 0) rfl
      have a2 := blocks_at hC2.hj (i := 0) rfl
      have a3 := blocks_at hC2.ha (i := 0) rfl
      have a4 := blocks_at hC2.hb (i := 0) rfl
      have hca := @cell_after W2.drew
      refine wp_region_seg [] [0, 1, 2, 3, 4, 5, 6, 7] (by kernel_rfl) (by kernel_rfl) (fun _ _ d _ _ h => by cases d <;> exact h) ?_
      simp only [pickSegs, pickOps, opAt, List.map_cons, List.map_nil, List.getElem?_toArray, List.getElem?_cons_zero, List.getElem?_cons_succ, Option.getD_some]
      unfold wpBlocks
      repeat (go_big_quiet_step (fail))
      refine wpQuiet_nil ?_
      clear hca
      go_wp2
      go_ret2
      refine ⟨?_, hC2.drew, hB2.drew⟩
      exact ret_bools (par_y i) (par_n j)
    · have f2 := hC1.hj.free 0
      go_wp2
      have hC2 : MCap (W1.setCell ⟨gj, 0, none⟩ (.int .i64 ((j : Int) + 1))).drew gi gj ga gb _ (j + 1) _ _ n m ca cb := (hC1.setJ hij hga hgb).drew
      have hB2 := (hB1.trans (But.set (S := fun k => k = gi ∨ k = gj) W1 (p := ⟨gj, 0, none⟩) (.inr rfl) (.int .i64 ((j : Int) + 1)))).drew
      clear a1 a2 a3 a4 f2
      generalize (W1.setCell ⟨gj, 0, none⟩ (.int .i64 ((j : Int) + 1))).drew = W2 at *
      have a1 := blocks_at hC2.hi (i := 0) rfl
      have a2 := blocks_at hC2.hj (i := 0) rfl
      have a3 := blocks_at hC2.ha (i := 0) rfl
      have a4 := blocks_at hC2.hb (i := 0) rfl
      have hca := @cell_after W2.drew
      refine wp_region_seg [] [0, 1, 2, 3, 4, 5, 6, 7] (by kernel_rfl) (by kernel_rfl) (fun _ _ d _ _ h => by cases d <;> exact h) ?_
      simp only [pickSegs, pickOps, opAt, List.map_cons, List.map_nil, List.getElem?_toArray, List.getElem?_cons_zero, List.getElem?_cons_succ, Option.getD_some]
      unfold wpBlocks
      repeat (go_big_quiet_step (fail))
      refine wpQuiet_nil ?_
      clear hca
      go_wp2
      go_ret2
      refine ⟨?_, hC2.drew, hB2.drew⟩
      exact ret_bools (par_y i) (par_y j)
set_option maxHeartbeats 2000000 in
theorem contains_te (w : World) (gi gj ga gb i j : Nat) (A B : Option Addr) (n m ca cb : Nat) (pa pb : List Vl) (p : Vl) (hc : MCap w gi gj ga gb i j A B n m ca cb)
    (hA : VlS w A n pa) (hB : VlS w B m pb) (hi : i < n) (hj : j = m) (hn : n ≤ 1000) (hm : m ≤ 1000) (hij : gi ≠ gj)
    (hdA : 0 < n → ∀ b o, A = some ⟨b, o, none⟩ → b ≠ gi ∧ b ≠ gj) (hdB : 0 < m → ∀ b o, B = some ⟨b, o, none⟩ → b ≠ gi ∧ b ≠ gj) (hga : ga ≠ gi ∧ ga ≠ gj) (hgb : gb ≠ gi ∧ gb ≠ gj) :
    Calls Tryz.prog 196 #[.agg #[.int .i64 p.k, .int .i64 p.i, .string p.t], .pointer (some ⟨gi, 0, none⟩), .pointer (some ⟨ga, 0, none⟩), .pointer (some ⟨gj, 0, none⟩), .pointer (some ⟨gb, 0, none⟩)] w fun e w' =>
      ContPost w gi gj ga gb i j A B n m ca cb (hitL (pa.drop i) p) (hitL (pb.drop j) p) e w' := by
  obtain ⟨b, o, x, rfl, hx, hxc⟩ := hA.at hi
  have HA : hitL (pa.drop i) p = decide (x = p) := by rw [drop_at hx]; rfl
  obtain ⟨hd1, hd2⟩ := hdA (by omega) _ _ rfl
  obtain ⟨xk, xi, xt⟩ := x
  have HB : hitL (pb.drop j) p = false := by rw [List.drop_eq_nil_of_le (by rw [hB.len]; omega)]; rfl
  obtain ⟨pk, pi, pt⟩ := p
  rw [HA, HB]
  clear HA HB
  obtain ⟨c0, c1, c2⟩ := VlAt.of hxc
  dsimp only at c0 c1 c2
  have hev1 := run_eqV xk xi pk pi xt pt
  generalize decide ((⟨xk, xi, xt⟩ : Vl) = ⟨pk, pi, pt⟩) = q1 at *
  have g1 : decide (i < n) = true := by simp [hi]
  have hib : i ≤ 1000 := by omega
  clear hx hxc
  have g2 : decide (j < m) = false := by simp; omega
  have hjb : j ≤ 1000 := by omega
  clear hj
  clear hA hB hdA hdB
  go_enter Tryz.func196, Tryz.ntmps196
  go_wp2
  have hX := (Blk.new w 49 #[.int .i64 pk, .int .i64 pi, .string pt])
  have hK0 := keeps_alloc w (.cells #[.int .i64 pk, .int .i64 pi, .string pt] 49)
  have hne : w.heap.size ≠ gi ∧ w.heap.size ≠ gj := ⟨by have := hc.hi.lt; omega, by have := hc.hj.lt; omega⟩
  replace c0 := keep_cell hK0 c0
  replace c1 := keep_cell hK0 c1
  replace c2 := keep_cell hK0 c2
  have hC := hc.alloc (.cells #[.int .i64 pk, .int .i64 pi, .string pt] 49)
  have hB0 : But (fun k => k = gi ∨ k = gj) w (w.alloc (.cells #[.int .i64 pk, .int .i64 pi, .string pt] 49)) := But.alloc _ _
  generalize w.alloc (.cells #[.int .i64 pk, .int .i64 pi, .string pt] 49) = W at *
  generalize hwz : w.heap.size = z at *
  clear hwz hK0 hc
  have hXc := hX.cell
  have a1 := blocks_at hC.hi (i := 0) rfl
  have a2 := blocks_at hC.hj (i := 0) rfl
  have a3 := blocks_at hC.ha (i := 0) rfl
  have a4 := blocks_at hC.hb (i := 0) rfl
  have hca := @cell_after W.drew
  refine wp_region_seg [] [0, 1, 2, 3, 4, 5, 6, 7, 8, 9, 10, 11] (by kernel_rfl) (by kernel_rfl) (fun _ _ d _ _ h => by cases d <;> exact h) ?_
  simp only [pickSegs, pickOps, opAt, List.map_cons, List.map_nil, List.getElem?_toArray, List.getElem?_cons_zero, List.getElem?_cons_succ, Option.getD_some]
  unfold wpBlocks
  repeat (go_big_quiet_step (fail))
  refine wpQuiet_nil ?_
  clear hca
  clear hXc
  cases q1
  · go_wp2
    have hC1 : MCap W.drew gi gj ga gb i j _ _ n m ca cb := hC.drew
    have hB1 := hB0.drew
    have hXc := hX.drew.cell
    clear a1 a2 a3 a4 hX hC hB0
    clear c0 c1 c2
    generalize W.drew = W1 at *
    have a1 := blocks_at hC1.hi (i := 0) rfl
    have a2 := blocks_at hC1.hj (i := 0) rfl
    have a3 := blocks_at hC1.ha (i := 0) rfl
    have a4 := blocks_at hC1.hb (i := 0) rfl
    have hca := @cell_after W1.drew
    refine wp_region_seg [] [0, 1, 2, 3, 4, 5, 6, 7, 8, 9, 10, 11] (by kernel_rfl) (by kernel_rfl) (fun _ _ d _ _ h => by cases d <;> exact h) ?_
    simp only [pickSegs, pickOps, opAt, List.map_cons, List.map_nil, List.getElem?_toArray, List.getElem?_cons_zero, List.getElem?_cons_succ, Option.getD_some]
    unfold wpBlocks
    repeat (go_big_quiet_step (fail))
    refine wpQuiet_nil ?_
    clear hca
    go_wp2
    have hC2 : MCap W1.drew gi gj ga gb _ j _ _ n m ca cb := hC1.drew
    have hB2 := hB1.drew
    clear a1 a2 a3 a4
    generalize W1.drew = W2 at *
    have a1 := blocks_at hC2.hi (i := 0) rfl
    have a2 := blocks_at hC2.hj (i := 0) rfl
    have a3 := blocks_at hC2.ha (i := 0) rfl
    have a4 := blocks_at hC2.hb (i := 0) rfl
    have hca := @cell_after W2.drew
    refine wp_region_seg [] [0, 1, 2, 3, 4, 5, 6, 7] (by kernel_rfl) (by kernel_rfl) (fun _ _ d _ _ h => by cases d <;> exact h) ?_
    simp only [pickSegs, pickOps, opAt, List.map_cons, List.map_nil, List.getElem?_toArray, List.getElem?_cons_zero, List.getElem?_cons_succ, Option.getD_some]
    unfold wpBlocks
    repeat (go_big_quiet_step (fail))
    refine wpQuiet_nil ?_
    clear hca
    go_wp2
    go_ret2
    refine ⟨?_, hC2.drew, hB2.drew⟩
    exact ret_bools (par_n i) (par_n j)
  · have f1 := hC.hi.free 0
    go_wp2
    have hC1 : MCap (W.setCell ⟨gi, 0, none⟩ (.int .i64 ((i : Int) + 1))).drew gi gj ga gb (i + 1) j _ _ n m ca cb := (hC.setI hij hga hgb).drew
    have hB1 := (hB0.trans (But.set (S := fun k => k = gi ∨ k = gj) W (p := ⟨gi, 0, none⟩) (.inl rfl) (.int .i64 ((i : Int) + 1)))).drew
    have hXc := (hX.far (p := ⟨gi, 0, none⟩) hne.1 (.int .i64 ((i : Int) + 1))).drew.cell
    clear a1 a2 a3 a4 hX hC hB0 f1
    clear c0 c1 c2
    generalize (W.setCell ⟨gi, 0, none⟩ (.int .i64 ((i : Int) + 1))).drew = W1 at *
    have a1 := blocks_at hC1.hi (i := 0) rfl
    have a2 := blocks_at hC1.hj (i := 0) rfl
    have a3 := blocks_at hC1.ha (i := 0) rfl
    have a4 := blocks_at hC1.hb (i := 0) rfl
    have hca := @cell_after W1.drew
    refine wp_region_seg [] [0, 1, 2, 3, 4, 5, 6, 7, 8, 9, 10, 11] (by kernel_rfl) (by kernel_rfl) (fun _ _ d _ _ h => by cases d <;> exact h) ?_
    simp only [pickSegs, pickOps, opAt, List.map_cons, List.map_nil, List.getElem?_toArray, List.getElem?_cons_zero, List.getElem?_cons_succ, Option.getD_some]
    unfold wpBlocks
    repeat (go_big_quiet_step (fail))
    refine wpQuiet_nil ?_
    clear hca
    go_wp2
    have hC2 : MCap W1.drew gi gj ga gb _ j _ _ n m ca cb := hC1.drew
    have hB2 := hB1.drew
    clear a1 a2 a3 a4
    generalize W1.drew = W2 at *
    have a1 := blocks_at hC2.hi (i := 0) rfl
    have a2 := blocks_at hC2.hj (i := 0) rfl
    have a3 := blocks_at hC2.ha (i := 0) rfl
    have a4 := blocks_at hC2.hb (i := 0) rfl
    have hca := @cell_after W2.drew
    refine wp_region_seg [] [0, 1, 2, 3, 4, 5, 6, 7] (by kernel_rfl) (by kernel_rfl) (fun _ _ d _ _ h => by cases d <;> exact h) ?_
    simp only [pickSegs, pickOps, opAt, List.map_cons, List.map_nil, List.getElem?_toArray, List.getElem?_cons_zero, List.getElem?_cons_succ, Option.getD_some]
    unfold wpBlocks
    repeat (go_big_quiet_step (fail))
    refine wpQuiet_nil ?_
    clear hca
    go_wp2
    go_ret2
    refine ⟨?_, hC2.drew, hB2.drew⟩
    exact ret_bools (par_y i) (par_n j)
set_option maxHeartbeats 2000000 in
theorem contains_et (w : World) (gi gj ga gb i j : Nat) (A B : Option Addr) (n m ca cb : Nat) (pa pb : List Vl) (p : Vl) (hc : MCap w gi gj ga gb i j A B n m ca cb)
    (hA : VlS w A n pa) (hB : VlS w B m pb) (hi : i = n) (hj : j < m) (hn : n ≤ 1000) (hm : m ≤ 1000) (hij : gi ≠ gj)
    (hdA : 0 < n → ∀ b o, A = some ⟨b, o, none⟩ → b ≠ gi ∧ b ≠ gj) (hdB : 0 < m → ∀ b o, B = some ⟨b, o, none⟩ → b ≠ gi ∧ b ≠ gj) (hga : ga ≠ gi ∧ ga ≠ gj) (hgb : gb ≠ gi ∧ gb ≠ gj) :
    Calls Tryz.prog 196 #[.agg #[.int .i64 p.k, .int .i64 p.i, .string p.t], .pointer (some ⟨gi, 0, none⟩), .pointer (some ⟨ga, 0, none⟩), .pointer (some ⟨gj, 0, none⟩), .pointer (some ⟨gb, 0, none⟩)] w fun e w' =>
      ContPost w gi gj ga gb i j A B n m ca cb (hitL (pa.drop i) p) (hitL (pb.drop j) p) e w' := by
  have HA : hitL (pa.drop i) p = false := by rw [List.drop_eq_nil_of_le (by rw [hA.len]; omega)]; rfl
  obtain ⟨b', o', y, rfl, hy, hyc⟩ := hB.at hj
  have HB : hitL (pb.drop j) p = decide (y = p) := by rw [drop_at hy]; rfl
  obtain ⟨hd3, hd4⟩ := hdB (by omega) _ _ rfl
  obtain ⟨yk, yi, yt⟩ := y
  obtain ⟨pk, pi, pt⟩ := p
  rw [HA, HB]
  clear HA HB
  have g1 : decide (i < n) = false := by simp; omega
  have hib : i ≤ 1000 := by omega
  clear hi
  obtain ⟨d0, d1, d2⟩ := VlAt.of hyc
  dsimp only at d0 d1 d2
  have hev2 := run_eqV yk yi pk pi yt pt
  generalize decide ((⟨yk, yi, yt⟩ : Vl) = ⟨pk, pi, pt⟩) = q2 at *
  have g2 : decide (j < m) = true := by simp [hj]
  have hjb : j ≤ 1000 := by omega
  clear hy hyc
  clear hA hB hdA hdB
  go_enter Tryz.func196, Tryz.ntmps196
  go_wp2
  have hX := (Blk.new w 49 #[.int .i64 pk, .int .i64 pi, .string pt])
  have hK0 := keeps_alloc w (.cells #[.int .i64 pk, .int .i64 pi, .string pt] 49)
  have hne : w.heap.size ≠ gi ∧ w.heap.size ≠ gj := ⟨by have := hc.hi.lt; omega, by have := hc.hj.lt; omega⟩
  replace d0 := keep_cell hK0 d0
  replace d1 := keep_cell hK0 d1
  replace d2 := keep_cell hK0 d2
  have hC := hc.alloc (.cells #[.int .i64 pk, .int .i64 pi, .string pt] 49)
  have hB0 : But (fun k => k = gi ∨ k = gj) w (w.alloc (.cells #[.int .i64 pk, .int .i64 pi, .string pt] 49)) := But.alloc _ _
  generalize w.alloc (.cells #[.int .i64 pk, .int .i64 pi, .string pt] 49) = W at *
  generalize hwz : w.heap.size = z at *
  clear hwz hK0 hc
  have hXc := hX.cell
  have a1 := blocks_at hC.hi (i := 0) rfl
  have a2 := blocks_at hC.hj (i := 0) rfl
  have a3 := blocks_at hC.ha (i := 0) rfl
  have a4 := blocks_at hC.hb (i := 0) rfl
  have hca := @cell_after W.drew
  refine wp_region_seg [] [0, 1, 2, 3, 4, 5, 6, 7, 8, 9, 10, 11] (by kernel_rfl) (by kernel_rfl) (fun _ _ d _ _ h => by cases d <;> exact h) ?_
  simp only [pickSegs, pickOps, opAt, List.map_cons, List.map_nil, List.getElem?_toArray, List.getElem?_cons_zero, List.getElem?_cons_succ, Option.getD_some]
  unfold wpBlocks
  repeat (go_big_quiet_step (fail))
  refine wpQuiet_nil ?_
  clear hca
  clear hXc
  go_wp2
  have hC1 : MCap W.drew gi gj ga gb i j _ _ n m ca cb := hC.drew
  have hB1 := hB0.drew
  have hXc := hX.drew.cell
  replace d0 : W.drew.cell? _ = _ := d0
  replace d1 : W.drew.cell? _ = _ := d1
  replace d2 : W.drew.cell? _ = _ := d2
  clear a1 a2 a3 a4 hX hC hB0
  generalize W.drew = W1 at *
  have a1 := blocks_at hC1.hi (i := 0) rfl
  have a2 := blocks_at hC1.hj (i := 0) rfl
  have a3 := blocks_at hC1.ha (i := 0) rfl
  have a4 := blocks_at hC1.hb (i := 0) rfl
  have hca := @cell_after W1.drew
  refine wp_region_seg [] [0, 1, 2, 3, 4, 5, 6, 7, 8, 9, 10, 11] (by kernel_rfl) (by kernel_rfl) (fun _ _ d _ _ h => by cases d <;> exact h) ?_
  simp only [pickSegs, pickOps, opAt, List.map_cons, List.map_nil, List.getElem?_toArray, List.getElem?_cons_zero, List.getElem?_cons_succ, Option.getD_some]
  unfold wpBlocks
  repeat (go_big_quiet_step (fail))
  refine wpQuiet_nil ?_
  clear hca
  cases q2
  · go_wp2
    have hC2 : MCap W1.drew gi gj ga gb _ j _ _ n m ca cb := hC1.drew
    have hB2 := hB1.drew
    clear a1 a2 a3 a4
    generalize W1.drew = W2 at *
    have a1 := blocks_at hC2.hi (i := 0) rfl
    have a2 := blocks_at hC2.hj (i := 0) rfl
    have a3 := blocks_at hC2.ha (i := 0) rfl
    have a4 := blocks_at hC2.hb (i := 0) rfl
    have hca := @cell_after W2.drew
    refine wp_region_seg [] [0, 1, 2, 3, 4, 5, 6, 7] (by kernel_rfl) (by kernel_rfl) (fun _ _ d _ _ h => by cases d <;> exact h) ?_
    simp only [pickSegs, pickOps, opAt, List.map_cons, List.map_nil, List.getElem?_toArray, List.getElem?_cons_zero, List.getElem?_cons_succ, Option.getD_some]
    unfold wpBlocks
    repeat (go_big_quiet_step (fail))
    refine wpQuiet_nil ?_
    clear hca
    go_wp2
    go_ret2
    refine ⟨?_, hC2.drew, hB2.drew⟩
    exact ret_bools (par_n i) (par_n j)
  · have f2 := hC1.hj.free 0
    go_wp2
    have hC2 : MCap (W1.setCell ⟨gj, 0, none⟩ (.int .i64 ((j : Int) + 1))).drew gi gj ga gb _ (j + 1) _ _ n m ca cb := (hC1.setJ hij hga hgb).drew
    have hB2 := (hB1.trans (But.set (S := fun k => k = gi ∨ k = gj) W1 (p := ⟨gj, 0, none⟩) (.inr rfl) (.int .i64 ((j : Int) + 1)))).drew
    clear a1 a2 a3 a4 f2
    generalize (W1.setCell ⟨gj, 0, none⟩ (.int .i64 ((j : Int) + 1))).drew = W2 at *
    have a1 := blocks_at hC2.hi (i := 0) rfl
    have a2 := blocks_at hC2.hj (i := 0) rfl
    have a3 := blocks_at hC2.ha (i := 0) rfl
    have a4 := blocks_at hC2.hb (i := 0) rfl
    have hca := @cell_after W2.drew
    refine wp_region_seg [] [0, 1, 2, 3, 4, 5, 6, 7] (by kernel_rfl) (by kernel_rfl) (fun _ _ d _ _ h => by cases d <;> exact h) ?_
    simp only [pickSegs, pickOps, opAt, List.map_cons, List.map_nil, List.getElem?_toArray, List.getElem?_cons_zero, List.getElem?_cons_succ, Option.getD_some]
    unfold wpBlocks
    repeat (go_big_quiet_step (fail))
    refine wpQuiet_nil ?_
    clear hca
    go_wp2
    go_ret2
    refine ⟨?_, hC2.drew, hB2.drew⟩
    exact ret_bools (par_n i) (par_y j)
set_option maxHeartbeats 2000000 in
theorem contains_ee (w : World) (gi gj ga gb i j : Nat) (A B : Option Addr) (n m ca cb : Nat) (pa pb : List Vl) (p : Vl) (hc : MCap w gi gj ga gb i j A B n m ca cb)
    (hA : VlS w A n pa) (hB : VlS w B m pb) (hi : i = n) (hj : j = m) (hn : n ≤ 1000) (hm : m ≤ 1000) (hij : gi ≠ gj)
    (hdA : 0 < n → ∀ b o, A = some ⟨b, o, none⟩ → b ≠ gi ∧ b ≠ gj) (hdB : 0 < m → ∀ b o, B = some ⟨b, o, none⟩ → b ≠ gi ∧ b ≠ gj) (hga : ga ≠ gi ∧ ga ≠ gj) (hgb : gb ≠ gi ∧ gb ≠ gj) :
    Calls Tryz.prog 196 #[.agg #[.int .i64 p.k, .int .i64 p.i, .string p.t], .pointer (some ⟨gi, 0, none⟩), .pointer (some ⟨ga, 0, none⟩), .pointer (some ⟨gj, 0, none⟩), .pointer (some ⟨gb, 0, none⟩)] w fun e w' =>
      ContPost w gi gj ga gb i j A B n m ca cb (hitL (pa.drop i) p) (hitL (pb.drop j) p) e w' := by
  have HA : hitL (pa.drop i) p = false := by rw [List.drop_eq_nil_of_le (by rw [hA.len]; omega)]; rfl
  have HB : hitL (pb.drop j) p = false := by rw [List.drop_eq_nil_of_le (by rw [hB.len]; omega)]; rfl
  obtain ⟨pk, pi, pt⟩ := p
  rw [HA, HB]
  clear HA HB
  have g1 : decide (i < n) = false := by simp; omega
  have hib : i ≤ 1000 := by omega
  clear hi
  have g2 : decide (j < m) = false := by simp; omega
  have hjb : j ≤ 1000 := by omega
  clear hj
  clear hA hB hdA hdB
  go_enter Tryz.func196, Tryz.ntmps196
  go_wp2
  have hX := (Blk.new w 49 #[.int .i64 pk, .int .i64 pi, .string pt])
  have hK0 := keeps_alloc w (.cells #[.int .i64 pk, .int .i64 pi, .string pt] 49)
  have hne : w.heap.size ≠ gi ∧ w.heap.size ≠ gj := ⟨by have := hc.hi.lt; omega, by have := hc.hj.lt; omega⟩
  have hC := hc.alloc (.cells #[.int .i64 pk, .int .i64 pi, .string pt] 49)
  have hB0 : But (fun k => k = gi ∨ k = gj) w (w.alloc (.cells #[.int .i64 pk, .int .i64 pi, .string pt] 49)) := But.alloc _ _
  generalize w.alloc (.cells #[.int .i64 pk, .int .i64 pi, .string pt] 49) = W at *
  generalize hwz : w.heap.size = z at *
  clear hwz hK0 hc
  have hXc := hX.cell
  have a1 := blocks_at hC.hi (i := 0) rfl
  have a2 := blocks_at hC.hj (i := 0) rfl
  have a3 := blocks_at hC.ha (i := 0) rfl
  have a4 := blocks_at hC.hb (i := 0) rfl
  have hca := @cell_after W.drew
  refine wp_region_seg [] [0, 1, 2, 3, 4, 5, 6, 7, 8, 9, 10, 11] (by kernel_rfl) (by kernel_rfl) (fun _ _ d _ _ h => by cases d <;> exact h) ?_
  simp only [pickSegs, pickOps, opAt, List.map_cons, List.map_nil, List.getElem?_toArray, List.getElem?_cons_zero, List.getElem?_cons_succ, Option.getD_some]
  unfold wpBlocks
  repeat (go_big_quiet_step (fail))
  refine wpQuiet_nil ?_
  clear hca
  clear hXc
  go_wp2
  have hC1 : MCap W.drew gi gj ga gb i j _ _ n m ca cb := hC.drew
  have hB1 := hB0.drew
  have hXc := hX.drew.cell
  clear a1 a2 a3 a4 hX hC hB0
  generalize W.drew = W1 at *
  have a1 := blocks_at hC1.hi (i := 0) rfl
  have a2 := blocks_at hC1.hj (i := 0) rfl
  have a3 := blocks_at hC1.ha (i := 0) rfl
  have a4 := blocks_at hC1.hb (i := 0) rfl
  have hca := @cell_after W1.drew
  refine wp_region_seg [] [0, 1, 2, 3, 4, 5, 6, 7, 8, 9, 10, 11] (by kernel_rfl) (by kernel_rfl) (fun _ _ d _ _ h => by cases d <;> exact h) ?_
  simp only [pickSegs, pickOps, opAt, List.map_cons, List.map_nil, List.getElem?_toArray, List.getElem?_cons_zero, List.getElem?_cons_succ, Option.getD_some]
  unfold wpBlocks
  repeat (go_big_quiet_step (fail))
  refine wpQuiet_nil ?_
  clear hca
  go_wp2
  have hC2 : MCap W1.drew gi gj ga gb _ j _ _ n m ca cb := hC1.drew
  have hB2 := hB1.drew
  clear a1 a2 a3 a4
  generalize W1.drew = W2 at *
  have a1 := blocks_at hC2.hi (i := 0) rfl
  have a2 := blocks_at hC2.hj (i := 0) rfl
  have a3 := blocks_at hC2.ha (i := 0) rfl
  have a4 := blocks_at hC2.hb (i := 0) rfl
  have hca := @cell_after W2.drew
  refine wp_region_seg [] [0, 1, 2, 3, 4, 5, 6, 7] (by kernel_rfl) (by kernel_rfl) (fun _ _ d _ _ h => by cases d <;> exact h) ?_
  simp only [pickSegs, pickOps, opAt, List.map_cons, List.map_nil, List.getElem?_toArray, List.getElem?_cons_zero, List.getElem?_cons_succ, Option.getD_some]
  unfold wpBlocks
  repeat (go_big_quiet_step (fail))
  refine wpQuiet_nil ?_
  clear hca
  go_wp2
  go_ret2
  refine ⟨?_, hC2.drew, hB2.drew⟩
  exact ret_bools (par_n i) (par_n j)
theorem contains_any (w : World) (gi gj ga gb i j : Nat) (A B : Option Addr) (n m ca cb : Nat) (pa pb : List Vl) (p : Vl) (hc : MCap w gi gj ga gb i j A B n m ca cb)
    (hA : VlS w A n pa) (hB : VlS w B m pb) (hi : i ≤ n) (hj : j ≤ m) (hn : n ≤ 1000) (hm : m ≤ 1000) (hij : gi ≠ gj)
    (hdA : 0 < n → ∀ b o, A = some ⟨b, o, none⟩ → b ≠ gi ∧ b ≠ gj) (hdB : 0 < m → ∀ b o, B = some ⟨b, o, none⟩ → b ≠ gi ∧ b ≠ gj) (hga : ga ≠ gi ∧ ga ≠ gj) (hgb : gb ≠ gi ∧ gb ≠ gj) :
    Calls Tryz.prog 196 #[.agg #[.int .i64 p.k, .int .i64 p.i, .string p.t], .pointer (some ⟨gi, 0, none⟩), .pointer (some ⟨ga, 0, none⟩), .pointer (some ⟨gj, 0, none⟩), .pointer (some ⟨gb, 0, none⟩)] w fun e w' =>
      ContPost w gi gj ga gb i j A B n m ca cb (hitL (pa.drop i) p) (hitL (pb.drop j) p) e w' := by
  rcases Nat.lt_or_ge i n with h1 | h1
  · rcases Nat.lt_or_ge j m with h2 | h2
    · exact contains_tt w gi gj ga gb i j A B n m ca cb pa pb p hc hA hB h1 h2 hn hm hij hdA hdB hga hgb
    · exact contains_te w gi gj ga gb i j A B n m ca cb pa pb p hc hA hB h1 (by omega) hn hm hij hdA hdB hga hgb
  · rcases Nat.lt_or_ge j m with h2 | h2
    · exact contains_et w gi gj ga gb i j A B n m ca cb pa pb p hc hA hB (by omega) h2 hn hm hij hdA hdB hga hgb
    · exact contains_ee w gi gj ga gb i j A B n m ca cb pa pb p hc hA hB (by omega) (by omega) hn hm hij hdA hdB hga hgb
end Go.Proofs.YtmnmckblmoalkaaGreat
