/-
  Texts: Contains, Merge.
-/
import Derived.Test.YtnnmlhmffnfjfaaGreatB2
set_option linter.unusedVariables false
set_option maxRecDepth 100000
namespace Go.Proofs.YtnnmlhmffnfjfaaGreat
open Go.RowKit
def hitL (la : List Vl) (p : Vl) : Bool := match la with
 | [] => false
 | x :: _ => decide (x = p)
def bump (i : Nat) (q : Bool) : Nat := i + (if q then 1 else 0)
def ContPost (w : World) (gi gj ga gb i j : Nat) (A B : Option Addr) (n m ca cb : Nat) (q1 q2 : Bool) (e : Ending) (w' : World) : Prop :=
 e = .returned (.tuple #[.bool (bump i q1 % 2 == 1), .bool (bump j q2 % 2 == 1)]) ∧ MCap w' gi gj ga gb (bump i q1) (bump j q2) A B n m ca cb ∧ But (fun k => k = gi ∨ k = gj) w w'
theorem MCap.lt {w : World} {gi gj ga gb i j : Nat} {A B : Option Addr} {n m ca cb : Nat} (h : MCap w gi gj ga gb i j A B n m ca cb) : gi < w.heap.size ∧ gj < w.heap.size ∧ ga < w.heap.size ∧ gb < w.heap.size := ⟨h.hi.lt, h.hj.lt, h.ha.lt, h.hb.lt⟩
theorem MCap.alloc {w : World} {gi gj ga gb i j : Nat} {A B : Option Addr} {n m ca cb : Nat} (h : MCap w gi gj ga gb i j A B n m ca cb) (o : Obj) : MCap (w.alloc o) gi gj ga gb i j A B n m ca cb := ⟨h.hi.alloc o, h.hj.alloc o, h.ha.alloc o, h.hb.alloc o⟩
theorem MCap.below {w w' : World} {gi gj ga gb i j : Nat} {A B : Option Addr} {n m ca cb : Nat} (h : MCap w gi gj ga gb i j A B n m ca cb) (hb : Below w.heap.size w w') : MCap w' gi gj ga gb i j A B n m ca cb := ⟨h.hi.below hb, h.hj.below hb, h.ha.below hb, h.hb.below hb⟩
theorem MCap.grown {w w' : World} {gi gj ga gb i j : Nat} {A B : Option Addr} {n m ca cb : Nat} (h : MCap w gi gj ga gb i j A B n m ca cb) {row : Option Nat} (hg : w.grownBy w' row) (hr : some gi ≠ row ∧ some gj ≠ row ∧ some ga ≠ row ∧ some gb ≠ row) : MCap w' gi gj ga gb i j A B n m ca cb :=
 ⟨h.hi.grown hg hr.1, h.hj.grown hg hr.2.1, h.ha.grown hg hr.2.2.1, h.hb.grown hg hr.2.2.2⟩
theorem par_n (i : Nat) : ((i : Int) % 2 == 1) = (bump i false % 2 == 1) := by
 rw [Bool.eq_iff_iff]; simp [bump]; omega
theorem par_y (i : Nat) : (((i : Int) + 1) % 2 == 1) = (bump i true % 2 == 1) := by
 rw [Bool.eq_iff_iff]; simp [bump]; omega
theorem MCap.drew {w : World} {gi gj ga gb i j : Nat} {A B : Option Addr} {n m ca cb : Nat} (h : MCap w gi gj ga gb i j A B n m ca cb) : MCap w.drew gi gj ga gb i j A B n m ca cb := ⟨h.hi, h.hj, h.ha, h.hb⟩
theorem MCap.setI {w : World} {gi gj ga gb i j : Nat} {A B : Option Addr} {n m ca cb : Nat} (h : MCap w gi gj ga gb i j A B n m ca cb) (hij : gi ≠ gj) (hga : ga ≠ gi ∧ ga ≠ gj) (hgb : gb ≠ gi ∧ gb ≠ gj) :
 MCap (w.setCell ⟨gi, 0, none⟩ (.int .i64 ((i : Int) + 1))) gi gj ga gb (i + 1) j A B n m ca cb :=
 ⟨h.hi.set_ 0 (.int .i64 ((i : Int) + 1)), h.hj.far (p := ⟨gi, 0, none⟩) (Ne.symm hij) _, h.ha.far (p := ⟨gi, 0, none⟩) hga.1 _, h.hb.far (p := ⟨gi, 0, none⟩) hgb.1 _⟩
theorem MCap.setJ {w : World} {gi gj ga gb i j : Nat} {A B : Option Addr} {n m ca cb : Nat} (h : MCap w gi gj ga gb i j A B n m ca cb) (hij : gi ≠ gj) (hga : ga ≠ gi ∧ ga ≠ gj) (hgb : gb ≠ gi ∧ gb ≠ gj) :
 MCap (w.setCell ⟨gj, 0, none⟩ (.int .i64 ((j : Int) + 1))) gi gj ga gb i (j + 1) A B n m ca cb :=
 ⟨h.hi.far (p := ⟨gj, 0, none⟩) hij _, h.hj.set_ 0 (.int .i64 ((j : Int) + 1)), h.ha.far (p := ⟨gj, 0, none⟩) hga.2 _, h.hb.far (p := ⟨gj, 0, none⟩) hgb.2 _⟩
set_option maxHeartbeats 2000000 in
theorem contains_tt (w : World) (gi gj ga gb i j : Nat) (A B : Option Addr) (n m ca cb : Nat) (pa pb : List Vl) (p : Vl) (hc : MCap w gi gj ga gb i j A B n m ca cb)
 (hA : VlS w A n pa) (hB : VlS w B m pb) (hi : i < n) (hj : j < m) (hn : n ≤ 1000) (hm : m ≤ 1000) (hij : gi ≠ gj)
 (hdA : 0 < n → ∀ b o, A = some ⟨b, o, none⟩ → b ≠ gi ∧ b ≠ gj) (hdB : 0 < m → ∀ b o, B = some ⟨b, o, none⟩ → b ≠ gi ∧ b ≠ gj) (hga : ga ≠ gi ∧ ga ≠ gj) (hgb : gb ≠ gi ∧ gb ≠ gj) :
 Calls Tryz.prog 274 #[.agg #[.int .i64 p.k, .int .i64 p.i, .string p.t], .pointer (some ⟨gi, 0, none⟩), .pointer (some ⟨ga, 0, none⟩), .pointer (some ⟨gj, 0, none⟩), .pointer (some ⟨gb, 0, none⟩)] w fun e w' =>
  ContPost w gi gj ga gb i j A B n m ca cb (hitL (pa.drop i) p) (hitL (pb.drop j) p) e w' := by
 obtain ⟨b, o, x, rfl, hx, hxc⟩ := hA.at hi
 have HA : hitL (pa.drop i) p = decide (x = p) := by rw [drop_at hx]; rfl
 obtain ⟨hd1, hd2⟩ := hdA (by omega) _ _ rfl
 obtain ⟨xk, xi, xt⟩ := x
 obtain ⟨b', o', y, rfl, hy, hyc⟩ := hB.at hj
 have HB : hitL (pb.drop j) p = decide (y = p) := by rw [drop_at hy]; rfl
 obtain ⟨hd3, hd4⟩ := hdB (by omega) _ _ rfl
 obtain ⟨yk, yi, yt⟩ := y
 obtain ⟨pk, pi, pt⟩ := p
 rw [HA, HB]
 clear HA HB
 obtain ⟨c0, c1, c2⟩ := VlAt.of hxc
 dsimp only at c0 c1 c2
 have hev1 := run_eqV xk xi pk pi xt pt
 generalize decide ((⟨xk, xi, xt⟩ : Vl) = ⟨pk, pi, pt⟩) = q1 at *
 have g1 : decide (i < n) = true := by simp [hi]
 have hib : i ≤ 1000 := by omega
 clear hx hxc
 obtain ⟨d0, d1, d2⟩ := VlAt.of hyc
 dsimp only at d0 d1 d2
 have hev2 := run_eqV yk yi pk pi yt pt
 generalize decide ((⟨yk, yi, yt⟩ : Vl) = ⟨pk, pi, pt⟩) = q2 at *
 have g2 : decide (j < m) = true := by simp [hj]
 have hjb : j ≤ 1000 := by omega
 clear hy hyc
 clear hA hB hdA hdB
 go_enter Tryz.func274, Tryz.ntmps274
 go_wp2
 have hX := (Blk.new w 59 #[.int .i64 pk, .int .i64 pi, .string pt])
 have hK0 := keeps_alloc w (.cells #[.int .i64 pk, .int .i64 pi, .string pt] 59)
 have hne : w.heap.size ≠ gi ∧ w.heap.size ≠ gj := ⟨by have := hc.hi.lt; omega, by have := hc.hj.lt; omega⟩
 replace c0 := keep_cell hK0 c0
 replace c1 := keep_cell hK0 c1
 replace c2 := keep_cell hK0 c2
 replace d0 := keep_cell hK0 d0
 replace d1 := keep_cell hK0 d1
 replace d2 := keep_cell hK0 d2
 have hC := hc.alloc (.cells #[.int .i64 pk, .int .i64 pi, .string pt] 59)
 have hB0 : But (fun k => k = gi ∨ k = gj) w (w.alloc (.cells #[.int .i64 pk, .int .i64 pi, .string pt] 59)) := But.alloc _ _
 generalize w.alloc (.cells #[.int .i64 pk, .int .i64 pi, .string pt] 59) = W at *
 generalize hwz : w.heap.size = z at *
 clear hwz hK0 hc
 have hXc := hX.cell
 have a1 := blocks_at hC.hi (i := 0) rfl
 have a2 := blocks_at hC.hj (i := 0) rfl
 have a3 := blocks_at hC.ha (i := 0) rfl
 have a4 := blocks_at hC.hb (i := 0) rfl
 have hca := @cell_after W.drew
 refine wp_region_seg [] [0, 1, 2, 3, 4, 5, 6, 7, 8, 9, 10, 11] (by kernel_rfl) (by kernel_rfl) (fun _ _ d _ _ h => by cases d <;> exact h) ?_
 simp only [pickSegs, pickOps, opAt, pkO]
 unfold wpBlocks
 repeat (go_big_quiet_step (fail))
 refine wpQuiet_nil ?_
 clear hca
 clear hXc
 cases q1
 · go_wp2
   have hC1 : MCap W.drew gi gj ga gb i j _ _ n m ca cb := hC.drew
   have hB1 := hB0.drew
   have hXc := hX.drew.cell
   replace d0 : W.drew.cell? _ = _ := d0
   replace d1 : W.drew.cell? _ = _ := d1
   replace d2 : W.drew.cell? _ = _ := d2
   clear a1 a2 a3 a4 hX hC hB0
   clear c0 c1 c2
   generalize W.drew = W1 at *
   have a1 := blocks_at hC1.hi (i := 0) rfl
   have a2 := blocks_at hC1.hj (i := 0) rfl
   have a3 := blocks_at hC1.ha (i := 0) rfl
   have a4 := blocks_at hC1.hb (i := 0) rfl
   have hca := @cell_after W1.drew
   refine wp_region_seg [] [0, 1, 2, 3, 4, 5, 6, 7, 8, 9, 10, 11] (by kernel_rfl) (by kernel_rfl) (fun _ _ d _ _ h => by cases d <;> exact h) ?_
   simp only [pickSegs, pickOps, opAt, pkO]
   unfold wpBlocks
   repeat (go_big_quiet_step (fail))
   refine wpQuiet_nil ?_
   clear hca
   cases q2
   · go_wp2
     have hC2 : MCap W1.drew gi gj ga gb _ j _ _ n m ca cb := hC1.drew
     have hB2 := hB1.drew
     clear a1 a2 a3 a4
     generalize W1.drew = W2 at *
     have a1 := blocks_at hC2.hi (i := 0) rfl
     have a2 := blocks_at hC2.hj (i := 0) rfl
     have a3 := blocks_at hC2.ha (i := 0) rfl
     have a4 := blocks_at hC2.hb (i := 0) rfl
     have hca := @cell_after W2.drew
     refine wp_region_seg [] [0, 1, 2, 3, 4, 5, 6, 7] (by kernel_rfl) (by kernel_rfl) (fun _ _ d _ _ h => by cases d <;> exact h) ?_
     simp only [pickSegs, pickOps, opAt, pkO]
     unfold wpBlocks
     repeat (go_big_quiet_step (fail))
     refine wpQuiet_nil ?_
     clear hca
     go_wp2
     go_ret2
     refine ⟨?_, hC2.drew, hB2.drew⟩
     exact ret_bools (par_n i) (par_n j)
   · have f2 := hC1.hj.free 0
     go_wp2
     have hC2 : MCap (W1.setCell ⟨gj, 0, none⟩ (.int .i64 ((j : Int) + 1))).drew gi gj ga gb _ (j + 1) _ _ n m ca cb := (hC1.setJ hij hga hgb).drew
     have hB2 := (hB1.trans (But.set (S := fun k => k = gi ∨ k = gj) W1 (p := ⟨gj, 0, none⟩) (.inr rfl) (.int .i64 ((j : Int) + 1)))).drew
     clear a1 a2 a3 a4 f2
     generalize (W1.setCell ⟨gj, 0, none⟩ (.int .i64 ((j : Int) + 1))).drew = W2 at *
     have a1 := blocks_at hC2.hi (i := 0) rfl
     have a2 := blocks_at hC2.hj (i := 0) rfl
     have a3 := blocks_at hC2.ha (i := 0) rfl
     have a4 := blocks_at hC2.hb (i := 0) rfl
     have hca := @cell_after W2.drew
     refine wp_region_seg [] [0, 1, 2, 3, 4, 5, 6, 7] (by kernel_rfl) (by kernel_rfl) (fun _ _ d _ _ h => by cases d <;> exact h) ?_
     simp only [pickSegs, pickOps, opAt, pkO]
     unfold wpBlocks
     repeat (go_big_quiet_step (fail))
     refine wpQuiet_nil ?_
     clear hca
     go_wp2
     go_ret2
     refine ⟨?_, hC2.drew, hB2.drew⟩
     exact ret_bools (par_n i) (par_y j)
 · have f1 := hC.hi.free 0
   go_wp2
   have hC1 : MCap (W.setCell ⟨gi, 0, none⟩ (.int .i64 ((i : Int) + 1))).drew gi gj ga gb (i + 1) j _ _ n m ca cb := (hC.setI hij hga hgb).drew
   have hB1 := (hB0.trans (But.set (S := fun k => k = gi ∨ k = gj) W (p := ⟨gi, 0, none⟩) (.inl rfl) (.int .i64 ((i : Int) + 1)))).drew
   have hXc := (hX.far (p := ⟨gi, 0, none⟩) hne.1 (.int .i64 ((i : Int) + 1))).drew.cell
   replace d0 : (W.setCell ⟨gi, 0, none⟩ (.int .i64 ((i : Int) + 1))).drew.cell? _ = _ := far_cell (p := ⟨gi, 0, none⟩) (u := .int .i64 ((i : Int) + 1)) d0 hd3
   replace d1 : (W.setCell ⟨gi, 0, none⟩ (.int .i64 ((i : Int) + 1))).drew.cell? _ = _ := far_cell (p := ⟨gi, 0, none⟩) (u := .int .i64 ((i : Int) + 1)) d1 hd3
   replace d2 : (W.setCell ⟨gi, 0, none⟩ (.int .i64 ((i : Int) + 1))).drew.cell? _ = _ := far_cell (p := ⟨gi, 0, none⟩) (u := .int .i64 ((i : Int) + 1)) d2 hd3
   clear a1 a2 a3 a4 hX hC hB0 f1
   clear c0 c1 c2
   generalize (W.setCell ⟨gi, 0, none⟩ (.int .i64 ((i : Int) + 1))).drew = W1 at *
   have a1 := blocks_at hC1.hi (i := 0) rfl
   have a2 := blocks_at hC1.hj (i := 0) rfl
   have a3 := blocks_at hC1.ha (i := 0) rfl
   have a4 := blocks_at hC1.hb (i := 0) rfl
   have hca := @cell_after W1.drew
   refine wp_region_seg [] [0, 1, 2, 3, 4, 5, 6, 7, 8, 9, 10, 11] (by kernel_rfl) (by kernel_rfl) (fun _ _ d _ _ h => by cases d <;> exact h) ?_
   simp only [pickSegs, pickOps, opAt, pkO]
   unfold wpBlocks
   repeat (go_big_quiet_step (fail))
   refine wpQuiet_nil ?_
   clear hca
   cases q2
   · go_wp2
     have hC2 : MCap W1.drew gi gj ga gb _ j _ _ n m ca cb := hC1.drew
     have hB2 := hB1.drew
     clear a1 a2 a3 a4
     generalize W1.drew = W2 at *
     have a1 := blocks_at hC2.hi (i := 0) rfl
     have a2 := blocks_at hC2.hj (i := 0) rfl
     have a3 := blocks_at hC2.ha (i := 0) rfl
     have a4 := blocks_at hC2.hb (i := 0) rfl
     have hca := @cell_after W2.drew
     refine wp_region_seg [] [0, 1, 2, 3, 4, 5, 6, 7] (by kernel_rfl) (by kernel_rfl) (fun _ _ d _ _ h => by cases d <;> exact h) ?_
     simp only [pickSegs, pickOps, opAt, pkO]
     unfold wpBlocks
     repeat (go_big_quiet_step (fail))
     refine wpQuiet_nil ?_
     clear hca
     go_wp2
     go_ret2
     refine ⟨?_, hC2.drew, hB2.drew⟩
     exact ret_bools (par_y i) (par_n j)
   · have f2 := hC1.hj.free 0
     go_wp2
     have hC2 : MCap (W1.setCell ⟨gj, 0, none⟩ (.int .i64 ((j : Int) + 1))).drew gi gj ga gb _ (j + 1) _ _ n m ca cb := (hC1.setJ hij hga hgb).drew
     have hB2 := (hB1.trans (But.set (S := fun k => k = gi ∨ k = gj) W1 (p := ⟨gj, 0, none⟩) (.inr rfl) (.int .i64 ((j : Int) + 1)))).drew
     clear a1 a2 a3 a4 f2
     generalize (W1.setCell ⟨gj, 0, none⟩ (.int .i64 ((j : Int) + 1))).drew = W2 at *
     have a1 := blocks_at hC2.hi (i := 0) rfl
     have a2 := blocks_at hC2.hj (i := 0) rfl
     have a3 := blocks_at hC2.ha (i := 0) rfl
     have a4 := blocks_at hC2.hb (i := 0) rfl
     have hca := @cell_after W2.drew
     refine wp_region_seg [] [0, 1, 2, 3, 4, 5, 6, 7] (by kernel_rfl) (by kernel_rfl) (fun _ _ d _ _ h => by cases d <;> exact h) ?_
     simp only [pickSegs, pickOps, opAt, pkO]
     unfold wpBlocks
     repeat (go_big_quiet_step (fail))
     refine wpQuiet_nil ?_
     clear hca
     go_wp2
     go_ret2
     refine ⟨?_, hC2.drew, hB2.drew⟩
     exact ret_bools (par_y i) (par_y j)
set_option maxHeartbeats 2000000 in
theorem contains_te (w : World) (gi gj ga gb i j : Nat) (A B : Option Addr) (n m ca cb : Nat) (pa pb : List Vl) (p : Vl) (hc : MCap w gi gj ga gb i j A B n m ca cb)
 (hA : VlS w A n pa) (hB : VlS w B m pb) (hi : i < n) (hj : j = m) (hn : n ≤ 1000) (hm : m ≤ 1000) (hij : gi ≠ gj)
 (hdA : 0 < n → ∀ b o, A = some ⟨b, o, none⟩ → b ≠ gi ∧ b ≠ gj) (hdB : 0 < m → ∀ b o, B = some ⟨b, o, none⟩ → b ≠ gi ∧ b ≠ gj) (hga : ga ≠ gi ∧ ga ≠ gj) (hgb : gb ≠ gi ∧ gb ≠ gj) :
 Calls Tryz.prog 274 #[.agg #[.int .i64 p.k, .int .i64 p.i, .string p.t], .pointer (some ⟨gi, 0, none⟩), .pointer (some ⟨ga, 0, none⟩), .pointer (some ⟨gj, 0, none⟩), .pointer (some ⟨gb, 0, none⟩)] w fun e w' =>
  ContPost w gi gj ga gb i j A B n m ca cb (hitL (pa.drop i) p) (hitL (pb.drop j) p) e w' := by
 obtain ⟨b, o, x, rfl, hx, hxc⟩ := hA.at hi
 have HA : hitL (pa.drop i) p = decide (x = p) := by rw [drop_at hx]; rfl
 obtain ⟨hd1, hd2⟩ := hdA (by omega) _ _ rfl
 obtain ⟨xk, xi, xt⟩ := x
 have HB : hitL (pb.drop j) p = false := by rw [List.drop_eq_nil_of_le (by rw [hB.len]; omega)]; rfl
 obtain ⟨pk, pi, pt⟩ := p
 rw [HA, HB]
 clear HA HB
 obtain ⟨c0, c1, c2⟩ := VlAt.of hxc
 dsimp only at c0 c1 c2
 have hev1 := run_eqV xk xi pk pi xt pt
 generalize decide ((⟨xk, xi, xt⟩ : Vl) = ⟨pk, pi, pt⟩) = q1 at *
 have g1 : decide (i < n) = true := by simp [hi]
 have hib : i ≤ 1000 := by omega
 clear hx hxc
 have g2 : decide (j < m) = false := by simp; omega
 have hjb : j ≤ 1000 := by omega
 clear hj
 clear hA hB hdA hdB
 go_enter Tryz.func274, Tryz.ntmps274
 go_wp2
 have hX := (Blk.new w 59 #[.int .i64 pk, .int .i64 pi, .string pt])
 have hK0 := keeps_alloc w (.cells #[.int .i64 pk, .int .i64 pi, .string pt] 59)
 have hne : w.heap.size ≠ gi ∧ w.heap.size ≠ gj := ⟨by have := hc.hi.lt; omega, by have := hc.hj.lt; omega⟩
 replace c0 := keep_cell hK0 c0
 replace c1 := keep_cell hK0 c1
 replace c2 := keep_cell hK0 c2
 have hC := hc.alloc (.cells #[.int .i64 pk, .int .i64 pi, .string pt] 59)
 have hB0 : But (fun k => k = gi ∨ k = gj) w (w.alloc (.cells #[.int .i64 pk, .int .i64 pi, .string pt] 59)) := But.alloc _ _
 generalize w.alloc (.cells #[.int .i64 pk, .int .i64 pi, .string pt] 59) = W at *
 generalize hwz : w.heap.size = z at *
 clear hwz hK0 hc
 have hXc := hX.cell
 have a1 := blocks_at hC.hi (i := 0) rfl
 have a2 := blocks_at hC.hj (i := 0) rfl
 have a3 := blocks_at hC.ha (i := 0) rfl
 have a4 := blocks_at hC.hb (i := 0) rfl
 have hca := @cell_after W.drew
 refine wp_region_seg [] [0, 1, 2, 3, 4, 5, 6, 7, 8, 9, 10, 11] (by kernel_rfl) (by kernel_rfl) (fun _ _ d _ _ h => by cases d <;> exact h) ?_
 simp only [pickSegs, pickOps, opAt, pkO]
 unfold wpBlocks
 repeat (go_big_quiet_step (fail))
 refine wpQuiet_nil ?_
 clear hca
 clear hXc
 cases q1
 · go_wp2
   have hC1 : MCap W.drew gi gj ga gb i j _ _ n m ca cb := hC.drew
   have hB1 := hB0.drew
   have hXc := hX.drew.cell
   clear a1 a2 a3 a4 hX hC hB0
   clear c0 c1 c2
   generalize W.drew = W1 at *
   have a1 := blocks_at hC1.hi (i := 0) rfl
   have a2 := blocks_at hC1.hj (i := 0) rfl
   have a3 := blocks_at hC1.ha (i := 0) rfl
   have a4 := blocks_at hC1.hb (i := 0) rfl
   have hca := @cell_after W1.drew
   refine wp_region_seg [] [0, 1, 2, 3, 4, 5, 6, 7, 8, 9, 10, 11] (by kernel_rfl) (by kernel_rfl) (fun _ _ d _ _ h => by cases d <;> exact h) ?_
   simp only [pickSegs, pickOps, opAt, pkO]
   unfold wpBlocks
   repeat (go_big_quiet_step (fail))
   refine wpQuiet_nil ?_
   clear hca
   go_wp2
   have hC2 : MCap W1.drew gi gj ga gb _ j _ _ n m ca cb := hC1.drew
   have hB2 := hB1.drew
   clear a1 a2 a3 a4
   generalize W1.drew = W2 at *
   have a1 := blocks_at hC2.hi (i := 0) rfl
   have a2 := blocks_at hC2.hj (i := 0) rfl
   have a3 := blocks_at hC2.ha (i := 0) rfl
   have a4 := blocks_at hC2.hb (i := 0) rfl
   have hca := @cell_after W2.drew
   refine wp_region_seg [] [0, 1, 2, 3, 4, 5, 6, 7] (by kernel_rfl) (by kernel_rfl) (fun _ _ d _ _ h => by cases d <;> exact h) ?_
   simp only [pickSegs, pickOps, opAt, pkO]
   unfold wpBlocks
   repeat (go_big_quiet_step (fail))
   refine wpQuiet_nil ?_
   clear hca
   go_wp2
   go_ret2
   refine ⟨?_, hC2.drew, hB2.drew⟩
   exact ret_bools (par_n i) (par_n j)
 · have f1 := hC.hi.free 0
   go_wp2
   have hC1 : MCap (W.setCell ⟨gi, 0, none⟩ (.int .i64 ((i : Int) + 1))).drew gi gj ga gb (i + 1) j _ _ n m ca cb := (hC.setI hij hga hgb).drew
   have hB1 := (hB0.trans (But.set (S := fun k => k = gi ∨ k = gj) W (p := ⟨gi, 0, none⟩) (.inl rfl) (.int .i64 ((i : Int) + 1)))).drew
   have hXc := (hX.far (p := ⟨gi, 0, none⟩) hne.1 (.int .i64 ((i : Int) + 1))).drew.cell
   clear a1 a2 a3 a4 hX hC hB0 f1
   clear c0 c1 c2
   generalize (W.setCell ⟨gi, 0, none⟩ (.int .i64 ((i : Int) + 1))).drew = W1 at *
   have a1 := blocks_at hC1.hi (i := 0) rfl
   have a2 := blocks_at hC1.hj (i := 0) rfl
   have a3 := blocks_at hC1.ha (i := 0) rfl
   have a4 := blocks_at hC1.hb (i := 0) rfl
   have hca := @cell_after W1.drew
   refine wp_region_seg [] [0, 1, 2, 3, 4, 5, 6, 7, 8, 9, 10, 11] (by kernel_rfl) (by kernel_rfl) (fun _ _ d _ _ h => by cases d <;> exact h) ?_
   simp only [pickSegs, pickOps, opAt, pkO]
   unfold wpBlocks
   repeat (go_big_quiet_step (fail))
   refine wpQuiet_nil ?_
   clear hca
   go_wp2
   have hC2 : MCap W1.drew gi gj ga gb _ j _ _ n m ca cb := hC1.drew
   have hB2 := hB1.drew
   clear a1 a2 a3 a4
   generalize W1.drew = W2 at *
   have a1 := blocks_at hC2.hi (i := 0) rfl
   have a2 := blocks_at hC2.hj (i := 0) rfl
   have a3 := blocks_at hC2.ha (i := 0) rfl
   have a4 := blocks_at hC2.hb (i := 0) rfl
   have hca := @cell_after W2.drew
   refine wp_region_seg [] [0, 1, 2, 3, 4, 5, 6, 7] (by kernel_rfl) (by kernel_rfl) (fun _ _ d _ _ h => by cases d <;> exact h) ?_
   simp only [pickSegs, pickOps, opAt, pkO]
   unfold wpBlocks
   repeat (go_big_quiet_step (fail))
   refine wpQuiet_nil ?_
   clear hca
   go_wp2
   go_ret2
   refine ⟨?_, hC2.drew, hB2.drew⟩
   exact ret_bools (par_y i) (par_n j)
set_option maxHeartbeats 2000000 in
theorem contains_et (w : World) (gi gj ga gb i j : Nat) (A B : Option Addr) (n m ca cb : Nat) (pa pb : List Vl) (p : Vl) (hc : MCap w gi gj ga gb i j A B n m ca cb)
 (hA : VlS w A n pa) (hB : VlS w B m pb) (hi : i = n) (hj : j < m) (hn : n ≤ 1000) (hm : m ≤ 1000) (hij : gi ≠ gj)
 (hdA : 0 < n → ∀ b o, A = some ⟨b, o, none⟩ → b ≠ gi ∧ b ≠ gj) (hdB : 0 < m → ∀ b o, B = some ⟨b, o, none⟩ → b ≠ gi ∧ b ≠ gj) (hga : ga ≠ gi ∧ ga ≠ gj) (hgb : gb ≠ gi ∧ gb ≠ gj) :
 Calls Tryz.prog 274 #[.agg #[.int .i64 p.k, .int .i64 p.i, .string p.t], .pointer (some ⟨gi, 0, none⟩), .pointer (some ⟨ga, 0, none⟩), .pointer (some ⟨gj, 0, none⟩), .pointer (some ⟨gb, 0, none⟩)] w fun e w' =>
  ContPost w gi gj ga gb i j A B n m ca cb (hitL (pa.drop i) p) (hitL (pb.drop j) p) e w' := by
 have HA : hitL (pa.drop i) p = false := by rw [List.drop_eq_nil_of_le (by rw [hA.len]; omega)]; rfl
 obtain ⟨b', o', y, rfl, hy, hyc⟩ := hB.at hj
 have HB : hitL (pb.drop j) p = decide (y = p) := by rw [drop_at hy]; rfl
 obtain ⟨hd3, hd4⟩ := hdB (by omega) _ _ rfl
 obtain ⟨yk, yi, yt⟩ := y
 obtain ⟨pk, pi, pt⟩ := p
 rw [HA, HB]
 clear HA HB
 have g1 : decide (i < n) = false := by simp; omega
 have hib : i ≤ 1000 := by omega
 clear hi
 obtain ⟨d0, d1, d2⟩ := VlAt.of hyc
 dsimp only at d0 d1 d2
 have hev2 := run_eqV yk yi pk pi yt pt
 generalize decide ((⟨yk, yi, yt⟩ : Vl) = ⟨pk, pi, pt⟩) = q2 at *
 have g2 : decide (j < m) = true := by simp [hj]
 have hjb : j ≤ 1000 := by omega
 clear hy hyc
 clear hA hB hdA hdB
 go_enter Tryz.func274, Tryz.ntmps274
 go_wp2
 have hX := (Blk.new w 59 #[.int .i64 pk, .int .i64 pi, .string pt])
 have hK0 := keeps_alloc w (.cells #[.int .i64 pk, .int .i64 pi, .string pt] 59)
 have hne : w.heap.size ≠ gi ∧ w.heap.size ≠ gj := ⟨by have := hc.hi.lt; omega, by have := hc.hj.lt; omega⟩
 replace d0 := keep_cell hK0 d0
 replace d1 := keep_cell hK0 d1
 replace d2 := keep_cell hK0 d2
 have hC := hc.alloc (.cells #[.int .i64 pk, .int .i64 pi, .string pt] 59)
 have hB0 : But (fun k => k = gi ∨ k = gj) w (w.alloc (.cells #[.int .i64 pk, .int .i64 pi, .string pt] 59)) := But.alloc _ _
 generalize w.alloc (.cells #[.int .i64 pk, .int .i64 pi, .string pt] 59) = W at *
 generalize hwz : w.heap.size = z at *
 clear hwz hK0 hc
 have hXc := hX.cell
 have a1 := blocks_at hC.hi (i := 0) rfl
 have a2 := blocks_at hC.hj (i := 0) rfl
 have a3 := blocks_at hC.ha (i := 0) rfl
 have a4 := blocks_at hC.hb (i := 0) rfl
 have hca := @cell_after W.drew
 refine wp_region_seg [] [0, 1, 2, 3, 4, 5, 6, 7, 8, 9, 10, 11] (by kernel_rfl) (by kernel_rfl) (fun _ _ d _ _ h => by cases d <;> exact h) ?_
 simp only [pickSegs, pickOps, opAt, pkO]
 unfold wpBlocks
 repeat (go_big_quiet_step (fail))
 refine wpQuiet_nil ?_
 clear hca
 clear hXc
 go_wp2
 have hC1 : MCap W.drew gi gj ga gb i j _ _ n m ca cb := hC.drew
 have hB1 := hB0.drew
 have hXc := hX.drew.cell
 replace d0 : W.drew.cell? _ = _ := d0
 replace d1 : W.drew.cell? _ = _ := d1
 replace d2 : W.drew.cell? _ = _ := d2
 clear a1 a2 a3 a4 hX hC hB0
 generalize W.drew = W1 at *
 have a1 := blocks_at hC1.hi (i := 0) rfl
 have a2 := blocks_at hC1.hj (i := 0) rfl
 have a3 := blocks_at hC1.ha (i := 0) rfl
 have a4 := blocks_at hC1.hb (i := 0) rfl
 have hca := @cell_after W1.drew
 refine wp_region_seg [] [0, 1, 2, 3, 4, 5, 6, 7, 8, 9, 10, 11] (by kernel_rfl) (by kernel_rfl) (fun _ _ d _ _ h => by cases d <;> exact h) ?_
 simp only [pickSegs, pickOps, opAt, pkO]
 unfold wpBlocks
 repeat (go_big_quiet_step (fail))
 refine wpQuiet_nil ?_
 clear hca
 cases q2
 · go_wp2
   have hC2 : MCap W1.drew gi gj ga gb _ j _ _ n m ca cb := hC1.drew
   have hB2 := hB1.drew
   clear a1 a2 a3 a4
   generalize W1.drew = W2 at *
   have a1 := blocks_at hC2.hi (i := 0) rfl
   have a2 := blocks_at hC2.hj (i := 0) rfl
   have a3 := blocks_at hC2.ha (i := 0) rfl
   have a4 := blocks_at hC2.hb (i := 0) rfl
   have hca := @cell_after W2.drew
   refine wp_region_seg [] [0, 1, 2, 3, 4, 5, 6, 7] (by kernel_rfl) (by kernel_rfl) (fun _ _ d _ _ h => by cases d <;> exact h) ?_
   simp only [pickSegs, pickOps, opAt, pkO]
   unfold wpBlocks
   repeat (go_big_quiet_step (fail))
   refine wpQuiet_nil ?_
   clear hca
   go_wp2
   go_ret2
   refine ⟨?_, hC2.drew, hB2.drew⟩
   exact ret_bools (par_n i) (par_n j)
 · have f2 := hC1.hj.free 0
   go_wp2
   have hC2 : MCap (W1.setCell ⟨gj, 0, none⟩ (.int .i64 ((j : Int) + 1))).drew gi gj ga gb _ (j + 1) _ _ n m ca cb := (hC1.setJ hij hga hgb).drew
   have hB2 := (hB1.trans (But.set (S := fun k => k = gi ∨ k = gj) W1 (p := ⟨gj, 0, none⟩) (.inr rfl) (.int .i64 ((j : Int) + 1)))).drew
   clear a1 a2 a3 a4 f2
   generalize (W1.setCell ⟨gj, 0, none⟩ (.int .i64 ((j : Int) + 1))).drew = W2 at *
   have a1 := blocks_at hC2.hi (i := 0) rfl
   have a2 := blocks_at hC2.hj (i := 0) rfl
   have a3 := blocks_at hC2.ha (i := 0) rfl
   have a4 := blocks_at hC2.hb (i := 0) rfl
   have hca := @cell_after W2.drew
   refine wp_region_seg [] [0, 1, 2, 3, 4, 5, 6, 7] (by kernel_rfl) (by kernel_rfl) (fun _ _ d _ _ h => by cases d <;> exact h) ?_
   simp only [pickSegs, pickOps, opAt, pkO]
   unfold wpBlocks
   repeat (go_big_quiet_step (fail))
   refine wpQuiet_nil ?_
   clear hca
   go_wp2
   go_ret2
   refine ⟨?_, hC2.drew, hB2.drew⟩
   exact ret_bools (par_n i) (par_y j)
set_option maxHeartbeats 2000000 in
theorem contains_ee (w : World) (gi gj ga gb i j : Nat) (A B : Option Addr) (n m ca cb : Nat) (pa pb : List Vl) (p : Vl) (hc : MCap w gi gj ga gb i j A B n m ca cb)
 (hA : VlS w A n pa) (hB : VlS w B m pb) (hi : i = n) (hj : j = m) (hn : n ≤ 1000) (hm : m ≤ 1000) (hij : gi ≠ gj)
 (hdA : 0 < n → ∀ b o, A = some ⟨b, o, none⟩ → b ≠ gi ∧ b ≠ gj) (hdB : 0 < m → ∀ b o, B = some ⟨b, o, none⟩ → b ≠ gi ∧ b ≠ gj) (hga : ga ≠ gi ∧ ga ≠ gj) (hgb : gb ≠ gi ∧ gb ≠ gj) :
 Calls Tryz.prog 274 #[.agg #[.int .i64 p.k, .int .i64 p.i, .string p.t], .pointer (some ⟨gi, 0, none⟩), .pointer (some ⟨ga, 0, none⟩), .pointer (some ⟨gj, 0, none⟩), .pointer (some ⟨gb, 0, none⟩)] w fun e w' =>
  ContPost w gi gj ga gb i j A B n m ca cb (hitL (pa.drop i) p) (hitL (pb.drop j) p) e w' := by
 have HA : hitL (pa.drop i) p = false := by rw [List.drop_eq_nil_of_le (by rw [hA.len]; omega)]; rfl
 have HB : hitL (pb.drop j) p = false := by rw [List.drop_eq_nil_of_le (by rw [hB.len]; omega)]; rfl
 obtain ⟨pk, pi, pt⟩ := p
 rw [HA, HB]
 clear HA HB
 have g1 : decide (i < n) = false := by simp; omega
 have hib : i ≤ 1000 := by omega
 clear hi
 have g2 : decide (j < m) = false := by simp; omega
 have hjb : j ≤ 1000 := by omega
 clear hj
 clear hA hB hdA hdB
 go_enter Tryz.func274, Tryz.ntmps274
 go_wp2
 have hX := (Blk.new w 59 #[.int .i64 pk, .int .i64 pi, .string pt])
 have hK0 := keeps_alloc w (.cells #[.int .i64 pk, .int .i64 pi, .string pt] 59)
 have hne : w.heap.size ≠ gi ∧ w.heap.size ≠ gj := ⟨by have := hc.hi.lt; omega, by have := hc.hj.lt; omega⟩
 have hC := hc.alloc (.cells #[.int .i64 pk, .int .i64 pi, .string pt] 59)
 have hB0 : But (fun k => k = gi ∨ k = gj) w (w.alloc (.cells #[.int .i64 pk, .int .i64 pi, .string pt] 59)) := But.alloc _ _
 generalize w.alloc (.cells #[.int .i64 pk, .int .i64 pi, .string pt] 59) = W at *
 generalize hwz : w.heap.size = z at *
 clear hwz hK0 hc
 have hXc := hX.cell
 have a1 := blocks_at hC.hi (i := 0) rfl
 have a2 := blocks_at hC.hj (i := 0) rfl
 have a3 := blocks_at hC.ha (i := 0) rfl
 have a4 := blocks_at hC.hb (i := 0) rfl
 have hca := @cell_after W.drew
 refine wp_region_seg [] [0, 1, 2, 3, 4, 5, 6, 7, 8, 9, 10, 11] (by kernel_rfl) (by kernel_rfl) (fun _ _ d _ _ h => by cases d <;> exact h) ?_
 simp only [pickSegs, pickOps, opAt, pkO]
 unfold wpBlocks
 repeat (go_big_quiet_step (fail))
 refine wpQuiet_nil ?_
 clear hca
 clear hXc
 go_wp2
 have hC1 : MCap W.drew gi gj ga gb i j _ _ n m ca cb := hC.drew
 have hB1 := hB0.drew
 have hXc := hX.drew.cell
 clear a1 a2 a3 a4 hX hC hB0
 generalize W.drew = W1 at *
 have a1 := blocks_at hC1.hi (i := 0) rfl
 have a2 := blocks_at hC1.hj (i := 0) rfl
 have a3 := blocks_at hC1.ha (i := 0) rfl
 have a4 := blocks_at hC1.hb (i := 0) rfl
 have hca := @cell_after W1.drew
 refine wp_region_seg [] [0, 1, 2, 3, 4, 5, 6, 7, 8, 9, 10, 11] (by kernel_rfl) (by kernel_rfl) (fun _ _ d _ _ h => by cases d <;> exact h) ?_
 simp only [pickSegs, pickOps, opAt, pkO]
 unfold wpBlocks
 repeat (go_big_quiet_step (fail))
 refine wpQuiet_nil ?_
 clear hca
 go_wp2
 have hC2 : MCap W1.drew gi gj ga gb _ j _ _ n m ca cb := hC1.drew
 have hB2 := hB1.drew
 clear a1 a2 a3 a4
 generalize W1.drew = W2 at *
 have a1 := blocks_at hC2.hi (i := 0) rfl
 have a2 := blocks_at hC2.hj (i := 0) rfl
 have a3 := blocks_at hC2.ha (i := 0) rfl
 have a4 := blocks_at hC2.hb (i := 0) rfl
 have hca := @cell_after W2.drew
 refine wp_region_seg [] [0, 1, 2, 3, 4, 5, 6, 7] (by kernel_rfl) (by kernel_rfl) (fun _ _ d _ _ h => by cases d <;> exact h) ?_
 simp only [pickSegs, pickOps, opAt, pkO]
 unfold wpBlocks
 repeat (go_big_quiet_step (fail))
 refine wpQuiet_nil ?_
 clear hca
 go_wp2
 go_ret2
 refine ⟨?_, hC2.drew, hB2.drew⟩
 exact ret_bools (par_n i) (par_n j)
theorem contains_any (w : World) (gi gj ga gb i j : Nat) (A B : Option Addr) (n m ca cb : Nat) (pa pb : List Vl) (p : Vl) (hc : MCap w gi gj ga gb i j A B n m ca cb)
 (hA : VlS w A n pa) (hB : VlS w B m pb) (hi : i ≤ n) (hj : j ≤ m) (hn : n ≤ 1000) (hm : m ≤ 1000) (hij : gi ≠ gj)
 (hdA : 0 < n → ∀ b o, A = some ⟨b, o, none⟩ → b ≠ gi ∧ b ≠ gj) (hdB : 0 < m → ∀ b o, B = some ⟨b, o, none⟩ → b ≠ gi ∧ b ≠ gj) (hga : ga ≠ gi ∧ ga ≠ gj) (hgb : gb ≠ gi ∧ gb ≠ gj) :
 Calls Tryz.prog 274 #[.agg #[.int .i64 p.k, .int .i64 p.i, .string p.t], .pointer (some ⟨gi, 0, none⟩), .pointer (some ⟨ga, 0, none⟩), .pointer (some ⟨gj, 0, none⟩), .pointer (some ⟨gb, 0, none⟩)] w fun e w' =>
  ContPost w gi gj ga gb i j A B n m ca cb (hitL (pa.drop i) p) (hitL (pb.drop j) p) e w' := by
 rcases Nat.lt_or_ge i n with h1 | h1
 · rcases Nat.lt_or_ge j m with h2 | h2
   · exact contains_tt w gi gj ga gb i j A B n m ca cb pa pb p hc hA hB h1 h2 hn hm hij hdA hdB hga hgb
   · exact contains_te w gi gj ga gb i j A B n m ca cb pa pb p hc hA hB h1 (by omega) hn hm hij hdA hdB hga hgb
 · rcases Nat.lt_or_ge j m with h2 | h2
   · exact contains_et w gi gj ga gb i j A B n m ca cb pa pb p hc hA hB (by omega) h2 hn hm hij hdA hdB hga hgb
   · exact contains_ee w gi gj ga gb i j A B n m ca cb pa pb p hc hA hB (by omega) (by omega) hn hm hij hdA hdB hga hgb
def setLast (out : List Iv) (p : Vl) : List Iv := match out.getLast? with
 | none => out
 | some x => out.dropLast ++ [⟨x.f, p, false⟩]
def outStep (ins now : Bool) (p : Vl) (out : List Iv) : List Iv :=
 if now && !ins then out ++ [⟨p, zeroV, true⟩] else if !now && ins then setLast out p else out
def mergeF (op : Bool → Bool → Bool) : Nat → List Vl → List Vl → Bool → Bool → Bool → List Iv → List Iv
 | 0, _, _, _, _, _, out => out
 | f + 1, la, lb, ia, ib, ins, out =>
   if la.isEmpty && lb.isEmpty then out else
    mergeF op f (if hitL la (leastL la lb) then la.tail else la) (if hitL lb (leastL la lb) then lb.tail else lb) (xor (hitL la (leastL la lb)) ia) (xor (hitL lb (leastL la lb)) ib)
     (op (xor (hitL la (leastL la lb)) ia) (xor (hitL lb (leastL la lb)) ib)) (outStep ins (op (xor (hitL la (leastL la lb)) ia) (xor (hitL lb (leastL la lb)) ib)) (leastL la lb) out)
def mergeL (op : Bool → Bool → Bool) (a b : List Iv) : List Iv := mergeF op ((ptsL a).length + (ptsL b).length) (ptsL a) (ptsL b) false false false []
theorem hit_one {la lb : List Vl} (h : ¬ (la.isEmpty && lb.isEmpty) = true) : hitL la (leastL la lb) = true ∨ hitL lb (leastL la lb) = true := by
 cases la <;> cases lb <;> simp [leastL, hitL] at h ⊢
 omega
theorem drop_bump {l : List Vl} {i : Nat} {p : Vl} : l.drop (bump i (hitL (l.drop i) p)) = if hitL (l.drop i) p then (l.drop i).tail else l.drop i := by
 unfold bump
 split <;> simp
theorem par_bump (i : Nat) (q : Bool) : (bump i q % 2 == 1) = xor q (i % 2 == 1) := by
 cases q
 · simp [bump]
 · rw [Bool.eq_iff_iff]; simp [bump]; omega
def cnt (w : World) (g : Nat) : Nat := match w.cell? ⟨g, 0, none⟩ with
 | some (.int _ q) => q.toNat
 | _ => 0
structure MState (op : Bool → Bool → Bool) (pa pb : List Vl) (R : List Iv) (w2 : World) (gi gj ga gb : Nat) (A1 A2 : Option Addr) (c1 c2 : Nat) (i j k : Nat) (ins : Bool) (out : List Iv) (A' : Option Addr) (c' : Nat) (wr : World) : Prop where
 hi : i ≤ pa.length
 hj : j ≤ pb.length
 cap : MCap wr gi gj ga gb i j A1 A2 pa.length pb.length c1 c2
 own : wr.ownsRow (w2.heap.size + 4) 187 7 (.slice A' k c') k (out.flatMap Iv.cs)
 len : out.length = k
 kle : k ≤ i + j
 ins_ : ins = true → 0 < k
 run : ∃ f, pa.length - i + (pb.length - j) ≤ f ∧ mergeF op f (pa.drop i) (pb.drop j) (i % 2 == 1) (j % 2 == 1) ins out = R
 bel : Below w2.heap.size w2 wr
 siz : w2.heap.size + 4 ≤ wr.heap.size
theorem MState.step {op : Bool → Bool → Bool} {pa pb : List Vl} {R : List Iv} {w2 : World} {gi gj ga gb : Nat} {A1 A2 : Option Addr} {c1 c2 i j k : Nat} {ins : Bool} {out : List Iv} {A' : Option Addr} {c' : Nat} {wr : World}
 (h : MState op pa pb R w2 gi gj ga gb A1 A2 c1 c2 i j k ins out A' c' wr) (hij : i < pa.length ∨ j < pb.length) (p : Vl) (hp : leastL (pa.drop i) (pb.drop j) = p) (i' j' : Nat) (hi' : i' = bump i (hitL (pa.drop i) p)) (hj' : j' = bump j (hitL (pb.drop j) p)) (now : Bool) (hnow : now = op (i' % 2 == 1) (j' % 2 == 1)) :
 i' ≤ pa.length ∧ j' ≤ pb.length ∧ i + j < i' + j' ∧ ∃ f, pa.length - i' + (pb.length - j') ≤ f ∧ mergeF op f (pa.drop i') (pb.drop j') (i' % 2 == 1) (j' % 2 == 1) now (outStep ins now p out) = R := by
 have hne : ¬ ((pa.drop i).isEmpty && (pb.drop j).isEmpty) = true := by
  simp; omega
 have hone := hit_one hne
 rw [hp] at hone
 have hA : hitL (pa.drop i) p = true → i < pa.length := by
  intro h1
  rcases Nat.lt_or_ge i pa.length with h2 | h2
  · exact h2
  · rw [List.drop_eq_nil_of_le h2] at h1; simp [hitL] at h1
 have hB : hitL (pb.drop j) p = true → j < pb.length := by
  intro h1
  rcases Nat.lt_or_ge j pb.length with h2 | h2
  · exact h2
  · rw [List.drop_eq_nil_of_le h2] at h1; simp [hitL] at h1
 obtain ⟨f, hf, hrun⟩ := h.run
 have h1 := h.hi
 have h2 := h.hj
 obtain ⟨f', rfl⟩ : ∃ f', f = f' + 1 := ⟨f - 1, by omega⟩
 unfold mergeF at hrun
 rw [if_neg hne, hp] at hrun
 subst hi' hj' hnow
 rw [drop_bump, drop_bump, par_bump, par_bump]
 refine ⟨?_, ?_, ?_, f', ?_, hrun⟩
 all_goals
  unfold bump
  cases hq1 : hitL (pa.drop i) p <;> cases hq2 : hitL (pb.drop j) p <;> simp only [hq1, hq2, forall_const, Bool.false_eq_true, false_or, or_false, if_true, if_false] at hA hB hone ⊢ <;> omega
theorem cnt_of {w : World} {g T i : Nat} (h : Blk w g T #[.int .i64 (i : Int)]) : cnt w g = i := by
 unfold cnt
 rw [blocks_at h (i := 0) rfl]
 simp
def MRel (op : Bool → Bool → Bool) (pa pb : List Vl) (R : List Iv) (w2 : World) (gi gj ga gb : Nat) (A1 A2 : Option Addr) (c1 c2 : Nat) (v x : Value) (wr : World) : Prop :=
 ∃ (i j k : Nat) (ins : Bool) (out : List Iv) (A' : Option Addr) (c' : Nat), v = .slice A' k c' ∧ x = .bool ins ∧ MState op pa pb R w2 gi gj ga gb A1 A2 c1 c2 i j k ins out A' c' wr
theorem mclose {op : Bool → Bool → Bool} {pa pb : List Vl} {R : List Iv} {w2 : World} {gi gj ga gb : Nat} {A1 A2 : Option Addr} {c1 c2 i j k : Nat} {ins : Bool} {out : List Iv} {A' : Option Addr} {c' : Nat} {wr : World} {p : Vl} {i' j' : Nat} {now : Bool}
 (hM : MState op pa pb R w2 gi gj ga gb A1 A2 c1 c2 i j k ins out A' c' wr)
 (hst : i' ≤ pa.length ∧ j' ≤ pb.length ∧ i + j < i' + j' ∧ ∃ f, pa.length - i' + (pb.length - j') ≤ f ∧ mergeF op f (pa.drop i') (pb.drop j') (i' % 2 == 1) (j' % 2 == 1) now (outStep ins now p out) = R)
 {w' : World} (hC' : MCap w' gi gj ga gb i' j' A1 A2 pa.length pb.length c1 c2) (k' : Nat) (out' : List Iv) (A'' : Option Addr) (c'' : Nat) (hout : outStep ins now p out = out')
 (hown' : w'.ownsRow (w2.heap.size + 4) 187 7 (.slice A'' k' c'') k' (out'.flatMap Iv.cs)) (hlen : out'.length = k') (hk' : k' ≤ k + 1) (hins' : now = true → 0 < k') (hbel' : Below w2.heap.size w2 w') (hsiz' : wr.heap.size ≤ w'.heap.size) :
 MRel op pa pb R w2 gi gj ga gb A1 A2 c1 c2 (.slice A'' k' c'') (.bool now) w' ∧ pa.length + pb.length - cnt w' gi - cnt w' gj < pa.length + pb.length - cnt wr gi - cnt wr gj := by
 obtain ⟨h1, h2, h3, f, h4, h5⟩ := hst
 refine ⟨⟨i', j', k', now, out', A'', c'', rfl, rfl, ⟨h1, h2, hC', hown', hlen, ?_, hins', ⟨f, h4, by rw [← hout]; exact h5⟩, hbel', Nat.le_trans hM.siz hsiz'⟩⟩, ?_⟩
 · have := hM.kle; omega
 · rw [cnt_of hC'.hi, cnt_of hC'.hj, cnt_of hM.cap.hi, cnt_of hM.cap.hj]
   omega
theorem MCap.far {w : World} {gi gj ga gb i j : Nat} {A B : Option Addr} {n m ca cb : Nat} (h : MCap w gi gj ga gb i j A B n m ca cb) {p : Addr} (hr : gi ≠ p.block ∧ gj ≠ p.block ∧ ga ≠ p.block ∧ gb ≠ p.block) (u : Value) : MCap (w.setCell p u) gi gj ga gb i j A B n m ca cb :=
 ⟨h.hi.far hr.1 u, h.hj.far hr.2.1 u, h.ha.far hr.2.2.1 u, h.hb.far hr.2.2.2 u⟩
theorem set_flat {l : List Iv} {x : Iv} {p : Vl} (k : Nat) (hk : l.length = k) (hx : l[k - 1]? = some x) :
 ((((l.flatMap Iv.cs).set ((k - 1) * 7 + 3) (.int .i64 p.k)).set ((k - 1) * 7 + 4) (.int .i64 p.i)).set ((k - 1) * 7 + 5) (.string p.t)).set ((k - 1) * 7 + 6) (.bool false) = (setLast l p).flatMap Iv.cs := by
 have hk0 : k - 1 < l.length := (List.getElem?_eq_some_iff.1 hx).1
 have hlast : l.getLast? = some x := by rw [List.getLast?_eq_getElem?, hk]; exact hx
 obtain ⟨d, rfl⟩ := List.getLast?_eq_some_iff.1 hlast
 unfold setLast
 rw [hlast]
 simp only [List.dropLast_concat]
 have hd : (d.flatMap Iv.cs).length = (k - 1) * 7 := by rw [flat_len Iv.cs_len, ← hk]; simp
 rw [List.flatMap_append, List.flatMap_append]
 simp only [List.flatMap_cons, List.flatMap_nil, List.append_nil]
 rw [← hd]
 simp only [List.set_append_right _ _ (Nat.le_add_right _ _), Nat.add_sub_cancel_left]
 rfl
theorem own_setLast {w : World} {base g k c : Nat} {l : List Iv} {x : Iv} (p : Vl) (h : w.ownsRow base 187 7 (.slice (some ⟨g, 0, none⟩) k c) k (l.flatMap Iv.cs)) (hk : l.length = k) (hx : l[k - 1]? = some x) :
 ((((w.setCell ⟨g, (k - 1) * 7 + 3, none⟩ (.int .i64 p.k)).setCell ⟨g, (k - 1) * 7 + 4, none⟩ (.int .i64 p.i)).setCell ⟨g, (k - 1) * 7 + 5, none⟩ (.string p.t)).setCell ⟨g, (k - 1) * 7 + 6, none⟩ (.bool false)).ownsRow base 187 7 (.slice (some ⟨g, 0, none⟩) k c) k ((setLast l p).flatMap Iv.cs) := by
 rw [← set_flat k hk hx]
 exact ((((h.stored _ _).1.stored _ _).1.stored _ _).1.stored _ _).1
set_option maxHeartbeats 4000000 in
theorem merge_any (F : Nat) (op : Bool → Bool → Bool) (hent : ∀ args w, (callFunc F args).run Tryz.prog w = .ok (.enter F args) w)
 (hop : ∀ x y W, Calls Tryz.prog F #[.bool x, .bool y] W fun e w' => e = .returned (.bool (op x y)) ∧ W = w')
 (A B : Option Addr) (n m ca cb : Nat) (la lb : List Iv) (w : World) (hn : n ≤ 64) (hm : m ≤ 64) (hA : IvS w A n la) (hB : IvS w B m lb) :
 Calls Tryz.prog 261 #[.slice A n ca, .slice B m cb, .func (.func F) #[] #[]] w fun e w' =>
  ∃ (A' : Option Addr) (c' : Nat), e = .returned (.slice A' (mergeL op la lb).length c') ∧ IvS w' A' (mergeL op la lb).length (mergeL op la lb) ∧ Below w.heap.size w w' := by
 have Hop := zH hop
 have HA := zH hA
 have HB := zH hB
 have hl1 : (ptsL la).length ≤ 128 := by have := ptsL_len la; have := hA.len; omega
 have hl2 : (ptsL lb).length ≤ 128 := by have := ptsL_len lb; have := hB.len; omega
 clear hop hA hB
 generalize hR : mergeL op la lb = R
 have HR := zH hR
 clear hR
 obtain ⟨i0, hi, hz0, hz1, hz2⟩ := info_parts info_iv
 go_enter Tryz.func261, Tryz.ntmps261
 go_wp2_with fail
 refine (points_any A n ca la _ hn HA.out).mono ?_
 rintro e w1 ⟨A1, c1, rfl, hS1, hb1⟩
 go_wp2_with fail
 refine (points_any B m cb lb _ hm (HB.out.keep (keeps_of hb1))).mono ?_
 rintro e w2 ⟨A2, c2, rfl, hS2, hb2⟩
 have HS1 := zH (hS1.keep (keeps_of hb2))
 have HS2 := zH hS2
 clear hS1 hS2
 go_wp2_with fail
 have hz : ∀ a b c d : Obj, ((((w2.alloc a).alloc b).alloc c).alloc d).heap.size = w2.heap.size + 4 := by simp
 have hC0 : MCap ((((w2.alloc (.cells #[.slice A1 (ptsL la).length c1] 52)).alloc (.cells #[.slice A2 (ptsL lb).length c2] 52)).alloc (.cells #[.int .i64 0] 3)).alloc (.cells #[.int .i64 0] 3))
  (w2.heap.size + 1 + 1) (w2.heap.size + 1 + 1 + 1) w2.heap.size (w2.heap.size + 1) 0 0 A1 A2 (ptsL la).length (ptsL lb).length c1 c2 := by
  refine ⟨?_, ?_, ?_, ?_⟩
  · have := (Blk.new ((w2.alloc (.cells #[.slice A1 (ptsL la).length c1] 52)).alloc (.cells #[.slice A2 (ptsL lb).length c2] 52)) 3 #[.int .i64 0]).alloc (.cells #[.int .i64 0] 3)
    simpa using this
  · have := Blk.new (((w2.alloc (.cells #[.slice A1 (ptsL la).length c1] 52)).alloc (.cells #[.slice A2 (ptsL lb).length c2] 52)).alloc (.cells #[.int .i64 0] 3)) 3 #[.int .i64 0]
    simpa using this
  · exact (((Blk.new w2 _ _).alloc _).alloc _).alloc _
  · have := ((Blk.new (w2.alloc (.cells #[.slice A1 (ptsL la).length c1] 52)) 52 #[.slice A2 (ptsL lb).length c2]).alloc (.cells #[.int .i64 0] 3)).alloc (.cells #[.int .i64 0] 3)
    simpa using this
 have hB0 : Below w2.heap.size w2 ((((w2.alloc (.cells #[.slice A1 (ptsL la).length c1] 52)).alloc (.cells #[.slice A2 (ptsL lb).length c2] 52)).alloc (.cells #[.int .i64 0] 3)).alloc (.cells #[.int .i64 0] 3)) :=
  ((((Below.refl _ _).alloc (Nat.le_refl _) _).alloc (by simp) _).alloc (by simp <;> omega) _).alloc (by simp <;> omega) _
 have hS0 := hz (.cells #[.slice A1 (ptsL la).length c1] 52) (.cells #[.slice A2 (ptsL lb).length c2] 52) (.cells #[.int .i64 0] 3) (.cells #[.int .i64 0] 3)
 have HC0 := zH hC0
 have HS0 := zH hS0
 clear hz hC0 hS0
 have HR' := zH (show ∃ f, (ptsL la).length - 0 + ((ptsL lb).length - 0) ≤ f ∧ mergeF op f ((ptsL la).drop 0) ((ptsL lb).drop 0) (0 % 2 == 1) (0 % 2 == 1) false [] = R from ⟨_, Nat.le_refl _, by have := HR.out; unfold mergeL at this; simpa using this⟩)
 generalize ptsL la = pa at *
 generalize ptsL lb = pb at *
 generalize hz : w2.heap.size = z at *
 go_loopw [13, 14] (fun v x wr => MRel op pa pb R w2 (z + 1 + 1) (z + 1 + 1 + 1) z (z + 1) A1 A2 c1 c2 v x wr) (fun _ _ wr => pa.length + pb.length - cnt wr (z + 1 + 1) - cnt wr (z + 1 + 1 + 1))
 case atStart => exact ⟨0, 0, 0, false, [], none, 0, rfl, rfl, ⟨by omega, by omega, HC0.out, ⟨by simp, .inl ⟨rfl, rfl⟩⟩, rfl, by omega, by simp, HR'.out, by rw [hz]; exact hB0, by rw [hz, HS0.out]; omega⟩⟩
 case round =>
  obtain ⟨i, j, k, ins, out, A', c', rfl, rfl, hM⟩ := hrel
  have hC := hM.cap
  have a1 := blocks_at hC.hi (i := 0) rfl
  have a2 := blocks_at hC.hj (i := 0) rfl
  have a3 := blocks_at hC.ha (i := 0) rfl
  have a4 := blocks_at hC.hb (i := 0) rfl
  have hii := hM.hi
  have hjj := hM.hj
  by_cases hend : i < pa.length ∨ j < pb.length
  · have hKw := keeps_of hM.bel
    have hSA := HS1.out.keep hKw
    have hSB := HS2.out.keep hKw
    have hdA : 0 < pa.length → ∀ b o, A1 = some ⟨b, o, none⟩ → b ≠ z + 1 + 1 ∧ b ≠ z + 1 + 1 + 1 := fun h b o e => by
     have := HS1.out.lt Vl.cs_len (by omega) h b o e
     omega
    have hdB : 0 < pb.length → ∀ b o, A2 = some ⟨b, o, none⟩ → b ≠ z + 1 + 1 ∧ b ≠ z + 1 + 1 + 1 := fun h b o e => by
     have := HS2.out.lt Vl.cs_len (by omega) h b o e
     omega
    have HH := zH (And.intro hdA hdB)
    have HSA := zH hSA
    have HSB := zH hSB
    clear hdA hdB hSA hSB hKw
    have hgg : decide (i < pa.length) = true ∨ (decide (i < pa.length) = false ∧ decide (j < pb.length) = true) := by
     rcases Nat.lt_or_ge i pa.length with h | h
     · exact .inl (by simp [h])
     · exact .inr ⟨by simp; omega, by simp; omega⟩
    rcases hgg with g1 | ⟨g1, g2⟩
    all_goals
     go_wp2_with fail
     refine (least_any wr (z + 1 + 1) (z + 1 + 1 + 1) z (z + 1) i j A1 A2 pa.length pb.length c1 c2 pa pb hC HSA.out HSB.out hii hjj hend (by omega) (by omega)).mono ?_
     rintro e w3 ⟨rfl, hb3⟩
     obtain ⟨p, Hp⟩ : ∃ p, Hid (leastL (pa.drop i) (pb.drop j) = p) := ⟨_, rfl⟩
     rw [Hp.out]
     obtain ⟨pk, pi, pt⟩ := p
     dsimp only
     go_wp2_with fail
     have hC3 := (hC.below hb3).alloc (.cells #[.int .i64 pk, .int .i64 pi, .string pt] 59)
     have hK3 : Keeps wr (w3.alloc (.cells #[.int .i64 pk, .int .i64 pi, .string pt] 59)) := (keeps_of hb3).alloc _
     refine (contains_any _ (z + 1 + 1) (z + 1 + 1 + 1) z (z + 1) i j A1 A2 pa.length pb.length c1 c2 pa pb ⟨pk, pi, pt⟩ hC3 (HSA.out.keep hK3) (HSB.out.keep hK3) hii hjj (by omega) (by omega) (by omega) HH.out.1 HH.out.2 ⟨by omega, by omega⟩ ⟨by omega, by omega⟩).mono ?_
     rintro e w4 ⟨rfl, hC4, hU4⟩
     obtain ⟨i', Hi'⟩ : ∃ i', Hid (i' = bump i (hitL (pa.drop i) ⟨pk, pi, pt⟩)) := ⟨_, rfl⟩
     obtain ⟨j', Hj'⟩ : ∃ j', Hid (j' = bump j (hitL (pb.drop j) ⟨pk, pi, pt⟩)) := ⟨_, rfl⟩
     rw [← Hi'.out, ← Hj'.out] at hC4
     rw [← Hi'.out, ← Hj'.out]
     have hsz3 : wr.heap.size ≤ w3.heap.size := hb3.size
     have hg3 := hC.lt
     have hX4 := ((Blk.new w3 59 #[.int .i64 pk, .int .i64 pi, .string pt]).but hU4 (by simp; omega)).cell
     have hbel4 : Below w2.heap.size w2 w4 := hU4.below ((Below.next hM.bel hb3).alloc (by have := hM.bel.size; omega) _) (by have := hM.bel.size; simp; omega) (by rintro k (rfl | rfl) <;> omega)
     have hown4 : w4.ownsRow (w2.heap.size + 4) 187 7 (.slice A' k c') k (out.flatMap Iv.cs) := own_at hM.own (fun g hg1 hg2 _ => by
      rw [hU4.block g (by simp; omega) (by rintro (rfl | rfl) <;> omega), Below.heap_alloc _ _ _ (by omega), hb3.block g hg2])
     clear a1 a2 a3 a4 hC3 hK3
     go_wp2_with fail
     refine (Hop.out _ _ _).mono ?_
     rintro e w5 ⟨rfl, rfl⟩
     obtain ⟨now, Hn⟩ : ∃ now, Hid (now = op (i' % 2 == 1) (j' % 2 == 1)) := ⟨_, rfl⟩
     rw [← Hn.out]
     have Hst := zH (hM.step hend ⟨pk, pi, pt⟩ Hp.out i' j' Hi'.out Hj'.out now Hn.out)
     have hkb : k ≤ 256 := by have := hM.kle; omega
     have hsz4 := hU4.size
     cases ins <;> cases now
     · go_wp2
       exact mclose hM Hst.out hC4 k out A' c' rfl hown4 hM.len (by omega) (by simp) hbel4 (by simp at hsz4; omega)
     · go_wp2_with (at_builtin; refine wpList_append_one (by rfl) (.tmp 48) (.tmp 51) _ (by rfl) (w2.heap.size + 4) 187 i0 _ 7 72 Tryz.underlying139 hi hz0 hz1 hz2 (by rfl) (by omega) (.slice A' k c') k _ (by rfl) _ _ hown4 w4.heap.size (by rfl) (by rfl) (by rfl) (one_iv ⟨⟨pk, pi, pt⟩, zeroV, true⟩) (by simp only [maxLen]; omega) (by omega) (by have := hM.siz; simp at hsz4; omega) ?_; intro g cap w6 hown6 hg6 hB6 hat6 hlt6)
       have hne : ∀ q, q < w2.heap.size + 4 → some q ≠ (Value.slice A' k c').ownBlock := fun q hq e => by have := own_base hown4 q e.symm; omega
       exact mclose hM Hst.out (hC4.grown hg6 ⟨hne _ (by omega), hne _ (by omega), hne _ (by omega), hne _ (by omega)⟩) (k + 1) (out ++ [⟨⟨pk, pi, pt⟩, zeroV, true⟩]) _ _ rfl (by rw [List.flatMap_append]; simpa [Iv.cs, zeroV] using hown6) (by simp [hM.len]) (by omega) (by omega)
        (hbel4.trans (hB6.mono (by omega))) (by have := hg6.size; simp at hsz4; omega)
     · have hk0 : 0 < k := hM.ins_ rfl
       obtain ⟨g, cap, hv, hgb, hgl⟩ := hown4.form hk0
       obtain ⟨rfl, rfl⟩ : A' = some ⟨g, 0, none⟩ ∧ c' = cap := by injection hv with h1 h2 h3; exact ⟨h1, h3⟩
       obtain ⟨b6, o6, x, hA6, hx6, hc6⟩ := (Sl.of_own Iv.cs_len hM.len hown4).at (show k - 1 < k by omega)
       obtain ⟨rfl, rfl⟩ : g = b6 ∧ 0 = o6 := by injection hA6 with h; injection h with h1 h2; exact ⟨h1, h2⟩
       obtain ⟨y0, y1, y2, y3, y4, y5, y6⟩ := IvAt.of hc6
       simp only [Nat.zero_add] at y0 y1 y2 y3 y4 y5 y6
       have hfz := fun q => hown4.frozenAt q
       have HO := zH (own_setLast ⟨pk, pi, pt⟩ hown4 hM.len hx6)
       have hkb' : (1 : Int) ≤ (k : Int) := by omega
       clear hv hA6 hc6
       have HX6 := zH hx6
       clear hx6
       go_wp2
       have hne : ∀ q : Nat, z + 1 + 1 ≠ g ∧ z + 1 + 1 + 1 ≠ g ∧ z ≠ g ∧ z + 1 ≠ g := fun _ => ⟨by omega, by omega, by omega, by omega⟩
       exact mclose hM Hst.out ((((hC4.far (p := ⟨g, (k - 1) * 7 + 3, none⟩) (hne 0) _).far (p := ⟨g, (k - 1) * 7 + 3 + 1, none⟩) (hne 0) _).far (p := ⟨g, (k - 1) * 7 + 3 + 2, none⟩) (hne 0) _).far (p := ⟨g, (k - 1) * 7 + 6, none⟩) (hne 0) _) k (setLast out ⟨pk, pi, pt⟩) _ _ rfl HO.out
        (by unfold setLast; rw [List.getLast?_eq_getElem?, hM.len, HX6.out]; simp [hM.len]; omega) (by omega) (by simp)
        ((((hbel4.setCell (p := ⟨g, (k - 1) * 7 + 3, none⟩) (by simp; omega) _).setCell (p := ⟨g, (k - 1) * 7 + 3 + 1, none⟩) (by simp; omega) _).setCell (p := ⟨g, (k - 1) * 7 + 3 + 2, none⟩) (by simp; omega) _).setCell (p := ⟨g, (k - 1) * 7 + 6, none⟩) (by simp; omega) _)
        (by simp [World.setCell]; simp at hsz4; omega)
     · go_wp2
       exact mclose hM Hst.out hC4 k out A' c' rfl hown4 hM.len (by omega) (fun _ => hM.ins_ rfl) hbel4 (by simp at hsz4; omega)
  · have g1 : decide (i < pa.length) = false := by simp; omega
    have g2 : decide (j < pb.length) = false := by simp; omega
    have HM := zH hM
    clear hM
    go_wp2
    go_ret
    have hM := HM.out
    obtain ⟨f, hf, hrun⟩ := hM.run
    have ho : out = R := by
     rw [List.drop_eq_nil_of_le (by omega), List.drop_eq_nil_of_le (by omega)] at hrun
     rw [← hrun]
     cases f <;> simp [mergeF]
    subst ho
    obtain rfl : out.length = k := hM.len
    exact ⟨A', c', rfl, Sl.of_own Iv.cs_len rfl hM.own, Below.next (Below.next hb1 hb2) hM.bel⟩
end Go.Proofs.YtnnmlhmffnfjfaaGreat
