/-
  Texts: Least.
-/
import Derived.Test.YtmnmckblmoalkaaGreatB2
set_option linter.unusedVariables false
namespace Go.Proofs.YtmnmckblmoalkaaGreat
open Go.RowKit
set_option maxRecDepth 100000
set_option linter.unusedVariables false

/-- the captured variables of merge: two counters and two slices -/
structure MCap (w : World) (gi gj ga gb : Nat) (i j : Nat) (A B : Option Addr) (n m ca cb : Nat) : Prop where
  hi : Blk w gi 3 #[.int .i64 i]
  hj : Blk w gj 3 #[.int .i64 j]
  ha : Blk w ga 43 #[.slice A n ca]
  hb : Blk w gb 43 #[.slice B m cb]

def leastL : List Vl → List Vl → Vl
  | [], [] => zeroV
  | x :: _, [] => x
  | [], y :: _ => y
  | x :: _, y :: _ => if cmpV x y < 0 then x else y

set_option maxHeartbeats 1000000 in
theorem least_both (w : World) (gi gj ga gb i j : Nat) (A B : Option Addr) (n m ca cb : Nat) (pa pb : List Vl) (hc : MCap w gi gj ga gb i j A B n m ca cb)
    (hA : VlS w A n pa) (hB : VlS w B m pb) (hi : i < n) (hj : j < m) (hn : n ≤ 1000) (hm : m ≤ 1000) :
    Calls Tryz.prog 195 #[.pointer (some ⟨gj, 0, none⟩), .pointer (some ⟨gb, 0, none⟩), .pointer (some ⟨gi, 0, none⟩), .pointer (some ⟨ga, 0, none⟩)] w fun e w' =>
      e = .returned (.agg #[.int .i64 (leastL (pa.drop i) (pb.drop j)).k, .int .i64 (leastL (pa.drop i) (pb.drop j)).i, .string (leastL (pa.drop i) (pb.drop j)).t]) ∧ Below w.heap.size w w' := by
  obtain ⟨b, o, x, rfl, hx, hxc⟩ := hA.at hi
  obtain ⟨b', o', y, rfl, hy, hyc⟩ := hB.at hj
  have HL : Hid (leastL (pa.drop i) (pb.drop j) = if cmpV x y < 0 then x else y) := by
    rw [drop_at hx, drop_at hy]; rfl
  obtain ⟨xk, xi, xt⟩ := x
  obtain ⟨yk, yi, yt⟩ := y
  obtain ⟨c0, c1, c2⟩ := VlAt.of hxc
  obtain ⟨d0, d1, d2⟩ := VlAt.of hyc
  dsimp only at c0 c1 c2 d0 d1 d2
  have e1 := blocks_at hc.hi (i := 0) rfl
  have e2 := blocks_at hc.hj (i := 0) rfl
  have e3 := blocks_at hc.ha (i := 0) rfl
  have e4 := blocks_at hc.hb (i := 0) rfl
  clear hx hy hxc hyc hA hB hc
  have g1 : decide (i < n) = true := by simp [hi]
  have g2 : ((j : Int) == (m : Int)) = false := by simp; omega
  generalize hLL : leastL (pa.drop i) (pb.drop j) = L at *
  clear hLL
  go_enter Tryz.func195, Tryz.ntmps195
  go_wp2
  have hB0 : Below w.heap.size w (w.alloc (.cells #[.int .i64 0, .int .i64 0, .string ⟨#[]⟩] 49)) := (Below.refl _ _).alloc (Nat.le_refl _) _
  have hX := Blk.new w 49 #[.int .i64 0, .int .i64 0, .string ⟨#[]⟩]
  generalize w.alloc (.cells #[.int .i64 0, .int .i64 0, .string ⟨#[]⟩] 49) = W at *
  have hK0 := keeps_of hB0
  replace c0 := keep_cell hK0 c0
  replace c1 := keep_cell hK0 c1
  replace c2 := keep_cell hK0 c2
  replace d0 := keep_cell hK0 d0
  replace d1 := keep_cell hK0 d1
  replace d2 := keep_cell hK0 d2
  replace e1 := keep_cell hK0 e1
  replace e2 := keep_cell hK0 e2
  replace e3 := keep_cell hK0 e3
  replace e4 := keep_cell hK0 e4
  clear hK0
  refine wp_region_seg [([0, 1, 2, 3, 4, 5, 6, 7, 8, 9, 10, 11, 12, 13, 14, 15, 16, 17], 18)] [19, 20, 21] (by kernel_rfl) (by kernel_rfl) (fun _ _ d _ _ h => by cases d <;> exact h) ?_
  simp only [pickSegs, pickOps, opAt, List.map_cons, List.map_nil, List.getElem?_toArray, List.getElem?_cons_zero, List.getElem?_cons_succ, Option.getD_some]
  have hca := @cell_after W.drew
  unfold wpBlocks
  repeat (go_big_quiet_step (fail))
  refine wpQuiet_nil ?_
  go_wp2_with (first | (go_at_call 87; refine (compare_any ⟨_, _, _⟩ ⟨_, _, _⟩ _).mono ?_; rintro e w1 ⟨rfl, hb1⟩))
  refine ⟨hb1, ?_⟩
  clear hca
  have hB1 := Below.next hB0.drew hb1
  have hX1 := hX.drew.below hb1
  have hK1 := bcell hb1
  unfold wpBlocks
  repeat (go_big_quiet_step (fail))
  refine wpQuiet_nil ?_
  have hXc := hX1.cell
  have hXf := hX1.free
  go_wp2
  · refine bodyPost_ret (v := .agg #[.int .i64 xk, .int .i64 xi, .string xt]) (by simp [results, Tryz.results195, go_sem, hXc]) rfl ⟨?_, ?_⟩
    · rw [HL.out, if_pos ‹_›]
    · repeat (first | exact hB1 | refine Below.setCell ?_ (by simp) _)
  · refine bodyPost_ret (v := .agg #[.int .i64 yk, .int .i64 yi, .string yt]) (by simp [results, Tryz.results195, go_sem, hXc]) rfl ⟨?_, ?_⟩
    · rw [HL.out, if_neg (by omega)]
    · repeat (first | exact hB1 | refine Below.setCell ?_ (by simp) _)
set_option maxHeartbeats 1000000 in
theorem least_a (w : World) (gi gj ga gb i j : Nat) (A B : Option Addr) (n m ca cb : Nat) (pa pb : List Vl) (hc : MCap w gi gj ga gb i j A B n m ca cb)
    (hA : VlS w A n pa) (hB : VlS w B m pb) (hi : i < n) (hj : j = m) (hn : n ≤ 1000) (hm : m ≤ 1000) :
    Calls Tryz.prog 195 #[.pointer (some ⟨gj, 0, none⟩), .pointer (some ⟨gb, 0, none⟩), .pointer (some ⟨gi, 0, none⟩), .pointer (some ⟨ga, 0, none⟩)] w fun e w' =>
      e = .returned (.agg #[.int .i64 (leastL (pa.drop i) (pb.drop j)).k, .int .i64 (leastL (pa.drop i) (pb.drop j)).i, .string (leastL (pa.drop i) (pb.drop j)).t]) ∧ Below w.heap.size w w' := by
  obtain ⟨b, o, x, rfl, hx, hxc⟩ := hA.at hi
  have HL : Hid (leastL (pa.drop i) (pb.drop j) = x) := by
    have h0 : pb.drop j = [] := List.drop_eq_nil_of_le (by rw [hB.len]; omega)
    rw [h0, drop_at hx]; rfl
  obtain ⟨xk, xi, xt⟩ := x
  obtain ⟨c0, c1, c2⟩ := VlAt.of hxc
  dsimp only at c0 c1 c2
  have e1 := blocks_at hc.hi (i := 0) rfl
  have e2 := blocks_at hc.hj (i := 0) rfl
  have e3 := blocks_at hc.ha (i := 0) rfl
  have e4 := blocks_at hc.hb (i := 0) rfl
  clear hx hxc hA hB hc
  have g1 : decide (i < n) = true := by simp [hi]
  have g2 : ((j : Int) == (m : Int)) = true := by simp; omega
  have HJ := Lib.hid hj
  clear hj
  generalize hLL : leastL (pa.drop i) (pb.drop j) = L at *
  clear hLL
  go_enter Tryz.func195, Tryz.ntmps195
  go_wp2
  have hB0 : Below w.heap.size w (w.alloc (.cells #[.int .i64 0, .int .i64 0, .string ⟨#[]⟩] 49)) := (Below.refl _ _).alloc (Nat.le_refl _) _
  have hX := Blk.new w 49 #[.int .i64 0, .int .i64 0, .string ⟨#[]⟩]
  generalize w.alloc (.cells #[.int .i64 0, .int .i64 0, .string ⟨#[]⟩] 49) = W at *
  have hK0 := keeps_of hB0
  replace c0 := keep_cell hK0 c0
  replace c1 := keep_cell hK0 c1
  replace c2 := keep_cell hK0 c2
  replace e1 := keep_cell hK0 e1
  replace e2 := keep_cell hK0 e2
  replace e3 := keep_cell hK0 e3
  replace e4 := keep_cell hK0 e4
  clear hK0
  refine wp_region_seg [([0, 1, 2, 3, 4, 5, 6, 7, 8, 9, 10, 11, 12, 13, 14, 15, 16, 17], 18)] [19, 20, 21] (by kernel_rfl) (by kernel_rfl) (fun _ _ d _ _ h => by cases d <;> exact h) ?_
  simp only [pickSegs, pickOps, opAt, List.map_cons, List.map_nil, List.getElem?_toArray, List.getElem?_cons_zero, List.getElem?_cons_succ, Option.getD_some]
  have hca := @cell_after W.drew
  unfold wpBlocks
  repeat (go_big_quiet_step (fail))
  refine wpQuiet_nil ?_
  go_wp2
  refine ⟨Below.refl _ _, ?_⟩
  clear hca
  have hX1 := hX.drew
  unfold wpBlocks
  repeat (go_big_quiet_step (fail))
  refine wpQuiet_nil ?_
  have hXc := hX.cell
  have hXf := hX.free
  go_wp2
  refine bodyPost_ret (v := .agg #[.int .i64 xk, .int .i64 xi, .string xt]) (by simp [results, Tryz.results195, go_sem, hXc]) rfl ⟨?_, ?_⟩
  · rw [HL.out]
  · repeat (first | exact hB0 | refine Below.drew ?_ | refine Below.setCell ?_ (by simp) _)

set_option maxHeartbeats 1000000 in
theorem least_b (w : World) (gi gj ga gb i j : Nat) (A B : Option Addr) (n m ca cb : Nat) (pa pb : List Vl) (hc : MCap w gi gj ga gb i j A B n m ca cb)
    (hA : VlS w A n pa) (hB : VlS w B m pb) (hi : i = n) (hj : j < m) (hn : n ≤ 1000) (hm : m ≤ 1000) :
    Calls Tryz.prog 195 #[.pointer (some ⟨gj, 0, none⟩), .pointer (some ⟨gb, 0, none⟩), .pointer (some ⟨gi, 0, none⟩), .pointer (some ⟨ga, 0, none⟩)] w fun e w' =>
      e = .returned (.agg #[.int .i64 (leastL (pa.drop i) (pb.drop j)).k, .int .i64 (leastL (pa.drop i) (pb.drop j)).i, .string (leastL (pa.drop i) (pb.drop j)).t]) ∧ Below w.heap.size w w' := by
  obtain ⟨b', o', y, rfl, hy, hyc⟩ := hB.at hj
  have HL : Hid (leastL (pa.drop i) (pb.drop j) = y) := by
    have h0 : pa.drop i = [] := List.drop_eq_nil_of_le (by rw [hA.len]; omega)
    rw [h0, drop_at hy]; rfl
  obtain ⟨yk, yi, yt⟩ := y
  obtain ⟨d0, d1, d2⟩ := VlAt.of hyc
  dsimp only at d0 d1 d2
  have e1 := blocks_at hc.hi (i := 0) rfl
  have e2 := blocks_at hc.hj (i := 0) rfl
  have e3 := blocks_at hc.ha (i := 0) rfl
  have e4 := blocks_at hc.hb (i := 0) rfl
  clear hy hyc hA hB hc
  have g1 : decide (i < n) = false := by simp; omega
  have HI := Lib.hid hi
  clear hi
  have g2 : ((j : Int) == (m : Int)) = false := by simp; omega
  generalize hLL : leastL (pa.drop i) (pb.drop j) = L at *
  clear hLL
  go_enter Tryz.func195, Tryz.ntmps195
  go_wp2
  have hB0 : Below w.heap.size w (w.alloc (.cells #[.int .i64 0, .int .i64 0, .string ⟨#[]⟩] 49)) := (Below.refl _ _).alloc (Nat.le_refl _) _
  have hX := Blk.new w 49 #[.int .i64 0, .int .i64 0, .string ⟨#[]⟩]
  generalize w.alloc (.cells #[.int .i64 0, .int .i64 0, .string ⟨#[]⟩] 49) = W at *
  have hK0 := keeps_of hB0
  replace d0 := keep_cell hK0 d0
  replace d1 := keep_cell hK0 d1
  replace d2 := keep_cell hK0 d2
  replace e1 := keep_cell hK0 e1
  replace e2 := keep_cell hK0 e2
  replace e3 := keep_cell hK0 e3
  replace e4 := keep_cell hK0 e4
  clear hK0
  refine wp_region_seg [([0, 1, 2, 3, 4, 5, 6, 7, 8, 9, 10, 11, 12, 13, 14, 15, 16, 17], 18)] [19, 20, 21] (by kernel_rfl) (by kernel_rfl) (fun _ _ d _ _ h => by cases d <;> exact h) ?_
  simp only [pickSegs, pickOps, opAt, List.map_cons, List.map_nil, List.getElem?_toArray, List.getElem?_cons_zero, List.getElem?_cons_succ, Option.getD_some]
  have hca := @cell_after W.drew
  unfold wpBlocks
  repeat (go_big_quiet_step (fail))
  refine wpQuiet_nil ?_
  go_wp2
  refine ⟨Below.refl _ _, ?_⟩
  clear hca
  have hX1 := hX.drew
  unfold wpBlocks
  repeat (go_big_quiet_step (fail))
  refine wpQuiet_nil ?_
  have hXc := hX.cell
  have hXf := hX.free
  go_wp2
  refine bodyPost_ret (v := .agg #[.int .i64 yk, .int .i64 yi, .string yt]) (by simp [results, Tryz.results195, go_sem, hXc]) rfl ⟨?_, ?_⟩
  · rw [HL.out]
  · repeat (first | exact hB0 | refine Below.drew ?_ | refine Below.setCell ?_ (by simp) _)

theorem least_any (w : World) (gi gj ga gb i j : Nat) (A B : Option Addr) (n m ca cb : Nat) (pa pb : List Vl) (hc : MCap w gi gj ga gb i j A B n m ca cb)
    (hA : VlS w A n pa) (hB : VlS w B m pb) (hi : i ≤ n) (hj : j ≤ m) (hij : i < n ∨ j < m) (hn : n ≤ 1000) (hm : m ≤ 1000) :
    Calls Tryz.prog 195 #[.pointer (some ⟨gj, 0, none⟩), .pointer (some ⟨gb, 0, none⟩), .pointer (some ⟨gi, 0, none⟩), .pointer (some ⟨ga, 0, none⟩)] w fun e w' =>
      e = .returned (.agg #[.int .i64 (leastL (pa.drop i) (pb.drop j)).k, .int .i64 (leastL (pa.drop i) (pb.drop j)).i, .string (leastL (pa.drop i) (pb.drop j)).t]) ∧ Below w.heap.size w w' := by
  rcases Nat.lt_or_ge i n with h1 | h1
  · rcases Nat.lt_or_ge j m with h2 | h2
    · exact least_both w gi gj ga gb i j A B n m ca cb pa pb hc hA hB h1 h2 hn hm
    · exact least_a w gi gj ga gb i j A B n m ca cb pa pb hc hA hB h1 (by omega) hn hm
  · exact least_b w gi gj ga gb i j A B n m ca cb pa pb hc hA hB (by omega) (by omega) hn hm
end Go.Proofs.YtmnmckblmoalkaaGreat
