/-
  Texts: Join.
-/
import Derived.Test.YtmnmckblmoalkaaGreatB21
set_option linter.unusedVariables false
namespace Go.Proofs.YtmnmckblmoalkaaGreat
open Go.RowKit
set_option maxRecDepth 100000

/-- the interval that begins at the i-th point -/
def segI (P : List Vl) (i : Nat) : Iv := match P[i + 1]? with
  | some q => ⟨P.getD i zeroV, q, false⟩
  | none => ⟨P.getD i zeroV, zeroV, true⟩
def joinL (L : List Iv) (x : Iv) : List Iv := match L.getLast? with
  | none => L ++ [x]
  | some y => if !y.o && decide (cmpV y.t x.f = 0) then L.dropLast ++ [⟨y.f, x.t, x.o⟩] else L ++ [x]

theorem ret_slice {A : Option Addr} {n m c : Nat} (h : n = m) : Ending.returned (.slice A n c) = .returned (.slice A m c) := by rw [h]
def JoinPost (w : World) (base : Nat) (R : List Iv) (e : Ending) (w' : World) : Prop :=
  ∃ (A' : Option Addr) (c' : Nat), e = .returned (.slice A' R.length c') ∧ w'.ownsRow base 90 7 (.slice A' R.length c') R.length (R.flatMap Iv.cs) ∧ Below base w w'

/-- what the body of Join does once the interval x lies in its box -/
theorem set_flat2 {l : List Iv} {x : Iv} {p : Vl} {ob : Bool} (k : Nat) (hk : l.length = k) (hx : l[k - 1]? = some x) :
    ((((l.flatMap Iv.cs).set ((k - 1) * 7 + 3) (.int .i64 p.k)).set ((k - 1) * 7 + 4) (.int .i64 p.i)).set ((k - 1) * 7 + 5) (.string p.t)).set ((k - 1) * 7 + 6) (.bool ob) = (l.dropLast ++ [(⟨x.f, p, ob⟩ : Iv)]).flatMap Iv.cs := by
  have hlast : l.getLast? = some x := by rw [List.getLast?_eq_getElem?, hk]; exact hx
  obtain ⟨d, rfl⟩ := List.getLast?_eq_some_iff.1 hlast
  simp only [List.dropLast_concat]
  have hd : (d.flatMap Iv.cs).length = (k - 1) * 7 := by rw [flat_len Iv.cs_len, ← hk]; simp
  rw [List.flatMap_append, List.flatMap_append]
  simp only [List.flatMap_cons, List.flatMap_nil, List.append_nil]
  rw [← hd]
  simp only [List.set_append_right _ _ (Nat.le_add_right _ _), Nat.add_sub_cancel_left]
  rfl
theorem own_setLast2 {w : World} {base g k c : Nat} {l : List Iv} {x : Iv} (p : Vl) (ob : Bool) (h : w.ownsRow base 90 7 (.slice (some ⟨g, 0, none⟩) k c) k (l.flatMap Iv.cs)) (hk : l.length = k) (hx : l[k - 1]? = some x) :
    ((((w.setCell ⟨g, (k - 1) * 7 + 3, none⟩ (.int .i64 p.k)).setCell ⟨g, (k - 1) * 7 + 4, none⟩ (.int .i64 p.i)).setCell ⟨g, (k - 1) * 7 + 5, none⟩ (.string p.t)).setCell ⟨g, (k - 1) * 7 + 6, none⟩ (.bool ob)).ownsRow base 90 7 (.slice (some ⟨g, 0, none⟩) k c) k ((l.dropLast ++ [(⟨x.f, p, ob⟩ : Iv)]).flatMap Iv.cs) := by
  rw [← set_flat2 k hk hx]
  exact ((((h.stored _ _).1.stored _ _).1.stored _ _).1.stored _ _).1

set_option maxHeartbeats 4000000 in
theorem join_any (A : Option Addr) (n c base : Nat) (L : List Iv) (B : Option Addr) (m cb : Nat) (P : List Vl) (i : Nat) (w : World) (hown : w.ownsRow base 90 7 (.slice A n c) n (L.flatMap Iv.cs)) (hL : L.length = n)
    (hP : VlS w B m P) (hi : i < m) (hn : n ≤ 100000) (hm : m ≤ 1000000) (hbase : base ≤ w.heap.size) :
    Calls Tryz.prog 146 #[.slice A n c, .slice B m cb, .int .i64 (i : Int)] w fun e w' => JoinPost w base (joinL L (segI P i)) e w' := by
  obtain ⟨i0, hi0, hz0, hz1, hz2⟩ := info_parts info_iv
  obtain ⟨b, o, x, rfl, hx, hxc⟩ := hP.at hi
  have hPl := hP.len
  have HO := Lib.hid hown
  have HLn := Lib.hid hL
  -- the interval
  obtain ⟨q, ob, hq, Hx⟩ : ∃ (q : Vl) (ob : Bool), (ob = true ∧ i + 1 = m ∧ q = zeroV ∨ ob = false ∧ i + 1 < m ∧ P[i + 1]? = some q) ∧ Hid (segI P i = ⟨x, q, ob⟩) := by
    have h1 : P.getD i zeroV = x := by rw [List.getD_eq_getElem?_getD, hx]; rfl
    rcases Nat.lt_or_ge (i + 1) m with h | h
    · have h2 : P[i + 1]? = some (P[i + 1]'(by omega)) := List.getElem?_eq_getElem _
      refine ⟨_, false, .inr ⟨rfl, h, h2⟩, ?_⟩
      show _ = _
      unfold segI
      rw [h1, h2]
    · refine ⟨zeroV, true, .inl ⟨rfl, by omega, rfl⟩, ?_⟩
      show _ = _
      unfold segI
      rw [h1, List.getElem?_eq_none (by omega)]
  obtain ⟨xk, xi, xt⟩ := x
  obtain ⟨c0, c1, c2⟩ := VlAt.of hxc
  dsimp only at c0 c1 c2
  have HPP := Lib.hid hP
  clear hown hL hxc hx hPl hP
  rw [Hx.out]
  rcases hq with ⟨rfl, him, rfl⟩ | ⟨rfl, him, hq⟩
  · have g1 : ((i : Int) == (m : Int) - 1) = true := by simp; omega
    have HIM := Lib.hid him
    clear him
    go_enter Tryz.func146, Tryz.ntmps146
    go_wp2
    have hBel0 : Below w.heap.size w (w.alloc (.cells #[.int .i64 xk, .int .i64 xi, .string xt, .int .i64 0, .int .i64 0, .string ⟨#[]⟩, .bool true] 90)) := (Below.refl _ _).alloc (Nat.le_refl _) _
    have hX := Blk.new w 90 #[.int .i64 xk, .int .i64 xi, .string xt, .int .i64 0, .int .i64 0, .string ⟨#[]⟩, .bool true]
    have HO0 := Lib.hid (HO.out.alloc (.cells #[.int .i64 xk, .int .i64 xi, .string xt, .int .i64 0, .int .i64 0, .string ⟨#[]⟩, .bool true] 90))
    generalize w.alloc (.cells #[.int .i64 xk, .int .i64 xi, .string xt, .int .i64 0, .int .i64 0, .string ⟨#[]⟩, .bool true] 90) = W at *
    generalize hz : w.heap.size = z at *
    have Hz := Lib.hid hz
    clear hz
    have hWz : base ≤ W.heap.size := Nat.le_trans hbase (by have := hBel0.size; have := Hz.out; omega)
    have hXc := hX.cell
    rcases Nat.eq_zero_or_pos n with hn0 | hn0
    · have g2 : decide (0 < n) = false := by simp; omega
      have HJ : Hid (joinL L ⟨⟨xk, xi, xt⟩, zeroV, true⟩ = L ++ [⟨⟨xk, xi, xt⟩, zeroV, true⟩]) := by
        show _ = _
        have : L = [] := List.eq_nil_of_length_eq_zero (by have := HLn.out; omega)
        rw [this]; rfl
      have HN0 := Lib.hid hn0
      clear hn0
      have hca := @cell_after W.drew
      refine wp_region_seg [([0, 1, 2, 3, 4, 5, 6, 7, 8, 9, 10, 11, 12, 13, 14, 15, 16, 17, 18, 19], 20)] [21, 22] (by kernel_rfl) (by kernel_rfl) (fun _ _ d _ _ h => by cases d <;> exact h) ?_
      simp only [pickSegs, pickOps, opAt, List.map_cons, List.map_nil, List.getElem?_toArray, List.getElem?_cons_zero, List.getElem?_cons_succ, Option.getD_some]
      unfold wpBlocks
      repeat (go_big_quiet_step (fail))
      refine wpQuiet_nil ?_
      clear hca
      go_wp2
      refine ⟨Below.refl _ _, ?_⟩
      unfold wpBlocks
      repeat (go_big_quiet_step (fail))
      refine wpQuiet_nil ?_
      have HO1 := Lib.hid HO0.out.drew
      generalize hWd : W.drew = W1 at *
      have hXc1 : ∀ j, W1.cell? ⟨z, j, none⟩ = #[.int .i64 xk, .int .i64 xi, .string xt, .int .i64 0, .int .i64 0, .string ⟨#[]⟩, .bool true][j]? := by rw [← hWd]; exact hXc
      have hBel1 : Below base w W1 := by rw [← hWd]; exact (hBel0.mono (by have := Hz.out; omega)).drew
      have hW1 : base ≤ W1.heap.size := by rw [← hWd]; exact hWz
      clear hWd hXc
      go_wp2_with (at_builtin; refine wpList_append_one (by rfl) (.tmp 68) (.tmp 70) _ (by rfl) base 90 i0 _ 7 72 Tryz.underlying72 hi0 hz0 hz1 hz2 (by rfl) (by omega) (.slice A n c) n _ (by rfl) _ _ HO1.out W1.heap.size (by rfl) (by rfl) (by rfl) (one_iv ⟨⟨xk, xi, xt⟩, zeroV, true⟩) (by simp only [maxLen]; omega) (by omega) (hW1) ?_; intro g6 cap6 w6 hown6 hg6 hB6 hat6 hlt6)
      go_ret
      have hj := HJ.out
      rw [hj]
      have hlen2 : (L ++ [(⟨⟨xk, xi, xt⟩, zeroV, true⟩ : Iv)]).length = n + 1 := by simp [HLn.out]
      refine ⟨_, cap6, ret_slice hlen2.symm, ?_, ?_⟩
      · rw [hlen2, List.flatMap_append]
        simpa [Iv.cs, zeroV] using hown6
      · exact hBel1.trans hB6
    · obtain ⟨g, cap, hv, hgb, hgl⟩ := HO0.out.form hn0
      obtain ⟨rfl, rfl⟩ : A = some ⟨g, 0, none⟩ ∧ c = cap := by injection hv with h1 h2 h3; exact ⟨h1, h3⟩
      obtain ⟨b6, o6, y, hA6, hy6, hc6⟩ := (Sl.of_own Iv.cs_len HLn.out HO0.out).at (show n - 1 < n by omega)
      obtain ⟨rfl, rfl⟩ : g = b6 ∧ 0 = o6 := by injection hA6 with h; injection h with h1 h2; exact ⟨h1, h2⟩
      have HY := Lib.hid hy6
      obtain ⟨⟨yk, yi, yt⟩, ⟨uk, ui, ut⟩, yo⟩ := y
      obtain ⟨y0, y1, y2, y3, y4, y5, y6⟩ := IvAt.of hc6
      dsimp only at y0 y1 y2 y3 y4 y5 y6
      simp only [Nat.zero_add] at y0 y1 y2 y3 y4 y5 y6
      have g2 : decide (0 < n) = true := by simp [hn0]
      have hlastL : Hid (L.getLast? = some ⟨⟨yk, yi, yt⟩, ⟨uk, ui, ut⟩, yo⟩) := by
        show _ = _
        rw [List.getLast?_eq_getElem?, HLn.out]; exact hy6
      have hn1 : (1 : Int) ≤ (n : Int) := by omega
      clear hv hA6 hc6 hy6
      cases yo
      · obtain ⟨v, Hv⟩ : ∃ v, Hid (cmpV ⟨uk, ui, ut⟩ ⟨xk, xi, xt⟩ = v) := ⟨_, rfl⟩
        have hca := @cell_after W.drew
        refine wp_region_seg [([0, 1, 2, 3, 4, 5, 6, 7, 8, 9, 10, 11, 12, 13, 14, 15, 16, 17, 18, 19], 20)] [21, 22] (by kernel_rfl) (by kernel_rfl) (fun _ _ d _ _ h => by cases d <;> exact h) ?_
        simp only [pickSegs, pickOps, opAt, List.map_cons, List.map_nil, List.getElem?_toArray, List.getElem?_cons_zero, List.getElem?_cons_succ, Option.getD_some]
        unfold wpBlocks
        repeat (go_big_quiet_step (fail))
        refine wpQuiet_nil ?_
        clear hca
        go_wp2_with (first | (go_at_call 93; refine (rcompare_any ⟨_, _, _⟩ ⟨_, _, _⟩ _).mono ?_; rintro e W1 ⟨rfl, hb1⟩; rw [Hv.out]))
        refine ⟨hb1, ?_⟩
        unfold wpBlocks
        repeat (go_big_quiet_step (fail))
        refine wpQuiet_nil ?_
        have hK1 : Keeps W W1 := (Keeps.refl _).drew.trans (keeps_of hb1)
        have hXB1 := hX.drew.below hb1
        have hXc1 := hXB1.cell
        have HO1 := Lib.hid (own_at HO0.out.drew (fun g _ hl _ => hb1.block g hl))
        have hBel1 : Below base w W1 := (hBel0.mono (by have := Hz.out; omega)).drew.trans (hb1.mono hWz)
        have hW1 : base ≤ W1.heap.size := Nat.le_trans hWz hb1.size
        replace y3 := keep_cell hK1 y3
        replace y4 := keep_cell hK1 y4
        replace y5 := keep_cell hK1 y5
        replace y6 := keep_cell hK1 y6
        have hgz : ¬ z = g := fun e => by
          have h1 := own_ne HO.out
          rw [Hz.out, e] at h1
          exact h1 rfl
        clear y0 y1 y2 hXc hb1 hK1
        by_cases hv : v = 0
        · have gv : (v == 0) = true := by simp [hv]
          have HJ : Hid (joinL L ⟨⟨xk, xi, xt⟩, zeroV, true⟩ = L.dropLast ++ [⟨⟨yk, yi, yt⟩, zeroV, true⟩]) := by
            show _ = _
            unfold joinL
            rw [hlastL.out]
            simp only [Hv.out, hv, Bool.not_false, decide_true, Bool.and_true, if_true]
          have HV := Lib.hid hv
          clear hv
          have hfz := fun q => HO1.out.frozenAt q
          have HS1 := Lib.hid (own_setLast2 zeroV true HO1.out HLn.out HY.out)
          go_wp2
          have hca := @cell_afterS (fun k => k = g) W1.drew
          refine wp_region_segS (fun k => k = g) [([0, 1, 2, 3, 4, 5, 6, 7, 8, 9, 10, 11], 12), ([13, 14], 15)] [] (by kernel_rfl) (by kernel_rfl) (fun _ _ d _ _ h => by cases d <;> exact h) ?_
          simp only [pickSegs, pickOps, opAt, List.map_cons, List.map_nil, List.getElem?_toArray, List.getElem?_cons_zero, List.getElem?_cons_succ, Option.getD_some]
          unfold wpBlocksS
          repeat (go_big_quiet_step (fail))
          refine wpQuiet_nil ?_
          clear hca
          go_wp2
          refine ⟨((But.set (S := fun k => k = g) _ (p := ⟨g, (n - 1) * 7 + 3, none⟩) rfl _).trans (But.set (S := fun k => k = g) _ (p := ⟨g, (n - 1) * 7 + 3 + 1, none⟩) rfl _)).trans (But.set (S := fun k => k = g) _ (p := ⟨g, (n - 1) * 7 + 3 + 2, none⟩) rfl _), ?_⟩
          unfold wpBlocksS
          repeat (go_big_quiet_step (fail))
          refine wpQuiet_nil ?_
          go_wp2
          refine ⟨But.set (S := fun k => k = g) _ (p := ⟨g, (n - 1) * 7 + 6, none⟩) rfl _, ?_⟩
          unfold wpBlocksS
          refine wpQuiet_nil ?_
          go_wp2
          go_ret
          have hj := HJ.out
          rw [hj]
          have hlen2 : (L.dropLast ++ [(⟨⟨yk, yi, yt⟩, zeroV, true⟩ : Iv)]).length = n := by simp [HLn.out]; omega
          refine ⟨_, c, ret_slice hlen2.symm, ?_, ?_⟩
          · rw [hlen2]
            exact HS1.out
          · exact (((hBel1.drew.setCell (p := ⟨g, (n - 1) * 7 + 3, none⟩) (by simp; omega) _).setCell (p := ⟨g, (n - 1) * 7 + 3 + 1, none⟩) (by simp; omega) _).setCell (p := ⟨g, (n - 1) * 7 + 3 + 2, none⟩) (by simp; omega) _).setCell (p := ⟨g, (n - 1) * 7 + 6, none⟩) (by simp; omega) _
        · have gv : (v == 0) = false := by simp [hv]
          have HJ : Hid (joinL L ⟨⟨xk, xi, xt⟩, zeroV, true⟩ = L ++ [⟨⟨xk, xi, xt⟩, zeroV, true⟩]) := by
            show _ = _
            unfold joinL
            rw [hlastL.out]
            simp [Hv.out, hv]
          go_wp2_with (at_builtin; refine wpList_append_one (by rfl) (.tmp 68) (.tmp 70) _ (by rfl) base 90 i0 _ 7 72 Tryz.underlying72 hi0 hz0 hz1 hz2 (by rfl) (by omega) (.slice (some ⟨g, 0, none⟩) n c) n _ (by rfl) _ _ HO1.out W1.heap.size (by rfl) (by rfl) (by rfl) (one_iv ⟨⟨xk, xi, xt⟩, zeroV, true⟩) (by simp only [maxLen]; omega) (by omega) hW1 ?_; intro g6 cap6 w6 hown6 hg6 hB6 hat6 hlt6)
          go_ret
          have hj := HJ.out
          rw [hj]
          have hlen2 : (L ++ [(⟨⟨xk, xi, xt⟩, zeroV, true⟩ : Iv)]).length = n + 1 := by simp [HLn.out]
          refine ⟨_, cap6, ret_slice hlen2.symm, ?_, ?_⟩
          · rw [hlen2, List.flatMap_append]
            simpa [Iv.cs, zeroV] using hown6
          · exact hBel1.trans hB6
      · have HJ : Hid (joinL L ⟨⟨xk, xi, xt⟩, zeroV, true⟩ = L ++ [⟨⟨xk, xi, xt⟩, zeroV, true⟩]) := by
          show _ = _
          unfold joinL
          rw [hlastL.out]
          simp
        have hca := @cell_after W.drew
        refine wp_region_seg [([0, 1, 2, 3, 4, 5, 6, 7, 8, 9, 10, 11, 12, 13, 14, 15, 16, 17, 18, 19], 20)] [21, 22] (by kernel_rfl) (by kernel_rfl) (fun _ _ d _ _ h => by cases d <;> exact h) ?_
        simp only [pickSegs, pickOps, opAt, List.map_cons, List.map_nil, List.getElem?_toArray, List.getElem?_cons_zero, List.getElem?_cons_succ, Option.getD_some]
        unfold wpBlocks
        repeat (go_big_quiet_step (fail))
        refine wpQuiet_nil ?_
        clear hca
        go_wp2
        refine ⟨Below.refl _ _, ?_⟩
        unfold wpBlocks
        repeat (go_big_quiet_step (fail))
        refine wpQuiet_nil ?_
        have HO1 := Lib.hid HO0.out.drew
        generalize hWd : W.drew = W1 at *
        have hXc1 : ∀ j, W1.cell? ⟨z, j, none⟩ = #[.int .i64 xk, .int .i64 xi, .string xt, .int .i64 0, .int .i64 0, .string ⟨#[]⟩, .bool true][j]? := by rw [← hWd]; exact hXc
        have hBel1 : Below base w W1 := by rw [← hWd]; exact (hBel0.mono (by have := Hz.out; omega)).drew
        have hW1 : base ≤ W1.heap.size := by rw [← hWd]; exact hWz
        clear hWd hXc
        go_wp2_with (at_builtin; refine wpList_append_one (by rfl) (.tmp 68) (.tmp 70) _ (by rfl) base 90 i0 _ 7 72 Tryz.underlying72 hi0 hz0 hz1 hz2 (by rfl) (by omega) (.slice (some ⟨g, 0, none⟩) n c) n _ (by rfl) _ _ HO1.out W1.heap.size (by rfl) (by rfl) (by rfl) (one_iv ⟨⟨xk, xi, xt⟩, zeroV, true⟩) (by simp only [maxLen]; omega) (by omega) hW1 ?_; intro g6 cap6 w6 hown6 hg6 hB6 hat6 hlt6)
        go_ret
        have hj := HJ.out
        rw [hj]
        have hlen2 : (L ++ [(⟨⟨xk, xi, xt⟩, zeroV, true⟩ : Iv)]).length = n + 1 := by simp [HLn.out]
        refine ⟨_, cap6, ret_slice hlen2.symm, ?_, ?_⟩
        · rw [hlen2, List.flatMap_append]
          simpa [Iv.cs, zeroV] using hown6
        · exact hBel1.trans hB6
  · have g1 : ((i : Int) == (m : Int) - 1) = false := by simp; omega
    obtain ⟨b', o', y, hB', hy, hyc⟩ := HPP.out.at him
    injection hB' with hB'
    injection hB' with hb1 hb2
    subst hb1 hb2
    rw [hq] at hy
    injection hy with hy
    subst hy
    obtain ⟨qk, qi, qt⟩ := q
    obtain ⟨d0, d1, d2⟩ := VlAt.of hyc
    dsimp only at d0 d1 d2
    clear hq hyc
    have himi : (i : Int) + 1 < (m : Int) := by omega
    have e0 := keep_cell (keeps_alloc w (.cells #[.int .i64 xk, .int .i64 xi, .string xt, .int .i64 0, .int .i64 0, .string ⟨#[]⟩, .bool false] 90)) d0
    have e1 := keep_cell (keeps_alloc w (.cells #[.int .i64 xk, .int .i64 xi, .string xt, .int .i64 0, .int .i64 0, .string ⟨#[]⟩, .bool false] 90)) d1
    have e2 := keep_cell (keeps_alloc w (.cells #[.int .i64 xk, .int .i64 xi, .string xt, .int .i64 0, .int .i64 0, .string ⟨#[]⟩, .bool false] 90)) d2
    clear d0 d1 d2
    go_enter Tryz.func146, Tryz.ntmps146
    go_wp2
    clear e0 e1 e2
    have hBel0 : Below w.heap.size w (w.alloc (.cells #[.int .i64 xk, .int .i64 xi, .string xt, .int .i64 qk, .int .i64 qi, .string qt, .bool false] 90)) := (Below.refl _ _).alloc (Nat.le_refl _) _
    have hX := Blk.new w 90 #[.int .i64 xk, .int .i64 xi, .string xt, .int .i64 qk, .int .i64 qi, .string qt, .bool false]
    have HO0 := Lib.hid (HO.out.alloc (.cells #[.int .i64 xk, .int .i64 xi, .string xt, .int .i64 qk, .int .i64 qi, .string qt, .bool false] 90))
    generalize w.alloc (.cells #[.int .i64 xk, .int .i64 xi, .string xt, .int .i64 qk, .int .i64 qi, .string qt, .bool false] 90) = W at *
    generalize hz : w.heap.size = z at *
    have Hz := Lib.hid hz
    clear hz
    have hWz : base ≤ W.heap.size := Nat.le_trans hbase (by have := hBel0.size; have := Hz.out; omega)
    have hXc := hX.cell
    rcases Nat.eq_zero_or_pos n with hn0 | hn0
    · have g2 : decide (0 < n) = false := by simp; omega
      have HJ : Hid (joinL L ⟨⟨xk, xi, xt⟩, ⟨qk, qi, qt⟩, false⟩ = L ++ [⟨⟨xk, xi, xt⟩, ⟨qk, qi, qt⟩, false⟩]) := by
        show _ = _
        have : L = [] := List.eq_nil_of_length_eq_zero (by have := HLn.out; omega)
        rw [this]; rfl
      have HN0 := Lib.hid hn0
      clear hn0
      have hca := @cell_after W.drew
      refine wp_region_seg [([0, 1, 2, 3, 4, 5, 6, 7, 8, 9, 10, 11, 12, 13, 14, 15, 16, 17, 18, 19], 20)] [21, 22] (by kernel_rfl) (by kernel_rfl) (fun _ _ d _ _ h => by cases d <;> exact h) ?_
      simp only [pickSegs, pickOps, opAt, List.map_cons, List.map_nil, List.getElem?_toArray, List.getElem?_cons_zero, List.getElem?_cons_succ, Option.getD_some]
      unfold wpBlocks
      repeat (go_big_quiet_step (fail))
      refine wpQuiet_nil ?_
      clear hca
      go_wp2
      refine ⟨Below.refl _ _, ?_⟩
      unfold wpBlocks
      repeat (go_big_quiet_step (fail))
      refine wpQuiet_nil ?_
      have HO1 := Lib.hid HO0.out.drew
      generalize hWd : W.drew = W1 at *
      have hXc1 : ∀ j, W1.cell? ⟨z, j, none⟩ = #[.int .i64 xk, .int .i64 xi, .string xt, .int .i64 qk, .int .i64 qi, .string qt, .bool false][j]? := by rw [← hWd]; exact hXc
      have hBel1 : Below base w W1 := by rw [← hWd]; exact (hBel0.mono (by have := Hz.out; omega)).drew
      have hW1 : base ≤ W1.heap.size := by rw [← hWd]; exact hWz
      clear hWd hXc
      go_wp2_with (at_builtin; refine wpList_append_one (by rfl) (.tmp 68) (.tmp 70) _ (by rfl) base 90 i0 _ 7 72 Tryz.underlying72 hi0 hz0 hz1 hz2 (by rfl) (by omega) (.slice A n c) n _ (by rfl) _ _ HO1.out W1.heap.size (by rfl) (by rfl) (by rfl) (one_iv ⟨⟨xk, xi, xt⟩, ⟨qk, qi, qt⟩, false⟩) (by simp only [maxLen]; omega) (by omega) (hW1) ?_; intro g6 cap6 w6 hown6 hg6 hB6 hat6 hlt6)
      go_ret
      have hj := HJ.out
      rw [hj]
      have hlen2 : (L ++ [(⟨⟨xk, xi, xt⟩, ⟨qk, qi, qt⟩, false⟩ : Iv)]).length = n + 1 := by simp [HLn.out]
      refine ⟨_, cap6, ret_slice hlen2.symm, ?_, ?_⟩
      · rw [hlen2, List.flatMap_append]
        simpa [Iv.cs, zeroV] using hown6
      · exact hBel1.trans hB6
    · obtain ⟨g, cap, hv, hgb, hgl⟩ := HO0.out.form hn0
      obtain ⟨rfl, rfl⟩ : A = some ⟨g, 0, none⟩ ∧ c = cap := by injection hv with h1 h2 h3; exact ⟨h1, h3⟩
      obtain ⟨b6, o6, y, hA6, hy6, hc6⟩ := (Sl.of_own Iv.cs_len HLn.out HO0.out).at (show n - 1 < n by omega)
      obtain ⟨rfl, rfl⟩ : g = b6 ∧ 0 = o6 := by injection hA6 with h; injection h with h1 h2; exact ⟨h1, h2⟩
      have HY := Lib.hid hy6
      obtain ⟨⟨yk, yi, yt⟩, ⟨uk, ui, ut⟩, yo⟩ := y
      obtain ⟨y0, y1, y2, y3, y4, y5, y6⟩ := IvAt.of hc6
      dsimp only at y0 y1 y2 y3 y4 y5 y6
      simp only [Nat.zero_add] at y0 y1 y2 y3 y4 y5 y6
      have g2 : decide (0 < n) = true := by simp [hn0]
      have hlastL : Hid (L.getLast? = some ⟨⟨yk, yi, yt⟩, ⟨uk, ui, ut⟩, yo⟩) := by
        show _ = _
        rw [List.getLast?_eq_getElem?, HLn.out]; exact hy6
      have hn1 : (1 : Int) ≤ (n : Int) := by omega
      clear hv hA6 hc6 hy6
      cases yo
      · obtain ⟨v, Hv⟩ : ∃ v, Hid (cmpV ⟨uk, ui, ut⟩ ⟨xk, xi, xt⟩ = v) := ⟨_, rfl⟩
        have hca := @cell_after W.drew
        refine wp_region_seg [([0, 1, 2, 3, 4, 5, 6, 7, 8, 9, 10, 11, 12, 13, 14, 15, 16, 17, 18, 19], 20)] [21, 22] (by kernel_rfl) (by kernel_rfl) (fun _ _ d _ _ h => by cases d <;> exact h) ?_
        simp only [pickSegs, pickOps, opAt, List.map_cons, List.map_nil, List.getElem?_toArray, List.getElem?_cons_zero, List.getElem?_cons_succ, Option.getD_some]
        unfold wpBlocks
        repeat (go_big_quiet_step (fail))
        refine wpQuiet_nil ?_
        clear hca
        go_wp2_with (first | (go_at_call 93; refine (rcompare_any ⟨_, _, _⟩ ⟨_, _, _⟩ _).mono ?_; rintro e W1 ⟨rfl, hb1⟩; rw [Hv.out]))
        refine ⟨hb1, ?_⟩
        unfold wpBlocks
        repeat (go_big_quiet_step (fail))
        refine wpQuiet_nil ?_
        have hK1 : Keeps W W1 := (Keeps.refl _).drew.trans (keeps_of hb1)
        have hXB1 := hX.drew.below hb1
        have hXc1 := hXB1.cell
        have HO1 := Lib.hid (own_at HO0.out.drew (fun g _ hl _ => hb1.block g hl))
        have hBel1 : Below base w W1 := (hBel0.mono (by have := Hz.out; omega)).drew.trans (hb1.mono hWz)
        have hW1 : base ≤ W1.heap.size := Nat.le_trans hWz hb1.size
        replace y3 := keep_cell hK1 y3
        replace y4 := keep_cell hK1 y4
        replace y5 := keep_cell hK1 y5
        replace y6 := keep_cell hK1 y6
        have hgz : ¬ z = g := fun e => by
          have h1 := own_ne HO.out
          rw [Hz.out, e] at h1
          exact h1 rfl
        clear y0 y1 y2 hXc hb1 hK1
        by_cases hv : v = 0
        · have gv : (v == 0) = true := by simp [hv]
          have HJ : Hid (joinL L ⟨⟨xk, xi, xt⟩, ⟨qk, qi, qt⟩, false⟩ = L.dropLast ++ [⟨⟨yk, yi, yt⟩, ⟨qk, qi, qt⟩, false⟩]) := by
            show _ = _
            unfold joinL
            rw [hlastL.out]
            simp only [Hv.out, hv, Bool.not_false, decide_true, Bool.and_true, if_true]
          have HV := Lib.hid hv
          clear hv
          have hfz := fun q => HO1.out.frozenAt q
          have HS1 := Lib.hid (own_setLast2 ⟨qk, qi, qt⟩ false HO1.out HLn.out HY.out)
          go_wp2
          have hca := @cell_afterS (fun k => k = g) W1.drew
          refine wp_region_segS (fun k => k = g) [([0, 1, 2, 3, 4, 5, 6, 7, 8, 9, 10, 11], 12), ([13, 14], 15)] [] (by kernel_rfl) (by kernel_rfl) (fun _ _ d _ _ h => by cases d <;> exact h) ?_
          simp only [pickSegs, pickOps, opAt, List.map_cons, List.map_nil, List.getElem?_toArray, List.getElem?_cons_zero, List.getElem?_cons_succ, Option.getD_some]
          unfold wpBlocksS
          repeat (go_big_quiet_step (fail))
          refine wpQuiet_nil ?_
          clear hca
          go_wp2
          refine ⟨((But.set (S := fun k => k = g) _ (p := ⟨g, (n - 1) * 7 + 3, none⟩) rfl _).trans (But.set (S := fun k => k = g) _ (p := ⟨g, (n - 1) * 7 + 3 + 1, none⟩) rfl _)).trans (But.set (S := fun k => k = g) _ (p := ⟨g, (n - 1) * 7 + 3 + 2, none⟩) rfl _), ?_⟩
          unfold wpBlocksS
          repeat (go_big_quiet_step (fail))
          refine wpQuiet_nil ?_
          go_wp2
          refine ⟨But.set (S := fun k => k = g) _ (p := ⟨g, (n - 1) * 7 + 6, none⟩) rfl _, ?_⟩
          unfold wpBlocksS
          refine wpQuiet_nil ?_
          go_wp2
          go_ret
          have hj := HJ.out
          rw [hj]
          have hlen2 : (L.dropLast ++ [(⟨⟨yk, yi, yt⟩, ⟨qk, qi, qt⟩, false⟩ : Iv)]).length = n := by simp [HLn.out]; omega
          refine ⟨_, c, ret_slice hlen2.symm, ?_, ?_⟩
          · rw [hlen2]
            exact HS1.out
          · exact (((hBel1.drew.setCell (p := ⟨g, (n - 1) * 7 + 3, none⟩) (by simp; omega) _).setCell (p := ⟨g, (n - 1) * 7 + 3 + 1, none⟩) (by simp; omega) _).setCell (p := ⟨g, (n - 1) * 7 + 3 + 2, none⟩) (by simp; omega) _).setCell (p := ⟨g, (n - 1) * 7 + 6, none⟩) (by simp; omega) _
        · have gv : (v == 0) = false := by simp [hv]
          have HJ : Hid (joinL L ⟨⟨xk, xi, xt⟩, ⟨qk, qi, qt⟩, false⟩ = L ++ [⟨⟨xk, xi, xt⟩, ⟨qk, qi, qt⟩, false⟩]) := by
            show _ = _
            unfold joinL
            rw [hlastL.out]
            simp [Hv.out, hv]
          go_wp2_with (at_builtin; refine wpList_append_one (by rfl) (.tmp 68) (.tmp 70) _ (by rfl) base 90 i0 _ 7 72 Tryz.underlying72 hi0 hz0 hz1 hz2 (by rfl) (by omega) (.slice (some ⟨g, 0, none⟩) n c) n _ (by rfl) _ _ HO1.out W1.heap.size (by rfl) (by rfl) (by rfl) (one_iv ⟨⟨xk, xi, xt⟩, ⟨qk, qi, qt⟩, false⟩) (by simp only [maxLen]; omega) (by omega) hW1 ?_; intro g6 cap6 w6 hown6 hg6 hB6 hat6 hlt6)
          go_ret
          have hj := HJ.out
          rw [hj]
          have hlen2 : (L ++ [(⟨⟨xk, xi, xt⟩, ⟨qk, qi, qt⟩, false⟩ : Iv)]).length = n + 1 := by simp [HLn.out]
          refine ⟨_, cap6, ret_slice hlen2.symm, ?_, ?_⟩
          · rw [hlen2, List.flatMap_append]
            simpa [Iv.cs, zeroV] using hown6
          · exact hBel1.trans hB6
      · have HJ : Hid (joinL L ⟨⟨xk, xi, xt⟩, ⟨qk, qi, qt⟩, false⟩ = L ++ [⟨⟨xk, xi, xt⟩, ⟨qk, qi, qt⟩, false⟩]) := by
          show _ = _
          unfold joinL
          rw [hlastL.out]
          simp
        have hca := @cell_after W.drew
        refine wp_region_seg [([0, 1, 2, 3, 4, 5, 6, 7, 8, 9, 10, 11, 12, 13, 14, 15, 16, 17, 18, 19], 20)] [21, 22] (by kernel_rfl) (by kernel_rfl) (fun _ _ d _ _ h => by cases d <;> exact h) ?_
        simp only [pickSegs, pickOps, opAt, List.map_cons, List.map_nil, List.getElem?_toArray, List.getElem?_cons_zero, List.getElem?_cons_succ, Option.getD_some]
        unfold wpBlocks
        repeat (go_big_quiet_step (fail))
        refine wpQuiet_nil ?_
        clear hca
        go_wp2
        refine ⟨Below.refl _ _, ?_⟩
        unfold wpBlocks
        repeat (go_big_quiet_step (fail))
        refine wpQuiet_nil ?_
        have HO1 := Lib.hid HO0.out.drew
        generalize hWd : W.drew = W1 at *
        have hXc1 : ∀ j, W1.cell? ⟨z, j, none⟩ = #[.int .i64 xk, .int .i64 xi, .string xt, .int .i64 qk, .int .i64 qi, .string qt, .bool false][j]? := by rw [← hWd]; exact hXc
        have hBel1 : Below base w W1 := by rw [← hWd]; exact (hBel0.mono (by have := Hz.out; omega)).drew
        have hW1 : base ≤ W1.heap.size := by rw [← hWd]; exact hWz
        clear hWd hXc
        go_wp2_with (at_builtin; refine wpList_append_one (by rfl) (.tmp 68) (.tmp 70) _ (by rfl) base 90 i0 _ 7 72 Tryz.underlying72 hi0 hz0 hz1 hz2 (by rfl) (by omega) (.slice (some ⟨g, 0, none⟩) n c) n _ (by rfl) _ _ HO1.out W1.heap.size (by rfl) (by rfl) (by rfl) (one_iv ⟨⟨xk, xi, xt⟩, ⟨qk, qi, qt⟩, false⟩) (by simp only [maxLen]; omega) (by omega) hW1 ?_; intro g6 cap6 w6 hown6 hg6 hB6 hat6 hlt6)
        go_ret
        have hj := HJ.out
        rw [hj]
        have hlen2 : (L ++ [(⟨⟨xk, xi, xt⟩, ⟨qk, qi, qt⟩, false⟩ : Iv)]).length = n + 1 := by simp [HLn.out]
        refine ⟨_, cap6, ret_slice hlen2.symm, ?_, ?_⟩
        · rw [hlen2, List.flatMap_append]
          simpa [Iv.cs, zeroV] using hown6
        · exact hBel1.trans hB6
end Go.Proofs.YtmnmckblmoalkaaGreat
