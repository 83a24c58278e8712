/-
  Texts: IgBeg, IgRCopy, CopyV.
-/
import Derived.Test.YtponkkljlbifmaaGreatG35
import Derived.Laws.CopyOwn
set_option linter.unusedVariables false
/-
  law09's begun: the example of the chapter holds.
-/
namespace Go.Proofs.YtponkkljlbifmaaGreat
open Go.RowKit
set_option maxRecDepth 100000
open Pd

set_option maxRecDepth 100000 in
set_option maxHeartbeats 4000000 in
theorem begun9_any (w : World) : Calls Tryz.prog 13 #[] w fun e w' => e = .returned (.bool true) ∧ Below w.heap.size w w' := by
  have HB : Hid (Below w.heap.size w ((w.alloc (.cells #[.int .i64 4, .int .i64 1, .string ⟨#[]⟩] 67)).alloc (.cells #[.int .i64 4, .int .i64 7, .string ⟨#[]⟩] 67))) := Lib.hid (((Below.refl _ _).alloc (Nat.le_refl _) _).alloc (by simp) _)
  have H1 := Lib.hid ((Blk.new w 67 #[.int .i64 4, .int .i64 1, .string ⟨#[]⟩]).alloc (.cells #[.int .i64 4, .int .i64 7, .string ⟨#[]⟩] 67))
  have H2 := Lib.hid (Blk.new (w.alloc (.cells #[.int .i64 4, .int .i64 1, .string ⟨#[]⟩] 67)) 67 #[.int .i64 4, .int .i64 7, .string ⟨#[]⟩])
  rw [World.size_alloc] at H2
  go_enter Tryz.func13, Tryz.ntmps13
  go_upto_region 3 with fail
  generalize hW : (w.alloc (.cells #[.int .i64 4, .int .i64 1, .string ⟨#[]⟩] 67)).alloc (.cells #[.int .i64 4, .int .i64 7, .string ⟨#[]⟩] 67) = w2 at *
  clear hW
  obtain ⟨a, ha⟩ : ∃ z, w2.heap.size = z := ⟨_, rfl⟩
  have hS := sch9 ha
  go_upto_region 4 with fail
  obtain ⟨w3, hw3⟩ : ∃ z, wS9 w2 a = z := ⟨_, rfl⟩
  unfold wS9 at hw3 hS
  rw [hw3] at hS ⊢
  clear hw3
  rw [ha] at hS
  obtain ⟨hb3, hs3, hz3⟩ := hS
  have HB3 := Lib.hid (HB.out.trans (hb3.mono (by rw [← ha]; exact HB.out.size)))
  have hb3' : Below w2.heap.size w2 w3 := by rw [ha]; exact hb3
  have H13 := Lib.hid (H1.out.below hb3')
  have H23 := Lib.hid (H2.out.below hb3')
  have HS3 := Lib.hid hs3
  have HZ3 := Lib.hid hz3
  clear hb3 hb3' hs3 hz3 HB H1 H2
  obtain ⟨sb, Hsb⟩ : ∃ z, Hid (a + 1 + 1 + 1 + 1 = z) := ⟨_, Lib.hid rfl⟩
  rw [Hsb.out] at HS3 HZ3 ⊢
  obtain ⟨sz, Hsz⟩ : ∃ z, Hid (sb + 1 = z) := ⟨_, Lib.hid rfl⟩
  rw [Hsz.out] at HZ3 ⊢
  clear ha
  obtain ⟨d, hd⟩ : ∃ z, w3.heap.size = z := ⟨_, rfl⟩
  have hT := sta9 hd
  have z1 := H13.out.cell
  have z3 := ((H13.out.alloc (.cells #[.int .i64 4, .int .i64 1, .string ⟨#[]⟩] 67)).alloc (.cells #[.slice (some ⟨d, 0, none⟩) 1 1] 75)).cell
  have z4 := ((H23.out.alloc (.cells #[.int .i64 4, .int .i64 1, .string ⟨#[]⟩] 67)).alloc (.cells #[.slice (some ⟨d, 0, none⟩) 1 1] 75)).cell
  go_upto_region 5 with fail
  clear z1 z3 z4
  obtain ⟨w4, hw4⟩ : ∃ z, wT9 w3 d = z := ⟨_, rfl⟩
  unfold wT9 at hw4 hT
  rw [hw4] at hT ⊢
  clear hw4
  rw [hd] at hT
  obtain ⟨hb4, ht4, hy4⟩ := hT
  have hb4' : Below w3.heap.size w3 w4 := by rw [hd]; exact hb4
  have HB4 := Lib.hid (Below.next HB3.out hb4')
  have H14 := Lib.hid (H13.out.below hb4')
  have H24 := Lib.hid (H23.out.below hb4')
  have HS4 := Lib.hid (HS3.out.keep (keeps_of hb4'))
  have HZ4 := Lib.hid (HZ3.out.below hb4')
  have HT4 := Lib.hid ht4
  have HY4 := Lib.hid hy4
  clear hb4 hb4' ht4 hy4 HB3 H13 H23 HS3 HZ3
  obtain ⟨tb, Htb⟩ : ∃ z, Hid (d + 1 + 1 + 1 + 1 = z) := ⟨_, Lib.hid rfl⟩
  rw [Htb.out] at HT4 HY4 ⊢
  obtain ⟨ty, Hty⟩ : ∃ z, Hid (tb + 1 = z) := ⟨_, Lib.hid rfl⟩
  rw [Hty.out] at HY4 ⊢
  clear hd
  obtain ⟨f, hf⟩ : ∃ z, w4.heap.size = z := ⟨_, rfl⟩
  have hC := chg9 hf
  have z1 := H14.out.cell
  have z2 := HZ4.out.cell
  have z3 := HY4.out.cell
  go_wp2_with fail
  clear z1 z2 z3
  obtain ⟨w5, hw5⟩ : ∃ z, wC9 w4 f = z := ⟨_, rfl⟩
  unfold wC9 at hw5 hC
  rw [hw5] at hC ⊢
  clear hw5
  rw [hf] at hC
  obtain ⟨hb5, hc5⟩ := hC
  have hb5' : Below w4.heap.size w4 w5 := by rw [hf]; exact hb5
  have HB5 := Lib.hid (Below.next HB4.out hb5')
  have H25 := Lib.hid (H24.out.below hb5')
  have HS5 := Lib.hid (HS4.out.keep (keeps_of hb5'))
  have HZ5 := Lib.hid (HZ4.out.below hb5')
  have HT5 := Lib.hid (HT4.out.keep (keeps_of hb5'))
  have HY5 := Lib.hid (HY4.out.below hb5')
  have HC5 := Lib.hid hc5
  clear hb5 hb5' hc5 HB4 H14 H24 HS4 HZ4 HT4 HY4 hf
  refine (recheck_any 0 _ 2 2 tbs9 _ 2 2 (ls9 d) _ 1 1 _ w5 HS5.out good9 HT5.out (by show cntS st9 ≤ _; decide) (by omega) HC5.out (by omega)).mono ?_
  rintro e w6 ⟨h6, hb6⟩
  rcases h6 with ⟨_, V, vn, vc, xs, rfl, hvn, hxs⟩ | ⟨h6, _⟩
  rotate_left
  · exact absurd (congrArg Prod.fst rec9) h6
  have HB6 := Lib.hid (Below.next HB5.out hb6)
  have H26 := Lib.hid (H25.out.below hb6)
  have HS6 := Lib.hid (HS5.out.keep (keeps_of hb6))
  have HZ6 := Lib.hid (HZ5.out.below hb6)
  have HT6 := Lib.hid (HT5.out.keep (keeps_of hb6))
  have HY6 := Lib.hid (HY5.out.below hb6)
  have HVN := Lib.hid hvn
  have HXS : Hid (xs.map (·.v) = [⟨1, 1, [sev9], 0⟩]) := Lib.hid (hxs.trans (congrArg Prod.snd rec9))
  clear hb6 hvn hxs HB5 H25 HS5 HZ5 HT5 HY5 HC5
  have z2 := HZ6.out.cell
  have z3 := HY6.out.cell
  go_wp2_with fail
  refine (viol_any 0 _ 2 2 tbs9 _ 2 2 (ls9 d) _ HS6.out good9 HT6.out (by show cntS st9 ≤ _; decide) (by omega)).mono ?_
  rintro e w7 ⟨h7, hb7⟩
  rcases h7 with ⟨_, V2, vn2, vc2, xs2, rfl, hvn2, hxs2⟩ | ⟨h7, _⟩
  rotate_left
  · exact absurd chk9 h7
  have hn2 : vn2 = 0 := by
    have h := congrArg List.length hxs2
    rw [List.length_map, hvn2.sl.len, show allV tbs9 (stR (ls9 d)) = [] from all9] at h
    exact h
  subst hn2
  have HB7 := Lib.hid (Below.next HB6.out hb7)
  have H27 := Lib.hid (H26.out.below hb7)
  have hone : vn = 1 := by
    have h := congrArg List.length HXS.out
    rw [List.length_map, HVN.out.sl.len] at h
    exact h
  subst hone
  obtain ⟨vb, vo, x, rfl, hx, hcx⟩ := HVN.out.sl.at (show 0 < 1 by omega)
  have hxv : x.v = ⟨1, 1, [sev9], 0⟩ := by
    have h := congrArg (fun l => l[0]?) HXS.out
    simp only [List.getElem?_map, hx] at h
    injection h
  obtain ⟨v, XA, xn, xc⟩ := x
  simp only at hxv
  subst hxv
  have hrow := (HVN.out.keys _ (List.mem_of_getElem? hx)).ok
  have hk := keeps_of hb7
  have c0 : w7.drew.cell? ⟨vb, vo, none⟩ = some (.int .i64 1) := keep_cell hk (hcx 0 _ rfl)
  have c1 : w7.drew.cell? ⟨vb, vo + 1, none⟩ = some (.int .i64 1) := keep_cell hk (hcx 1 _ rfl)
  have c2 : w7.drew.cell? ⟨vb, vo + 2, none⟩ = some (.slice XA xn xc) := keep_cell hk (hcx 2 _ rfl)
  have hxn : xn = 1 := hrow.rd.len.symm
  subst hxn
  obtain ⟨rb, ro, y, hXA, hy, hcy⟩ := hrow.rd.at (show 0 < 1 by omega)
  have hXA' : XA = some ⟨rb, ro, none⟩ := hXA
  subst hXA'
  obtain rfl : y = sev9 := by
    have h : ([sev9] : List Vl)[0]? = some y := hy
    simpa using h.symm
  have d0 : w7.drew.cell? ⟨rb, ro, none⟩ = some (.int .i64 4) := keep_cell hk (hcy 0 _ rfl)
  have d1 : w7.drew.cell? ⟨rb, ro + 1, none⟩ = some (.int .i64 7) := keep_cell hk (hcy 1 _ rfl)
  have d2 : w7.drew.cell? ⟨rb, ro + 2, none⟩ = some (.string ⟨#[]⟩) := keep_cell hk (hcy 2 _ rfl)
  clear z2 z3 hb7 hvn2 hxs2 hx hcx hrow hk hXA hy hcy HB6 H26 HS6 HZ6 HT6 HY6 HVN HXS
  have zs : ∀ i, w7.drew.cell? ⟨w.heap.size + 1, i, none⟩ = (#[.int .i64 4, .int .i64 7, .string ⟨#[]⟩] : Array Value)[i]? := H27.out.cell
  have heq : ∀ W, (binOp .eql 67 (.agg #[.int .i64 4, .int .i64 7, .string ⟨#[]⟩]) (.agg #[.int .i64 4, .int .i64 7, .string ⟨#[]⟩])).run Tryz.prog W = .ok (.bool true) W := fun W => by rw [run_eqV]; simp
  have HE : Hid (Below w.heap.size w w7.drew) := Lib.hid HB7.out.drew
  clear HB7 H27
  go_wp2_with fail
  generalize hWn : w7.drew = Wn at *
  have hca := @cell_after Wn
  refine wp_region_seg [] [0, 1, 2, 3, 4, 5, 6, 7, 8, 9, 10, 11, 12, 13, 14, 15, 16, 17, 18, 19, 20, 21, 22, 23, 24, 25, 26, 27, 28, 29, 30, 31, 32, 33, 34, 35, 36, 37, 38, 39, 40, 41, 42, 43, 44, 45, 46, 47, 48] (by kernel_rfl) (by kernel_rfl) (fun _ _ d _ _ h => by cases d <;> exact h) ?_
  rw [hWn]
  clear hWn
  simp only [pickSegs, pickOps, opAt, List.map_cons, List.map_nil, List.getElem?_toArray, List.getElem?_cons_zero, List.getElem?_cons_succ, Option.getD_some]
  unfold wpBlocks
  repeat (go_big_quiet_step (fail))
  refine wpQuiet_nil ?_
  clear hca c0 c1 c2 d0 d1 d2 zs heq
  go_wp2
  go_ret
  exact ⟨rfl, HE.out⟩
end Go.Proofs.YtponkkljlbifmaaGreat

/-
  The reference's Copy of a state.
-/
namespace Go.Proofs.YtponkkljlbifmaaGreat
open Go.RowKit
set_option maxRecDepth 100000
open Pd

/-- lists of the copy: each in memory of its own, read wherever the memory from H on stays but for block b -/
structure CyI (w : World) (wr : World) (B : Option Addr) (n cb : Nat) (ls : List TlP) : Prop where
  own : wr.ownsRow w.heap.size 79 1 (.slice B n cb) n (ls.map fun p => Value.slice p.1.1 p.1.2.1 p.1.2.2)
  len : ls.length = n
  row : ∀ p ∈ ls, wr.ownsRow w.heap.size 75 1 (.slice p.1.1 p.1.2.1 p.1.2.2) p.1.2.1 (p.2.flatMap rowc) ∧ p.2.length = p.1.2.1 ∧ ∀ q ∈ p.2, OwnRow wr w.heap.size q
theorem own_type {w w' : World} {base : Nat} {e : TypeId} {size n : Nat} {v : Value} {xs : List Value} {base' : Nat} {e' : TypeId} {size' n' : Nat} {v' : Value} {xs' : List Value} (h : w.ownsRow base e size v n xs) (ho : w.ownsRow base' e' size' v' n' xs') (hT : e ≠ e') (hg : w.grownBy w' v'.ownBlock) : w'.ownsRow base e size v n xs := by
  refine own_at h (fun g _ hlt hv => hg.block g hlt (fun e2 => ?_))
  rcases h.2 with ⟨hq, _⟩ | ⟨g1, cap1, cur1, hq, _, hh1, _⟩
  · rw [hq] at hv; simp [Value.ownBlock] at hv
  · rw [hq] at hv
    simp only [Value.ownBlock, Option.some.injEq] at hv
    rcases ho.2 with ⟨hv2, _⟩ | ⟨g2, cap2, cur2, hv2, _, hh2, _⟩
    · rw [hv2] at e2; simp [Value.ownBlock] at e2
    · rw [hv2] at e2
      simp only [Value.ownBlock, Option.some.injEq] at e2
      rw [← hv] at e2
      subst e2
      rw [hh1] at hh2
      injection hh2 with hh2
      injection hh2 with _ ht
      exact hT ht
section
variable {w wr w' : World} {B : Option Addr} {n cb : Nat} {ls : List TlP}
theorem CyI.nil (w wr : World) : CyI w wr none 0 0 [] := ⟨⟨by simp, .inl ⟨rfl, rfl⟩⟩, rfl, fun _ h => absurd h List.not_mem_nil⟩
theorem CyI.below (h : CyI w wr B n cb ls) (hb : Below wr.heap.size wr w') : CyI w w' B n cb ls :=
  ⟨own_at h.own (fun g _ hlt _ => hb.block g hlt), h.len, fun p hp => ⟨own_at (h.row p hp).1 (fun g _ hlt _ => hb.block g hlt), (h.row p hp).2.1, fun q hq => ((h.row p hp).2.2 q hq).below hb⟩⟩
theorem CyI.below2 (h : CyI w wr B n cb ls) (hb : Below wr.heap.size wr w') : CyI w w' B n cb ls := h.below hb
/-- what is written is neither a list nor a row of the copy -/
theorem CyI.far (h : CyI w wr B n cb ls) {k : Nat} (hk : k < w.heap.size) (hb : But (· = k) wr w') : CyI w w' B n cb ls :=
  ⟨own_at h.own (fun g hg hlt _ => hb.block g hlt (by omega)), h.len, fun p hp => ⟨own_at (h.row p hp).1 (fun g hg hlt _ => hb.block g hlt (by omega)), (h.row p hp).2.1, fun q hq => ⟨own_at ((h.row p hp).2.2 q hq).1 (fun g hg hlt _ => hb.block g hlt (by omega)), ((h.row p hp).2.2 q hq).2⟩⟩⟩
theorem CyI.add (h : CyI w wr B n cb ls) {p : TlP} (hp : wr.ownsRow w.heap.size 75 1 (.slice p.1.1 p.1.2.1 p.1.2.2) p.1.2.1 (p.2.flatMap rowc) ∧ p.2.length = p.1.2.1 ∧ ∀ q ∈ p.2, OwnRow wr w.heap.size q) {o : Obj} {g cap : Nat} (ho : w'.ownsRow w.heap.size 79 1 (.slice (some ⟨g, 0, none⟩) (n + 1) cap) (n + 1) ((ls.map fun p => Value.slice p.1.1 p.1.2.1 p.1.2.2) ++ [Value.slice p.1.1 p.1.2.1 p.1.2.2])) (hg : (wr.alloc o).grownBy w' (Value.slice B n cb).ownBlock) : CyI w w' (some ⟨g, 0, none⟩) (n + 1) cap (ls ++ [p]) := by
  have hg2 := grown_of_alloc hg
  refine ⟨by rw [List.map_append]; exact ho, by rw [List.length_append, h.len]; rfl, fun y hy => ?_⟩
  have hall : wr.ownsRow w.heap.size 75 1 (.slice y.1.1 y.1.2.1 y.1.2.2) y.1.2.1 (y.2.flatMap rowc) ∧ y.2.length = y.1.2.1 ∧ ∀ q ∈ y.2, OwnRow wr w.heap.size q := by
    rcases List.mem_append.1 hy with hy | hy
    · exact h.row y hy
    · rw [List.mem_singleton.1 hy]; exact hp
  exact ⟨own_type hall.1 h.own (by decide) hg2, hall.2.1, fun q hq => ⟨own_type (hall.2.2 q hq).1 h.own (by decide) hg2, (hall.2.2 q hq).2⟩⟩
/-- the copy's lists -/
theorem CyI.st (h : CyI w wr B n cb ls) (hn : 0 < n) : ∃ (b : Nat) (pad : List Value), B = some ⟨b, 0, none⟩ ∧ w.heap.size ≤ b ∧ StP (fun k => k = b ∨ k < w.heap.size) wr b n ls pad := by
  rcases h.own.2 with ⟨_, h0⟩ | ⟨g, cap, cur, hv, hg, hh, _, _, hcs, htk⟩
  · omega
  · injection hv with hB _ hc
    refine ⟨g, cur.toList.drop n, hB, hg, ?_, h.len, fun p hp w' hb => ?_⟩
    · have : cur = ((ls.map fun p => Value.slice p.1.1 p.1.2.1 p.1.2.2) ++ cur.toList.drop n).toArray := by
        have h1 := List.take_append_drop n cur.toList
        rw [Nat.mul_one] at htk
        rw [htk] at h1
        rw [h1]
      rw [← this]
      exact hh
    · have hr := h.row p hp
      have hne : ∀ base e size v m xs, wr.ownsRow base e size v m xs → e ≠ 79 → w.heap.size ≤ base → w'.ownsRow base e size v m xs := fun base e size v m xs ho hT hbase => by
        refine own_at ho (fun k hk hlt hv2 => hb.block k hlt (fun hs => ?_))
        rcases hs with hs | hs
        · subst hs
          rcases ho.2 with ⟨hq, _⟩ | ⟨g1, cap1, cur1, hq, _, hh1, _⟩
          · rw [hq] at hv2; simp [Value.ownBlock] at hv2
          · rw [hq] at hv2
            simp only [Value.ownBlock, Option.some.injEq] at hv2
            subst hv2
            rw [hh] at hh1
            injection hh1 with hh1
            injection hh1 with _ ht
            exact hT ht.symm
        · omega
      have hr1 := hne _ _ _ _ _ _ hr.1 (by decide) (Nat.le_refl _)
      obtain ⟨f1, f2, f3⟩ := own_forms hr1
      refine ⟨⟨Sl.of_own (cs := rowc) (fun _ => rfl) hr.2.1 hr1, fun q hq => OwnRow.ok (base := w.heap.size) ⟨hne _ _ _ _ _ _ (hr.2.2 q hq).1 (by decide) (Nat.le_refl _), (hr.2.2 q hq).2⟩⟩, f1, f2, f3, ?_⟩
      rcases hr1.2 with ⟨hv, _⟩ | ⟨g', cap', cur', hv, _, _, _, hm, _⟩
      · injection hv with _ _ h3; omega
      · injection hv with _ _ h3; simp only [maxLen] at hm; omega
end
/-- a list in the making: rows of its own -/
structure CrI (wt wr : World) (L : Option Addr) (ln lc : Nat) (qs : List RowP) : Prop where
  own : wr.ownsRow wt.heap.size 75 1 (.slice L ln lc) ln (qs.flatMap rowc)
  len : qs.length = ln
  rows : ∀ q ∈ qs, OwnRow wr wt.heap.size q
  be : Below wt.heap.size wt wr
section
variable {wt wr w' : World} {L : Option Addr} {ln lc : Nat} {qs : List RowP}
theorem CrI.nil (wt : World) : CrI wt wt none 0 0 [] := ⟨⟨by simp, .inl ⟨rfl, rfl⟩⟩, rfl, fun _ h => absurd h List.not_mem_nil, Below.refl _ _⟩
theorem CrI.below (h : CrI wt wr L ln lc qs) (hb : Below wr.heap.size wr w') : CrI wt w' L ln lc qs :=
  ⟨own_at h.own (fun g _ hlt _ => hb.block g hlt), h.len, fun q hq => (h.rows q hq).below hb, Below.next h.be hb⟩
theorem CrI.add (h : CrI wt wr L ln lc qs) {q : RowP} (hq : OwnRow wr wt.heap.size q) {o : Obj} {g cap : Nat} (ho : w'.ownsRow wt.heap.size 75 1 (.slice (some ⟨g, 0, none⟩) (ln + 1) cap) (ln + 1) (qs.flatMap rowc ++ rowc q)) (hg : (wr.alloc o).grownBy w' (Value.slice L ln lc).ownBlock) (hB : Below wt.heap.size wr w') : CrI wt w' (some ⟨g, 0, none⟩) (ln + 1) cap (qs ++ [q]) := by
  have hg2 := grown_of_alloc hg
  refine ⟨by rw [List.flatMap_append]; simpa using ho, by rw [List.length_append, h.len]; rfl, fun y hy => ?_, h.be.trans hB⟩
  rcases List.mem_append.1 hy with hy | hy
  · exact (h.rows y hy).grown h.own hg2
  · rw [List.mem_singleton.1 hy]
    exact hq.grown h.own hg2
end
theorem StP.less {S S' : Nat → Prop} {w : World} {b n : Nat} {ls : List TlP} {pad : List Value} (h : StP S w b n ls pad) (hS : ∀ k, S' k → S k) : StP S' w b n ls pad :=
  ⟨h.blk, h.len, fun p hp w' hb => h.ok p hp w' (hb.wide hS)⟩
def CopyO (st : List (List Rw)) (m : Nat) (w : World) (e : Ending) (w' : World) : Prop :=
  ∃ (b cb : Nat) (pad : List Value) (ls : List TlP), e = .returned (.agg #[.slice (some ⟨b, 0, none⟩) m cb]) ∧ w.heap.size ≤ b ∧ StP (fun k => k = b ∨ k < w.heap.size) w' b m ls pad ∧ stR ls = st ∧ Below w.heap.size w w'
theorem one_hd (p : TlP) : ∀ u ∈ (#[Value.slice p.1.1 p.1.2.1 p.1.2.2] : Array Value).toList, u.oneCell' = true := by simp [Value.oneCell']
theorem cntS_le2 {st : List (List Rw)} {i : Nat} {l : List Rw} (h : st[i]? = some l) : l.length ≤ cntS st := by
  have := cntS_set st i l [] h
  simp at this
  omega
set_option maxHeartbeats 4000000 in
theorem rcopy_any (B : Option Addr) (m cb : Nat) (ls0 : List TlP) (w : World) (hst : StS w B m ls0) (hm : m ≤ 1000) (hm0 : 0 < m) (hc : cntS (stR ls0) ≤ 100000) (h8 : ∀ l ∈ stR ls0, ∀ r ∈ l, r.length ≤ 1000) :
    Calls Tryz.prog 27 #[.agg #[.slice B m cb]] w fun e w' => CopyO (stR ls0) m w e w' := by
  obtain ⟨il, hil, hl0, hl1, hl2⟩ := info_parts (show (Tryz.prog.info? 79).map (fun i => (i.zero, i.size, i.bytes)) = some (some (.slice none 0 0), 1, 24) by kernel_rfl)
  obtain ⟨i0, hi0, hz0, hz1, hz2⟩ := info_parts info_row
  have HB : Hid (Below w.heap.size w (((w.alloc (.cells #[.slice B m cb] 25)).alloc (.cells #[.slice none 0 0] 25)).alloc (.cells #[.slice none 0 0] 25))) := Lib.hid ((((Below.refl _ _).alloc (Nat.le_refl _) _).alloc (by simp) _).alloc (by simp; omega) _)
  have HST := Lib.hid (hst.keep (keeps_of HB.out))
  have HST0 := Lib.hid hst
  have HY := Lib.hid (((Blk.new w 25 #[.slice B m cb]).alloc (.cells #[.slice none 0 0] 25)).alloc (.cells #[.slice none 0 0] 25))
  have HR := Lib.hid ((Blk.new (w.alloc (.cells #[.slice B m cb] 25)) 25 #[.slice none 0 0]).alloc (.cells #[.slice none 0 0] 25))
  have HO := Lib.hid (Blk.new ((w.alloc (.cells #[.slice B m cb] 25)).alloc (.cells #[.slice none 0 0] 25)) 25 #[.slice none 0 0])
  rw [World.size_alloc] at HR
  rw [World.size_alloc, World.size_alloc] at HO
  have HC := Lib.hid hc
  have H8 := Lib.hid h8
  have Hlm := Lib.hid hst.sl.len
  clear hst hc h8
  go_enter Tryz.func27, Tryz.ntmps27
  go_upto_region 2 with fail
  generalize hW : ((w.alloc (.cells #[.slice B m cb] 25)).alloc (.cells #[.slice none 0 0] 25)).alloc (.cells #[.slice none 0 0] 25) = w1 at *
  clear hW
  have HLt : Hid (w.heap.size + 1 + 1 < w1.heap.size) := Lib.hid HO.out.lt
  have zy := HY.out.cell
  go_wp2_with fail
  clear zy
  go_loopw [12] (fun i wr => ∃ (k : Nat) (D : Option Addr) (dc : Nat) (ls : List TlP), k ≤ m ∧ i = .int .i64 (k : Int) ∧ Hid (CyI w1 wr D k dc ls) ∧ Hid (But (· = w.heap.size + 1 + 1) w1 wr) ∧ Hid (Blk wr (w.heap.size + 1 + 1) 25 #[.slice D k dc]) ∧ Hid (stR ls = (stR ls0).take k)) (fun i _ => m - (intOf i).toNat)
  case atStart => exact ⟨0, none, 0, [], by omega, rfl, Lib.hid (CyI.nil w1 w1), Lib.hid (But.refl _ _), HO, Lib.hid rfl⟩
  case round =>
    clear HO
    obtain ⟨k, D, dc, ls, hk, rfl, HI, HBt, HO, HS⟩ := hrel
    have HBw : Hid (Below w.heap.size w wr) := Lib.hid (HBt.out.below HB.out HB.out.size (fun j hj => by omega))
    by_cases hlt : k < m
    · obtain ⟨bs, os, ⟨⟨L0, ln0, lc0⟩, ps0⟩, rfl, hl, hok, c0'⟩ := HST.out.at hlt
      -- the lists' own cell and the rows' lie below the boxes
      have HRS : Hid (RowsS w L0 ln0 ps0) := Lib.hid (by
        obtain ⟨b9, o9, p9, e9, hl9, hok9, _⟩ := HST0.out.at hlt
        rw [hl] at hl9
        injection hl9 with hl9
        subst hl9
        exact hok9.rd)
      have c0 : wr.cell? ⟨bs, os + k, none⟩ = some (.slice L0 ln0 lc0) := by
        obtain ⟨b9, o9, p9, e9, hl9, _, c9⟩ := HST0.out.at hlt
        injection e9 with e9
        injection e9 with e9 e10
        subst e9 e10
        rw [hl] at hl9
        injection hl9 with hl9
        subst hl9
        exact (keeps_of HBw.out _ (by rw [c9]; rfl)).trans c9
      have Hl0 := Lib.hid (stR_at hl)
      have hln0 : ln0 ≤ 100000 := by
        have h1 := HC.out
        have h2 := cntS_le2 (stR_at hl)
        have h3 := hok.len
        dsimp only at h3
        omega
      have H8l : Hid (∀ r ∈ ps0.map (·.2), r.length ≤ 1000) := Lib.hid (H8.out _ (List.mem_of_getElem? (stR_at hl)))
      clear hl hok c0'
      obtain ⟨wt, HWT⟩ : ∃ z, Hid (wr = z) := ⟨_, Lib.hid rfl⟩
      go_wp2_with fail
      clear c0
      rw [HWT.out] at HI HBt HO HBw
      go_loopw [6, 18] (fun v i wr => ∃ (j : Nat) (L : Option Addr) (lc : Nat) (qs : List RowP), j ≤ ln0 ∧ i = .int .i64 (j : Int) ∧ v = .slice L j lc ∧ Hid (CrI wt wr L j lc qs) ∧ Hid (qs.map (·.2) = (ps0.map (·.2)).take j)) (fun _ i _ => ln0 - (intOf i).toNat)
      case atStart => exact ⟨0, none, 0, [], by omega, rfl, rfl, by rw [HWT.out]; exact Lib.hid (CrI.nil wt), Lib.hid rfl⟩
      case round =>
        clear HWT
        obtain ⟨j, L, lc, qs, hj, rfl, rfl, HCr, Hq⟩ := hrel
        have HBj : Hid (Below w.heap.size w wr) := Lib.hid (HBw.out.trans (HCr.out.be.mono HBw.out.size))
        by_cases hjn : j < ln0
        · obtain ⟨b2, o2, ⟨⟨X, xn, xc⟩, x⟩, rfl, c1, hro, hp⟩ := (HRS.out.keep (keeps_of HBj.out)).get2 hjn
          dsimp only at c1
          have HRO := Lib.hid hro
          have hp1 : (ps0.map (·.2))[j]? = some x := by rw [List.getElem?_map, hp]; rfl
          have Hx : Hid (qs.map (·.2) ++ [x] = (ps0.map (·.2)).take (j + 1)) := Lib.hid (by rw [Hq.out, take_snoc' hp1])
          have hxn : xn ≤ 1000 := by have h1 := H8l.out x (List.mem_of_getElem? hp1); have h2 := hro.rd.len; dsimp only at h2; omega
          have Hxn : Hid (x.length = xn) := Lib.hid hro.rd.len
          clear hro hp hp1
          go_wp2_with fail
          refine (copy_any ((X, xn, xc), x) _ HRO.out (by show xn ≤ _; omega)).mono ?_
          rintro e w4 ⟨A', c', rfl, hown, hb4⟩
          have HN : Hid (OwnRow w4 wt.heap.size ((A', xn, c'), x)) := Lib.hid ⟨own_weaken hown HCr.out.be.size, Hxn.out⟩
          have HC4 := Lib.hid (HCr.out.below hb4)
          clear hown hb4 HCr c1
          dsimp only
          go_wp2_with (at_builtin; refine wpList_append_one2 (by rfl) (.tmp 22) (.tmp 25) _ (by rfl) wt.heap.size 75 i0 _ 1 24 Tryz.underlying79 hi0 hz0 hz1 hz2 (by rfl) (by omega) (.slice L j lc) j _ (by rfl) w4 #[.slice A' xn c'] HC4.out.own w4.heap.size (by rfl) (by rfl) (by rfl) (one_row ((A', xn, c'), x)) (by simp only [maxLen]; omega) (by omega) HC4.out.be.size ?_; intro g6 cap6 w7 hown6 hg6 hB6 hat6 hlt6)
          have HC7 := Lib.hid (HC4.out.add (q := ((A', xn, c'), x)) HN.out hown6 hg6 hB6)
          clear hown6 hg6 hB6 hat6 hlt6 HC4 HN
          go_roundw
          case rel => exact ⟨j + 1, _, cap6, _, by omega, by go_num, rfl, HC7, Lib.hid (by rw [List.map_append]; exact Hx.out)⟩
          case measure => simp [intOf]; omega
        · obtain rfl : j = ln0 := by omega
          have HI2 := Lib.hid (HI.out.below2 HCr.out.be)
          have HBt2 : Hid (But (· = w.heap.size + 1 + 1) w1 wr) := Lib.hid (HBt.out.trans (But.ofB HCr.out.be))
          have HO2 := Lib.hid (HO.out.below HCr.out.be)
          have hw1 : w1.heap.size ≤ wt.heap.size := HBt.out.size
          have hw2 : w1.heap.size ≤ wr.heap.size := HBt2.out.size
          have HRow : Hid (wr.ownsRow w1.heap.size 75 1 (.slice L j lc) j (qs.flatMap rowc) ∧ qs.length = j ∧ ∀ q ∈ qs, OwnRow wr w1.heap.size q) := Lib.hid ⟨own_weaken HCr.out.own hw1, HCr.out.len, fun q hq => ⟨own_weaken (HCr.out.rows q hq).1 hw1, (HCr.out.rows q hq).2⟩⟩
          have HS2 : Hid (stR (ls ++ [((L, j, lc), qs)]) = (stR ls0).take (k + 1)) := Lib.hid (by
            rw [take_snoc' Hl0.out, ← HS.out]
            unfold stR
            rw [List.map_append]
            congr 2
            show [qs.map (·.2)] = [ps0.map (·.2)]
            rw [Hq.out, List.take_of_length_le (by rw [List.length_map]; exact Nat.le_of_eq HRS.out.sl.len)])
          clear HCr Hq HBj HI HBt HO
          have zo := HO2.out.cell
          go_wp2_with (at_builtin; refine wpList_append_one2 (by rfl) (.tmp 29) (.tmp 31) _ (by rfl) w1.heap.size 79 il _ 1 24 Tryz.underlying23 hil hl0 hl1 hl2 (by rfl) (by omega) (.slice D k dc) k _ (by rfl) wr #[.slice L j lc] HI2.out.own wr.heap.size (by rfl) (by rfl) (by rfl) (one_hd ((L, j, lc), qs)) (by simp only [maxLen]; omega) (by omega) hw2 ?_; intro g6 cap6 w7 hown6 hg6 hB6 hat6 hlt6; have HI7 := Lib.hid (HI2.out.add (p := ((L, j, lc), qs)) HRow.out hown6 hg6); have HO7 : Hid (Blk w7 (w.heap.size + 1 + 1) 25 #[.slice D k dc]) := Lib.hid ((hB6.block _ HLt.out).trans HO2.out); have HBt7 : Hid (But (· = w.heap.size + 1 + 1) w1 w7) := Lib.hid ⟨hB6.os.trans HBt2.out.os, hB6.tape.trans HBt2.out.tape, hB6.output.trans HBt2.out.output, Nat.le_trans HBt2.out.size hB6.size, fun i hi hs => (hB6.block i hi).trans (HBt2.out.block i hi hs)⟩; have zt := HO7.out.cell; have zf := HO7.out.free; clear hown6 hg6 hB6 hat6 hlt6 zo)
          have hset : But (· = w.heap.size + 1 + 1) w7 (w7.setCell ⟨w.heap.size + 1 + 1, 0, none⟩ (.slice (some ⟨g6, 0, none⟩) (k + 1) cap6)) := But.set (S := (· = w.heap.size + 1 + 1)) w7 (p := ⟨w.heap.size + 1 + 1, 0, none⟩) rfl _
          have HI8 := Lib.hid (HI7.out.far HLt.out hset)
          have HBt8 := Lib.hid (HBt7.out.trans hset)
          have HO8 : Hid (Blk (w7.setCell ⟨w.heap.size + 1 + 1, 0, none⟩ (.slice (some ⟨g6, 0, none⟩) (k + 1) cap6)) (w.heap.size + 1 + 1) 25 #[.slice (some ⟨g6, 0, none⟩) (k + 1) cap6]) := Lib.hid (by have := HO7.out.set_ 0 (.slice (some ⟨g6, 0, none⟩) (k + 1) cap6); simpa using this)
          clear hset HI7 HO7 HBt7 HI2 HBt2 HO2 HRow
          go_roundw
          case rel => exact ⟨k + 1, _, cap6, _, by omega, by go_num, HI8, HBt8, HO8, HS2⟩
          case measure => simp [intOf]; omega
    · obtain rfl : k = m := by omega
      obtain ⟨b, pad, rfl, hbb, hst⟩ := HI.out.st hm0
      have hbt2 : But (· = w.heap.size + 1) wr (wr.setCell ⟨w.heap.size + 1, 0, none⟩ (.slice (some ⟨b, 0, none⟩) k dc)) := But.set (S := (· = w.heap.size + 1)) wr (p := ⟨w.heap.size + 1, 0, none⟩) rfl _
      have HE : Hid (CopyO (stR ls0) k w (.returned (.agg #[.slice (some ⟨b, 0, none⟩) k dc])) (wr.setCell ⟨w.heap.size + 1, 0, none⟩ (.slice (some ⟨b, 0, none⟩) k dc))) := Lib.hid (by
        have hL := HLt.out
        refine ⟨b, dc, pad, ls, rfl, by omega, ?_, ?_, HBw.out.setCell (p := ⟨w.heap.size + 1, 0, none⟩) (by show w.heap.size ≤ w.heap.size + 1; omega) _⟩
        · have h1 : StP (fun j => j = b ∨ j < w1.heap.size) (wr.setCell ⟨w.heap.size + 1, 0, none⟩ (.slice (some ⟨b, 0, none⟩) k dc)) b k ls pad :=
            ⟨hst.blk.but hbt2 (by omega), hst.len, fun p hp => (hst.ok p hp).step (hbt2.wide (fun j hj => .inr (by omega)))⟩
          exact h1.less (fun j hj => hj.imp id (fun h => by omega))
        · rw [HS.out, List.take_of_length_le (by unfold stR; rw [List.length_map, Hlm.out]; exact Nat.le_refl _)])
      have HRr : Hid (Blk wr (w.heap.size + 1) 25 #[.slice none 0 0]) := Lib.hid (HR.out.but HBt.out (by omega))
      have HRc : Hid (Blk (wr.setCell ⟨w.heap.size + 1, 0, none⟩ (.slice (some ⟨b, 0, none⟩) k dc)) (w.heap.size + 1) 25 #[.slice (some ⟨b, 0, none⟩) k dc]) := Lib.hid (by have := HRr.out.set_ 0 (.slice (some ⟨b, 0, none⟩) k dc); simpa using this)
      clear hbt2 hst hbb
      have zo := HO.out.cell
      have zr := HRr.out.cell
      have zf := HRr.out.free
      go_wp2
      have zc := HRc.out.cell
      exact bodyPost_ret (v := .agg #[.slice (some ⟨b, 0, none⟩) k dc]) (by simp [results, Tryz.results27, go_sem, zc]) rfl HE.out
end Go.Proofs.YtponkkljlbifmaaGreat

/-
  copy of a row's cells into a row of the call's own. No program here.
-/
namespace Go.Proofs.YtponkkljlbifmaaGreat
open Go.RowKit
set_option maxRecDepth 100000

theorem run_copy_rowK {P : Program} (w : World) (dT sT ty elem : TypeId) (size : Nat) (g o dLen dCap : Nat) (a : Addr) (sLen sCap : Nat) (cur : Array Value) (t : TypeId) (cs : List Value)
    (hu : P.underlying dT = some (.slice elem)) (hs : (P.info? elem).map (·.size) = some size)
    (hg : w.heap[g]? = some (.cells cur t (0, 0))) (hn : cs.length = Nat.min sLen dLen * size)
    (hsrc : ∀ j v, cs[j]? = some v → w.cell? (a.add j) = some v) (hfit : o + cs.length ≤ cur.size) (h1 : ∀ v ∈ cs, v.oneCell' = true) :
    (Builtin.copy_ #[dT, sT] ty #[.slice (some ⟨g, o, none⟩) dLen dCap, .slice (some a) sLen sCap]).run P w =
      .ok (goInt (Nat.min sLen dLen)) (w.setRow g (cur.toList.take o ++ cs ++ cur.toList.drop (o + cs.length)).toArray) := by
  have hl := run_loadCells_list (P := P) w a cs hsrc
  have hst := run_storeCells_at P g o t cs 0 cur w hg (by simpa using hfit) h1
  cases hq : P.info? elem with
  | none => simp [hq] at hs
  | some i =>
    have hi : i.size = size := by simpa [hq] using hs
    simp [Builtin.copy_, run_underlying hu, Builtin.lenOf, Builtin.firstCells, sizeOf, typeInfo, hq, hi, ← hn, hl, hst]
theorem run_copy_zeroK {P : Program} (w : World) (dT sT ty elem : TypeId) (d a : Option Addr) (dLen dCap sLen sCap : Nat) (hu : P.underlying dT = some (.slice elem)) (hs : ((P.info? elem).map (·.size)).isSome = true) (hn : Nat.min sLen dLen = 0) :
    (Builtin.copy_ #[dT, sT] ty #[.slice d dLen dCap, .slice a sLen sCap]).run P w = .ok (goInt 0) w := by
  cases hq : P.info? elem with
  | none => simp [hq] at hs
  | some i =>
    cases a with
    | none => cases d <;> simp [Builtin.copy_, run_underlying hu, Builtin.lenOf, Builtin.firstCells, sizeOf, typeInfo, hq, hn, storeCells]
    | some ad =>
      have hl := run_loadCells_list (P := P) w ad [] (fun j v h => by simp at h)
      simp only [List.length_nil] at hl
      cases d <;> simp [Builtin.copy_, run_underlying hu, Builtin.lenOf, Builtin.firstCells, sizeOf, typeInfo, hq, hn, hl, storeCells]
theorem flat_drop {α : Type} {sz : Nat} {cs : α → List Value} (hcs : ∀ x, (cs x).length = sz) : ∀ (l : List α) (k : Nat), (l.flatMap cs).drop (k * sz) = (l.drop k).flatMap cs
  | [], k => by simp
  | x :: l, 0 => by simp
  | x :: l, k + 1 => by
    rw [List.flatMap_cons, Nat.succ_mul, Nat.add_comm, ← List.drop_drop, List.drop_left' (hcs x), flat_drop hcs l k]
    rfl
/-- copy(row, key) -/
theorem wpList_copy_vl {P : Program} (w : World) {ops : Array Oper} {rest : List Oper} {o : Oper} {a : Act} {Q : Exit → Act → World → Prop} (hgd : o.guard = none) (d s : Operand) (dT sT : TypeId)
    (ho : o.op = .call { callee := .builtin .copy, args := #[d, s], argTypes := #[dT, sT] }) (elem : TypeId) (hu : P.underlying dT = some (.slice elem)) (hsz : (P.info? elem).map (·.size) = some 3)
    (RA : Option Addr) (rn rc : Nat) (r : List Vl) (KA : Option Addr) (kn kc : Nat) (key : List Vl) (hd : a.eval d = .slice RA rn rc) (hs : a.eval s = .slice KA kn kc)
    (base : Nat) (hown : w.ownsRow base elem 3 (.slice RA rn rc) rn (r.flatMap Vl.cs)) (hr : r.length = rn) (hk : VlS w KA kn key) (hkn : kn ≤ rn)
    (h : ∀ w', w'.ownsRow base elem 3 (.slice RA rn rc) rn ((key ++ r.drop kn).flatMap Vl.cs) → Below base w w' → (∀ k, (Value.slice RA rn rc).ownBlock ≠ some k → w'.heap[k]? = w.heap[k]?) → wpList P ops Q rest (a.put o.dst (goInt kn)) w') : wpList P ops Q (o :: rest) a w := by
  refine wpList_plain hgd fun K hK => ?_
  have hmin : Nat.min kn rn = kn := Nat.min_eq_left hkn
  rcases Nat.eq_zero_or_pos kn with h0 | h0
  · subst h0
    obtain rfl : key = [] := List.eq_nil_of_length_eq_zero hk.len
    have hrun := run_copy_zeroK (P := P) w dT sT o.type elem RA KA rn rc 0 kc hu (by rw [hsz]; rfl) hmin
    unfold Oper.wp
    simp [execOp, ho, resolve, invoke, builtin, hd, hs, hrun, Result.andThen]
    exact hK _ _ (h w (by simpa using hown) (Below.refl _ _) (fun _ _ => rfl))
  · rcases hown.2 with ⟨_, hn⟩ | ⟨g, cap, cur, hv, hg, hh, hnc, hmx, hcs, htk⟩
    · omega
    · injection hv with hA _ hC
      subst hA hC
      obtain ⟨b', o', rfl, hc⟩ := hk.2 h0
      have hX : ∃ X, X = key.flatMap Vl.cs := ⟨_, rfl⟩
      obtain ⟨X, hX⟩ := hX
      have hfl : X.length = kn * 3 := by rw [hX, flat_len Vl.cs_len, hk.len]
      have hle : kn * 3 ≤ cur.size := by rw [hcs]; omega
      have hrun := run_copy_rowK (P := P) w dT sT o.type elem 3 g 0 rn rc ⟨b', o', none⟩ kn kc cur elem X hu hsz hh (by rw [hmin, hfl]) (fun j u hu => by
        rw [hX] at hu
        obtain ⟨y, hy, hyu⟩ := flat_get Vl.cs_len (by omega) key j u hu
        have h2 := hc _ y hy _ u hyu
        rw [add_at, ← h2, Nat.add_assoc, Nat.mul_comm, Nat.div_add_mod]) (by omega) (fun u hu => by
        rw [hX, List.mem_flatMap] at hu
        obtain ⟨y, _, hu⟩ := hu
        exact one_vl y u hu)
      rw [hmin, hfl, Nat.zero_add, List.take_zero, List.nil_append] at hrun
      have hfin := h (w.setRow g (X ++ cur.toList.drop (kn * 3)).toArray) ⟨by
        rw [flat_len Vl.cs_len, List.length_append, List.length_drop, hk.len, hr]
        omega, .inr ⟨g, rc, (X ++ cur.toList.drop (kn * 3)).toArray, rfl, hg, setRow_heap w g cur _ elem (0, 0) hh, hnc, hmx, by
        simp only [List.size_toArray, List.length_append, List.length_drop, hfl, Array.length_toList]
        omega, by
        have e1 : (cur.toList.drop (kn * 3)).take (rn * 3 - kn * 3) = (r.drop kn).flatMap Vl.cs := by
          rw [← List.drop_take, htk, flat_drop Vl.cs_len]
        show (X ++ cur.toList.drop (kn * 3)).take (rn * 3) = _
        rw [List.take_append, hfl, List.take_of_length_le (by rw [hfl]; omega), e1, List.flatMap_append, hX]⟩⟩ (below_setRow (Below.refl _ _) hg _) (fun k hk => setRow_other w g k _ (fun e => hk (by subst e; rfl)))
      unfold Oper.wp
      simp [execOp, ho, resolve, invoke, builtin, hd, hs, hrun, Result.andThen]
      exact hK _ _ hfin
end Go.Proofs.YtponkkljlbifmaaGreat
