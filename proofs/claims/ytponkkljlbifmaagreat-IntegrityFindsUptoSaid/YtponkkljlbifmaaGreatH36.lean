/-
  Texts: IgBeg, IgRCopy, CopyV, IgChP.
-/
import Derived.Test.YtponkkljlbifmaaGreatH35
import Derived.Laws.CopyOwn
set_option linter.unusedVariables false
/-
  law09's begun: the example of the chapter holds.
-/
namespace Go.Proofs.YtponkkljlbifmaaGreat
open Go.RowKit
set_option maxRecDepth 100000
open Pd

set_option maxRecDepth 100000 in
set_option maxHeartbeats 4000000 in
theorem begun9_any (w : World) : Calls Tryz.prog 13 #[] w fun e w' => e = .returned (.bool true) ∧ Below w.heap.size w w' := by
  have HB : Hid (Below w.heap.size w ((w.alloc (.cells #[.int .i64 4, .int .i64 1, .string ⟨#[]⟩] 67)).alloc (.cells #[.int .i64 4, .int .i64 7, .string ⟨#[]⟩] 67))) := Lib.hid (((Below.refl _ _).alloc (Nat.le_refl _) _).alloc (by simp) _)
  have H1 := Lib.hid ((Blk.new w 67 #[.int .i64 4, .int .i64 1, .string ⟨#[]⟩]).alloc (.cells #[.int .i64 4, .int .i64 7, .string ⟨#[]⟩] 67))
  have H2 := Lib.hid (Blk.new (w.alloc (.cells #[.int .i64 4, .int .i64 1, .string ⟨#[]⟩] 67)) 67 #[.int .i64 4, .int .i64 7, .string ⟨#[]⟩])
  rw [World.size_alloc] at H2
  go_enter Tryz.func13, Tryz.ntmps13
  go_upto_region 3 with fail
  generalize hW : (w.alloc (.cells #[.int .i64 4, .int .i64 1, .string ⟨#[]⟩] 67)).alloc (.cells #[.int .i64 4, .int .i64 7, .string ⟨#[]⟩] 67) = w2 at *
  clear hW
  obtain ⟨a, ha⟩ : ∃ z, w2.heap.size = z := ⟨_, rfl⟩
  have hS := sch9 ha
  go_upto_region 4 with fail
  obtain ⟨w3, hw3⟩ : ∃ z, wS9 w2 a = z := ⟨_, rfl⟩
  unfold wS9 at hw3 hS
  rw [hw3] at hS ⊢
  clear hw3
  rw [ha] at hS
  obtain ⟨hb3, hs3, hz3⟩ := hS
  have HB3 := Lib.hid (HB.out.trans (hb3.mono (by rw [← ha]; exact HB.out.size)))
  have hb3' : Below w2.heap.size w2 w3 := by rw [ha]; exact hb3
  have H13 := Lib.hid (H1.out.below hb3')
  have H23 := Lib.hid (H2.out.below hb3')
  have HS3 := Lib.hid hs3
  have HZ3 := Lib.hid hz3
  clear hb3 hb3' hs3 hz3 HB H1 H2
  obtain ⟨sb, Hsb⟩ : ∃ z, Hid (a + 1 + 1 + 1 + 1 = z) := ⟨_, Lib.hid rfl⟩
  rw [Hsb.out] at HS3 HZ3 ⊢
  obtain ⟨sz, Hsz⟩ : ∃ z, Hid (sb + 1 = z) := ⟨_, Lib.hid rfl⟩
  rw [Hsz.out] at HZ3 ⊢
  clear ha
  obtain ⟨d, hd⟩ : ∃ z, w3.heap.size = z := ⟨_, rfl⟩
  have hT := sta9 hd
  have z1 := H13.out.cell
  have z3 := ((H13.out.alloc (.cells #[.int .i64 4, .int .i64 1, .string ⟨#[]⟩] 67)).alloc (.cells #[.slice (some ⟨d, 0, none⟩) 1 1] 75)).cell
  have z4 := ((H23.out.alloc (.cells #[.int .i64 4, .int .i64 1, .string ⟨#[]⟩] 67)).alloc (.cells #[.slice (some ⟨d, 0, none⟩) 1 1] 75)).cell
  go_upto_region 5 with fail
  clear z1 z3 z4
  obtain ⟨w4, hw4⟩ : ∃ z, wT9 w3 d = z := ⟨_, rfl⟩
  unfold wT9 at hw4 hT
  rw [hw4] at hT ⊢
  clear hw4
  rw [hd] at hT
  obtain ⟨hb4, ht4, hy4⟩ := hT
  have hb4' : Below w3.heap.size w3 w4 := by rw [hd]; exact hb4
  have HB4 := Lib.hid (Below.next HB3.out hb4')
  have H14 := Lib.hid (H13.out.below hb4')
  have H24 := Lib.hid (H23.out.below hb4')
  have HS4 := Lib.hid (HS3.out.keep (keeps_of hb4'))
  have HZ4 := Lib.hid (HZ3.out.below hb4')
  have HT4 := Lib.hid ht4
  have HY4 := Lib.hid hy4
  clear hb4 hb4' ht4 hy4 HB3 H13 H23 HS3 HZ3
  obtain ⟨tb, Htb⟩ : ∃ z, Hid (d + 1 + 1 + 1 + 1 = z) := ⟨_, Lib.hid rfl⟩
  rw [Htb.out] at HT4 HY4 ⊢
  obtain ⟨ty, Hty⟩ : ∃ z, Hid (tb + 1 = z) := ⟨_, Lib.hid rfl⟩
  rw [Hty.out] at HY4 ⊢
  clear hd
  obtain ⟨f, hf⟩ : ∃ z, w4.heap.size = z := ⟨_, rfl⟩
  have hC := chg9 hf
  have z1 := H14.out.cell
  have z2 := HZ4.out.cell
  have z3 := HY4.out.cell
  go_wp2_with fail
  clear z1 z2 z3
  obtain ⟨w5, hw5⟩ : ∃ z, wC9 w4 f = z := ⟨_, rfl⟩
  unfold wC9 at hw5 hC
  rw [hw5] at hC ⊢
  clear hw5
  rw [hf] at hC
  obtain ⟨hb5, hc5⟩ := hC
  have hb5' : Below w4.heap.size w4 w5 := by rw [hf]; exact hb5
  have HB5 := Lib.hid (Below.next HB4.out hb5')
  have H25 := Lib.hid (H24.out.below hb5')
  have HS5 := Lib.hid (HS4.out.keep (keeps_of hb5'))
  have HZ5 := Lib.hid (HZ4.out.below hb5')
  have HT5 := Lib.hid (HT4.out.keep (keeps_of hb5'))
  have HY5 := Lib.hid (HY4.out.below hb5')
  have HC5 := Lib.hid hc5
  clear hb5 hb5' hc5 HB4 H14 H24 HS4 HZ4 HT4 HY4 hf
  refine (recheck_any 0 _ 2 2 tbs9 _ 2 2 (ls9 d) _ 1 1 _ w5 HS5.out good9 HT5.out (by show cntS st9 ≤ _; decide) (by omega) HC5.out (by omega)).mono ?_
  rintro e w6 ⟨h6, hb6⟩
  rcases h6 with ⟨_, V, vn, vc, xs, rfl, hvn, hxs⟩ | ⟨h6, _⟩
  rotate_left
  · exact absurd (congrArg Prod.fst rec9) h6
  have HB6 := Lib.hid (Below.next HB5.out hb6)
  have H26 := Lib.hid (H25.out.below hb6)
  have HS6 := Lib.hid (HS5.out.keep (keeps_of hb6))
  have HZ6 := Lib.hid (HZ5.out.below hb6)
  have HT6 := Lib.hid (HT5.out.keep (keeps_of hb6))
  have HY6 := Lib.hid (HY5.out.below hb6)
  have HVN := Lib.hid hvn
  have HXS : Hid (xs.map (·.v) = [⟨1, 1, [sev9], 0⟩]) := Lib.hid (hxs.trans (congrArg Prod.snd rec9))
  clear hb6 hvn hxs HB5 H25 HS5 HZ5 HT5 HY5 HC5
  have z2 := HZ6.out.cell
  have z3 := HY6.out.cell
  go_wp2_with fail
  refine (viol_any 0 _ 2 2 tbs9 _ 2 2 (ls9 d) _ HS6.out good9 HT6.out (by show cntS st9 ≤ _; decide) (by omega)).mono ?_
  rintro e w7 ⟨h7, hb7⟩
  rcases h7 with ⟨_, V2, vn2, vc2, xs2, rfl, hvn2, hxs2⟩ | ⟨h7, _⟩
  rotate_left
  · exact absurd chk9 h7
  have hn2 : vn2 = 0 := by
    have h := congrArg List.length hxs2
    rw [List.length_map, hvn2.sl.len, show allV tbs9 (stR (ls9 d)) = [] from all9] at h
    exact h
  subst hn2
  have HB7 := Lib.hid (Below.next HB6.out hb7)
  have H27 := Lib.hid (H26.out.below hb7)
  have hone : vn = 1 := by
    have h := congrArg List.length HXS.out
    rw [List.length_map, HVN.out.sl.len] at h
    exact h
  subst hone
  obtain ⟨vb, vo, x, rfl, hx, hcx⟩ := HVN.out.sl.at (show 0 < 1 by omega)
  have hxv : x.v = ⟨1, 1, [sev9], 0⟩ := by
    have h := congrArg (fun l => l[0]?) HXS.out
    simp only [List.getElem?_map, hx] at h
    injection h
  obtain ⟨v, XA, xn, xc⟩ := x
  simp only at hxv
  subst hxv
  have hrow := (HVN.out.keys _ (List.mem_of_getElem? hx)).ok
  have hk := keeps_of hb7
  have c0 : w7.drew.cell? ⟨vb, vo, none⟩ = some (.int .i64 1) := keep_cell hk (hcx 0 _ rfl)
  have c1 : w7.drew.cell? ⟨vb, vo + 1, none⟩ = some (.int .i64 1) := keep_cell hk (hcx 1 _ rfl)
  have c2 : w7.drew.cell? ⟨vb, vo + 2, none⟩ = some (.slice XA xn xc) := keep_cell hk (hcx 2 _ rfl)
  have hxn : xn = 1 := hrow.rd.len.symm
  subst hxn
  obtain ⟨rb, ro, y, hXA, hy, hcy⟩ := hrow.rd.at (show 0 < 1 by omega)
  have hXA' : XA = some ⟨rb, ro, none⟩ := hXA
  subst hXA'
  obtain rfl : y = sev9 := by
    have h : ([sev9] : List Vl)[0]? = some y := hy
    simpa using h.symm
  have d0 : w7.drew.cell? ⟨rb, ro, none⟩ = some (.int .i64 4) := keep_cell hk (hcy 0 _ rfl)
  have d1 : w7.drew.cell? ⟨rb, ro + 1, none⟩ = some (.int .i64 7) := keep_cell hk (hcy 1 _ rfl)
  have d2 : w7.drew.cell? ⟨rb, ro + 2, none⟩ = some (.string ⟨#[]⟩) := keep_cell hk (hcy 2 _ rfl)
  clear z2 z3 hb7 hvn2 hxs2 hx hcx hrow hk hXA hy hcy HB6 H26 HS6 HZ6 HT6 HY6 HVN HXS
  have zs : ∀ i, w7.drew.cell? ⟨w.heap.size + 1, i, none⟩ = (#[.int .i64 4, .int .i64 7, .string ⟨#[]⟩] : Array Value)[i]? := H27.out.cell
  have heq : ∀ W, (binOp .eql 67 (.agg #[.int .i64 4, .int .i64 7, .string ⟨#[]⟩]) (.agg #[.int .i64 4, .int .i64 7, .string ⟨#[]⟩])).run Tryz.prog W = .ok (.bool true) W := fun W => by rw [run_eqV]; simp
  have HE : Hid (Below w.heap.size w w7.drew) := Lib.hid HB7.out.drew
  clear HB7 H27
  go_wp2_with fail
  generalize hWn : w7.drew = Wn at *
  have hca := @cell_after Wn
  refine wp_region_seg [] [0, 1, 2, 3, 4, 5, 6, 7, 8, 9, 10, 11, 12, 13, 14, 15, 16, 17, 18, 19, 20, 21, 22, 23, 24, 25, 26, 27, 28, 29, 30, 31, 32, 33, 34, 35, 36, 37, 38, 39, 40, 41, 42, 43, 44, 45, 46, 47, 48] (by kernel_rfl) (by kernel_rfl) (fun _ _ d _ _ h => by cases d <;> exact h) ?_
  rw [hWn]
  clear hWn
  simp only [pickSegs, pickOps, opAt, List.map_cons, List.map_nil, List.getElem?_toArray, List.getElem?_cons_zero, List.getElem?_cons_succ, Option.getD_some]
  unfold wpBlocks
  repeat (go_big_quiet_step (fail))
  refine wpQuiet_nil ?_
  clear hca c0 c1 c2 d0 d1 d2 zs heq
  go_wp2
  go_ret
  exact ⟨rfl, HE.out⟩
end Go.Proofs.YtponkkljlbifmaaGreat

/-
  The reference's Copy of a state.
-/
namespace Go.Proofs.YtponkkljlbifmaaGreat
open Go.RowKit
set_option maxRecDepth 100000
open Pd

/-- lists of the copy: each in memory of its own, read wherever the memory from H on stays but for block b -/
structure CyI (w : World) (wr : World) (B : Option Addr) (n cb : Nat) (ls : List TlP) : Prop where
  own : wr.ownsRow w.heap.size 79 1 (.slice B n cb) n (ls.map fun p => Value.slice p.1.1 p.1.2.1 p.1.2.2)
  len : ls.length = n
  row : ∀ p ∈ ls, wr.ownsRow w.heap.size 75 1 (.slice p.1.1 p.1.2.1 p.1.2.2) p.1.2.1 (p.2.flatMap rowc) ∧ p.2.length = p.1.2.1 ∧ ∀ q ∈ p.2, OwnRow wr w.heap.size q
theorem own_type {w w' : World} {base : Nat} {e : TypeId} {size n : Nat} {v : Value} {xs : List Value} {base' : Nat} {e' : TypeId} {size' n' : Nat} {v' : Value} {xs' : List Value} (h : w.ownsRow base e size v n xs) (ho : w.ownsRow base' e' size' v' n' xs') (hT : e ≠ e') (hg : w.grownBy w' v'.ownBlock) : w'.ownsRow base e size v n xs := by
  refine own_at h (fun g _ hlt hv => hg.block g hlt (fun e2 => ?_))
  rcases h.2 with ⟨hq, _⟩ | ⟨g1, cap1, cur1, hq, _, hh1, _⟩
  · rw [hq] at hv; simp [Value.ownBlock] at hv
  · rw [hq] at hv
    simp only [Value.ownBlock, Option.some.injEq] at hv
    rcases ho.2 with ⟨hv2, _⟩ | ⟨g2, cap2, cur2, hv2, _, hh2, _⟩
    · rw [hv2] at e2; simp [Value.ownBlock] at e2
    · rw [hv2] at e2
      simp only [Value.ownBlock, Option.some.injEq] at e2
      rw [← hv] at e2
      subst e2
      rw [hh1] at hh2
      injection hh2 with hh2
      injection hh2 with _ ht
      exact hT ht
section
variable {w wr w' : World} {B : Option Addr} {n cb : Nat} {ls : List TlP}
theorem CyI.nil (w wr : World) : CyI w wr none 0 0 [] := ⟨⟨by simp, .inl ⟨rfl, rfl⟩⟩, rfl, fun _ h => absurd h List.not_mem_nil⟩
theorem CyI.below (h : CyI w wr B n cb ls) (hb : Below wr.heap.size wr w') : CyI w w' B n cb ls :=
  ⟨own_at h.own (fun g _ hlt _ => hb.block g hlt), h.len, fun p hp => ⟨own_at (h.row p hp).1 (fun g _ hlt _ => hb.block g hlt), (h.row p hp).2.1, fun q hq => ((h.row p hp).2.2 q hq).below hb⟩⟩
theorem CyI.below2 (h : CyI w wr B n cb ls) (hb : Below wr.heap.size wr w') : CyI w w' B n cb ls := h.below hb
/-- what is written is neither a list nor a row of the copy -/
theorem CyI.far (h : CyI w wr B n cb ls) {k : Nat} (hk : k < w.heap.size) (hb : But (· = k) wr w') : CyI w w' B n cb ls :=
  ⟨own_at h.own (fun g hg hlt _ => hb.block g hlt (by omega)), h.len, fun p hp => ⟨own_at (h.row p hp).1 (fun g hg hlt _ => hb.block g hlt (by omega)), (h.row p hp).2.1, fun q hq => ⟨own_at ((h.row p hp).2.2 q hq).1 (fun g hg hlt _ => hb.block g hlt (by omega)), ((h.row p hp).2.2 q hq).2⟩⟩⟩
theorem CyI.add (h : CyI w wr B n cb ls) {p : TlP} (hp : wr.ownsRow w.heap.size 75 1 (.slice p.1.1 p.1.2.1 p.1.2.2) p.1.2.1 (p.2.flatMap rowc) ∧ p.2.length = p.1.2.1 ∧ ∀ q ∈ p.2, OwnRow wr w.heap.size q) {o : Obj} {g cap : Nat} (ho : w'.ownsRow w.heap.size 79 1 (.slice (some ⟨g, 0, none⟩) (n + 1) cap) (n + 1) ((ls.map fun p => Value.slice p.1.1 p.1.2.1 p.1.2.2) ++ [Value.slice p.1.1 p.1.2.1 p.1.2.2])) (hg : (wr.alloc o).grownBy w' (Value.slice B n cb).ownBlock) : CyI w w' (some ⟨g, 0, none⟩) (n + 1) cap (ls ++ [p]) := by
  have hg2 := grown_of_alloc hg
  refine ⟨by rw [List.map_append]; exact ho, by rw [List.length_append, h.len]; rfl, fun y hy => ?_⟩
  have hall : wr.ownsRow w.heap.size 75 1 (.slice y.1.1 y.1.2.1 y.1.2.2) y.1.2.1 (y.2.flatMap rowc) ∧ y.2.length = y.1.2.1 ∧ ∀ q ∈ y.2, OwnRow wr w.heap.size q := by
    rcases List.mem_append.1 hy with hy | hy
    · exact h.row y hy
    · rw [List.mem_singleton.1 hy]; exact hp
  exact ⟨own_type hall.1 h.own (by decide) hg2, hall.2.1, fun q hq => ⟨own_type (hall.2.2 q hq).1 h.own (by decide) hg2, (hall.2.2 q hq).2⟩⟩
/-- the copy's lists -/
theorem CyI.st (h : CyI w wr B n cb ls) (hn : 0 < n) : ∃ (b : Nat) (pad : List Value), B = some ⟨b, 0, none⟩ ∧ w.heap.size ≤ b ∧ StP (fun k => k = b ∨ k < w.heap.size) wr b n ls pad := by
  rcases h.own.2 with ⟨_, h0⟩ | ⟨g, cap, cur, hv, hg, hh, _, _, hcs, htk⟩
  · omega
  · injection hv with hB _ hc
    refine ⟨g, cur.toList.drop n, hB, hg, ?_, h.len, fun p hp w' hb => ?_⟩
    · have : cur = ((ls.map fun p => Value.slice p.1.1 p.1.2.1 p.1.2.2) ++ cur.toList.drop n).toArray := by
        have h1 := List.take_append_drop n cur.toList
        rw [Nat.mul_one] at htk
        rw [htk] at h1
        rw [h1]
      rw [← this]
      exact hh
    · have hr := h.row p hp
      have hne : ∀ base e size v m xs, wr.ownsRow base e size v m xs → e ≠ 79 → w.heap.size ≤ base → w'.ownsRow base e size v m xs := fun base e size v m xs ho hT hbase => by
        refine own_at ho (fun k hk hlt hv2 => hb.block k hlt (fun hs => ?_))
        rcases hs with hs | hs
        · subst hs
          rcases ho.2 with ⟨hq, _⟩ | ⟨g1, cap1, cur1, hq, _, hh1, _⟩
          · rw [hq] at hv2; simp [Value.ownBlock] at hv2
          · rw [hq] at hv2
            simp only [Value.ownBlock, Option.some.injEq] at hv2
            subst hv2
            rw [hh] at hh1
            injection hh1 with hh1
            injection hh1 with _ ht
            exact hT ht.symm
        · omega
      have hr1 := hne _ _ _ _ _ _ hr.1 (by decide) (Nat.le_refl _)
      obtain ⟨f1, f2, f3⟩ := own_forms hr1
      refine ⟨⟨Sl.of_own (cs := rowc) (fun _ => rfl) hr.2.1 hr1, fun q hq => OwnRow.ok (base := w.heap.size) ⟨hne _ _ _ _ _ _ (hr.2.2 q hq).1 (by decide) (Nat.le_refl _), (hr.2.2 q hq).2⟩⟩, f1, f3, ?_⟩
      rcases hr1.2 with ⟨hv, _⟩ | ⟨g', cap', cur', hv, _, _, _, hm, _⟩
      · injection hv with _ _ h3; omega
      · injection hv with _ _ h3; simp only [maxLen] at hm; omega
end
/-- a list in the making: rows of its own -/
structure CrI (wt wr : World) (L : Option Addr) (ln lc : Nat) (qs : List RowP) : Prop where
  own : wr.ownsRow wt.heap.size 75 1 (.slice L ln lc) ln (qs.flatMap rowc)
  len : qs.length = ln
  rows : ∀ q ∈ qs, OwnRow wr wt.heap.size q
  be : Below wt.heap.size wt wr
section
variable {wt wr w' : World} {L : Option Addr} {ln lc : Nat} {qs : List RowP}
theorem CrI.nil (wt : World) : CrI wt wt none 0 0 [] := ⟨⟨by simp, .inl ⟨rfl, rfl⟩⟩, rfl, fun _ h => absurd h List.not_mem_nil, Below.refl _ _⟩
theorem CrI.below (h : CrI wt wr L ln lc qs) (hb : Below wr.heap.size wr w') : CrI wt w' L ln lc qs :=
  ⟨own_at h.own (fun g _ hlt _ => hb.block g hlt), h.len, fun q hq => (h.rows q hq).below hb, Below.next h.be hb⟩
theorem CrI.add (h : CrI wt wr L ln lc qs) {q : RowP} (hq : OwnRow wr wt.heap.size q) {o : Obj} {g cap : Nat} (ho : w'.ownsRow wt.heap.size 75 1 (.slice (some ⟨g, 0, none⟩) (ln + 1) cap) (ln + 1) (qs.flatMap rowc ++ rowc q)) (hg : (wr.alloc o).grownBy w' (Value.slice L ln lc).ownBlock) (hB : Below wt.heap.size wr w') : CrI wt w' (some ⟨g, 0, none⟩) (ln + 1) cap (qs ++ [q]) := by
  have hg2 := grown_of_alloc hg
  refine ⟨by rw [List.flatMap_append]; simpa using ho, by rw [List.length_append, h.len]; rfl, fun y hy => ?_, h.be.trans hB⟩
  rcases List.mem_append.1 hy with hy | hy
  · exact (h.rows y hy).grown h.own hg2
  · rw [List.mem_singleton.1 hy]
    exact hq.grown h.own hg2
end
theorem one_hd (p : TlP) : ∀ u ∈ (#[Value.slice p.1.1 p.1.2.1 p.1.2.2] : Array Value).toList, u.oneCell' = true := by simp [Value.oneCell']
theorem cntS_le2 {st : List (List Rw)} {i : Nat} {l : List Rw} (h : st[i]? = some l) : l.length ≤ cntS st := by
  have := cntS_set st i l [] h
  simp at this
  omega
end Go.Proofs.YtponkkljlbifmaaGreat

/-
  copy of a row's cells into a row of the call's own. No program here.
-/
namespace Go.Proofs.YtponkkljlbifmaaGreat
open Go.RowKit
set_option maxRecDepth 100000

end Go.Proofs.YtponkkljlbifmaaGreat

/-
  Plain: a change as Case makes it fits the state; what Changes holds in memory.
-/
namespace Go.Proofs.YtponkkljlbifmaaGreat
open Go.RowKit
set_option maxRecDepth 100000
open Pd

theorem OkS.row8' {ver : Int} {tbs : List Tb} {st : List (List Rw)} (h : OkS tbs st) (hg : GoodS ver tbs) {k : Nat} {l : List Rw} (hl : st[k]? = some l) : ∀ x ∈ l, x.length ≤ 8 := fun x hx => by
  have hk : k < tbs.length := by rw [← h.ln]; exact (List.getElem?_eq_some_iff.1 hl).1
  have h1 := fitL_len (rowsB_fit _ none (tabsB_at _ _ _ _ l h.tb (List.getElem?_eq_getElem hk) hl) x hx)
  unfold Tb.kinds at h1
  rw [List.length_map] at h1
  have := (hg.tb _ (List.getElem_mem hk)).cl
  omega
theorem own_bne {w w' : World} {b base : Nat} {T e : TypeId} {cs : Array Value} {size n : Nat} {v : Value} {xs : List Value} (h : w.ownsRow base e size v n xs) (hb : Blk w b T cs) (hT : T ≠ e) (hbt : But (· = b) w w') : w'.ownsRow base e size v n xs := by
  refine own_at h (fun g _ hlt hv => hbt.block g hlt (fun e2 => ?_))
  subst e2
  rcases h.2 with ⟨hq, _⟩ | ⟨g1, cap1, cur1, hq, _, hh1, _⟩
  · rw [hq] at hv; simp [Value.ownBlock] at hv
  · rw [hq] at hv
    simp only [Value.ownBlock, Option.some.injEq] at hv
    subst hv
    unfold Blk at hb
    rw [hh1] at hb
    injection hb with hb
    injection hb with _ ht
    exact hT ht.symm
/-- what Changes holds: S: what may change under the state's lists -/
structure ChI (w w1 : World) (S : Nat → Prop) (g b n cb : Nat) (pad : List Value) (sc : Array Value) (wr : World) (ls : List TlP) (O : Option Addr) (cn oc : Nat) (es : List ChE) : Prop where
  st : StP S wr b n ls pad
  y : Blk wr (w.heap.size + 1) 25 #[.slice (some ⟨b, 0, none⟩) n cb]
  z : Blk wr w.heap.size 30 sc
  r : Blk wr (w.heap.size + 1 + 1) 25 #[.slice none 0 0]
  ca : CaseAt wr g
  bu : But (· = g) w wr
  hb : w1.heap.size ≤ b
  gl : g < w.heap.size
  s1 : w.heap.size + 1 + 1 < w1.heap.size
  sz : w1.heap.size ≤ wr.heap.size
  sb : S b
  slo : ∀ k, k < w1.heap.size → S k
  shi : ∀ k, S k → k < wr.heap.size
  sow : ∀ k, (Value.slice O cn oc).ownBlock = some k → S k
  own : wr.ownsRow w1.heap.size 91 3 (.slice O cn oc) cn (es.flatMap ChE.cs)
  len : es.length = cn
  rows : ∀ e ∈ es, OwnRow wr w1.heap.size (e.o, e.c.o) ∧ OwnRow wr w1.heap.size (e.n, e.c.n)
section
variable {w w1 wr w' : World} {S : Nat → Prop} {g b n cb : Nat} {pad : List Value} {sc : Array Value} {ls : List TlP} {O : Option Addr} {cn oc : Nat} {es : List ChE}
theorem ChI.case (h : ChI w w1 S g b n cb pad sc wr ls O cn oc es) (hc : CaseAt w' g) (hb : But (· = g) wr w') : ChI w w1 S g b n cb pad sc w' ls O cn oc es := by
  have h1 := h.gl
  have h2 := h.hb
  have h3 := h.s1
  refine ⟨h.st.but hb (fun k hk => by subst hk; exact h.slo _ (by omega)) (by omega), h.y.but hb (by omega), h.z.but hb (by omega), h.r.but hb (by omega), hc, h.bu.trans hb, h2, h1, h3, Nat.le_trans h.sz hb.size, h.sb, h.slo, fun k hk => Nat.lt_of_lt_of_le (h.shi k hk) hb.size, h.sow, own_at h.own (fun k hk hlt _ => hb.block k hlt (by omega)), h.len, fun e he => ?_⟩
  exact ⟨⟨own_at (h.rows e he).1.1 (fun k hk hlt _ => hb.block k hlt (by omega)), (h.rows e he).1.2⟩, ⟨own_at (h.rows e he).2.1 (fun k hk hlt _ => hb.block k hlt (by omega)), (h.rows e he).2.2⟩⟩
theorem ChI.below (h : ChI w w1 S g b n cb pad sc wr ls O cn oc es) (hb : Below wr.heap.size wr w') : ChI w w1 S g b n cb pad sc w' ls O cn oc es := h.case (h.ca.below hb) (But.ofB hb)
theorem ChI.put (h : ChI w w1 S g b n cb pad sc wr ls O cn oc es) (hb : But (· = b) wr w') {ls' : List TlP} (hs : StP S w' b n ls' pad) : ChI w w1 S g b n cb pad sc w' ls' O cn oc es := by
  have h1 := h.gl
  have h2 := h.hb
  have h3 := h.s1
  refine ⟨hs, h.y.but hb (by omega), h.z.but hb (by omega), h.r.but hb (by omega), h.ca.far hb (fun k e => by omega), ⟨hb.os.trans h.bu.os, hb.tape.trans h.bu.tape, hb.output.trans h.bu.output, Nat.le_trans h.bu.size hb.size, fun k hk hne => (hb.block k (Nat.lt_of_lt_of_le hk h.bu.size) (by omega)).trans (h.bu.block k hk hne)⟩, h2, h1, h3, Nat.le_trans h.sz hb.size, h.sb, h.slo, fun k hk => Nat.lt_of_lt_of_le (h.shi k hk) hb.size, h.sow, own_bne h.own h.st.blk (by decide) hb, h.len, fun e he => ?_⟩
  exact ⟨⟨own_bne (h.rows e he).1.1 h.st.blk (by decide) hb, (h.rows e he).1.2⟩, ⟨own_bne (h.rows e he).2.1 h.st.blk (by decide) hb, (h.rows e he).2.2⟩⟩
/-- the state's box is stored again -/
theorem ChI.again (h : ChI w w1 S g b n cb pad sc wr ls O cn oc es) : ChI w w1 S g b n cb pad sc (wr.setCell ⟨w.heap.size + 1, 0, none⟩ (.slice (some ⟨b, 0, none⟩) n cb)) ls O cn oc es := by
  have h1 := h.gl
  have h2 := h.hb
  have h3 := h.s1
  have hb : But (· = w.heap.size + 1) wr (wr.setCell ⟨w.heap.size + 1, 0, none⟩ (.slice (some ⟨b, 0, none⟩) n cb)) := But.set (S := (· = w.heap.size + 1)) wr (p := ⟨w.heap.size + 1, 0, none⟩) rfl _
  refine ⟨h.st.but hb (fun k hk => h.slo _ (by omega)) (by omega), ?_, h.z.but hb (by omega), h.r.but hb (by omega), h.ca.far hb (fun k e => by omega), ⟨hb.os.trans h.bu.os, hb.tape.trans h.bu.tape, hb.output.trans h.bu.output, Nat.le_trans h.bu.size hb.size, fun k hk hne => (hb.block k (Nat.lt_of_lt_of_le hk h.bu.size) (by omega)).trans (h.bu.block k hk hne)⟩, h2, h1, h3, Nat.le_trans h.sz hb.size, h.sb, h.slo, fun k hk => Nat.lt_of_lt_of_le (h.shi k hk) hb.size, h.sow, own_at h.own (fun k hk hlt _ => hb.block k hlt (by omega)), h.len, fun e he => ?_⟩
  · have := h.y.set_ 0 (.slice (some ⟨b, 0, none⟩) n cb)
    simpa using this
  · exact ⟨⟨own_at (h.rows e he).1.1 (fun k hk hlt _ => hb.block k hlt (by omega)), (h.rows e he).1.2⟩, ⟨own_at (h.rows e he).2.1 (fun k hk hlt _ => hb.block k hlt (by omega)), (h.rows e he).2.2⟩⟩
/-- a change is appended -/
theorem ChI.add (h : ChI w w1 S g b n cb pad sc wr ls O cn oc es) {e : ChE} (he1 : OwnRow wr w1.heap.size (e.o, e.c.o)) (he2 : OwnRow wr w1.heap.size (e.n, e.c.n)) {o : Obj} {g' cap : Nat} (ho : w'.ownsRow w1.heap.size 91 3 (.slice (some ⟨g', 0, none⟩) (cn + 1) cap) (cn + 1) (es.flatMap ChE.cs ++ ChE.cs e)) (hg : (wr.alloc o).grownBy w' (Value.slice O cn oc).ownBlock) (hB : Below w1.heap.size wr w') (hat : (Value.slice O cn oc).ownBlock = some g' ∨ g' = wr.heap.size + 1) (hlt : g' < w'.heap.size) :
    ChI w w1 (fun k => S k ∨ k = g') g b n cb pad sc w' ls (some ⟨g', 0, none⟩) (cn + 1) cap (es ++ [e]) := by
  have h1 := h.gl
  have h2 := h.hb
  have h3 := h.s1
  have hg2 := grown_of_alloc hg
  have hblk : ∀ k T cs, Blk wr k T cs → T ≠ 91 → Blk w' k T cs := fun k T cs hk hT => by
    refine (hg2.block k hk.lt (fun e2 => ?_)).trans hk
    rcases h.own.2 with ⟨hv, _⟩ | ⟨g1, cap1, cur1, hv, _, hh1, _⟩
    · rw [hv] at e2; simp [Value.ownBlock] at e2
    · rw [hv] at e2
      simp only [Value.ownBlock, Option.some.injEq] at e2
      subst e2
      unfold Blk at hk
      rw [hh1] at hk
      injection hk with hk
      injection hk with _ ht
      exact hT ht.symm
  have hcb : But (fun k => (Value.slice O cn oc).ownBlock = some k) wr w' := ⟨hg2.os, hg2.tape, hg2.output, hg2.size, fun k hk hne => hg2.block k hk (fun e2 => hne e2.symm)⟩
  refine ⟨⟨hblk _ _ _ h.st.blk (by decide), h.st.len, fun p hp w2 hw2 => h.st.ok p hp w2 ⟨hw2.os.trans hg2.os, hw2.tape.trans hg2.tape, hw2.output.trans hg2.output, Nat.le_trans hg2.size hw2.size, fun k hk hs => ?_⟩⟩, hblk _ _ _ h.y (by decide), hblk _ _ _ h.z (by decide), hblk _ _ _ h.r (by decide), ?_, ⟨hB.os.trans h.bu.os, hB.tape.trans h.bu.tape, hB.output.trans h.bu.output, Nat.le_trans h.bu.size hB.size, fun k hk hne => (hB.block k (by omega)).trans (h.bu.block k hk hne)⟩, h2, h1, h3, Nat.le_trans h.sz hB.size, .inl h.sb, fun k hk => .inl (h.slo k hk), fun k hk => ?_, fun k hk => ?_, by rw [List.flatMap_append]; simpa using ho, by rw [List.length_append, h.len]; rfl, fun y hy => ?_⟩
  · have hkg : k ≠ g' := fun e2 => by
      rcases hat with hat | hat
      · exact hs (h.sow k (by rw [hat, e2]))
      · omega
    rw [hw2.block k (Nat.lt_of_lt_of_le hk hg2.size) (fun e2 => e2.elim hs hkg)]
    exact hg2.block k hk (fun e2 => hs (h.sow k e2.symm))
  · obtain ⟨A, n', c', k', zs, hb1, hsl, hz, hn', hk', hlt'⟩ := h.ca.ex
    have hgw : g < wr.heap.size := h.ca.lt
    refine ⟨A, n', c', k', zs, (hB.block g (by omega)).trans hb1, ?_, hz, hn', hk', hlt'⟩
    refine ⟨hsl.1, fun hn => ?_⟩
    obtain ⟨b2, o2, e2, hc2⟩ := hsl.2 hn
    have hb2 := hlt' hn b2 o2 e2
    refine ⟨b2, o2, e2, fun i x hx j u hu => ?_⟩
    rw [hB.cell (p := ⟨b2, o2 + i * 1 + j, none⟩) (show b2 < w1.heap.size by omega)]
    exact hc2 i x hx j u hu
  · rcases hk with hk | hk
    · exact Nat.lt_of_lt_of_le (h.shi k hk) hB.size
    · omega
  · simp only [Value.ownBlock, Option.some.injEq] at hk
    exact .inr hk.symm
  · have hy2 : OwnRow wr w1.heap.size (y.o, y.c.o) ∧ OwnRow wr w1.heap.size (y.n, y.c.n) := by
      rcases List.mem_append.1 hy with hy | hy
      · exact h.rows y hy
      · rw [List.mem_singleton.1 hy]; exact ⟨he1, he2⟩
    exact ⟨⟨own_type hy2.1.1 h.own (by decide) hg2, hy2.1.2⟩, ⟨own_type hy2.2.1 h.own (by decide) hg2, hy2.2.2⟩⟩
end
/-- the result's box is written -/
theorem ChI.fin {w w1 wr : World} {S : Nat → Prop} {g b n cb : Nat} {pad : List Value} {sc : Array Value} {ls : List TlP} {O : Option Addr} {cn oc : Nat} {es : List ChE} (h : ChI w w1 S g b n cb pad sc wr ls O cn oc es) (u : Value) :
    ChsS (wr.setCell ⟨w.heap.size + 1 + 1, 0, none⟩ u) O cn es ∧ StS (wr.setCell ⟨w.heap.size + 1 + 1, 0, none⟩ u) (some ⟨b, 0, none⟩) n ls ∧ CaseAt (wr.setCell ⟨w.heap.size + 1 + 1, 0, none⟩ u) g ∧ But (· = g) w (wr.setCell ⟨w.heap.size + 1 + 1, 0, none⟩ u) ∧ (wr.setCell ⟨w.heap.size + 1 + 1, 0, none⟩ u).cell? ⟨w.heap.size + 1 + 1, 0, none⟩ = some u := by
  have hb : But (· = w.heap.size + 1 + 1) wr (wr.setCell ⟨w.heap.size + 1 + 1, 0, none⟩ u) := But.set (S := (· = w.heap.size + 1 + 1)) wr (p := ⟨w.heap.size + 1 + 1, 0, none⟩) rfl _
  have h1 := h.gl
  have h2 := h.hb
  have h3 := h.s1
  have hos : ∀ q c, OwnRow wr w1.heap.size (q, c) → OwnRow (wr.setCell ⟨w.heap.size + 1 + 1, 0, none⟩ u) w1.heap.size (q, c) := fun q c ho => ⟨own_bne ho.1 h.r (by decide) hb, ho.2⟩
  refine ⟨⟨Sl.of_own ChE.cs_len h.len (own_bne h.own h.r (by decide) hb), fun e he => ⟨(hos _ _ (h.rows e he).1).ok, (hos _ _ (h.rows e he).2).ok⟩⟩, (h.st.but hb (fun k hk => h.slo k (by omega)) (by omega)).st, h.ca.far hb (fun k e => by omega), ⟨hb.os.trans h.bu.os, hb.tape.trans h.bu.tape, hb.output.trans h.bu.output, Nat.le_trans h.bu.size hb.size, fun k hk hne => (hb.block k (Nat.lt_of_lt_of_le hk h.bu.size) (by omega)).trans (h.bu.block k hk hne)⟩, ?_⟩
  have := (h.r.set_ 0 u).cell 0
  simpa using this
end Go.Proofs.YtponkkljlbifmaaGreat
