/-
  Texts: GUnite.
-/
import Derived.Test.YtmnmckblmoalkaaGreatB47
set_option linter.unusedVariables false
/-
  The program's unite, with either function that it is handed.
-/
namespace Go.Proofs.YtmnmckblmoalkaaGreat
open Go.RowKit
set_option maxRecDepth 100000
open Rg

/-- between two boxes: the region so far in its block, the result's block untouched -/
structure USt (w : World) (O Z : Nat) (x : Int) (f : Bool) (A : Option Addr) (n c : Nat) (r : Rg) (wr : World) : Prop where
  bo : Blk wr O 27 #[.int .i64 x, .bool f, .slice A n c]
  bz : Blk wr Z 27 #[.int .i64 0, .bool false, .slice none 0 0]
  rs : RgS wr x f A n c r
  bel : Below w.heap.size w wr
  hO : w.heap.size ≤ O
  hZ : w.heap.size ≤ Z
  ne : O ≠ Z
theorem USt.below {w : World} {O Z : Nat} {x : Int} {f : Bool} {A : Option Addr} {n c : Nat} {r : Rg} {wr wr' : World} (h : USt w O Z x f A n c r wr) (hb : Below wr.heap.size wr wr') : USt w O Z x f A n c r wr' :=
  ⟨h.bo.below hb, h.bz.below hb, h.rs.keep (keeps_of hb), Below.next h.bel hb, h.hO, h.hZ, h.ne⟩
theorem USt.put {w : World} {O Z : Nat} {x : Int} {f : Bool} {A : Option Addr} {n c : Nat} {r : Rg} {wr : World} (h : USt w O Z x f A n c r wr) {x' : Int} {f' : Bool} {A' : Option Addr} {n' c' : Nat} {r' : Rg} (hr : RgS wr x' f' A' n' c' r') : USt w O Z x' f' A' n' c' r' (put3R wr O (.int .i64 x') (.bool f') (.slice A' n' c')) := by
  have hb := put3R_but wr O (.int .i64 x') (.bool f') (.slice A' n' c')
  exact ⟨put3R_blk h.bo, h.bz.but hb (fun e => h.ne e.symm), RgS.off h.bo hb hr, put3R_below h.bel h.hO _ _ _, h.hO, h.hZ, h.ne⟩
theorem USt.fin {w : World} {O Z : Nat} {x : Int} {f : Bool} {A : Option Addr} {n c : Nat} {r : Rg} {wr : World} (h : USt w O Z x f A n c r wr) : RgRes w r 0 (.returned (.tuple #[.agg #[.int .i64 x, .bool f, .slice A n c], .int .i64 0])) (put3R wr Z (.int .i64 x) (.bool f) (.slice A n c)) :=
  ⟨x, f, A, n, c, rfl, RgS.off h.bz (put3R_but wr Z _ _ _) h.rs, put3R_below h.bel h.hZ _ _ _⟩
theorem USt.err {w : World} {O Z : Nat} {x : Int} {f : Bool} {A : Option Addr} {n c : Nat} {r : Rg} {wr : World} (h : USt w O Z x f A n c r wr) (er : Int) : RgRes w zeroR er (.returned (.tuple #[.agg #[.int .i64 0, .bool false, .slice none 0 0], .int .i64 er])) (put3R wr Z (.int .i64 0) (.bool false) (.slice none 0 0)) :=
  RgRes.zero (put3R_below h.bel h.hZ _ _ _)
/-- the boxes that were made lie there -/
structure BxR (B : Nat) (W : World) (A : Option Addr) (n c : Nat) (es : List BoxP) (wr : World) : Prop where
  own : wr.ownsRow B 71 1 (.slice A n c) n (es.flatMap bxc)
  len : es.length = n
  el : ∀ x ∈ es, BoxE B W wr x
theorem BxR.but {B : Nat} {W : World} {A : Option Addr} {n c : Nat} {es : List BoxP} {wr wr' : World} {S : Nat → Prop} (h : BxR B W A n c es wr) (hb : But S wr wr') (hs : ∀ q, S q → q < B) : BxR B W A n c es wr' :=
  ⟨own_but h.own hb (fun q hq hS => by have h1 := (own_lt h.own hq).1; have h2 := hs q hS; omega), h.len, fun x hx => (h.el x hx).but hb (fun q hq hS => by have h1 := (own_lt (h.el x hx).own hq).1; have h2 := hs q hS; omega)⟩
theorem BxR.below {B : Nat} {W : World} {A : Option Addr} {n c : Nat} {es : List BoxP} {wr wr' : World} (h : BxR B W A n c es wr) (hb : Below wr.heap.size wr wr') : BxR B W A n c es wr' := h.but (S := fun _ => False) (But.of_below hb) (fun _ h => h.elim)
theorem BxR.at {B : Nat} {W : World} {A : Option Addr} {n c : Nat} {es : List BoxP} {wr : World} (h : BxR B W A n c es wr) {k : Nat} (hk : k < n) (hW : Keeps W wr) : ∃ (b o : Nat) (A8 : Option Addr) (m8 c8 : Nat) (l8 : List SetP), A = some ⟨b, o, none⟩ ∧ es[k]? = some ((A8, m8, c8), l8) ∧ wr.cell? ⟨b, o + k, none⟩ = some (.slice A8 m8 c8) ∧ SetsS wr A8 m8 l8 := by
  obtain ⟨b, o, ⟨⟨A8, m8, c8⟩, l8⟩, rfl, he, hc⟩ := (Sl.of_own bxc_len h.len h.own).at hk
  have h1 := h.el _ (List.mem_of_getElem? he)
  refine ⟨b, o, A8, m8, c8, l8, rfl, he, ?_, Sl.of_own setc_len h1.len h1.own, fun p hp => ?_⟩
  · have := hc 0 _ rfl
    simpa using this
  · have h2 := h1.set p hp
    exact ⟨h2.1, h2.2.1, h2.2.2.keep hW⟩
theorem uni_step {bs l : List (List (List Iv))} {b : List (List Iv)} {r rr : Rg} {er : Int} (h : uniE bs r = er ∧ uniR bs r = rr ∧ WfR r) (hb : bs = b :: l) (hw : wfB b) : (opErr opUr r (boxR b) = 0 → uniE l (opRes opUr r (boxR b)) = er ∧ uniR l (opRes opUr r (boxR b)) = rr ∧ WfR (opRes opUr r (boxR b))) ∧ (opErr opUr r (boxR b) ≠ 0 → er = opErr opUr r (boxR b) ∧ rr = zeroR) := by
  obtain ⟨h1, h2, h3⟩ := h
  subst hb
  unfold uniE at h1
  unfold uniR at h2
  refine ⟨fun h0 => ?_, fun h0 => ?_⟩
  · rw [if_pos h0] at h1 h2
    exact ⟨h1, h2, op_wf h3 (box_wf _ hw)⟩
  · rw [if_neg h0] at h1 h2
    exact ⟨h1.symm, h2.symm⟩
theorem drop_box {α : Type} {l : List α} {k : Nat} {x : α} (h : l[k]? = some x) : l.drop k = x :: l.drop (k + 1) := by
  obtain ⟨h1, h2⟩ := List.getElem?_eq_some_iff.1 h
  rw [List.drop_eq_getElem_cons h1, h2]
set_option maxHeartbeats 8000000 in
theorem gunite1_any (r : Rg) (x : Int) (f : Bool) (A : Option Addr) (n c : Nat) (q : Nat) (Ac : Option Addr) (m cc : Nat) (cs : List Int) (w : World) (hR : RgS w x f A n c r) (hok : OkR r) (wf : WfR r) (hq : Blk w q 30 #[.slice Ac m cc]) (hc : ClS w Ac m cs) (hcs : ∀ z ∈ cs, 0 ≤ z ∧ z < r.w) (hm : m ≤ 12) :
    Calls Tryz.prog 52 #[.agg #[.int .i64 x, .bool f, .slice A n c], .int .i64 (m : Int), .func (.func 53) #[] #[.pointer (some ⟨q, 0, none⟩)]] w fun e w' => RgRes w (uniR ((boxesR r).map (pickL cs)) (.nil (m : Int) false)) (uniE ((boxesR r).map (pickL cs)) (.nil (m : Int) false)) e w' := by
  obtain ⟨bs, Hbs⟩ : ∃ z, Hid ((boxesR r).map (pickL cs) = z) := ⟨_, rfl⟩
  rw [Hbs.out]
  obtain ⟨er, Her⟩ : ∃ z, Hid (uniE bs (.nil (m : Int) false) = z) := ⟨_, rfl⟩
  obtain ⟨rr, Hrr⟩ : ∃ z, Hid (uniR bs (.nil (m : Int) false) = z) := ⟨_, rfl⟩
  rw [Her.out, Hrr.out]
  have HR := Lib.hid hR
  have Hok := Lib.hid hok
  have Hwf := Lib.hid wf
  have HQ := Lib.hid hq
  have HC := Lib.hid hc
  have HCS := Lib.hid hcs
  have Hlc := Lib.hid hc.len
  clear hq hc hcs
  obtain ⟨W0, HW0⟩ : ∃ W : World, Hid (((w.alloc (.cells #[.int .i64 x, .bool f, .slice A n c] 27)).alloc (.cells #[.int .i64 0, .bool false, .slice none 0 0] 27)).alloc (.cells #[.int .i64 (m : Int), .bool false, .slice none 0 0] 27) = W) := ⟨_, rfl⟩
  have HB0 : Hid (Below w.heap.size w W0) := by
    rw [← HW0.out]
    exact Lib.hid ((((Below.refl _ _).alloc (Nat.le_refl _) _).alloc (by simp) _).alloc (by simp; omega) _)
  have hs0 : W0.heap.size = w.heap.size + 1 + 1 + 1 := by rw [← HW0.out]; simp [World.size_alloc]
  have HU0 : Hid (USt w (w.heap.size + 1 + 1) (w.heap.size + 1) (m : Int) false none 0 0 (.nil (m : Int) false) W0) := by
    refine Lib.hid ⟨?_, ?_, RgS.nil _ _, HB0.out, by omega, by omega, by omega⟩
    · rw [← HW0.out]
      exact Blk.step (by simp)
    · rw [← HW0.out]
      exact (Blk.step (by simp)).alloc _
  have HT : Hid (Blk W0 w.heap.size 27 #[.int .i64 x, .bool f, .slice A n c]) := by
    rw [← HW0.out]
    exact Lib.hid (((Blk.new _ _ _).alloc _).alloc _)
  clear hR hok wf
  go_enter Tryz.func52, Tryz.ntmps52
  go_upto_region 2 with fail
  rw [HW0.out]
  clear HW0
  have z0 := HT.out.cell
  go_wp2_with fail
  refine (gboxes_any w r.w.toNat r x f A n c W0 (by have h1 := Hok.out.2.1; omega) Hok.out.2.2.2 Hok.out.2.2.1 HR.out HB0.out).mono ?_
  rintro e w1 ⟨A1, n1, c1, es, rfl, hown, hlen, hel, heq, hb1⟩
  have HX : Hid (BxR W0.heap.size w A1 n1 c1 es w1) := Lib.hid ⟨hown, hlen, hel⟩
  have HEQ := Lib.hid heq
  have hn1 : n1 ≤ 65 := by
    have h1 := (nbox_le Hok.out.2.2.2.1).1
    have h2 := Hok.out.2.2.1
    rw [← boxesR_len, ← heq, List.length_map] at h1
    omega
  have HU1 := Lib.hid (HU0.out.below hb1)
  have Hbl : Hid (bs.length = n1) := Lib.hid (by rw [← Hbs.out, List.length_map, ← heq, List.length_map, hlen])
  clear hown hlen hel heq hb1 z0 HT HU0
  go_wp2_with fail
  go_loopw [17] (fun i wr => ∃ (k : Nat) (x2 : Int) (f2 : Bool) (A2 : Option Addr) (n2 c2 : Nat) (r2 : Rg), k ≤ n1 ∧ i = .int .i64 (k : Int) ∧ Hid (USt w (w.heap.size + 1 + 1) (w.heap.size + 1) x2 f2 A2 n2 c2 r2 wr) ∧ Hid (BxR W0.heap.size w A1 n1 c1 es wr) ∧ Hid (uniE (bs.drop k) r2 = er ∧ uniR (bs.drop k) r2 = rr ∧ WfR r2)) (fun i _ => n1 - (intOf i).toNat)
  case atStart => exact ⟨0, _, _, _, _, _, _, by omega, rfl, HU1, HX, Lib.hid ⟨Her.out, Hrr.out, trivial⟩⟩
  case round =>
    clear HU1 HX
    obtain ⟨k, x2, f2, A2, n2, c2, r2, hk, rfl, HU, HX, HI⟩ := hrel
    by_cases hlt : k < n1
    · obtain ⟨b, o, A8, m8, c8, l8, rfl, he, d0, hss⟩ := HX.out.at hlt (keeps_of HU.out.bel)
      have hbk : (boxesR r)[k]? = some (l8.map (·.2)) := by
        rw [← HEQ.out, List.getElem?_map, he]
        rfl
      have Hm8 : Hid ((m8 : Int) = r.w) := Lib.hid (by
        have h1 := boxesR_row Hok.out.2.2.2.1 _ (List.mem_of_getElem? hbk)
        rw [List.length_map, hss.sl.len] at h1
        have h2 := Hok.out.1
        omega)
      have hwb : wfB (l8.map (·.2)) := boxes_wf Hwf.out _ (List.mem_of_getElem? hbk)
      have HWB : Hid (wfB (pickL cs (l8.map (·.2)))) := Lib.hid (pick_wf hwb cs)
      have HD : Hid (bs.drop k = pickL cs (l8.map (·.2)) :: bs.drop (k + 1)) := Lib.hid (drop_box (by rw [← Hbs.out, List.getElem?_map, hbk]; rfl))
      have HN3 : Hid ((pickL cs (l8.map (·.2))).length = m) := Lib.hid (by rw [pick_len cs (l8.map (·.2)), Hlc.out])
      have HST := Lib.hid (uni_step HI.out HD.out HWB.out)
      have HSS := Lib.hid hss
      obtain ⟨ls, Hls⟩ : ∃ z, Hid (pickL cs (l8.map (·.2)) = z) := ⟨_, rfl⟩
      rw [Hls.out] at HST HWB HN3
      clear he hss hbk hwb HD
      go_upto_region 6 with fail
      clear d0
      refine wp_region_planR [9] (lessB wr.drew.heap.size) anyW (lessB_trans _) anyW_trans (.one [0, 1, 2] [] 3 (.one [] [] 4 (.one [] [] 5 (.one [6, 7] [8] 9 (.last [10] []))))) (by kernel_rfl) (by kernel_rfl) (fun _ _ d _ _ h => by cases d <;> exact h) ?_
      have hbd : Below wr.heap.size wr wr.drew := (Below.refl _ _).drew
      replace HU := Lib.hid (HU.out.below hbd)
      replace HX := Lib.hid (HX.out.below hbd)
      replace HSS := Lib.hid (HSS.out.keep (keeps_of hbd))
      clear hbd
      generalize hWd : wr.drew = wd at *
      clear hWd
      have hlo : w.heap.size + 1 + 1 < wd.heap.size := HU.out.bo.lt
      have HLO := Lib.hid hlo
      have qo : ∀ (y : LaterR (lessB wd.heap.size) wd) z, (afterR (lessB wd.heap.size) wd y).cell? ⟨w.heap.size + 1 + 1, z, none⟩ = (#[.int .i64 x2, .bool f2, .slice A2 n2 c2] : Array Value)[z]? := fun y z => y.cell (HU.out.bo.cell z) (fun W h => (keep_blk HU.out.bo h HLO.out).cell z)
      unfold wpPlanR
      simp only [pickOps, opAt, List.map_cons, List.map_nil, List.getElem?_toArray, List.getElem?_cons_zero, List.getElem?_cons_succ, Option.getD_some]
      repeat (go_big_quiet_step (fail))
      refine wpQuiet_nil ?_
      repeat (go_big_quiet_step (fail))
      refine wpQuiet_nil ?_
      clear qo
      go_wp2_with fail
      refine (gpick_any A8 m8 c8 l8 q Ac m cc cs _ HSS.out (HQ.out.below HU.out.bel) (HC.out.keep (keeps_of HU.out.bel)) (fun z hz => by have h1 := HCS.out z hz; have h2 := Hm8.out; omega) hm (by have h1 := Hok.out.2.1; have h2 := Hm8.out; omega)).mono ?_
      rintro e w3 ⟨A3, n3, c3, qs, rfl, hS3, hq3, hb3⟩
      rw [Hls.out] at hq3
      go_wp2_with fail
      refine ⟨⟨fun _ => lessB_of hb3 (Nat.le_refl _), trivial⟩, ?_⟩
      have hle3 := hb3.size
      have hn3 : n3 ≤ 12 := by have h1 := hS3.sl.len; have h2 := congrArg List.length hq3; rw [List.length_map] at h2; have h3 := HN3.out; omega
      have HS3 := Lib.hid hS3
      have Hq3 := Lib.hid hq3
      replace HU := Lib.hid (HU.out.below hb3)
      replace HX := Lib.hid (HX.out.below hb3)
      clear hb3 hS3 hq3 HSS
      unfold wpPlanR
      simp only [pickOps, opAt, List.map_nil, List.getElem?_toArray, List.getElem?_cons_zero, List.getElem?_cons_succ, Option.getD_some]
      repeat (go_big_quiet_step (fail))
      refine wpQuiet_nil ?_
      repeat (go_big_quiet_step (fail))
      refine wpQuiet_nil ?_
      go_wp2_with fail
      refine (box_any A3 n3 c3 qs _ HS3.out hn3).mono ?_
      rintro e w4 ⟨x4, f4, A4, n4, c4, rfl, hR4, hb4⟩
      rw [Hq3.out] at hR4
      go_wp2_with fail
      refine ⟨⟨fun _ => lessB_of hb4 hle3, trivial⟩, ?_⟩
      have hle4 : wd.heap.size ≤ w4.heap.size := Nat.le_trans hle3 hb4.size
      have HR4 := Lib.hid hR4
      replace HU := Lib.hid (HU.out.below hb4)
      replace HX := Lib.hid (HX.out.below hb4)
      clear hb4 hR4 HS3
      unfold wpPlanR
      simp only [pickOps, opAt, List.map_nil, List.getElem?_toArray, List.getElem?_cons_zero, List.getElem?_cons_succ, Option.getD_some]
      repeat (go_big_quiet_step (fail))
      refine wpQuiet_nil ?_
      repeat (go_big_quiet_step (fail))
      refine wpQuiet_nil ?_
      go_wp2_with fail
      refine (gunion_any r2 x2 f2 A2 n2 c2 (boxR ls) x4 f4 A4 n4 c4 _ HU.out.rs HR4.out HI.out.2.2 (box_wf _ HWB.out)).mono ?_
      rintro e w5 ⟨x5, f5, A5, n5, c5, rfl, hR5, hb5⟩
      obtain ⟨e1, He1⟩ : ∃ z, Hid (opErr opUr r2 (boxR ls) = z) := ⟨_, rfl⟩
      rw [He1.out]
      go_wp2_with fail
      refine ⟨⟨fun _ => lessB_of hb5 hle4, trivial⟩, ?_⟩
      replace HU := Lib.hid (HU.out.below hb5)
      replace HX := Lib.hid (HX.out.below hb5)
      have HR5 := Lib.hid hR5
      clear hb5 hR5 HR4
      unfold wpPlanR
      simp only [pickOps, opAt, List.map_cons, List.map_nil, List.getElem?_toArray, List.getElem?_cons_zero, List.getElem?_cons_succ, Option.getD_some]
      repeat (go_big_quiet_step (fail))
      refine wpQuiet_nil ?_
      repeat (go_big_quiet_step (fail))
      refine wpQuiet_nil ?_
      have zr := HU.out.bo.cell
      obtain ⟨ff1, ff2, ff3⟩ := put3R_free HU.out.bo (.int .i64 x5) (.bool f5)
      have y3 := (put3R_blk (a' := .int .i64 x5) (b' := .bool f5) (c' := .slice A5 n5 c5) HU.out.bo).cell
      have y1 := (HU.out.bo.set_ 0 (.int .i64 x5)).cell
      have y2 := ((HU.out.bo.set_ 0 (.int .i64 x5)).set_ 1 (.bool f5)).cell
      have HU6 := Lib.hid (HU.out.put HR5.out)
      have HX6 := Lib.hid (HX.out.but (put3R_but w5 (w.heap.size + 1 + 1) (.int .i64 x5) (.bool f5) (.slice A5 n5 c5)) (fun q hq => by have := hs0; omega))
      unfold put3R at y3
      go_wp2_with fail
      refine ⟨⟨fun h => (h (by decide)).elim, trivial⟩, ?_⟩
      clear zr ff1 ff2 ff3 y1 y2 y3
      generalize hWW : put3R w5 (w.heap.size + 1 + 1) (.int .i64 x5) (.bool f5) (.slice A5 n5 c5) = w6 at *
      unfold put3R at hWW
      rw [hWW]
      clear hWW HU HX
      unfold wpPlanR
      simp only [pickOps, opAt, List.map_cons, List.map_nil, List.getElem?_toArray, List.getElem?_cons_zero, List.getElem?_cons_succ, Option.getD_some]
      repeat (go_big_quiet_step (fail))
      refine wpQuiet_nil ?_
      repeat (go_big_quiet_step (fail))
      refine wpQuiet_nil ?_
      rw [He1.out] at HST
      by_cases h0 : e1 = 0
      · subst h0
        have HI6 := Lib.hid (HST.out.1 rfl)
        go_wp2
        go_roundw
        case rel => exact ⟨k + 1, x5, f5, A5, n5, c5, _, by omega, by go_num, HU6, HX6, HI6⟩
        case measure => simp [intOf]; omega
      · have g3 : (e1 == 0) = false := by simp [h0]
        have HEr := Lib.hid (HST.out.2 h0)
        have HFin := Lib.hid (HU6.out.err e1)
        have zr := HU6.out.bz.cell
        obtain ⟨ff1, ff2, ff3⟩ := put3R_free HU6.out.bz (.int .i64 0) (.bool false)
        have y3 := (put3R_blk (a' := .int .i64 0) (b' := .bool false) (c' := .slice none 0 0) HU6.out.bz).cell
        have y1 := (HU6.out.bz.set_ 0 (.int .i64 0)).cell
        have y2 := ((HU6.out.bz.set_ 0 (.int .i64 0)).set_ 1 (.bool false)).cell
        unfold put3R at y3
        clear h0
        go_wp2
        refine bodyPost_ret (v := .tuple #[.agg #[.int .i64 0, .bool false, .slice none 0 0], .int .i64 e1]) (by simp [results, Tryz.results52, go_sem, y3]) rfl ?_
        rw [HEr.out.1, HEr.out.2]
        exact HFin.out
    · obtain rfl : k = n1 := by omega
      have hend : er = 0 ∧ rr = r2 := by
        have h1 := HI.out.1
        have h2 := HI.out.2.1
        rw [List.drop_of_length_le (by rw [Hbl.out]; exact Nat.le_refl _)] at h1 h2
        exact ⟨h1.symm, h2.symm⟩
      have HEr := Lib.hid hend
      have HFin := Lib.hid HU.out.fin
      have zo := HU.out.bo.cell
      have zr := HU.out.bz.cell
      obtain ⟨ff1, ff2, ff3⟩ := put3R_free HU.out.bz (.int .i64 x2) (.bool f2)
      have y3 := (put3R_blk (a' := .int .i64 x2) (b' := .bool f2) (c' := .slice A2 n2 c2) HU.out.bz).cell
      have y1 := (HU.out.bz.set_ 0 (.int .i64 x2)).cell
      have y2 := ((HU.out.bz.set_ 0 (.int .i64 x2)).set_ 1 (.bool f2)).cell
      unfold put3R at y3
      clear hend
      go_wp2
      refine bodyPost_ret (v := .tuple #[.agg #[.int .i64 x2, .bool f2, .slice A2 n2 c2], .int .i64 0]) (by simp [results, Tryz.results52, go_sem, y3]) rfl ?_
      rw [HEr.out.1, HEr.out.2]
      exact HFin.out
set_option maxHeartbeats 8000000 in
theorem gunite2_any (r : Rg) (x : Int) (f : Bool) (A : Option Addr) (n c : Nat) (q1 q2 N : Nat) (Ac : Option Addr) (m cc : Nat) (cs : List Int) (w : World) (hR : RgS w x f A n c r) (hok : OkR r) (wf : WfR r) (hq1 : Blk w q1 3 #[.int .i64 (N : Int)]) (hq2 : Blk w q2 30 #[.slice Ac m cc]) (hc : ClS w Ac m cs) (hcs : ∀ z ∈ cs, 0 ≤ z ∧ z < (N : Int)) (hm : (m : Int) = r.w) (hN : N ≤ 12) :
    Calls Tryz.prog 52 #[.agg #[.int .i64 x, .bool f, .slice A n c], .int .i64 (N : Int), .func (.func 58) #[] #[.pointer (some ⟨q1, 0, none⟩), .pointer (some ⟨q2, 0, none⟩)]] w fun e w' => RgRes w (uniR ((boxesR r).map (liftL N cs)) (.nil (N : Int) false)) (uniE ((boxesR r).map (liftL N cs)) (.nil (N : Int) false)) e w' := by
  obtain ⟨bs, Hbs⟩ : ∃ z, Hid ((boxesR r).map (liftL N cs) = z) := ⟨_, rfl⟩
  rw [Hbs.out]
  obtain ⟨er, Her⟩ : ∃ z, Hid (uniE bs (.nil (N : Int) false) = z) := ⟨_, rfl⟩
  obtain ⟨rr, Hrr⟩ : ∃ z, Hid (uniR bs (.nil (N : Int) false) = z) := ⟨_, rfl⟩
  rw [Her.out, Hrr.out]
  have HR := Lib.hid hR
  have Hok := Lib.hid hok
  have Hwf := Lib.hid wf
  have HQ1 := Lib.hid hq1
  have HQ2 := Lib.hid hq2
  have HC := Lib.hid hc
  have HCS := Lib.hid hcs
  clear hq1 hq2 hc hcs
  obtain ⟨W0, HW0⟩ : ∃ W : World, Hid (((w.alloc (.cells #[.int .i64 x, .bool f, .slice A n c] 27)).alloc (.cells #[.int .i64 0, .bool false, .slice none 0 0] 27)).alloc (.cells #[.int .i64 (N : Int), .bool false, .slice none 0 0] 27) = W) := ⟨_, rfl⟩
  have HB0 : Hid (Below w.heap.size w W0) := by
    rw [← HW0.out]
    exact Lib.hid ((((Below.refl _ _).alloc (Nat.le_refl _) _).alloc (by simp) _).alloc (by simp; omega) _)
  have hs0 : W0.heap.size = w.heap.size + 1 + 1 + 1 := by rw [← HW0.out]; simp [World.size_alloc]
  have HU0 : Hid (USt w (w.heap.size + 1 + 1) (w.heap.size + 1) (N : Int) false none 0 0 (.nil (N : Int) false) W0) := by
    refine Lib.hid ⟨?_, ?_, RgS.nil _ _, HB0.out, by omega, by omega, by omega⟩
    · rw [← HW0.out]
      exact Blk.step (by simp)
    · rw [← HW0.out]
      exact (Blk.step (by simp)).alloc _
  have HT : Hid (Blk W0 w.heap.size 27 #[.int .i64 x, .bool f, .slice A n c]) := by
    rw [← HW0.out]
    exact Lib.hid (((Blk.new _ _ _).alloc _).alloc _)
  clear hR hok wf
  go_enter Tryz.func52, Tryz.ntmps52
  go_upto_region 2 with fail
  rw [HW0.out]
  clear HW0
  have z0 := HT.out.cell
  go_wp2_with fail
  refine (gboxes_any w r.w.toNat r x f A n c W0 (by have h1 := Hok.out.2.1; omega) Hok.out.2.2.2 Hok.out.2.2.1 HR.out HB0.out).mono ?_
  rintro e w1 ⟨A1, n1, c1, es, rfl, hown, hlen, hel, heq, hb1⟩
  have HX : Hid (BxR W0.heap.size w A1 n1 c1 es w1) := Lib.hid ⟨hown, hlen, hel⟩
  have HEQ := Lib.hid heq
  have hn1 : n1 ≤ 65 := by
    have h1 := (nbox_le Hok.out.2.2.2.1).1
    have h2 := Hok.out.2.2.1
    rw [← boxesR_len, ← heq, List.length_map] at h1
    omega
  have HU1 := Lib.hid (HU0.out.below hb1)
  have Hbl : Hid (bs.length = n1) := Lib.hid (by rw [← Hbs.out, List.length_map, ← heq, List.length_map, hlen])
  clear hown hlen hel heq hb1 z0 HT HU0
  go_wp2_with fail
  go_loopw [17] (fun i wr => ∃ (k : Nat) (x2 : Int) (f2 : Bool) (A2 : Option Addr) (n2 c2 : Nat) (r2 : Rg), k ≤ n1 ∧ i = .int .i64 (k : Int) ∧ Hid (USt w (w.heap.size + 1 + 1) (w.heap.size + 1) x2 f2 A2 n2 c2 r2 wr) ∧ Hid (BxR W0.heap.size w A1 n1 c1 es wr) ∧ Hid (uniE (bs.drop k) r2 = er ∧ uniR (bs.drop k) r2 = rr ∧ WfR r2)) (fun i _ => n1 - (intOf i).toNat)
  case atStart => exact ⟨0, _, _, _, _, _, _, by omega, rfl, HU1, HX, Lib.hid ⟨Her.out, Hrr.out, trivial⟩⟩
  case round =>
    clear HU1 HX
    obtain ⟨k, x2, f2, A2, n2, c2, r2, hk, rfl, HU, HX, HI⟩ := hrel
    by_cases hlt : k < n1
    · obtain ⟨b, o, A8, m8, c8, l8, rfl, he, d0, hss⟩ := HX.out.at hlt (keeps_of HU.out.bel)
      have hbk : (boxesR r)[k]? = some (l8.map (·.2)) := by
        rw [← HEQ.out, List.getElem?_map, he]
        rfl
      have Hm8 : Hid ((m8 : Int) = r.w) := Lib.hid (by
        have h1 := boxesR_row Hok.out.2.2.2.1 _ (List.mem_of_getElem? hbk)
        rw [List.length_map, hss.sl.len] at h1
        have h2 := Hok.out.1
        omega)
      have hwb : wfB (l8.map (·.2)) := boxes_wf Hwf.out _ (List.mem_of_getElem? hbk)
      have HWB : Hid (wfB (liftL N cs (l8.map (·.2)))) := Lib.hid (liftK_wf hwb N cs _)
      have HD : Hid (bs.drop k = liftL N cs (l8.map (·.2)) :: bs.drop (k + 1)) := Lib.hid (drop_box (by rw [← Hbs.out, List.getElem?_map, hbk]; rfl))
      have HN3 : Hid ((liftL N cs (l8.map (·.2))).length = N) := Lib.hid (by rw [lift_len N cs (l8.map (·.2))])
      have HST := Lib.hid (uni_step HI.out HD.out HWB.out)
      have HSS := Lib.hid hss
      obtain ⟨ls, Hls⟩ : ∃ z, Hid (liftL N cs (l8.map (·.2)) = z) := ⟨_, rfl⟩
      rw [Hls.out] at HST HWB HN3
      clear he hss hbk hwb HD
      go_upto_region 6 with fail
      clear d0
      refine wp_region_planR [9] (lessB wr.drew.heap.size) anyW (lessB_trans _) anyW_trans (.one [0, 1, 2] [] 3 (.one [] [] 4 (.one [] [] 5 (.one [6, 7] [8] 9 (.last [10] []))))) (by kernel_rfl) (by kernel_rfl) (fun _ _ d _ _ h => by cases d <;> exact h) ?_
      have hbd : Below wr.heap.size wr wr.drew := (Below.refl _ _).drew
      replace HU := Lib.hid (HU.out.below hbd)
      replace HX := Lib.hid (HX.out.below hbd)
      replace HSS := Lib.hid (HSS.out.keep (keeps_of hbd))
      clear hbd
      generalize hWd : wr.drew = wd at *
      clear hWd
      have hlo : w.heap.size + 1 + 1 < wd.heap.size := HU.out.bo.lt
      have HLO := Lib.hid hlo
      have qo : ∀ (y : LaterR (lessB wd.heap.size) wd) z, (afterR (lessB wd.heap.size) wd y).cell? ⟨w.heap.size + 1 + 1, z, none⟩ = (#[.int .i64 x2, .bool f2, .slice A2 n2 c2] : Array Value)[z]? := fun y z => y.cell (HU.out.bo.cell z) (fun W h => (keep_blk HU.out.bo h HLO.out).cell z)
      unfold wpPlanR
      simp only [pickOps, opAt, List.map_cons, List.map_nil, List.getElem?_toArray, List.getElem?_cons_zero, List.getElem?_cons_succ, Option.getD_some]
      repeat (go_big_quiet_step (fail))
      refine wpQuiet_nil ?_
      repeat (go_big_quiet_step (fail))
      refine wpQuiet_nil ?_
      clear qo
      go_wp2_with fail
      refine (glift1_any A8 m8 c8 l8 q1 q2 N Ac m cc cs _ HSS.out (HQ1.out.below HU.out.bel) (HQ2.out.below HU.out.bel) (HC.out.keep (keeps_of HU.out.bel)) HCS.out (by have h2 := Hm8.out; omega) (by have h1 := Hok.out.2.1; have h2 := Hm8.out; omega) hN).mono ?_
      rintro e w3 ⟨A3, n3, c3, qs, rfl, hS3, hq3, hb3⟩
      rw [Hls.out] at hq3
      go_wp2_with fail
      refine ⟨⟨fun _ => lessB_of hb3 (Nat.le_refl _), trivial⟩, ?_⟩
      have hle3 := hb3.size
      have hn3 : n3 ≤ 12 := by have h1 := hS3.sl.len; have h2 := congrArg List.length hq3; rw [List.length_map] at h2; have h3 := HN3.out; omega
      have HS3 := Lib.hid hS3
      have Hq3 := Lib.hid hq3
      replace HU := Lib.hid (HU.out.below hb3)
      replace HX := Lib.hid (HX.out.below hb3)
      clear hb3 hS3 hq3 HSS
      unfold wpPlanR
      simp only [pickOps, opAt, List.map_nil, List.getElem?_toArray, List.getElem?_cons_zero, List.getElem?_cons_succ, Option.getD_some]
      repeat (go_big_quiet_step (fail))
      refine wpQuiet_nil ?_
      repeat (go_big_quiet_step (fail))
      refine wpQuiet_nil ?_
      go_wp2_with fail
      refine (box_any A3 n3 c3 qs _ HS3.out hn3).mono ?_
      rintro e w4 ⟨x4, f4, A4, n4, c4, rfl, hR4, hb4⟩
      rw [Hq3.out] at hR4
      go_wp2_with fail
      refine ⟨⟨fun _ => lessB_of hb4 hle3, trivial⟩, ?_⟩
      have hle4 : wd.heap.size ≤ w4.heap.size := Nat.le_trans hle3 hb4.size
      have HR4 := Lib.hid hR4
      replace HU := Lib.hid (HU.out.below hb4)
      replace HX := Lib.hid (HX.out.below hb4)
      clear hb4 hR4 HS3
      unfold wpPlanR
      simp only [pickOps, opAt, List.map_nil, List.getElem?_toArray, List.getElem?_cons_zero, List.getElem?_cons_succ, Option.getD_some]
      repeat (go_big_quiet_step (fail))
      refine wpQuiet_nil ?_
      repeat (go_big_quiet_step (fail))
      refine wpQuiet_nil ?_
      go_wp2_with fail
      refine (gunion_any r2 x2 f2 A2 n2 c2 (boxR ls) x4 f4 A4 n4 c4 _ HU.out.rs HR4.out HI.out.2.2 (box_wf _ HWB.out)).mono ?_
      rintro e w5 ⟨x5, f5, A5, n5, c5, rfl, hR5, hb5⟩
      obtain ⟨e1, He1⟩ : ∃ z, Hid (opErr opUr r2 (boxR ls) = z) := ⟨_, rfl⟩
      rw [He1.out]
      go_wp2_with fail
      refine ⟨⟨fun _ => lessB_of hb5 hle4, trivial⟩, ?_⟩
      replace HU := Lib.hid (HU.out.below hb5)
      replace HX := Lib.hid (HX.out.below hb5)
      have HR5 := Lib.hid hR5
      clear hb5 hR5 HR4
      unfold wpPlanR
      simp only [pickOps, opAt, List.map_cons, List.map_nil, List.getElem?_toArray, List.getElem?_cons_zero, List.getElem?_cons_succ, Option.getD_some]
      repeat (go_big_quiet_step (fail))
      refine wpQuiet_nil ?_
      repeat (go_big_quiet_step (fail))
      refine wpQuiet_nil ?_
      have zr := HU.out.bo.cell
      obtain ⟨ff1, ff2, ff3⟩ := put3R_free HU.out.bo (.int .i64 x5) (.bool f5)
      have y3 := (put3R_blk (a' := .int .i64 x5) (b' := .bool f5) (c' := .slice A5 n5 c5) HU.out.bo).cell
      have y1 := (HU.out.bo.set_ 0 (.int .i64 x5)).cell
      have y2 := ((HU.out.bo.set_ 0 (.int .i64 x5)).set_ 1 (.bool f5)).cell
      have HU6 := Lib.hid (HU.out.put HR5.out)
      have HX6 := Lib.hid (HX.out.but (put3R_but w5 (w.heap.size + 1 + 1) (.int .i64 x5) (.bool f5) (.slice A5 n5 c5)) (fun q hq => by have := hs0; omega))
      unfold put3R at y3
      go_wp2_with fail
      refine ⟨⟨fun h => (h (by decide)).elim, trivial⟩, ?_⟩
      clear zr ff1 ff2 ff3 y1 y2 y3
      generalize hWW : put3R w5 (w.heap.size + 1 + 1) (.int .i64 x5) (.bool f5) (.slice A5 n5 c5) = w6 at *
      unfold put3R at hWW
      rw [hWW]
      clear hWW HU HX
      unfold wpPlanR
      simp only [pickOps, opAt, List.map_cons, List.map_nil, List.getElem?_toArray, List.getElem?_cons_zero, List.getElem?_cons_succ, Option.getD_some]
      repeat (go_big_quiet_step (fail))
      refine wpQuiet_nil ?_
      repeat (go_big_quiet_step (fail))
      refine wpQuiet_nil ?_
      rw [He1.out] at HST
      by_cases h0 : e1 = 0
      · subst h0
        have HI6 := Lib.hid (HST.out.1 rfl)
        go_wp2
        go_roundw
        case rel => exact ⟨k + 1, x5, f5, A5, n5, c5, _, by omega, by go_num, HU6, HX6, HI6⟩
        case measure => simp [intOf]; omega
      · have g3 : (e1 == 0) = false := by simp [h0]
        have HEr := Lib.hid (HST.out.2 h0)
        have HFin := Lib.hid (HU6.out.err e1)
        have zr := HU6.out.bz.cell
        obtain ⟨ff1, ff2, ff3⟩ := put3R_free HU6.out.bz (.int .i64 0) (.bool false)
        have y3 := (put3R_blk (a' := .int .i64 0) (b' := .bool false) (c' := .slice none 0 0) HU6.out.bz).cell
        have y1 := (HU6.out.bz.set_ 0 (.int .i64 0)).cell
        have y2 := ((HU6.out.bz.set_ 0 (.int .i64 0)).set_ 1 (.bool false)).cell
        unfold put3R at y3
        clear h0
        go_wp2
        refine bodyPost_ret (v := .tuple #[.agg #[.int .i64 0, .bool false, .slice none 0 0], .int .i64 e1]) (by simp [results, Tryz.results52, go_sem, y3]) rfl ?_
        rw [HEr.out.1, HEr.out.2]
        exact HFin.out
    · obtain rfl : k = n1 := by omega
      have hend : er = 0 ∧ rr = r2 := by
        have h1 := HI.out.1
        have h2 := HI.out.2.1
        rw [List.drop_of_length_le (by rw [Hbl.out]; exact Nat.le_refl _)] at h1 h2
        exact ⟨h1.symm, h2.symm⟩
      have HEr := Lib.hid hend
      have HFin := Lib.hid HU.out.fin
      have zo := HU.out.bo.cell
      have zr := HU.out.bz.cell
      obtain ⟨ff1, ff2, ff3⟩ := put3R_free HU.out.bz (.int .i64 x2) (.bool f2)
      have y3 := (put3R_blk (a' := .int .i64 x2) (b' := .bool f2) (c' := .slice A2 n2 c2) HU.out.bz).cell
      have y1 := (HU.out.bz.set_ 0 (.int .i64 x2)).cell
      have y2 := ((HU.out.bz.set_ 0 (.int .i64 x2)).set_ 1 (.bool f2)).cell
      unfold put3R at y3
      clear hend
      go_wp2
      refine bodyPost_ret (v := .tuple #[.agg #[.int .i64 x2, .bool f2, .slice A2 n2 c2], .int .i64 0]) (by simp [results, Tryz.results52, go_sem, y3]) rfl ?_
      rw [HEr.out.1, HEr.out.2]
      exact HFin.out
end Go.Proofs.YtmnmckblmoalkaaGreat
