/-
  Texts: IgSame, Open, OpenRow, OpenCh.
-/
import Derived.ProofKit
import Derived.OpenShut
import Derived.ShutString
import Derived.Carry
import Derived.Deep.Slices
import Derived.Lib.SmallJoins
import Derived.Test.YtponkkljlbifmaaGreatG28
set_option linter.unusedVariables false
/-
  The reference's Same of two lists of violations.
-/
namespace Go.Proofs.YtponkkljlbifmaaGreat
open Go.RowKit
set_option maxRecDepth 100000
open Pd

/-- a list of violations -/
structure VosS (w : World) (V : Option Addr) (n : Nat) (xs : List VoE) : Prop where
  sl : Sl 4 VoE.cs w V n xs
  ok : ∀ x ∈ xs, RowOk w x.p
theorem VosS.keep {w w' : World} {V : Option Addr} {n : Nat} {xs : List VoE} (h : VosS w V n xs) (hk : Keeps w w') : VosS w' V n xs := ⟨h.sl.keep hk, fun x hx => (h.ok x hx).keep hk⟩
theorem VosN.s {base : Nat} {w : World} {V : Option Addr} {n : Nat} {xs : List VoE} (h : VosN base w V n xs) : VosS w V n xs := ⟨h.sl, fun x hx => (h.keys x hx).ok⟩
theorem VosS.at {w : World} {V : Option Addr} {n : Nat} {xs : List VoE} (h : VosS w V n xs) {k : Nat} (hk : k < n) : ∃ (b o : Nat) (x : VoE), V = some ⟨b, o, none⟩ ∧ xs[k]? = some x ∧ RowOk w x.p ∧
    w.cell? ⟨b, o + k * 4, none⟩ = some (.int .i64 x.v.k) ∧ w.cell? ⟨b, o + k * 4 + 1, none⟩ = some (.int .i64 x.v.t) ∧ w.cell? ⟨b, o + k * 4 + 2, none⟩ = some (.slice x.A x.n x.c) ∧ w.cell? ⟨b, o + k * 4 + 3, none⟩ = some (.int .i64 x.v.ix) := by
  obtain ⟨b, o, x, hV, hx, hc⟩ := h.sl.at hk
  exact ⟨b, o, x, hV, hx, h.ok x (List.mem_of_getElem? hx), by simpa using hc 0 _ rfl, hc 1 _ rfl, hc 2 _ rfl, hc 3 _ rfl⟩
set_option maxHeartbeats 4000000 in
theorem rsame9_any (V : Option Addr) (n vc : Nat) (xs : List VoE) (U : Option Addr) (m uc : Nat) (ys : List VoE) (w : World) (hx : VosS w V n xs) (hy : VosS w U m ys) (hn : n ≤ 1000000) :
    Calls Tryz.prog 12 #[.slice V n vc, .slice U m uc] w fun e w' => e = .returned (.bool (decide (xs.map (·.v) = ys.map (·.v)))) ∧ Below w.heap.size w w' := by
  have HX := Lib.hid hx
  have HY := Lib.hid hy
  obtain ⟨q, Hq⟩ : ∃ z, Hid (decide (xs.map (·.v) = ys.map (·.v)) = z) := ⟨_, Lib.hid rfl⟩
  rw [Hq.out]
  clear hx hy
  go_enter Tryz.func12, Tryz.ntmps12
  by_cases hnm : n = m
  rotate_left
  · have g1 : ((n : Int) != (m : Int)) = true := by simp; omega
    have hq : false = q := by
      rw [← Hq.out]
      refine (decide_eq_false fun e => hnm ?_).symm
      have := congrArg List.length e
      rw [List.length_map, List.length_map, HX.out.sl.len, HY.out.sl.len] at this
      exact this
    subst hq
    clear hnm
    go_wp2
    go_ret
    exact ⟨rfl, Below.refl _ _⟩
  subst hnm
  have g1 : ((n : Int) != (n : Int)) = false := by simp
  go_wp2_with fail
  go_loopw [13] (fun i wr => ∃ k : Nat, k ≤ n ∧ i = .int .i64 (k : Int) ∧ Hid ((xs.map (·.v)).take k = (ys.map (·.v)).take k) ∧ Hid (Below w.heap.size w wr)) (fun i _ => n - (intOf i).toNat)
  case atStart => exact ⟨0, by omega, rfl, Lib.hid rfl, Lib.hid (Below.refl _ _)⟩
  case round =>
    obtain ⟨k, hk, rfl, Ht, HB⟩ := hrel
    by_cases hkn : k < n
    · obtain ⟨b, o, ⟨⟨xk, xt, xkey, xi⟩, XA, xn, xc⟩, rfl, hx, hxo, c0, c1, c2, c3⟩ := (HX.out.keep (keeps_of HB.out)).at hkn
      obtain ⟨b2, o2, ⟨⟨yk, yt, ykey, yi⟩, YA, yn, yc⟩, rfl, hy, hyo, d0, d1, d2, d3⟩ := (HY.out.keep (keeps_of HB.out)).at hkn
      dsimp only at c0 c1 c2 c3 d0 d1 d2 d3
      have HXo : Hid (RowOk wr.drew ((XA, xn, xc), xkey)) := Lib.hid (hxo.keep (Keeps.refl _).drew)
      have HYo : Hid (RowOk wr.drew ((YA, yn, yc), ykey)) := Lib.hid (hyo.keep (Keeps.refl _).drew)
      have hx1 : (xs.map (·.v))[k]? = some ⟨xk, xt, xkey, xi⟩ := by rw [List.getElem?_map, hx]; rfl
      have hy1 : (ys.map (·.v))[k]? = some ⟨yk, yt, ykey, yi⟩ := by rw [List.getElem?_map, hy]; rfl
      have Hne : Hid (∀ h : (⟨xk, xt, xkey, xi⟩ : Vo) ≠ ⟨yk, yt, ykey, yi⟩, false = q) := Lib.hid (fun h => by
        rw [← Hq.out]
        refine (decide_eq_false fun e => h ?_).symm
        rw [e, hy1] at hx1
        injection hx1 with hx1
        exact hx1.symm)
      have Heq : Hid ((⟨xk, xt, xkey, xi⟩ : Vo) = ⟨yk, yt, ykey, yi⟩ → (xs.map (·.v)).take (k + 1) = (ys.map (·.v)).take (k + 1)) := Lib.hid (fun h => by rw [take_snoc' hx1, take_snoc' hy1, h, Ht.out])
      have HBd : Hid (Below w.heap.size w wr.drew) := Lib.hid HB.out.drew
      clear hx hy hxo hyo hx1 hy1
      have e0 : wr.drew.cell? ⟨b, o + k * 4, none⟩ = some (.int .i64 xk) := c0
      have e1 : wr.drew.cell? ⟨b, o + k * 4 + 1, none⟩ = some (.int .i64 xt) := c1
      have e2 : wr.drew.cell? ⟨b, o + k * 4 + 2, none⟩ = some (.slice XA xn xc) := c2
      have e3 : wr.drew.cell? ⟨b, o + k * 4 + 3, none⟩ = some (.int .i64 xi) := c3
      have f0 : wr.drew.cell? ⟨b2, o2 + k * 4, none⟩ = some (.int .i64 yk) := d0
      have f1 : wr.drew.cell? ⟨b2, o2 + k * 4 + 1, none⟩ = some (.int .i64 yt) := d1
      have f2 : wr.drew.cell? ⟨b2, o2 + k * 4 + 2, none⟩ = some (.slice YA yn yc) := d2
      have f3 : wr.drew.cell? ⟨b2, o2 + k * 4 + 3, none⟩ = some (.int .i64 yi) := d3
      clear c0 c1 c2 c3 d0 d1 d2 d3
      obtain ⟨p0, hp0⟩ : ∃ p, (xk != yk) = p := ⟨_, rfl⟩
      obtain ⟨p1, hp1⟩ : ∃ p, (xt != yt) = p := ⟨_, rfl⟩
      obtain ⟨p2, hp2⟩ : ∃ p, (xi != yi) = p := ⟨_, rfl⟩
      have Hp : Hid ((p0 = false → xk = yk) ∧ (p0 = true → xk ≠ yk) ∧ (p1 = false → xt = yt) ∧ (p1 = true → xt ≠ yt) ∧ (p2 = false → xi = yi) ∧ (p2 = true → xi ≠ yi)) := Lib.hid (by subst hp0 hp1 hp2; simp)
      rcases p0 with _ | _
      rotate_left
      · go_wp2_with fail
        generalize hWn : wr.drew = Wn at *
        have hca := @cell_after Wn
        refine wp_region_seg [([0, 1, 2, 3, 4, 5, 6, 7, 8, 9, 10, 11, 12, 13, 14, 15, 16, 17, 18, 19, 20, 21, 22, 23, 24, 25, 26, 27, 28, 29, 30, 31, 32, 33, 34, 35, 36, 37, 38, 39, 40, 41, 42, 43, 44, 45, 46, 47], 48)] [49, 50] (by kernel_rfl) (by kernel_rfl) (fun _ _ d _ _ h => by cases d <;> exact h) ?_
        rw [hWn]
        clear hWn
        simp only [pickSegs, pickOps, opAt, List.map_cons, List.map_nil, List.getElem?_toArray, List.getElem?_cons_zero, List.getElem?_cons_succ, Option.getD_some]
        unfold wpBlocks
        repeat (go_big_quiet_step (fail))
        refine wpQuiet_nil ?_
        clear hca e0 e1 e2 e3 f0 f1 f2 f3
        have hq : false = q := Hne.out (fun e => Hp.out.2.1 (by simp) (by injection e))
        subst hq
        go_wp2_with fail
        refine ⟨Below.refl _ _, ?_⟩
        unfold wpBlocks
        repeat (go_big_quiet_step (fail))
        refine wpQuiet_nil ?_
        go_wp2
        go_ret
        exact ⟨rfl, HBd.out⟩
      rcases p1 with _ | _
      rotate_left
      · go_wp2_with fail
        generalize hWn : wr.drew = Wn at *
        have hca := @cell_after Wn
        refine wp_region_seg [([0, 1, 2, 3, 4, 5, 6, 7, 8, 9, 10, 11, 12, 13, 14, 15, 16, 17, 18, 19, 20, 21, 22, 23, 24, 25, 26, 27, 28, 29, 30, 31, 32, 33, 34, 35, 36, 37, 38, 39, 40, 41, 42, 43, 44, 45, 46, 47], 48)] [49, 50] (by kernel_rfl) (by kernel_rfl) (fun _ _ d _ _ h => by cases d <;> exact h) ?_
        rw [hWn]
        clear hWn
        simp only [pickSegs, pickOps, opAt, List.map_cons, List.map_nil, List.getElem?_toArray, List.getElem?_cons_zero, List.getElem?_cons_succ, Option.getD_some]
        unfold wpBlocks
        repeat (go_big_quiet_step (fail))
        refine wpQuiet_nil ?_
        clear hca e0 e1 e2 e3 f0 f1 f2 f3
        have hq : false = q := Hne.out (fun e => Hp.out.2.2.2.1 (by simp) (by injection e))
        subst hq
        go_wp2_with fail
        refine ⟨Below.refl _ _, ?_⟩
        unfold wpBlocks
        repeat (go_big_quiet_step (fail))
        refine wpQuiet_nil ?_
        go_wp2
        go_ret
        exact ⟨rfl, HBd.out⟩
      rcases p2 with _ | _
      rotate_left
      · go_wp2_with fail
        generalize hWn : wr.drew = Wn at *
        have hca := @cell_after Wn
        refine wp_region_seg [([0, 1, 2, 3, 4, 5, 6, 7, 8, 9, 10, 11, 12, 13, 14, 15, 16, 17, 18, 19, 20, 21, 22, 23, 24, 25, 26, 27, 28, 29, 30, 31, 32, 33, 34, 35, 36, 37, 38, 39, 40, 41, 42, 43, 44, 45, 46, 47], 48)] [49, 50] (by kernel_rfl) (by kernel_rfl) (fun _ _ d _ _ h => by cases d <;> exact h) ?_
        rw [hWn]
        clear hWn
        simp only [pickSegs, pickOps, opAt, List.map_cons, List.map_nil, List.getElem?_toArray, List.getElem?_cons_zero, List.getElem?_cons_succ, Option.getD_some]
        unfold wpBlocks
        repeat (go_big_quiet_step (fail))
        refine wpQuiet_nil ?_
        clear hca e0 e1 e2 e3 f0 f1 f2 f3
        have hq : false = q := Hne.out (fun e => Hp.out.2.2.2.2.2 (by simp) (by injection e))
        subst hq
        go_wp2_with fail
        refine ⟨Below.refl _ _, ?_⟩
        unfold wpBlocks
        repeat (go_big_quiet_step (fail))
        refine wpQuiet_nil ?_
        go_wp2
        go_ret
        exact ⟨rfl, HBd.out⟩
      go_wp2_with fail
      generalize hWn : wr.drew = Wn at *
      have hca := @cell_after Wn
      refine wp_region_seg [([0, 1, 2, 3, 4, 5, 6, 7, 8, 9, 10, 11, 12, 13, 14, 15, 16, 17, 18, 19, 20, 21, 22, 23, 24, 25, 26, 27, 28, 29, 30, 31, 32, 33, 34, 35, 36, 37, 38, 39, 40, 41, 42, 43, 44, 45, 46, 47], 48)] [49, 50] (by kernel_rfl) (by kernel_rfl) (fun _ _ d _ _ h => by cases d <;> exact h) ?_
      rw [hWn]
      clear hWn
      simp only [pickSegs, pickOps, opAt, List.map_cons, List.map_nil, List.getElem?_toArray, List.getElem?_cons_zero, List.getElem?_cons_succ, Option.getD_some]
      unfold wpBlocks
      repeat (go_big_quiet_step (fail))
      refine wpQuiet_nil ?_
      clear hca e0 e1 e2 e3 f0 f1 f2 f3
      go_wp2_with fail
      refine (rcomp_rw XA xn xc xkey YA yn yc ykey _ HXo.out HYo.out).mono ?_
      rintro e w2 ⟨rfl, hb2⟩
      have HB2 := Lib.hid (Below.next HBd.out hb2)
      by_cases hc : cmpR xkey ykey = 0
      · have hk : xkey = ykey := (cmpR_zero _ _).1 hc
        have Ht2 := Lib.hid (Heq.out (by have h1 := Hp.out; simp at h1; simp [h1, hk]))
        rw [hc]
        clear hc hk
        go_wp2_with fail
        refine ⟨hb2, ?_⟩
        unfold wpBlocks
        repeat (go_big_quiet_step (fail))
        refine wpQuiet_nil ?_
        clear hb2
        go_wp2
        go_roundw
        case rel => exact ⟨k + 1, by omega, by go_num, Ht2, HB2⟩
        case measure => simp [intOf]; omega
      · have g5 : (cmpR xkey ykey != 0) = true := by simpa using hc
        have hq : false = q := Hne.out (fun e => hc (by injection e with _ _ e _; rw [e, cmpR_self]))
        subst hq
        generalize cmpR xkey ykey = cc at *
        clear hc
        go_wp2_with fail
        refine ⟨hb2, ?_⟩
        unfold wpBlocks
        repeat (go_big_quiet_step (fail))
        refine wpQuiet_nil ?_
        clear hb2
        go_wp2
        go_ret
        exact ⟨rfl, HB2.out⟩
    · obtain rfl : k = n := by omega
      have hq : true = q := by
        rw [← Hq.out]
        refine (decide_eq_true ?_).symm
        have h := Ht.out
        rw [List.take_of_length_le (by rw [List.length_map, HX.out.sl.len]; exact Nat.le_refl _), List.take_of_length_le (by rw [List.length_map, HY.out.sl.len]; exact Nat.le_refl _)] at h
        exact h
      subst hq
      go_wp2
      go_ret
      exact ⟨rfl, HB.out⟩
end Go.Proofs.YtponkkljlbifmaaGreat

/-
  What the law's arguments are in memory, and that they read behind the call as before. No walk here.
-/
namespace Go.Proofs.YtponkkljlbifmaaGreat
open Go.ChangeShapes Go.WideShapes Go.ChangeAt Go.RowKit
set_option maxRecDepth 100000
open Go.ChangeMaps (open_string shut_string)

theorem own : ownKnob Tryz.prog.godebug = none := by kernel_rfl
theorem laidOut : laidOutB Tryz.prog = true := by kernel_rfl

section
variable {H : Type} {enc : TypeId × Value → H} {P : Program}
/-- the arguments read behind the call as before -/
theorem trodAll_below (hl : laidOutB P = true) {W W' : World} (hb : Below W.heap.size W W') : ∀ {ts : List TypeId} {vs : List Value} {ds : List (DataW H)} {ps : List MemPlace},
    (∀ t ∈ ts, P.readableRec t = true ∧ t < P.types.size) → DataW.TrodAll enc P W 0 (fun _ => true) true ts vs ds ps → (∀ x ∈ ps, x.block < W.heap.size) → DataW.TrodAll enc P W' 0 (fun b => decide (b < W.heap.size)) true ts vs ds ps
  | [], vs, ds, ps, _, h, _ => by
    obtain ⟨rfl, rfl, rfl⟩ := trodAll_nil h
    exact trodAll_mk0
  | t :: ts, vs, ds, ps, ht, h, hlt => by
    obtain ⟨v0, vs0, d0, ds0, p0, q0, rfl, rfl, rfl, h0, r0⟩ := trodAll_cons h
    have hr := ht t List.mem_cons_self
    exact trodAll_cons_mk (Below.trod hl hr.1 hr.2 h0 hb (fun x hx => hlt x (List.mem_append_left _ hx))) (trodAll_below hl hb (fun t h => ht t (List.mem_cons_of_mem _ h)) r0 (fun x hx => hlt x (List.mem_append_right _ hx)))
theorem okWide_slice_form {w : World} {r : Reach} {base : Nat} {t e : TypeId} {A : Option Addr} {n c : Nat} (ht : P.underlying t = some (.slice e)) (h : Value.okWide P w r base t (.slice A n c)) :
    (A = none → n = 0 ∧ c = 0) ∧ (∀ ad, A = some ad → ad.spot = none) ∧ n ≤ c ∧ c ≤ 9223372036854775807 := by
  simp only [Value.okWide, ht, Cell.okWide] at h
  cases A with
  | none =>
    unfold Cell.ok at h
    rw [ht] at h
    split at h <;> simp_all
  | some a =>
    unfold Cell.ok at h
    rw [ht] at h
    simp only at h
    obtain ⟨h1, h2, h3⟩ := h
    refine ⟨(fun h => by cases h), fun ad e => ?_, h1, ?_⟩
    · injection e with e
      rw [← e]
      exact h3.2.1
    · have : IntKind.i64.max = 9223372036854775807 := by decide
      omega
theorem trod_fields {w : World} {base : Nat} {sp : Nat → Bool} {hd : Bool} {fuel : Nat} {t : TypeId} {cs : List Value} {x : DataW H × List MemPlace} {fs : Array Field} (ht : P.underlying t = some (.struct fs)) (h : DataW.trod enc P w base sp hd fuel t cs = some x) :
    ∃ n, cs.length = P.cellsOf t ∧ ∀ (i : Nat) (f : Field), fs[i]? = some f → ∃ y, DataW.trod enc P w base sp hd n f.type ((cs.drop f.offset).take (P.cellsOf f.type)) = some y := by
  obtain ⟨ys, n, _, _, hl, hyl, hf⟩ := DataW.trod_struct ht h
  refine ⟨n, hl, fun i f hi => ?_⟩
  have hlt : i < ys.length := by rw [hyl]; exact (Array.getElem?_eq_some_iff.1 hi).1
  exact ⟨ys[i], (hf i f hi).trans (List.getElem?_eq_getElem hlt)⟩
end

theorem choose_list {α : Type} {Q : Nat → α → Prop} : ∀ n : Nat, (∀ i, i < n → ∃ y, Q i y) → ∃ l : List α, l.length = n ∧ ∀ i y, l[i]? = some y → Q i y
  | 0, _ => ⟨[], rfl, fun i y h => (by simp at h)⟩
  | n + 1, h => by
    obtain ⟨l, hl, hi⟩ := choose_list n (fun i hi => h i (by omega))
    obtain ⟨y, hy⟩ := h n (by omega)
    refine ⟨l ++ [y], by simp [hl], fun i z hz => ?_⟩
    rcases Nat.lt_or_ge i l.length with h | h
    · rw [List.getElem?_append_left h] at hz
      exact hi i z hz
    · rw [List.getElem?_append_right h] at hz
      have h0 : i - l.length = 0 := by
        have := (List.getElem?_eq_some_iff.1 hz).1
        simp at this
        omega
      rw [h0] at hz
      have : y = z := by simpa using hz
      rw [← this, show i = n by omega]
      exact hy
/-- a list of bytes as argument -/
theorem open_u8s {H : Type} {enc : TypeId × Value → H} {W : World} {base : Nat} {r : Reach} {b0 : Nat} {v : Value} {d : DataW H} {p : List MemPlace} (hv : Value.okWide Tryz.prog W r b0 22 v) (h : DataW.Trod enc Tryz.prog W base (fun _ => true) true 22 v d p) :
    ∃ (A : Option Addr) (n c : Nat) (zs : List Int), v = .slice A n c ∧ Sl 1 u8c W A n zs ∧ (∀ z ∈ zs, 0 ≤ z ∧ z ≤ 255) ∧ (A = none → n = 0 ∧ c = 0) ∧ (∀ ad, A = some ad → ad.spot = none) ∧ n ≤ c ∧ c ≤ 9223372036854775807 := by
  obtain ⟨A, n, c, rfl⟩ := okWide_slice Tryz.underlying22 hv
  obtain ⟨f1, f2, f3, f4⟩ := okWide_slice_form Tryz.underlying22 hv
  obtain ⟨fuel, hf⟩ := h
  have hf' : DataW.trod enc Tryz.prog W base (fun _ => true) true fuel 22 [.slice A n c] = some (d, p) := hf
  rcases open_ints Tryz.underlying22 Tryz.underlying5 (by kernel_rfl) hf' with ⟨h0, _⟩ | ⟨a, len, cap, zs, h0, hb, hl, hm, hzl, _, hc, hw⟩
  · injection h0 with h0
    injection h0 with e1 e2 e3
    subst e1 e2 e3
    exact ⟨none, 0, 0, [], rfl, Sl.nil, fun z hz => (by cases hz), fun _ => ⟨rfl, rfl⟩, fun ad e => (by cases e), Nat.le_refl _, by omega⟩
  · injection h0 with h0
    injection h0 with e1 e2 e3
    subst e1 e2 e3
    refine ⟨some a, n, c, zs.take n, rfl, ⟨?_, fun hn => ?_⟩, fun z hz => bounds_u8 (hw z (List.mem_of_mem_take hz)), f1, f2, f3, f4⟩
    · rw [List.length_take, hzl]; simp; omega
    · obtain ⟨b, o, sp⟩ := a
      obtain rfl : sp = none := f2 _ rfl
      refine ⟨b, o, rfl, fun k x hx j u hu => ?_⟩
      rw [List.getElem?_take] at hx
      split at hx
      · rename_i hk
        rcases j with _ | j
        · simp only [u8c, List.getElem?_cons_zero, Option.some.injEq] at hu
          subst hu
          have hkl := (List.getElem?_eq_some_iff.1 hx).1
          have := hc k hkl
          rw [add_at] at this
          rw [Nat.mul_one, Nat.add_zero, this, List.getD, hx]
          rfl
        · simp [u8c] at hu
      · cases hx
theorem trod_vl {H : Type} {enc : TypeId × Value → H} {W : World} {base : Nat} {sp : Nat → Bool} {hd : Bool} {fuel : Nat} {cs : List Value} {x : DataW H × List MemPlace} (h : DataW.trod enc Tryz.prog W base sp hd fuel 67 cs = some x) :
    ∃ y : Vl, cs = y.cs ∧ y.t.size ≤ 9223372036854775807 := by
  obtain ⟨n, hl, g⟩ := trod_fields Tryz.underlying67 h
  have hl' : cs.length = 3 := hl.trans (by kernel_rfl)
  match cs, hl' with
  | [v0, v1, v2], _ =>
    obtain ⟨y0, g0⟩ := g 0 _ rfl
    obtain ⟨y1, g1⟩ := g 1 _ rfl
    obtain ⟨y2, g2⟩ := g 2 _ rfl
    obtain ⟨a, e0, _, _⟩ := DataW.trod_int (k := .i64) (by kernel_rfl) g0
    obtain ⟨b, e1, _, _⟩ := DataW.trod_int (k := .i64) (by kernel_rfl) g1
    obtain ⟨s, e2, _, hs⟩ := DataW.trod_string (by kernel_rfl) g2
    have f0 : v0 = .int .i64 a := by
      have : [v0] = [.int .i64 a] := e0
      injection this
    have f1 : v1 = .int .i64 b := by
      have : [v1] = [.int .i64 b] := e1
      injection this
    have f2 : v2 = .string s := by
      have : [v2] = [.string s] := e2
      injection this
    subst f0 f1 f2
    exact ⟨⟨a, b, s⟩, rfl, hs⟩
end Go.Proofs.YtponkkljlbifmaaGreat

namespace Go.Proofs.YtponkkljlbifmaaGreat
open Go.ChangeShapes Go.WideShapes Go.ChangeAt Go.RowKit
set_option maxRecDepth 100000

/-- the reading of a row that lies in memory -/
theorem trod_row {H : Type} {enc : TypeId × Value → H} {W : World} {base : Nat} {fuel : Nat} {v : Value} {x : DataW H × List MemPlace} (h : DataW.trod enc Tryz.prog W base (fun _ => true) true fuel 75 [v] = some x) :
    ∃ p : RowP, v = .slice p.1.1 p.1.2.1 p.1.2.2 ∧ RowOk W p ∧ 32 * p.1.2.2 ≤ 9223372036854775807 * 32 := by
  rcases Go.Deep.open_slice Tryz.underlying75 h with ⟨h0, _⟩ | ⟨a, len, cap, m, q, D, Pl, h0, hb, hl, hm, hmm, _, hc⟩
  · injection h0 with h0
    exact ⟨((none, 0, 0), []), h0, ⟨Sl.nil, fun _ => ⟨rfl, rfl⟩, Nat.le_refl _, by simp⟩, by simp⟩
  · injection h0 with h0
    have c3 : Tryz.prog.cellsOf 67 = 3 := by kernel_rfl
    rw [c3] at hc
    have hcell : ∀ i, i < len → ∃ y : Vl, ∀ (j : Nat) (u : Value), y.cs[j]? = some u → W.cell? ((a.add (i * 3)).add j) = some u := by
      intro i hi
      obtain ⟨cs', h1, h2⟩ := hc i (by rw [hmm]; simp; omega)
      obtain ⟨y, rfl, _⟩ := trod_vl h2
      obtain ⟨_, hcl, hat⟩ := World.cells?_some h1
      refine ⟨y, fun j u hu => ?_⟩
      have hj : j < 3 := by have := (List.getElem?_eq_some_iff.1 hu).1; simpa [Vl.cs] using this
      rw [hat j hj, hu]
    obtain ⟨l, hll, hli⟩ := choose_list len hcell
    have hmx : cap ≤ 9223372036854775807 := by simpa [maxLen] using hm
    refine ⟨((some a, len, cap), l), h0, ⟨⟨hll, fun hn => ?_⟩, fun h => (by cases h), hl, hmx⟩, by simp only; omega⟩
    obtain ⟨b, o, sp⟩ := a
    have hn' : 0 < len := hn
    have h0l : 0 < l.length := by omega
    have g0 := hli 0 _ (List.getElem?_eq_getElem h0l) 0 _ rfl
    have hsp : sp = none := by
      have := World.cell?_spot g0
      simpa [Addr.add] using this
    subst hsp
    refine ⟨b, o, rfl, fun k x hx j u hu => ?_⟩
    have := hli k x hx j u hu
    rw [add_at, add_at] at this
    exact this
end Go.Proofs.YtponkkljlbifmaaGreat

/-
  Changes as an argument: whatever is handed in reads as a list of changes. No walk here.
-/
namespace Go.Proofs.YtponkkljlbifmaaGreat
open Go.ChangeShapes Go.WideShapes Go.ChangeAt Go.RowKit
set_option maxRecDepth 100000

theorem trod_ch {H : Type} {enc : TypeId × Value → H} {W : World} {base : Nat} {fuel : Nat} {cs : List Value} {x : DataW H × List MemPlace} (h : DataW.trod enc Tryz.prog W base (fun _ => true) true fuel 91 cs = some x) :
    ∃ y : ChE, cs = y.cs ∧ ChOk W y := by
  obtain ⟨n, hl, g⟩ := trod_fields Tryz.underlying91 h
  have hl' : cs.length = 3 := hl.trans (by kernel_rfl)
  match cs, hl' with
  | [v0, v1, v2], _ =>
    obtain ⟨y0, g0⟩ := g 0 _ rfl
    obtain ⟨y1, g1⟩ := g 1 _ rfl
    obtain ⟨y2, g2⟩ := g 2 _ rfl
    obtain ⟨a, e0, _, _⟩ := DataW.trod_int (k := .i64) (by kernel_rfl) g0
    have f0 : v0 = .int .i64 a := by
      have : [v0] = [.int .i64 a] := e0
      injection this
    have g1' : DataW.trod enc Tryz.prog W base (fun _ => true) true n 75 [v1] = some y1 := g1
    have g2' : DataW.trod enc Tryz.prog W base (fun _ => true) true n 75 [v2] = some y2 := g2
    obtain ⟨⟨⟨OA, on, oc⟩, o⟩, rfl, ho, _⟩ := trod_row g1'
    obtain ⟨⟨⟨NA, nn, nc⟩, r⟩, rfl, hr, _⟩ := trod_row g2'
    subst f0
    exact ⟨⟨⟨a, o, r⟩, (OA, on, oc), (NA, nn, nc)⟩, rfl, ho, hr⟩
theorem open_chs {H : Type} {enc : TypeId × Value → H} {W : World} {base : Nat} {r : Reach} {b0 : Nat} {v : Value} {d : DataW H} {p : List MemPlace} (hv : Value.okWide Tryz.prog W r b0 42 v) (h : DataW.Trod enc Tryz.prog W base (fun _ => true) true 42 v d p) :
    ∃ (A : Option Addr) (n c : Nat) (l : List ChE), v = .slice A n c ∧ ChsS W A n l ∧ (A = none → n = 0 ∧ c = 0) ∧ (∀ ad, A = some ad → ad.spot = none) ∧ n ≤ c ∧ c ≤ 9223372036854775807 := by
  obtain ⟨A, n, c, rfl⟩ := okWide_slice Tryz.underlying42 hv
  obtain ⟨f1, f2, f3, f4⟩ := okWide_slice_form Tryz.underlying42 hv
  obtain ⟨fuel, hf⟩ := h
  have hf' : DataW.trod enc Tryz.prog W base (fun _ => true) true fuel 42 [.slice A n c] = some (d, p) := hf
  rcases Go.Deep.open_slice Tryz.underlying42 hf' with ⟨h0, _⟩ | ⟨a, len, cap, m, q, D, Pl, h0, hb, hl, hm, hmm, _, hc⟩
  · injection h0 with h0
    injection h0 with e1 e2 e3
    subst e1 e2 e3
    exact ⟨none, 0, 0, [], rfl, ⟨Sl.nil, fun e he => (by cases he)⟩, fun _ => ⟨rfl, rfl⟩, fun ad e => (by cases e), Nat.le_refl _, by omega⟩
  · injection h0 with h0
    injection h0 with e1 e2 e3
    subst e1 e2 e3
    have c3 : Tryz.prog.cellsOf 91 = 3 := by kernel_rfl
    rw [c3] at hc
    have hcell : ∀ i, i < n → ∃ y : ChE, ChOk W y ∧ ∀ (j : Nat) (u : Value), y.cs[j]? = some u → W.cell? ((a.add (i * 3)).add j) = some u := by
      intro i hi
      obtain ⟨cs', h1, h2⟩ := hc i (by rw [hmm]; simp; omega)
      obtain ⟨y, rfl, hy⟩ := trod_ch h2
      obtain ⟨_, hcl, hat⟩ := World.cells?_some h1
      refine ⟨y, hy, fun j u hu => ?_⟩
      have hj : j < 3 := by have := (List.getElem?_eq_some_iff.1 hu).1; simpa [ChE.cs] using this
      rw [hat j hj, hu]
    obtain ⟨l, hll, hli⟩ := choose_list n hcell
    refine ⟨some a, n, c, l, rfl, ⟨⟨hll, fun hn => ?_⟩, fun e he => ?_⟩, f1, f2, f3, f4⟩
    · obtain ⟨b, o, sp⟩ := a
      obtain rfl : sp = none := f2 _ rfl
      refine ⟨b, o, rfl, fun k x hx j u hu => ?_⟩
      have := (hli k x hx).2 j u hu
      rw [add_at, add_at] at this
      exact this
    · obtain ⟨k, hk⟩ := List.getElem?_of_mem he
      exact (hli k e hk).1
end Go.Proofs.YtponkkljlbifmaaGreat
