/-
  Texts: IgBeg, Open.
-/
import Derived.Test.YtnnmlhmffnfjfaaGreatD36
import Derived.ProofKit
import Derived.OpenShut
import Derived.ShutString
import Derived.Carry
import Derived.Deep.Slices
import Derived.Lib.SmallJoins
set_option linter.unusedVariables false
/-
  law09's begun: the example of the chapter holds.
-/
namespace Go.Proofs.YtnnmlhmffnfjfaaGreat
open Go.RowKit
set_option maxRecDepth 100000
open Pd

set_option maxRecDepth 100000 in
set_option maxHeartbeats 4000000 in
theorem begun9_any (w : World) : Calls Tryz.prog 20 #[] w fun e w' => e = .returned (.bool true) ∧ Below w.heap.size w w' := by
  have HB : Hid (Below w.heap.size w ((w.alloc (.cells #[.int .i64 4, .int .i64 1, .string ⟨#[]⟩] 59)).alloc (.cells #[.int .i64 4, .int .i64 7, .string ⟨#[]⟩] 59))) := Lib.hid (((Below.refl _ _).alloc (Nat.le_refl _) _).alloc (by simp) _)
  have H1 := Lib.hid ((Blk.new w 59 #[.int .i64 4, .int .i64 1, .string ⟨#[]⟩]).alloc (.cells #[.int .i64 4, .int .i64 7, .string ⟨#[]⟩] 59))
  have H2 := Lib.hid (Blk.new (w.alloc (.cells #[.int .i64 4, .int .i64 1, .string ⟨#[]⟩] 59)) 59 #[.int .i64 4, .int .i64 7, .string ⟨#[]⟩])
  rw [World.size_alloc] at H2
  go_enter Tryz.func20, Tryz.ntmps20
  go_upto_region 3 with fail
  generalize hW : (w.alloc (.cells #[.int .i64 4, .int .i64 1, .string ⟨#[]⟩] 59)).alloc (.cells #[.int .i64 4, .int .i64 7, .string ⟨#[]⟩] 59) = w2 at *
  clear hW
  obtain ⟨a, ha⟩ : ∃ z, w2.heap.size = z := ⟨_, rfl⟩
  have hS := sch9 ha
  go_upto_region 4 with fail
  obtain ⟨w3, hw3⟩ : ∃ z, wS9 w2 a = z := ⟨_, rfl⟩
  unfold wS9 at hw3 hS
  rw [hw3] at hS ⊢
  clear hw3
  rw [ha] at hS
  obtain ⟨hb3, hs3, hz3⟩ := hS
  have HB3 := Lib.hid (HB.out.trans (hb3.mono (by rw [← ha]; exact HB.out.size)))
  have hb3' : Below w2.heap.size w2 w3 := by rw [ha]; exact hb3
  have H13 := Lib.hid (H1.out.below hb3')
  have H23 := Lib.hid (H2.out.below hb3')
  have HS3 := Lib.hid hs3
  have HZ3 := Lib.hid hz3
  clear hb3 hb3' hs3 hz3 HB H1 H2
  obtain ⟨sb, Hsb⟩ : ∃ z, Hid (a + 1 + 1 + 1 + 1 = z) := ⟨_, Lib.hid rfl⟩
  rw [Hsb.out] at HS3 HZ3 ⊢
  obtain ⟨sz, Hsz⟩ : ∃ z, Hid (sb + 1 = z) := ⟨_, Lib.hid rfl⟩
  rw [Hsz.out] at HZ3 ⊢
  clear ha
  obtain ⟨d, hd⟩ : ∃ z, w3.heap.size = z := ⟨_, rfl⟩
  have hT := sta9 hd
  have z1 := H13.out.cell
  have z3 := ((H13.out.alloc (.cells #[.int .i64 4, .int .i64 1, .string ⟨#[]⟩] 59)).alloc (.cells #[.slice (some ⟨d, 0, none⟩) 1 1] 53)).cell
  have z4 := ((H23.out.alloc (.cells #[.int .i64 4, .int .i64 1, .string ⟨#[]⟩] 59)).alloc (.cells #[.slice (some ⟨d, 0, none⟩) 1 1] 53)).cell
  go_upto_region 5 with fail
  clear z1 z3 z4
  obtain ⟨w4, hw4⟩ : ∃ z, wT9 w3 d = z := ⟨_, rfl⟩
  unfold wT9 at hw4 hT
  rw [hw4] at hT ⊢
  clear hw4
  rw [hd] at hT
  obtain ⟨hb4, ht4, hy4⟩ := hT
  have hb4' : Below w3.heap.size w3 w4 := by rw [hd]; exact hb4
  have HB4 := Lib.hid (Below.next HB3.out hb4')
  have H14 := Lib.hid (H13.out.below hb4')
  have H24 := Lib.hid (H23.out.below hb4')
  have HS4 := Lib.hid (HS3.out.keep (keeps_of hb4'))
  have HZ4 := Lib.hid (HZ3.out.below hb4')
  have HT4 := Lib.hid ht4
  have HY4 := Lib.hid hy4
  clear hb4 hb4' ht4 hy4 HB3 H13 H23 HS3 HZ3
  obtain ⟨tb, Htb⟩ : ∃ z, Hid (d + 1 + 1 + 1 + 1 = z) := ⟨_, Lib.hid rfl⟩
  rw [Htb.out] at HT4 HY4 ⊢
  obtain ⟨ty, Hty⟩ : ∃ z, Hid (tb + 1 = z) := ⟨_, Lib.hid rfl⟩
  rw [Hty.out] at HY4 ⊢
  clear hd
  obtain ⟨f, hf⟩ : ∃ z, w4.heap.size = z := ⟨_, rfl⟩
  have hC := chg9 hf
  have z1 := H14.out.cell
  have z2 := HZ4.out.cell
  have z3 := HY4.out.cell
  go_wp2_with fail
  clear z1 z2 z3
  obtain ⟨w5, hw5⟩ : ∃ z, wC9 w4 f = z := ⟨_, rfl⟩
  unfold wC9 at hw5 hC
  rw [hw5] at hC ⊢
  clear hw5
  rw [hf] at hC
  obtain ⟨hb5, hc5⟩ := hC
  have hb5' : Below w4.heap.size w4 w5 := by rw [hf]; exact hb5
  have HB5 := Lib.hid (Below.next HB4.out hb5')
  have H25 := Lib.hid (H24.out.below hb5')
  have HS5 := Lib.hid (HS4.out.keep (keeps_of hb5'))
  have HZ5 := Lib.hid (HZ4.out.below hb5')
  have HT5 := Lib.hid (HT4.out.keep (keeps_of hb5'))
  have HY5 := Lib.hid (HY4.out.below hb5')
  have HC5 := Lib.hid hc5
  clear hb5 hb5' hc5 HB4 H14 H24 HS4 HZ4 HT4 HY4 hf
  refine (recheck_any 0 _ 2 2 tbs9 _ 2 2 (ls9 d) _ 1 1 _ w5 HS5.out good9 HT5.out (by show cntS st9 ≤ _; decide) (by omega) HC5.out (by omega)).mono ?_
  rintro e w6 ⟨h6, hb6⟩
  rcases h6 with ⟨_, V, vn, vc, xs, rfl, hvn, hxs⟩ | ⟨h6, _⟩
  rotate_left
  · exact absurd (congrArg Prod.fst rec9) h6
  have HB6 := Lib.hid (Below.next HB5.out hb6)
  have H26 := Lib.hid (H25.out.below hb6)
  have HS6 := Lib.hid (HS5.out.keep (keeps_of hb6))
  have HZ6 := Lib.hid (HZ5.out.below hb6)
  have HT6 := Lib.hid (HT5.out.keep (keeps_of hb6))
  have HY6 := Lib.hid (HY5.out.below hb6)
  have HVN := Lib.hid hvn
  have HXS : Hid (xs.map (·.v) = [⟨1, 1, [sev9], 0⟩]) := Lib.hid (hxs.trans (congrArg Prod.snd rec9))
  clear hb6 hvn hxs HB5 H25 HS5 HZ5 HT5 HY5 HC5
  have z2 := HZ6.out.cell
  have z3 := HY6.out.cell
  go_wp2_with fail
  refine (viol_any 0 _ 2 2 tbs9 _ 2 2 (ls9 d) _ HS6.out good9 HT6.out (by show cntS st9 ≤ _; decide) (by omega)).mono ?_
  rintro e w7 ⟨h7, hb7⟩
  rcases h7 with ⟨_, V2, vn2, vc2, xs2, rfl, hvn2, hxs2⟩ | ⟨h7, _⟩
  rotate_left
  · exact absurd chk9 h7
  have hn2 : vn2 = 0 := by
    have h := congrArg List.length hxs2
    rw [List.length_map, hvn2.sl.len, show allV tbs9 (stR (ls9 d)) = [] from all9] at h
    exact h
  subst hn2
  have HB7 := Lib.hid (Below.next HB6.out hb7)
  have H27 := Lib.hid (H26.out.below hb7)
  have hone : vn = 1 := by
    have h := congrArg List.length HXS.out
    rw [List.length_map, HVN.out.sl.len] at h
    exact h
  subst hone
  obtain ⟨vb, vo, x, rfl, hx, hcx⟩ := HVN.out.sl.at (show 0 < 1 by omega)
  have hxv : x.v = ⟨1, 1, [sev9], 0⟩ := by
    have h := congrArg (fun l => l[0]?) HXS.out
    simp only [List.getElem?_map, hx] at h
    injection h
  obtain ⟨v, XA, xn, xc⟩ := x
  simp only at hxv
  subst hxv
  have hrow := (HVN.out.keys _ (List.mem_of_getElem? hx)).ok
  have hk := keeps_of hb7
  have c0 : w7.drew.cell? ⟨vb, vo, none⟩ = some (.int .i64 1) := keep_cell hk (hcx 0 _ rfl)
  have c1 : w7.drew.cell? ⟨vb, vo + 1, none⟩ = some (.int .i64 1) := keep_cell hk (hcx 1 _ rfl)
  have c2 : w7.drew.cell? ⟨vb, vo + 2, none⟩ = some (.slice XA xn xc) := keep_cell hk (hcx 2 _ rfl)
  have hxn : xn = 1 := hrow.rd.len.symm
  subst hxn
  obtain ⟨rb, ro, y, hXA, hy, hcy⟩ := hrow.rd.at (show 0 < 1 by omega)
  have hXA' : XA = some ⟨rb, ro, none⟩ := hXA
  subst hXA'
  obtain rfl : y = sev9 := by
    have h : ([sev9] : List Vl)[0]? = some y := hy
    simpa using h.symm
  have d0 : w7.drew.cell? ⟨rb, ro, none⟩ = some (.int .i64 4) := keep_cell hk (hcy 0 _ rfl)
  have d1 : w7.drew.cell? ⟨rb, ro + 1, none⟩ = some (.int .i64 7) := keep_cell hk (hcy 1 _ rfl)
  have d2 : w7.drew.cell? ⟨rb, ro + 2, none⟩ = some (.string ⟨#[]⟩) := keep_cell hk (hcy 2 _ rfl)
  clear z2 z3 hb7 hvn2 hxs2 hx hcx hrow hk hXA hy hcy HB6 H26 HS6 HZ6 HT6 HY6 HVN HXS
  have zs : ∀ i, w7.drew.cell? ⟨w.heap.size + 1, i, none⟩ = (#[.int .i64 4, .int .i64 7, .string ⟨#[]⟩] : Array Value)[i]? := H27.out.cell
  have heq : ∀ W, (binOp .eql 59 (.agg #[.int .i64 4, .int .i64 7, .string ⟨#[]⟩]) (.agg #[.int .i64 4, .int .i64 7, .string ⟨#[]⟩])).run Tryz.prog W = .ok (.bool true) W := fun W => by rw [run_eqV]; simp
  have HE : Hid (Below w.heap.size w w7.drew) := Lib.hid HB7.out.drew
  clear HB7 H27
  go_wp2_with fail
  generalize hWn : w7.drew = Wn at *
  have hca := @cell_after Wn
  refine wp_region_seg [] [0, 1, 2, 3, 4, 5, 6, 7, 8, 9, 10, 11, 12, 13, 14, 15, 16, 17, 18, 19, 20, 21, 22, 23, 24, 25, 26, 27, 28, 29, 30, 31, 32, 33, 34, 35, 36, 37, 38, 39, 40, 41, 42, 43, 44, 45, 46, 47, 48] (by kernel_rfl) (by kernel_rfl) (fun _ _ d _ _ h => by cases d <;> exact h) ?_
  rw [hWn]
  clear hWn
  simp only [pickSegs, pickOps, opAt, List.map_cons, List.map_nil, List.getElem?_toArray, List.getElem?_cons_zero, List.getElem?_cons_succ, Option.getD_some]
  unfold wpBlocks
  repeat (go_big_quiet_step (fail))
  refine wpQuiet_nil ?_
  clear hca c0 c1 c2 d0 d1 d2 zs heq
  go_wp2
  go_ret
  exact ⟨rfl, HE.out⟩
end Go.Proofs.YtnnmlhmffnfjfaaGreat

/-
  What the law's arguments are in memory, and that they read behind the call as before. No walk here.
-/
namespace Go.Proofs.YtnnmlhmffnfjfaaGreat
open Go.ChangeShapes Go.WideShapes Go.ChangeAt Go.RowKit
set_option maxRecDepth 100000
open Go.ChangeMaps (open_string shut_string)

theorem own : ownKnob Tryz.prog.godebug = none := by kernel_rfl
theorem laidOut : laidOutB Tryz.prog = true := by kernel_rfl

section
variable {H : Type} {enc : TypeId × Value → H} {P : Program}
/-- the arguments read behind the call as before -/
theorem trodAll_below (hl : laidOutB P = true) {W W' : World} (hb : Below W.heap.size W W') : ∀ {ts : List TypeId} {vs : List Value} {ds : List (DataW H)} {ps : List MemPlace},
    (∀ t ∈ ts, P.readableRec t = true ∧ t < P.types.size) → DataW.TrodAll enc P W 0 (fun _ => true) true ts vs ds ps → (∀ x ∈ ps, x.block < W.heap.size) → DataW.TrodAll enc P W' 0 (fun b => decide (b < W.heap.size)) true ts vs ds ps
  | [], vs, ds, ps, _, h, _ => by
    obtain ⟨rfl, rfl, rfl⟩ := trodAll_nil h
    exact trodAll_mk0
  | t :: ts, vs, ds, ps, ht, h, hlt => by
    obtain ⟨v0, vs0, d0, ds0, p0, q0, rfl, rfl, rfl, h0, r0⟩ := trodAll_cons h
    have hr := ht t List.mem_cons_self
    exact trodAll_cons_mk (Below.trod hl hr.1 hr.2 h0 hb (fun x hx => hlt x (List.mem_append_left _ hx))) (trodAll_below hl hb (fun t h => ht t (List.mem_cons_of_mem _ h)) r0 (fun x hx => hlt x (List.mem_append_right _ hx)))
theorem okWide_slice_form {w : World} {r : Reach} {base : Nat} {t e : TypeId} {A : Option Addr} {n c : Nat} (ht : P.underlying t = some (.slice e)) (h : Value.okWide P w r base t (.slice A n c)) :
    (A = none → n = 0 ∧ c = 0) ∧ (∀ ad, A = some ad → ad.spot = none) ∧ n ≤ c ∧ c ≤ 9223372036854775807 := by
  simp only [Value.okWide, ht, Cell.okWide] at h
  cases A with
  | none =>
    unfold Cell.ok at h
    rw [ht] at h
    split at h <;> simp_all
  | some a =>
    unfold Cell.ok at h
    rw [ht] at h
    simp only at h
    obtain ⟨h1, h2, h3⟩ := h
    refine ⟨(fun h => by cases h), fun ad e => ?_, h1, ?_⟩
    · injection e with e
      rw [← e]
      exact h3.2.1
    · have : IntKind.i64.max = 9223372036854775807 := by decide
      omega
end

/-- a list of bytes as argument -/
theorem open_u8s {H : Type} {enc : TypeId × Value → H} {W : World} {base : Nat} {r : Reach} {b0 : Nat} {v : Value} {d : DataW H} {p : List MemPlace} (hv : Value.okWide Tryz.prog W r b0 22 v) (h : DataW.Trod enc Tryz.prog W base (fun _ => true) true 22 v d p) :
    ∃ (A : Option Addr) (n c : Nat) (zs : List Int), v = .slice A n c ∧ Sl 1 u8c W A n zs ∧ (∀ z ∈ zs, 0 ≤ z ∧ z ≤ 255) ∧ (A = none → n = 0 ∧ c = 0) ∧ (∀ ad, A = some ad → ad.spot = none) ∧ n ≤ c ∧ c ≤ 9223372036854775807 := by
  obtain ⟨A, n, c, rfl⟩ := okWide_slice Tryz.underlying22 hv
  obtain ⟨f1, f2, f3, f4⟩ := okWide_slice_form Tryz.underlying22 hv
  obtain ⟨fuel, hf⟩ := h
  have hf' : DataW.trod enc Tryz.prog W base (fun _ => true) true fuel 22 [.slice A n c] = some (d, p) := hf
  rcases open_ints Tryz.underlying22 Tryz.underlying5 (by kernel_rfl) hf' with ⟨h0, _⟩ | ⟨a, len, cap, zs, h0, hb, hl, hm, hzl, _, hc, hw⟩
  · injection h0 with h0
    injection h0 with e1 e2 e3
    subst e1 e2 e3
    exact ⟨none, 0, 0, [], rfl, Sl.nil, fun z hz => (by cases hz), fun _ => ⟨rfl, rfl⟩, fun ad e => (by cases e), Nat.le_refl _, by omega⟩
  · injection h0 with h0
    injection h0 with e1 e2 e3
    subst e1 e2 e3
    refine ⟨some a, n, c, zs.take n, rfl, ⟨?_, fun hn => ?_⟩, fun z hz => bounds_u8 (hw z (List.mem_of_mem_take hz)), f1, f2, f3, f4⟩
    · rw [List.length_take, hzl]; simp; omega
    · obtain ⟨b, o, sp⟩ := a
      obtain rfl : sp = none := f2 _ rfl
      refine ⟨b, o, rfl, fun k x hx j u hu => ?_⟩
      rw [List.getElem?_take] at hx
      split at hx
      · rename_i hk
        rcases j with _ | j
        · simp only [u8c, List.getElem?_cons_zero, Option.some.injEq] at hu
          subst hu
          have hkl := (List.getElem?_eq_some_iff.1 hx).1
          have := hc k hkl
          rw [add_at] at this
          rw [Nat.mul_one, Nat.add_zero, this, List.getD, hx]
          rfl
        · simp [u8c] at hu
      · cases hx
end Go.Proofs.YtnnmlhmffnfjfaaGreat
