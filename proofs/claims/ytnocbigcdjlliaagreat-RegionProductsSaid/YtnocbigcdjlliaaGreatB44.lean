/-
  Texts: Prod4.
-/
import Derived.Test.YtnocbigcdjlliaaGreatB42
import Derived.Test.YtnocbigcdjlliaaGreatB43
set_option linter.unusedVariables false
/-
  Product of regions: the program's and the reference's say the same.
-/
namespace Go.Proofs.YtnocbigcdjlliaaGreat
open Go.RowKit
set_option maxRecDepth 100000
open Rg

def growW (a b : World) : Prop := Below a.heap.size a b
theorem growW_trans : ∀ a b c, growW a b → growW b c → growW a c := fun _ _ _ h k => Below.next h k
theorem graft_len (b : Rg) : ∀ r : Rg, (graft b r).len ≤ r.len + b.len
  | .nil x f => by
    unfold graft
    split
    · split
      · simp [Rg.len]
      · simp [Rg.len]
    · simp [Rg.len]
  | .cons vs rest tail => by
    have := graft_len b tail
    simp only [graft, Rg.len]
    omega
theorem smR_graft {b : Rg} (hb : b.size ≤ 64) (hsb : SmR b) : ∀ r : Rg, r.size ≤ 64 → SmR r → SmR (graft b r)
  | .nil x f, _, _ => by
    unfold graft
    split
    · split
      · exact hsb
      · trivial
    · trivial
  | .cons vs rest tail, hs, h => by
    simp only [Rg.size] at hs
    have h1 := graft_len b rest
    have h2 := len_le_size rest
    have h3 := len_le_size b
    exact ⟨h.1, by omega, smR_graft hb hsb rest (by omega) h.2.2.1, smR_graft hb hsb tail (by omega) h.2.2.2⟩
noncomputable def prErr (a b : Rg) : Int := if (okB a && okB b) = true then (if 12 < a.w + b.w then 2 else if (a.nix || b.nix) = true then 0 else if (64 : Int) < (a.size : Int) + (nbox a : Int) * (b.size : Int) then 2 else 0) else 40
noncomputable def prRes (a b : Rg) : Rg := if prErr a b = 0 then (if (a.nix || b.nix) = true then .nil (a.w + b.w) false else graft b a) else zeroR
theorem prod_nix {a b : Rg} (ha : OkR a) : (a.nix || b.nix) = true → prodR a b = .nil (a.w + b.w) false := fun h => by
  unfold prodR
  split
  · rfl
  · rename_i hb
    simp only [Bool.or_eq_true] at h
    have hn := h.resolve_right hb
    rw [graft_empty ha.2.2.2.1 hn]
    have := ha.1
    rw [Int.toNat_of_nonneg this]
theorem prod_lim {a b : Rg} (ha : OkR a) (hb : OkR b) (hw : ¬ 12 < a.w + b.w) : limE (prodR a b) = prErr a b ∧ limR (prodR a b) = prRes a b := by
  have h1 : prErr a b = (if (a.nix || b.nix) = true then 0 else if (64 : Int) < (a.size : Int) + (nbox a : Int) * (b.size : Int) then 2 else 0) := by
    unfold prErr
    rw [okB_true.2 ha, okB_true.2 hb, if_pos (show (true && true) = true from rfl), if_neg hw]
  by_cases hn : (a.nix || b.nix) = true
  · have e := prod_nix ha hn
    rw [e, h1, if_pos hn]
    have hl : limE (.nil (a.w + b.w) false) = 0 := by
      unfold limE
      rw [if_pos ⟨by simp [Rg.size], rfl⟩]
    refine ⟨hl, ?_⟩
    unfold limR prRes
    rw [if_pos hl, h1, if_pos hn, if_pos rfl, if_pos hn]
  · have hbn : ¬ b.nix = true := fun h => hn (by simp [h])
    have e : prodR a b = graft b a := by
      unfold prodR
      rw [if_neg hbn]
    have hs := graft_size (b := b) ha.2.2.2.1
    have hf := graft_fits (b := b) hb.2.2.2.2 ha.2.2.2.2
    have hE : limE (graft b a) = prErr a b := by
      rw [h1, if_neg hn]
      unfold limE
      rw [hs]
      by_cases h : (64 : Int) < (a.size : Int) + (nbox a : Int) * (b.size : Int)
      · rw [if_pos h, if_neg (fun hh => by
          have h3 : a.size + nbox a * b.size ≤ 64 := hh.1
          have h2 : ((a.size + nbox a * b.size : Nat) : Int) ≤ 64 := Int.ofNat_le.2 h3
          rw [Int.natCast_add, Int.natCast_mul] at h2
          omega)]
      · have h3 : a.size + nbox a * b.size ≤ 64 := by
          have h2 : ((a.size + nbox a * b.size : Nat) : Int) ≤ 64 := by
            rw [Int.natCast_add, Int.natCast_mul]
            omega
          exact Int.ofNat_le.1 h2
        rw [if_neg h, if_pos ⟨h3, hf⟩]
    rw [e]
    refine ⟨hE, ?_⟩
    unfold limR prRes
    rw [hE, if_neg hn]
theorem prod_sm {a b : Rg} (ha : OkR a) (hb : OkR b) : Sm (prodR a b) := by
  unfold prodR
  split
  · exact ⟨Nat.zero_le _, trivial⟩
  · have h1 := graft_len b a
    have h2 := len_le_size a
    have h3 := len_le_size b
    have h4 := ha.2.2.1
    have h5 := hb.2.2.1
    exact ⟨by omega, smR_graft h5 (sm_within (ok_form hb).2).2 a h4 (sm_within (ok_form ha).2).2⟩
set_option maxHeartbeats 8000000 in
theorem gproduct_any (a : Rg) (xa : Int) (fa : Bool) (Aa : Option Addr) (na ca : Nat) (b : Rg) (xb : Int) (fb : Bool) (Ab : Option Addr) (nb cb : Nat) (w : World) (hA : RgS w xa fa Aa na ca a) (hB : RgS w xb fb Ab nb cb b) :
    Calls Tryz.prog 52 #[.agg #[.int .i64 xa, .bool fa, .slice Aa na ca], .agg #[.int .i64 xb, .bool fb, .slice Ab nb cb]] w fun e w' => RgRes w (prRes a b) (prErr a b) e w' := by
  obtain ⟨er, Her⟩ : ∃ z, Hid (prErr a b = z) := ⟨_, rfl⟩
  obtain ⟨rr, Hrr⟩ : ∃ z, Hid (prRes a b = z) := ⟨_, rfl⟩
  rw [Her.out, Hrr.out]
  have Hz : er ≠ 0 → rr = zeroR := fun h => by rw [← Hrr.out, prRes, if_neg (by rw [Her.out]; exact h)]
  have HZ := Lib.hid Hz
  have HA := Lib.hid hA
  have HB := Lib.hid hB
  have Hxa := Lib.hid hA.hw
  have Hxb := Lib.hid hB.hw
  clear hA hB Hz
  obtain ⟨W0, HW0⟩ : ∃ W : World, Hid (((w.alloc (.cells #[.int .i64 xa, .bool fa, .slice Aa na ca] 28)).alloc (.cells #[.int .i64 xb, .bool fb, .slice Ab nb cb] 28)).alloc (.cells #[.int .i64 0, .bool false, .slice none 0 0] 28) = W) := ⟨_, rfl⟩
  have HC : Hid (Blk W0 w.heap.size 28 #[.int .i64 xa, .bool fa, .slice Aa na ca] ∧ Blk W0 (w.heap.size + 1) 28 #[.int .i64 xb, .bool fb, .slice Ab nb cb] ∧ Blk W0 (w.heap.size + 2) 28 #[.int .i64 0, .bool false, .slice none 0 0]) := by
    rw [← HW0.out]
    exact Lib.hid ⟨((Blk.new _ _ _).alloc _).alloc _, (Blk.step (by simp)).alloc _, Blk.step (by simp)⟩
  have HB0 : Hid (Below w.heap.size w W0) := by
    rw [← HW0.out]
    exact Lib.hid ((((Below.refl _ _).alloc (Nat.le_refl _) _).alloc (by simp) _).alloc (by simp; omega) _)
  obtain ⟨va, Hva⟩ : ∃ t, Hid (okB a = t) := ⟨_, rfl⟩
  obtain ⟨vb, Hvb⟩ : ∃ t, Hid (okB b = t) := ⟨_, rfl⟩
  go_enter Tryz.func52, Tryz.ntmps52
  go_upto_region 1 with fail
  rw [HW0.out]
  have z1 := HC.out.1.cell
  go_wp2_with fail
  refine (rvalidR_any a xa fa Aa na ca _ (HA.out.keep (keeps_of HB0.out))).mono ?_
  rintro e w1 ⟨rfl, hb1⟩
  rw [Hva.out]
  have HC1 := Lib.hid (And.intro (HC.out.1.below hb1) (And.intro (HC.out.2.1.below hb1) (HC.out.2.2.below hb1)))
  have HB1 := Lib.hid (Below.next HB0.out hb1)
  clear hb1 HC HB0 z1 HW0
  cases va
  · obtain rfl : er = 40 := by rw [← Her.out]; simp [prErr, Hva.out]
    obtain rfl := HZ.out (by omega)
    have zr := HC1.out.2.2.cell
    obtain ⟨ff1, ff2, ff3⟩ := put3R_free HC1.out.2.2 (.int .i64 0) (.bool false)
    have y3 := (put3R_blk (a' := .int .i64 0) (b' := .bool false) (c' := .slice none 0 0) HC1.out.2.2).cell
    have y1 := (HC1.out.2.2.set_ 0 (.int .i64 0)).cell
    have y2 := ((HC1.out.2.2.set_ 0 (.int .i64 0)).set_ 1 (.bool false)).cell
    have HBr := Lib.hid (put3R_below HB1.out (show w.heap.size ≤ w.heap.size + 2 by omega) (.int .i64 0) (.bool false) (.slice none 0 0))
    unfold put3R at y3
    go_wp2
    exact bodyPost_ret (v := .tuple #[.agg #[.int .i64 0, .bool false, .slice none 0 0], .int .i64 40]) (by simp [results, Tryz.results52, go_sem, y3]) rfl (RgRes.zero HBr.out)
  · have z2 := HC1.out.2.1.cell
    go_wp2_with fail
    refine (rvalidR_any b xb fb Ab nb cb _ (HB.out.keep (keeps_of HB1.out))).mono ?_
    rintro e w2 ⟨rfl, hb2⟩
    rw [Hvb.out]
    have HC2 := Lib.hid (And.intro (HC1.out.1.below hb2) (And.intro (HC1.out.2.1.below hb2) (HC1.out.2.2.below hb2)))
    have HB2 := Lib.hid (Below.next HB1.out hb2)
    clear hb2 HC1 HB1 z2
    cases vb
    · obtain rfl : er = 40 := by rw [← Her.out]; simp [prErr, Hva.out, Hvb.out]
      obtain rfl := HZ.out (by omega)
      have zr := HC2.out.2.2.cell
      obtain ⟨ff1, ff2, ff3⟩ := put3R_free HC2.out.2.2 (.int .i64 0) (.bool false)
      have y3 := (put3R_blk (a' := .int .i64 0) (b' := .bool false) (c' := .slice none 0 0) HC2.out.2.2).cell
      have y1 := (HC2.out.2.2.set_ 0 (.int .i64 0)).cell
      have y2 := ((HC2.out.2.2.set_ 0 (.int .i64 0)).set_ 1 (.bool false)).cell
      have HBr := Lib.hid (put3R_below HB2.out (show w.heap.size ≤ w.heap.size + 2 by omega) (.int .i64 0) (.bool false) (.slice none 0 0))
      unfold put3R at y3
      go_wp2
      exact bodyPost_ret (v := .tuple #[.agg #[.int .i64 0, .bool false, .slice none 0 0], .int .i64 40]) (by simp [results, Tryz.results52, go_sem, y3]) rfl (RgRes.zero HBr.out)
    · have hoa := okB_true.1 Hva.out
      have hob := okB_true.1 Hvb.out
      have hx1 : 0 ≤ xa := by have := hoa.1; have := Hxa.out; omega
      have hx2 : xa ≤ 12 := by have := hoa.2.1; have := Hxa.out; omega
      have hx3 : 0 ≤ xb := by have := hob.1; have := Hxb.out; omega
      have hx4 : xb ≤ 12 := by have := hob.2.1; have := Hxb.out; omega
      have HO := Lib.hid (And.intro hoa hob)
      clear hoa hob
      have z1 := HC2.out.1.cell
      have z2 := HC2.out.2.1.cell
      by_cases hw : 12 < xa + xb
      · obtain rfl : er = 2 := by
          rw [← Her.out, prErr, Hva.out, Hvb.out, if_pos (show (true && true) = true from rfl), if_pos (by rw [Hxa.out, Hxb.out]; exact hw)]
        obtain rfl := HZ.out (by omega)
        have zr := HC2.out.2.2.cell
        obtain ⟨ff1, ff2, ff3⟩ := put3R_free HC2.out.2.2 (.int .i64 0) (.bool false)
        have y3 := (put3R_blk (a' := .int .i64 0) (b' := .bool false) (c' := .slice none 0 0) HC2.out.2.2).cell
        have y1 := (HC2.out.2.2.set_ 0 (.int .i64 0)).cell
        have y2 := ((HC2.out.2.2.set_ 0 (.int .i64 0)).set_ 1 (.bool false)).cell
        have HBr := Lib.hid (put3R_below HB2.out (show w.heap.size ≤ w.heap.size + 2 by omega) (.int .i64 0) (.bool false) (.slice none 0 0))
        unfold put3R at y3
        go_wp2
        exact bodyPost_ret (v := .tuple #[.agg #[.int .i64 0, .bool false, .slice none 0 0], .int .i64 2]) (by simp [results, Tryz.results52, go_sem, y3]) rfl (RgRes.zero HBr.out)
      · have hE : er = (if (a.nix || b.nix) = true then 0 else if (64 : Int) < (a.size : Int) + (nbox a : Int) * (b.size : Int) then 2 else 0) := by
          rw [← Her.out, prErr, Hva.out, Hvb.out, if_pos (show (true && true) = true from rfl), if_neg (by rw [Hxa.out, Hxb.out]; exact hw)]
        have HE := Lib.hid hE
        clear hE
        obtain ⟨ya, Hya⟩ : ∃ z, Hid (a.nix = z) := ⟨_, rfl⟩
        obtain ⟨yb, Hyb⟩ : ∃ z, Hid (b.nix = z) := ⟨_, rfl⟩
        go_wp2_with fail
        refine (rempty_any xa fa Aa na ca a _ (HA.out.keep (keeps_of HB2.out))).mono ?_
        rintro e w3 ⟨rfl, hb3⟩
        rw [Hya.out]
        have HC3 := Lib.hid (And.intro (HC2.out.1.below hb3) (And.intro (HC2.out.2.1.below hb3) (HC2.out.2.2.below hb3)))
        have HB3 := Lib.hid (Below.next HB2.out hb3)
        clear hb3 HC2 z1 z2 HB2
        have z1 := HC3.out.1.cell
        have z2 := HC3.out.2.1.cell
        cases ya
        · go_wp2_with fail
          refine (rempty_any xb fb Ab nb cb b _ (HB.out.keep (keeps_of HB3.out))).mono ?_
          rintro e w4 ⟨rfl, hb4⟩
          rw [Hyb.out]
          have HC4 := Lib.hid (And.intro (HC3.out.1.below hb4) (And.intro (HC3.out.2.1.below hb4) (HC3.out.2.2.below hb4)))
          have HB4 := Lib.hid (Below.next HB3.out hb4)
          clear hb4 HC3 z1 z2 HB3
          have z1 := HC4.out.1.cell
          have z2 := HC4.out.2.1.cell
          cases yb
          · have hE : er = if (64 : Int) < (a.size : Int) + (nbox a : Int) * (b.size : Int) then 2 else 0 := by
              rw [HE.out, Hya.out, Hyb.out, if_neg (by decide)]
            have HE2 := Lib.hid hE
            clear hE
            go_upto_region 7 with fail
            clear z1 z2
            refine wp_region_planR [] (growW) (anyW) (growW_trans) (anyW_trans) (.one [0, 2, 5] [] 1 (.one [] [] 3 (.one [4] [] 6 (.last [7, 8, 9] [])))) (by kernel_rfl) (by kernel_rfl) (fun _ _ d _ _ h => by cases d <;> exact h) ?_
            have hbd : Below w4.heap.size w4 w4.drew := (Below.refl _ _).drew
            have HC5 := Lib.hid (And.intro (HC4.out.1.below hbd) (And.intro (HC4.out.2.1.below hbd) (HC4.out.2.2.below hbd)))
            have HB5 := Lib.hid (Below.next HB4.out hbd)
            generalize hW5 : w4.drew = w5 at *
            clear hW5 hbd HC4 HB4
            have qa : ∀ (y : LaterR growW w5) z, (afterR growW w5 y).cell? ⟨w.heap.size, z, none⟩ = (#[.int .i64 xa, .bool fa, .slice Aa na ca] : Array Value)[z]? := fun y z => y.cell (HC5.out.1.cell z) (fun W h => (HC5.out.1.below h).cell z)
            have qb : ∀ (y : LaterR growW w5) z, (afterR growW w5 y).cell? ⟨w.heap.size + 1, z, none⟩ = (#[.int .i64 xb, .bool fb, .slice Ab nb cb] : Array Value)[z]? := fun y z => y.cell (HC5.out.2.1.cell z) (fun W h => (HC5.out.2.1.below h).cell z)
            unfold wpPlanR
            simp only [pickOps, opAt, List.map_cons, List.map_nil, List.getElem?_toArray, List.getElem?_cons_zero, List.getElem?_cons_succ, Option.getD_some]
            repeat (go_big_quiet_step (fail))
            refine wpQuiet_nil ?_
            repeat (go_big_quiet_step (fail))
            refine wpQuiet_nil ?_
            clear qa qb
            have hsa : a.size ≤ 64 := HO.out.1.2.2.1
            have hsb : b.size ≤ 64 := HO.out.2.2.2.1
            go_wp2_with fail
            refine (rsize_any a xa fa Aa na ca _ (HA.out.keep (keeps_of HB5.out)) (by omega)).mono ?_
            rintro e w6 ⟨rfl, hb⟩
            go_wp2_with fail
            refine ⟨⟨fun _ => hb, trivial⟩, ?_⟩
            have HB6 := Lib.hid (Below.next HB5.out hb)
            have HC6 := Lib.hid (And.intro (HC5.out.1.below hb) (And.intro (HC5.out.2.1.below hb) (HC5.out.2.2.below hb)))
            clear hb HB5 HC5
            unfold wpPlanR
            simp only [pickOps, opAt, List.map_nil, List.getElem?_toArray, List.getElem?_cons_zero, List.getElem?_cons_succ, Option.getD_some]
            repeat (go_big_quiet_step (fail))
            refine wpQuiet_nil ?_
            repeat (go_big_quiet_step (fail))
            refine wpQuiet_nil ?_
            go_wp2_with fail
            refine (gboxes_any w6 a.w.toNat a xa fa Aa na ca _ (by have := HO.out.1.2.1; omega) HO.out.1.2.2.2 hsa (HA.out.keep (keeps_of HB6.out)) (Below.refl _ _)).mono ?_
            rintro e w7 ⟨A7, n7, c7, es, rfl, _, hle, _, heq, hb⟩
            go_wp2_with fail
            refine ⟨⟨fun _ => hb, trivial⟩, ?_⟩
            have hn7 : n7 = nbox a := by rw [← hle, ← boxesR_len, ← heq, List.length_map]
            have hn65 : nbox a ≤ 65 := by have := (nbox_le HO.out.1.2.2.2.1).1; omega
            have HB7 := Lib.hid (Below.next HB6.out hb)
            have HC7 := Lib.hid (And.intro (HC6.out.1.below hb) (And.intro (HC6.out.2.1.below hb) (HC6.out.2.2.below hb)))
            subst hn7
            clear hb HB6 HC6 hle heq
            unfold wpPlanR
            simp only [pickOps, opAt, List.map_cons, List.map_nil, List.getElem?_toArray, List.getElem?_cons_zero, List.getElem?_cons_succ, Option.getD_some]
            repeat (go_big_quiet_step (fail))
            refine wpQuiet_nil ?_
            repeat (go_big_quiet_step (fail))
            refine wpQuiet_nil ?_
            go_wp2_with fail
            refine (rsize_any b xb fb Ab nb cb _ (HB.out.keep (keeps_of HB7.out)) (by omega)).mono ?_
            rintro e w8 ⟨rfl, hb⟩
            go_wp2_with fail
            refine ⟨⟨fun _ => hb, trivial⟩, ?_⟩
            have HB8 := Lib.hid (Below.next HB7.out hb)
            have HC8 := Lib.hid (And.intro (HC7.out.1.below hb) (And.intro (HC7.out.2.1.below hb) (HC7.out.2.2.below hb)))
            clear hb HB7 HC7
            have hm1 : 0 ≤ (nbox a : Int) * (b.size : Int) := Int.mul_nonneg (by omega) (by omega)
            have hm2 : (nbox a : Int) * (b.size : Int) ≤ 65 * 64 := Int.mul_le_mul (by omega) (by omega) (by omega) (by omega)
            obtain ⟨sa, Hsa⟩ : ∃ z : Int, Hid ((a.size : Int) = z) := ⟨_, rfl⟩
            obtain ⟨mm, Hmm⟩ : ∃ z : Int, Hid ((nbox a : Int) * (b.size : Int) = z) := ⟨_, rfl⟩
            have hsa1 : 0 ≤ sa := by rw [← Hsa.out]; omega
            have hsa2 : sa ≤ 64 := by rw [← Hsa.out]; omega
            rw [Hmm.out] at hm1 hm2
            have hmm : (nbox a : Int) * (b.size : Int) = mm := Hmm.out
            have hss : (a.size : Int) = sa := Hsa.out
            have HE3 : Hid (er = if 64 < sa + mm then 2 else 0) := Lib.hid (by rw [HE2.out, hmm, hss])
            clear hsa hsb hn65
            unfold wpPlanR
            simp only [pickOps, opAt, List.map_cons, List.map_nil, List.getElem?_toArray, List.getElem?_cons_zero, List.getElem?_cons_succ, Option.getD_some]
            repeat (go_big_quiet_step (fail))
            refine wpQuiet_nil ?_
            repeat (go_big_quiet_step (fail))
            refine wpQuiet_nil ?_
            clear hmm hss
            have z1 := HC8.out.1.cell
            have z2 := HC8.out.2.1.cell
            by_cases hbig : 64 < sa + mm
            · obtain rfl : er = 2 := by rw [HE3.out, if_pos hbig]
              obtain rfl := HZ.out (by omega)
              have zr := HC8.out.2.2.cell
              obtain ⟨ff1, ff2, ff3⟩ := put3R_free HC8.out.2.2 (.int .i64 0) (.bool false)
              have y3 := (put3R_blk (a' := .int .i64 0) (b' := .bool false) (c' := .slice none 0 0) HC8.out.2.2).cell
              have y1 := (HC8.out.2.2.set_ 0 (.int .i64 0)).cell
              have y2 := ((HC8.out.2.2.set_ 0 (.int .i64 0)).set_ 1 (.bool false)).cell
              have HBr := Lib.hid (put3R_below HB8.out (show w.heap.size ≤ w.heap.size + 2 by omega) (.int .i64 0) (.bool false) (.slice none 0 0))
              unfold put3R at y3
              go_wp2
              exact bodyPost_ret (v := .tuple #[.agg #[.int .i64 0, .bool false, .slice none 0 0], .int .i64 2]) (by simp [results, Tryz.results52, go_sem, y3]) rfl (RgRes.zero HBr.out)
            · obtain rfl : er = 0 := by rw [HE3.out, if_neg hbig]
              obtain rfl : rr = graft b a := by
                rw [← Hrr.out, prRes, if_pos Her.out, Hya.out, Hyb.out, if_neg (by decide)]
              go_wp2_with fail
              refine (gextend_any b b.w.toNat HO.out.2.2.2.2 Hyb.out (by have := HO.out.2.2.1; omega) HO.out.2.2.2.1 a.w.toNat a xa fa Aa na ca xb fb Ab nb cb _ (by have := HO.out.1.2.1; omega) HO.out.1.2.2.2 Hya.out HO.out.1.2.2.1 (HA.out.keep (keeps_of HB8.out)) (HB.out.keep (keeps_of HB8.out))).mono ?_
              rintro e w9 ⟨x9, f9, A9, n9, c9, rfl, hF9, hb9⟩
              have hS9 := hF9.s
              clear hF9 z1 z2
              have HT9 := Lib.hid (HC8.out.2.2.below hb9)
              have zr := HT9.out.cell
              obtain ⟨ff1, ff2, ff3⟩ := put3R_free HT9.out (.int .i64 x9) (.bool f9)
              have y3 := (put3R_blk (a' := .int .i64 x9) (b' := .bool f9) (c' := .slice A9 n9 c9) HT9.out).cell
              have y1 := (HT9.out.set_ 0 (.int .i64 x9)).cell
              have y2 := ((HT9.out.set_ 0 (.int .i64 x9)).set_ 1 (.bool f9)).cell
              have HBr := Lib.hid (put3R_below (Below.next HB8.out hb9) (show w.heap.size ≤ w.heap.size + 2 by omega) (.int .i64 x9) (.bool f9) (.slice A9 n9 c9))
              have HR9 := Lib.hid (RgS.off HT9.out (put3R_but _ (w.heap.size + 2) (.int .i64 x9) (.bool f9) (.slice A9 n9 c9)) hS9)
              unfold put3R at y3
              clear hb9
              go_wp2
              exact bodyPost_ret (v := .tuple #[.agg #[.int .i64 x9, .bool f9, .slice A9 n9 c9], .int .i64 0]) (by simp [results, Tryz.results52, go_sem, y3]) rfl ⟨x9, f9, A9, n9, c9, rfl, HR9.out, HBr.out⟩
          · obtain rfl : er = 0 := by rw [HE.out, Hya.out, Hyb.out, if_pos (by decide)]
            obtain rfl : rr = .nil (xa + xb) false := by
              rw [← Hrr.out, prRes, if_pos Her.out, Hya.out, Hyb.out, if_pos (by decide), Hxa.out, Hxb.out]
            have zr := HC4.out.2.2.cell
            obtain ⟨ff1, ff2, ff3⟩ := put3R_free HC4.out.2.2 (.int .i64 (xa + xb)) (.bool false)
            have y3 := (put3R_blk (a' := .int .i64 (xa + xb)) (b' := .bool false) (c' := .slice none 0 0) HC4.out.2.2).cell
            have y1 := (HC4.out.2.2.set_ 0 (.int .i64 (xa + xb))).cell
            have y2 := ((HC4.out.2.2.set_ 0 (.int .i64 (xa + xb))).set_ 1 (.bool false)).cell
            have HBr := Lib.hid (put3R_below HB4.out (show w.heap.size ≤ w.heap.size + 2 by omega) (.int .i64 (xa + xb)) (.bool false) (.slice none 0 0))
            unfold put3R at y3
            go_wp2
            exact bodyPost_ret (v := .tuple #[.agg #[.int .i64 (xa + xb), .bool false, .slice none 0 0], .int .i64 0]) (by simp [results, Tryz.results52, go_sem, y3]) rfl ⟨xa + xb, false, none, 0, 0, rfl, RgS.nil _ _, HBr.out⟩
        · obtain rfl : er = 0 := by rw [HE.out, Hya.out, if_pos (by simp)]
          obtain rfl : rr = .nil (xa + xb) false := by
            rw [← Hrr.out, prRes, if_pos Her.out, Hya.out, if_pos (by simp), Hxa.out, Hxb.out]
          have zr := HC3.out.2.2.cell
          obtain ⟨ff1, ff2, ff3⟩ := put3R_free HC3.out.2.2 (.int .i64 (xa + xb)) (.bool false)
          have y3 := (put3R_blk (a' := .int .i64 (xa + xb)) (b' := .bool false) (c' := .slice none 0 0) HC3.out.2.2).cell
          have y1 := (HC3.out.2.2.set_ 0 (.int .i64 (xa + xb))).cell
          have y2 := ((HC3.out.2.2.set_ 0 (.int .i64 (xa + xb))).set_ 1 (.bool false)).cell
          have HBr := Lib.hid (put3R_below HB3.out (show w.heap.size ≤ w.heap.size + 2 by omega) (.int .i64 (xa + xb)) (.bool false) (.slice none 0 0))
          unfold put3R at y3
          go_wp2
          exact bodyPost_ret (v := .tuple #[.agg #[.int .i64 (xa + xb), .bool false, .slice none 0 0], .int .i64 0]) (by simp [results, Tryz.results52, go_sem, y3]) rfl ⟨xa + xb, false, none, 0, 0, rfl, RgS.nil _ _, HBr.out⟩
set_option maxHeartbeats 8000000 in
theorem fproductE_any (a : Rg) (xa : Int) (fa : Bool) (Aa : Option Addr) (na ca : Nat) (b : Rg) (xb : Int) (fb : Bool) (Ab : Option Addr) (nb cb : Nat) (w : World) (hA : RgS w xa fa Aa na ca a) (hB : RgS w xb fb Ab nb cb b) :
    Calls Tryz.prog 53 #[.agg #[.int .i64 xa, .bool fa, .slice Aa na ca], .agg #[.int .i64 xb, .bool fb, .slice Ab nb cb]] w fun e w' => RgRes w (prRes a b) (prErr a b) e w' := by
  obtain ⟨er, Her⟩ : ∃ z, Hid (prErr a b = z) := ⟨_, rfl⟩
  obtain ⟨rr, Hrr⟩ : ∃ z, Hid (prRes a b = z) := ⟨_, rfl⟩
  rw [Her.out, Hrr.out]
  have Hz : er ≠ 0 → rr = zeroR := fun h => by rw [← Hrr.out, prRes, if_neg (by rw [Her.out]; exact h)]
  have HZ := Lib.hid Hz
  have HA := Lib.hid hA
  have HB := Lib.hid hB
  have Hxa := Lib.hid hA.hw
  have Hxb := Lib.hid hB.hw
  clear hA hB Hz
  obtain ⟨W0, HW0⟩ : ∃ W : World, Hid (((w.alloc (.cells #[.int .i64 xa, .bool fa, .slice Aa na ca] 28)).alloc (.cells #[.int .i64 xb, .bool fb, .slice Ab nb cb] 28)).alloc (.cells #[.int .i64 0, .bool false, .slice none 0 0] 28) = W) := ⟨_, rfl⟩
  have HC : Hid (Blk W0 w.heap.size 28 #[.int .i64 xa, .bool fa, .slice Aa na ca] ∧ Blk W0 (w.heap.size + 1) 28 #[.int .i64 xb, .bool fb, .slice Ab nb cb] ∧ Blk W0 (w.heap.size + 2) 28 #[.int .i64 0, .bool false, .slice none 0 0]) := by
    rw [← HW0.out]
    exact Lib.hid ⟨((Blk.new _ _ _).alloc _).alloc _, (Blk.step (by simp)).alloc _, Blk.step (by simp)⟩
  have HB0 : Hid (Below w.heap.size w W0) := by
    rw [← HW0.out]
    exact Lib.hid ((((Below.refl _ _).alloc (Nat.le_refl _) _).alloc (by simp) _).alloc (by simp; omega) _)
  obtain ⟨va, Hva⟩ : ∃ t, Hid (okB a = t) := ⟨_, rfl⟩
  obtain ⟨vb, Hvb⟩ : ∃ t, Hid (okB b = t) := ⟨_, rfl⟩
  go_enter Tryz.func53, Tryz.ntmps53
  go_upto_region 1 with fail
  rw [HW0.out]
  have z1 := HC.out.1.cell
  go_wp2_with fail
  refine (fvalid_any a xa fa Aa na ca _ (HA.out.keep (keeps_of HB0.out))).mono ?_
  rintro e w1 ⟨rfl, hb1⟩
  rw [Hva.out]
  have HC1 := Lib.hid (And.intro (HC.out.1.below hb1) (And.intro (HC.out.2.1.below hb1) (HC.out.2.2.below hb1)))
  have HB1 := Lib.hid (Below.next HB0.out hb1)
  clear hb1 HC HB0 z1 HW0
  cases va
  · obtain rfl : er = 40 := by rw [← Her.out]; simp [prErr, Hva.out]
    obtain rfl := HZ.out (by omega)
    have zr := HC1.out.2.2.cell
    obtain ⟨ff1, ff2, ff3⟩ := put3R_free HC1.out.2.2 (.int .i64 0) (.bool false)
    have y3 := (put3R_blk (a' := .int .i64 0) (b' := .bool false) (c' := .slice none 0 0) HC1.out.2.2).cell
    have y1 := (HC1.out.2.2.set_ 0 (.int .i64 0)).cell
    have y2 := ((HC1.out.2.2.set_ 0 (.int .i64 0)).set_ 1 (.bool false)).cell
    have HBr := Lib.hid (put3R_below HB1.out (show w.heap.size ≤ w.heap.size + 2 by omega) (.int .i64 0) (.bool false) (.slice none 0 0))
    unfold put3R at y3
    go_wp2
    exact bodyPost_ret (v := .tuple #[.agg #[.int .i64 0, .bool false, .slice none 0 0], .int .i64 40]) (by simp [results, Tryz.results53, go_sem, y3]) rfl (RgRes.zero HBr.out)
  · have z2 := HC1.out.2.1.cell
    go_wp2_with fail
    refine (fvalid_any b xb fb Ab nb cb _ (HB.out.keep (keeps_of HB1.out))).mono ?_
    rintro e w2 ⟨rfl, hb2⟩
    rw [Hvb.out]
    have HC2 := Lib.hid (And.intro (HC1.out.1.below hb2) (And.intro (HC1.out.2.1.below hb2) (HC1.out.2.2.below hb2)))
    have HB2 := Lib.hid (Below.next HB1.out hb2)
    clear hb2 HC1 HB1 z2
    cases vb
    · obtain rfl : er = 40 := by rw [← Her.out]; simp [prErr, Hva.out, Hvb.out]
      obtain rfl := HZ.out (by omega)
      have zr := HC2.out.2.2.cell
      obtain ⟨ff1, ff2, ff3⟩ := put3R_free HC2.out.2.2 (.int .i64 0) (.bool false)
      have y3 := (put3R_blk (a' := .int .i64 0) (b' := .bool false) (c' := .slice none 0 0) HC2.out.2.2).cell
      have y1 := (HC2.out.2.2.set_ 0 (.int .i64 0)).cell
      have y2 := ((HC2.out.2.2.set_ 0 (.int .i64 0)).set_ 1 (.bool false)).cell
      have HBr := Lib.hid (put3R_below HB2.out (show w.heap.size ≤ w.heap.size + 2 by omega) (.int .i64 0) (.bool false) (.slice none 0 0))
      unfold put3R at y3
      go_wp2
      exact bodyPost_ret (v := .tuple #[.agg #[.int .i64 0, .bool false, .slice none 0 0], .int .i64 40]) (by simp [results, Tryz.results53, go_sem, y3]) rfl (RgRes.zero HBr.out)
    · have hoa := okB_true.1 Hva.out
      have hob := okB_true.1 Hvb.out
      have hx1 : 0 ≤ xa := by have := hoa.1; have := Hxa.out; omega
      have hx2 : xa ≤ 12 := by have := hoa.2.1; have := Hxa.out; omega
      have hx3 : 0 ≤ xb := by have := hob.1; have := Hxb.out; omega
      have hx4 : xb ≤ 12 := by have := hob.2.1; have := Hxb.out; omega
      have HO := Lib.hid (And.intro hoa hob)
      clear hoa hob
      have z1 := HC2.out.1.cell
      have z2 := HC2.out.2.1.cell
      by_cases hw : 12 < xa + xb
      · obtain rfl : er = 2 := by
          rw [← Her.out, prErr, Hva.out, Hvb.out, if_pos (show (true && true) = true from rfl), if_pos (by rw [Hxa.out, Hxb.out]; exact hw)]
        obtain rfl := HZ.out (by omega)
        have zr := HC2.out.2.2.cell
        obtain ⟨ff1, ff2, ff3⟩ := put3R_free HC2.out.2.2 (.int .i64 0) (.bool false)
        have y3 := (put3R_blk (a' := .int .i64 0) (b' := .bool false) (c' := .slice none 0 0) HC2.out.2.2).cell
        have y1 := (HC2.out.2.2.set_ 0 (.int .i64 0)).cell
        have y2 := ((HC2.out.2.2.set_ 0 (.int .i64 0)).set_ 1 (.bool false)).cell
        have HBr := Lib.hid (put3R_below HB2.out (show w.heap.size ≤ w.heap.size + 2 by omega) (.int .i64 0) (.bool false) (.slice none 0 0))
        unfold put3R at y3
        go_wp2
        exact bodyPost_ret (v := .tuple #[.agg #[.int .i64 0, .bool false, .slice none 0 0], .int .i64 2]) (by simp [results, Tryz.results53, go_sem, y3]) rfl (RgRes.zero HBr.out)
      · have hE : er = (if (a.nix || b.nix) = true then 0 else if (64 : Int) < (a.size : Int) + (nbox a : Int) * (b.size : Int) then 2 else 0) := by
          rw [← Her.out, prErr, Hva.out, Hvb.out, if_pos (show (true && true) = true from rfl), if_neg (by rw [Hxa.out, Hxb.out]; exact hw)]
        have HE := Lib.hid hE
        clear hE
        go_wp2_with fail
        refine (fproduct_any b b.w.toNat HO.out.2.2.2.2 (by have := HO.out.2.2.1; omega) HO.out.2.2.2.1 a.w.toNat a xa fa Aa na ca xb fb Ab nb cb _ (by have := HO.out.1.2.1; omega) HO.out.1.2.2.2 HO.out.1.2.2.1 (HA.out.keep (keeps_of HB2.out)) (HB.out.keep (keeps_of HB2.out))).mono ?_
        rintro e w3 ⟨x3, f3, A3, n3, c3, rfl, hF3, hb3⟩
        have HC3 := Lib.hid (HC2.out.2.2.below hb3)
        have HB3 := Lib.hid (Below.next HB2.out hb3)
        have HS3 := Lib.hid hF3.s
        clear hF3 hb3 z1 z2 HC2
        have hpl := prod_lim HO.out.1 HO.out.2 (by rw [Hxa.out, Hxb.out]; omega)
        go_wp2_with fail
        refine (flimited_any (prodR a b) x3 f3 A3 n3 c3 _ HS3.out (prod_sm HO.out.1 HO.out.2)).mono ?_
        rintro e w4 ⟨x9, f9, A9, n9, c9, rfl, hS9, hb9⟩
        rw [hpl.1, Her.out]
        rw [hpl.2, Hrr.out] at hS9
        clear hpl
        have HT9 := Lib.hid (HC3.out.below hb9)
        have zr := HT9.out.cell
        obtain ⟨ff1, ff2, ff3⟩ := put3R_free HT9.out (.int .i64 x9) (.bool f9)
        have y3 := (put3R_blk (a' := .int .i64 x9) (b' := .bool f9) (c' := .slice A9 n9 c9) HT9.out).cell
        have y1 := (HT9.out.set_ 0 (.int .i64 x9)).cell
        have y2 := ((HT9.out.set_ 0 (.int .i64 x9)).set_ 1 (.bool f9)).cell
        have HBr := Lib.hid (put3R_below (Below.next HB3.out hb9) (show w.heap.size ≤ w.heap.size + 2 by omega) (.int .i64 x9) (.bool f9) (.slice A9 n9 c9))
        have HR9 := Lib.hid (RgS.off HT9.out (put3R_but _ (w.heap.size + 2) (.int .i64 x9) (.bool f9) (.slice A9 n9 c9)) hS9)
        unfold put3R at y3
        clear hb9
        go_wp2
        exact bodyPost_ret (v := .tuple #[.agg #[.int .i64 x9, .bool f9, .slice A9 n9 c9], .int .i64 er]) (by simp [results, Tryz.results53, go_sem, y3]) rfl ⟨x9, f9, A9, n9, c9, rfl, HR9.out, HBr.out⟩
end Go.Proofs.YtnocbigcdjlliaaGreat
