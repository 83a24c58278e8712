/-
  Texts: FA, FCopy.
-/
import Derived.Test.YtmnmckblmoalkaaGreatB27
set_option linter.unusedVariables false
/-
  The reference's small functions on regions: none, count, fits, at, rest, Empty.
-/
namespace Go.Proofs.YtmnmckblmoalkaaGreat
open Go.RowKit
set_option maxRecDepth 100000
open Rg

theorem fnone_any (x : Int) (f : Bool) (A : Option Addr) (n c : Nat) (r : Rg) (w : World) (hR : RgS w x f A n c r) :
    Calls Tryz.prog 109 #[.agg #[.int .i64 x, .bool f, .slice A n c]] w fun e w' => e = .returned (.bool r.nix) ∧ Below w.heap.size w w' := by
  rw [nix_len, ← hR.len, hR.hf]
  clear hR
  cases f
  · go_enter Tryz.func109, Tryz.ntmps109
    go_wp2
    go_ret
    refine ⟨ret_bool ?_, (Below.refl _ _).alloc (Nat.le_refl _) _⟩
    rw [Bool.eq_iff_iff]
    simp
  · go_enter Tryz.func109, Tryz.ntmps109
    go_wp2
    go_ret
    exact ⟨ret_bool (by simp), (Below.refl _ _).alloc (Nat.le_refl _) _⟩

/-- the count from m on, which stops above 64 -/
def cntR (m : Nat) (r : Rg) : Nat := if m + r.size ≤ 64 then m + r.size else 65
set_option maxHeartbeats 1000000 in
theorem fcount_any (r : Rg) : ∀ (x : Int) (f : Bool) (A : Option Addr) (n c m : Nat) (w : World), RgS w x f A n c r → m ≤ 64 →
    Calls Tryz.prog 107 #[.agg #[.int .i64 x, .bool f, .slice A n c], .int .i64 (m : Int)] w fun e w' => e = .returned (.int .i64 (cntR m r : Int)) ∧ Below w.heap.size w w' := by
  induction hsz : r.size using Nat.strongRecOn generalizing r with
  | _ s ih =>
    intro x f A n c m w hR hm
    have HI := Lib.hid ih
    have HR := Lib.hid hR
    have Hsz := Lib.hid hsz
    have hnc := hR.ok.1
    have HL : Hid (m + sizeL (r.parts.drop 0) = m + s) := by
      show _ = _
      rw [List.drop_zero, ← size_parts, hsz]
    generalize hz : cntR m r = z
    have HZ : Hid ((if m + s ≤ 64 then m + s else 65) = z) := by
      show _ = _
      rw [← hz, cntR, hsz]
    have hB0 : Below w.heap.size w (w.alloc (.cells #[.int .i64 x, .bool f, .slice A n c] 27)) := (Below.refl _ _).alloc (Nat.le_refl _) _
    obtain ⟨W0, HW0⟩ : ∃ W : World, Hid (w.alloc (.cells #[.int .i64 x, .bool f, .slice A n c] 27) = W) := ⟨_, rfl⟩
    rw [HW0.out] at hB0
    have E1 : Hid (Blk W0 w.heap.size 27 #[.int .i64 x, .bool f, .slice A n c]) := by
      have := Blk.new w 27 #[.int .i64 x, .bool f, .slice A n c]
      rw [HW0.out] at this
      exact this
    clear ih hR hsz hz
    go_enter Tryz.func107, Tryz.ntmps107
    go_wp2
    go_loopw [1, 9] (fun v i wr => ∃ (k q : Nat), k ≤ n ∧ i = .int .i64 (k : Int) ∧ v = .int .i64 (q : Int) ∧ q ≤ 64 ∧ m + k ≤ q ∧ Hid (q + sizeL (r.parts.drop k) = m + s) ∧ Below W0.heap.size W0 wr) (fun _ i _ => n - (intOf i).toNat)
    case atStart => exact ⟨0, m, by omega, rfl, rfl, hm, by omega, HL, by rw [HW0.out]; exact Below.refl _ _⟩
    case round =>
      obtain ⟨k, q, hk, rfl, rfl, hq64, hmk, Hq, hb0⟩ := hrel
      have hb := Below.next hB0 hb0
      by_cases hlt : k < n
      · obtain ⟨b, o, p, A1, n1, c1, px, pf, A2, n2, c2, rfl, hp, hpt⟩ := (HR.out.keep (keeps_of hb)).at hlt
        have hps := size_at hp
        rw [Hsz.out] at hps
        have Hd := Lib.hid (sizeL_drop hp)
        obtain ⟨d0, d1, d2, d3, hok, hvs, hrg⟩ := hpt
        have HRG := Lib.hid hrg
        have z1 := (E1.out.below hb0).cell
        clear hp hok hvs hrg
        rcases Nat.lt_or_ge q 64 with hq | hq
        · have g1 : decide (64 < (q : Int) + 1) = false := by simp; omega
          have HI' := Lib.hid (HI.out p.2.size hps p.2 rfl)
          go_wp2_with fail
          refine (HI'.out px pf A2 n2 c2 (q + 1) _ HRG.out (by omega)).mono ?_
          rintro e w2 ⟨rfl, hb2⟩
          have HB2 := Lib.hid (Below.next hb0 hb2)
          clear z1 d0 d1 d2 d3 hb2
          by_cases hfit : q + 1 + p.2.size ≤ 64
          · have e1 : cntR (q + 1) p.2 = q + 1 + p.2.size := by rw [cntR, if_pos hfit]
            rw [e1]
            have g2 : decide (64 < ((q + 1 + p.2.size : Nat) : Int)) = false := by simp; omega
            go_wp2
            go_roundw
            case rel =>
              refine ⟨k + 1, q + 1 + p.2.size, by omega, by go_num, rfl, hfit, by omega, ?_, HB2.out⟩
              show _ = _
              have h1 := Hq.out
              have h2 := Hd.out
              omega
            case measure => simp [intOf]; omega
          · have e1 : cntR (q + 1) p.2 = 65 := by rw [cntR, if_neg hfit]
            rw [e1]
            have hz : z = 65 := by
              rw [← HZ.out, if_neg]
              have h1 := Hq.out
              have h2 := Hd.out
              omega
            clear hfit
            go_wp2
            go_ret
            exact ⟨ret_i64 (by rw [hz]; rfl), Below.next hB0 HB2.out⟩
        · have g1 : decide (64 < (q : Int) + 1) = true := by simp; omega
          have hz : z = q + 1 := by
            rw [← HZ.out, if_neg]
            · omega
            · have h1 := Hq.out
              have h2 := Hd.out
              omega
          go_wp2
          go_ret
          exact ⟨ret_i64 (by rw [hz]; omega), hb⟩
      · have hz : z = q := by
          have h1 := Hq.out
          rw [List.drop_eq_nil_of_le (by rw [len_parts]; have := HR.out.len; omega)] at h1
          simp only [sizeL, List.map_nil, List.sum_nil] at h1
          rw [← HZ.out, if_pos] <;> omega
        go_wp2
        go_ret
        exact ⟨ret_i64 (by rw [hz]), hb⟩

set_option maxHeartbeats 1000000 in
theorem ffits_any (r : Rg) : ∀ (x : Int) (f : Bool) (A : Option Addr) (n c : Nat) (w : World), RgS w x f A n c r → Sm r →
    Calls Tryz.prog 168 #[.agg #[.int .i64 x, .bool f, .slice A n c]] w fun e w' => e = .returned (.bool r.fits) ∧ Below w.heap.size w w' := by
  induction hsz : r.size using Nat.strongRecOn generalizing r with
  | _ s ih =>
    intro x f A n c w hR hsm
    have HI := Lib.hid ih
    have HR := Lib.hid hR
    have Hsz := Lib.hid hsz
    have HSM := Lib.hid hsm
    have hn : n ≤ 100000 := by rw [hR.len]; exact hsm.1
    have hnc := hR.ok.1
    generalize hz : r.fits = z
    have HZ : Hid (((r.parts.drop 0).all fun p => decide (p.1.length ≤ 64) && p.2.fits) = z) := by
      show _ = _
      rw [List.drop_zero, ← hz, Bool.eq_iff_iff, List.all_eq_true, fits_iff]
      simp
    have hB0 : Below w.heap.size w (w.alloc (.cells #[.int .i64 x, .bool f, .slice A n c] 27)) := (Below.refl _ _).alloc (Nat.le_refl _) _
    obtain ⟨W0, HW0⟩ : ∃ W : World, Hid (w.alloc (.cells #[.int .i64 x, .bool f, .slice A n c] 27) = W) := ⟨_, rfl⟩
    rw [HW0.out] at hB0
    have E1 : Hid (Blk W0 w.heap.size 27 #[.int .i64 x, .bool f, .slice A n c]) := by
      have := Blk.new w 27 #[.int .i64 x, .bool f, .slice A n c]
      rw [HW0.out] at this
      exact this
    clear ih hR hsz hz hsm
    go_enter Tryz.func168, Tryz.ntmps168
    go_wp2
    go_loopw [7] (fun i wr => ∃ k : Nat, k ≤ n ∧ i = .int .i64 (k : Int) ∧ Hid (((r.parts.drop k).all fun p => decide (p.1.length ≤ 64) && p.2.fits) = z) ∧ Below W0.heap.size W0 wr) (fun i _ => n - (intOf i).toNat)
    case atStart => exact ⟨0, by omega, rfl, HZ, by rw [HW0.out]; exact Below.refl _ _⟩
    case round =>
      obtain ⟨k, hk, rfl, Hq, hb0⟩ := hrel
      have hb := Below.next hB0 hb0
      by_cases hlt : k < n
      · obtain ⟨b, o, p, A1, n1, c1, px, pf, A2, n2, c2, rfl, hp, hpt⟩ := (HR.out.keep (keeps_of hb)).at hlt
        have hps := size_at hp
        rw [Hsz.out] at hps
        have HSP := Lib.hid (HSM.out.mem (List.mem_of_getElem? hp))
        have Hq2 : Hid (((decide (p.1.length ≤ 64) && p.2.fits) && (r.parts.drop (k + 1)).all fun p => decide (p.1.length ≤ 64) && p.2.fits) = z) := by
          show _ = _
          rw [← Hq.out, drop_at hp, List.all_cons]
        obtain ⟨d0, d1, d2, d3, hok, hvs, hrg⟩ := hpt
        have Hln := Lib.hid hvs.len
        have hn1 : n1 ≤ 100000 := by rw [← hvs.len]; exact HSP.out.1
        have HRG := Lib.hid hrg
        have z1 := (E1.out.below hb0).cell
        clear hp hok hvs hrg
        rcases Nat.lt_or_ge 64 n1 with h64 | h64
        · have g1 : decide (64 < (n1 : Int)) = true := by simp; omega
          have hz : z = false := by rw [← Hq2.out, decide_eq_false (by rw [Hln.out]; omega)]; rfl
          go_wp2
          go_ret
          exact ⟨ret_bool hz.symm, hb⟩
        · have g1 : decide (64 < (n1 : Int)) = false := by simp; omega
          have HI' := Lib.hid (HI.out p.2.size hps p.2 rfl)
          go_wp2_with fail
          refine (HI'.out px pf A2 n2 c2 _ HRG.out HSP.out.2).mono ?_
          rintro e w2 ⟨rfl, hb2⟩
          have HB2 := Lib.hid (Below.next hb0 hb2)
          have Hq3 : Hid ((p.2.fits && (r.parts.drop (k + 1)).all fun p => decide (p.1.length ≤ 64) && p.2.fits) = z) := by
            show _ = _
            rw [← Hq2.out, decide_eq_true (show p.1.length ≤ 64 by rw [Hln.out]; omega), Bool.true_and]
          obtain ⟨v, Hv⟩ : ∃ t, Hid (p.2.fits = t) := ⟨_, rfl⟩
          rw [Hv.out]
          clear z1 d0 d1 d2 d3 hb2
          cases v
          · go_wp2
            go_ret
            exact ⟨ret_bool (by rw [← Hq3.out, Hv.out]; rfl), Below.next hB0 HB2.out⟩
          · go_wp2
            go_roundw
            case rel =>
              refine ⟨k + 1, by omega, by go_num, ?_, HB2.out⟩
              show _ = _
              rw [← Hq3.out, Hv.out, Bool.true_and]
            case measure => simp [intOf]; omega
      · have hz : z = true := by
          rw [← Hq.out, List.drop_eq_nil_of_le (by rw [len_parts]; have := HR.out.len; omega)]
          rfl
        go_wp2
        go_ret
        exact ⟨ret_bool hz.symm, hb⟩

theorem frest_any (r : Rg) (x : Int) (f : Bool) (A : Option Addr) (n c : Nat) (i : Int) (w : World) (hR : RgS w x f A n c r) (hi : i < (n : Int)) (hi2 : -1 ≤ i) (hx : 0 ≤ x ∧ x ≤ 12) :
    Calls Tryz.prog 170 #[.agg #[.int .i64 x, .bool f, .slice A n c], .int .i64 i] w fun e w' => RgOne w (restR r i) e w' := by
  have hxr := hR.hw
  have HB : Hid (Below w.heap.size w ((w.alloc (.cells #[.int .i64 x, .bool f, .slice A n c] 27)).alloc (.cells #[.int .i64 0, .bool false, .slice none 0 0] 27))) := Lib.hid (((Below.refl _ _).alloc (Nat.le_refl _) _).alloc (by simp) _)
  rcases Int.lt_or_le i 0 with h0 | h0
  · have g1 : decide (i < 0) = true := by simp; omega
    have hr : restR r i = .nil (x - 1) false := by simp [restR, h0, hxr]
    rw [hr]
    clear hr hR hxr
    go_enter Tryz.func170, Tryz.ntmps170
    go_wp2
    refine bodyPost_ret (v := .agg #[.int .i64 (x - 1), .bool false, .slice none 0 0]) (by simp [results, Tryz.results170, go_sem]) rfl ⟨x - 1, false, none, 0, 0, rfl, RgS.nil _ _, ?_⟩
    repeat (first | exact HB.out | exact Below.refl _ _ | refine Below.setCell ?_ (by simp) _ | refine Below.alloc ?_ (by simp) _)
  · obtain ⟨k, rfl⟩ := Int.eq_ofNat_of_zero_le h0
    have g1 : decide ((k : Int) < 0) = false := by simp
    have hr : ∀ p, r.parts[k]? = some p → restR r (k : Int) = p.2 := fun p hp => by
      unfold restR
      rw [if_neg (by omega), Int.toNat_natCast, hp]
    obtain ⟨b, o, p, A1, n1, c1, px, pf, A2, n2, c2, rfl, hp, hpt0, hpt⟩ := hR.at2 (keeps_of HB.out) (show k < n by omega)
    rw [hr p hp]
    have HR1 := Lib.hid hpt0.rg
    clear hpt0
    obtain ⟨_, d1, d2, d3, _, _, _⟩ := hpt
    clear hr hR hxr hp
    go_enter Tryz.func170, Tryz.ntmps170
    go_wp2
    refine bodyPost_ret (v := .agg #[.int .i64 px, .bool pf, .slice A2 n2 c2]) (by simp [results, Tryz.results170, go_sem]) rfl ⟨px, pf, A2, n2, c2, rfl, (HR1.out.keep (keeps_alloc _ _)).keep (keeps_alloc _ _), ?_⟩
    exact ((Below.refl _ _).alloc (Nat.le_refl _) _).alloc (by simp) _

set_option maxHeartbeats 1000000 in
theorem fat_any (r : Rg) (x : Int) (f : Bool) (A : Option Addr) (n c : Nat) (v : Vl) (w : World) (hR : RgS w x f A n c r) (hsm : Sm r) :
    Calls Tryz.prog 169 #[.agg #[.int .i64 x, .bool f, .slice A n c], .agg #[.int .i64 v.k, .int .i64 v.i, .string v.t]] w fun e w' => e = .returned (.int .i64 (idxP r.parts v)) ∧ Below w.heap.size w w' := by
  have hn : n ≤ 100000 := by rw [hR.len]; exact hsm.1
  have hnc := hR.ok.1
  have HR := Lib.hid hR
  have HSM := Lib.hid hsm
  obtain ⟨vk, vi, vt⟩ := v
  generalize hz : idxP r.parts ⟨vk, vi, vt⟩ = z
  have HZ := Lib.hid hz
  obtain ⟨W0, HW0⟩ : ∃ W : World, Hid ((w.alloc (.cells #[.int .i64 x, .bool f, .slice A n c] 27)).alloc (.cells #[.int .i64 vk, .int .i64 vi, .string vt] 49) = W) := ⟨_, rfl⟩
  have hB0 : Below w.heap.size w W0 := by rw [← HW0.out]; exact ((Below.refl _ _).alloc (Nat.le_refl _) _).alloc (by simp) _
  have E1 : Hid (Blk W0 w.heap.size 27 #[.int .i64 x, .bool f, .slice A n c]) := by
    rw [← HW0.out]
    exact Lib.hid ((Blk.new w _ _).alloc _)
  have E2 : Hid (Blk W0 (w.heap.size + 1) 49 #[.int .i64 vk, .int .i64 vi, .string vt]) := by
    have := Blk.new (w.alloc (.cells #[.int .i64 x, .bool f, .slice A n c] 27)) 49 #[.int .i64 vk, .int .i64 vi, .string vt]
    rw [World.size_alloc, HW0.out] at this
    exact Lib.hid this
  clear hR hsm hz
  go_enter Tryz.func169, Tryz.ntmps169
  go_wp2
  go_loopw [9] (fun i wr => ∃ k : Nat, k ≤ n ∧ i = .int .i64 (k : Int) ∧ Hid (∀ q ∈ r.parts.take k, inL q.1 ⟨vk, vi, vt⟩ = false) ∧ Below W0.heap.size W0 wr) (fun i _ => n - (intOf i).toNat)
  case atStart => exact ⟨0, by omega, rfl, Lib.hid (by simp), by rw [HW0.out]; exact Below.refl _ _⟩
  case round =>
    obtain ⟨k, hk, rfl, Hq, hb0⟩ := hrel
    have hb := Below.next hB0 hb0
    by_cases hlt : k < n
    · obtain ⟨b, o, p, A1, n1, c1, px, pf, A2, n2, c2, rfl, hp, hpt⟩ := (HR.out.keep (keeps_of hb.drew)).at hlt
      have HP := Lib.hid hp
      have hn1 : n1 ≤ 100000 := by rw [← hpt.vs.len]; exact (HSM.out.mem (List.mem_of_getElem? hp)).1
      obtain ⟨d0, d1, d2, d3, hok, hvs, hrg⟩ := hpt
      have HVS := Lib.hid hvs
      have z1 := (E1.out.below hb0).drew.cell
      have z2 := (E2.out.below hb0).drew.cell
      have hca := @cell_after wr.drew
      clear hp hok hvs hrg
      obtain ⟨t, Ht⟩ : ∃ t, Hid (inL p.1 ⟨vk, vi, vt⟩ = t) := ⟨_, rfl⟩
      go_wp2
      refine wp_region_seg [([0, 1, 2, 3, 4, 5, 6], 7)] [] (by kernel_rfl) (by kernel_rfl) (fun _ _ d _ _ h => by cases d <;> exact h) ?_
      simp only [pickSegs, pickOps, opAt, List.map_cons, List.map_nil, List.getElem?_toArray, List.getElem?_cons_zero, List.getElem?_cons_succ, Option.getD_some]
      unfold wpBlocks
      repeat (go_big_quiet_step (fail))
      refine wpQuiet_nil ?_
      clear hca z1 z2
      go_wp2_with (first | (go_at_call 145; refine (rin_any A1 n1 c1 p.1 ⟨vk, vi, vt⟩ _ HVS.out (by omega)).mono ?_; rintro e w3 ⟨rfl, hb3⟩; rw [Ht.out]))
      refine ⟨hb3, ?_⟩
      unfold wpBlocks
      refine wpQuiet_nil ?_
      have HB3 := Lib.hid (Below.next hb0.drew hb3)
      clear d0 d1 d2 d3 hb3
      cases t
      · go_wp2
        go_roundw
        case rel =>
          refine ⟨k + 1, by omega, by go_num, ?_, HB3.out⟩
          show ∀ q ∈ _, _
          rw [take_snoc' HP.out]
          intro q hq
          rcases List.mem_append.1 hq with hq | hq
          · exact Hq.out q hq
          · rw [List.mem_singleton.1 hq]; exact Ht.out
        case measure => simp [intOf]; omega
      · have hz : z = (k : Int) := by
          rw [← HZ.out]
          rcases idx_spec ⟨vk, vi, vt⟩ r.parts with ⟨_, h⟩ | ⟨j, q, h1, h2, h3, h4⟩
          · rw [h p (List.mem_of_getElem? HP.out)] at Ht; cases Ht.out
          · rw [h3]
            rcases Nat.lt_trichotomy j k with h | h | h
            · have := Hq.out q (List.mem_of_getElem? (i := j) (by rw [List.getElem?_take, if_pos h]; exact h1))
              rw [this] at h2; cases h2
            · rw [h]
            · have h5 := h4 k p h HP.out
              rw [h5] at Ht; cases Ht.out
        go_wp2
        go_ret
        exact ⟨ret_i64 hz.symm, Below.next hB0 HB3.out⟩
    · have hz : z = -1 := by
        rw [← HZ.out]
        rcases idx_spec ⟨vk, vi, vt⟩ r.parts with ⟨h, _⟩ | ⟨j, q, h1, h2, h3, h4⟩
        · exact h
        · have hj := (List.getElem?_eq_some_iff.1 h1).1
          rw [len_parts] at hj
          have := Hq.out q (List.mem_of_getElem? (i := j) (by rw [List.getElem?_take, if_pos (by have := HR.out.len; omega)]; exact h1))
          rw [this] at h2; cases h2
      go_wp2
      go_ret
      exact ⟨ret_i64 hz.symm, hb⟩
end Go.Proofs.YtmnmckblmoalkaaGreat

/-
  The reference's Copy of a region: a copy in fresh memory.
-/
namespace Go.Proofs.YtmnmckblmoalkaaGreat
open Go.RowKit
set_option maxRecDepth 100000
open Rg

/-- what a function that makes a region in fresh memory returns -/
def RgNew (w : World) (r : Rg) (e : Ending) (w' : World) : Prop :=
  ∃ (x : Int) (f : Bool) (A : Option Addr) (n c : Nat), e = .returned (.agg #[.int .i64 x, .bool f, .slice A n c]) ∧ RgF w.heap.size w'.heap.size w' x f A n c r ∧ Below w.heap.size w w'
/-- the same, with the parts one by one -/
def RgNewP (w : World) (r : Rg) (e : Ending) (w' : World) : Prop :=
  ∃ (x : Int) (f : Bool) (A : Option Addr) (n c : Nat) (ms : List PM), e = .returned (.agg #[.int .i64 x, .bool f, .slice A n c]) ∧ RgF w.heap.size w'.heap.size w' x f A n c r ∧ Below w.heap.size w w' ∧ PartsIn (w.heap.size + 3) w' A n c ms ∧ ms.map PM.pr = r.parts
theorem RgNewP.new {w : World} {r : Rg} {e : Ending} {w' : World} (h : RgNewP w r e w') : RgNew w r e w' := by
  obtain ⟨x, f, A, n, c, ms, h1, h2, h3, _, _⟩ := h
  exact ⟨x, f, A, n, c, h1, h2, h3⟩
theorem RgF.hw {lo hi : Nat} {w : World} {x : Int} {f : Bool} {A : Option Addr} {n c : Nat} {r : Rg} (h : RgF lo hi w x f A n c r) : r.w = x := h.s.hw
theorem fresh_none {w w' : World} (h : w.grownBy w' none) : Below w.heap.size w w' :=
  (Below.refl _ _).grown h (Nat.le_refl _) (fun k hk => by cases hk)
set_option maxHeartbeats 4000000 in
theorem fcopyP_any (r : Rg) : ∀ (x : Int) (f : Bool) (A : Option Addr) (n c : Nat) (w : World), RgS w x f A n c r → Sm r →
    Calls Tryz.prog 171 #[.agg #[.int .i64 x, .bool f, .slice A n c]] w fun e w' => RgNewP w r e w' := by
  induction hsz : r.size using Nat.strongRecOn generalizing r with
  | _ s ih =>
    intro x f A n c w hR hsm
    obtain ⟨i0, hi0, hz0, hz1, hz2⟩ := info_parts info_iv
    obtain ⟨i1, hi1, hy0, hy1, hy2⟩ := info_parts info_pt
    have HI := Lib.hid ih
    have HR := Lib.hid hR
    have Hsz := Lib.hid hsz
    have HSM := Lib.hid hsm
    have hn : n ≤ 100000 := by rw [hR.len]; exact hsm.1
    have hnc := hR.ok.1
    obtain ⟨W3, HW3⟩ : ∃ W : World, Hid (((w.alloc (.cells #[.int .i64 x, .bool f, .slice A n c] 27)).alloc (.cells #[.int .i64 0, .bool false, .slice none 0 0] 27)).alloc (.cells #[.int .i64 x, .bool f, .slice none 0 0] 27) = W) := ⟨_, rfl⟩
    have HC : Hid (Blk W3 (w.heap.size + 1) 27 #[.int .i64 0, .bool false, .slice none 0 0] ∧ Blk W3 (w.heap.size + 2) 27 #[.int .i64 x, .bool f, .slice none 0 0] ∧ W3.heap.size = w.heap.size + 3) := by
      rw [← HW3.out]
      exact Lib.hid ⟨(Blk.step (by simp)).alloc _, Blk.step (by simp), by simp⟩
    have HB0 : Hid (Below w.heap.size w W3) := by
      rw [← HW3.out]
      exact Lib.hid ((((Below.refl _ _).alloc (Nat.le_refl _) _).alloc (by simp) _).alloc (by simp; omega) _)
    clear ih hR hsz hsm
    go_enter Tryz.func171, Tryz.ntmps171
    go_wp2_with fail
    rw [HW3.out]
    go_loopw [14] (fun i wr => ∃ (k : Nat) (A' : Option Addr) (c' : Nat) (ms : List PM), k ≤ n ∧ i = .int .i64 (k : Int) ∧ Blk wr (w.heap.size + 1) 27 #[.int .i64 0, .bool false, .slice none 0 0] ∧ Blk wr (w.heap.size + 2) 27 #[.int .i64 x, .bool f, .slice A' k c'] ∧ Hid (PartsIn (w.heap.size + 3) wr A' k c' ms) ∧ Hid (ms.map PM.pr = r.parts.take k) ∧ Below w.heap.size w wr ∧ w.heap.size + 3 ≤ wr.heap.size) (fun i _ => n - (intOf i).toNat)
    case atStart => exact ⟨0, none, 0, [], by omega, rfl, HC.out.1, HC.out.2.1, Lib.hid ⟨⟨by simp, .inl ⟨rfl, rfl⟩⟩, rfl, (fun m hm => by cases hm), List.Pairwise.nil, (fun m hm => by cases hm)⟩, rfl, HB0.out, by have := HC.out.2.2; omega⟩
    case round =>
      obtain ⟨k, A', c', ms, hk, rfl, hbr, hbo, HP, Hms, hb, hsz3⟩ := hrel
      by_cases hlt : k < n
      · obtain ⟨b, o, p, A1, n1, c1, px, pf, A2, n2, c2, rfl, hp, hpt⟩ := (HR.out.keep (keeps_of hb)).at hlt
        have hps := size_at hp
        rw [Hsz.out] at hps
        have HPS := Lib.hid (HSM.out.mem (List.mem_of_getElem? hp))
        have Htk := Lib.hid (take_snoc' hp)
        have hn1 : n1 ≤ 100000 := by rw [← hpt.vs.len]; exact HPS.out.1
        obtain ⟨d0, d1, d2, d3, pok, pvs, prg⟩ := hpt
        have HPOK := Lib.hid pok
        have HPV_len := Lib.hid pvs.len
        have HPV := Lib.hid pvs
        have HPR := Lib.hid prg
        have HI' := Lib.hid (HI.out p.2.size hps p.2 rfl)
        have HBR := Lib.hid hbr
        have HBO := Lib.hid hbo
        have HBL := Lib.hid hb
        clear hp pok pvs prg hbr hbo hb
        go_upto_region 5 with fail
        have hba : Below wr.heap.size wr (wr.alloc (.cells #[.slice A1 n1 c1, .int .i64 px, .bool pf, .slice A2 n2 c2] 86)) := (Below.refl _ _).alloc (Nat.le_refl _) _
        have HPB : Hid (Blk (wr.alloc (.cells #[.slice A1 n1 c1, .int .i64 px, .bool pf, .slice A2 n2 c2] 86)) wr.heap.size 86 #[.slice A1 n1 c1, .int .i64 px, .bool pf, .slice A2 n2 c2]) := Lib.hid (Blk.new _ _ _)
        have HP1 := Lib.hid (HP.out.below hba)
        have HBR1 := Lib.hid (HBR.out.below hba)
        have HBO1 := Lib.hid (HBO.out.below hba)
        have HB1 := Lib.hid (Below.next HBL.out hba)
        have HPV1 := Lib.hid (HPV.out.keep (keeps_of hba))
        have HPR1 := Lib.hid (HPR.out.keep (keeps_of hba))
        have hs1 : (wr.alloc (.cells #[.slice A1 n1 c1, .int .i64 px, .bool pf, .slice A2 n2 c2] 86)).heap.size = wr.heap.size + 1 := World.size_alloc _ _
        have HOl : Hid (∀ q, (Value.slice A' k c').ownBlock = some q → w.heap.size + 3 ≤ q ∧ q < wr.heap.size) := Lib.hid (fun q hq => ⟨(own_lt HP.out.own hq).1, (own_lt HP.out.own hq).2.1⟩)
        have HOv : Hid (∀ m ∈ ms, (∀ q, m.vv.ownBlock = some q → q < wr.heap.size) ∧ m.hi ≤ wr.heap.size) := Lib.hid (fun m hm => ⟨fun q hq => (own_lt (HP.out.ok m hm).own hq).2.1, (HP.out.ok m hm).hi⟩)
        generalize hW1 : wr.alloc (.cells #[.slice A1 n1 c1, .int .i64 px, .bool pf, .slice A2 n2 c2] 86) = W1 at *
        clear hW1 hba d0 d1 d2 d3 HPV HPR HBL HBR HBO HP
        obtain ⟨S, HS⟩ : ∃ S : Nat → Prop, Hid ((fun q => (Value.slice A' k c').ownBlock = some q) = S) := ⟨_, rfl⟩
        have HSl : Hid (∀ q, S q → w.heap.size + 3 ≤ q ∧ q < wr.heap.size) := by rw [← HS.out]; exact HOl
        refine wp_region_plan S (.one [0, 1, 2, 3, 5, 6] 4 (.one [] 7 (.one [8] 9 (.one [] 10 (.fin [11] 12))))) (by kernel_rfl) (by kernel_rfl) (fun _ _ d _ _ h => by cases d <;> exact h) ?_
        have qO : ∀ (y : LaterS S W1.drew) j, (afterS S W1.drew y).cell? ⟨w.heap.size + 2, j, none⟩ = (#[.int .i64 x, .bool f, .slice A' k c'] : Array Value)[j]? := fun y j => (HBO1.out.drew.but y.but (fun h => by have := HSl.out _ h; omega)).cell j
        have qP : ∀ (y : LaterS S W1.drew) j, (afterS S W1.drew y).cell? ⟨wr.heap.size, j, none⟩ = (#[.slice A1 n1 c1, .int .i64 px, .bool pf, .slice A2 n2 c2] : Array Value)[j]? := fun y j => (HPB.out.drew.but y.but (fun h => by have := HSl.out _ h; omega)).cell j
        have hb1d : Below W1.heap.size W1 W1.drew := (Below.refl _ _).drew
        have HP2 := Lib.hid (HP1.out.below hb1d)
        have HPV2 : Hid (IvS W1.drew A1 n1 p.1) := Lib.hid (HPV1.out.keep (keeps_of hb1d))
        have HPR2 : Hid (RgS W1.drew px pf A2 n2 c2 p.2) := Lib.hid (HPR1.out.keep (keeps_of hb1d))
        have HB2 := Lib.hid (Below.next HB1.out hb1d)
        have HBR2 := Lib.hid HBR1.out.drew
        have HBO2 := Lib.hid HBO1.out.drew
        have hs2 : W1.drew.heap.size = wr.heap.size + 1 := hs1
        generalize hW2 : W1.drew = W2 at *
        clear hW2 HPV1 HPR1 HB1 HBR1 HBO1 HPB HP1 hb1d hs1
        unfold wpPlan
        simp only [pickOps, opAt, List.map_cons, List.map_nil, List.getElem?_toArray, List.getElem?_cons_zero, List.getElem?_cons_succ, Option.getD_some]
        repeat (go_big_quiet_step (fail))
        refine wpQuiet_nil ?_
        clear qO qP
        go_wp2_with (at_builtin; refine wpList_append_sf (cs := Iv.cs) W2 (by rfl) _ (.tmp 21) _ (by rfl) (w.heap.size + 3) 90 i0 _ 7 72 Tryz.underlying72 hi0 hz0 hz1 hz2 (by rfl) (by omega) (.slice none 0 0) 0 [] (by rfl) ⟨by simp, .inl ⟨rfl, rfl⟩⟩ A1 n1 c1 p.1 (by rfl) HPV2.out HPOK.out.2 Iv.cs_len one_iv (by simp only [maxLen]; omega) (by omega) (by omega) ?_; intro A4 c4 w4 hown4 hg4 hB4 hat4 hnil4; simp only [Nat.zero_add, List.nil_append] at hown4 hat4 ⊢)
        have hbf4 := fresh_none hg4
        refine ⟨But.of_below hbf4, ?_⟩
        have HOW4 := Lib.hid hown4
        have HAT4 := Lib.hid hat4
        have HP4 := Lib.hid (HP2.out.below hbf4)
        have HPR4 := Lib.hid (HPR2.out.keep (keeps_of hbf4))
        have HB4 := Lib.hid (Below.next HB2.out hbf4)
        have HBR4 := Lib.hid (HBR2.out.below hbf4)
        have HBO4 := Lib.hid (HBO2.out.below hbf4)
        have hs4 := hbf4.size
        clear hown4 hg4 hB4 hat4 hnil4 hbf4 HPV2 HPR2 HB2 HBR2 HBO2 HP2
        unfold wpPlan
        simp only [pickOps, opAt, List.map_nil, List.getElem?_toArray, List.getElem?_cons_zero, List.getElem?_cons_succ, Option.getD_some]
        refine wpQuiet_nil ?_
        go_wp2_with (first | (go_at_call 171; refine (HI'.out px pf A2 n2 c2 _ HPR4.out HPS.out.2).mono ?_; rintro e w5 ⟨x5, f5, A5, n5, c5, ms5, rfl, hF5, hb5, _, _⟩))
        refine ⟨But.of_below hb5, ?_⟩
        have HF5 := Lib.hid hF5
        have HOW5 := Lib.hid (own_at HOW4.out (fun g _ hl _ => hb5.block g hl))
        have HOVl : Hid (∀ q, (Value.slice A4 n1 c4).ownBlock = some q → q = W2.heap.size ∧ q < w4.heap.size) := Lib.hid (fun q hq => by
          refine ⟨?_, (own_lt HOW4.out hq).2.1⟩
          rcases HAT4.out with h | h
          · rw [h] at hq; cases hq
          · rw [h] at hq; injection hq with hq; exact hq.symm)
        have HP5 := Lib.hid (HP4.out.below hb5)
        have HB5 := Lib.hid (Below.next HB4.out hb5)
        have HBR5 := Lib.hid (HBR4.out.below hb5)
        have HBO5 := Lib.hid (HBO4.out.below hb5)
        have hs5 := hb5.size
        clear hF5 hb5 HOW4 HAT4 HP4 HPR4 HB4 HBR4 HBO4
        unfold wpPlan
        simp only [pickOps, opAt, List.map_cons, List.map_nil, List.getElem?_toArray, List.getElem?_cons_zero, List.getElem?_cons_succ, Option.getD_some]
        repeat (go_big_quiet_step (fail))
        refine wpQuiet_nil ?_
        go_wp2_with fail
        refine ⟨But.alloc _ _, ?_⟩
        unfold wpPlan
        simp only [pickOps, opAt, List.map_nil, List.getElem?_toArray, List.getElem?_cons_zero, List.getElem?_cons_succ, Option.getD_some]
        refine wpQuiet_nil ?_
        go_wp2_with (at_builtin; refine wpList_append_one2 (by rfl) (.tmp 19) (.tmp 27) _ (by rfl) (w.heap.size + 3) 86 i1 _ 4 64 Tryz.underlying25 hi1 hy0 hy1 hy2 (by rfl) (by omega) (.slice A' k c') k _ (by rfl) w5 #[.slice A4 n1 c4, .int .i64 x5, .bool f5, .slice A5 n5 c5] HP5.out.own w5.heap.size (by rfl) (by rfl) (by rfl) (one_pm (PM.mk A4 n1 c4 p.1 x5 f5 A5 n5 c5 p.2 w4.heap.size w5.heap.size)) (by simp only [maxLen]; omega) (by omega) (by omega) ?_; intro g9 cap9 w9 hown9 hg9 hB9 hat9 hlt9)
        have hbu9 : But S (w5.alloc (.cells #[.slice A4 n1 c4, .int .i64 x5, .bool f5, .slice A5 n5 c5] 86)) w9 := But.of_grown hg9 (fun k hk => by rw [← HS.out]; exact hk)
        refine ⟨hbu9, ?_⟩
        have hbu59 : But S w5 w9 := (But.alloc _ _).trans hbu9
        have HOWN9 := Lib.hid hown9
        have HAT9 := Lib.hid hat9
        have HBR9 := Lib.hid (HBR5.out.but hbu59 (fun h => by have := HSl.out _ h; omega))
        have HBO9 := Lib.hid (HBO5.out.but hbu59 (fun h => by have := HSl.out _ h; omega))
        have HB9 : Hid (Below w.heap.size w w9) := Lib.hid (hbu59.below HB5.out (by omega) (fun q hq => by have := HSl.out _ hq; omega))
        have HBU9 := Lib.hid hbu59
        have hs9 := hbu59.size
        clear hown9 hg9 hB9 hat9 hbu9 hbu59 HBR5 HBO5 HB5
        unfold wpPlan
        simp only [pickOps, opAt, List.map_cons, List.map_nil, List.getElem?_toArray, List.getElem?_cons_zero, List.getElem?_cons_succ, Option.getD_some]
        have hoc := HBO9.out.cell
        have hof := HBO9.out.free
        repeat (go_big_quiet_step (fail))
        refine wpQuiet_nil ?_
        go_upto_region 6 with fail
        have hbu10 : But (· = w.heap.size + 2) w9 (w9.setCell ⟨w.heap.size + 2, 2, none⟩ (.slice (some ⟨g9, 0, none⟩) (k + 1) cap9)) := But.set (S := fun q => q = w.heap.size + 2) _ (p := ⟨w.heap.size + 2, 2, none⟩) rfl _
        have HBO10 : Hid (Blk (w9.setCell ⟨w.heap.size + 2, 2, none⟩ (.slice (some ⟨g9, 0, none⟩) (k + 1) cap9)) (w.heap.size + 2) 27 #[.int .i64 x, .bool f, .slice (some ⟨g9, 0, none⟩) (k + 1) cap9]) := Lib.hid (HBO9.out.set_ 2 _)
        generalize hW10 : w9.setCell ⟨w.heap.size + 2, 2, none⟩ (.slice (some ⟨g9, 0, none⟩) (k + 1) cap9) = w10 at *
        clear hW10 hoc hof
        have HBR10 := Lib.hid (HBR9.out.but hbu10 (by omega))
        have HB10 : Hid (Below w.heap.size w w10) := Lib.hid (hbu10.below HB9.out (by omega) (fun q hq => by omega))
        have hs10 := hbu10.size
        have HOWN10 := Lib.hid (own_but HOWN9.out hbu10 (fun q hq hs => by have := (own_lt HOWN9.out hq).1; omega))
        have HP10 : Hid (PartsIn (w.heap.size + 3) w10 (some ⟨g9, 0, none⟩) (k + 1) cap9 (ms ++ [PM.mk A4 n1 c4 p.1 x5 f5 A5 n5 c5 p.2 w4.heap.size w5.heap.size])) := by
          refine Lib.hid (HP5.out.addv ?_ ?_ ?_ ?_ ?_ ?_)
          · rw [List.flatMap_append]
            simpa [PM.cs] using HOWN10.out
          · refine (HBU9.out.wide (fun q hq => ?_)).trans (hbu10.wide (fun q hq => .inr (by omega)))
            rw [← HS.out] at hq
            exact .inl hq
          · intro q hq
            simp only [Value.ownBlock, Option.some.injEq] at hq
            subst hq
            rcases HAT9.out with e | e
            · exact .inl e
            · exact .inr (by omega)
          · exact ⟨HOW5.out, HPV_len.out, HF5.out, by show w.heap.size + 3 ≤ w4.heap.size; omega, Nat.le_refl _⟩
          · intro q (h1 : w4.heap.size ≤ q) (h2 : q < w5.heap.size)
            refine ⟨fun hs => ?_, fun hs => ?_, fun m' hm' hs => ?_⟩
            · have := HOl.out q hs; omega
            · have := HOVl.out q hs; omega
            · have := (HOv.out m' hm').1 q hs; omega
          · intro q hq m' hm'
            have h1 := HOVl.out q hq
            have h2 := HOv.out m' hm'
            exact ⟨fun hs => by have := h2.1 q hs; omega, fun hs => by omega⟩
        clear HBR9 HBO9 HB9 HBU9 hbu10 HOWN9 HOWN10 HP5 HOW5 HF5
        go_wp2_with fail
        go_roundw
        case rel =>
          refine ⟨k + 1, _, cap9, _, by omega, by go_num, HBR10.out, HBO10.out, HP10, ?_, HB10.out, by omega⟩
          show _ = _
          rw [List.map_append, Hms.out, Htk.out]
          rfl
        case measure => simp [intOf]; omega
      · obtain rfl : k = n := by omega
        have hy3 := (put3R_blk (a' := .int .i64 x) (b' := .bool f) (c' := .slice A' k c') hbr).cell
        have hy1 := (hbr.set_ 0 (.int .i64 x)).cell
        have hy2 := ((hbr.set_ 0 (.int .i64 x)).set_ 1 (.bool f)).cell
        obtain ⟨ff1, ff2, ff3⟩ := put3R_free hbr (.int .i64 x) (.bool f)
        have zo := hbo.cell
        have zr := hbr.cell
        have hmk : mkR x f (ms.map PM.pr) = r := by
          have h1 := HR.out
          rw [Hms.out, List.take_of_length_le (by rw [len_parts, h1.len]; exact Nat.le_refl _), ← h1.hw, ← h1.hf]
          exact mk_parts r
        have HF := Lib.hid (HP.out.region2 x f)
        rw [hmk] at HF
        have HBf := Lib.hid (put3R_below hb (show w.heap.size ≤ w.heap.size + 1 by omega) (.int .i64 x) (.bool f) (.slice A' k c'))
        have HFr : Hid (RgF w.heap.size (put3R wr (w.heap.size + 1) (.int .i64 x) (.bool f) (.slice A' k c')).heap.size (put3R wr (w.heap.size + 1) (.int .i64 x) (.bool f) (.slice A' k c')) x f A' k c' r) := by
          refine Lib.hid ((HF.out.keep fun q h1 h2 => (put3R_but wr (w.heap.size + 1) _ _ _).block q h2 (by omega)).wide (by omega) (by rw [put3R_size]; exact Nat.le_refl _))
        have HPf := Lib.hid (HP.out.but (put3R_but wr (w.heap.size + 1) (.int .i64 x) (.bool f) (.slice A' k c')) (fun q hq => by omega))
        have Hmf : Hid (ms.map PM.pr = r.parts) := Lib.hid (by rw [Hms.out, List.take_of_length_le (by rw [len_parts, HR.out.len]; exact Nat.le_refl _)])
        unfold put3R at hy3
        clear hmk hbr hbo hb
        go_wp2
        exact bodyPost_ret (v := .agg #[.int .i64 x, .bool f, .slice A' k c']) (by simp [results, Tryz.results171, go_sem, hy3]) rfl ⟨x, f, A', k, c', ms, rfl, HFr.out, HBf.out, HPf.out, Hmf.out⟩
theorem fcopy_any (r : Rg) (x : Int) (f : Bool) (A : Option Addr) (n c : Nat) (w : World) (hR : RgS w x f A n c r) (hsm : Sm r) :
    Calls Tryz.prog 171 #[.agg #[.int .i64 x, .bool f, .slice A n c]] w fun e w' => RgNew w r e w' :=
  (fcopyP_any r x f A n c w hR hsm).mono fun _ _ h => h.new
end Go.Proofs.YtmnmckblmoalkaaGreat
