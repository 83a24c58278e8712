/-
  Texts: FA, RegionT.
-/
import Derived.Test.YtmnmckblmoalkaaGreatB21
set_option linter.unusedVariables false
/-
  The reference's small functions on regions: none, count, fits, at, rest, Empty.
-/
namespace Go.Proofs.YtmnmckblmoalkaaGreat
open Go.RowKit
set_option maxRecDepth 100000
open Rg

theorem fnone_any (x : Int) (f : Bool) (A : Option Addr) (n c : Nat) (r : Rg) (w : World) (hR : RgS w x f A n c r) :
    Calls Tryz.prog 109 #[.agg #[.int .i64 x, .bool f, .slice A n c]] w fun e w' => e = .returned (.bool r.nix) ∧ Below w.heap.size w w' := by
  rw [nix_len, ← hR.len, hR.hf]
  clear hR
  cases f
  · go_enter Tryz.func109, Tryz.ntmps109
    go_wp2
    go_ret
    refine ⟨ret_bool ?_, (Below.refl _ _).alloc (Nat.le_refl _) _⟩
    rw [Bool.eq_iff_iff]
    simp
  · go_enter Tryz.func109, Tryz.ntmps109
    go_wp2
    go_ret
    exact ⟨ret_bool (by simp), (Below.refl _ _).alloc (Nat.le_refl _) _⟩

/-- the count from m on, which stops above 64 -/
def cntR (m : Nat) (r : Rg) : Nat := if m + r.size ≤ 64 then m + r.size else 65
set_option maxHeartbeats 1000000 in
theorem fcount_any (r : Rg) : ∀ (x : Int) (f : Bool) (A : Option Addr) (n c m : Nat) (w : World), RgS w x f A n c r → m ≤ 64 →
    Calls Tryz.prog 107 #[.agg #[.int .i64 x, .bool f, .slice A n c], .int .i64 (m : Int)] w fun e w' => e = .returned (.int .i64 (cntR m r : Int)) ∧ Below w.heap.size w w' := by
  induction hsz : r.size using Nat.strongRecOn generalizing r with
  | _ s ih =>
    intro x f A n c m w hR hm
    have HI := Lib.hid ih
    have HR := Lib.hid hR
    have Hsz := Lib.hid hsz
    have hnc := hR.ok.1
    have HL : Hid (m + sizeL (r.parts.drop 0) = m + s) := by
      show _ = _
      rw [List.drop_zero, ← size_parts, hsz]
    generalize hz : cntR m r = z
    have HZ : Hid ((if m + s ≤ 64 then m + s else 65) = z) := by
      show _ = _
      rw [← hz, cntR, hsz]
    have hB0 : Below w.heap.size w (w.alloc (.cells #[.int .i64 x, .bool f, .slice A n c] 27)) := (Below.refl _ _).alloc (Nat.le_refl _) _
    obtain ⟨W0, HW0⟩ : ∃ W : World, Hid (w.alloc (.cells #[.int .i64 x, .bool f, .slice A n c] 27) = W) := ⟨_, rfl⟩
    rw [HW0.out] at hB0
    have E1 : Hid (Blk W0 w.heap.size 27 #[.int .i64 x, .bool f, .slice A n c]) := by
      have := Blk.new w 27 #[.int .i64 x, .bool f, .slice A n c]
      rw [HW0.out] at this
      exact this
    clear ih hR hsz hz
    go_enter Tryz.func107, Tryz.ntmps107
    go_wp2
    go_loopw [1, 9] (fun v i wr => ∃ (k q : Nat), k ≤ n ∧ i = .int .i64 (k : Int) ∧ v = .int .i64 (q : Int) ∧ q ≤ 64 ∧ m + k ≤ q ∧ Hid (q + sizeL (r.parts.drop k) = m + s) ∧ Below W0.heap.size W0 wr) (fun _ i _ => n - (intOf i).toNat)
    case atStart => exact ⟨0, m, by omega, rfl, rfl, hm, by omega, HL, by rw [HW0.out]; exact Below.refl _ _⟩
    case round =>
      obtain ⟨k, q, hk, rfl, rfl, hq64, hmk, Hq, hb0⟩ := hrel
      have hb := Below.next hB0 hb0
      by_cases hlt : k < n
      · obtain ⟨b, o, p, A1, n1, c1, px, pf, A2, n2, c2, rfl, hp, hpt⟩ := (HR.out.keep (keeps_of hb)).at hlt
        have hps := size_at hp
        rw [Hsz.out] at hps
        have Hd := Lib.hid (sizeL_drop hp)
        obtain ⟨d0, d1, d2, d3, hok, hvs, hrg⟩ := hpt
        have HRG := Lib.hid hrg
        have z1 := (E1.out.below hb0).cell
        clear hp hok hvs hrg
        rcases Nat.lt_or_ge q 64 with hq | hq
        · have g1 : decide (64 < (q : Int) + 1) = false := by simp; omega
          have HI' := Lib.hid (HI.out p.2.size hps p.2 rfl)
          go_wp2_with fail
          refine (HI'.out px pf A2 n2 c2 (q + 1) _ HRG.out (by omega)).mono ?_
          rintro e w2 ⟨rfl, hb2⟩
          have HB2 := Lib.hid (Below.next hb0 hb2)
          clear z1 d0 d1 d2 d3 hb2
          by_cases hfit : q + 1 + p.2.size ≤ 64
          · have e1 : cntR (q + 1) p.2 = q + 1 + p.2.size := by rw [cntR, if_pos hfit]
            rw [e1]
            have g2 : decide (64 < ((q + 1 + p.2.size : Nat) : Int)) = false := by simp; omega
            go_wp2
            go_roundw
            case rel =>
              refine ⟨k + 1, q + 1 + p.2.size, by omega, by go_num, rfl, hfit, by omega, ?_, HB2.out⟩
              show _ = _
              have h1 := Hq.out
              have h2 := Hd.out
              omega
            case measure => simp [intOf]; omega
          · have e1 : cntR (q + 1) p.2 = 65 := by rw [cntR, if_neg hfit]
            rw [e1]
            have hz : z = 65 := by
              rw [← HZ.out, if_neg]
              have h1 := Hq.out
              have h2 := Hd.out
              omega
            clear hfit
            go_wp2
            go_ret
            exact ⟨ret_i64 (by rw [hz]; rfl), Below.next hB0 HB2.out⟩
        · have g1 : decide (64 < (q : Int) + 1) = true := by simp; omega
          have hz : z = q + 1 := by
            rw [← HZ.out, if_neg]
            · omega
            · have h1 := Hq.out
              have h2 := Hd.out
              omega
          go_wp2
          go_ret
          exact ⟨ret_i64 (by rw [hz]; omega), hb⟩
      · have hz : z = q := by
          have h1 := Hq.out
          rw [List.drop_eq_nil_of_le (by rw [len_parts]; have := HR.out.len; omega)] at h1
          simp only [sizeL, List.map_nil, List.sum_nil] at h1
          rw [← HZ.out, if_pos] <;> omega
        go_wp2
        go_ret
        exact ⟨ret_i64 (by rw [hz]), hb⟩

set_option maxHeartbeats 1000000 in
theorem ffits_any (r : Rg) : ∀ (x : Int) (f : Bool) (A : Option Addr) (n c : Nat) (w : World), RgS w x f A n c r → Sm r →
    Calls Tryz.prog 168 #[.agg #[.int .i64 x, .bool f, .slice A n c]] w fun e w' => e = .returned (.bool r.fits) ∧ Below w.heap.size w w' := by
  induction hsz : r.size using Nat.strongRecOn generalizing r with
  | _ s ih =>
    intro x f A n c w hR hsm
    have HI := Lib.hid ih
    have HR := Lib.hid hR
    have Hsz := Lib.hid hsz
    have HSM := Lib.hid hsm
    have hn : n ≤ 100000 := by rw [hR.len]; exact hsm.1
    have hnc := hR.ok.1
    generalize hz : r.fits = z
    have HZ : Hid (((r.parts.drop 0).all fun p => decide (p.1.length ≤ 64) && p.2.fits) = z) := by
      show _ = _
      rw [List.drop_zero, ← hz, Bool.eq_iff_iff, List.all_eq_true, fits_iff]
      simp
    have hB0 : Below w.heap.size w (w.alloc (.cells #[.int .i64 x, .bool f, .slice A n c] 27)) := (Below.refl _ _).alloc (Nat.le_refl _) _
    obtain ⟨W0, HW0⟩ : ∃ W : World, Hid (w.alloc (.cells #[.int .i64 x, .bool f, .slice A n c] 27) = W) := ⟨_, rfl⟩
    rw [HW0.out] at hB0
    have E1 : Hid (Blk W0 w.heap.size 27 #[.int .i64 x, .bool f, .slice A n c]) := by
      have := Blk.new w 27 #[.int .i64 x, .bool f, .slice A n c]
      rw [HW0.out] at this
      exact this
    clear ih hR hsz hz hsm
    go_enter Tryz.func168, Tryz.ntmps168
    go_wp2
    go_loopw [7] (fun i wr => ∃ k : Nat, k ≤ n ∧ i = .int .i64 (k : Int) ∧ Hid (((r.parts.drop k).all fun p => decide (p.1.length ≤ 64) && p.2.fits) = z) ∧ Below W0.heap.size W0 wr) (fun i _ => n - (intOf i).toNat)
    case atStart => exact ⟨0, by omega, rfl, HZ, by rw [HW0.out]; exact Below.refl _ _⟩
    case round =>
      obtain ⟨k, hk, rfl, Hq, hb0⟩ := hrel
      have hb := Below.next hB0 hb0
      by_cases hlt : k < n
      · obtain ⟨b, o, p, A1, n1, c1, px, pf, A2, n2, c2, rfl, hp, hpt⟩ := (HR.out.keep (keeps_of hb)).at hlt
        have hps := size_at hp
        rw [Hsz.out] at hps
        have HSP := Lib.hid (HSM.out.mem (List.mem_of_getElem? hp))
        have Hq2 : Hid (((decide (p.1.length ≤ 64) && p.2.fits) && (r.parts.drop (k + 1)).all fun p => decide (p.1.length ≤ 64) && p.2.fits) = z) := by
          show _ = _
          rw [← Hq.out, drop_at hp, List.all_cons]
        obtain ⟨d0, d1, d2, d3, hok, hvs, hrg⟩ := hpt
        have Hln := Lib.hid hvs.len
        have hn1 : n1 ≤ 100000 := by rw [← hvs.len]; exact HSP.out.1
        have HRG := Lib.hid hrg
        have z1 := (E1.out.below hb0).cell
        clear hp hok hvs hrg
        rcases Nat.lt_or_ge 64 n1 with h64 | h64
        · have g1 : decide (64 < (n1 : Int)) = true := by simp; omega
          have hz : z = false := by rw [← Hq2.out, decide_eq_false (by rw [Hln.out]; omega)]; rfl
          go_wp2
          go_ret
          exact ⟨ret_bool hz.symm, hb⟩
        · have g1 : decide (64 < (n1 : Int)) = false := by simp; omega
          have HI' := Lib.hid (HI.out p.2.size hps p.2 rfl)
          go_wp2_with fail
          refine (HI'.out px pf A2 n2 c2 _ HRG.out HSP.out.2).mono ?_
          rintro e w2 ⟨rfl, hb2⟩
          have HB2 := Lib.hid (Below.next hb0 hb2)
          have Hq3 : Hid ((p.2.fits && (r.parts.drop (k + 1)).all fun p => decide (p.1.length ≤ 64) && p.2.fits) = z) := by
            show _ = _
            rw [← Hq2.out, decide_eq_true (show p.1.length ≤ 64 by rw [Hln.out]; omega), Bool.true_and]
          obtain ⟨v, Hv⟩ : ∃ t, Hid (p.2.fits = t) := ⟨_, rfl⟩
          rw [Hv.out]
          clear z1 d0 d1 d2 d3 hb2
          cases v
          · go_wp2
            go_ret
            exact ⟨ret_bool (by rw [← Hq3.out, Hv.out]; rfl), Below.next hB0 HB2.out⟩
          · go_wp2
            go_roundw
            case rel =>
              refine ⟨k + 1, by omega, by go_num, ?_, HB2.out⟩
              show _ = _
              rw [← Hq3.out, Hv.out, Bool.true_and]
            case measure => simp [intOf]; omega
      · have hz : z = true := by
          rw [← Hq.out, List.drop_eq_nil_of_le (by rw [len_parts]; have := HR.out.len; omega)]
          rfl
        go_wp2
        go_ret
        exact ⟨ret_bool hz.symm, hb⟩

theorem frest_any (r : Rg) (x : Int) (f : Bool) (A : Option Addr) (n c : Nat) (i : Int) (w : World) (hR : RgS w x f A n c r) (hi : i < (n : Int)) (hi2 : -1 ≤ i) (hx : 0 ≤ x ∧ x ≤ 12) :
    Calls Tryz.prog 170 #[.agg #[.int .i64 x, .bool f, .slice A n c], .int .i64 i] w fun e w' => RgOne w (restR r i) e w' := by
  have hxr := hR.hw
  have HB : Hid (Below w.heap.size w ((w.alloc (.cells #[.int .i64 x, .bool f, .slice A n c] 27)).alloc (.cells #[.int .i64 0, .bool false, .slice none 0 0] 27))) := Lib.hid (((Below.refl _ _).alloc (Nat.le_refl _) _).alloc (by simp) _)
  rcases Int.lt_or_le i 0 with h0 | h0
  · have g1 : decide (i < 0) = true := by simp; omega
    have hr : restR r i = .nil (x - 1) false := by simp [restR, h0, hxr]
    rw [hr]
    clear hr hR hxr
    go_enter Tryz.func170, Tryz.ntmps170
    go_wp2
    refine bodyPost_ret (v := .agg #[.int .i64 (x - 1), .bool false, .slice none 0 0]) (by simp [results, Tryz.results170, go_sem]) rfl ⟨x - 1, false, none, 0, 0, rfl, RgS.nil _ _, ?_⟩
    repeat (first | exact HB.out | exact Below.refl _ _ | refine Below.setCell ?_ (by simp) _ | refine Below.alloc ?_ (by simp) _)
  · obtain ⟨k, rfl⟩ := Int.eq_ofNat_of_zero_le h0
    have g1 : decide ((k : Int) < 0) = false := by simp
    have hr : ∀ p, r.parts[k]? = some p → restR r (k : Int) = p.2 := fun p hp => by
      unfold restR
      rw [if_neg (by omega), Int.toNat_natCast, hp]
    obtain ⟨b, o, p, A1, n1, c1, px, pf, A2, n2, c2, rfl, hp, hpt0, hpt⟩ := hR.at2 (keeps_of HB.out) (show k < n by omega)
    rw [hr p hp]
    have HR1 := Lib.hid hpt0.rg
    clear hpt0
    obtain ⟨_, d1, d2, d3, _, _, _⟩ := hpt
    clear hr hR hxr hp
    go_enter Tryz.func170, Tryz.ntmps170
    go_wp2
    refine bodyPost_ret (v := .agg #[.int .i64 px, .bool pf, .slice A2 n2 c2]) (by simp [results, Tryz.results170, go_sem]) rfl ⟨px, pf, A2, n2, c2, rfl, (HR1.out.keep (keeps_alloc _ _)).keep (keeps_alloc _ _), ?_⟩
    exact ((Below.refl _ _).alloc (Nat.le_refl _) _).alloc (by simp) _

set_option maxHeartbeats 1000000 in
theorem fat_any (r : Rg) (x : Int) (f : Bool) (A : Option Addr) (n c : Nat) (v : Vl) (w : World) (hR : RgS w x f A n c r) (hsm : Sm r) :
    Calls Tryz.prog 169 #[.agg #[.int .i64 x, .bool f, .slice A n c], .agg #[.int .i64 v.k, .int .i64 v.i, .string v.t]] w fun e w' => e = .returned (.int .i64 (idxP r.parts v)) ∧ Below w.heap.size w w' := by
  have hn : n ≤ 100000 := by rw [hR.len]; exact hsm.1
  have hnc := hR.ok.1
  have HR := Lib.hid hR
  have HSM := Lib.hid hsm
  obtain ⟨vk, vi, vt⟩ := v
  generalize hz : idxP r.parts ⟨vk, vi, vt⟩ = z
  have HZ := Lib.hid hz
  obtain ⟨W0, HW0⟩ : ∃ W : World, Hid ((w.alloc (.cells #[.int .i64 x, .bool f, .slice A n c] 27)).alloc (.cells #[.int .i64 vk, .int .i64 vi, .string vt] 49) = W) := ⟨_, rfl⟩
  have hB0 : Below w.heap.size w W0 := by rw [← HW0.out]; exact ((Below.refl _ _).alloc (Nat.le_refl _) _).alloc (by simp) _
  have E1 : Hid (Blk W0 w.heap.size 27 #[.int .i64 x, .bool f, .slice A n c]) := by
    rw [← HW0.out]
    exact Lib.hid ((Blk.new w _ _).alloc _)
  have E2 : Hid (Blk W0 (w.heap.size + 1) 49 #[.int .i64 vk, .int .i64 vi, .string vt]) := by
    have := Blk.new (w.alloc (.cells #[.int .i64 x, .bool f, .slice A n c] 27)) 49 #[.int .i64 vk, .int .i64 vi, .string vt]
    rw [World.size_alloc, HW0.out] at this
    exact Lib.hid this
  clear hR hsm hz
  go_enter Tryz.func169, Tryz.ntmps169
  go_wp2
  go_loopw [9] (fun i wr => ∃ k : Nat, k ≤ n ∧ i = .int .i64 (k : Int) ∧ Hid (∀ q ∈ r.parts.take k, inL q.1 ⟨vk, vi, vt⟩ = false) ∧ Below W0.heap.size W0 wr) (fun i _ => n - (intOf i).toNat)
  case atStart => exact ⟨0, by omega, rfl, Lib.hid (by simp), by rw [HW0.out]; exact Below.refl _ _⟩
  case round =>
    obtain ⟨k, hk, rfl, Hq, hb0⟩ := hrel
    have hb := Below.next hB0 hb0
    by_cases hlt : k < n
    · obtain ⟨b, o, p, A1, n1, c1, px, pf, A2, n2, c2, rfl, hp, hpt⟩ := (HR.out.keep (keeps_of hb.drew)).at hlt
      have HP := Lib.hid hp
      have hn1 : n1 ≤ 100000 := by rw [← hpt.vs.len]; exact (HSM.out.mem (List.mem_of_getElem? hp)).1
      obtain ⟨d0, d1, d2, d3, hok, hvs, hrg⟩ := hpt
      have HVS := Lib.hid hvs
      have z1 := (E1.out.below hb0).drew.cell
      have z2 := (E2.out.below hb0).drew.cell
      have hca := @cell_after wr.drew
      clear hp hok hvs hrg
      obtain ⟨t, Ht⟩ : ∃ t, Hid (inL p.1 ⟨vk, vi, vt⟩ = t) := ⟨_, rfl⟩
      go_wp2
      refine wp_region_seg [([0, 1, 2, 3, 4, 5, 6], 7)] [] (by kernel_rfl) (by kernel_rfl) (fun _ _ d _ _ h => by cases d <;> exact h) ?_
      simp only [pickSegs, pickOps, opAt, List.map_cons, List.map_nil, List.getElem?_toArray, List.getElem?_cons_zero, List.getElem?_cons_succ, Option.getD_some]
      unfold wpBlocks
      repeat (go_big_quiet_step (fail))
      refine wpQuiet_nil ?_
      clear hca z1 z2
      go_wp2_with (first | (go_at_call 145; refine (rin_any A1 n1 c1 p.1 ⟨vk, vi, vt⟩ _ HVS.out (by omega)).mono ?_; rintro e w3 ⟨rfl, hb3⟩; rw [Ht.out]))
      refine ⟨hb3, ?_⟩
      unfold wpBlocks
      refine wpQuiet_nil ?_
      have HB3 := Lib.hid (Below.next hb0.drew hb3)
      clear d0 d1 d2 d3 hb3
      cases t
      · go_wp2
        go_roundw
        case rel =>
          refine ⟨k + 1, by omega, by go_num, ?_, HB3.out⟩
          show ∀ q ∈ _, _
          rw [take_snoc' HP.out]
          intro q hq
          rcases List.mem_append.1 hq with hq | hq
          · exact Hq.out q hq
          · rw [List.mem_singleton.1 hq]; exact Ht.out
        case measure => simp [intOf]; omega
      · have hz : z = (k : Int) := by
          rw [← HZ.out]
          rcases idx_spec ⟨vk, vi, vt⟩ r.parts with ⟨_, h⟩ | ⟨j, q, h1, h2, h3, h4⟩
          · rw [h p (List.mem_of_getElem? HP.out)] at Ht; cases Ht.out
          · rw [h3]
            rcases Nat.lt_trichotomy j k with h | h | h
            · have := Hq.out q (List.mem_of_getElem? (i := j) (by rw [List.getElem?_take, if_pos h]; exact h1))
              rw [this] at h2; cases h2
            · rw [h]
            · have h5 := h4 k p h HP.out
              rw [h5] at Ht; cases Ht.out
        go_wp2
        go_ret
        exact ⟨ret_i64 hz.symm, Below.next hB0 HB3.out⟩
    · have hz : z = -1 := by
        rw [← HZ.out]
        rcases idx_spec ⟨vk, vi, vt⟩ r.parts with ⟨h, _⟩ | ⟨j, q, h1, h2, h3, h4⟩
        · exact h
        · have hj := (List.getElem?_eq_some_iff.1 h1).1
          rw [len_parts] at hj
          have := Hq.out q (List.mem_of_getElem? (i := j) (by rw [List.getElem?_take, if_pos (by have := HR.out.len; omega)]; exact h1))
          rw [this] at h2; cases h2
      go_wp2
      go_ret
      exact ⟨ret_i64 hz.symm, hb⟩
end Go.Proofs.YtmnmckblmoalkaaGreat

/-
  The same law for a region in which two operations with an effect may come up at once (a tree of orders), and whose last store may change what was read before.
-/
namespace Go.Proofs.YtmnmckblmoalkaaGreat
open Go.RowKit
set_option maxRecDepth 100000
set_option linter.unusedVariables false

/-- an order of the operations: blocks of operations that only read, each ended by one with an effect, or by two in either order; 'fin': the last one is a store that waits for all others -/
inductive Plan where
  | last (qs : List Nat)
  | fin (qs : List Nat) (e : Nat)
  | one (qs : List Nat) (e : Nat) (t : Plan)
  | two (qs : List Nat) (e1 : Nat) (t1 : Plan) (e2 : Nat) (t2 : Plan)
def Plan.len : Plan → Nat
  | .last qs => qs.length
  | .fin qs _ => qs.length + 1
  | .one qs _ t => qs.length + (t.len + 1)
  | .two qs _ t1 _ _ => qs.length + (t1.len + 1)
/-- the last store, if there is one -/
def Plan.store : Plan → Nat → Nat
  | .last _, d => d
  | .fin _ e, _ => e
  | .one _ _ t, d => t.store d
  | .two _ _ t1 _ _, d => t1.store d
/-- the operation 'fin' waits for i -/
def finDep (fin : Nat) (ops : Array Oper) (i : Nat) : Bool := match ops[fin]? with
  | none => true
  | some o => o.after.any (fun e => Region.binds .any e && e.on == i)
theorem finDep_spec {fin : Nat} {ops : Array Oper} {i : Nat} (h : finDep fin ops i = true) : ∀ o, ops[fin]? = some o → ∃ e ∈ o.after, Region.binds .any e = true ∧ e.on = i := fun o ho => by
  unfold finDep at h
  rw [ho] at h
  simp only [Array.any_eq_true'] at h
  obtain ⟨e, he, h2⟩ := h
  simp only [Bool.and_eq_true, beq_iff_eq] at h2
  exact ⟨e, he, h2⟩
def checkU (fin : Nat) (ops : Array Oper) : List Nat → Array Bool → Option (Array Bool)
  | [], listed => some listed
  | i :: r, listed => if plainAt ops i && (Region.ready .any ops listed).contains i && Region.free .any ops listed i && finDep fin ops i then checkU fin ops r (listed.setIfInBounds i true) else none
section
variable {P : Program} {ops : Array Oper} {Q : Exit → Act → World → Prop} {md : Region.Mode} {S : Nat → Prop} {fin : Nat}
def wpAnyU (fin : Nat) (S : Nat → Prop) (P : Program) (md : Region.Mode) (ops : Array Oper) (Q : Exit → Act → World → Prop) : Nat → Array Bool → Act → World → Prop
  | 0, listed, a, w => Region.ready md ops listed = [] ∧ Q .normal a w
  | fuel + 1, listed, a, w =>
    (Region.ready md ops listed = [] → Q .normal a w) ∧
    ∀ i ∈ Region.ready md ops listed, wpOp P ops Q i (fun a' w' => (i ≠ fin → But S w w') ∧ wpAnyU fin S P md ops Q fuel (listed.setIfInBounds i true) a' w') a w

theorem wpAny_of_U : ∀ (fuel : Nat) (listed : Array Bool) (a : Act) (w : World), wpAnyU fin S P md ops Q fuel listed a w → wpAny P md ops Q fuel listed a w
  | 0, _, _, _, h => h
  | fuel + 1, _, _, _, h => ⟨h.1, fun i hi => wpOp_mono (fun a' w' h' => wpAny_of_U fuel _ a' w' h'.2) (h.2 i hi)⟩

theorem wpAnyU_first {i : Nat} {oi : Oper} {v : Value} (hi : ops[i]? = some oi) (hsel : ∀ (j : Nat) (o : Oper) cs b, ops[j]? = some o → o.op ≠ .select cs b)
    (hQ : ∀ c a w, Q (.panic c) (a.put oi.dst v) w → Q (.panic c) a w) (hfin : ∀ o, ops[fin]? = some o → ∃ e ∈ o.after, Region.binds md e = true ∧ e.on = i) :
    ∀ (fuel : Nat) (listed : Array Bool) (a : Act) (w : World),
      (∀ j oj, ops[j]? = some oj → j ≠ i → listed.getD j true = false → (∀ e ∈ oj.after, Region.binds md e = true → e.on ≠ i) → oi.apart ops oj = true) →
      i ∈ Region.ready md ops listed → YieldsIf P ops (fun W => But S w W) oi v a →
      wpAnyU fin S P md ops Q fuel (listed.setIfInBounds i true) (a.put oi.dst v) w → wpAnyU fin S P md ops Q (fuel + 1) listed a w := by
  intro fuel
  induction fuel with
  | zero =>
    intro listed a w _ hr hy H
    refine ⟨fun h => (by rw [h] at hr; cases hr), fun j hj => ?_⟩
    by_cases hji : j = i
    · subst hji; exact hy.wpOp hi (But.refl _ _) ⟨fun _ => But.refl _ _, H⟩
    · have := ready_mono hj hji
      rw [H.1] at this
      cases this
  | succ fuel ih =>
    intro listed a w hfree hr hy H
    refine ⟨fun h => (by rw [h] at hr; cases hr), fun j hj => ?_⟩
    by_cases hji : j = i
    · subst hji; exact hy.wpOp hi (But.refl _ _) ⟨fun _ => But.refl _ _, H⟩
    · have h1 := H.2 j (ready_mono hj hji)
      obtain ⟨hjun, oj, hoj, hall⟩ := mem_ready.1 hj
      have hnot : ∀ e ∈ oj.after, Region.binds md e = true → e.on ≠ i := fun e he hb heq => by
        have h1 := hall e he hb
        have h0 := (mem_ready.1 hr).1
        rw [heq] at h1
        rcases Nat.lt_or_ge i listed.size with h' | h'
        · simp [h'] at h0 h1; rw [h0] at h1; cases h1
        · simp [Array.getElem?_eq_none h'] at h1
      have h2 := wpOp_putIf hoj (hfree j oj hoj hji hjun hnot) (fun cs b => hsel i oi cs b hi) (fun cs b => hsel j oj cs b hoj) hQ hy h1
      have hfree' : ∀ k ok, ops[k]? = some ok → k ≠ i → (listed.setIfInBounds j true).getD k true = false →
          (∀ e ∈ ok.after, Region.binds md e = true → e.on ≠ i) → oi.apart ops ok = true := fun k ok hk hki hun hno => by
        refine hfree k ok hk hki ?_ hno
        by_cases hjk : j = k
        · subst hjk; exact hjun
        · rw [getD_set_ne true hjk] at hun; exact hun
      have hjf : j ≠ fin := fun e => by
        subst e
        obtain ⟨ed, he1, he2, he3⟩ := hfin oj hoj
        exact hnot ed he1 he2 he3
      refine wpOp_mono (fun a' w' h3 => ⟨fun _ => h3.2.1 hjf, ih (listed.setIfInBounds j true) a' w' hfree' (ready_mono hr (Ne.symm hji)) (YieldsIf.shrink (fun W hW => But.trans (h3.2.1 hjf) hW) h3.1) ?_⟩) h2
      rw [Array.setIfInBounds_comm _ _ hji]
      exact h3.2.2

theorem quiet_blockU (hns : Region.noSelect ops = true) (hQ : ∀ c a d v w, Q (.panic c) (Act.put a d v) w → Q (.panic c) a w) {K : Act → Prop} {w : World} {fuel : Nat} {l' : Array Bool}
    (hK : ∀ a, K a → wpAnyU fin S P .any ops Q fuel l' a w) :
    ∀ (qs : List Nat) (listed : Array Bool) (a : Act), checkU fin ops qs listed = some l' → wpQuiet P ops (clsS S w) K (pickOps ops qs) a → wpAnyU fin S P .any ops Q (qs.length + fuel) listed a w
  | [], listed, a, hc, h => by
    simp only [checkU, Option.some.injEq] at hc
    subst hc
    simp only [List.length_nil, Nat.zero_add]
    exact hK a h
  | i :: r, listed, a, hc, h => by
    unfold checkU at hc
    split at hc
    · rename_i hcond
      simp only [Bool.and_eq_true] at hcond
      obtain ⟨⟨⟨hp, hr⟩, hf⟩, hd⟩ := hcond
      cases hi : ops[i]? with
      | none => simp [plainAt, hi] at hp
      | some o =>
        simp only [plainAt, hi] at hp
        have hpick : pickOps ops (i :: r) = o :: pickOps ops r := by simp [pickOps, opAt, hi]
        rw [hpick] at h
        unfold wpQuiet at h
        have hlen : (i :: r).length + fuel = (r.length + fuel) + 1 := by simp; omega
        rw [hlen]
        by_cases hw : Region.wanted o (yielded ops a.tmps) = true
        · rw [if_pos hw] at h
          obtain ⟨v, h1, h2⟩ := h
          refine wpAnyU_first hi (Region.noSelect_spec hns) (fun c a w => hQ c a _ _ w) (finDep_spec hd) _ listed a w (Region.free_spec hi hf) (by simpa using hr) (v := v) (.inl ⟨hw, fun W hW => ?_⟩) (quiet_blockU hns hQ hK r _ _ hc h2)
          have h3 := h1 W (clsS_iff.2 hW)
          have hg := gives_plain o hp a.eval P W
          unfold Oper.quietAt at h3
          generalize (execOp a.eval o).run P W = res at *
          cases res with
          | ok n w' =>
            cases n <;> simp only [Oper.quietUpon] at h3 <;> simp only [gives] at hg
            obtain ⟨e1, e2⟩ := h3
            rw [e1, e2]
          | halt x w' => simp only [Oper.quietUpon] at h3
        · rw [if_neg hw] at h
          exact wpAnyU_first hi (Region.noSelect_spec hns) (fun c a w => hQ c a _ _ w) (finDep_spec hd) _ listed a w (Region.free_spec hi hf) (by simpa using hr) (v := undef) (.inr ⟨by simpa using hw, rfl⟩) (quiet_blockU hns hQ hK r _ _ hc h)
    · cases hc


def checkT (fin : Nat) (ops : Array Oper) : Plan → Array Bool → Bool
  | .last qs, listed => match checkU fin ops qs listed with
    | some l => (Region.ready .any ops l).isEmpty
    | none => false
  | .fin qs e, listed => match checkU fin ops qs listed with
    | some l => (Region.ready .any ops l == [e]) && (decide (e < ops.size) && (decide (e = fin) && (Region.ready .any ops (l.setIfInBounds e true)).isEmpty))
    | none => false
  | .one qs e t, listed => match checkU fin ops qs listed with
    | some l => (Region.ready .any ops l == [e]) && (decide (e < ops.size) && checkT fin ops t (l.setIfInBounds e true))
    | none => false
  | .two qs e1 t1 e2 t2, listed => match checkU fin ops qs listed with
    | some l => (Region.ready .any ops l == [e1, e2]) && (decide (e1 < ops.size) && (decide (e2 < ops.size) && (decide (t1.len = t2.len) && (checkT fin ops t1 (l.setIfInBounds e1 true) && checkT fin ops t2 (l.setIfInBounds e2 true)))))
    | none => false
/-- the orders of a plan -/
def wpPlan (S : Nat → Prop) (P : Program) (ops : Array Oper) (Q : Exit → Act → World → Prop) : Plan → Act → World → Prop
  | .last qs, a, w => wpQuiet P ops (fun W => ∃ x : LaterS S w, W = afterS S w x) (fun a' => Q .normal a' w) (pickOps ops qs) a
  | .fin qs e, a, w => wpQuiet P ops (fun W => ∃ x : LaterS S w, W = afterS S w x) (fun a' => wpList P ops (Exit.then (fun a'' w' => Q .normal a'' w') Q) [opAt ops e] a' w) (pickOps ops qs) a
  | .one qs e t, a, w => wpQuiet P ops (fun W => ∃ x : LaterS S w, W = afterS S w x) (fun a' => wpList P ops (Exit.then (fun a'' w' => But S w w' ∧ wpPlan S P ops Q t a'' w') Q) [opAt ops e] a' w) (pickOps ops qs) a
  | .two qs e1 t1 e2 t2, a, w => wpQuiet P ops (fun W => ∃ x : LaterS S w, W = afterS S w x) (fun a' => wpList P ops (Exit.then (fun a'' w' => But S w w' ∧ wpPlan S P ops Q t1 a'' w') Q) [opAt ops e1] a' w ∧ wpList P ops (Exit.then (fun a'' w' => But S w w' ∧ wpPlan S P ops Q t2 a'' w') Q) [opAt ops e2] a' w) (pickOps ops qs) a
theorem at_of_lt {e : Nat} (h : e < ops.size) : ops[e]? = some (opAt ops e) := by
  unfold opAt
  rw [Array.getElem?_eq_getElem h]
  rfl
theorem plan_any (hns : Region.noSelect ops = true) (hQ : ∀ c a d v w, Q (.panic c) (Act.put a d v) w → Q (.panic c) a w) :
    ∀ (t : Plan) (listed : Array Bool) (a : Act) (w : World), checkT fin ops t listed = true → wpPlan S P ops Q t a w → wpAnyU fin S P .any ops Q t.len listed a w
  | .last qs, listed, a, w, hc, h => by
    unfold checkT at hc
    split at hc
    · rename_i l hl
      exact quiet_blockU hns hQ (fuel := 0) (fun a' h' => ⟨by simpa using hc, h'⟩) qs listed a hl h
    · cases hc
  | .fin qs e, listed, a, w, hc, h => by
    unfold checkT at hc
    split at hc
    · rename_i l hl
      simp only [Bool.and_eq_true, beq_iff_eq, decide_eq_true_eq] at hc
      refine quiet_blockU hns hQ (fuel := 0 + 1) (fun a' h' => ?_) qs listed a hl h
      refine ⟨fun h0 => (by rw [hc.1] at h0; cases h0), fun i hi => ?_⟩
      rw [hc.1] at hi
      have hie : i = e := by simpa using hi
      subst hie
      exact wpOp_mono (fun a'' w' h'' => ⟨fun hne => absurd hc.2.2.1 hne, by simpa using hc.2.2.2, h''⟩) (op_of_list (at_of_lt hc.2.1) h')
    · cases hc
  | .one qs e t, listed, a, w, hc, h => by
    unfold checkT at hc
    split at hc
    · rename_i l hl
      simp only [Bool.and_eq_true, beq_iff_eq, decide_eq_true_eq] at hc
      refine quiet_blockU hns hQ (fuel := t.len + 1) (fun a' h' => ?_) qs listed a hl h
      refine ⟨fun h0 => (by rw [hc.1] at h0; cases h0), fun i hi => ?_⟩
      rw [hc.1] at hi
      have hie : i = e := by simpa using hi
      subst hie
      exact wpOp_mono (fun a'' w' ⟨hb, h''⟩ => ⟨fun _ => hb, plan_any hns hQ t _ a'' w' hc.2.2 h''⟩) (op_of_list (at_of_lt hc.2.1) h')
    · cases hc
  | .two qs e1 t1 e2 t2, listed, a, w, hc, h => by
    unfold checkT at hc
    split at hc
    · rename_i l hl
      simp only [Bool.and_eq_true, beq_iff_eq, decide_eq_true_eq] at hc
      obtain ⟨c1, c2, c3, c4, c5, c6⟩ := hc
      refine quiet_blockU hns hQ (fuel := t1.len + 1) (fun a' h' => ?_) qs listed a hl h
      refine ⟨fun h0 => (by rw [c1] at h0; cases h0), fun i hi => ?_⟩
      rw [c1] at hi
      rcases List.mem_cons.1 hi with rfl | hi
      · exact wpOp_mono (fun a'' w' ⟨hb, h''⟩ => ⟨fun _ => hb, plan_any hns hQ t1 _ a'' w' c5 h''⟩) (op_of_list (at_of_lt c2) h'.1)
      · have hie : i = e2 := by simpa using hi
        subst hie
        exact wpOp_mono (fun a'' w' ⟨hb, h''⟩ => ⟨fun _ => hb, by rw [c4]; exact plan_any hns hQ t2 _ a'' w' c6 h''⟩) (op_of_list (at_of_lt c3) h'.2)
    · cases hc
/-- THE LAW -/
theorem wp_region_plan {id : Nat} {a : Act} {w : World} {l : List Oper} (S : Nat → Prop) (t : Plan) (hm : P.follows .mixedOrders = true)
    (hc : (Region.noSelect l.toArray && (checkT (t.store l.toArray.size) l.toArray t (Array.replicate l.toArray.size false) && decide (t.len = l.toArray.size))) = true)
    (hQ : ∀ c a d v w, Q (.panic c) (Act.put a d v) w → Q (.panic c) a w)
    (h : wpPlan S P l.toArray Q t a w.drew) : (Code.region id l.toArray true).wp P Q a w := by
  simp only [Bool.and_eq_true, decide_eq_true_eq] at hc
  refine wp_region_any hm ?_
  have h1 := plan_any hc.1 hQ t _ a _ hc.2.1 h
  rw [hc.2.2] at h1
  exact wpAny_of_U _ _ _ _ h1
end
end Go.Proofs.YtmnmckblmoalkaaGreat
