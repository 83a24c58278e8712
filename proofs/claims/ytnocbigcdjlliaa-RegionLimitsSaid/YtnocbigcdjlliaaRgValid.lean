/-
  The program's region functions Valid, Size, Empty.
-/
import Derived.Test.YtnocbigcdjlliaaRgForm
namespace Go.Proofs.Ytnocbigcdjlliaa
open Go.RowKit
open Rg

/-- a region is canonical, with all limits -/
def OkR (r : Rg) : Prop := 0 ≤ r.w ∧ r.w ≤ 12 ∧ r.size ≤ 64 ∧ FormF r.w.toNat r
open Classical in
noncomputable def okB (r : Rg) : Bool := decide (OkR r)
theorem okB_true {r : Rg} : okB r = true ↔ OkR r := by simp [okB]
theorem okB_false {r : Rg} (h : ¬ OkR r) : okB r = false := by simp [okB, h]

set_option maxHeartbeats 1000000 in
theorem rvalidR_any (r : Rg) (x : Int) (f : Bool) (A : Option Addr) (n c : Nat) (w : World) (hR : RgS w x f A n c r) :
    Calls Try.prog 13 #[.agg #[.int .i64 x, .bool f, .slice A n c]] w fun e w' => e = .returned (.bool (okB r)) ∧ Below w.heap.size w w' := by
  have hx := hR.hw
  have HR := Lib.hid hR
  have HX := Lib.hid hx
  clear hR hx
  have E0 := Lib.hid (Blk.new w 24 #[.int .i64 x, .bool f, .slice A n c])
  have hB0 : Below w.heap.size w (w.alloc (.cells #[.int .i64 x, .bool f, .slice A n c] 24)) := (Below.refl _ _).alloc (Nat.le_refl _) _
  have HB0 := Lib.hid hB0
  clear hB0
  have HB1 := Lib.hid ((HB0.out).alloc (by simp) (.cells #[.int .i64 64] 3))
  rcases Int.lt_or_le x 0 with h0 | h0
  · rw [okB_false (fun h => by have h1 := h.1; rw [HX.out] at h1; omega)]
    have g1 : decide (0 ≤ x) = false := by simp; omega
    go_enter Try.func13, Try.ntmps13
    go_wp2
    go_ret
    exact ⟨rfl, HB1.out⟩
  · have g1 : decide (0 ≤ x) = true := by simp; omega
    rcases Int.lt_or_le 12 x with h1 | h1
    · rw [okB_false (fun h => by have h2 := h.2.1; rw [HX.out] at h2; omega)]
      have g2 : decide (x ≤ 12) = false := by simp; omega
      go_enter Try.func13, Try.ntmps13
      go_wp2
      go_ret
      exact ⟨rfl, HB1.out⟩
    · have g2 : decide (x ≤ 12) = true := by simp; omega
      have hfew := few_any (w.alloc (.cells #[.int .i64 x, .bool f, .slice A n c] 24)) (w.heap.size + 1) (by simp) r x f A n c 64 ((w.alloc (.cells #[.int .i64 x, .bool f, .slice A n c] 24)).alloc (.cells #[.int .i64 64] 3)) (HR.out.keep (keeps_alloc _ _)) (by omega) ((Below.refl _ _).alloc (Nat.le_refl _) _) (by
        have := Blk.new (w.alloc (.cells #[.int .i64 x, .bool f, .slice A n c] 24)) 3 #[.int .i64 64]
        rw [World.size_alloc] at this
        exact this)
      have HFEW := Lib.hid hfew
      clear hfew
      go_enter Try.func13, Try.ntmps13
      go_wp2_with fail
      refine HFEW.out.mono ?_
      rintro e w1 ⟨rfl, hb1, _⟩
      have hz := (E0.out.below hb1).cell
      have hB2 := Below.next HB0.out hb1
      by_cases hs : r.size ≤ 64
      · have g3 : decide (r.size ≤ 64) = true := by simp [hs]
        rw [g3]
        obtain ⟨d, rfl⟩ := Int.eq_ofNat_of_zero_le h0
        go_wp2_with fail
        refine (formed_any d r _ f A n c _ (HR.out.keep (keeps_of hB2)) hs (by omega)).mono ?_
        rintro e w2 ⟨rfl, hb2⟩
        go_wp2
        go_ret
        refine ⟨ret_bool ?_, Below.next hB2 hb2⟩
        rw [Bool.eq_iff_iff, okB_true, formB_true]
        unfold OkR
        rw [HX.out]
        constructor
        · intro h; exact ⟨h0, h1, hs, h⟩
        · intro h; exact h.2.2.2
      · have g3 : decide (r.size ≤ 64) = false := by simp; omega
        rw [g3]
        have Hno := Lib.hid (okB_false (fun h => hs h.2.2.1))
        go_wp2
        go_ret
        exact ⟨ret_bool Hno.out.symm, hB2⟩

theorem sizeR_any (r : Rg) (x : Int) (f : Bool) (A : Option Addr) (n c : Nat) (w : World) (hR : RgS w x f A n c r) :
    Calls Try.prog 9 #[.agg #[.int .i64 x, .bool f, .slice A n c]] w fun e w' => e = .returned (.int .i64 (if okB r then (r.size : Int) else 0)) ∧ Below w.heap.size w w' := by
  have HR := Lib.hid hR
  clear hR
  generalize hz : (if okB r then (r.size : Int) else 0) = z
  have HZ := Lib.hid hz
  clear hz
  have E0 := Lib.hid (Blk.new w 24 #[.int .i64 x, .bool f, .slice A n c])
  have hB0 : Below w.heap.size w (w.alloc (.cells #[.int .i64 x, .bool f, .slice A n c] 24)) := (Below.refl _ _).alloc (Nat.le_refl _) _
  go_enter Try.func9, Try.ntmps9
  go_wp2_with fail
  refine (rvalidR_any r x f A n c _ (HR.out.keep (keeps_alloc _ _))).mono ?_
  rintro e w1 ⟨rfl, hb1⟩
  obtain ⟨v, Hv⟩ : ∃ t, Hid (okB r = t) := ⟨_, rfl⟩
  rw [Hv.out]
  have hz := (E0.out.below hb1).cell
  have hB2 := Below.next hB0 hb1
  cases v
  · go_wp2
    go_ret
    exact ⟨ret_i64 (by rw [← HZ.out, Hv.out]; rfl), hB2⟩
  · have hs := (okB_true.1 Hv.out).2.2.1
    go_wp2_with fail
    refine (rsize_any r x f A n c _ (HR.out.keep (keeps_of hB2)) (by omega)).mono ?_
    rintro e w2 ⟨rfl, hb2⟩
    go_wp2
    go_ret
    exact ⟨ret_i64 (by rw [← HZ.out, Hv.out]; rfl), Below.next hB2 hb2⟩

/-- what an operation that makes a region returns -/
def RgRes (w : World) (r : Rg) (er : Int) (e : Ending) (w' : World) : Prop :=
  ∃ (x : Int) (f : Bool) (A : Option Addr) (n c : Nat), e = .returned (.tuple #[.agg #[.int .i64 x, .bool f, .slice A n c], .int .i64 er]) ∧ RgS w' x f A n c r ∧ Below w.heap.size w w'
def zeroR : Rg := .nil 0 false
theorem emptyR_any (x : Int) (w : World) : Calls Try.prog 4 #[.int .i64 x] w fun e w' => RgRes w (if 0 ≤ x ∧ x ≤ 12 then .nil x false else zeroR) (if 0 ≤ x ∧ x ≤ 12 then 0 else 1) e w' := by
  have hB0 : ∀ v : Value, Below w.heap.size w (w.alloc (.cells #[v, .bool false, .slice none 0 0] 24)) := fun v => (Below.refl _ _).alloc (Nat.le_refl _) _
  rcases Int.lt_or_le x 0 with h0 | h0
  · have g1 : decide (x < 0) = true := by simp; omega
    rw [if_neg (by omega), if_neg (by omega)]
    go_enter Try.func4, Try.ntmps4
    go_wp2
    refine bodyPost_ret (v := .tuple #[.agg #[.int .i64 0, .bool false, .slice none 0 0], .int .i64 1]) (by simp [results, Try.results4, go_sem]) rfl ⟨0, false, none, 0, 0, rfl, RgS.nil _ _, ?_⟩
    repeat (first | exact Below.refl _ _ | refine Below.setCell ?_ (by simp) _ | refine Below.alloc ?_ (by simp) _)
  · have g1 : decide (x < 0) = false := by simp; omega
    rcases Int.lt_or_le 12 x with h1 | h1
    · have g2 : decide (12 < x) = true := by simp; omega
      rw [if_neg (by omega), if_neg (by omega)]
      go_enter Try.func4, Try.ntmps4
      go_wp2
      refine bodyPost_ret (v := .tuple #[.agg #[.int .i64 0, .bool false, .slice none 0 0], .int .i64 1]) (by simp [results, Try.results4, go_sem]) rfl ⟨0, false, none, 0, 0, rfl, RgS.nil _ _, ?_⟩
      repeat (first | exact Below.refl _ _ | refine Below.setCell ?_ (by simp) _ | refine Below.alloc ?_ (by simp) _)
    · have g2 : decide (12 < x) = false := by simp; omega
      rw [if_pos ⟨h0, h1⟩, if_pos ⟨h0, h1⟩]
      go_enter Try.func4, Try.ntmps4
      go_wp2
      refine bodyPost_ret (v := .tuple #[.agg #[.int .i64 x, .bool false, .slice none 0 0], .int .i64 0]) (by simp [results, Try.results4, go_sem]) rfl ⟨x, false, none, 0, 0, rfl, RgS.nil _ _, ?_⟩
      repeat (first | exact Below.refl _ _ | refine Below.setCell ?_ (by simp) _ | refine Below.alloc ?_ (by simp) _)
end Go.Proofs.Ytnocbigcdjlliaa
