/-
  Texts: Union, RgLaw, FValid, RgOps, FOps.
-/
import Derived.Test.YtmnmckblmoalkaaGreatB34
import Derived.Test.YtmnmckblmoalkaaGreatB32
set_option linter.unusedVariables false
/-
  The program's region function Union; plain facts on boxes and results.
-/
namespace Go.Proofs.YtmnmckblmoalkaaGreat
open Go.RowKit
set_option maxRecDepth 100000
open Rg

abbrev opUr : Bool → Bool → Bool := ofT true true true
set_option maxHeartbeats 2000000 in
theorem gunion_any (a : Rg) (xa : Int) (fa : Bool) (Aa : Option Addr) (na ca : Nat) (b : Rg) (xb : Int) (fb : Bool) (Ab : Option Addr) (nb cb : Nat) (w : World) (hA : RgS w xa fa Aa na ca a) (hB : RgS w xb fb Ab nb cb b) (wA : WfR a) (wB : WfR b) :
    Calls Tryz.prog 42 #[.agg #[.int .i64 xa, .bool fa, .slice Aa na ca], .agg #[.int .i64 xb, .bool fb, .slice Ab nb cb]] w fun e w' => RgRes w (opRes opUr a b) (opErr opUr a b) e w' := by
  obtain ⟨er, Her⟩ : ∃ z, Hid (opErr opUr a b = z) := ⟨_, rfl⟩
  obtain ⟨rr, Hrr⟩ : ∃ z, Hid (opRes opUr a b = z) := ⟨_, rfl⟩
  rw [Her.out, Hrr.out]
  have HA := Lib.hid hA
  have HB := Lib.hid hB
  have HW := Lib.hid (And.intro wA wB)
  clear hA hB wA wB
  obtain ⟨W0, HW0⟩ : ∃ W : World, Hid (((w.alloc (.cells #[.int .i64 xa, .bool fa, .slice Aa na ca] 27)).alloc (.cells #[.int .i64 xb, .bool fb, .slice Ab nb cb] 27)).alloc (.cells #[.int .i64 0, .bool false, .slice none 0 0] 27) = W) := ⟨_, rfl⟩
  have HC : Hid (Blk W0 (w.heap.size + 2) 27 #[.int .i64 0, .bool false, .slice none 0 0]) := by
    rw [← HW0.out]
    exact Lib.hid (Blk.step (by simp))
  have HB0 : Hid (Below w.heap.size w W0) := by
    rw [← HW0.out]
    exact Lib.hid ((((Below.refl _ _).alloc (Nat.le_refl _) _).alloc (by simp) _).alloc (by simp; omega) _)
  go_enter Tryz.func42, Tryz.ntmps42
  go_wp2_with fail
  rw [HW0.out]
  refine (operate_any true true true a xa fa Aa na ca b xb fb Ab nb cb _ (HA.out.keep (keeps_of HB0.out)) (HB.out.keep (keeps_of HB0.out)) HW.out.1 HW.out.2).mono ?_
  rintro e w1 ⟨x, f, A, n, c, rfl, hR1, hb1⟩
  rw [Her.out]
  rw [Hrr.out] at hR1
  have HT := Lib.hid (HC.out.below hb1)
  have HB1 := Lib.hid (Below.next HB0.out hb1)
  have HR1 := Lib.hid hR1
  clear hb1 hR1 HC HB0
  have z3 := HT.out.cell
  obtain ⟨ff1, ff2, ff3⟩ := put3R_free HT.out (.int .i64 x) (.bool f)
  have y3 := (put3R_blk (a' := .int .i64 x) (b' := .bool f) (c' := .slice A n c) HT.out).cell
  have y1 := (HT.out.set_ 0 (.int .i64 x)).cell
  have y2 := ((HT.out.set_ 0 (.int .i64 x)).set_ 1 (.bool f)).cell
  have HBr := Lib.hid (put3R_below HB1.out (show w.heap.size ≤ w.heap.size + 2 by omega) (.int .i64 x) (.bool f) (.slice A n c))
  have HRr := Lib.hid (RgS.off HT.out (put3R_but _ (w.heap.size + 2) (.int .i64 x) (.bool f) (.slice A n c)) HR1.out)
  unfold put3R at y3
  go_wp2
  exact bodyPost_ret (v := .tuple #[.agg #[.int .i64 x, .bool f, .slice A n c], .int .i64 er]) (by simp [results, Tryz.results42, go_sem, y3]) rfl ⟨x, f, A, n, c, rfl, HRr.out, HBr.out⟩
/-- a box of valid sets is canonical -/
theorem box_ok : ∀ l : List (List Iv), (∀ s ∈ l, validL s = true) → Form l.length (boxR l) ∧ (boxR l).fits = true ∧ (boxR l).size ≤ l.length
  | [], _ => ⟨⟨rfl, rfl⟩, rfl, by simp [boxR, Rg.size]⟩
  | s :: l, h => by
    obtain ⟨h1, h2, h3⟩ := box_ok l (fun t ht => h t (List.mem_cons_of_mem _ ht))
    have hs := h s List.mem_cons_self
    have hw := box_w l
    unfold validL at hs
    rw [Bool.and_eq_true, decide_eq_true_eq] at hs
    rw [box_cons]
    split
    · rename_i hc
      simp only [Bool.and_eq_true, Bool.not_eq_true'] at hc
      refine ⟨⟨?_, rfl, fun p hp => ?_, List.pairwise_singleton _ _⟩, ?_, ?_⟩
      · simp only [Rg.w, hw]; omega
      · rw [show (Rg.cons s (boxR l) (.nil ((boxR l).w + 1) false)).parts = [(s, boxR l)] from rfl, List.mem_singleton] at hp
        subst hp
        exact ⟨fun e => by have h1 : s = [] := e; rw [h1] at hc; simp at hc, hs.2, h1, hc.2⟩
      · simp only [Rg.fits, h2, Bool.and_true, decide_eq_true_eq]; exact hs.1
      · simp only [Rg.size, List.length_cons]; omega
    · refine ⟨?_, rfl, by simp [Rg.size]⟩
      have := form_nil (l.length + 1)
      rw [List.length_cons, hw]
      simpa using this
theorem box_wf : ∀ l : List (List Iv), (∀ s ∈ l, ∀ x ∈ s, rgV x.f ∧ rgV x.t) → WfR (boxR l)
  | [], _ => trivial
  | s :: l, h => by
    rw [box_cons]
    split
    · exact ⟨h s List.mem_cons_self, box_wf l (fun t ht => h t (List.mem_cons_of_mem _ ht)), trivial⟩
    · trivial
theorem box_OkR {l : List (List Iv)} (h : boxErr l = 0) : OkR (boxR l) := by
  unfold boxErr at h
  split at h
  · cases h
  · rename_i hl
    split at h
    · rename_i hv
      rw [List.all_eq_true] at hv
      obtain ⟨h1, h2, h3⟩ := box_ok l hv
      have hw := box_w l
      refine ⟨by omega, by omega, by omega, ?_, h2⟩
      rw [hw]
      exact h1
    · cases h
theorem op_ok {op : Bool → Bool → Bool} {a b : Rg} (h : opErr op a b = 0) : OkR (opRes op a b) ∧ opRes op a b = comb op a.w.toNat a b ∧ OkR a ∧ OkR b ∧ a.w = b.w ∧ within (comb op a.w.toNat a b) := by
  have h0 : opRes op a b = comb op a.w.toNat a b := by rw [opRes, if_pos h]
  unfold opErr at h
  split at h
  · rename_i hc
    simp only [Bool.and_eq_true, decide_eq_true_eq, okB_true] at hc
    obtain ⟨⟨ha, hb⟩, hw⟩ := hc
    split at h
    · rename_i hi
      have hf := comb_form op a.w.toNat a b ha.2.2.2.1 (by rw [hw]; exact hb.2.2.2.1)
      have hcw := hf.width
      refine ⟨?_, h0, ha, hb, hw, hi⟩
      rw [h0]
      have h1 := ha.1
      have h2 := ha.2.1
      refine ⟨by omega, by omega, hi.1, ?_, hi.2⟩
      rw [hcw, Int.toNat_natCast]
      exact hf
    · cases h
  · cases h
theorem op_err {op : Bool → Bool → Bool} {a b : Rg} (ha : OkR a) (hb : OkR b) (hw : a.w = b.w) : opErr op a b = if (comb op a.w.toNat a b).size ≤ 64 ∧ (comb op a.w.toNat a b).fits = true then 0 else 2 := by
  rw [opErr, if_pos]
  simp only [Bool.and_eq_true, decide_eq_true_eq, okB_true]
  exact ⟨⟨ha, hb⟩, hw⟩
theorem op_wf {op : Bool → Bool → Bool} {a b : Rg} (ha : WfR a) (hb : WfR b) : WfR (opRes op a b) := by
  unfold opRes
  split
  · exact comb_wf op _ a b ha hb
  · trivial
end Go.Proofs.YtmnmckblmoalkaaGreat

/-
  Plain: laws of the operations on canonical regions. No program here.
-/
namespace Go.Proofs.YtmnmckblmoalkaaGreat
open Go.RowKit
set_option maxRecDepth 100000
open Rg

abbrev opIr : Bool → Bool → Bool := ofT true false false
abbrev opMr : Bool → Bool → Bool := ofT false true false
theorem ofT_ff (tb tl tr : Bool) : ofT tb tl tr false false = false := rfl
/-- the region of all rows -/
def allR (n : Nat) : Rg := boxR (List.replicate n allL)
theorem validL_all : validL allL = true := by decide +kernel
theorem in_all {v : Vl} (h : validV v = true) : inL allL v = true := by
  have hk : 1 ≤ v.k ∧ (v.k = 1 → v.i = 0 ∧ v.t = ⟨#[]⟩) := by
    unfold validV at h
    constructor
    · rcases Int.lt_or_le v.k 1 with h1 | h1
      · exfalso
        repeat' split at h
        all_goals simp_all
        all_goals omega
      · exact h1
    · intro e
      simp [e] at h
      refine ⟨h.1, zero_text.2 ?_⟩
      exact h.2
  unfold inL allL inI
  simp only [List.any_cons, List.any_nil, Bool.or_false, Bool.true_or, Bool.and_true, decide_eq_true_eq]
  rw [show v = ⟨v.k, v.i, v.t⟩ from rfl, cmpV_of]
  rcases Int.lt_or_le 1 v.k with h1 | h1
  · have : cmpI 1 v.k = -1 := by simp [cmpI, h1]
    rw [this]; simp
  · have e : v.k = 1 := by omega
    obtain ⟨e1, e2⟩ := hk.2 e
    rw [e, e1, e2, cmpI_self, cmpI_self, cmpB_self]
    decide
theorem den_nixF {r : Rg} (h : r.nix = true) (row : List Vl) : r.den row = false := by
  obtain ⟨h1, h2⟩ := (none_iff r).1 h
  have : r = .nil r.w false := Rg.ext rfl h1 h2
  rw [this]
  cases row <;> rfl
theorem den_box : ∀ (l : List (List Iv)) (row : List Vl), row.length = l.length → (boxR l).den row = (l.zip row).all fun p => inL p.1 p.2
  | [], row, h => by
    obtain rfl := List.eq_nil_of_length_eq_zero h
    rfl
  | s :: l, [], h => by cases h
  | s :: l, v :: row, h => by
    have ih := den_box l row (by simpa using h)
    rw [box_cons, List.zip_cons_cons, List.all_cons, ← ih]
    split
    · simp only [Rg.den]
      cases inL s v <;> rfl
    · rename_i hc
      show false = _
      by_cases hs : s = []
      · subst hs; rfl
      · have : (boxR l).nix = true := by
          cases hn : (boxR l).nix
          · exfalso; apply hc; rw [hn]; cases s with | nil => exact absurd rfl hs | cons => rfl
          · rfl
        rw [den_nixF this, Bool.and_false]
theorem all_w (n : Nat) : (allR n).w = (n : Int) := by unfold allR; rw [box_w, List.length_replicate]
theorem all_form (n : Nat) : Form n (allR n) ∧ (allR n).fits = true ∧ (allR n).size ≤ n := by
  have := box_ok (List.replicate n allL) (fun s hs => by rw [(List.mem_replicate.1 hs).2]; exact validL_all)
  rw [List.length_replicate] at this
  exact this
theorem all_ok {n : Nat} (h : n ≤ 12) : OkR (allR n) := by
  obtain ⟨h1, h2, h3⟩ := all_form n
  have hw := all_w n
  exact ⟨by omega, by omega, by omega, by rw [hw, Int.toNat_natCast]; exact h1, h2⟩
theorem all_wf (n : Nat) : WfR (allR n) := box_wf _ fun s hs => by
  rw [(List.mem_replicate.1 hs).2]
  intro x hx
  simp only [allL, List.mem_singleton] at hx
  subst hx
  exact ⟨⟨by decide, by decide⟩, ⟨by decide, by decide⟩⟩
theorem all_den {n : Nat} {row : List Vl} (h : goodRow n row) : (allR n).den row = true := by
  unfold allR
  rw [den_box _ _ (by rw [List.length_replicate, h.1])]
  rw [List.all_eq_true]
  intro p hp
  have h1 := List.of_mem_zip hp
  rw [(List.mem_replicate.1 h1.1).2]
  exact in_all (h.2 _ h1.2)
/-- the complement, whatever its size -/
def cplR (n : Nat) (a : Rg) : Rg := comb opMr n (allR n) a
section
variable {n : Nat} {a b c : Rg} (fa : Form n a) (fb : Form n b) (fc : Form n c)
include fa
theorem cpl_den {row : List Vl} (h : goodRow n row) : (cplR n a).den row = !a.den row := by
  unfold cplR
  rw [comb_den _ (ofT_ff _ _ _) n _ _ (all_form n).1 fa row h.1, all_den h]
  cases a.den row <;> rfl
include fb
theorem den_op (tb tl tr : Bool) {row : List Vl} (h : goodRow n row) : (comb (ofT tb tl tr) n a b).den row = ofT tb tl tr (a.den row) (b.den row) := comb_den _ (ofT_ff _ _ _) n _ _ fa fb row h.1
include fc
end
end Go.Proofs.YtmnmckblmoalkaaGreat

/-
  The reference's Valid, Size and Equal on regions.
-/
namespace Go.Proofs.YtmnmckblmoalkaaGreat
open Go.RowKit
set_option maxRecDepth 100000
open Rg

set_option maxHeartbeats 1000000 in
theorem fvalid_any (r : Rg) (x : Int) (f : Bool) (A : Option Addr) (n c : Nat) (w : World) (hR : RgS w x f A n c r) :
    Calls Tryz.prog 60 #[.agg #[.int .i64 x, .bool f, .slice A n c]] w fun e w' => e = .returned (.bool (okB r)) ∧ Below w.heap.size w w' := by
  have hx := hR.hw
  have HR := Lib.hid hR
  have HX := Lib.hid hx
  clear hR hx
  have E0 := Lib.hid (Blk.new w 27 #[.int .i64 x, .bool f, .slice A n c])
  have HB0 : Hid (Below w.heap.size w (w.alloc (.cells #[.int .i64 x, .bool f, .slice A n c] 27))) := Lib.hid ((Below.refl _ _).alloc (Nat.le_refl _) _)
  rcases Int.lt_or_le x 0 with h0 | h0
  · rw [okB_false (fun h => by have h1 := h.1; rw [HX.out] at h1; omega)]
    have g1 : decide (0 ≤ x) = false := by simp; omega
    go_enter Tryz.func60, Tryz.ntmps60
    go_wp2
    go_ret
    exact ⟨rfl, HB0.out⟩
  · have g1 : decide (0 ≤ x) = true := by simp; omega
    rcases Int.lt_or_le 12 x with h1 | h1
    · rw [okB_false (fun h => by have h2 := h.2.1; rw [HX.out] at h2; omega)]
      have g2 : decide (x ≤ 12) = false := by simp; omega
      go_enter Tryz.func60, Tryz.ntmps60
      go_wp2
      go_ret
      exact ⟨rfl, HB0.out⟩
    · have g2 : decide (x ≤ 12) = true := by simp; omega
      go_enter Tryz.func60, Tryz.ntmps60
      go_wp2_with fail
      refine (fcount_any r x f A n c 0 _ (HR.out.keep (keeps_of HB0.out)) (by omega)).mono ?_
      rintro e w1 ⟨rfl, hb1⟩
      have hz := (E0.out.below hb1).cell
      have hB2 := Below.next HB0.out hb1
      by_cases hs : r.size ≤ 64
      · have e1 : cntR 0 r = r.size := by rw [cntR, if_pos (by omega)]; omega
        rw [e1]
        have g3 : decide ((r.size : Int) ≤ 64) = true := by simp; omega
        obtain ⟨d, rfl⟩ := Int.eq_ofNat_of_zero_le h0
        go_wp2_with fail
        refine (fform_any d r _ f A n c _ (HR.out.keep (keeps_of hB2)) hs (by omega)).mono ?_
        rintro e w2 ⟨rfl, hb2⟩
        go_wp2
        go_ret
        refine ⟨ret_bool ?_, Below.next hB2 hb2⟩
        rw [Bool.eq_iff_iff, okB_true, formB_true]
        unfold OkR
        rw [HX.out]
        constructor
        · intro h; exact ⟨h0, h1, hs, h⟩
        · intro h; exact h.2.2.2
      · have e1 : cntR 0 r = 65 := by rw [cntR, if_neg (by omega)]
        rw [e1]
        have g3 : decide (((65 : Nat) : Int) ≤ 64) = false := by decide
        have Hno := Lib.hid (okB_false (fun h => hs h.2.2.1))
        go_wp2
        go_ret
        exact ⟨ret_bool Hno.out.symm, hB2⟩
end Go.Proofs.YtmnmckblmoalkaaGreat

/-
  The program's Intersect, Minus, Equal and Covers on regions.
-/
namespace Go.Proofs.YtmnmckblmoalkaaGreat
open Go.RowKit
set_option maxRecDepth 100000
open Rg

end Go.Proofs.YtmnmckblmoalkaaGreat

/-
  The reference's limited, Do, Union, Intersect, Minus and Covers on regions.
-/
namespace Go.Proofs.YtmnmckblmoalkaaGreat
open Go.RowKit
set_option maxRecDepth 100000
open Rg

/-- a form within the limits, and the error -/
def limE (r : Rg) : Int := if r.size ≤ 64 ∧ r.fits = true then 0 else 2
def limR (r : Rg) : Rg := if limE r = 0 then r else zeroR
set_option maxHeartbeats 1000000 in
theorem flimited_any (r : Rg) (x : Int) (f : Bool) (A : Option Addr) (n c : Nat) (w : World) (hR : RgS w x f A n c r) (hsm : Sm r) :
    Calls Tryz.prog 148 #[.agg #[.int .i64 x, .bool f, .slice A n c]] w fun e w' => RgRes w (limR r) (limE r) e w' := by
  obtain ⟨er, Her⟩ : ∃ z, Hid (limE r = z) := ⟨_, rfl⟩
  obtain ⟨rr, Hrr⟩ : ∃ z, Hid (limR r = z) := ⟨_, rfl⟩
  rw [Her.out, Hrr.out]
  have Hz : Hid (er ≠ 0 → rr = zeroR) := Lib.hid (fun h => by rw [← Hrr.out, limR, if_neg (by rw [Her.out]; exact h)])
  have Ho : Hid (er = 0 → rr = r) := Lib.hid (fun h => by rw [← Hrr.out, limR, if_pos (by rw [Her.out]; exact h)])
  have HR := Lib.hid hR
  have HSM := Lib.hid hsm
  clear hR hsm
  obtain ⟨W0, HW0⟩ : ∃ W : World, Hid ((w.alloc (.cells #[.int .i64 x, .bool f, .slice A n c] 27)).alloc (.cells #[.int .i64 0, .bool false, .slice none 0 0] 27) = W) := ⟨_, rfl⟩
  have HC : Hid (Blk W0 w.heap.size 27 #[.int .i64 x, .bool f, .slice A n c] ∧ Blk W0 (w.heap.size + 1) 27 #[.int .i64 0, .bool false, .slice none 0 0]) := by
    rw [← HW0.out]
    exact Lib.hid ⟨(Blk.step rfl).alloc _, Blk.step (by simp)⟩
  have HB0 : Hid (Below w.heap.size w W0) := by
    rw [← HW0.out]
    exact Lib.hid (((Below.refl _ _).alloc (Nat.le_refl _) _).alloc (by simp) _)
  go_enter Tryz.func148, Tryz.ntmps148
  go_wp2_with fail
  rw [HW0.out]
  refine (fcount_any r x f A n c 0 _ (HR.out.keep (keeps_of HB0.out)) (by omega)).mono ?_
  rintro e w1 ⟨rfl, hb1⟩
  have HB1 := Lib.hid (Below.next HB0.out hb1)
  have HT1 := Lib.hid (HC.out.2.below hb1)
  have HA1 := Lib.hid (HC.out.1.below hb1)
  clear hb1 HC HB0
  by_cases hs : r.size ≤ 64
  · have e1 : cntR 0 r = r.size := by rw [cntR, if_pos (by omega)]; omega
    rw [e1]
    have g3 : decide (64 < (r.size : Int)) = false := by simp; omega
    have z1 := HA1.out.cell
    go_wp2_with fail
    refine (ffits_any r x f A n c _ (HR.out.keep (keeps_of HB1.out)) HSM.out).mono ?_
    rintro e w2 ⟨rfl, hb2⟩
    have HB2 := Lib.hid (Below.next HB1.out hb2)
    have HT2 := Lib.hid (HT1.out.below hb2)
    have HA2 := Lib.hid (HA1.out.below hb2)
    obtain ⟨v, Hv⟩ : ∃ t, Hid (r.fits = t) := ⟨_, rfl⟩
    rw [Hv.out]
    clear hb2 z1 HB1 HT1 HA1 g3
    cases v
    · have e1 : er = 2 := by rw [← Her.out]; simp [limE, Hv.out]
      have e2 := Hz.out (by omega)
      subst e1 e2
      have zr := HT2.out.cell
      obtain ⟨ff1, ff2, ff3⟩ := put3R_free HT2.out (.int .i64 0) (.bool false)
      have y3 := (put3R_blk (a' := .int .i64 0) (b' := .bool false) (c' := .slice none 0 0) HT2.out).cell
      have y1 := (HT2.out.set_ 0 (.int .i64 0)).cell
      have y2 := ((HT2.out.set_ 0 (.int .i64 0)).set_ 1 (.bool false)).cell
      have HBr := Lib.hid (put3R_below HB2.out (show w.heap.size ≤ w.heap.size + 1 by omega) (.int .i64 0) (.bool false) (.slice none 0 0))
      unfold put3R at y3
      go_wp2
      exact bodyPost_ret (v := .tuple #[.agg #[.int .i64 0, .bool false, .slice none 0 0], .int .i64 2]) (by simp [results, Tryz.results148, go_sem, y3]) rfl ⟨0, false, none, 0, 0, rfl, RgS.nil _ _, HBr.out⟩
    · have e1 : er = 0 := by rw [← Her.out]; simp [limE, Hv.out, hs]
      have e2 := Ho.out e1
      subst e1 e2
      have z1 := HA2.out.cell
      have HRr := Lib.hid (RgS.off HT2.out (put3R_but _ (w.heap.size + 1) (.int .i64 x) (.bool f) (.slice A n c)) (HR.out.keep (keeps_of HB2.out)))
      have zr := HT2.out.cell
      obtain ⟨ff1, ff2, ff3⟩ := put3R_free HT2.out (.int .i64 x) (.bool f)
      have y3 := (put3R_blk (a' := .int .i64 x) (b' := .bool f) (c' := .slice A n c) HT2.out).cell
      have y1 := (HT2.out.set_ 0 (.int .i64 x)).cell
      have y2 := ((HT2.out.set_ 0 (.int .i64 x)).set_ 1 (.bool f)).cell
      have HBr := Lib.hid (put3R_below HB2.out (show w.heap.size ≤ w.heap.size + 1 by omega) (.int .i64 x) (.bool f) (.slice A n c))
      unfold put3R at y3
      go_wp2
      exact bodyPost_ret (v := .tuple #[.agg #[.int .i64 x, .bool f, .slice A n c], .int .i64 0]) (by simp [results, Tryz.results148, go_sem, y3]) rfl ⟨x, f, A, n, c, rfl, HRr.out, HBr.out⟩
  · have e1 : cntR 0 r = 65 := by rw [cntR, if_neg (by omega)]
    rw [e1]
    have g3 : decide (64 < ((65 : Nat) : Int)) = true := by decide
    have e1 : er = 2 := by rw [← Her.out]; simp [limE, hs]
    have e2 := Hz.out (by omega)
    subst e1 e2
    have zr := HT1.out.cell
    obtain ⟨ff1, ff2, ff3⟩ := put3R_free HT1.out (.int .i64 0) (.bool false)
    have y3 := (put3R_blk (a' := .int .i64 0) (b' := .bool false) (c' := .slice none 0 0) HT1.out).cell
    have y1 := (HT1.out.set_ 0 (.int .i64 0)).cell
    have y2 := ((HT1.out.set_ 0 (.int .i64 0)).set_ 1 (.bool false)).cell
    have HBr := Lib.hid (put3R_below HB1.out (show w.heap.size ≤ w.heap.size + 1 by omega) (.int .i64 0) (.bool false) (.slice none 0 0))
    unfold put3R at y3
    go_wp2
    exact bodyPost_ret (v := .tuple #[.agg #[.int .i64 0, .bool false, .slice none 0 0], .int .i64 2]) (by simp [results, Tryz.results148, go_sem, y3]) rfl ⟨0, false, none, 0, 0, rfl, RgS.nil _ _, HBr.out⟩
theorem op_lim (op : Bool → Bool → Bool) {a b : Rg} (ha : okB a = true) (hb : okB b = true) (hw : a.w = b.w) : opErr op a b = limE (comb op a.w.toNat a b) ∧ opRes op a b = limR (comb op a.w.toNat a b) := by
  have h1 : opErr op a b = limE (comb op a.w.toNat a b) := by
    rw [opErr, ha, hb, decide_eq_true hw]
    rfl
  exact ⟨h1, by rw [opRes, h1]; rfl⟩
set_option maxHeartbeats 2000000 in
theorem fdo_any (k : Int) (a : Rg) (xa : Int) (fa : Bool) (Aa : Option Addr) (na ca : Nat) (b : Rg) (xb : Int) (fb : Bool) (Ab : Option Addr) (nb cb : Nat) (w : World) (hA : RgS w xa fa Aa na ca a) (hB : RgS w xb fb Ab nb cb b) :
    Calls Tryz.prog 99 #[.int .i64 k, .agg #[.int .i64 xa, .bool fa, .slice Aa na ca], .agg #[.int .i64 xb, .bool fb, .slice Ab nb cb]] w fun e w' => RgRes w (opRes (opR k) a b) (opErr (opR k) a b) e w' := by
  obtain ⟨er, Her⟩ : ∃ z, Hid (opErr (opR k) a b = z) := ⟨_, rfl⟩
  obtain ⟨rr, Hrr⟩ : ∃ z, Hid (opRes (opR k) a b = z) := ⟨_, rfl⟩
  rw [Her.out, Hrr.out]
  have HZ : Hid (er ≠ 0 → rr = zeroR) := Lib.hid (fun h => by rw [← Hrr.out, opRes, if_neg (by rw [Her.out]; exact h)])
  have HA := Lib.hid hA
  have HB := Lib.hid hB
  have hxa := hA.hw
  have hxb := hB.hw
  clear hA hB
  obtain ⟨W0, HW0⟩ : ∃ W : World, Hid (((w.alloc (.cells #[.int .i64 xa, .bool fa, .slice Aa na ca] 27)).alloc (.cells #[.int .i64 xb, .bool fb, .slice Ab nb cb] 27)).alloc (.cells #[.int .i64 0, .bool false, .slice none 0 0] 27) = W) := ⟨_, rfl⟩
  have HC : Hid (Blk W0 w.heap.size 27 #[.int .i64 xa, .bool fa, .slice Aa na ca] ∧ Blk W0 (w.heap.size + 1) 27 #[.int .i64 xb, .bool fb, .slice Ab nb cb] ∧ Blk W0 (w.heap.size + 2) 27 #[.int .i64 0, .bool false, .slice none 0 0]) := by
    rw [← HW0.out]
    exact Lib.hid ⟨((Blk.step rfl).alloc _).alloc _, (Blk.step (by simp)).alloc _, Blk.step (by simp)⟩
  have HB0 : Hid (Below w.heap.size w W0) := by
    rw [← HW0.out]
    exact Lib.hid ((((Below.refl _ _).alloc (Nat.le_refl _) _).alloc (by simp) _).alloc (by simp; omega) _)
  obtain ⟨va, Hva⟩ : ∃ t, Hid (okB a = t) := ⟨_, rfl⟩
  obtain ⟨vb, Hvb⟩ : ∃ t, Hid (okB b = t) := ⟨_, rfl⟩
  go_enter Tryz.func99, Tryz.ntmps99
  go_wp2_with fail
  rw [HW0.out]
  refine (fvalid_any a xa fa Aa na ca _ (HA.out.keep (keeps_of HB0.out))).mono ?_
  rintro e w1 ⟨rfl, hb1⟩
  rw [Hva.out]
  have HC1 := Lib.hid (And.intro (HC.out.1.below hb1) (HC.out.2.1.below hb1))
  have HT1 := Lib.hid (HC.out.2.2.below hb1)
  have HB1 := Lib.hid (Below.next HB0.out hb1)
  clear hb1 HC HB0
  cases va
  · have e1 : er = 40 := by rw [← Her.out]; simp [opErr, Hva.out]
    have e2 := HZ.out (by omega)
    subst e1 e2
    have zr := HT1.out.cell
    obtain ⟨ff1, ff2, ff3⟩ := put3R_free HT1.out (.int .i64 0) (.bool false)
    have y3 := (put3R_blk (a' := .int .i64 0) (b' := .bool false) (c' := .slice none 0 0) HT1.out).cell
    have y1 := (HT1.out.set_ 0 (.int .i64 0)).cell
    have y2 := ((HT1.out.set_ 0 (.int .i64 0)).set_ 1 (.bool false)).cell
    have HBr := Lib.hid (put3R_below HB1.out (show w.heap.size ≤ w.heap.size + 2 by omega) (.int .i64 0) (.bool false) (.slice none 0 0))
    unfold put3R at y3
    go_wp2
    exact bodyPost_ret (v := .tuple #[.agg #[.int .i64 0, .bool false, .slice none 0 0], .int .i64 40]) (by simp [results, Tryz.results99, go_sem, y3]) rfl ⟨0, false, none, 0, 0, rfl, RgS.nil _ _, HBr.out⟩
  · have z2 := HC1.out.2.cell
    go_wp2_with fail
    refine (fvalid_any b xb fb Ab nb cb _ (HB.out.keep (keeps_of HB1.out))).mono ?_
    rintro e w2 ⟨rfl, hb2⟩
    rw [Hvb.out]
    have HC2 := Lib.hid (And.intro (HC1.out.1.below hb2) (HC1.out.2.below hb2))
    have HT2 := Lib.hid (HT1.out.below hb2)
    have HB2 := Lib.hid (Below.next HB1.out hb2)
    clear hb2 HC1 HT1 HB1 z2
    have z1 := HC2.out.1.cell
    have z2 := HC2.out.2.cell
    cases vb
    · have e1 : er = 40 := by rw [← Her.out]; simp [opErr, Hvb.out]
      have e2 := HZ.out (by omega)
      subst e1 e2
      clear z1 z2
      have zr := HT2.out.cell
      obtain ⟨ff1, ff2, ff3⟩ := put3R_free HT2.out (.int .i64 0) (.bool false)
      have y3 := (put3R_blk (a' := .int .i64 0) (b' := .bool false) (c' := .slice none 0 0) HT2.out).cell
      have y1 := (HT2.out.set_ 0 (.int .i64 0)).cell
      have y2 := ((HT2.out.set_ 0 (.int .i64 0)).set_ 1 (.bool false)).cell
      have HBr := Lib.hid (put3R_below HB2.out (show w.heap.size ≤ w.heap.size + 2 by omega) (.int .i64 0) (.bool false) (.slice none 0 0))
      unfold put3R at y3
      go_wp2
      exact bodyPost_ret (v := .tuple #[.agg #[.int .i64 0, .bool false, .slice none 0 0], .int .i64 40]) (by simp [results, Tryz.results99, go_sem, y3]) rfl ⟨0, false, none, 0, 0, rfl, RgS.nil _ _, HBr.out⟩
    · by_cases hw : xa = xb
      · have g1 : (xa != xb) = false := by simp [hw]
        have hww : a.w = b.w := by rw [hxa, hxb, hw]
        have HL := Lib.hid (op_lim (opR k) Hva.out Hvb.out hww)
        have oka := ok_form (okB_true.1 Hva.out)
        have okb := ok_form (okB_true.1 Hvb.out)
        have hn12 : a.w.toNat ≤ 12 := by have := (okB_true.1 Hva.out).2.1; omega
        rw [← hww] at okb
        have HOA := Lib.hid oka
        have HOB := Lib.hid okb
        have HSm := Lib.hid (comb_sm (opR k) a.w.toNat a b oka.2 okb.2)
        clear hw oka okb hww hxa hxb
        go_wp2_with fail
        refine (fcomb_any k a.w.toNat hn12 a b xa fa Aa na ca xb fb Ab nb cb _ (HA.out.keep (keeps_of HB2.out)) (HB.out.keep (keeps_of HB2.out)) HOA.out.1 HOB.out.1 HOA.out.2 HOB.out.2).mono ?_
        rintro e w3 ⟨x3, f3, A3, n3, c3, rfl, hF3, hb3⟩
        have HF3 := Lib.hid hF3.s
        have HT3 := Lib.hid (HT2.out.below hb3)
        have HB3 := Lib.hid (Below.next HB2.out hb3)
        clear z1 z2 hF3 hb3 HC2 HT2 HB2
        go_wp2_with fail
        refine (flimited_any _ x3 f3 A3 n3 c3 _ HF3.out HSm.out).mono ?_
        rintro e w4 ⟨x4, f4, A4, n4, c4, rfl, hR4, hb4⟩
        rw [← HL.out.1, Her.out]
        rw [← HL.out.2, Hrr.out] at hR4
        have HT4 := Lib.hid (HT3.out.below hb4)
        have HB4 := Lib.hid (Below.next HB3.out hb4)
        have HRr := Lib.hid (RgS.off HT4.out (put3R_but _ (w.heap.size + 2) (.int .i64 x4) (.bool f4) (.slice A4 n4 c4)) hR4)
        clear hR4 hb4 HT3 HB3
        have zr := HT4.out.cell
        obtain ⟨ff1, ff2, ff3⟩ := put3R_free HT4.out (.int .i64 x4) (.bool f4)
        have y3 := (put3R_blk (a' := .int .i64 x4) (b' := .bool f4) (c' := .slice A4 n4 c4) HT4.out).cell
        have y1 := (HT4.out.set_ 0 (.int .i64 x4)).cell
        have y2 := ((HT4.out.set_ 0 (.int .i64 x4)).set_ 1 (.bool f4)).cell
        have HBr := Lib.hid (put3R_below HB4.out (show w.heap.size ≤ w.heap.size + 2 by omega) (.int .i64 x4) (.bool f4) (.slice A4 n4 c4))
        unfold put3R at y3
        go_wp2
        exact bodyPost_ret (v := .tuple #[.agg #[.int .i64 x4, .bool f4, .slice A4 n4 c4], .int .i64 er]) (by simp [results, Tryz.results99, go_sem, y3]) rfl ⟨x4, f4, A4, n4, c4, rfl, HRr.out, HBr.out⟩
      · have g1 : (xa != xb) = true := by simp [hw]
        have e1 : er = 40 := by
          rw [← Her.out]
          simp [opErr, hxa, hxb, hw]
        have e2 := HZ.out (by omega)
        subst e1 e2
        clear hxa hxb
        have zr := HT2.out.cell
        obtain ⟨ff1, ff2, ff3⟩ := put3R_free HT2.out (.int .i64 0) (.bool false)
        have y3 := (put3R_blk (a' := .int .i64 0) (b' := .bool false) (c' := .slice none 0 0) HT2.out).cell
        have y1 := (HT2.out.set_ 0 (.int .i64 0)).cell
        have y2 := ((HT2.out.set_ 0 (.int .i64 0)).set_ 1 (.bool false)).cell
        have HBr := Lib.hid (put3R_below HB2.out (show w.heap.size ≤ w.heap.size + 2 by omega) (.int .i64 0) (.bool false) (.slice none 0 0))
        unfold put3R at y3
        go_wp2
        exact bodyPost_ret (v := .tuple #[.agg #[.int .i64 0, .bool false, .slice none 0 0], .int .i64 40]) (by simp [results, Tryz.results99, go_sem, y3]) rfl ⟨0, false, none, 0, 0, rfl, RgS.nil _ _, HBr.out⟩
set_option maxHeartbeats 2000000 in
theorem funion_any (a : Rg) (xa : Int) (fa : Bool) (Aa : Option Addr) (na ca : Nat) (b : Rg) (xb : Int) (fb : Bool) (Ab : Option Addr) (nb cb : Nat) (w : World) (hA : RgS w xa fa Aa na ca a) (hB : RgS w xb fb Ab nb cb b) :
    Calls Tryz.prog 48 #[.agg #[.int .i64 xa, .bool fa, .slice Aa na ca], .agg #[.int .i64 xb, .bool fb, .slice Ab nb cb]] w fun e w' => RgRes w (opRes (opR 1) a b) (opErr (opR 1) a b) e w' := by
  obtain ⟨er, Her⟩ : ∃ z, Hid (opErr (opR 1) a b = z) := ⟨_, rfl⟩
  obtain ⟨rr, Hrr⟩ : ∃ z, Hid (opRes (opR 1) a b = z) := ⟨_, rfl⟩
  rw [Her.out, Hrr.out]
  have HA := Lib.hid hA
  have HB := Lib.hid hB
  clear hA hB
  obtain ⟨W0, HW0⟩ : ∃ W : World, Hid (((w.alloc (.cells #[.int .i64 xa, .bool fa, .slice Aa na ca] 27)).alloc (.cells #[.int .i64 xb, .bool fb, .slice Ab nb cb] 27)).alloc (.cells #[.int .i64 0, .bool false, .slice none 0 0] 27) = W) := ⟨_, rfl⟩
  have HC : Hid (Blk W0 (w.heap.size + 2) 27 #[.int .i64 0, .bool false, .slice none 0 0]) := by
    rw [← HW0.out]
    exact Lib.hid (Blk.step (by simp))
  have HB0 : Hid (Below w.heap.size w W0) := by
    rw [← HW0.out]
    exact Lib.hid ((((Below.refl _ _).alloc (Nat.le_refl _) _).alloc (by simp) _).alloc (by simp; omega) _)
  go_enter Tryz.func48, Tryz.ntmps48
  go_wp2_with fail
  rw [HW0.out]
  refine (fdo_any 1 a xa fa Aa na ca b xb fb Ab nb cb _ (HA.out.keep (keeps_of HB0.out)) (HB.out.keep (keeps_of HB0.out))).mono ?_
  rintro e w1 ⟨x, f, A, n, c, rfl, hR1, hb1⟩
  rw [Her.out]
  rw [Hrr.out] at hR1
  have HT := Lib.hid (HC.out.below hb1)
  have HB1 := Lib.hid (Below.next HB0.out hb1)
  have HR1 := Lib.hid hR1
  clear hb1 hR1 HC HB0
  have z3 := HT.out.cell
  obtain ⟨ff1, ff2, ff3⟩ := put3R_free HT.out (.int .i64 x) (.bool f)
  have y3 := (put3R_blk (a' := .int .i64 x) (b' := .bool f) (c' := .slice A n c) HT.out).cell
  have y1 := (HT.out.set_ 0 (.int .i64 x)).cell
  have y2 := ((HT.out.set_ 0 (.int .i64 x)).set_ 1 (.bool f)).cell
  have HBr := Lib.hid (put3R_below HB1.out (show w.heap.size ≤ w.heap.size + 2 by omega) (.int .i64 x) (.bool f) (.slice A n c))
  have HRr := Lib.hid (RgS.off HT.out (put3R_but _ (w.heap.size + 2) (.int .i64 x) (.bool f) (.slice A n c)) HR1.out)
  unfold put3R at y3
  go_wp2
  exact bodyPost_ret (v := .tuple #[.agg #[.int .i64 x, .bool f, .slice A n c], .int .i64 er]) (by simp [results, Tryz.results48, go_sem, y3]) rfl ⟨x, f, A, n, c, rfl, HRr.out, HBr.out⟩
theorem opR_eq : opR 1 = opUr ∧ opR 2 = opIr ∧ opR 3 = opMr := ⟨by funext x y; cases x <;> cases y <;> rfl, by funext x y; cases x <;> cases y <;> rfl, by funext x y; cases x <;> cases y <;> rfl⟩
end Go.Proofs.YtmnmckblmoalkaaGreat
