/-
  The program's region function Union; plain facts on boxes and results.
-/
import Derived.Test.YtnocbigcdjlliaaOper
namespace Go.Proofs.Ytnocbigcdjlliaa
open Go.RowKit
open Rg

abbrev opUr : Bool → Bool → Bool := ofT true true true
set_option maxHeartbeats 2000000 in
theorem gunion_any (a : Rg) (xa : Int) (fa : Bool) (Aa : Option Addr) (na ca : Nat) (b : Rg) (xb : Int) (fb : Bool) (Ab : Option Addr) (nb cb : Nat) (w : World) (hA : RgS w xa fa Aa na ca a) (hB : RgS w xb fb Ab nb cb b) (wA : WfR a) (wB : WfR b) :
    Calls Try.prog 7 #[.agg #[.int .i64 xa, .bool fa, .slice Aa na ca], .agg #[.int .i64 xb, .bool fb, .slice Ab nb cb]] w fun e w' => RgRes w (opRes opUr a b) (opErr opUr a b) e w' := by
  obtain ⟨er, Her⟩ : ∃ z, Hid (opErr opUr a b = z) := ⟨_, rfl⟩
  obtain ⟨rr, Hrr⟩ : ∃ z, Hid (opRes opUr a b = z) := ⟨_, rfl⟩
  rw [Her.out, Hrr.out]
  have HA := Lib.hid hA
  have HB := Lib.hid hB
  have HW := Lib.hid (And.intro wA wB)
  clear hA hB wA wB
  obtain ⟨W0, HW0⟩ : ∃ W : World, Hid (((w.alloc (.cells #[.int .i64 xa, .bool fa, .slice Aa na ca] 24)).alloc (.cells #[.int .i64 xb, .bool fb, .slice Ab nb cb] 24)).alloc (.cells #[.int .i64 0, .bool false, .slice none 0 0] 24) = W) := ⟨_, rfl⟩
  have HC : Hid (Blk W0 (w.heap.size + 2) 24 #[.int .i64 0, .bool false, .slice none 0 0]) := by
    rw [← HW0.out]
    exact Lib.hid (Blk.step (by simp))
  have HB0 : Hid (Below w.heap.size w W0) := by
    rw [← HW0.out]
    exact Lib.hid ((((Below.refl _ _).alloc (Nat.le_refl _) _).alloc (by simp) _).alloc (by simp; omega) _)
  go_enter Try.func7, Try.ntmps7
  go_wp2_with fail
  rw [HW0.out]
  refine (operate_any true true true a xa fa Aa na ca b xb fb Ab nb cb _ (HA.out.keep (keeps_of HB0.out)) (HB.out.keep (keeps_of HB0.out)) HW.out.1 HW.out.2).mono ?_
  rintro e w1 ⟨x, f, A, n, c, rfl, hR1, hb1⟩
  rw [Her.out]
  rw [Hrr.out] at hR1
  have HT := Lib.hid (HC.out.below hb1)
  have HB1 := Lib.hid (Below.next HB0.out hb1)
  have HR1 := Lib.hid hR1
  clear hb1 hR1 HC HB0
  have z3 := HT.out.cell
  obtain ⟨ff1, ff2, ff3⟩ := put3R_free HT.out (.int .i64 x) (.bool f)
  have y3 := (put3R_blk (a' := .int .i64 x) (b' := .bool f) (c' := .slice A n c) HT.out).cell
  have y1 := (HT.out.set_ 0 (.int .i64 x)).cell
  have y2 := ((HT.out.set_ 0 (.int .i64 x)).set_ 1 (.bool f)).cell
  have HBr := Lib.hid (put3R_below HB1.out (show w.heap.size ≤ w.heap.size + 2 by omega) (.int .i64 x) (.bool f) (.slice A n c))
  have HRr := Lib.hid (RgS.off HT.out (put3R_but _ (w.heap.size + 2) (.int .i64 x) (.bool f) (.slice A n c)) HR1.out)
  unfold put3R at y3
  go_wp2
  exact bodyPost_ret (v := .tuple #[.agg #[.int .i64 x, .bool f, .slice A n c], .int .i64 er]) (by simp [results, Try.results7, go_sem, y3]) rfl ⟨x, f, A, n, c, rfl, HRr.out, HBr.out⟩
theorem nix_nil (x : Int) : (Rg.nil x false).nix = true := rfl
/-- a box of valid sets is canonical -/
theorem box_ok : ∀ l : List (List Iv), (∀ s ∈ l, validL s = true) → Form l.length (boxR l) ∧ (boxR l).fits = true ∧ (boxR l).size ≤ l.length
  | [], _ => ⟨⟨rfl, rfl⟩, rfl, by simp [boxR, Rg.size]⟩
  | s :: l, h => by
    obtain ⟨h1, h2, h3⟩ := box_ok l (fun t ht => h t (List.mem_cons_of_mem _ ht))
    have hs := h s List.mem_cons_self
    have hw := box_w l
    unfold validL at hs
    rw [Bool.and_eq_true, decide_eq_true_eq] at hs
    rw [box_cons]
    split
    · rename_i hc
      simp only [Bool.and_eq_true, Bool.not_eq_true'] at hc
      refine ⟨⟨?_, rfl, fun p hp => ?_, List.pairwise_singleton _ _⟩, ?_, ?_⟩
      · simp only [Rg.w, hw, List.length_cons]; omega
      · rw [show (Rg.cons s (boxR l) (.nil ((boxR l).w + 1) false)).parts = [(s, boxR l)] from rfl, List.mem_singleton] at hp
        subst hp
        exact ⟨fun e => by have h1 : s = [] := e; rw [h1] at hc; simp at hc, hs.2, h1, hc.2⟩
      · simp only [Rg.fits, h2, Bool.and_true, decide_eq_true_eq]; exact hs.1
      · simp only [Rg.size, List.length_cons]; omega
    · refine ⟨?_, rfl, by simp [Rg.size]⟩
      have := form_nil (l.length + 1)
      rw [List.length_cons, hw]
      simpa using this
theorem box_wf : ∀ l : List (List Iv), (∀ s ∈ l, ∀ x ∈ s, rgV x.f ∧ rgV x.t) → WfR (boxR l)
  | [], _ => trivial
  | s :: l, h => by
    rw [box_cons]
    split
    · exact ⟨h s List.mem_cons_self, box_wf l (fun t ht => h t (List.mem_cons_of_mem _ ht)), trivial⟩
    · trivial
theorem box_OkR {l : List (List Iv)} (h : boxErr l = 0) : OkR (boxR l) := by
  unfold boxErr at h
  split at h
  · cases h
  · rename_i hl
    split at h
    · rename_i hv
      rw [List.all_eq_true] at hv
      obtain ⟨h1, h2, h3⟩ := box_ok l hv
      have hw := box_w l
      refine ⟨by omega, by omega, by omega, ?_, h2⟩
      rw [hw]
      exact h1
    · cases h
theorem op_ok {op : Bool → Bool → Bool} {a b : Rg} (h : opErr op a b = 0) : OkR (opRes op a b) ∧ opRes op a b = comb op a.w.toNat a b ∧ OkR a ∧ OkR b ∧ a.w = b.w ∧ within (comb op a.w.toNat a b) := by
  have h0 : opRes op a b = comb op a.w.toNat a b := by rw [opRes, if_pos h]
  unfold opErr at h
  split at h
  · rename_i hc
    simp only [Bool.and_eq_true, decide_eq_true_eq, okB_true] at hc
    obtain ⟨⟨ha, hb⟩, hw⟩ := hc
    split at h
    · rename_i hi
      have hf := comb_form op a.w.toNat a b ha.2.2.2.1 (by rw [hw]; exact hb.2.2.2.1)
      have hcw := hf.width
      refine ⟨?_, h0, ha, hb, hw, hi⟩
      rw [h0]
      have h1 := ha.1
      have h2 := ha.2.1
      refine ⟨by omega, by omega, hi.1, ?_, hi.2⟩
      rw [hcw, Int.toNat_natCast]
      exact hf
    · cases h
  · cases h
theorem op_err {op : Bool → Bool → Bool} {a b : Rg} (ha : OkR a) (hb : OkR b) (hw : a.w = b.w) : opErr op a b = if (comb op a.w.toNat a b).size ≤ 64 ∧ (comb op a.w.toNat a b).fits = true then 0 else 2 := by
  rw [opErr, if_pos]
  simp only [Bool.and_eq_true, decide_eq_true_eq, okB_true]
  exact ⟨⟨ha, hb⟩, hw⟩
theorem op_wf {op : Bool → Bool → Bool} {a b : Rg} (ha : WfR a) (hb : WfR b) : WfR (opRes op a b) := by
  unfold opRes
  split
  · exact comb_wf op _ a b ha hb
  · trivial
end Go.Proofs.Ytnocbigcdjlliaa
