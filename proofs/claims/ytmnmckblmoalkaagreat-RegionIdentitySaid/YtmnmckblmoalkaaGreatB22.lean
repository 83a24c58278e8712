/-
  Texts: Oper, Union.
-/
import Derived.Test.YtmnmckblmoalkaaGreatB21
set_option linter.unusedVariables false
/-
  The program's region functions operate and Union.
-/
namespace Go.Proofs.YtmnmckblmoalkaaGreat
open Go.RowKit
set_option maxRecDepth 100000
open Rg

/-- the result of an operation, and its error -/
noncomputable def opErr (op : Bool → Bool → Bool) (a b : Rg) : Int := if okB a && okB b && decide (a.w = b.w) then (if (comb op a.w.toNat a b).size ≤ 64 ∧ (comb op a.w.toNat a b).fits = true then 0 else 2) else 40
noncomputable def opRes (op : Bool → Bool → Bool) (a b : Rg) : Rg := if opErr op a b = 0 then comb op a.w.toNat a b else zeroR
theorem RgRes.zero {w w' : World} {er : Int} (hb : Below w.heap.size w w') : RgRes w zeroR er (.returned (.tuple #[.agg #[.int .i64 0, .bool false, .slice none 0 0], .int .i64 er])) w' := ⟨0, false, none, 0, 0, rfl, RgS.nil _ _, hb⟩
theorem ok_form {a : Rg} (h : OkR a) : Form a.w.toNat a ∧ within a := ⟨h.2.2.2.1, h.2.2.1, h.2.2.2.2⟩
set_option maxHeartbeats 2000000 in
theorem operate_any (tb tl tr : Bool) (a : Rg) (xa : Int) (fa : Bool) (Aa : Option Addr) (na ca : Nat) (b : Rg) (xb : Int) (fb : Bool) (Ab : Option Addr) (nb cb : Nat) (w : World) (hA : RgS w xa fa Aa na ca a) (hB : RgS w xb fb Ab nb cb b) (wA : WfR a) (wB : WfR b) :
    Calls Tryz.prog 88 #[.agg #[.int .i64 xa, .bool fa, .slice Aa na ca], .agg #[.int .i64 xb, .bool fb, .slice Ab nb cb], .agg #[.bool tb, .bool tl, .bool tr]] w fun e w' => RgRes w (opRes (ofT tb tl tr) a b) (opErr (ofT tb tl tr) a b) e w' := by
  obtain ⟨er, Her⟩ : ∃ z, Hid (opErr (ofT tb tl tr) a b = z) := ⟨_, rfl⟩
  obtain ⟨rr, Hrr⟩ : ∃ z, Hid (opRes (ofT tb tl tr) a b = z) := ⟨_, rfl⟩
  rw [Her.out, Hrr.out]
  have Hz : er ≠ 0 → rr = zeroR := fun h => by rw [← Hrr.out, opRes, if_neg (by rw [Her.out]; exact h)]
  have HZ := Lib.hid Hz
  have HA := Lib.hid hA
  have HB := Lib.hid hB
  have HW := Lib.hid (And.intro wA wB)
  have hxa := hA.hw
  have hxb := hB.hw
  clear hA hB wA wB Hz
  obtain ⟨W0, HW0⟩ : ∃ W : World, Hid ((((w.alloc (.cells #[.int .i64 xa, .bool fa, .slice Aa na ca] 27)).alloc (.cells #[.int .i64 xb, .bool fb, .slice Ab nb cb] 27)).alloc (.cells #[.bool tb, .bool tl, .bool tr] 114)).alloc (.cells #[.int .i64 0, .bool false, .slice none 0 0] 27) = W) := ⟨_, rfl⟩
  have HC : Hid (Blk W0 w.heap.size 27 #[.int .i64 xa, .bool fa, .slice Aa na ca] ∧ Blk W0 (w.heap.size + 1) 27 #[.int .i64 xb, .bool fb, .slice Ab nb cb] ∧ Blk W0 (w.heap.size + 2) 114 #[.bool tb, .bool tl, .bool tr] ∧ Blk W0 (w.heap.size + 3) 27 #[.int .i64 0, .bool false, .slice none 0 0]) := by
    rw [← HW0.out]
    exact Lib.hid ⟨(((Blk.step rfl).alloc _).alloc _).alloc _, ((Blk.step (by simp)).alloc _).alloc _, (Blk.step (by simp)).alloc _, Blk.step (by simp)⟩
  have HB0 : Hid (Below w.heap.size w W0) := by
    rw [← HW0.out]
    exact Lib.hid (((((Below.refl _ _).alloc (Nat.le_refl _) _).alloc (by simp) _).alloc (by simp; omega) _).alloc (by simp; omega) _)
  obtain ⟨va, Hva⟩ : ∃ t, Hid (okB a = t) := ⟨_, rfl⟩
  obtain ⟨vb, Hvb⟩ : ∃ t, Hid (okB b = t) := ⟨_, rfl⟩
  go_enter Tryz.func88, Tryz.ntmps88
  go_wp2_with fail
  rw [HW0.out]
  refine (rvalidR_any a xa fa Aa na ca _ (HA.out.keep (keeps_of HB0.out))).mono ?_
  rintro e w1 ⟨rfl, hb1⟩
  rw [Hva.out]
  have HC1 := Lib.hid (And.intro (HC.out.1.below hb1) (And.intro (HC.out.2.1.below hb1) (And.intro (HC.out.2.2.1.below hb1) (HC.out.2.2.2.below hb1))))
  have HB1 := Lib.hid (Below.next HB0.out hb1)
  clear hb1 HC HB0
  have z3 := HC1.out.2.2.2.cell
  obtain ⟨ff1, ff2, ff3⟩ := put3R_free HC1.out.2.2.2 (.int .i64 0) (.bool false)
  cases va
  · have y3 := (put3R_blk (a' := .int .i64 0) (b' := .bool false) (c' := .slice none 0 0) HC1.out.2.2.2).cell
    have y1 := (HC1.out.2.2.2.set_ 0 (.int .i64 0)).cell
    have y2 := ((HC1.out.2.2.2.set_ 0 (.int .i64 0)).set_ 1 (.bool false)).cell
    have HBr := Lib.hid (put3R_below HB1.out (show w.heap.size ≤ w.heap.size + 3 by omega) (.int .i64 0) (.bool false) (.slice none 0 0))
    have e1 : er = 40 := by rw [← Her.out]; simp [opErr, Hva.out]
    have e2 := HZ.out (by omega)
    subst e1 e2
    unfold put3R at y3
    go_wp2
    exact bodyPost_ret (v := .tuple #[.agg #[.int .i64 0, .bool false, .slice none 0 0], .int .i64 40]) (by simp [results, Tryz.results88, go_sem, y3]) rfl (RgRes.zero HBr.out)
  · have z2 := HC1.out.2.1.cell
    clear ff1 ff2 ff3 z3
    go_wp2_with fail
    refine (rvalidR_any b xb fb Ab nb cb _ (HB.out.keep (keeps_of HB1.out))).mono ?_
    rintro e w2 ⟨rfl, hb2⟩
    rw [Hvb.out]
    have HC2 := Lib.hid (And.intro (HC1.out.1.below hb2) (And.intro (HC1.out.2.1.below hb2) (And.intro (HC1.out.2.2.1.below hb2) (HC1.out.2.2.2.below hb2))))
    have HB2 := Lib.hid (Below.next HB1.out hb2)
    clear hb2 HC1 HB1 z2
    have z1 := HC2.out.1.cell
    have z2 := HC2.out.2.1.cell
    have z3 := HC2.out.2.2.2.cell
    obtain ⟨ff1, ff2, ff3⟩ := put3R_free HC2.out.2.2.2 (.int .i64 0) (.bool false)
    have bad : ∀ (h : er = 40), rr = zeroR := fun h => HZ.out (by omega)
    have BAD := Lib.hid bad
    clear bad
    have y3 := (put3R_blk (a' := .int .i64 0) (b' := .bool false) (c' := .slice none 0 0) HC2.out.2.2.2).cell
    have y1 := (HC2.out.2.2.2.set_ 0 (.int .i64 0)).cell
    have y2 := ((HC2.out.2.2.2.set_ 0 (.int .i64 0)).set_ 1 (.bool false)).cell
    have HBr := Lib.hid (put3R_below HB2.out (show w.heap.size ≤ w.heap.size + 3 by omega) (.int .i64 0) (.bool false) (.slice none 0 0))
    unfold put3R at y3
    cases vb
    · have e1 : er = 40 := by rw [← Her.out]; simp [opErr, Hvb.out]
      have e2 := BAD.out e1
      subst e1 e2
      go_wp2
      exact bodyPost_ret (v := .tuple #[.agg #[.int .i64 0, .bool false, .slice none 0 0], .int .i64 40]) (by simp [results, Tryz.results88, go_sem, y3]) rfl (RgRes.zero HBr.out)
    · by_cases hw : xa = xb
      · have g1 : (xa != xb) = false := by simp [hw]
        have HWW := Lib.hid hw
        have z5 := HC2.out.2.2.1.cell
        have oka := ok_form (okB_true.1 Hva.out)
        have okb := ok_form (okB_true.1 Hvb.out)
        have hn12 : a.w.toNat ≤ 12 := by have := (okB_true.1 Hva.out).2.1; omega
        have hwb : b.w.toNat = a.w.toNat := by rw [hxa, hxb, hw]
        rw [hwb] at okb
        have HOA := Lib.hid oka
        have HOB := Lib.hid okb
        clear hw oka okb hwb y1 y2 y3 HBr ff1 ff2 ff3 z3 hxa hxb
        go_wp2_with fail
        refine (comb_any tb tl tr a.w.toNat hn12 a b xa fa Aa na ca xb fb Ab nb cb _ (HA.out.keep (keeps_of HB2.out)) (HB.out.keep (keeps_of HB2.out)) HOA.out.1 HOB.out.1 HW.out.1 HW.out.2 HOA.out.2 HOB.out.2).mono ?_
        rintro e w3 ⟨x, f, A, n, c, ok, rfl, hok, hF, hb3⟩
        have HOK := Lib.hid hok
        have HF := Lib.hid hF
        have HT3 := Lib.hid (HC2.out.2.2.2.below hb3)
        have HB3 := Lib.hid (Below.next HB2.out hb3)
        have hE : er = if (comb (ofT tb tl tr) a.w.toNat a b).size ≤ 64 ∧ (comb (ofT tb tl tr) a.w.toNat a b).fits = true then 0 else 2 := by
          rw [← Her.out, opErr, Hva.out, Hvb.out, if_pos]
          simp only [Bool.and_true, Bool.true_and, decide_eq_true_eq]
          rw [HA.out.hw, HB.out.hw]
          exact HWW.out
        have HE := Lib.hid hE
        have HR3 : Hid (ok = true → RgS (w3.alloc (.cells #[.int .i64 x, .bool f, .slice A n c] 27)) x f A n c (comb (ofT tb tl tr) a.w.toNat a b)) := Lib.hid (fun h => (HF.out h).s.keep (keeps_alloc _ _))
        have HT4 := Lib.hid (HT3.out.alloc (.cells #[.int .i64 x, .bool f, .slice A n c] 27))
        have HN4 := Lib.hid (Blk.new w3 27 #[.int .i64 x, .bool f, .slice A n c])
        have HB4 := Lib.hid (HB3.out.alloc HB3.out.size (.cells #[.int .i64 x, .bool f, .slice A n c] 27))
        have hne : ¬ w.heap.size + 3 = w3.heap.size := by have := HT3.out.lt; omega
        clear hok hF hE HC2 HB2 z1 z2 z5 hb3
        go_upto_region 4 with fail
        generalize hW4 : w3.alloc (.cells #[.int .i64 x, .bool f, .slice A n c] 27) = W4 at *
        clear hW4 HF
        have z3 := HT4.out.cell
        cases ok
        · have e1 : er = 2 := by rw [HE.out]; exact if_neg (fun h => by have := HOK.out.2 h; cases this)
          have e2 := HZ.out (by omega)
          subst e1 e2
          obtain ⟨ff1, ff2, ff3⟩ := put3R_free HT4.out (.int .i64 0) (.bool false)
          have y3 := (put3R_blk (a' := .int .i64 0) (b' := .bool false) (c' := .slice none 0 0) HT4.out).cell
          have y1 := (HT4.out.set_ 0 (.int .i64 0)).cell
          have y2 := ((HT4.out.set_ 0 (.int .i64 0)).set_ 1 (.bool false)).cell
          have HBr := Lib.hid (put3R_below HB4.out (show w.heap.size ≤ w.heap.size + 3 by omega) (.int .i64 0) (.bool false) (.slice none 0 0))
          unfold put3R at y3
          go_wp2
          exact bodyPost_ret (v := .tuple #[.agg #[.int .i64 0, .bool false, .slice none 0 0], .int .i64 2]) (by simp [results, Tryz.results88, go_sem, y3]) rfl (RgRes.zero HBr.out)
        · have e1 : er = 0 := by rw [HE.out]; exact if_pos (HOK.out.1 rfl)
          have e2 : rr = comb (ofT tb tl tr) a.w.toNat a b := by rw [← Hrr.out, opRes, if_pos (by rw [Her.out]; exact e1)]
          subst e1 e2
          have z4 := HN4.out.cell
          obtain ⟨ff1, ff2, ff3⟩ := put3R_free HT4.out (.int .i64 x) (.bool f)
          have y3 := (put3R_blk (a' := .int .i64 x) (b' := .bool f) (c' := .slice A n c) HT4.out).cell
          have y1 := (HT4.out.set_ 0 (.int .i64 x)).cell
          have y2 := ((HT4.out.set_ 0 (.int .i64 x)).set_ 1 (.bool f)).cell
          have HBr := Lib.hid (put3R_below HB4.out (show w.heap.size ≤ w.heap.size + 3 by omega) (.int .i64 x) (.bool f) (.slice A n c))
          have HRr := Lib.hid (RgS.off HT4.out (put3R_but _ (w.heap.size + 3) (.int .i64 x) (.bool f) (.slice A n c)) (HR3.out rfl))
          unfold put3R at y3
          go_wp2
          exact bodyPost_ret (v := .tuple #[.agg #[.int .i64 x, .bool f, .slice A n c], .int .i64 0]) (by simp [results, Tryz.results88, go_sem, y3]) rfl ⟨x, f, A, n, c, rfl, HRr.out, HBr.out⟩
      · have g1 : (xa != xb) = true := by simp [hw]
        have e1 : er = 40 := by
          rw [← Her.out]
          simp [opErr, hxa, hxb, hw]
        have e2 := BAD.out e1
        subst e1 e2
        clear hxa hxb
        go_wp2
        exact bodyPost_ret (v := .tuple #[.agg #[.int .i64 0, .bool false, .slice none 0 0], .int .i64 40]) (by simp [results, Tryz.results88, go_sem, y3]) rfl (RgRes.zero HBr.out)
end Go.Proofs.YtmnmckblmoalkaaGreat

/-
  The program's region function Union; plain facts on boxes and results.
-/
namespace Go.Proofs.YtmnmckblmoalkaaGreat
open Go.RowKit
set_option maxRecDepth 100000
open Rg

abbrev opUr : Bool → Bool → Bool := ofT true true true
set_option maxHeartbeats 2000000 in
theorem gunion_any (a : Rg) (xa : Int) (fa : Bool) (Aa : Option Addr) (na ca : Nat) (b : Rg) (xb : Int) (fb : Bool) (Ab : Option Addr) (nb cb : Nat) (w : World) (hA : RgS w xa fa Aa na ca a) (hB : RgS w xb fb Ab nb cb b) (wA : WfR a) (wB : WfR b) :
    Calls Tryz.prog 42 #[.agg #[.int .i64 xa, .bool fa, .slice Aa na ca], .agg #[.int .i64 xb, .bool fb, .slice Ab nb cb]] w fun e w' => RgRes w (opRes opUr a b) (opErr opUr a b) e w' := by
  obtain ⟨er, Her⟩ : ∃ z, Hid (opErr opUr a b = z) := ⟨_, rfl⟩
  obtain ⟨rr, Hrr⟩ : ∃ z, Hid (opRes opUr a b = z) := ⟨_, rfl⟩
  rw [Her.out, Hrr.out]
  have HA := Lib.hid hA
  have HB := Lib.hid hB
  have HW := Lib.hid (And.intro wA wB)
  clear hA hB wA wB
  obtain ⟨W0, HW0⟩ : ∃ W : World, Hid (((w.alloc (.cells #[.int .i64 xa, .bool fa, .slice Aa na ca] 27)).alloc (.cells #[.int .i64 xb, .bool fb, .slice Ab nb cb] 27)).alloc (.cells #[.int .i64 0, .bool false, .slice none 0 0] 27) = W) := ⟨_, rfl⟩
  have HC : Hid (Blk W0 (w.heap.size + 2) 27 #[.int .i64 0, .bool false, .slice none 0 0]) := by
    rw [← HW0.out]
    exact Lib.hid (Blk.step (by simp))
  have HB0 : Hid (Below w.heap.size w W0) := by
    rw [← HW0.out]
    exact Lib.hid ((((Below.refl _ _).alloc (Nat.le_refl _) _).alloc (by simp) _).alloc (by simp; omega) _)
  go_enter Tryz.func42, Tryz.ntmps42
  go_wp2_with fail
  rw [HW0.out]
  refine (operate_any true true true a xa fa Aa na ca b xb fb Ab nb cb _ (HA.out.keep (keeps_of HB0.out)) (HB.out.keep (keeps_of HB0.out)) HW.out.1 HW.out.2).mono ?_
  rintro e w1 ⟨x, f, A, n, c, rfl, hR1, hb1⟩
  rw [Her.out]
  rw [Hrr.out] at hR1
  have HT := Lib.hid (HC.out.below hb1)
  have HB1 := Lib.hid (Below.next HB0.out hb1)
  have HR1 := Lib.hid hR1
  clear hb1 hR1 HC HB0
  have z3 := HT.out.cell
  obtain ⟨ff1, ff2, ff3⟩ := put3R_free HT.out (.int .i64 x) (.bool f)
  have y3 := (put3R_blk (a' := .int .i64 x) (b' := .bool f) (c' := .slice A n c) HT.out).cell
  have y1 := (HT.out.set_ 0 (.int .i64 x)).cell
  have y2 := ((HT.out.set_ 0 (.int .i64 x)).set_ 1 (.bool f)).cell
  have HBr := Lib.hid (put3R_below HB1.out (show w.heap.size ≤ w.heap.size + 2 by omega) (.int .i64 x) (.bool f) (.slice A n c))
  have HRr := Lib.hid (RgS.off HT.out (put3R_but _ (w.heap.size + 2) (.int .i64 x) (.bool f) (.slice A n c)) HR1.out)
  unfold put3R at y3
  go_wp2
  exact bodyPost_ret (v := .tuple #[.agg #[.int .i64 x, .bool f, .slice A n c], .int .i64 er]) (by simp [results, Tryz.results42, go_sem, y3]) rfl ⟨x, f, A, n, c, rfl, HRr.out, HBr.out⟩
/-- a box of valid sets is canonical -/
theorem box_ok : ∀ l : List (List Iv), (∀ s ∈ l, validL s = true) → Form l.length (boxR l) ∧ (boxR l).fits = true ∧ (boxR l).size ≤ l.length
  | [], _ => ⟨⟨rfl, rfl⟩, rfl, by simp [boxR, Rg.size]⟩
  | s :: l, h => by
    obtain ⟨h1, h2, h3⟩ := box_ok l (fun t ht => h t (List.mem_cons_of_mem _ ht))
    have hs := h s List.mem_cons_self
    have hw := box_w l
    unfold validL at hs
    rw [Bool.and_eq_true, decide_eq_true_eq] at hs
    rw [box_cons]
    split
    · rename_i hc
      simp only [Bool.and_eq_true, Bool.not_eq_true'] at hc
      refine ⟨⟨?_, rfl, fun p hp => ?_, List.pairwise_singleton _ _⟩, ?_, ?_⟩
      · simp only [Rg.w, hw]; omega
      · rw [show (Rg.cons s (boxR l) (.nil ((boxR l).w + 1) false)).parts = [(s, boxR l)] from rfl, List.mem_singleton] at hp
        subst hp
        exact ⟨fun e => by have h1 : s = [] := e; rw [h1] at hc; simp at hc, hs.2, h1, hc.2⟩
      · simp only [Rg.fits, h2, Bool.and_true, decide_eq_true_eq]; exact hs.1
      · simp only [Rg.size, List.length_cons]; omega
    · refine ⟨?_, rfl, by simp [Rg.size]⟩
      have := form_nil (l.length + 1)
      rw [List.length_cons, hw]
      simpa using this
theorem box_wf : ∀ l : List (List Iv), (∀ s ∈ l, ∀ x ∈ s, rgV x.f ∧ rgV x.t) → WfR (boxR l)
  | [], _ => trivial
  | s :: l, h => by
    rw [box_cons]
    split
    · exact ⟨h s List.mem_cons_self, box_wf l (fun t ht => h t (List.mem_cons_of_mem _ ht)), trivial⟩
    · trivial
theorem box_OkR {l : List (List Iv)} (h : boxErr l = 0) : OkR (boxR l) := by
  unfold boxErr at h
  split at h
  · cases h
  · rename_i hl
    split at h
    · rename_i hv
      rw [List.all_eq_true] at hv
      obtain ⟨h1, h2, h3⟩ := box_ok l hv
      have hw := box_w l
      refine ⟨by omega, by omega, by omega, ?_, h2⟩
      rw [hw]
      exact h1
    · cases h
theorem op_ok {op : Bool → Bool → Bool} {a b : Rg} (h : opErr op a b = 0) : OkR (opRes op a b) ∧ opRes op a b = comb op a.w.toNat a b ∧ OkR a ∧ OkR b ∧ a.w = b.w ∧ within (comb op a.w.toNat a b) := by
  have h0 : opRes op a b = comb op a.w.toNat a b := by rw [opRes, if_pos h]
  unfold opErr at h
  split at h
  · rename_i hc
    simp only [Bool.and_eq_true, decide_eq_true_eq, okB_true] at hc
    obtain ⟨⟨ha, hb⟩, hw⟩ := hc
    split at h
    · rename_i hi
      have hf := comb_form op a.w.toNat a b ha.2.2.2.1 (by rw [hw]; exact hb.2.2.2.1)
      have hcw := hf.width
      refine ⟨?_, h0, ha, hb, hw, hi⟩
      rw [h0]
      have h1 := ha.1
      have h2 := ha.2.1
      refine ⟨by omega, by omega, hi.1, ?_, hi.2⟩
      rw [hcw, Int.toNat_natCast]
      exact hf
    · cases h
  · cases h
theorem op_err {op : Bool → Bool → Bool} {a b : Rg} (ha : OkR a) (hb : OkR b) (hw : a.w = b.w) : opErr op a b = if (comb op a.w.toNat a b).size ≤ 64 ∧ (comb op a.w.toNat a b).fits = true then 0 else 2 := by
  rw [opErr, if_pos]
  simp only [Bool.and_eq_true, decide_eq_true_eq, okB_true]
  exact ⟨⟨ha, hb⟩, hw⟩
theorem op_wf {op : Bool → Bool → Bool} {a b : Rg} (ha : WfR a) (hb : WfR b) : WfR (opRes op a b) := by
  unfold opRes
  split
  · exact comb_wf op _ a b ha hb
  · trivial
end Go.Proofs.YtmnmckblmoalkaaGreat
