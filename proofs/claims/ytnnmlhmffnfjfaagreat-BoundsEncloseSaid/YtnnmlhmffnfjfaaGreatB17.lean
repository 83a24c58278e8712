/-
  Texts: Union, RgLaw, RgOps, FOps, AllR, GBoxes, GShape, ProjP, RgLaw2, RgLaw3, PtLaw, GCells, GLeast.
-/
import Derived.Test.YtnnmlhmffnfjfaaGreatB16
import Derived.OwnWalk
set_option linter.unusedVariables false
set_option maxRecDepth 100000
namespace Go.Proofs.YtnnmlhmffnfjfaaGreat
open Go.RowKit
open Rg
abbrev opUr : Bool → Bool → Bool := ofT true true true
set_option maxHeartbeats 2000000 in
theorem gunion_any (a : Rg) (xa : Int) (fa : Bool) (Aa : Option Addr) (na ca : Nat) (b : Rg) (xb : Int) (fb : Bool) (Ab : Option Addr) (nb cb : Nat) (w : World) (hA : RgS w xa fa Aa na ca a) (hB : RgS w xb fb Ab nb cb b) (wA : WfR a) (wB : WfR b) :
 Calls Tryz.prog 43 #[.agg #[.int .i64 xa, .bool fa, .slice Aa na ca], .agg #[.int .i64 xb, .bool fb, .slice Ab nb cb]] w fun e w' => RgRes w (opRes opUr a b) (opErr opUr a b) e w' := by
 obtain ⟨er, Her⟩ : ∃ z, Hid (opErr opUr a b = z) := ⟨_, rfl⟩
 obtain ⟨rr, Hrr⟩ : ∃ z, Hid (opRes opUr a b = z) := ⟨_, rfl⟩
 rw [Her.out, Hrr.out]
 have HA := zH hA
 have HB := zH hB
 have HW := zH (And.intro wA wB)
 clear hA hB wA wB
 obtain ⟨W0, HW0⟩ : ∃ W : World, Hid (((w.alloc (.cells #[.int .i64 xa, .bool fa, .slice Aa na ca] 71)).alloc (.cells #[.int .i64 xb, .bool fb, .slice Ab nb cb] 71)).alloc (.cells #[.int .i64 0, .bool false, .slice none 0 0] 71) = W) := ⟨_, rfl⟩
 have HC : Hid (Blk W0 (w.heap.size + 2) 71 #[.int .i64 0, .bool false, .slice none 0 0]) := by
  rw [← HW0.out]
  exact zH (Blk.step (by simp))
 have HB0 : Hid (Below w.heap.size w W0) := by
  rw [← HW0.out]
  exact zH ((((Below.refl _ _).alloc (Nat.le_refl _) _).alloc (by simp) _).alloc (by simp; omega) _)
 go_enter Tryz.func43, Tryz.ntmps43
 go_wp2_with fail
 rw [HW0.out]
 refine (operate_any true true true a xa fa Aa na ca b xb fb Ab nb cb _ (HA.out.keep (keeps_of HB0.out)) (HB.out.keep (keeps_of HB0.out)) HW.out.1 HW.out.2).mono ?_
 rintro e w1 ⟨x, f, A, n, c, rfl, hR1, hb1⟩
 rw [Her.out]
 rw [Hrr.out] at hR1
 have HT := zH (HC.out.below hb1)
 have HB1 := zH (Below.next HB0.out hb1)
 have HR1 := zH hR1
 clear hb1 hR1 HC HB0
 have z3 := HT.out.cell
 obtain ⟨ff1, ff2, ff3⟩ := put3R_free HT.out (.int .i64 x) (.bool f)
 have y3 := (put3R_blk (a' := .int .i64 x) (b' := .bool f) (c' := .slice A n c) HT.out).cell
 have y1 := (HT.out.set_ 0 (.int .i64 x)).cell
 have y2 := ((HT.out.set_ 0 (.int .i64 x)).set_ 1 (.bool f)).cell
 have HBr := zH (put3R_below HB1.out (show w.heap.size ≤ w.heap.size + 2 by omega) (.int .i64 x) (.bool f) (.slice A n c))
 have HRr := zH (RgS.off HT.out (put3R_but _ (w.heap.size + 2) (.int .i64 x) (.bool f) (.slice A n c)) HR1.out)
 unfold put3R at y3
 go_wp2
 exact bodyPost_ret (v := .tuple #[.agg #[.int .i64 x, .bool f, .slice A n c], .int .i64 er]) (by simp [results, Tryz.results43, go_sem, y3]) rfl ⟨x, f, A, n, c, rfl, HRr.out, HBr.out⟩
theorem box_ok : ∀ l : List (List Iv), (∀ s ∈ l, validL s = true) → Form l.length (boxR l) ∧ (boxR l).fits = true ∧ (boxR l).size ≤ l.length
 | [], _ => ⟨⟨rfl, rfl⟩, rfl, by simp [boxR, Rg.size]⟩
 | s :: l, h => by
   obtain ⟨h1, h2, h3⟩ := box_ok l (fun t ht => h t (List.mem_cons_of_mem _ ht))
   have hs := h s List.mem_cons_self
   have hw := box_w l
   unfold validL at hs
   rw [Bool.and_eq_true, decide_eq_true_eq] at hs
   rw [box_cons]
   split
   · rename_i hc
     simp only [Bool.and_eq_true, Bool.not_eq_true'] at hc
     refine ⟨⟨?_, rfl, fun p hp => ?_, List.pairwise_singleton _ _⟩, ?_, ?_⟩
     · simp only [Rg.w, hw]; omega
     · rw [show (Rg.cons s (boxR l) (.nil ((boxR l).w + 1) false)).parts = [(s, boxR l)] from rfl, List.mem_singleton] at hp
       subst hp
       exact ⟨fun e => by have h1 : s = [] := e; rw [h1] at hc; simp at hc, hs.2, h1, hc.2⟩
     · simp only [Rg.fits, h2, Bool.and_true, decide_eq_true_eq]; exact hs.1
     · simp only [Rg.size, List.length_cons]; omega
   · refine ⟨?_, rfl, by simp [Rg.size]⟩
     have := form_nil (l.length + 1)
     rw [List.length_cons, hw]
     simpa using this
theorem box_wf : ∀ l : List (List Iv), (∀ s ∈ l, ∀ x ∈ s, rgV x.f ∧ rgV x.t) → WfR (boxR l)
 | [], _ => trivial
 | s :: l, h => by
   rw [box_cons]
   split
   · exact ⟨h s List.mem_cons_self, box_wf l (fun t ht => h t (List.mem_cons_of_mem _ ht)), trivial⟩
   · trivial
theorem op_ok {op : Bool → Bool → Bool} {a b : Rg} (h : opErr op a b = 0) : OkR (opRes op a b) ∧ opRes op a b = comb op a.w.toNat a b ∧ OkR a ∧ OkR b ∧ a.w = b.w ∧ within (comb op a.w.toNat a b) := by
 have h0 : opRes op a b = comb op a.w.toNat a b := by rw [opRes, if_pos h]
 unfold opErr at h
 split at h
 · rename_i hc
   simp only [Bool.and_eq_true, decide_eq_true_eq, okB_true] at hc
   obtain ⟨⟨ha, hb⟩, hw⟩ := hc
   split at h
   · rename_i hi
     have hf := comb_form op a.w.toNat a b ha.2.2.2.1 (by rw [hw]; exact hb.2.2.2.1)
     have hcw := hf.width
     refine ⟨?_, h0, ha, hb, hw, hi⟩
     rw [h0]
     have h1 := ha.1
     have h2 := ha.2.1
     refine ⟨by omega, by omega, hi.1, ?_, hi.2⟩
     rw [hcw, Int.toNat_natCast]
     exact hf
   · cases h
 · cases h
theorem op_err {op : Bool → Bool → Bool} {a b : Rg} (ha : OkR a) (hb : OkR b) (hw : a.w = b.w) : opErr op a b = if (comb op a.w.toNat a b).size ≤ 64 ∧ (comb op a.w.toNat a b).fits = true then 0 else 2 := by
 rw [opErr, if_pos]
 simp only [Bool.and_eq_true, decide_eq_true_eq, okB_true]
 exact ⟨⟨ha, hb⟩, hw⟩
theorem op_wf {op : Bool → Bool → Bool} {a b : Rg} (ha : WfR a) (hb : WfR b) : WfR (opRes op a b) := by
 unfold opRes
 split
 · exact comb_wf op _ a b ha hb
 · trivial
abbrev opIr : Bool → Bool → Bool := ofT true false false
abbrev opMr : Bool → Bool → Bool := ofT false true false
theorem ofT_ff (tb tl tr : Bool) : ofT tb tl tr false false = false := rfl
def allR (n : Nat) : Rg := boxR (List.replicate n allL)
theorem validL_all : validL allL = true := by decide +kernel
theorem in_all {v : Vl} (h : validV v = true) : inL allL v = true := by
 have hk : 1 ≤ v.k ∧ (v.k = 1 → v.i = 0 ∧ v.t = ⟨#[]⟩) := by
  unfold validV at h
  constructor
  · rcases Int.lt_or_le v.k 1 with h1 | h1
    · exfalso
      repeat' split at h
      all_goals simp_all
      all_goals omega
    · exact h1
  · intro e
    simp [e] at h
    refine ⟨h.1, zero_text.2 ?_⟩
    exact h.2
 unfold inL allL inI
 simp only [List.any_cons, List.any_nil, Bool.or_false, Bool.true_or, Bool.and_true, decide_eq_true_eq]
 rw [show v = ⟨v.k, v.i, v.t⟩ from rfl, cmpV_of]
 rcases Int.lt_or_le 1 v.k with h1 | h1
 · have : cmpI 1 v.k = -1 := by simp [cmpI, h1]
   rw [this]; simp
 · have e : v.k = 1 := by omega
   obtain ⟨e1, e2⟩ := hk.2 e
   rw [e, e1, e2, cmpI_self, cmpI_self, cmpB_self]
   decide
theorem den_nixF {r : Rg} (h : r.nix = true) (row : List Vl) : r.den row = false := by
 obtain ⟨h1, h2⟩ := (none_iff r).1 h
 have : r = .nil r.w false := Rg.ext rfl h1 h2
 rw [this]
 cases row <;> rfl
theorem den_box : ∀ (l : List (List Iv)) (row : List Vl), row.length = l.length → (boxR l).den row = (l.zip row).all fun p => inL p.1 p.2
 | [], row, h => by
   obtain rfl := List.eq_nil_of_length_eq_zero h
   rfl
 | s :: l, [], h => by cases h
 | s :: l, v :: row, h => by
   have ih := den_box l row (by simpa using h)
   rw [box_cons, List.zip_cons_cons, List.all_cons, ← ih]
   split
   · simp only [Rg.den]
     cases inL s v <;> rfl
   · rename_i hc
     show false = _
     by_cases hs : s = []
     · subst hs; rfl
     · have : (boxR l).nix = true := by
        cases hn : (boxR l).nix
        · exfalso; apply hc; rw [hn]; cases s with | nil => exact absurd rfl hs | cons => rfl
        · rfl
       rw [den_nixF this, Bool.and_false]
theorem all_w (n : Nat) : (allR n).w = (n : Int) := by unfold allR; rw [box_w, List.length_replicate]
theorem all_form (n : Nat) : Form n (allR n) ∧ (allR n).fits = true ∧ (allR n).size ≤ n := by
 have := box_ok (List.replicate n allL) (fun s hs => by rw [(List.mem_replicate.1 hs).2]; exact validL_all)
 rw [List.length_replicate] at this
 exact this
theorem all_ok {n : Nat} (h : n ≤ 12) : OkR (allR n) := by
 obtain ⟨h1, h2, h3⟩ := all_form n
 have hw := all_w n
 exact ⟨by omega, by omega, by omega, by rw [hw, Int.toNat_natCast]; exact h1, h2⟩
theorem all_wf (n : Nat) : WfR (allR n) := box_wf _ fun s hs => by
 rw [(List.mem_replicate.1 hs).2]
 intro x hx
 simp only [allL, List.mem_singleton] at hx
 subst hx
 exact ⟨⟨by decide, by decide⟩, ⟨by decide, by decide⟩⟩
theorem all_den {n : Nat} {row : List Vl} (h : goodRow n row) : (allR n).den row = true := by
 unfold allR
 rw [den_box _ _ (by rw [List.length_replicate, h.1])]
 rw [List.all_eq_true]
 intro p hp
 have h1 := List.of_mem_zip hp
 rw [(List.mem_replicate.1 h1.1).2]
 exact in_all (h.2 _ h1.2)
def cplR (n : Nat) (a : Rg) : Rg := comb opMr n (allR n) a
section
variable {n : Nat} {a b c : Rg} (fa : Form n a) (fb : Form n b) (fc : Form n c)
include fa
theorem cpl_den {row : List Vl} (h : goodRow n row) : (cplR n a).den row = !a.den row := by
 unfold cplR
 rw [comb_den _ (ofT_ff _ _ _) n _ _ (all_form n).1 fa row h.1, all_den h]
 cases a.den row <;> rfl
include fb
theorem den_op (tb tl tr : Bool) {row : List Vl} (h : goodRow n row) : (comb (ofT tb tl tr) n a b).den row = ofT tb tl tr (a.den row) (b.den row) := comb_den _ (ofT_ff _ _ _) n _ _ fa fb row h.1
theorem minus_nix : (comb opMr n b a).nix = true ↔ ∀ row, goodRow n row → b.den row = true → a.den row = true := by
 rw [none_iff_den (comb_form _ _ _ _ fb fa)]
 constructor
 · intro h row hr hb
   have := h row hr
   rw [den_op fb fa _ _ _ hr, hb] at this
   cases ha : a.den row
   · rw [ha] at this; cases this
   · rfl
 · intro h row hr
   rw [den_op fb fa _ _ _ hr]
   cases hb : b.den row
   · cases a.den row <;> rfl
   · rw [h row hr hb]; rfl
include fc
end
set_option maxHeartbeats 2000000 in
theorem gintersect_any (a : Rg) (xa : Int) (fa : Bool) (Aa : Option Addr) (na ca : Nat) (b : Rg) (xb : Int) (fb : Bool) (Ab : Option Addr) (nb cb : Nat) (w : World) (hA : RgS w xa fa Aa na ca a) (hB : RgS w xb fb Ab nb cb b) (wA : WfR a) (wB : WfR b) :
 Calls Tryz.prog 42 #[.agg #[.int .i64 xa, .bool fa, .slice Aa na ca], .agg #[.int .i64 xb, .bool fb, .slice Ab nb cb]] w fun e w' => RgRes w (opRes opIr a b) (opErr opIr a b) e w' := by
 obtain ⟨er, Her⟩ : ∃ z, Hid (opErr opIr a b = z) := ⟨_, rfl⟩
 obtain ⟨rr, Hrr⟩ : ∃ z, Hid (opRes opIr a b = z) := ⟨_, rfl⟩
 rw [Her.out, Hrr.out]
 have HA := zH hA
 have HB := zH hB
 have HW := zH (And.intro wA wB)
 clear hA hB wA wB
 obtain ⟨W0, HW0⟩ : ∃ W : World, Hid (((w.alloc (.cells #[.int .i64 xa, .bool fa, .slice Aa na ca] 71)).alloc (.cells #[.int .i64 xb, .bool fb, .slice Ab nb cb] 71)).alloc (.cells #[.int .i64 0, .bool false, .slice none 0 0] 71) = W) := ⟨_, rfl⟩
 have HC : Hid (Blk W0 (w.heap.size + 2) 71 #[.int .i64 0, .bool false, .slice none 0 0]) := by
  rw [← HW0.out]
  exact zH (Blk.step (by simp))
 have HB0 : Hid (Below w.heap.size w W0) := by
  rw [← HW0.out]
  exact zH ((((Below.refl _ _).alloc (Nat.le_refl _) _).alloc (by simp) _).alloc (by simp; omega) _)
 go_enter Tryz.func42, Tryz.ntmps42
 go_wp2_with fail
 rw [HW0.out]
 refine (operate_any true false false a xa fa Aa na ca b xb fb Ab nb cb _ (HA.out.keep (keeps_of HB0.out)) (HB.out.keep (keeps_of HB0.out)) HW.out.1 HW.out.2).mono ?_
 rintro e w1 ⟨x, f, A, n, c, rfl, hR1, hb1⟩
 rw [Her.out]
 rw [Hrr.out] at hR1
 have HT := zH (HC.out.below hb1)
 have HB1 := zH (Below.next HB0.out hb1)
 have HR1 := zH hR1
 clear hb1 hR1 HC HB0
 have z3 := HT.out.cell
 obtain ⟨ff1, ff2, ff3⟩ := put3R_free HT.out (.int .i64 x) (.bool f)
 have y3 := (put3R_blk (a' := .int .i64 x) (b' := .bool f) (c' := .slice A n c) HT.out).cell
 have y1 := (HT.out.set_ 0 (.int .i64 x)).cell
 have y2 := ((HT.out.set_ 0 (.int .i64 x)).set_ 1 (.bool f)).cell
 have HBr := zH (put3R_below HB1.out (show w.heap.size ≤ w.heap.size + 2 by omega) (.int .i64 x) (.bool f) (.slice A n c))
 have HRr := zH (RgS.off HT.out (put3R_but _ (w.heap.size + 2) (.int .i64 x) (.bool f) (.slice A n c)) HR1.out)
 unfold put3R at y3
 go_wp2
 exact bodyPost_ret (v := .tuple #[.agg #[.int .i64 x, .bool f, .slice A n c], .int .i64 er]) (by simp [results, Tryz.results42, go_sem, y3]) rfl ⟨x, f, A, n, c, rfl, HRr.out, HBr.out⟩
set_option maxHeartbeats 2000000 in
theorem gminus_any (a : Rg) (xa : Int) (fa : Bool) (Aa : Option Addr) (na ca : Nat) (b : Rg) (xb : Int) (fb : Bool) (Ab : Option Addr) (nb cb : Nat) (w : World) (hA : RgS w xa fa Aa na ca a) (hB : RgS w xb fb Ab nb cb b) (wA : WfR a) (wB : WfR b) :
 Calls Tryz.prog 102 #[.agg #[.int .i64 xa, .bool fa, .slice Aa na ca], .agg #[.int .i64 xb, .bool fb, .slice Ab nb cb]] w fun e w' => RgRes w (opRes opMr a b) (opErr opMr a b) e w' := by
 obtain ⟨er, Her⟩ : ∃ z, Hid (opErr opMr a b = z) := ⟨_, rfl⟩
 obtain ⟨rr, Hrr⟩ : ∃ z, Hid (opRes opMr a b = z) := ⟨_, rfl⟩
 rw [Her.out, Hrr.out]
 have HA := zH hA
 have HB := zH hB
 have HW := zH (And.intro wA wB)
 clear hA hB wA wB
 obtain ⟨W0, HW0⟩ : ∃ W : World, Hid (((w.alloc (.cells #[.int .i64 xa, .bool fa, .slice Aa na ca] 71)).alloc (.cells #[.int .i64 xb, .bool fb, .slice Ab nb cb] 71)).alloc (.cells #[.int .i64 0, .bool false, .slice none 0 0] 71) = W) := ⟨_, rfl⟩
 have HC : Hid (Blk W0 (w.heap.size + 2) 71 #[.int .i64 0, .bool false, .slice none 0 0]) := by
  rw [← HW0.out]
  exact zH (Blk.step (by simp))
 have HB0 : Hid (Below w.heap.size w W0) := by
  rw [← HW0.out]
  exact zH ((((Below.refl _ _).alloc (Nat.le_refl _) _).alloc (by simp) _).alloc (by simp; omega) _)
 go_enter Tryz.func102, Tryz.ntmps102
 go_wp2_with fail
 rw [HW0.out]
 refine (operate_any false true false a xa fa Aa na ca b xb fb Ab nb cb _ (HA.out.keep (keeps_of HB0.out)) (HB.out.keep (keeps_of HB0.out)) HW.out.1 HW.out.2).mono ?_
 rintro e w1 ⟨x, f, A, n, c, rfl, hR1, hb1⟩
 rw [Her.out]
 rw [Hrr.out] at hR1
 have HT := zH (HC.out.below hb1)
 have HB1 := zH (Below.next HB0.out hb1)
 have HR1 := zH hR1
 clear hb1 hR1 HC HB0
 have z3 := HT.out.cell
 obtain ⟨ff1, ff2, ff3⟩ := put3R_free HT.out (.int .i64 x) (.bool f)
 have y3 := (put3R_blk (a' := .int .i64 x) (b' := .bool f) (c' := .slice A n c) HT.out).cell
 have y1 := (HT.out.set_ 0 (.int .i64 x)).cell
 have y2 := ((HT.out.set_ 0 (.int .i64 x)).set_ 1 (.bool f)).cell
 have HBr := zH (put3R_below HB1.out (show w.heap.size ≤ w.heap.size + 2 by omega) (.int .i64 x) (.bool f) (.slice A n c))
 have HRr := zH (RgS.off HT.out (put3R_but _ (w.heap.size + 2) (.int .i64 x) (.bool f) (.slice A n c)) HR1.out)
 unfold put3R at y3
 go_wp2
 exact bodyPost_ret (v := .tuple #[.agg #[.int .i64 x, .bool f, .slice A n c], .int .i64 er]) (by simp [results, Tryz.results102, go_sem, y3]) rfl ⟨x, f, A, n, c, rfl, HRr.out, HBr.out⟩
set_option maxHeartbeats 1000000 in
theorem gequal_any (a : Rg) (xa : Int) (fa : Bool) (Aa : Option Addr) (na ca : Nat) (b : Rg) (xb : Int) (fb : Bool) (Ab : Option Addr) (nb cb : Nat) (w : World) (hA : RgS w xa fa Aa na ca a) (hB : RgS w xb fb Ab nb cb b) :
 Calls Tryz.prog 41 #[.agg #[.int .i64 xa, .bool fa, .slice Aa na ca], .agg #[.int .i64 xb, .bool fb, .slice Ab nb cb]] w fun e w' => e = .returned (.bool (eqB a b)) ∧ Below w.heap.size w w' := by
 obtain ⟨rr, Hrr⟩ : ∃ z, Hid (eqB a b = z) := ⟨_, rfl⟩
 rw [Hrr.out]
 have HA := zH hA
 have HB := zH hB
 clear hA hB
 obtain ⟨W0, HW0⟩ : ∃ W : World, Hid ((w.alloc (.cells #[.int .i64 xa, .bool fa, .slice Aa na ca] 71)).alloc (.cells #[.int .i64 xb, .bool fb, .slice Ab nb cb] 71) = W) := ⟨_, rfl⟩
 have HC : Hid (Blk W0 w.heap.size 71 #[.int .i64 xa, .bool fa, .slice Aa na ca] ∧ Blk W0 (w.heap.size + 1) 71 #[.int .i64 xb, .bool fb, .slice Ab nb cb]) := by
  rw [← HW0.out]
  exact zH ⟨(Blk.step rfl).alloc _, Blk.step (by simp)⟩
 have HB0 : Hid (Below w.heap.size w W0) := by
  rw [← HW0.out]
  exact zH (((Below.refl _ _).alloc (Nat.le_refl _) _).alloc (by simp) _)
 obtain ⟨va, Hva⟩ : ∃ t, Hid (okB a = t) := ⟨_, rfl⟩
 obtain ⟨vb, Hvb⟩ : ∃ t, Hid (okB b = t) := ⟨_, rfl⟩
 go_enter Tryz.func41, Tryz.ntmps41
 go_wp2_with fail
 rw [HW0.out]
 refine (rvalidR_any a xa fa Aa na ca _ (HA.out.keep (keeps_of HB0.out))).mono ?_
 rintro e w1 ⟨rfl, hb1⟩
 rw [Hva.out]
 have HB1 := zH (Below.next HB0.out hb1)
 have z1 := (HC.out.1.below hb1).cell
 have z2 := (HC.out.2.below hb1).cell
 have HC1 := zH (And.intro (HC.out.1.below hb1) (HC.out.2.below hb1))
 clear hb1
 cases va
 · go_wp2
   go_ret
   exact ⟨ret_bool (by rw [← Hrr.out, eqB, Hva.out]; rfl), HB1.out⟩
 · go_wp2_with fail
   refine (rvalidR_any b xb fb Ab nb cb _ (HB.out.keep (keeps_of HB1.out))).mono ?_
   rintro e w2 ⟨rfl, hb2⟩
   rw [Hvb.out]
   have HB2 := zH (Below.next HB1.out hb2)
   clear z1 z2
   have z1 := (HC1.out.1.below hb2).cell
   have z2 := (HC1.out.2.below hb2).cell
   clear hb2
   cases vb
   · go_wp2
     go_ret
     exact ⟨ret_bool (by rw [← Hrr.out, eqB, Hva.out, Hvb.out]; rfl), HB2.out⟩
   · have oka := okB_true.1 Hva.out
     have okb := okB_true.1 Hvb.out
     have HO := zH (And.intro oka okb)
     clear oka okb
     go_wp2_with fail
     refine (rsame_any a xa fa Aa na ca xb fb Ab nb cb b _ (HA.out.keep (keeps_of HB2.out)) (HB.out.keep (keeps_of HB2.out)) (by have := HO.out.1.2.2.1; omega) HO.out.1.2.2.2.2).mono ?_
     rintro e w3 ⟨rfl, hb3⟩
     obtain ⟨t, Ht⟩ : ∃ t, Hid (decide (a = b) = t) := ⟨_, rfl⟩
     rw [Ht.out]
     go_wp2
     go_ret
     exact ⟨ret_bool (by rw [← Hrr.out, eqB, Hva.out, Hvb.out, Ht.out]; rfl), Below.next HB2.out hb3⟩
noncomputable def covErr (a b : Rg) : Int := if okB a && okB b && decide (a.w = b.w) then 0 else 40
noncomputable def covRes (a b : Rg) : Bool := if covErr a b = 0 then (comb opMr a.w.toNat b a).nix else false
theorem minus_cov (a b : Rg) : (opErr opMr b a = 40 ↔ covErr a b = 40) ∧ (covErr a b = 0 ∨ covErr a b = 40) ∧ (opErr opMr b a = 0 → covRes a b = (opRes opMr b a).nix) ∧ (opErr opMr b a ≠ 0 → covRes a b = false) := by
 have he : (okB b && okB a && decide (b.w = a.w)) = (okB a && okB b && decide (a.w = b.w)) := by
  have : decide (b.w = a.w) = decide (a.w = b.w) := by
   by_cases h : a.w = b.w
   · rw [h]
   · rw [decide_eq_false h, decide_eq_false (fun e => h e.symm)]
  rw [this]
  cases okB a <;> cases okB b <;> rfl
 unfold covRes covErr opRes opErr
 rw [he]
 by_cases hc : (okB a && okB b && decide (a.w = b.w)) = true
 · have hw : b.w = a.w := by
    simp only [Bool.and_eq_true, decide_eq_true_eq] at hc
    exact hc.2.symm
   have hf : Form a.w.toNat (comb opMr a.w.toNat b a) := by
    simp only [Bool.and_eq_true, okB_true] at hc
    have h1 := hc.1.1.2.2.2.1
    have h2 := hc.1.2.2.2.2.1
    rw [hw] at h2
    exact comb_form _ _ _ _ h2 h1
   rw [if_pos hc, if_pos hc, hw]
   refine ⟨?_, .inl rfl, ?_, ?_⟩
   · split <;> simp
   · intro h
     split at h
     · rename_i h1
       simp [h1]
     · cases h
   · intro h
     rw [if_pos rfl]
     cases hn : (comb opMr a.w.toNat b a).nix
     · rfl
     · have := nix_within hf hn
       exact absurd (if_pos this) h
 · rw [if_neg hc, if_neg hc]
   simp
set_option maxHeartbeats 2000000 in
theorem gcovers_any (a : Rg) (xa : Int) (fa : Bool) (Aa : Option Addr) (na ca : Nat) (b : Rg) (xb : Int) (fb : Bool) (Ab : Option Addr) (nb cb : Nat) (w : World) (hA : RgS w xa fa Aa na ca a) (hB : RgS w xb fb Ab nb cb b) (wA : WfR a) (wB : WfR b) :
 Calls Tryz.prog 44 #[.agg #[.int .i64 xa, .bool fa, .slice Aa na ca], .agg #[.int .i64 xb, .bool fb, .slice Ab nb cb]] w fun e w' => e = .returned (.tuple #[.bool (covRes a b), .int .i64 (covErr a b)]) ∧ Below w.heap.size w w' := by
 obtain ⟨h1, h2, h3, h4⟩ := minus_cov a b
 obtain ⟨er, Her⟩ : ∃ z, Hid (opErr opMr b a = z) := ⟨_, rfl⟩
 obtain ⟨rr, Hrr⟩ : ∃ z, Hid (opRes opMr b a = z) := ⟨_, rfl⟩
 obtain ⟨ce, Hce⟩ : ∃ z, Hid (covErr a b = z) := ⟨_, rfl⟩
 obtain ⟨cr, Hcr⟩ : ∃ z, Hid (covRes a b = z) := ⟨_, rfl⟩
 rw [Her.out, Hce.out] at h1
 rw [Hce.out] at h2
 rw [Her.out, Hrr.out, Hcr.out] at h3
 rw [Her.out, Hcr.out] at h4
 rw [Hce.out, Hcr.out]
 have HH := zH (And.intro h1 (And.intro h2 (And.intro h3 h4)))
 have HA := zH hA
 have HB := zH hB
 have HW := zH (And.intro wA wB)
 clear hA hB wA wB h1 h2 h3 h4
 have HB0 : Hid (Below w.heap.size w ((w.alloc (.cells #[.int .i64 xa, .bool fa, .slice Aa na ca] 71)).alloc (.cells #[.int .i64 xb, .bool fb, .slice Ab nb cb] 71))) := zH (((Below.refl _ _).alloc (Nat.le_refl _) _).alloc (by simp) _)
 go_enter Tryz.func44, Tryz.ntmps44
 go_wp2_with fail
 refine (gminus_any b xb fb Ab nb cb a xa fa Aa na ca _ (HB.out.keep (keeps_of HB0.out)) (HA.out.keep (keeps_of HB0.out)) HW.out.2 HW.out.1).mono ?_
 rintro e w1 ⟨x, f, A, n, c, rfl, hR1, hb1⟩
 rw [Her.out]
 rw [Hrr.out] at hR1
 have HR1 := zH (hR1.keep (keeps_alloc w1 (.cells #[.int .i64 x, .bool f, .slice A n c] 71)))
 have HV := zH (Blk.new w1 71 #[.int .i64 x, .bool f, .slice A n c])
 have hb01 := Below.next HB0.out hb1
 have HB1 := zH (hb01.alloc hb01.size (.cells #[.int .i64 x, .bool f, .slice A n c] 71))
 clear hR1 hb1 hb01
 by_cases h40 : er = 40
 · have e1 := HH.out.1.1 h40
   have e2 := HH.out.2.2.2 (by omega)
   subst h40 e1 e2
   go_wp2
   go_ret2
   exact ⟨rfl, HB1.out⟩
 · have e1 : ce = 0 := by
    rcases HH.out.2.1 with h | h
    · exact h
    · exact absurd (HH.out.1.2 h) h40
   subst e1
   have g1 : (er == 40) = false := by simp [h40]
   by_cases h0 : er = 0
   · obtain rfl : cr = rr.nix := HH.out.2.2.1 h0
     subst h0
     go_wp2_with fail
     refine (rempty_any x f A n c rr _ HR1.out).mono ?_
     rintro e w2 ⟨rfl, hb2⟩
     go_wp2
     go_ret2
     exact ⟨rfl, Below.next HB1.out hb2⟩
   · have e3 := HH.out.2.2.2 h0
     have g2 : (er == 0) = false := by simp [h0]
     subst e3
     clear h40 h0
     go_wp2
     go_ret2
     exact ⟨rfl, HB1.out⟩
def allC : Array Value := #[.int .i64 1, .int .i64 0, .string ⟨#[]⟩, .int .i64 0, .int .i64 0, .string ⟨#[]⟩, .bool true]
theorem all_iv {w : World} {g : Nat} (h : Blk w g 187 allC) : IvS w (some ⟨g, 0, none⟩) 1 allL := iv_one (T := 187) (x := ⟨⟨1, 0, ⟨#[]⟩⟩, zeroV, true⟩) h
theorem gall2_any (w : World) : Calls Tryz.prog 131 #[] w fun e w' => ∃ g, e = .returned (.slice (some ⟨g, 0, none⟩) 1 1) ∧ Blk w' g 187 allC ∧ Below w.heap.size w w' := by
 go_enter Tryz.func131, Tryz.ntmps131
 go_wp2_with fail
 refine (first_any 1 _).mono ?_
 rintro e w1 ⟨rfl, hb1⟩
 rw [show firstV 1 = (⟨1, 0, ⟨#[]⟩⟩, true) from rfl]
 dsimp only
 go_wp2
 go_ret
 refine ⟨_, rfl, Blk.step (by simp), ?_⟩
 exact (hb1.alloc hb1.size _).alloc (by have := hb1.size; simp; omega) _
theorem setc_len (p : SetP) : (setc p).length = 1 := rfl
def AllsS (w : World) (A : Option Addr) (n : Nat) : Prop := ∃ ps : List SetP, SetsS w A n ps ∧ ps.map (·.2) = List.replicate n allL
def AllP (w : World) (p : SetP) : Prop := ∃ g, p = ((some ⟨g, 0, none⟩, 1, 1), allL) ∧ Blk w g 187 allC
theorem AllP.but {w w' : World} {S : Nat → Prop} {p : SetP} (h : AllP w p) (hb : But S w w') (hS : ∀ q, S q → ∀ cs, ¬ Blk w q 187 cs) : AllP w' p := by
 obtain ⟨g, e, h1⟩ := h
 exact ⟨g, e, h1.but hb (fun hs => hS g hs _ h1)⟩
theorem AllP.below {w w' : World} {p : SetP} (h : AllP w p) (hb : Below w.heap.size w w') : AllP w' p := h.but (S := fun _ => False) (But.of_below hb) (fun _ h => h.elim)
theorem own_notI {w : World} {B n k c : Nat} {A : Option Addr} {xs : List Value} (h : w.ownsRow B 139 1 (.slice A n c) k xs) {q : Nat} (hq : (Value.slice A n c).ownBlock = some q) (cs : Array Value) : ¬ Blk w q 187 cs := fun hb => by
 obtain ⟨_, _, cs', h1⟩ := own_lt h hq
 unfold Blk at hb
 rw [h1] at hb
 injection hb with hb
 injection hb with _ hb
 exact absurd hb (by decide)
theorem alls_of {w : World} {A : Option Addr} {n c B : Nat} {ps : List SetP} (hown : w.ownsRow B 139 1 (.slice A n c) n (ps.flatMap setc)) (hl : ps.length = n) (hp : ∀ p ∈ ps, AllP w p) : AllsS w A n := by
 refine ⟨ps, ⟨Sl.of_own setc_len hl hown, fun p h => ?_⟩, ?_⟩
 · obtain ⟨g, rfl, h1⟩ := hp p h
   exact ⟨⟨Nat.le_refl _, fun h => by cases h⟩, by show 1 ≤ 1000000; omega, all_iv h1⟩
 · rw [List.eq_replicate_iff]
   refine ⟨by simp [hl], fun l hl => ?_⟩
   obtain ⟨p, h, rfl⟩ := List.mem_map.1 hl
   obtain ⟨g, rfl, _⟩ := hp p h
   rfl
theorem set_rep {n k : Nat} {xs : List Value} {v z : Value} (hl : xs.length = k) (hk : k < n) : (xs ++ List.replicate (n - k) z).set k v = xs ++ [v] ++ List.replicate (n - (k + 1)) z := by
 rw [List.set_append_right _ _ (by omega), hl, Nat.sub_self, show n - k = (n - (k + 1)) + 1 by omega, List.replicate_succ]
 simp
def allErr (x : Int) : Int := if 0 ≤ x ∧ x ≤ 12 then 0 else 1
def allRes (x : Int) : Rg := if 0 ≤ x ∧ x ≤ 12 then allR x.toNat else zeroR
set_option maxHeartbeats 2000000 in
theorem gAll_any (x : Int) (w : World) : Calls Tryz.prog 81 #[.int .i64 x] w fun e w' => RgRes w (allRes x) (allErr x) e w' := by
 obtain ⟨il, hil, hl0, hl1, hl2⟩ := info_parts info_lst
 have HT := zH (Blk.new w 71 #[.int .i64 0, .bool false, .slice none 0 0])
 have HB0 := zH ((Below.refl w.heap.size w).alloc (Nat.le_refl _) (.cells #[.int .i64 0, .bool false, .slice none 0 0] 71))
 obtain ⟨W0, HW0⟩ : ∃ W : World, Hid (w.alloc (.cells #[.int .i64 0, .bool false, .slice none 0 0] 71) = W) := ⟨_, rfl⟩
 rw [HW0.out] at HT HB0
 have hs0 : W0.heap.size = w.heap.size + 1 := by rw [← HW0.out]; simp
 rcases Int.lt_or_le x 0 with h0 | h0
 · have g1 : decide (x < 0) = true := by simp; omega
   rw [allRes, allErr, if_neg (by omega), if_neg (by omega)]
   go_enter Tryz.func81, Tryz.ntmps81
   go_wp2
   refine bodyPost_ret (v := .tuple #[.agg #[.int .i64 0, .bool false, .slice none 0 0], .int .i64 1]) (by simp [results, Tryz.results81, go_sem]) rfl ⟨0, false, none, 0, 0, rfl, RgS.nil _ _, ?_⟩
   repeat (first | exact Below.refl _ _ | refine Below.setCell ?_ (by simp) _ | refine Below.alloc ?_ (by simp) _)
 · have g1 : decide (x < 0) = false := by simp; omega
   rcases Int.lt_or_le 12 x with h1 | h1
   · have g2 : decide (12 < x) = true := by simp; omega
     rw [allRes, allErr, if_neg (by omega), if_neg (by omega)]
     go_enter Tryz.func81, Tryz.ntmps81
     go_wp2
     refine bodyPost_ret (v := .tuple #[.agg #[.int .i64 0, .bool false, .slice none 0 0], .int .i64 1]) (by simp [results, Tryz.results81, go_sem]) rfl ⟨0, false, none, 0, 0, rfl, RgS.nil _ _, ?_⟩
     repeat (first | exact Below.refl _ _ | refine Below.setCell ?_ (by simp) _ | refine Below.alloc ?_ (by simp) _)
   · have g2 : decide (12 < x) = false := by simp; omega
     rw [allRes, allErr, if_pos ⟨h0, h1⟩, if_pos ⟨h0, h1⟩]
     obtain ⟨n, rfl⟩ := Int.eq_ofNat_of_zero_le h0
     have hn : n ≤ 12 := by omega
     rw [Int.toNat_natCast]
     clear h0 h1
     go_enter Tryz.func81, Tryz.ntmps81
     go_upto_region 3 with fail
     rw [HW0.out]
     go_wp2_with (at_make; refine wpList_make_full _ rfl _ _ 176 rfl (w.heap.size + 1) 139 il (.slice none 0 0) 1 Tryz.underlying176 hil hl0 hl1 .i64 .i64 _ _ n rfl rfl rfl rfl (by rw [hl2]; omega) (by unfold maxLen; omega) (by omega) ?_; intro w1 hown1 hgrow1)
     rw [hs0] at hown1
     have hmk : (madeCells (Value.slice none 0 0).cells (n * 1)).toList = List.replicate n (Value.slice none 0 0) := by
      have h1 : ∀ i : Nat, (Value.slice none 0 0).cells[i % (Value.slice none 0 0).cells.size]! = Value.slice none 0 0 := fun i => by
       show (#[Value.slice none 0 0] : Array Value)[i % 1]! = _
       rw [Nat.mod_one]
       rfl
      unfold madeCells
      rw [Nat.mul_one, Array.toList_map, List.eq_replicate_iff]
      exact ⟨by simp, fun b hb => by
       obtain ⟨i, _, rfl⟩ := List.mem_map.1 hb
       exact h1 i⟩
     have hb01 : Below W0.heap.size W0 w1 := fresh_none hgrow1
     have HT1 := zH (HT.out.below hb01)
     have HB1 := zH (Below.next HB0.out hb01)
     have HOW1 := zH hown1
     rw [hmk] at HOW1
     have hs1 : w.heap.size + 1 ≤ w1.heap.size := by have := hb01.size; omega
     clear hown1 hgrow1 hmk hb01 HT HB0 hs0
     go_wp2_with fail
     go_loopw [17] (fun i wr => ∃ (k : Nat) (ps : List SetP), k ≤ n ∧ i = .int .i64 (k : Int) ∧ wr.ownsRow (w.heap.size + 1) 139 1 (.slice (some ⟨w.heap.size + 1, 0, none⟩) n n) n (ps.flatMap setc ++ List.replicate (n - k) (Value.slice none 0 0)) ∧ Hid (ps.length = k ∧ ∀ p ∈ ps, AllP wr p) ∧ Blk wr w.heap.size 71 #[.int .i64 0, .bool false, .slice none 0 0] ∧ Below w.heap.size w wr) (fun i _ => n - (intOf i).toNat)
     case atStart => exact ⟨0, [], by omega, rfl, by simpa using HOW1.out, zH ⟨rfl, by simp⟩, HT1.out, HB1.out⟩
     case round =>
      clear HOW1 HT1 HB1
      obtain ⟨k, ps, hk, rfl, hown, HQ, hbk, hb⟩ := hrel
      by_cases hlt : k < n
      · have HOW := zH hown
        have HB := zH hb
        have HK := zH hbk
        clear hown hb hbk
        go_wp2_with fail
        refine (gall2_any _).mono ?_
        rintro e w2 ⟨g, rfl, hS, hb2⟩
        have HOW2 := zH (own_at HOW.out (fun q _ hl _ => hb2.block q hl))
        have HB2 := zH (Below.next HB.out hb2)
        have HK2 := zH (HK.out.below hb2)
        have HP2 : Hid (∀ p ∈ ps ++ [((some ⟨g, 0, none⟩, 1, 1), allL)], AllP w2 p) := zH fun p hp => by
         rcases List.mem_append.1 hp with hp | hp
         · exact (HQ.out.2 p hp).below hb2
         · exact ⟨g, List.mem_singleton.1 hp, hS⟩
        have hfl : (ps.flatMap setc).length = k := by rw [flat_len setc_len, HQ.out.1, Nat.mul_one]
        have hc := HOW2.out.cells (g := w.heap.size + 1) rfl k (.slice none 0 0) (by rw [List.getElem?_append_right (by omega), hfl, Nat.sub_self, show n - k = (n - k - 1) + 1 by omega, List.replicate_succ]; rfl)
        rw [add_at, Nat.zero_add] at hc
        have hfz := fun z => HOW2.out.frozenAt z
        have HFL := zH hfl
        clear hS hb2 HOW HB HK hfl
        go_wp2
        go_roundw
        case rel =>
         have hbz : But (fun q => (Value.slice (some ⟨w.heap.size + 1, 0, none⟩) n n).ownBlock = some q) w2 (w2.setCell ⟨w.heap.size + 1, k, none⟩ (.slice (some ⟨g, 0, none⟩) 1 1)) := But.set (S := fun q => (Value.slice (some ⟨w.heap.size + 1, 0, none⟩) n n).ownBlock = some q) _ (p := ⟨w.heap.size + 1, k, none⟩) rfl _
         refine ⟨k + 1, ps ++ [((some ⟨g, 0, none⟩, 1, 1), allL)], by omega, by go_num, ?_, zH ⟨by simp [HQ.out.1], fun p hp => (HP2.out p hp).but hbz (fun q hq cs => own_notI HOW2.out hq cs)⟩, HK2.out.but hbz (fun hq => by simp only [Value.ownBlock, Option.some.injEq] at hq; omega), HB2.out.setCell (p := ⟨w.heap.size + 1, k, none⟩) (by dsimp only; omega) _⟩
         have h1 := (HOW2.out.stored k (.slice (some ⟨g, 0, none⟩) 1 1)).1
         rw [set_rep HFL.out hlt] at h1
         rw [List.flatMap_append]
         exact h1
        case measure => simp [intOf]; omega
      · obtain rfl : k = n := by omega
        rw [Nat.sub_self, List.replicate_zero, List.append_nil] at hown
        obtain ⟨ps', hs', hm'⟩ := alls_of hown HQ.out.1 HQ.out.2
        have HSS := zH hs'
        have HM := zH hm'
        have HB := zH hb
        have HK := zH hbk
        clear hown hb HQ hs' hm' hbk
        go_wp2_with fail
        refine (box_any _ k k ps' _ HSS.out hn).mono ?_
        rintro e w3 ⟨x3, f3, A3, n3, c3, rfl, hR3, hb3⟩
        rw [HM.out] at hR3
        have HT := zH (HK.out.below hb3)
        have HB3 := zH (Below.next HB.out hb3)
        have HRr := zH (RgS.off HT.out (put3R_but _ w.heap.size (.int .i64 x3) (.bool f3) (.slice A3 n3 c3)) hR3)
        clear hR3 hb3 HK HB
        have zr := HT.out.cell
        obtain ⟨ff1, ff2, ff3⟩ := put3R_free HT.out (.int .i64 x3) (.bool f3)
        have y3 := (put3R_blk (a' := .int .i64 x3) (b' := .bool f3) (c' := .slice A3 n3 c3) HT.out).cell
        have y1 := (HT.out.set_ 0 (.int .i64 x3)).cell
        have y2 := ((HT.out.set_ 0 (.int .i64 x3)).set_ 1 (.bool f3)).cell
        have HBr := zH (put3R_below HB3.out (Nat.le_refl _) (.int .i64 x3) (.bool f3) (.slice A3 n3 c3))
        unfold put3R at y3
        go_wp2
        exact bodyPost_ret (v := .tuple #[.agg #[.int .i64 x3, .bool f3, .slice A3 n3 c3], .int .i64 0]) (by simp [results, Tryz.results81, go_sem, y3]) rfl ⟨x3, f3, A3, n3, c3, rfl, HRr.out, HBr.out⟩
noncomputable def cpErr (a : Rg) : Int := if okB a then opErr opMr (allR a.w.toNat) a else 40
noncomputable def cpRes (a : Rg) : Rg := if okB a then opRes opMr (allR a.w.toNat) a else zeroR
set_option maxHeartbeats 2000000 in
theorem gcomplement_any (a : Rg) (xa : Int) (fa : Bool) (Aa : Option Addr) (na ca : Nat) (w : World) (hA : RgS w xa fa Aa na ca a) (wA : WfR a) :
 Calls Tryz.prog 39 #[.agg #[.int .i64 xa, .bool fa, .slice Aa na ca]] w fun e w' => RgRes w (cpRes a) (cpErr a) e w' := by
 obtain ⟨er, Her⟩ : ∃ z, Hid (cpErr a = z) := ⟨_, rfl⟩
 obtain ⟨rr, Hrr⟩ : ∃ z, Hid (cpRes a = z) := ⟨_, rfl⟩
 rw [Her.out, Hrr.out]
 have HA := zH hA
 have hxa := hA.hw
 have HW := zH wA
 clear hA wA
 obtain ⟨W0, HW0⟩ : ∃ W : World, Hid ((w.alloc (.cells #[.int .i64 xa, .bool fa, .slice Aa na ca] 71)).alloc (.cells #[.int .i64 0, .bool false, .slice none 0 0] 71) = W) := ⟨_, rfl⟩
 have HC : Hid (Blk W0 w.heap.size 71 #[.int .i64 xa, .bool fa, .slice Aa na ca] ∧ Blk W0 (w.heap.size + 1) 71 #[.int .i64 0, .bool false, .slice none 0 0]) := by
  rw [← HW0.out]
  exact zH ⟨(Blk.step rfl).alloc _, Blk.step (by simp)⟩
 have HB0 : Hid (Below w.heap.size w W0) := by
  rw [← HW0.out]
  exact zH (((Below.refl _ _).alloc (Nat.le_refl _) _).alloc (by simp) _)
 have hs0 : W0.heap.size = w.heap.size + 2 := by rw [← HW0.out]; simp
 obtain ⟨va, Hva⟩ : ∃ t, Hid (okB a = t) := ⟨_, rfl⟩
 go_enter Tryz.func39, Tryz.ntmps39
 go_wp2_with fail
 rw [HW0.out]
 refine (rvalidR_any a xa fa Aa na ca _ (HA.out.keep (keeps_of HB0.out))).mono ?_
 rintro e w1 ⟨rfl, hb1⟩
 rw [Hva.out]
 have HA1 := zH (HC.out.1.below hb1)
 have HT1 := zH (HC.out.2.below hb1)
 have HB1 := zH (Below.next HB0.out hb1)
 have hs1 := hb1.size
 clear hb1 HC HB0
 cases va
 · have e1 : er = 40 := by rw [← Her.out]; simp [cpErr, Hva.out]
   have e2 : rr = zeroR := by rw [← Hrr.out]; simp [cpRes, Hva.out]
   subst e1 e2
   have zr := HT1.out.cell
   obtain ⟨ff1, ff2, ff3⟩ := put3R_free HT1.out (.int .i64 0) (.bool false)
   have y3 := (put3R_blk (a' := .int .i64 0) (b' := .bool false) (c' := .slice none 0 0) HT1.out).cell
   have y1 := (HT1.out.set_ 0 (.int .i64 0)).cell
   have y2 := ((HT1.out.set_ 0 (.int .i64 0)).set_ 1 (.bool false)).cell
   have HBr := zH (put3R_below HB1.out (show w.heap.size ≤ w.heap.size + 1 by omega) (.int .i64 0) (.bool false) (.slice none 0 0))
   unfold put3R at y3
   go_wp2
   exact bodyPost_ret (v := .tuple #[.agg #[.int .i64 0, .bool false, .slice none 0 0], .int .i64 40]) (by simp [results, Tryz.results39, go_sem, y3]) rfl ⟨0, false, none, 0, 0, rfl, RgS.nil _ _, HBr.out⟩
 · have hok := okB_true.1 Hva.out
   have Hn : Hid (a.w.toNat ≤ 12 ∧ allRes xa = allR a.w.toNat ∧ er = opErr opMr (allR a.w.toNat) a ∧ rr = opRes opMr (allR a.w.toNat) a) := by
    have h1 := hok.1
    have h2 := hok.2.1
    refine zH ⟨by omega, ?_, ?_, ?_⟩
    · rw [allRes, ← hxa, if_pos ⟨h1, h2⟩]
    · rw [← Her.out, cpErr, if_pos Hva.out]
    · rw [← Hrr.out, cpRes, if_pos Hva.out]
   clear hok hxa
   have z1 := HA1.out.cell
   go_wp2_with fail
   refine (gAll_any xa _).mono ?_
   rintro e w2 ⟨x2, f2, A2, n2, c2, rfl, hR2, hb2⟩
   rw [Hn.out.2.1] at hR2
   obtain ⟨e2, He2⟩ : ∃ z, Hid (allErr xa = z) := ⟨_, rfl⟩
   rw [He2.out]
   have HR2 := zH (hR2.keep (keeps_alloc w2 (.cells #[.int .i64 x2, .bool f2, .slice A2 n2 c2] 71)))
   have HV2 := zH (Blk.new w2 71 #[.int .i64 x2, .bool f2, .slice A2 n2 c2])
   have hb02 := Below.next HB1.out hb2
   have HB2 := zH (hb02.alloc hb02.size (.cells #[.int .i64 x2, .bool f2, .slice A2 n2 c2] 71))
   have HA2 := zH ((HA1.out.below hb2).alloc (.cells #[.int .i64 x2, .bool f2, .slice A2 n2 c2] 71))
   have HT2 := zH ((HT1.out.below hb2).alloc (.cells #[.int .i64 x2, .bool f2, .slice A2 n2 c2] 71))
   have hs2 := hb2.size
   clear hR2 hb2 hb02 HA1 HT1 HB1 z1
   go_upto_region 4 with fail
   generalize hW2 : w2.alloc (.cells #[.int .i64 x2, .bool f2, .slice A2 n2 c2] 71) = W2 at *
   clear hW2
   have z1 := HA2.out.cell
   have z2 := HV2.out.cell
   go_wp2_with fail
   refine (operate_any false true false (allR a.w.toNat) x2 f2 A2 n2 c2 a xa fa Aa na ca _ HR2.out (HA.out.keep (keeps_of HB2.out)) (all_wf _) HW.out).mono ?_
   rintro e w3 ⟨x3, f3, A3, n3, c3, rfl, hR3, hb3⟩
   have HT := zH (HT2.out.below hb3)
   have HB3 := zH (Below.next HB2.out hb3)
   have HRr := zH (RgS.off HT.out (put3R_but _ (w.heap.size + 1) (.int .i64 x3) (.bool f3) (.slice A3 n3 c3)) hR3)
   rw [← Hn.out.2.2.2] at HRr
   rw [← Hn.out.2.2.1]
   clear hR3 hb3 HT2 HB2 z1 z2
   have zr := HT.out.cell
   obtain ⟨ff1, ff2, ff3⟩ := put3R_free HT.out (.int .i64 x3) (.bool f3)
   have y3 := (put3R_blk (a' := .int .i64 x3) (b' := .bool f3) (c' := .slice A3 n3 c3) HT.out).cell
   have y1 := (HT.out.set_ 0 (.int .i64 x3)).cell
   have y2 := ((HT.out.set_ 0 (.int .i64 x3)).set_ 1 (.bool f3)).cell
   have HBr := zH (put3R_below HB3.out (show w.heap.size ≤ w.heap.size + 1 by omega) (.int .i64 x3) (.bool f3) (.slice A3 n3 c3))
   unfold put3R at y3
   go_wp2
   exact bodyPost_ret (v := .tuple #[.agg #[.int .i64 x3, .bool f3, .slice A3 n3 c3], .int .i64 er]) (by simp [results, Tryz.results39, go_sem, y3]) rfl ⟨x3, f3, A3, n3, c3, rfl, HRr.out, HBr.out⟩
def boxesR : Rg → List (List (List Iv))
 | .nil _ f => if f then [[]] else []
 | .cons vs rest tail => (boxesR rest).map (vs :: ·) ++ boxesR tail
abbrev BoxP := (Option Addr × Nat × Nat) × List SetP
def bxc (e : BoxP) : List Value := [.slice e.1.1 e.1.2.1 e.1.2.2]
structure BoxE (B : Nat) (W w : World) (e : BoxP) : Prop where
 own : w.ownsRow B 139 1 (.slice e.1.1 e.1.2.1 e.1.2.2) e.1.2.1 (e.2.flatMap setc)
 len : e.2.length = e.1.2.1
 set : ∀ p ∈ e.2, okS p.1.1 p.1.2.1 p.1.2.2 ∧ p.1.2.1 ≤ 1000000 ∧ IvS W p.1.1 p.1.2.1 p.2
theorem BoxE.but {B : Nat} {W w w' : World} {e : BoxP} {S : Nat → Prop} (h : BoxE B W w e) (hb : But S w w') (hs : ∀ k, (Value.slice e.1.1 e.1.2.1 e.1.2.2).ownBlock = some k → ¬ S k) : BoxE B W w' e := ⟨own_but h.own hb hs, h.len, h.set⟩
theorem BoxE.below {B : Nat} {W w w' : World} {e : BoxP} (h : BoxE B W w e) (hb : Below w.heap.size w w') : BoxE B W w' e := h.but (S := fun _ => False) (But.of_below hb) (fun _ _ h => h)
def BoxOut (W w : World) (r : Rg) (e : Ending) (w' : World) : Prop :=
 ∃ (A : Option Addr) (n c : Nat) (es : List BoxP), e = .returned (.slice A n c) ∧ w'.ownsRow w.heap.size 176 1 (.slice A n c) n (es.flatMap bxc) ∧ es.length = n ∧ (∀ x ∈ es, BoxE w.heap.size W w' x) ∧ es.map (fun x => x.2.map (·.2)) = boxesR r ∧ Below w.heap.size w w'
structure BxS (W w : World) (A : Option Addr) (t c : Nat) (es : List BoxP) (wr : World) : Prop where
 own : wr.ownsRow (w.heap.size + 1) 176 1 (.slice A t c) t (es.flatMap bxc)
 len : es.length = t
 el : ∀ x ∈ es, BoxE (w.heap.size + 1) W wr x
 bel : Below w.heap.size w wr
 lo : w.heap.size + 1 ≤ wr.heap.size
theorem BxS.below {W w wr w' : World} {A : Option Addr} {t c : Nat} {es : List BoxP} (h : BxS W w A t c es wr) (hb : Below wr.heap.size wr w') : BxS W w A t c es w' :=
 ⟨own_at h.own fun g _ hl _ => hb.block g hl, h.len, fun x hx => (h.el x hx).below hb, Below.next h.bel hb, Nat.le_trans h.lo hb.size⟩
theorem own_mono {w : World} {B B' : Nat} {e : TypeId} {sz n : Nat} {v : Value} {xs : List Value} (h : w.ownsRow B e sz v n xs) (hB : B' ≤ B) : w.ownsRow B' e sz v n xs := by
 refine ⟨h.1, ?_⟩
 rcases h.2 with h2 | ⟨g, cap, cur, h3, h4, h5⟩
 · exact .inl h2
 · exact .inr ⟨g, cap, cur, h3, Nat.le_trans hB h4, h5⟩
theorem BxS.more {W w wr w' : World} {A : Option Addr} {t c : Nat} {es : List BoxP} (h : BxS W w A t c es wr) {x : BoxP} (hx : BoxE (w.heap.size + 1) W wr x) {A' : Option Addr} {c' : Nat} (hown : w'.ownsRow (w.heap.size + 1) 176 1 (.slice A' (t + 1) c') (t + 1) (es.flatMap bxc ++ bxc x))
 (hb : But (fun q => (Value.slice A t c).ownBlock = some q) wr w') : BxS W w A' (t + 1) c' (es ++ [x]) w' := by
 refine ⟨by rw [List.flatMap_append]; simpa using hown, by simp [h.len], fun q hq => ?_, hb.below h.bel h.bel.size (fun q hq => by have := (own_lt h.own hq).1; omega), Nat.le_trans h.lo hb.size⟩
 have hq' : BoxE (w.heap.size + 1) W wr q := by
  rcases List.mem_append.1 hq with hq | hq
  · exact h.el q hq
  · rw [List.mem_singleton.1 hq]
    exact hx
 exact hq'.but hb fun k hk hs => own_types hq'.own h.own (by decide) hk hs
theorem BxS.out {W w wr : World} {A : Option Addr} {t c : Nat} {es : List BoxP} {r : Rg} (h : BxS W w A t c es wr) (he : es.map (fun x => x.2.map (·.2)) = boxesR r) : BoxOut W w r (.returned (.slice A t c)) wr :=
 ⟨A, t, c, es, rfl, own_mono h.own (Nat.le_succ _), h.len, fun x hx => ⟨own_mono (h.el x hx).own (Nat.le_succ _), (h.el x hx).len, (h.el x hx).set⟩, he, h.bel⟩
end Go.Proofs.YtnnmlhmffnfjfaaGreat
namespace Go.Proofs.YtnnmlhmffnfjfaaGreat
open Go.RowKit
def noSet : SetP := ((none, 0, 0), [])
def pk (ps : List SetP) (c : Int) : SetP := ps.getD c.toNat noSet
theorem mk_slices (n : Nat) : (madeCells (Value.slice none 0 0).cells (n * 1)).toList = List.replicate n (Value.slice none 0 0) := by
 have h1 : ∀ i : Nat, (Value.slice none 0 0).cells[i % (Value.slice none 0 0).cells.size]! = Value.slice none 0 0 := fun i => by
  show (#[Value.slice none 0 0] : Array Value)[i % 1]! = _
  rw [Nat.mod_one]
  rfl
 unfold madeCells
 rw [Nat.mul_one, Array.toList_map, List.eq_replicate_iff]
 exact ⟨by simp, fun b hb => by
  obtain ⟨i, _, rfl⟩ := List.mem_map.1 hb
  exact h1 i⟩
structure LfS (w : World) (B : Nat) (A : Option Addr) (N c : Nat) (ps qs : List SetP) : Prop where
 own : w.ownsRow B 139 1 (.slice A N c) N (qs.flatMap setc)
 len : qs.length = N
 el : ∀ q ∈ qs, q ∈ ps ∨ AllP w q
theorem LfS.sets {w0 w : World} {B : Nat} {A A0 : Option Addr} {N c n0 : Nat} {ps qs : List SetP} (h : LfS w B A N c ps qs) (hs : SetsS w0 A0 n0 ps) (hb : Keeps w0 w) : SetsS w A N qs := by
 refine ⟨Sl.of_own setc_len h.len h.own, fun q hq => ?_⟩
 rcases h.el q hq with h1 | ⟨g, rfl, h1⟩
 · have h2 := hs.ok q h1
   exact ⟨h2.1, h2.2.1, h2.2.2.keep hb⟩
 · exact ⟨⟨Nat.le_refl _, fun h => by cases h⟩, by show 1 ≤ 1000000; omega, all_iv h1⟩
theorem flat_setc (qs : List SetP) (j : Nat) (p : SetP) : (qs.set j p).flatMap setc = (qs.flatMap setc).set j (.slice p.1.1 p.1.2.1 p.1.2.2) := by
 induction qs generalizing j with
 | nil => rfl
 | cons q qs ih =>
   cases j with
   | zero => rfl
   | succ j =>
     rw [List.set_cons_succ, List.flatMap_cons, ih, List.flatMap_cons]
     rfl
theorem LfS.put {w : World} {B g : Nat} {N c : Nat} {ps qs : List SetP} (h : LfS w B (some ⟨g, 0, none⟩) N c ps qs) {p : SetP} (hp : p ∈ ps) (j : Nat) : LfS (w.setCell ⟨g, j, none⟩ (.slice p.1.1 p.1.2.1 p.1.2.2)) B (some ⟨g, 0, none⟩) N c ps (qs.set j p) := by
 have hbz : But (fun q => (Value.slice (some ⟨g, 0, none⟩) N c).ownBlock = some q) w (w.setCell ⟨g, j, none⟩ (.slice p.1.1 p.1.2.1 p.1.2.2)) := But.set (S := fun q => (Value.slice (some ⟨g, 0, none⟩) N c).ownBlock = some q) _ (p := ⟨g, j, none⟩) rfl _
 refine ⟨?_, by rw [List.length_set]; exact h.len, fun q hq => ?_⟩
 · have h1 := (h.own.stored j (.slice p.1.1 p.1.2.1 p.1.2.2)).1
   rw [← flat_setc] at h1
   exact h1
 · rcases List.mem_or_eq_of_mem_set hq with h2 | rfl
   · rcases h.el q h2 with h3 | h3
     · exact .inl h3
     · exact .inr (h3.but hbz (fun q hq cs => own_notI h.own hq cs))
   · exact .inl hp
theorem LfS.below {w w' : World} {B : Nat} {A : Option Addr} {N c : Nat} {ps qs : List SetP} (h : LfS w B A N c ps qs) (hb : Below w.heap.size w w') : LfS w' B A N c ps qs :=
 ⟨own_at h.own (fun q _ hl _ => hb.block q hl), h.len, fun q hq => (h.el q hq).imp id (·.below hb)⟩
theorem setAt (qs : List SetP) (j : Nat) (p : SetP) : (qs.set j p).map (·.2) = (qs.map (·.2)).set j p.2 := by rw [List.map_set]
end Go.Proofs.YtnnmlhmffnfjfaaGreat
namespace Go.Proofs.YtnnmlhmffnfjfaaGreat
open Go.RowKit
open Rg
def wfB (b : List (List Iv)) : Prop := ∀ s ∈ b, ∀ x ∈ s, rgV x.f ∧ rgV x.t
theorem alls_wf (N : Nat) : wfB (List.replicate N allL) := fun s hs => by
 rw [(List.mem_replicate.1 hs).2]
 intro x hx
 simp only [allL, List.mem_singleton] at hx
 subst hx
 exact ⟨⟨by decide, by decide⟩, ⟨by decide, by decide⟩⟩
section
variable {n : Nat} {a b : Rg} (ha : OkR a) (hwa : a.w = (n : Int))
include ha hwa
theorem ok_formN : Form n a := by
 have := ha.2.2.2.1
 rw [hwa, Int.toNat_natCast] at this
 exact this
theorem ok_n12 : n ≤ 12 := by have := ha.2.1; omega
variable (hb : OkR b) (hwb : b.w = (n : Int))
include hb hwb
theorem op_spec (op : Bool → Bool → Bool) : opErr op a b = (if (comb op n a b).size ≤ 64 ∧ (comb op n a b).fits = true then 0 else 2) ∧ (opErr op a b = 0 → opRes op a b = comb op n a b ∧ OkR (opRes op a b) ∧ (opRes op a b).w = (n : Int)) := by
 have h1 := op_err (op := op) ha hb (hwa.trans hwb.symm)
 rw [hwa, Int.toNat_natCast] at h1
 refine ⟨h1, fun h0 => ?_⟩
 have h2 := op_ok h0
 have h3 := h2.2.1
 rw [hwa, Int.toNat_natCast] at h3
 refine ⟨h3, h2.1, ?_⟩
 rw [h3]
 exact (comb_form _ _ _ _ (ok_formN ha hwa) (ok_formN hb hwb)).width
end
section
variable {n : Nat} {a b c : Rg} (ha : OkR a) (hwa : a.w = (n : Int))
include ha hwa
theorem cp_spec : cpErr a = (if (cplR n a).size ≤ 64 ∧ (cplR n a).fits = true then 0 else 2) ∧ (cpErr a = 0 → cpRes a = cplR n a ∧ OkR (cpRes a) ∧ (cpRes a).w = (n : Int)) := by
 have hv := okB_true.2 ha
 have hn := ok_n12 ha hwa
 have h1 : a.w.toNat = n := by rw [hwa, Int.toNat_natCast]
 have h2 := op_spec (all_ok hn) (all_w n) ha hwa opMr
 rw [cpErr, cpRes, if_pos hv, if_pos hv, h1]
 exact h2
theorem cp_02 : cpErr a = 0 ∨ cpErr a = 2 := by
 rw [(cp_spec ha hwa).1]
 split
 · exact .inl rfl
 · exact .inr rfl
variable (hb : OkR b) (hwb : b.w = (n : Int))
include hb hwb
theorem cov_spec : covErr a b = 0 ∧ covRes a b = (comb opMr n b a).nix := by
 have h1 : covErr a b = 0 := by simp [covErr, okB_true.2 ha, okB_true.2 hb, hwa, hwb]
 refine ⟨h1, ?_⟩
 rw [covRes, if_pos h1, hwa, Int.toNat_natCast]
variable (hc : OkR c) (hwc : c.w = (n : Int))
include hc hwc
end
theorem cp_wf {a : Rg} (h : WfR a) : WfR (cpRes a) := by
 unfold cpRes
 split
 · exact op_wf (all_wf _) h
 · trivial
theorem eqB_self {a : Rg} (h : OkR a) : eqB a a = true := by rw [eqB, okB_true.2 h]; simp
section
variable {n : Nat} {a b r : Rg} (ha : OkR a) (hwa : a.w = (n : Int))
include ha hwa
variable (hb : OkR b) (hwb : b.w = (n : Int))
include hb hwb
theorem op_is {op : Bool → Bool → Bool} (h : comb op n a b = r) (hr : OkR r) : opErr op a b = 0 ∧ opRes op a b = r := by
 obtain ⟨h1, h2⟩ := op_spec ha hwa hb hwb op
 have h0 : opErr op a b = 0 := by rw [h1, h, if_pos ⟨hr.2.2.1, hr.2.2.2.2⟩]
 exact ⟨h0, (h2 h0).1.trans h⟩
end
theorem gfits_mem : ∀ {r : Rg}, r.fits = true → ∀ p ∈ r.parts, p.1.length ≤ 64 ∧ p.2.fits = true
 | nil _ _, _, p, hp => by simp [parts] at hp
 | cons vs r t, h, p, hp => by
   simp only [fits, Bool.and_eq_true, decide_eq_true_eq] at h
   simp only [parts, List.mem_cons] at hp
   rcases hp with rfl | hp
   · exact ⟨h.1.1, h.1.2⟩
   · exact gfits_mem h.2 p hp
theorem fnd_at (n : Int) {v : Vl} (hv : validV v = true) : ∀ r : Rg, (∀ p ∈ r.parts, validL p.1 = true) → (∃ p ∈ r.parts, fnd r.parts v = some p.2 ∧ r.at_ n v = p.2) ∨ (fnd r.parts v = none ∧ r.at_ n v = nil n false)
 | nil _ _, _ => .inr ⟨rfl, rfl⟩
 | cons vs q t, h => by
   have h0 := h (vs, q) List.mem_cons_self
   simp only [parts, fnd, at_, hasL, hv, h0, Bool.true_and]
   cases inL vs v
   · rcases fnd_at n hv t (fun p hp => h p (List.mem_cons_of_mem _ hp)) with ⟨p, hp, h1, h2⟩ | h1
     · exact .inl ⟨p, List.mem_cons_of_mem _ hp, h1, h2⟩
     · exact .inr h1
   · exact .inl ⟨(vs, q), List.mem_cons_self, rfl, rfl⟩
theorem hasF_den : ∀ (l : List Vl) (n : Nat) (r : Rg), Form n r → r.fits = true → goodRow n l → hasF r l = r.den l
 | [], _, r, _, _, _ => (den_nil r).symm
 | v :: l, 0, r, _, _, hg => by cases hg.1
 | v :: l, n + 1, r, hf, ht, hg => by
   have hv := hg.2 v List.mem_cons_self
   have hg' : goodRow n l := ⟨by have := hg.1; simp at this; exact this, fun u hu => hg.2 u (List.mem_cons_of_mem _ hu)⟩
   rw [den_cons (n : Int) v l r, hasF]
   rcases fnd_at (n : Int) hv r (fun p hp => by
    have h1 := hf.2.2.1 p hp
    have h2 := gfits_mem ht p hp
    simp [validL, h1.2.1, h2.1]) with ⟨p, hp, h1, h2⟩ | ⟨h1, h2⟩
   · rw [h1, h2]
     exact hasF_den l n p.2 (hf.2.2.1 p hp).2.2.1 (gfits_mem ht p hp).2 hg'
   · rw [h1, h2]
     cases l <;> rfl
theorem hasR_den {n : Nat} {a : Rg} {row : List Vl} (ha : OkR a) (hwa : a.w = (n : Int)) (h : goodRow n row) : hasR a row = a.den row := by
 rw [hasR, okB_true.2 ha, hwa, h.1, decide_eq_true rfl]
 exact hasF_den row n a (ok_formN ha hwa) ha.2.2.2.2 h
end Go.Proofs.YtnnmlhmffnfjfaaGreat
namespace Go.Proofs.YtnnmlhmffnfjfaaGreat
open Go.RowKit
theorem gcase_belowB {w w' : World} {g B : Nat} (h : CaseAt w g) (hb : Below B w w') (hB : g < B) : CaseAt w' g :=
 h.far (S := fun b => B ≤ b) ⟨hb.os, hb.tape, hb.output, hb.size, fun k _ hk => hb.block k (by simpa using hk)⟩ (fun b hb => by omega)
theorem gbut_belowB {S : Nat → Prop} {w0 w w' : World} {B : Nat} (h : But S w0 w) (hb : Below B w w') (hB : w0.heap.size ≤ B) : But S w0 w' :=
 ⟨hb.os.trans h.os, hb.tape.trans h.tape, hb.output.trans h.output, Nat.le_trans h.size hb.size, fun k hk hs => (hb.block k (by omega)).trans (h.block k hk hs)⟩
end Go.Proofs.YtnnmlhmffnfjfaaGreat
namespace Go.Proofs.YtnnmlhmffnfjfaaGreat
open Go.RowKit
open Rg
def lstP : Rg → List Vl
 | .nil _ _ => []
 | .cons vs rest _ => lo vs :: lstP rest
structure LsS (w : World) (r : Rg) (D : Nat) (k : Nat) (A1 : Option Addr) (c1 : Nat) (x : Int) (f : Bool) (A : Option Addr) (n c : Nat) (wr : World) : Prop where
 ex : ∃ (l : List Vl) (q : Rg) (d : Nat), l.length = k ∧ wr.ownsRow (w.heap.size + 1) 59 3 (.slice A1 k c1) k (l.flatMap Vl.cs) ∧ RgS w x f A n c q ∧ FormF d q ∧ d + k = D ∧ q.nix = false ∧ l ++ lstP q = lstP r ∧ q.size ≤ 64
 bo : Blk wr w.heap.size 71 #[.int .i64 x, .bool f, .slice A n c]
 be : Below w.heap.size w wr
end Go.Proofs.YtnnmlhmffnfjfaaGreat
