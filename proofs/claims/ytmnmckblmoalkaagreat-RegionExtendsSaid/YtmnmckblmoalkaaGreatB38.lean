/-
  Texts: Case2, NextM, One, Good, CInt.
-/
import Derived.Test.YtmnmckblmoalkaaGreatB37
import Derived.Test.YtmnmckblmoalkaaGreatB29
import Derived.Test.YtmnmckblmoalkaaGreatB27
set_option linter.unusedVariables false
namespace Go.Proofs.YtmnmckblmoalkaaGreat
open Go.RowKit
set_option maxRecDepth 100000
set_option linter.unusedVariables false

/-- the number of a value is an int64 -/
def rngV (v : Vl) : Prop := minI ≤ v.i ∧ v.i ≤ 9223372036854775807
def SomeInt2 (w : World) (g : Nat) (e : Ending) (w' : World) : Prop := (∃ x : Int, (minI ≤ x ∧ x ≤ 9223372036854775807) ∧ e = .returned (.int .i64 x)) ∧ CaseAt w' g ∧ But (· = g) w w'
theorem number2_any (g : Nat) (w : World) (hc : CaseAt w g) :
    Calls Tryz.prog 125 #[.pointer (some ⟨g, 0, none⟩)] w fun e w' => SomeInt2 w g e w' := by
  go_enter Tryz.func125, Tryz.ntmps125
  go_wp2_with fail
  refine (int_any g 12 _ hc (by omega) (by omega)).mono ?_
  rintro e w1 ⟨⟨x, hx1, hx2, rfl⟩, hc1, hb1⟩
  go_wp2
  all_goals
    go_ret
    refine ⟨⟨_, ?_, rfl⟩, hc1, hb1⟩
    unfold minI
    constructor <;> omega
def SomeW (w : World) (g : Nat) (e : Ending) (w' : World) : Prop := (∃ v : Vl, validV v = true ∧ rngV v ∧ e = .returned (.agg #[.int .i64 v.k, .int .i64 v.i, .string v.t])) ∧ CaseAt w' g ∧ But (· = g) w w'
set_option maxHeartbeats 1000000 in
theorem value2_any (g : Nat) (k : Int) (w : World) (hc : CaseAt w g) (hk : k = 3 ∨ k = 4 ∨ k = 5) :
    Calls Tryz.prog 83 #[.pointer (some ⟨g, 0, none⟩), .int .i64 k] w fun e w' => SomeW w g e w' := by
  have hlt := hc.lt
  have hc0 := hc.below ((Below.refl _ _).alloc (Nat.le_refl _) (.cells #[.int .i64 0, .int .i64 0, .string ⟨#[]⟩] 49))
  have hX := Blk.new w 49 #[.int .i64 0, .int .i64 0, .string ⟨#[]⟩]
  have hB0 : But (· = g) w (w.alloc (.cells #[.int .i64 0, .int .i64 0, .string ⟨#[]⟩] 49)) := But.alloc _ _
  rcases hk with rfl | rfl | rfl
  · go_enter Tryz.func83, Tryz.ntmps83
    go_wp2_with fail
    refine (int_any g 2 _ hc0 (by omega) (by omega)).mono ?_
    rintro e w1 ⟨⟨x, hx1, hx2, rfl⟩, hc1, hb1⟩
    have hX1 := hX.but hb1 (by omega)
    have hXc := hX1.cell
    have hXf := hX1.free
    go_wp2
    refine bodyPost_ret (v := .agg #[.int .i64 3, .int .i64 x, .string ⟨#[]⟩]) (by simp [results, Tryz.results83, go_sem, hXc]) rfl ⟨⟨⟨3, x, ⟨#[]⟩⟩, ?_, ⟨by unfold minI; simp; omega, by simp; omega⟩, rfl⟩, ?_, ?_⟩
    · have : x = 0 ∨ x = 1 := by omega
      rcases this with rfl | rfl <;> decide +kernel
    · exact case_box hc1 hX1 (by omega) _ _ _
    · exact (((hB0.trans hb1).setNew (p := ⟨w.heap.size, 0, none⟩) (by simp) _).setNew (p := ⟨w.heap.size, 1, none⟩) (by simp) _).setNew (p := ⟨w.heap.size, 2, none⟩) (by simp) _
  · go_enter Tryz.func83, Tryz.ntmps83
    go_wp2_with fail
    refine (number2_any g _ hc0).mono ?_
    rintro e w1 ⟨⟨x, hxr, rfl⟩, hc1, hb1⟩
    have HXR := Lib.hid hxr
    clear hxr
    have hX1 := hX.but hb1 (by omega)
    have hXc := hX1.cell
    have hXf := hX1.free
    go_wp2
    refine bodyPost_ret (v := .agg #[.int .i64 4, .int .i64 x, .string ⟨#[]⟩]) (by simp [results, Tryz.results83, go_sem, hXc]) rfl ⟨⟨⟨4, x, ⟨#[]⟩⟩, ?_, HXR.out, rfl⟩, ?_, ?_⟩
    · simp [validV, ByteArray.toList_eq]
    · exact case_box hc1 hX1 (by omega) _ _ _
    · exact (((hB0.trans hb1).setNew (p := ⟨w.heap.size, 0, none⟩) (by simp) _).setNew (p := ⟨w.heap.size, 1, none⟩) (by simp) _).setNew (p := ⟨w.heap.size, 2, none⟩) (by simp) _
  · go_enter Tryz.func83, Tryz.ntmps83
    go_wp2_with fail
    refine (text_any g _ hc0).mono ?_
    rintro e w1 ⟨⟨x, hx, rfl⟩, hc1, hb1⟩
    have hX1 := hX.but hb1 (by omega)
    have hXc := hX1.cell
    have hXf := hX1.free
    go_wp2
    refine bodyPost_ret (v := .agg #[.int .i64 5, .int .i64 0, .string x]) (by simp [results, Tryz.results83, go_sem, hXc]) rfl ⟨⟨⟨5, 0, x⟩, ?_, ⟨by unfold minI; simp, by simp⟩, rfl⟩, ?_, ?_⟩
    · simp [validV]; omega
    · exact case_box hc1 hX1 (by omega) _ _ _
    · exact (((hB0.trans hb1).setNew (p := ⟨w.heap.size, 0, none⟩) (by simp) _).setNew (p := ⟨w.heap.size, 1, none⟩) (by simp) _).setNew (p := ⟨w.heap.size, 2, none⟩) (by simp) _

set_option maxHeartbeats 1000000 in
theorem any2_any (g : Nat) (w : World) (hc : CaseAt w g) :
    Calls Tryz.prog 68 #[.pointer (some ⟨g, 0, none⟩)] w fun e w' => SomeW w g e w' := by
  have hlt := hc.lt
  have hc0 := hc.below ((Below.refl _ _).alloc (Nat.le_refl _) (.cells #[.int .i64 0, .int .i64 0, .string ⟨#[]⟩] 49))
  have hX := Blk.new w 49 #[.int .i64 0, .int .i64 0, .string ⟨#[]⟩]
  have hB0 : But (· = g) w (w.alloc (.cells #[.int .i64 0, .int .i64 0, .string ⟨#[]⟩] 49)) := But.alloc _ _
  go_enter Tryz.func68, Tryz.ntmps68
  go_wp2_with fail
  refine (int_any g 5 _ hc0 (by omega) (by omega)).mono ?_
  rintro e w1 ⟨⟨x, hx1, hx2, rfl⟩, hc1, hb1⟩
  have hX1 := hX.but hb1 (by omega)
  have hXc := hX1.cell
  have hXf := hX1.free
  by_cases h3 : 1 + x < 3
  · go_wp2
    refine bodyPost_ret (v := .agg #[.int .i64 (1 + x), .int .i64 0, .string ⟨#[]⟩]) (by simp [results, Tryz.results68, go_sem, hXc]) rfl ⟨⟨⟨1 + x, 0, ⟨#[]⟩⟩, ?_, ⟨by unfold minI; simp, by simp⟩, rfl⟩, ?_, ?_⟩
    · have : x = 0 ∨ x = 1 := by omega
      rcases this with rfl | rfl <;> decide +kernel
    · exact case_box hc1 hX1 (by omega) _ _ _
    · exact (((hB0.trans hb1).setNew (p := ⟨w.heap.size, 0, none⟩) (by simp) _).setNew (p := ⟨w.heap.size, 1, none⟩) (by simp) _).setNew (p := ⟨w.heap.size, 2, none⟩) (by simp) _
  · clear hXc hXf
    go_wp2_with fail
    refine (value2_any g (1 + x) _ hc1 (by omega)).mono ?_
    rintro e w2 ⟨⟨v, hv, hr, rfl⟩, hc2, hb2⟩
    have HR := Lib.hid hr
    have HV := Lib.hid hv
    clear hr hv
    have hX2 := hX1.but hb2 (by omega)
    have hXc := hX2.cell
    have hXf := hX2.free
    go_wp2
    refine bodyPost_ret (v := .agg #[.int .i64 v.k, .int .i64 v.i, .string v.t]) (by simp [results, Tryz.results68, go_sem, hXc]) rfl ⟨⟨v, HV.out, HR.out, rfl⟩, ?_, ?_⟩
    · exact case_box hc2 hX2 (by omega) _ _ _
    · exact ((((hB0.trans hb1).trans hb2).setNew (p := ⟨w.heap.size, 0, none⟩) (by simp) _).setNew (p := ⟨w.heap.size, 1, none⟩) (by simp) _).setNew (p := ⟨w.heap.size, 2, none⟩) (by simp) _
end Go.Proofs.YtmnmckblmoalkaaGreat

/-
  Plain mathematics: the value behind a value. No walk here.
-/
namespace Go.Proofs.YtmnmckblmoalkaaGreat
open Go.RowKit
set_option maxRecDepth 100000

theorem cmpB_snoc0 : ∀ t q : List UInt8, cmpB t q < 0 → cmpB (t ++ [0]) q ≤ 0
  | [], [], h => by simp [cmpB] at h
  | [], b :: q, _ => by
    simp only [List.nil_append, cmpB]
    split
    · omega
    · split
      · rename_i h1 h2
        exact absurd h2 (UInt8.not_lt.2 (by rw [UInt8.le_iff_toNat_le]; simp))
      · cases q <;> simp [cmpB]
  | _ :: _, [], h => by simp [cmpB] at h
  | a :: t, b :: q, h => by
    have ih := cmpB_snoc0 t q
    simp only [List.cons_append, cmpB] at h ⊢
    repeat' split at h
    all_goals (repeat' split)
    all_goals first | omega | exact ih h
theorem cmpB_snoc_lt : ∀ t : List UInt8, cmpB t (t ++ [0]) < 0
  | [] => by simp [cmpB]
  | a :: t => by
    have ih := cmpB_snoc_lt t
    simp only [List.cons_append, cmpB, UInt8.lt_irrefl, if_false]
    exact ih
theorem cmpB_top : ∀ (n : Nat) (q : List UInt8), q.length ≤ n → ¬ cmpB (List.replicate n 255) q < 0
  | 0, [], _ => by simp [cmpB]
  | 0, _ :: _, h => by simp at h
  | n + 1, [], _ => by simp [List.replicate_succ, cmpB]
  | n + 1, b :: q, h => by
    have ih := cmpB_top n q (by simpa using h)
    rw [List.replicate_succ]
    simp only [cmpB]
    split
    · rename_i h1
      rw [UInt8.lt_iff_toNat_lt] at h1
      have := b.toNat_lt
      have e : (255 : UInt8).toNat = 255 := rfl
      omega
    · split
      · omega
      · exact ih
theorem u8_succ {c : UInt8} (h : c ≠ 255) : (c + 1).toNat = c.toNat + 1 := by
  have h1 : c.toNat ≠ 255 := fun e => h (UInt8.toNat_inj.1 e)
  have h2 := c.toNat_lt
  rw [UInt8.toNat_add]
  have e : (1 : UInt8).toNat = 1 := rfl
  omega
theorem cmpB_up (c : UInt8) (hc : c ≠ 255) (n : Nat) : ∀ (p q : List UInt8), q.length ≤ p.length + 1 + n → cmpB (p ++ c :: List.replicate n 255) q < 0 → cmpB (p ++ [c + 1]) q ≤ 0
  | [], [], _, h => by simp [cmpB] at h
  | [], b :: q, hl, h => by
    have e := u8_succ hc
    have ht := cmpB_top n q (by simp at hl; omega)
    simp only [List.nil_append, cmpB, UInt8.lt_iff_toNat_lt] at h ⊢
    repeat' split at h
    all_goals (repeat' split)
    all_goals first | omega | (cases q <;> simp [cmpB])
  | _ :: _, [], _, h => by simp [cmpB] at h
  | a :: p, b :: q, hl, h => by
    have ih := cmpB_up c hc n p q (by simp at hl ⊢; omega)
    simp only [List.cons_append, cmpB] at h ⊢
    repeat' split at h
    all_goals (repeat' split)
    all_goals first | omega | exact ih h
theorem cmpB_up_lt (c : UInt8) (hc : c ≠ 255) (n : Nat) : ∀ p : List UInt8, cmpB (p ++ c :: List.replicate n 255) (p ++ [c + 1]) < 0
  | [] => by
    have e := u8_succ hc
    simp only [List.nil_append, cmpB, UInt8.lt_iff_toNat_lt]
    split <;> omega
  | a :: p => by
    have ih := cmpB_up_lt c hc n p
    simp only [List.cons_append, cmpB, UInt8.lt_irrefl, if_false]
    exact ih
theorem strip_le (t : List UInt8) : ∀ n, strip t n ≤ n
  | 0 => by simp [strip]
  | n + 1 => by
    have := strip_le t n
    unfold strip
    split <;> omega
theorem strip_parts (t : List UInt8) : ∀ n, n ≤ t.length → strip t n ≠ 0 → ∃ c, c ≠ (255 : UInt8) ∧ t.getD (strip t n - 1) 0 = c ∧ t.take n = t.take (strip t n - 1) ++ c :: List.replicate (n - strip t n) 255
  | 0, _, h => absurd rfl h
  | n + 1, hn, h => by
    unfold strip at h ⊢
    by_cases hc : t.getD n 0 = 255
    · rw [if_pos hc] at h ⊢
      obtain ⟨c, h1, h2, h3⟩ := strip_parts t n (by omega) h
      refine ⟨c, h1, h2, ?_⟩
      have hl := strip_le t n
      rw [List.take_add_one, h3, List.getElem?_eq_getElem (by omega), List.append_assoc, List.cons_append]
      congr 2
      have : t[n]'(by omega) = 255 := by rw [← hc, List.getD_eq_getElem?_getD, List.getElem?_eq_getElem (by omega)]; rfl
      rw [Option.toList_some, this, show n + 1 - strip t n = (n - strip t n) + 1 by omega, List.replicate_succ']
    · rw [if_neg hc] at h ⊢
      refine ⟨t.getD n 0, hc, rfl, ?_⟩
      rw [Nat.add_sub_cancel, Nat.sub_self, List.replicate_zero, List.take_add_one, List.getElem?_eq_getElem (by omega)]
      congr 1
      rw [List.getD_eq_getElem?_getD, List.getElem?_eq_getElem (by omega)]
      rfl
theorem bytes_list (t : ByteArray) : t.toList = t.data.toList := ByteArray.toList_eq t
theorem app_list (t s : ByteArray) : (t ++ s).toList = t.toList ++ s.toList := by
  rw [bytes_list, bytes_list, bytes_list, ByteArray.data_append, Array.toList_append]
/-- what is known of the text behind a text -/
theorem nextT_good (t : ByteArray) (ht : t.size ≤ 64) : ((nextT t).2 = true → (nextT t).1.k = 5 ∧ (nextT t).1.i = 0 ∧ (nextT t).1.t.size ≤ 64 ∧ cmpB t.toList (nextT t).1.t.toList < 0 ∧ ∀ q : ByteArray, q.size ≤ 64 → cmpB t.toList q.toList < 0 → cmpB (nextT t).1.t.toList q.toList ≤ 0) ∧
    ((nextT t).2 = false → (nextT t).1 = zeroV) := by
  unfold nextT
  by_cases h1 : t.size < 64
  · rw [if_pos h1]
    refine ⟨fun _ => ⟨rfl, rfl, ?_, ?_, fun q hq hlt => ?_⟩, fun h => by cases h⟩
    · show (t ++ ⟨#[0]⟩ : ByteArray).size ≤ 64
      rw [ByteArray.size_append]
      have : (⟨#[0]⟩ : ByteArray).size = 1 := rfl
      omega
    · show cmpB t.toList (t ++ ⟨#[0]⟩ : ByteArray).toList < 0
      rw [app_list, bytes_list ⟨#[0]⟩]
      exact cmpB_snoc_lt _
    · show cmpB (t ++ ⟨#[0]⟩ : ByteArray).toList q.toList ≤ 0
      rw [app_list, bytes_list ⟨#[0]⟩]
      exact cmpB_snoc0 _ _ hlt
  · rw [if_neg h1]
    by_cases h2 : strip t.data.toList t.size = 0
    · rw [if_pos h2]
      exact ⟨(fun h => by cases h), fun _ => rfl⟩
    · rw [if_neg h2]
      have hsz : t.data.toList.length = t.size := by simp
      obtain ⟨c, c1, c2, c3⟩ := strip_parts t.data.toList t.size (by omega) h2
      have hle := strip_le t.data.toList t.size
      rw [List.take_of_length_le (by omega)] at c3
      have hu : (upT t (strip t.data.toList t.size)).toList = t.data.toList.take (strip t.data.toList t.size - 1) ++ [c + 1] := by
        rw [bytes_list]
        unfold upT
        rw [c2]
      have hus : (upT t (strip t.data.toList t.size)).size = (upT t (strip t.data.toList t.size)).toList.length := by rw [bytes_list]; simp
      clear c2
      generalize upT t (strip t.data.toList t.size) = U at *
      generalize strip t.data.toList t.size = s at *
      generalize t.data.toList.take (s - 1) = P at *
      have hlen := congrArg List.length c3
      simp only [List.length_append, List.length_cons, List.length_replicate] at hlen
      refine ⟨fun _ => ⟨rfl, rfl, ?_, ?_, fun q hq hlt => ?_⟩, fun h => by cases h⟩
      · show U.size ≤ 64
        rw [hus, hu]
        simp
        omega
      · show cmpB t.toList U.toList < 0
        rw [hu, bytes_list t, c3]
        exact cmpB_up_lt c c1 _ _
      · show cmpB U.toList q.toList ≤ 0
        rw [hu]
        rw [bytes_list t, c3] at hlt
        refine cmpB_up c c1 _ _ _ ?_ hlt
        have : q.toList.length = q.size := by rw [bytes_list]; simp
        omega
theorem text_nil {t : ByteArray} (h : t.toList.isEmpty = true) : t = ⟨#[]⟩ := by
  rw [zero_text]
  simpa using h
theorem valid_eq {v : Vl} (h : validV v = true) : (v.k = 1 ∧ v.i = 0 ∧ v.t = ⟨#[]⟩) ∨ (v.k = 2 ∧ v.i = 0 ∧ v.t = ⟨#[]⟩) ∨ (v.k = 3 ∧ (v.i = 0 ∨ v.i = 1) ∧ v.t = ⟨#[]⟩) ∨ (v.k = 4 ∧ v.t = ⟨#[]⟩) ∨ (v.k = 5 ∧ v.i = 0 ∧ v.t.size ≤ 64) := by
  unfold validV at h
  by_cases h12 : v.k = 1 ∨ v.k = 2
  · rw [if_pos h12, Bool.and_eq_true] at h
    have h1 : v.i = 0 := by simpa using h.1
    have h2 := text_nil h.2
    rcases h12 with e | e
    · exact .inl ⟨e, h1, h2⟩
    · exact .inr (.inl ⟨e, h1, h2⟩)
  · rw [if_neg h12] at h
    by_cases h3 : v.k = 3
    · rw [if_pos h3, Bool.and_eq_true] at h
      exact .inr (.inr (.inl ⟨h3, by simpa using h.1, text_nil h.2⟩))
    · rw [if_neg h3] at h
      by_cases h4 : v.k = 4
      · rw [if_pos h4] at h
        exact .inr (.inr (.inr (.inl ⟨h4, text_nil h⟩)))
      · rw [if_neg h4] at h
        by_cases h5 : v.k = 5
        · rw [if_pos h5, Bool.and_eq_true] at h
          exact .inr (.inr (.inr (.inr ⟨h5, by simpa using h.1, by simpa using h.2⟩)))
        · rw [if_neg h5] at h
          cases h
theorem cmpV_kind {a b : Vl} (h : a.k < b.k) : cmpV a b = -1 := by
  unfold cmpV
  rw [if_pos h]
theorem cmpV_num {a b : Vl} (h : a.k = b.k) (h2 : a.i < b.i) : cmpV a b = -1 := by
  unfold cmpV
  rw [if_neg (by omega), if_neg (by omega), if_pos h2]
theorem cmpV_text {a b : Vl} (h : a.k = b.k) (h2 : a.i = b.i) : cmpV a b = cmpB a.t.toList b.t.toList := by
  unfold cmpV
  rw [if_neg (by omega), if_neg (by omega), if_neg (by omega), if_neg (by omega)]
theorem lt_cases {a b : Vl} (h : cmpV a b < 0) : a.k < b.k ∨ (a.k = b.k ∧ a.i < b.i) ∨ (a.k = b.k ∧ a.i = b.i ∧ cmpB a.t.toList b.t.toList < 0) := by
  unfold cmpV at h
  repeat' split at h
  all_goals first | omega | skip
/-- the value behind a valid value is the least greater one -/
def NextGood (v : Vl) : Prop := ((nextV v).2 = true → validV (nextV v).1 = true ∧ rngV (nextV v).1 ∧ cmpV v (nextV v).1 < 0 ∧ ∀ q, validV q = true → rngV q → cmpV v q < 0 → cmpV (nextV v).1 q ≤ 0) ∧ ((nextV v).2 = false → (nextV v).1 = zeroV)
theorem next_of {v n : Vl} (e : nextV v = (n, true)) (h1 : validV n = true) (h2 : rngV n) (h3 : cmpV v n < 0) (h4 : ∀ q, validV q = true → rngV q → cmpV v q < 0 → cmpV n q ≤ 0) : NextGood v := by
  unfold NextGood
  rw [e]
  exact ⟨fun _ => ⟨h1, h2, h3, h4⟩, fun h => by cases h⟩
theorem nil_cmp : cmpB (⟨#[]⟩ : ByteArray).toList (⟨#[]⟩ : ByteArray).toList = 0 := cmpB_self _
theorem nil_le (q : List UInt8) : cmpB (⟨#[]⟩ : ByteArray).toList q ≤ 0 := by
  rw [bytes_list]
  cases q <;> simp [cmpB]
theorem nextV_good {v : Vl} (hv : validV v = true) (hr : rngV v) : NextGood v := by
  obtain ⟨k, i, t⟩ := v
  have hm : minI = -9223372036854775808 := rfl
  unfold rngV at hr
  rw [hm] at hr
  dsimp only at hr
  rcases valid_eq hv with ⟨h1, h2, h3⟩ | ⟨h1, h2, h3⟩ | ⟨h1, h2, h3⟩ | ⟨h1, h3⟩ | ⟨h1, h2, h3⟩
  · simp only at h1 h2 h3
    subst h1 h2 h3
    refine next_of (n := ⟨2, 0, ⟨#[]⟩⟩) (by decide +kernel) (by decide +kernel) ⟨by simp [hm], by simp⟩ (by decide +kernel) fun q hq hrq hlt => ?_
    rcases valid_eq hq with ⟨a1, a2, a3⟩ | ⟨a1, a2, a3⟩ | ⟨a1, a2, a3⟩ | ⟨a1, a3⟩ | ⟨a1, a2, a3⟩
    · rcases lt_cases hlt with h | ⟨_, h⟩ | ⟨_, _, h⟩
      · simp only at h; omega
      · simp only at h; omega
      · rw [a3, nil_cmp] at h; omega
    · rw [cmpV_text a1.symm a2.symm]; exact nil_le _
    all_goals (rw [cmpV_kind (by simp only; omega)]; omega)
  · simp only at h1 h2 h3
    subst h1 h2 h3
    refine next_of (n := ⟨3, 0, ⟨#[]⟩⟩) (by decide +kernel) (by decide +kernel) ⟨by simp [hm], by simp⟩ (by decide +kernel) fun q hq hrq hlt => ?_
    rcases valid_eq hq with ⟨a1, a2, a3⟩ | ⟨a1, a2, a3⟩ | ⟨a1, a2, a3⟩ | ⟨a1, a3⟩ | ⟨a1, a2, a3⟩
    · rcases lt_cases hlt with h | ⟨h', h⟩ | ⟨h', _, h⟩
      · simp only at h; omega
      · simp only at h'; omega
      · simp only at h'; omega
    · rcases lt_cases hlt with h | ⟨_, h⟩ | ⟨_, _, h⟩
      · simp only at h; omega
      · simp only at h; omega
      · rw [a3, nil_cmp] at h; omega
    · rcases a2 with a2 | a2
      · rw [cmpV_text a1.symm a2.symm]; exact nil_le _
      · rw [cmpV_num a1.symm (by simp only; omega)]; omega
    all_goals (rw [cmpV_kind (by simp only; omega)]; omega)
  · simp only at h1 h2 h3
    subst h1 h3
    rcases h2 with rfl | rfl
    · refine next_of (n := ⟨3, 1, ⟨#[]⟩⟩) (by decide +kernel) (by decide +kernel) ⟨by simp [hm], by simp⟩ (by decide +kernel) fun q hq hrq hlt => ?_
      rcases valid_eq hq with ⟨a1, a2, a3⟩ | ⟨a1, a2, a3⟩ | ⟨a1, a2, a3⟩ | ⟨a1, a3⟩ | ⟨a1, a2, a3⟩
      · rcases lt_cases hlt with h | ⟨h', h⟩ | ⟨h', _, h⟩
        · simp only at h; omega
        · simp only at h'; omega
        · simp only at h'; omega
      · rcases lt_cases hlt with h | ⟨h', h⟩ | ⟨h', _, h⟩
        · simp only at h; omega
        · simp only at h'; omega
        · simp only at h'; omega
      · rcases a2 with a2 | a2
        · rcases lt_cases hlt with h | ⟨_, h⟩ | ⟨_, _, h⟩
          · simp only at h; omega
          · simp only at h; omega
          · rw [a3, nil_cmp] at h; omega
        · rw [cmpV_text a1.symm a2.symm]; exact nil_le _
      all_goals (rw [cmpV_kind (by simp only; omega)]; omega)
    · refine next_of (n := ⟨4, minI, ⟨#[]⟩⟩) (by decide +kernel) (by decide +kernel) ⟨by simp, by simp [hm]⟩ (by decide +kernel) fun q hq hrq hlt => ?_
      rcases valid_eq hq with ⟨a1, a2, a3⟩ | ⟨a1, a2, a3⟩ | ⟨a1, a2, a3⟩ | ⟨a1, a3⟩ | ⟨a1, a2, a3⟩
      · rcases lt_cases hlt with h | ⟨h', h⟩ | ⟨h', _, h⟩
        · simp only at h; omega
        · simp only at h'; omega
        · simp only at h'; omega
      · rcases lt_cases hlt with h | ⟨h', h⟩ | ⟨h', _, h⟩
        · simp only at h; omega
        · simp only at h'; omega
        · simp only at h'; omega
      · rcases lt_cases hlt with h | ⟨_, h⟩ | ⟨_, h', h⟩
        · simp only at h; omega
        · simp only at h; rcases a2 with a2 | a2 <;> omega
        · rw [a3, nil_cmp] at h; omega
      · rcases Int.lt_or_le minI q.i with h | h
        · rw [cmpV_num a1.symm h]; omega
        · rw [cmpV_text a1.symm (by have := hrq.1; simp only; omega)]; exact nil_le _
      · rw [cmpV_kind (by simp only; omega)]; omega
  · simp only at h1 h3
    subst h1 h3
    by_cases hl : i < 9223372036854775807
    · have e : nextV ⟨4, i, ⟨#[]⟩⟩ = (⟨4, i + 1, ⟨#[]⟩⟩, true) := by
        unfold nextV
        rw [if_pos hv, if_neg (by simp), if_pos ⟨rfl, hl⟩]
        have : wrap64 (i + 1) = i + 1 := by
          unfold wrap64
          omega
        rw [this]
      refine next_of e (by simp [validV, bytes_list]) ⟨by show minI ≤ i + 1; rw [hm]; omega, by show i + 1 ≤ 9223372036854775807; omega⟩ ?_ fun q hq hrq hlt => ?_
      · rw [cmpV_num (a := ⟨4, i, ⟨#[]⟩⟩) (b := ⟨4, i + 1, ⟨#[]⟩⟩) rfl (by simp only; omega)]; omega
      · rcases valid_eq hq with ⟨a1, a2, a3⟩ | ⟨a1, a2, a3⟩ | ⟨a1, a2, a3⟩ | ⟨a1, a3⟩ | ⟨a1, a2, a3⟩
        iterate 3
          · rcases lt_cases hlt with h | ⟨h', h⟩ | ⟨h', _, h⟩
            · simp only at h; omega
            · simp only at h'; omega
            · simp only at h'; omega
        · rcases lt_cases hlt with h | ⟨_, h⟩ | ⟨_, _, h⟩
          · simp only at h; omega
          · simp only at h
            rcases Int.lt_or_le (i + 1) q.i with h5 | h5
            · rw [cmpV_num a1.symm h5]; omega
            · rw [cmpV_text a1.symm (by simp only; omega)]; exact nil_le _
          · rw [a3, nil_cmp] at h; omega
        · rw [cmpV_kind (by simp only; omega)]; omega
    · refine next_of (n := ⟨5, 0, ⟨#[]⟩⟩) (nextV_top hv hl) (by decide +kernel) ⟨by simp [hm], by simp⟩ (by rw [cmpV_kind (by simp)]; omega) fun q hq hrq hlt => ?_
      rcases valid_eq hq with ⟨a1, a2, a3⟩ | ⟨a1, a2, a3⟩ | ⟨a1, a2, a3⟩ | ⟨a1, a3⟩ | ⟨a1, a2, a3⟩
      iterate 3
        · rcases lt_cases hlt with h | ⟨h', h⟩ | ⟨h', _, h⟩
          · simp only at h; omega
          · simp only at h'; omega
          · simp only at h'; omega
      · rcases lt_cases hlt with h | ⟨_, h⟩ | ⟨_, _, h⟩
        · simp only at h; omega
        · simp only at h; have := hrq.2; omega
        · rw [a3, nil_cmp] at h; omega
      · rw [cmpV_text a1.symm a2.symm]; exact nil_le _
  · simp only at h1 h2 h3
    subst h1 h2
    have e : nextV ⟨5, 0, t⟩ = nextT t := by
      unfold nextV
      rw [if_pos hv, if_neg (by simp), if_neg (by simp), if_pos rfl]
    obtain ⟨g1, g2⟩ := nextT_good t h3
    unfold NextGood
    rw [e]
    refine ⟨fun h => ?_, g2⟩
    obtain ⟨b1, b2, b3, b4, b5⟩ := g1 h
    generalize (nextT t).1 = n at *
    obtain ⟨nk, ni, nt⟩ := n
    simp only at b1 b2 b3 b4 b5
    subst b1 b2
    refine ⟨by simp [validV]; omega, ⟨by simp [hm], by simp⟩, by rw [cmpV_text (a := ⟨5, 0, t⟩) (b := ⟨5, 0, nt⟩) rfl rfl]; exact b4, fun q hq hrq hlt => ?_⟩
    rcases valid_eq hq with ⟨a1, a2, a3⟩ | ⟨a1, a2, a3⟩ | ⟨a1, a2, a3⟩ | ⟨a1, a3⟩ | ⟨a1, a2, a3⟩
    iterate 4
      · rcases lt_cases hlt with h | ⟨h', h⟩ | ⟨h', _, h⟩
        · simp only at h; omega
        · simp only at h'; omega
        · simp only at h'; omega
    · rcases lt_cases hlt with h | ⟨_, h⟩ | ⟨_, _, h⟩
      · simp only at h; omega
      · simp only at h; omega
      · rw [cmpV_text a1.symm a2.symm]
        exact b5 q.t a3 h
end Go.Proofs.YtmnmckblmoalkaaGreat

namespace Go.Proofs.YtmnmckblmoalkaaGreat
open Go.RowKit
set_option maxRecDepth 100000

theorem Blk.newAt {w : World} {g : Nat} {T : TypeId} {cs : Array Value} (h : g = w.heap.size) : Blk (w.alloc (.cells cs T)) g T cs := by
  subst h
  exact Blk.new w T cs
def oneL (v : Vl) : List Iv × Int := if validV v then ([⟨v, (nextV v).1, !(nextV v).2⟩], 0) else ([], 10)
set_option maxHeartbeats 1000000 in
theorem rone_any (v : Vl) (w : World) : Calls Tryz.prog 95 #[.agg #[.int .i64 v.k, .int .i64 v.i, .string v.t]] w fun e w' => IvRes w (oneL v) e w' := by
  obtain ⟨fk, fi, ft⟩ := v
  obtain ⟨v1, H1⟩ : ∃ v, Hid (validV ⟨fk, fi, ft⟩ = v) := ⟨_, rfl⟩
  obtain ⟨⟨⟨nk, ni, nt⟩, nb⟩, Hn⟩ : ∃ q, Hid (nextV ⟨fk, fi, ft⟩ = q) := ⟨_, rfl⟩
  go_enter Tryz.func95, Tryz.ntmps95
  go_wp2_with fail
  refine (rvalid_any ⟨fk, fi, ft⟩ _).mono ?_
  rintro e w1 ⟨rfl, hb1⟩
  rw [H1.out]
  have y1 := ((Blk.new w 49 #[.int .i64 fk, .int .i64 fi, .string ft]).below hb1)
  have y1c := y1.cell
  have hB1 : Below w.heap.size w w1 := Below.next ((Below.refl _ _).alloc (Nat.le_refl _) _) hb1
  have hs1 := y1.lt
  cases v1
  · go_wp2
    go_ret2
    exact ivres_nil (by simp [oneL, H1.out]) hB1
  · go_wp2_with fail
    refine (rnext_any ⟨fk, fi, ft⟩ _).mono ?_
    rintro e w2 ⟨rfl, hb2⟩
    rw [Hn.out]
    have y2 := y1.below hb2
    have y2c := y2.cell
    have hB2 := Below.next hB1 hb2
    have hs2 := y2.lt
    clear y1c
    go_wp2
    go_ret2
    have hr : oneL ⟨fk, fi, ft⟩ = ([⟨⟨fk, fi, ft⟩, ⟨nk, ni, nt⟩, !nb⟩], 0) := by simp [oneL, H1.out, Hn.out]
    rw [hr]
    exact ⟨_, _, rfl, iv_one (T := 90) (x := ⟨⟨fk, fi, ft⟩, ⟨nk, ni, nt⟩, !nb⟩) (Blk.newAt (by simp)), (hB2.alloc hB2.size _).alloc (by have := hB2.size; simp; omega) _⟩
end Go.Proofs.YtmnmckblmoalkaaGreat

/-
  Plain mathematics: canonical lists with few points. No walk here.
-/
namespace Go.Proofs.YtmnmckblmoalkaaGreat
open Go.RowKit
set_option maxRecDepth 100000

/-- canonical, with at most m points -/
structure Good (l : List Iv) (m : Nat) : Prop where
  ord : ordFrom none l = true
  pts : (ptsL l).length ≤ m
theorem Good.len {l : List Iv} {m : Nat} (h : Good l m) : 2 * l.length ≤ m + 1 := by
  have h1 := (ord_pts l none h.ord).1
  have h2 := ivs_len (ptsL l)
  rw [h1] at h2
  have := h.pts
  omega
theorem Good.mono {l : List Iv} {m n : Nat} (h : Good l m) (hn : m ≤ n) : Good l n := ⟨h.ord, by have := h.pts; omega⟩
theorem Good.nil (m : Nat) : Good [] m := ⟨rfl, by simp [ptsL]⟩
theorem Good.valid {l : List Iv} {m : Nat} (h : Good l m) (hm : m ≤ 127) : validL l = true := by
  have := h.len
  unfold validL
  rw [h.ord, Bool.and_true, decide_eq_true_eq]
  omega
theorem Good.merge {op : Bool → Bool → Bool} {a b : List Iv} {m n : Nat} (ha : Good a m) (hb : Good b n) (hop : op false false = false) : Good (mergeL op a b) (m + n) := by
  obtain ⟨h1, h2, _⟩ := merge_spec op hop ha.ord hb.ord
  exact ⟨h1, by have := ha.pts; have := hb.pts; omega⟩
theorem Good.comb {op : Bool → Bool → Bool} {a b : List Iv} {m n : Nat} (ha : Good a m) (hb : Good b n) (hop : op false false = false) : Good (combR op a b) (m + n) := by
  rw [comb_merge op hop ha.ord hb.ord]
  exact ha.merge hb hop
theorem good_ivs {P : List Vl} (h : ascV P) (hv : ∀ v ∈ P, validV v = true) : Good (ivsOf P) P.length := ⟨ord_ivs P none h hv (fun y h => by cases h), by rw [pts_ivs]; exact Nat.le_refl _⟩
theorem good_from {v : Vl} (hv : validV v = true) : Good (fromL v).1 2 := by
  have e : (fromL v).1 = ivsOf [v] := by unfold fromL; rw [if_pos hv]; rfl
  rw [e]
  exact (good_ivs (List.pairwise_singleton _ _) (fun w hw => by
    have : w = v := by simpa using hw
    rw [this]; exact hv)).mono (by simp)
theorem good_between (a b : Vl) : Good (betweenL a b).1 2 := by
  unfold betweenL
  by_cases h : (validV a && validV b) = true
  · rw [if_pos h]
    rw [Bool.and_eq_true] at h
    by_cases hc : cmpV a b < 0
    · rw [if_pos hc]
      exact good_ivs (P := [a, b]) (List.pairwise_cons.2 ⟨fun w hw => by
        have : w = b := by simpa using hw
        rw [this]; exact hc, List.pairwise_singleton _ _⟩) (fun w hw => by
        rcases List.mem_cons.1 hw with rfl | hw
        · exact h.1
        · have : w = b := by simpa using hw
          rw [this]; exact h.2)
    · rw [if_neg hc]
      exact Good.nil 2
  · rw [if_neg h]
    exact Good.nil 2
theorem good_one {v : Vl} (hv : validV v = true) (hr : rngV v) : Good (oneL v).1 2 := by
  obtain ⟨h1, h2⟩ := nextV_good hv hr
  have e : (oneL v).1 = [⟨v, (nextV v).1, !(nextV v).2⟩] := by unfold oneL; rw [if_pos hv]
  rw [e]
  cases hb : (nextV v).2
  · rw [h2 hb]
    have := good_from hv
    unfold fromL at this
    rw [if_pos hv] at this
    exact this
  · obtain ⟨g1, g2, g3, _⟩ := h1 hb
    exact good_ivs (P := [v, (nextV v).1]) (List.pairwise_cons.2 ⟨fun w hw => by
        have : w = (nextV v).1 := by simpa using hw
        rw [this]; exact g3, List.pairwise_singleton _ _⟩) (fun w hw => by
        rcases List.mem_cons.1 hw with rfl | hw
        · exact hv
        · have : w = (nextV v).1 := by simpa using hw
          rw [this]; exact g1)
theorem good_all : Good allL 1 := ⟨by decide +kernel, by decide⟩
theorem opR_ff (k : Int) : opR k false false = false := by
  unfold opR
  repeat' split
  all_goals rfl
end Go.Proofs.YtmnmckblmoalkaaGreat

namespace Go.Proofs.YtmnmckblmoalkaaGreat
open Go.RowKit
set_option maxRecDepth 100000

theorem iv_ne {w : World} {g : Nat} {A : Option Addr} {n : Nat} {l : List Iv} (hc : CaseAt w g) (h : IvS w A n l) : 0 < n → ∀ b o, A = some ⟨b, o, none⟩ → ¬ b = g := by
  rintro hn b o hA rfl
  obtain ⟨A', n', c', k', zs, hB, _⟩ := hc.ex
  obtain ⟨b', o', x, hA', hx, hxc⟩ := h.at hn
  rw [hA] at hA'
  injection hA' with h1
  injection h1 with h1 h2
  subst h1 h2
  have c0 := hxc 0 _ rfl
  have c1 := hxc 1 _ rfl
  rw [hB.cell] at c0 c1
  simp only [Nat.zero_mul, Nat.add_zero] at c0 c1
  rcases o with _ | _ | o <;> simp at c0 c1
end Go.Proofs.YtmnmckblmoalkaaGreat
