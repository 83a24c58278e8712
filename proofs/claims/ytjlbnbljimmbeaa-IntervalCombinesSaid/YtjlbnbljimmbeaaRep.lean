/-
  Lists that stand for sets of values; the law's own and, or, not; two lists that are the same.
-/
import Derived.Test.YtjlbnbljimmbeaaCInt
import Derived.Test.YtjlbnbljimmbeaaMakes
namespace Go.Proofs.Ytjlbnbljimmbeaa
open Go.RowKit

/-- l is canonical, has at most m points, and contains the valid values of f -/
structure Rep (l : List Iv) (f : Vl → Bool) (m : Nat) : Prop where
  good : Good l m
  eq : ∀ v, validV v = true → inL l v = f v
theorem Good.rep {l : List Iv} {m : Nat} (h : Good l m) : Rep l (inL l) m := ⟨h, fun _ _ => rfl⟩
theorem comb_good {op : Bool → Bool → Bool} {a b : List Iv} {m n : Nat} (ha : Good a m) (hb : Good b n) (hop : op false false = false) (hmn : m + n ≤ 127) : combineL op a b = (mergeL op a b, 0) := by
  have hg := ha.merge hb hop
  have hl := hg.len
  unfold combineL
  rw [ha.valid (by omega), hb.valid (by omega)]
  simp only [Bool.and_self, if_true]
  rw [if_pos (by omega)]
theorem Rep.op {o : Bool → Bool → Bool} {a b : List Iv} {f g : Vl → Bool} {m n : Nat} (ha : Rep a f m) (hb : Rep b g n) (hop : o false false = false) (hmn : m + n ≤ 127) : Rep (combineL o a b).1 (fun v => o (f v) (g v)) (m + n) := by
  rw [comb_good ha.good hb.good hop hmn]
  refine ⟨ha.good.merge hb.good hop, fun v hv => ?_⟩
  show inL (mergeL o a b) v = _
  rw [(merge_spec o hop ha.good.ord hb.good.ord).2.2 v, ha.eq v hv, hb.eq v hv]
theorem Rep.err {o : Bool → Bool → Bool} {a b : List Iv} {f g : Vl → Bool} {m n : Nat} (ha : Rep a f m) (hb : Rep b g n) (hop : o false false = false) (hmn : m + n ≤ 127) : (combineL o a b).2 = 0 := by
  rw [comb_good ha.good hb.good hop hmn]
theorem Rep.ext {a b : List Iv} {f g : Vl → Bool} {m n : Nat} (ha : Rep a f m) (hb : Rep b g n) (h : ∀ v, f v = g v) : a = b :=
  ord_ext ha.good.ord hb.good.ord fun v hv => by rw [ha.eq v hv, hb.eq v hv, h v]
theorem all_le (v : Vl) (hv : validV v = true) : inL allL v = true := by
  have h : cmpV ⟨1, 0, ⟨#[]⟩⟩ v ≤ 0 := by
    rcases valid_eq hv with ⟨a1, a2, a3⟩ | ⟨a1, a2, a3⟩ | ⟨a1, a2, a3⟩ | ⟨a1, a3⟩ | ⟨a1, a2, a3⟩
    · rw [cmpV_text a1.symm a2.symm]; exact nil_le _
    all_goals (rw [cmpV_kind (by simp only; omega)]; omega)
  simp [allL, inL, inI, h]
theorem Rep.all : Rep allL (fun _ => true) 1 := ⟨good_all, all_le⟩
theorem Rep.none : Rep [] (fun _ => false) 0 := ⟨Good.nil 0, fun _ _ => rfl⟩
theorem Rep.empty {l : List Iv} {f : Vl → Bool} {m : Nat} (h : Rep l f m) (hf : ∀ v, f v = false) : l = [] := h.ext Rep.none hf
theorem Rep.len {l : List Iv} {f : Vl → Bool} {m : Nat} (h : Rep l f m) (hm : m ≤ 1000) : l.length ≤ 1000000 := by
  have := h.good.len
  omega
theorem covers_good {a b : List Iv} {m n : Nat} (ha : Good a m) (hb : Good b n) (hm : m ≤ 127) (hn : n ≤ 127) : coversL a b = ((mergeL opM b a).isEmpty, 0) := by
  unfold coversL
  rw [ha.valid hm, hb.valid hn]
  rfl
theorem merge_empty {a b : List Iv} {m n : Nat} (ha : Good a m) (hb : Good b n) : (mergeL opM a b).isEmpty = true ↔ ∀ v, validV v = true → inL a v = true → inL b v = true := by
  obtain ⟨h1, _, h3⟩ := merge_spec opM rfl ha.ord hb.ord
  constructor
  · intro he v _ hv
    have e : mergeL opM a b = [] := by simpa using he
    have := h3 v
    rw [e, hv] at this
    cases hb : inL b v
    · rw [hb] at this
      simp [opM, inL] at this
    · rfl
  · intro h
    have : mergeL opM a b = [] := ord_ext h1 rfl fun v hv => by
      rw [h3 v]
      have h5 := h v hv
      show opM (inL a v) (inL b v) = false
      generalize inL a v = x at *
      generalize inL b v = y at *
      cases x <;> cases y <;> simp_all [opM]
    rw [this]
    rfl
/-- two canonical lists that cover one another are the same -/
theorem covers_both {a b : List Iv} {m n : Nat} (ha : Good a m) (hb : Good b n) : ((mergeL opM b a).isEmpty && (mergeL opM a b).isEmpty) = decide (a = b) := by
  rw [Bool.eq_iff_iff, Bool.and_eq_true, merge_empty ha hb, merge_empty hb ha, decide_eq_true_eq]
  constructor
  · rintro ⟨h1, h2⟩
    refine ord_ext ha.ord hb.ord fun v hv => ?_
    have := h1 v hv
    have := h2 v hv
    cases e1 : inL a v <;> cases e2 : inL b v <;> simp_all
  · rintro rfl
    exact ⟨fun _ _ h => h, fun _ _ h => h⟩
theorem same_eq {A B : Option Addr} {n m ca cb : Nat} {la lb : List Iv} {w : World} (hA : IvS w A n la) (hB : IvS w B m lb) (hl : la.length ≤ 1000000) (he : la = lb) :
    Calls Try.prog 22 #[.slice A n ca, .slice B m cb] w fun e w' => e = .returned (.bool true) ∧ Below w.heap.size w w' := by
  subst he
  exact same_self hA hB hl

theorem and_any (A B : Option Addr) (n m ca cb : Nat) (la lb : List Iv) (w : World) (hA : IvS w A n la) (hB : IvS w B m lb) :
    Calls Try.prog 25 #[.slice A n ca, .slice B m cb] w fun e w' => IvLst w (combineL opI la lb).1 e w' := by
  have HA := Lib.hid hA
  have HB := Lib.hid hB
  clear hA hB
  go_enter Try.func25, Try.ntmps25
  go_wp2_with fail
  refine (intersect_any A B n m ca cb la lb _ HA.out HB.out).mono ?_
  rintro e w1 ⟨A1, c1, rfl, hS1, hb1⟩
  have HS := Lib.hid hS1
  clear hS1
  go_wp2
  go_ret
  exact ⟨A1, c1, rfl, HS.out, hb1⟩
theorem or_any (A B : Option Addr) (n m ca cb : Nat) (la lb : List Iv) (w : World) (hA : IvS w A n la) (hB : IvS w B m lb) :
    Calls Try.prog 24 #[.slice A n ca, .slice B m cb] w fun e w' => IvLst w (combineL opU la lb).1 e w' := by
  have HA := Lib.hid hA
  have HB := Lib.hid hB
  clear hA hB
  go_enter Try.func24, Try.ntmps24
  go_wp2_with fail
  refine (union_any A B n m ca cb la lb _ HA.out HB.out).mono ?_
  rintro e w1 ⟨A1, c1, rfl, hS1, hb1⟩
  have HS := Lib.hid hS1
  clear hS1
  go_wp2
  go_ret
  exact ⟨A1, c1, rfl, HS.out, hb1⟩
theorem not_any (A : Option Addr) (n ca : Nat) (la : List Iv) (w : World) (hA : IvS w A n la) :
    Calls Try.prog 23 #[.slice A n ca] w fun e w' => IvLst w (combineL opM allL la).1 e w' := by
  have HA := Lib.hid hA
  clear hA
  go_enter Try.func23, Try.ntmps23
  go_wp2_with fail
  refine (complement_any A n ca la _ HA.out).mono ?_
  rintro e w1 ⟨A1, c1, rfl, hS1, hb1⟩
  have HS := Lib.hid hS1
  clear hS1
  go_wp2
  go_ret
  exact ⟨A1, c1, rfl, HS.out, hb1⟩
end Go.Proofs.Ytjlbnbljimmbeaa
