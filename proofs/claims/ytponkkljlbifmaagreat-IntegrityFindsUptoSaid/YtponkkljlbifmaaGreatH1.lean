/-
  Texts: Base, Value, Mem, Region.
-/
import Derived.WalkKit
import Derived.WalkSpells
import Derived.WalkLawsBesides
import Derived.Deep.Draws
import Derived.Deep.AppendLies
import Derived.Lib.Hide
import Derived.Lib.Bytealg
import Derived.Test.YtponkkljlbifmaaGreatRows
import Derived.BigQuiet
import Derived.Deep.QuietTactic
import Derived.Maps.AppendAt
import Derived.OrdersHeld
set_option linter.unusedVariables false
/-
  Plain data of the program: a value, an interval; how they lie in cells; a slice that reads as a list. No program here.
-/
namespace Go.Proofs.YtponkkljlbifmaaGreat
open Go.RowKit
set_option maxRecDepth 100000

structure Vl where
  k : Int
  i : Int
  t : ByteArray
  deriving DecidableEq

structure Iv where
  f : Vl
  t : Vl
  o : Bool
  deriving DecidableEq

def Vl.cs (v : Vl) : List Value := [.int .i64 v.k, .int .i64 v.i, .string v.t]
def Iv.cs (x : Iv) : List Value := [.int .i64 x.f.k, .int .i64 x.f.i, .string x.f.t, .int .i64 x.t.k, .int .i64 x.t.i, .string x.t.t, .bool x.o]

def validV (v : Vl) : Bool :=
  if v.k = 1 ∨ v.k = 2 then (v.i == 0) && v.t.toList.isEmpty
  else if v.k = 3 then (v.i == 0 || v.i == 1) && v.t.toList.isEmpty
  else if v.k = 4 then v.t.toList.isEmpty
  else if v.k = 5 then (v.i == 0) && decide (v.t.size ≤ 64)
  else false

/-- the order of values: by kind, number, text -/
def cmpB : List UInt8 → List UInt8 → Int
  | [], [] => 0
  | [], _ :: _ => -1
  | _ :: _, [] => 1
  | a :: x, b :: y => if a < b then -1 else if b < a then 1 else cmpB x y

def cmpV (a b : Vl) : Int :=
  if a.k < b.k then -1 else if b.k < a.k then 1
  else if a.i < b.i then -1 else if b.i < a.i then 1
  else cmpB a.t.toList b.t.toList

theorem cmpB_lib : ∀ a b : List UInt8, Lib.compareBytes a b = cmpB a b
  | [], [] => rfl
  | [], _ :: _ => rfl
  | _ :: _, [] => rfl
  | a :: x, b :: y => by
    unfold Lib.compareBytes cmpB
    rw [cmpB_lib x y]
theorem cmpB_less : ∀ a b : List UInt8, Op.bytesLess a b = decide (cmpB a b < 0)
  | [], [] => by simp [Op.bytesLess, cmpB]
  | [], _ :: _ => by simp [Op.bytesLess, cmpB]
  | _ :: _, [] => by simp [Op.bytesLess, cmpB]
  | a :: x, b :: y => by
    have ih := cmpB_less x y
    unfold Op.bytesLess cmpB
    by_cases h1 : a < b
    · simp [h1]
    · by_cases h2 : b < a
      · have : a ≠ b := fun e => by subst e; exact h1 h2
        simp [h1, h2, this]
      · have : a = b := UInt8.le_antisymm (UInt8.not_lt.1 h2) (UInt8.not_lt.1 h1)
        simp [this, ih]
theorem cmpB_range : ∀ a b : List UInt8, cmpB a b = -1 ∨ cmpB a b = 0 ∨ cmpB a b = 1
  | [], [] => by simp [cmpB]
  | [], _ :: _ => by simp [cmpB]
  | _ :: _, [] => by simp [cmpB]
  | a :: x, b :: y => by
    have ih := cmpB_range x y
    unfold cmpB
    split
    · simp
    · split
      · simp
      · exact ih
theorem cmpB_anti : ∀ a b : List UInt8, cmpB b a = - cmpB a b
  | [], [] => by simp [cmpB]
  | [], _ :: _ => by simp [cmpB]
  | _ :: _, [] => by simp [cmpB]
  | a :: x, b :: y => by
    have ih := cmpB_anti x y
    unfold cmpB
    by_cases h1 : a < b
    · have h2 : ¬ b < a := UInt8.lt_asymm h1
      simp [h1, h2]
    · by_cases h2 : b < a
      · simp [h1, h2]
      · simp [h1, h2, ih]
theorem cmpB_zero : ∀ a b : List UInt8, cmpB a b = 0 ↔ a = b
  | [], [] => by simp [cmpB]
  | [], _ :: _ => by simp [cmpB]
  | _ :: _, [] => by simp [cmpB]
  | a :: x, b :: y => by
    have ih := cmpB_zero x y
    unfold cmpB
    by_cases h1 : a < b
    · have : a ≠ b := fun e => by subst e; exact UInt8.lt_irrefl _ h1
      simp [h1, this]
    · by_cases h2 : b < a
      · have : a ≠ b := fun e => by subst e; exact h1 h2
        simp [h1, h2, this]
      · have : a = b := UInt8.le_antisymm (UInt8.not_lt.1 h2) (UInt8.not_lt.1 h1)
        simp [this, ih]
theorem text_eq (a b : ByteArray) : a = b ↔ a.toList = b.toList := by
  constructor
  · intro e; rw [e]
  · intro e
    rw [ByteArray.toList_eq, ByteArray.toList_eq] at e
    exact ByteArray.ext (Array.toList_inj.1 e)
theorem cmpV_zero (a b : Vl) : cmpV a b = 0 ↔ a = b := by
  obtain ⟨k, i, t⟩ := a
  obtain ⟨k', i', t'⟩ := b
  unfold cmpV
  simp only [Vl.mk.injEq, text_eq]
  have := cmpB_zero t.toList t'.toList
  repeat' split
  all_goals first | omega | skip
  rw [this]
  constructor
  · intro h; exact ⟨by omega, by omega, h⟩
  · intro h; exact h.2.2
theorem cmpV_anti (a b : Vl) : cmpV b a = - cmpV a b := by
  have := cmpB_anti a.t.toList b.t.toList
  unfold cmpV
  repeat' split
  all_goals omega

def cmpI (a b : Int) : Int := if a < b then -1 else if b < a then 1 else 0
theorem cmpI_self (a : Int) : cmpI a a = 0 := by simp [cmpI]
theorem cmpB_self (a : List UInt8) : cmpB a a = 0 := (cmpB_zero a a).2 rfl
theorem cmpV_of (k i k' i' : Int) (t t' : ByteArray) : cmpV ⟨k, i, t⟩ ⟨k', i', t'⟩ = if cmpI k k' ≠ 0 then cmpI k k' else if cmpI i i' ≠ 0 then cmpI i i' else cmpB t.toList t'.toList := by
  unfold cmpV cmpI
  simp only
  repeat' split
  all_goals first | rfl | omega
theorem less_t {a b : List UInt8} (h : Op.bytesLess a b = true) : cmpB a b = -1 := by
  rw [cmpB_less] at h
  have := cmpB_range a b
  simp only [decide_eq_true_eq] at h
  omega
theorem less_f {a b : List UInt8} (h : Op.bytesLess a b = false) (h' : (!a == b) = true) : cmpB a b = 1 := by
  rw [cmpB_less] at h
  have h1 := cmpB_range a b
  have h2 : cmpB a b ≠ 0 := by
    intro e
    rw [cmpB_zero] at e
    subst e
    simp at h'
  simp only [decide_eq_false_iff_not] at h
  omega
theorem less_e {a b : List UInt8} (h' : (!a == b) = false) : cmpB a b = 0 := by
  simp only [Bool.not_eq_false', beq_iff_eq] at h'
  exact (cmpB_zero a b).2 h'

theorem ret_i64 {a b : Int} (h : a = b) : Ending.returned (.int .i64 a) = .returned (.int .i64 b) := by rw [h]
theorem ret_bool {a b : Bool} (h : a = b) : Ending.returned (.bool a) = .returned (.bool b) := by rw [h]

def zeroV : Vl := ⟨0, 0, ⟨#[]⟩⟩
/-- an interval, behind the interval p, is as a canonical list asks -/
def okI (p : Option Iv) (x : Iv) (last : Bool) : Bool :=
  validV x.f && (match p with | none => true | some y => decide (cmpV y.t x.f < 0)) &&
    (if x.o then last && decide (x.t = zeroV) else validV x.t && decide (cmpV x.f x.t < 0))
def ordFrom : Option Iv → List Iv → Bool
  | _, [] => true
  | p, x :: r => okI p x r.isEmpty && ordFrom (some x) r
theorem ordFrom_cons (p : Option Iv) (x : Iv) (r : List Iv) : ordFrom p (x :: r) = (okI p x r.isEmpty && ordFrom (some x) r) := rfl
def validL (l : List Iv) : Bool := decide (l.length ≤ 64) && ordFrom none l
theorem zero_text {t : ByteArray} : t = ⟨#[]⟩ ↔ t.toList = [] := by
  rw [text_eq, ByteArray.toList_eq ⟨#[]⟩]
end Go.Proofs.YtponkkljlbifmaaGreat

namespace Go.Proofs.YtponkkljlbifmaaGreat
open Go.RowKit
set_option maxRecDepth 100000

set_option maxHeartbeats 400000 in
theorem valid_any (v : Vl) (w : World) :
    Calls Tryz.prog 85 #[.agg #[.int .i64 v.k, .int .i64 v.i, .string v.t]] w fun e w' => e = .returned (.bool (validV v)) ∧ Below w.heap.size w w' := by
  obtain ⟨k, i, t⟩ := v
  go_enter Tryz.func85, Tryz.ntmps85
  go_wp2
  all_goals
    go_ret
    refine ⟨?_, by repeat (first | exact Below.refl _ _ | apply Below.drew | refine Below.alloc ?_ (by simp) _)⟩
    simp_all [validV]
    try omega

set_option maxHeartbeats 400000 in
theorem rvalid_any (v : Vl) (w : World) :
    Calls Tryz.prog 102 #[.agg #[.int .i64 v.k, .int .i64 v.i, .string v.t]] w fun e w' => e = .returned (.bool (validV v)) ∧ Below w.heap.size w w' := by
  obtain ⟨k, i, t⟩ := v
  go_enter Tryz.func102, Tryz.ntmps102
  go_wp2
  all_goals
    go_ret
    refine ⟨?_, by repeat (first | exact Below.refl _ _ | apply Below.drew | refine Below.alloc ?_ (by simp) _)⟩
    simp_all [validV]
    try omega

theorem cmpInt_any (a b : Int) (w : World) :
    Calls Tryz.prog 96 #[.int .i64 a, .int .i64 b] w fun e w' => e = .returned (.int .i64 (cmpI a b)) ∧ w = w' := by
  go_enter Tryz.func96, Tryz.ntmps96
  go_wp2
  all_goals
    go_ret
    refine ⟨?_, rfl⟩
    simp_all [cmpI]
    try (rw [if_neg (by omega), if_neg (by omega)])
theorem cmpInt64_any (a b : Int) (w : World) :
    Calls Tryz.prog 114 #[.int .i64 a, .int .i64 b] w fun e w' => e = .returned (.int .i64 (cmpI a b)) ∧ w = w' := by
  go_enter Tryz.func114, Tryz.ntmps114
  go_wp2
  all_goals
    go_ret
    refine ⟨?_, rfl⟩
    simp_all [cmpI]
    try (rw [if_neg (by omega), if_neg (by omega)])

theorem cmpStr_any (a b : ByteArray) (w : World) :
    Calls Tryz.prog 115 #[.string a, .string b] w fun e w' => e = .returned (.int .i64 (cmpB a.toList b.toList)) ∧ w = w' := by
  go_enter Tryz.func115, Tryz.ntmps115
  go_wp2
  rw [run_callFunc_extern Tryz.func156 (by kernel_rfl) (by kernel_rfl) (by kernel_rfl) (e := Extern.BytealgCompare.compare) (by kernel_rfl), Lib.run_compareString]
  simp only [Result.andThen]
  rw [Oper.upon_value]
  go_wp2
  go_ret
  exact ⟨ret_i64 (by rw [cmpB_lib, ByteArray.toList_eq, ByteArray.toList_eq]), rfl⟩

set_option maxHeartbeats 400000 in
theorem rcompare_any (a b : Vl) (w : World) :
    Calls Tryz.prog 65 #[.agg #[.int .i64 a.k, .int .i64 a.i, .string a.t], .agg #[.int .i64 b.k, .int .i64 b.i, .string b.t]] w fun e w' => e = .returned (.int .i64 (cmpV a b)) ∧ Below w.heap.size w w' := by
  obtain ⟨k, i, t⟩ := a
  obtain ⟨k', i', t'⟩ := b
  go_enter Tryz.func65, Tryz.ntmps65
  go_wp2
  all_goals
    go_ret
    refine ⟨ret_i64 ?_, by repeat (first | exact Below.refl _ _ | apply Below.drew | refine Below.alloc ?_ (by simp) _)⟩
    simp only [cmpV]
    first
      | (have hb := less_t ‹_›; rw [hb]; repeat' split)
      | (have hb := less_f ‹_› ‹_›; rw [hb]; repeat' split)
      | (have hb := less_e ‹_›; rw [hb]; repeat' split)
      | (repeat' split)
    all_goals omega

set_option maxHeartbeats 400000 in
theorem compare_any (a b : Vl) (w : World) :
    Calls Tryz.prog 87 #[.agg #[.int .i64 a.k, .int .i64 a.i, .string a.t], .agg #[.int .i64 b.k, .int .i64 b.i, .string b.t]] w fun e w' => e = .returned (.int .i64 (cmpV a b)) ∧ Below w.heap.size w w' := by
  obtain ⟨k, i, t⟩ := a
  obtain ⟨k', i', t'⟩ := b
  go_enter Tryz.func87, Tryz.ntmps87
  go_wp2_with (first
    | (go_at_call 96; refine (cmpInt_any _ _ _).mono ?_; rintro e w' ⟨rfl, rfl⟩)
    | (go_at_call 114; refine (cmpInt64_any _ _ _).mono ?_; rintro e w' ⟨rfl, rfl⟩)
    | (go_at_call 115; refine (cmpStr_any _ _ _).mono ?_; rintro e w' ⟨rfl, rfl⟩))
  all_goals
    go_ret
    refine ⟨ret_i64 ?_, by repeat (first | exact Below.refl _ _ | apply Below.drew | refine Below.alloc ?_ (by simp) _)⟩
    rw [cmpV_of]
    simp_all [cmpI_self, cmpB_self]

end Go.Proofs.YtponkkljlbifmaaGreat

/-
  Words for memory: what is kept, slices that read as lists, regions that draw their order beside calls that only make memory. No program here.
-/
namespace Go.Proofs.YtponkkljlbifmaaGreat
open Go.RowKit
set_option maxRecDepth 100000
set_option linter.unusedVariables false

/-- every cell that is there reads in w' as in w -/
def Keeps (w w' : World) : Prop := ∀ a, (w.cell? a).isSome = true → w'.cell? a = w.cell? a

theorem cell_lt {w : World} {a : Addr} (h : (w.cell? a).isSome = true) : a.block < w.heap.size := by
  unfold World.cell? at h
  rcases Nat.lt_or_ge a.block w.heap.size with hlt | hge
  · exact hlt
  · rw [Array.getElem?_eq_none hge] at h; simp at h
theorem Keeps.refl (w : World) : Keeps w w := fun _ _ => rfl
theorem Keeps.trans {a b c : World} (h : Keeps a b) (k : Keeps b c) : Keeps a c := fun x hx => by
  have e := h x hx
  rw [← e] at hx ⊢
  exact k x hx
theorem keeps_of {w w' : World} (hb : Below w.heap.size w w') : Keeps w w' := fun _ h => hb.cell (cell_lt h)
theorem Below.next {W0 wc w2 : World} (h : Below W0.heap.size W0 wc) (hb : Below wc.heap.size wc w2) : Below W0.heap.size W0 w2 := h.trans (hb.mono h.size)
theorem Keeps.drew {w w' : World} (h : Keeps w w') : Keeps w w'.drew := h
theorem Keeps.drewN {w w' : World} (h : Keeps w w') (n : Nat) : Keeps w (w'.drewN n) := h
theorem keeps_alloc (w : World) (o : Obj) : Keeps w (w.alloc o) := fun a h => World.cell?_alloc_lt w o a (cell_lt h)
theorem Keeps.alloc {w w' : World} (h : Keeps w w') (o : Obj) : Keeps w (w'.alloc o) := h.trans (keeps_alloc _ _)

/-- all later worlds of w: nothing that was there has changed -/
structure Later (w : World) where
  to : World
  below : Below w.heap.size w to
instance (w : World) : Nonempty (Later w) := ⟨⟨w, Below.refl _ _⟩⟩
instance (w : World) : Inhabited (Later w) := ⟨⟨w, Below.refl _ _⟩⟩
def after (w : World) (x : Later w) : World := x.to
theorem cell_after {w : World} (x : Later w) (a : Addr) (h : (w.cell? a).isSome = true) : (after w x).cell? a = w.cell? a := x.below.cell (cell_lt h)

section
variable {P : Program} {w : World}
theorem wpQuiet_imp {ops : Array Oper} {C : World → Prop} {Q Q' : Act → Prop} (hQ : ∀ a, Q a → Q' a) : ∀ (l : List Oper) (a : Act), wpQuiet P ops C Q l a → wpQuiet P ops C Q' l a
  | [], a, h => hQ a h
  | o :: rest, a, h => by
    unfold wpQuiet at h ⊢
    split
    · rename_i hw
      rw [if_pos hw] at h
      exact Oper.quiet_mono (fun a' h' => wpQuiet_imp hQ rest a' h') h
    · rename_i hw
      rw [if_neg hw] at h
      exact wpQuiet_imp hQ rest _ h
end

/-- the slice value with address A and n elements of sz cells each reads as the list l -/
def Sl {α : Type} (sz : Nat) (cs : α → List Value) (w : World) (A : Option Addr) (n : Nat) (l : List α) : Prop :=
  l.length = n ∧ (0 < n → ∃ b o, A = some ⟨b, o, none⟩ ∧ ∀ (k : Nat) (x : α), l[k]? = some x → ∀ (j : Nat) (u : Value), (cs x)[j]? = some u → w.cell? ⟨b, o + k * sz + j, none⟩ = some u)

section
variable {α : Type} {sz : Nat} {cs : α → List Value} {w w' : World} {A : Option Addr} {n : Nat} {l : List α}
theorem Sl.len (h : Sl sz cs w A n l) : l.length = n := h.1
theorem Sl.keep (h : Sl sz cs w A n l) (hk : Keeps w w') : Sl sz cs w' A n l := by
  refine ⟨h.1, fun hn => ?_⟩
  obtain ⟨b, o, e, hc⟩ := h.2 hn
  refine ⟨b, o, e, fun k x hx j u hu => ?_⟩
  have := hc k x hx j u hu
  rw [hk _ (by rw [this]; rfl)]
  exact this
theorem Sl.nil : Sl sz cs w A 0 ([] : List α) := ⟨rfl, fun h => absurd h (by omega)⟩
theorem Sl.at {k : Nat} (h : Sl sz cs w A n l) (hk : k < n) : ∃ b o x, A = some ⟨b, o, none⟩ ∧ l[k]? = some x ∧ ∀ (j : Nat) (u : Value), (cs x)[j]? = some u → w.cell? ⟨b, o + k * sz + j, none⟩ = some u := by
  obtain ⟨b, o, e, hc⟩ := h.2 (by omega)
  have hl := h.1
  exact ⟨b, o, l[k]'(by omega), e, List.getElem?_eq_getElem _, hc k _ (List.getElem?_eq_getElem _)⟩
end

theorem flat_at {α : Type} {sz : Nat} {cs : α → List Value} (hcs : ∀ x, (cs x).length = sz) : ∀ (l : List α) (k : Nat) (x : α) (j : Nat) (u : Value), l[k]? = some x → (cs x)[j]? = some u → (l.flatMap cs)[k * sz + j]? = some u
  | [], k, x, j, u, h, _ => by simp at h
  | y :: l, 0, x, j, u, h, hu => by
    simp only [List.getElem?_cons_zero, Option.some.injEq] at h
    subst h
    have hj : j < (cs y).length := (List.getElem?_eq_some_iff.1 hu).1
    rw [List.flatMap_cons, Nat.zero_mul, Nat.zero_add, List.getElem?_append_left hj, hu]
  | y :: l, k + 1, x, j, u, h, hu => by
    simp only [List.getElem?_cons_succ] at h
    have ih := flat_at hcs l k x j u h hu
    rw [List.flatMap_cons, List.getElem?_append_right (by rw [hcs, Nat.succ_mul]; omega), hcs, ← ih]
    congr 1
    rw [Nat.succ_mul]; omega
theorem flat_len {α : Type} {sz : Nat} {cs : α → List Value} (hcs : ∀ x, (cs x).length = sz) (l : List α) : (l.flatMap cs).length = l.length * sz := by
  induction l with
  | nil => simp
  | cons x l ih => rw [List.flatMap_cons, List.length_append, ih, hcs, List.length_cons, Nat.succ_mul]; omega
/-- a row of the call's own reads as a list -/
theorem Sl.of_own {α : Type} {sz : Nat} {cs : α → List Value} {w : World} {base : Nat} {e : TypeId} {A : Option Addr} {n c : Nat} {l : List α} (hcs : ∀ x, (cs x).length = sz) (hl : l.length = n)
    (h : w.ownsRow base e sz (.slice A n c) n (l.flatMap cs)) : Sl sz cs w A n l := by
  refine ⟨hl, fun hn => ?_⟩
  obtain ⟨g, cap, hv, _, hlt⟩ := h.form hn
  have hA : A = some ⟨g, 0, none⟩ := by injection hv
  subst hA
  refine ⟨g, 0, rfl, fun k x hx j u hu => ?_⟩
  have hc := h.cells (g := g) rfl (k * sz + j) u (flat_at hcs l k x j u hx hu)
  have hadd : (⟨g, 0, none⟩ : Addr).add (k * sz + j) = ⟨g, 0 + k * sz + j, none⟩ := by unfold Addr.add; split <;> simp_all
  rw [hadd] at hc
  exact hc
theorem Vl.cs_len (x : Vl) : (Vl.cs x).length = 3 := rfl
theorem Iv.cs_len (x : Iv) : (Iv.cs x).length = 7 := rfl
theorem one_vl (v : Vl) : ∀ u ∈ Vl.cs v, u.oneCell' = true := by simp [Vl.cs, Value.oneCell']
theorem own_base {w : World} {base : Nat} {e : TypeId} {size n : Nat} {v : Value} {xs : List Value} (h : w.ownsRow base e size v n xs) : ∀ k, v.ownBlock = some k → base ≤ k := by
  rcases h.2 with ⟨rfl, _⟩ | ⟨g, cap, cur, rfl, hg, _⟩
  · intro k hk; simp [Value.ownBlock] at hk
  · intro k hk
    simp only [Value.ownBlock, Option.some.injEq] at hk
    omega
theorem grown_of_alloc {W w' : World} {o : Obj} {row : Option Nat} (h : (W.alloc o).grownBy w' row) : W.grownBy w' row :=
  ⟨h.os, h.tape, h.output, Nat.le_trans (by simp) h.size, fun k hk hne => (h.block k (by simp; omega) hne).trans (Below.heap_alloc W o k hk)⟩
theorem Sl.lt {α : Type} {sz : Nat} {cs : α → List Value} {w : World} {A : Option Addr} {n : Nat} {l : List α} (hcs : ∀ x, (cs x).length = sz) (hsz : 0 < sz) (h : Sl sz cs w A n l) (hn : 0 < n) : ∀ b o, A = some ⟨b, o, none⟩ → b < w.heap.size := by
  intro b o hA
  obtain ⟨b', o', x, hA', hx, hc⟩ := h.at hn
  rw [hA] at hA'
  injection hA' with h1
  injection h1 with h1 h2
  have h3 : 0 < (cs x).length := by rw [hcs]; exact hsz
  have h4 := hc 0 _ (List.getElem?_eq_getElem h3)
  have := cell_lt (w := w) (a := ⟨b', o' + 0 * sz + 0, none⟩) (by rw [h4]; rfl)
  simp only at this
  omega
theorem own_at {w w' : World} {base : Nat} {e : TypeId} {size n : Nat} {v : Value} {xs : List Value} (h : w.ownsRow base e size v n xs) (hb : ∀ g, base ≤ g → g < w.heap.size → v.ownBlock = some g → w'.heap[g]? = w.heap[g]?) : w'.ownsRow base e size v n xs := by
  refine ⟨h.1, ?_⟩
  rcases h.2 with h2 | ⟨g, cap, cur, hv, hg, hh, r⟩
  · exact .inl h2
  · have hlt : g < w.heap.size := by
      rcases Nat.lt_or_ge g w.heap.size with hl | hl
      · exact hl
      · rw [Array.getElem?_eq_none hl] at hh; cases hh
    exact .inr ⟨g, cap, cur, hv, hg, by rw [hb g hg hlt (by rw [hv]; rfl)]; exact hh, r⟩

/-- the seven cells of an interval -/
structure IvAt (w : World) (b p : Nat) (x : Iv) : Prop where
  c0 : w.cell? ⟨b, p, none⟩ = some (.int .i64 x.f.k)
  c1 : w.cell? ⟨b, p + 1, none⟩ = some (.int .i64 x.f.i)
  c2 : w.cell? ⟨b, p + 2, none⟩ = some (.string x.f.t)
  c3 : w.cell? ⟨b, p + 3, none⟩ = some (.int .i64 x.t.k)
  c4 : w.cell? ⟨b, p + 4, none⟩ = some (.int .i64 x.t.i)
  c5 : w.cell? ⟨b, p + 5, none⟩ = some (.string x.t.t)
  c6 : w.cell? ⟨b, p + 6, none⟩ = some (.bool x.o)
structure VlAt (w : World) (b p : Nat) (x : Vl) : Prop where
  c0 : w.cell? ⟨b, p, none⟩ = some (.int .i64 x.k)
  c1 : w.cell? ⟨b, p + 1, none⟩ = some (.int .i64 x.i)
  c2 : w.cell? ⟨b, p + 2, none⟩ = some (.string x.t)
theorem IvAt.of {w : World} {b p : Nat} {x : Iv} (h : ∀ (j : Nat) (u : Value), (Iv.cs x)[j]? = some u → w.cell? ⟨b, p + j, none⟩ = some u) : IvAt w b p x :=
  ⟨h 0 _ rfl, h 1 _ rfl, h 2 _ rfl, h 3 _ rfl, h 4 _ rfl, h 5 _ rfl, h 6 _ rfl⟩
theorem VlAt.of {w : World} {b p : Nat} {x : Vl} (h : ∀ (j : Nat) (u : Value), (Vl.cs x)[j]? = some u → w.cell? ⟨b, p + j, none⟩ = some u) : VlAt w b p x :=
  ⟨h 0 _ rfl, h 1 _ rfl, h 2 _ rfl⟩
theorem keep_cell {w w' : World} (hk : Keeps w w') {a : Addr} {v : Value} (h : w.cell? a = some v) : w'.cell? a = some v := by
  rw [hk a (by rw [h]; rfl), h]
theorem VlAt.keep {w w' : World} {b p : Nat} {x : Vl} (h : VlAt w b p x) (hk : Keeps w w') : VlAt w' b p x :=
  ⟨keep_cell hk h.c0, keep_cell hk h.c1, keep_cell hk h.c2⟩
theorem IvAt.keep {w w' : World} {b p : Nat} {x : Iv} (h : IvAt w b p x) (hk : Keeps w w') : IvAt w' b p x :=
  ⟨keep_cell hk h.c0, keep_cell hk h.c1, keep_cell hk h.c2, keep_cell hk h.c3, keep_cell hk h.c4, keep_cell hk h.c5, keep_cell hk h.c6⟩
theorem cell_new (w : World) (cs : Array Value) (T : TypeId) (j : Nat) : (w.alloc (.cells cs T)).cell? ⟨w.heap.size, j, none⟩ = cs[j]? :=
  cell_of_row _ _ _ _ _ _ (heap_alloc_new w _)
theorem IvAt.new (w : World) (T : TypeId) (x : Iv) : IvAt (w.alloc (.cells #[.int .i64 x.f.k, .int .i64 x.f.i, .string x.f.t, .int .i64 x.t.k, .int .i64 x.t.i, .string x.t.t, .bool x.o] T)) w.heap.size 0 x :=
  ⟨by rw [cell_new]; rfl, by rw [cell_new]; rfl, by rw [cell_new]; rfl, by rw [cell_new]; rfl, by rw [cell_new]; rfl, by rw [cell_new]; rfl, by rw [cell_new]; rfl⟩
theorem VlAt.new (w : World) (T : TypeId) (x : Vl) : VlAt (w.alloc (.cells #[.int .i64 x.k, .int .i64 x.i, .string x.t] T)) w.heap.size 0 x :=
  ⟨by rw [cell_new]; rfl, by rw [cell_new]; rfl, by rw [cell_new]; rfl⟩
/-- block b is just these cells, none of them frozen -/
def Blk (w : World) (b : Nat) (T : TypeId) (cs : Array Value) : Prop := w.heap[b]? = some (.cells cs T (0, 0))
theorem Blk.new (w : World) (T : TypeId) (cs : Array Value) : Blk (w.alloc (.cells cs T)) w.heap.size T cs := heap_alloc_new w _
theorem Blk.lt {w : World} {b : Nat} {T : TypeId} {cs : Array Value} (h : Blk w b T cs) : b < w.heap.size := by
  rcases Nat.lt_or_ge b w.heap.size with hlt | hge
  · exact hlt
  · unfold Blk at h; rw [Array.getElem?_eq_none hge] at h; cases h
theorem Blk.cell {w : World} {b : Nat} {T : TypeId} {cs : Array Value} (h : Blk w b T cs) : ∀ j, w.cell? ⟨b, j, none⟩ = cs[j]? := fun j => cell_of_row w b j cs T (0, 0) h
theorem Blk.free {w : World} {b : Nat} {T : TypeId} {cs : Array Value} (h : Blk w b T cs) : ∀ j, w.frozen? ⟨b, j, none⟩ = false := fun j => by
  unfold Blk at h
  simp [World.frozen?, h]
theorem Blk.below {w w' : World} {b : Nat} {T : TypeId} {cs : Array Value} (h : Blk w b T cs) (hb : Below w.heap.size w w') : Blk w' b T cs := (hb.block b h.lt).trans h
theorem Blk.alloc {w : World} {b : Nat} {T : TypeId} {cs : Array Value} (h : Blk w b T cs) (o : Obj) : Blk (w.alloc o) b T cs := (Below.heap_alloc w o b h.lt).trans h
theorem Blk.drew {w : World} {b : Nat} {T : TypeId} {cs : Array Value} (h : Blk w b T cs) : Blk w.drew b T cs := h
theorem Blk.set_ {w : World} {b : Nat} {T : TypeId} {cs : Array Value} (h : Blk w b T cs) (i : Nat) (u : Value) : Blk (w.setCell ⟨b, i, none⟩ u) b T (cs.setIfInBounds i u) := by
  unfold Blk at h ⊢
  simp [World.setCell, Array.getElem?_modify, h]
theorem Blk.far {w : World} {b : Nat} {T : TypeId} {cs : Array Value} (h : Blk w b T cs) {p : Addr} (hp : b ≠ p.block) (u : Value) : Blk (w.setCell p u) b T cs := (Below.heap_setCell w p u b hp).trans h
theorem Blk.grown {w w' : World} {b : Nat} {T : TypeId} {cs : Array Value} {row : Option Nat} (h : Blk w b T cs) (hg : w.grownBy w' row) (hne : some b ≠ row) : Blk w' b T cs := (hg.block b h.lt hne).trans h
theorem blocks_at {w : World} {b : Nat} {T : TypeId} {cs : Array Value} {i : Nat} {u : Value} (h : Blk w b T cs) (hu : cs[i]? = some u) : w.cell? ⟨b, i, none⟩ = some u := by rw [h.cell, hu]
abbrev IvS (w : World) (A : Option Addr) (n : Nat) (l : List Iv) : Prop := Sl 7 Iv.cs w A n l
abbrev VlS (w : World) (A : Option Addr) (n : Nat) (l : List Vl) : Prop := Sl 3 Vl.cs w A n l

end Go.Proofs.YtponkkljlbifmaaGreat

/-
  A region that draws its order: operations that only compute or read may be taken in the order of the text between the operations with an effect, if the latter come up one at a time and change nothing that was there.
-/
namespace Go.Proofs.YtponkkljlbifmaaGreat
open Go.RowKit
set_option maxRecDepth 100000
set_option linter.unusedVariables false

/-- operations that only compute or read -/
def plainOp : Op → Bool
  | .move _ | .assign _ | .pick _ _ _ | .build _ _ | .load _ _ | .binOp _ _ _ _ _ | .unOp _ _ _ | .slice _ _ _ _ _ | .fieldAddr _ _ _ | .field _ _ _ | .indexAddr _ _ _ | .index _ _ _ | .extract _ _ | .convert _ _ _ | .lookup _ _ _ _ | .nilCheck _ => true
  | .call c => match c.callee with
    | .builtin .len => true
    | .builtin .min => true
    | .builtin .max => true
    | _ => false
  | _ => false

def gives (r : Result Next) : Prop := match r with
  | .ok (.value _) _ => True
  | .ok _ _ => False
  | .halt _ _ => True
theorem gives_v (s : Sem Value) (P : Program) (w : World) : gives ((do pure (Next.value (← s)) : Sem Next).run P w) := by
  rw [Sem.run_bind]
  generalize s.run P w = r
  cases r with
  | ok x w' => simp [Result.andThen, gives]
  | halt x w' => simp [Result.andThen, gives]
theorem gives_bind {α : Type} (s : Sem α) (f : α → Sem Next) (P : Program) (w : World) (h : ∀ a w', gives ((f a).run P w')) : gives ((s >>= f).run P w) := by
  rw [Sem.run_bind]
  generalize s.run P w = r
  cases r with
  | ok x w' => exact h x w'
  | halt x w' => simp [Result.andThen, gives]
theorem gives_then (r : Result Value) : gives (r.andThen fun a w' => Result.ok (Next.value a) w') := by
  cases r with
  | ok x w' => simp [Result.andThen, gives]
  | halt x w' => simp [Result.andThen, gives]
theorem gives_plain (o : Oper) (h : plainOp o.op = true) (ev : Operand → Value) (P : Program) (w : World) : gives ((execOp ev o).run P w) := by
  unfold execOp
  cases ho : o.op <;> rw [ho] at h <;> simp only [plainOp, Bool.false_eq_true] at h
  case call c =>
    obtain ⟨callee, args, argTypes⟩ := c
    simp only at h
    split at h
    · simp only [resolve, invoke, builtin, Sem.run_bind, Sem.run_pure, Result.andThen_ok]
      exact gives_then _
    · simp only [resolve, invoke, builtin, Sem.run_bind, Sem.run_pure, Result.andThen_ok]
      exact gives_then _
    · simp only [resolve, invoke, builtin, Sem.run_bind, Sem.run_pure, Result.andThen_ok]
      exact gives_then _
    · cases h
  case nilCheck x =>
    simp only
    split
    · simp [runtimePanic, goPanic, gives, go_sem]
    · simp [runtimePanic, goPanic, gives, go_sem]
    · simp [runtimePanic, goPanic, gives, go_sem]
    · split
      · simp [runtimePanic, goPanic, gives, go_sem]
      · repeat (refine gives_bind _ _ P _ (fun _ _ => ?_))
        first | (simp [gives]; done) | (split <;> (repeat (refine gives_bind _ _ P _ (fun _ _ => ?_))) <;> simp [gives])
      · simp [gives]
    · simp [gives]
  case move x => simp [gives]
  case assign x => simp [gives]
  case pick c a b =>
    rw [Sem.run_bind]
    generalize (asBool (ev c)).run P w = r
    cases r with
    | ok x w' => simp [Result.andThen, gives]
    | halt x w' => simp [Result.andThen, gives]
  all_goals exact gives_v _ P w

abbrev cls (w : World) : World → Prop := fun W => ∃ x : Later w, W = after w x
theorem cls_iff {w W : World} : cls w W ↔ Below w.heap.size w W := ⟨fun ⟨x, h⟩ => by rw [h]; exact x.below, fun h => ⟨⟨W, h⟩, rfl⟩⟩

section
variable {P : Program} {ops : Array Oper} {Q : Exit → Act → World → Prop} {md : Region.Mode}

def wpAnyB (P : Program) (md : Region.Mode) (ops : Array Oper) (Q : Exit → Act → World → Prop) : Nat → Array Bool → Act → World → Prop
  | 0, listed, a, w => Region.ready md ops listed = [] ∧ Q .normal a w
  | fuel + 1, listed, a, w =>
    (Region.ready md ops listed = [] → Q .normal a w) ∧
    ∀ i ∈ Region.ready md ops listed, wpOp P ops Q i (fun a' w' => Below w.heap.size w w' ∧ wpAnyB P md ops Q fuel (listed.setIfInBounds i true) a' w') a w

theorem wpAny_of_B : ∀ (fuel : Nat) (listed : Array Bool) (a : Act) (w : World), wpAnyB P md ops Q fuel listed a w → wpAny P md ops Q fuel listed a w
  | 0, _, _, _, h => h
  | fuel + 1, _, _, _, h => ⟨h.1, fun i hi => wpOp_mono (fun a' w' h' => wpAny_of_B fuel _ a' w' h'.2) (h.2 i hi)⟩

theorem YieldsIf.shrink {o : Oper} {v : Value} {a : Act} {S S' : World → Prop} (hS : ∀ W, S' W → S W) (h : YieldsIf P ops S o v a) : YieldsIf P ops S' o v a :=
  h.imp (fun ⟨hw, hv⟩ => ⟨hw, fun W hW => hv W (hS W hW)⟩) id

theorem wpAnyB_first {i : Nat} {oi : Oper} {v : Value} (hi : ops[i]? = some oi) (hsel : ∀ (j : Nat) (o : Oper) cs b, ops[j]? = some o → o.op ≠ .select cs b)
    (hQ : ∀ c a w, Q (.panic c) (a.put oi.dst v) w → Q (.panic c) a w) :
    ∀ (fuel : Nat) (listed : Array Bool) (a : Act) (w : World),
      (∀ j oj, ops[j]? = some oj → j ≠ i → listed.getD j true = false → (∀ e ∈ oj.after, Region.binds md e = true → e.on ≠ i) → oi.apart ops oj = true) →
      i ∈ Region.ready md ops listed → YieldsIf P ops (fun W => Below w.heap.size w W) oi v a →
      wpAnyB P md ops Q fuel (listed.setIfInBounds i true) (a.put oi.dst v) w → wpAnyB P md ops Q (fuel + 1) listed a w := by
  intro fuel
  induction fuel with
  | zero =>
    intro listed a w _ hr hy H
    refine ⟨fun h => (by rw [h] at hr; cases hr), fun j hj => ?_⟩
    by_cases hji : j = i
    · subst hji; exact hy.wpOp hi (Below.refl _ _) ⟨Below.refl _ _, H⟩
    · have := ready_mono hj hji
      rw [H.1] at this
      cases this
  | succ fuel ih =>
    intro listed a w hfree hr hy H
    refine ⟨fun h => (by rw [h] at hr; cases hr), fun j hj => ?_⟩
    by_cases hji : j = i
    · subst hji; exact hy.wpOp hi (Below.refl _ _) ⟨Below.refl _ _, H⟩
    · have h1 := H.2 j (ready_mono hj hji)
      obtain ⟨hjun, oj, hoj, hall⟩ := mem_ready.1 hj
      have hnot : ∀ e ∈ oj.after, Region.binds md e = true → e.on ≠ i := fun e he hb heq => by
        have h1 := hall e he hb
        have h0 := (mem_ready.1 hr).1
        rw [heq] at h1
        rcases Nat.lt_or_ge i listed.size with h' | h'
        · simp [h'] at h0 h1; rw [h0] at h1; cases h1
        · simp [Array.getElem?_eq_none h'] at h1
      have h2 := wpOp_putIf hoj (hfree j oj hoj hji hjun hnot) (fun cs b => hsel i oi cs b hi) (fun cs b => hsel j oj cs b hoj) hQ hy h1
      have hfree' : ∀ k ok, ops[k]? = some ok → k ≠ i → (listed.setIfInBounds j true).getD k true = false →
          (∀ e ∈ ok.after, Region.binds md e = true → e.on ≠ i) → oi.apart ops ok = true := fun k ok hk hki hun hno => by
        refine hfree k ok hk hki ?_ hno
        by_cases hjk : j = k
        · subst hjk; exact hjun
        · rw [getD_set_ne true hjk] at hun; exact hun
      refine wpOp_mono (fun a' w' h3 => ⟨h3.2.1, ih (listed.setIfInBounds j true) a' w' hfree' (ready_mono hr (Ne.symm hji)) (YieldsIf.shrink (fun W hW => Below.next h3.2.1 hW) h3.1) ?_⟩) h2
      rw [Array.setIfInBounds_comm _ _ hji]
      exact h3.2.2

def opAt (ops : Array Oper) (i : Nat) : Oper := (ops[i]?).getD ⟨none, .move (.const (.bool false)), 0, "", #[], none⟩
def pickOps (ops : Array Oper) (l : List Nat) : List Oper := l.map (opAt ops)

/-- blocks of operations that only read, each ended by one with an effect; the last block has none -/
def wpSeg (P : Program) (ops : Array Oper) (Q : Exit → Act → World → Prop) : List (List Nat × Nat) → List Nat → Act → World → Prop
  | [], last, a, w => wpQuiet P ops (cls w) (fun a' => Q .normal a' w) (pickOps ops last) a
  | (qs, e) :: r, last, a, w => wpQuiet P ops (cls w) (fun a' => wpOp P ops Q e (fun a'' w' => Below w.heap.size w w' ∧ wpSeg P ops Q r last a'' w') a' w) (pickOps ops qs) a

def plainAt (ops : Array Oper) (i : Nat) : Bool := match ops[i]? with
  | some o => plainOp o.op
  | none => false
/-- the operations of a block may come up in this order -/
def checkQ (ops : Array Oper) : List Nat → Array Bool → Option (Array Bool)
  | [], listed => some listed
  | i :: r, listed => if plainAt ops i && (Region.ready .any ops listed).contains i && Region.free .any ops listed i then checkQ ops r (listed.setIfInBounds i true) else none
def checkS (ops : Array Oper) : List (List Nat × Nat) → List Nat → Array Bool → Bool
  | [], last, listed => match checkQ ops last listed with
    | some l => (Region.ready .any ops l).isEmpty
    | none => false
  | (qs, e) :: r, last, listed => match checkQ ops qs listed with
    | some l => (Region.ready .any ops l == [e]) && checkS ops r last (l.setIfInBounds e true)
    | none => false

theorem quiet_block (hns : Region.noSelect ops = true) (hQ : ∀ c a d v w, Q (.panic c) (Act.put a d v) w → Q (.panic c) a w) {K : Act → Prop} {w : World} {fuel : Nat} {l' : Array Bool}
    (hK : ∀ a, K a → wpAnyB P .any ops Q fuel l' a w) :
    ∀ (qs : List Nat) (listed : Array Bool) (a : Act), checkQ ops qs listed = some l' → wpQuiet P ops (cls w) K (pickOps ops qs) a → wpAnyB P .any ops Q (qs.length + fuel) listed a w
  | [], listed, a, hc, h => by
    simp only [checkQ, Option.some.injEq] at hc
    subst hc
    simp only [List.length_nil, Nat.zero_add]
    exact hK a h
  | i :: r, listed, a, hc, h => by
    unfold checkQ at hc
    split at hc
    · rename_i hcond
      simp only [Bool.and_eq_true] at hcond
      obtain ⟨⟨hp, hr⟩, hf⟩ := hcond
      cases hi : ops[i]? with
      | none => simp [plainAt, hi] at hp
      | some o =>
        simp only [plainAt, hi] at hp
        have hpick : pickOps ops (i :: r) = o :: pickOps ops r := by simp [pickOps, opAt, hi]
        rw [hpick] at h
        unfold wpQuiet at h
        have hlen : (i :: r).length + fuel = (r.length + fuel) + 1 := by simp; omega
        rw [hlen]
        by_cases hw : Region.wanted o (yielded ops a.tmps) = true
        · rw [if_pos hw] at h
          obtain ⟨v, h1, h2⟩ := h
          refine wpAnyB_first hi (Region.noSelect_spec hns) (fun c a w => hQ c a _ _ w) _ listed a w (Region.free_spec hi hf) (by simpa using hr) (v := v) (.inl ⟨hw, fun W hW => ?_⟩) (quiet_block hns hQ hK r _ _ hc h2)
          have h3 := h1 W (cls_iff.2 hW)
          have hg := gives_plain o hp a.eval P W
          unfold Oper.quietAt at h3
          generalize (execOp a.eval o).run P W = res at *
          cases res with
          | ok n w' =>
            cases n <;> simp only [Oper.quietUpon] at h3 <;> simp only [gives] at hg
            obtain ⟨e1, e2⟩ := h3
            rw [e1, e2]
          | halt x w' => simp only [Oper.quietUpon] at h3
        · rw [if_neg hw] at h
          exact wpAnyB_first hi (Region.noSelect_spec hns) (fun c a w => hQ c a _ _ w) _ listed a w (Region.free_spec hi hf) (by simpa using hr) (v := undef) (.inr ⟨by simpa using hw, rfl⟩) (quiet_block hns hQ hK r _ _ hc h)
    · cases hc

def segLen : List (List Nat × Nat) → List Nat → Nat
  | [], last => last.length
  | (qs, _) :: r, last => qs.length + (segLen r last + 1)

theorem seg_any (hns : Region.noSelect ops = true) (hQ : ∀ c a d v w, Q (.panic c) (Act.put a d v) w → Q (.panic c) a w) (last : List Nat) :
    ∀ (segs : List (List Nat × Nat)) (listed : Array Bool) (a : Act) (w : World), checkS ops segs last listed = true → wpSeg P ops Q segs last a w → wpAnyB P .any ops Q (segLen segs last) listed a w
  | [], listed, a, w, hc, h => by
    unfold checkS at hc
    split at hc
    · rename_i l hl
      exact quiet_block hns hQ (fuel := 0) (fun a' h' => ⟨by simpa using hc, h'⟩) last listed a hl h
    · cases hc
  | (qs, e) :: r, listed, a, w, hc, h => by
    unfold checkS at hc
    split at hc
    · rename_i l hl
      simp only [Bool.and_eq_true, beq_iff_eq] at hc
      refine quiet_block hns hQ (fuel := segLen r last + 1) (fun a' h' => ?_) qs listed a hl h
      refine ⟨fun h0 => (by rw [hc.1] at h0; cases h0), fun i hi => ?_⟩
      rw [hc.1] at hi
      have hie : i = e := by simpa using hi
      subst hie
      exact wpOp_mono (fun a'' w' ⟨hb, h''⟩ => ⟨hb, seg_any hns hQ last r _ a'' w' hc.2 h''⟩) h'
    · cases hc

theorem op_of_list {o : Oper} {e : Nat} {K : Act → World → Prop} {a : Act} {w : World} (he : ops[e]? = some o) (h : wpList P ops (Exit.then K Q) [o] a w) : wpOp P ops Q e K a w := by
  unfold wpOp
  rw [he]
  simp only
  unfold wpList at h
  split
  · rename_i hw
    rw [if_pos hw] at h
    rcases h with h | ⟨h1, h2⟩
    · left
      unfold Oper.wp at h ⊢
      generalize (execOp a.eval o).run P w = r at *
      cases r with
      | ok n w' =>
        cases n <;> simp only [Oper.upon] at h ⊢ <;> exact h
      | halt x w' => cases x <;> simp only [Oper.upon] at h ⊢; exact h
    · exact .inr ⟨h1, h2⟩
  · rename_i hw
    rw [if_neg hw] at h
    exact h

/-- the blocks, the operations themselves -/
def wpBlocks (P : Program) (ops : Array Oper) (Q : Exit → Act → World → Prop) : List (List Oper × Oper) → List Oper → Act → World → Prop
  | [], last, a, w => wpQuiet P ops (fun W => ∃ x : Later w, W = after w x) (fun a' => Q .normal a' w) last a
  | (qs, e) :: r, last, a, w => wpQuiet P ops (fun W => ∃ x : Later w, W = after w x) (fun a' => wpList P ops (Exit.then (fun a'' w' => Below w.heap.size w w' ∧ wpBlocks P ops Q r last a'' w') Q) [e] a' w) qs a

def pickSegs (ops : Array Oper) : List (List Nat × Nat) → List (List Oper × Oper)
  | [] => []
  | (qs, e) :: r => (pickOps ops qs, opAt ops e) :: pickSegs ops r
theorem seg_of_blocks (last : List Nat) : ∀ (segs : List (List Nat × Nat)) (a : Act) (w : World), segs.all (fun s => decide (s.2 < ops.size)) = true → wpBlocks P ops Q (pickSegs ops segs) (pickOps ops last) a w → wpSeg P ops Q segs last a w
  | [], a, w, _, h => h
  | (qs, e) :: r, a, w, hl, h => by
    simp only [List.all_cons, Bool.and_eq_true, decide_eq_true_eq] at hl
    have he : ops[e]? = some (opAt ops e) := by
      unfold opAt
      rw [Array.getElem?_eq_getElem hl.1]
      rfl
    unfold pickSegs wpBlocks at h
    unfold wpSeg
    refine wpQuiet_imp (fun a' h' => ?_) _ _ h
    refine wpOp_mono (fun a'' w' ⟨hb, h''⟩ => ⟨hb, seg_of_blocks last r a'' w' hl.2 h''⟩) (op_of_list he h')

/-- THE LAW. 'segs', 'last': the order (numbers of operations); the check by kernel_rfl. -/
theorem wp_region_seg {id : Nat} {a : Act} {w : World} {l : List Oper} (segs : List (List Nat × Nat)) (last : List Nat) (hm : P.follows .mixedOrders = true)
    (hc : (Region.noSelect l.toArray && (checkS l.toArray segs last (Array.replicate l.toArray.size false) && (decide (segLen segs last = l.toArray.size) && segs.all (fun s => decide (s.2 < l.toArray.size))))) = true)
    (hQ : ∀ c a d v w, Q (.panic c) (Act.put a d v) w → Q (.panic c) a w)
    (h : wpBlocks P l.toArray Q (pickSegs l.toArray segs) (pickOps l.toArray last) a w.drew) : (Code.region id l.toArray true).wp P Q a w := by
  simp only [Bool.and_eq_true, decide_eq_true_eq] at hc
  refine wp_region_any hm ?_
  have h1 := seg_any hc.1 hQ last segs _ a _ hc.2.1 (seg_of_blocks last segs a _ hc.2.2.2 h)
  rw [hc.2.2.1] at h1
  exact wpAny_of_B _ _ _ _ h1
end
end Go.Proofs.YtponkkljlbifmaaGreat
