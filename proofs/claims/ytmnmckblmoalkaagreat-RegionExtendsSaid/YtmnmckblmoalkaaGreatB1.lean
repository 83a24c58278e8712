/-
  Texts: Base, OrdV, Value, Mem.
-/
import Derived.WalkKit
import Derived.WalkSpells
import Derived.WalkLawsBesides
import Derived.Deep.Draws
import Derived.Deep.AppendLies
import Derived.Lib.Hide
import Derived.Lib.Bytealg
import Derived.Test.YtmnmckblmoalkaaGreatRows
import Derived.BigQuiet
import Derived.Deep.QuietTactic
import Derived.Maps.AppendAt
set_option linter.unusedVariables false
/-
  Plain data of the program: a value, an interval; how they lie in cells; a slice that reads as a list. No program here.
-/
namespace Go.Proofs.YtmnmckblmoalkaaGreat
open Go.RowKit
set_option maxRecDepth 100000

structure Vl where
  k : Int
  i : Int
  t : ByteArray
  deriving DecidableEq

structure Iv where
  f : Vl
  t : Vl
  o : Bool
  deriving DecidableEq

def Vl.cs (v : Vl) : List Value := [.int .i64 v.k, .int .i64 v.i, .string v.t]
def Iv.cs (x : Iv) : List Value := [.int .i64 x.f.k, .int .i64 x.f.i, .string x.f.t, .int .i64 x.t.k, .int .i64 x.t.i, .string x.t.t, .bool x.o]

def validV (v : Vl) : Bool :=
  if v.k = 1 ∨ v.k = 2 then (v.i == 0) && v.t.toList.isEmpty
  else if v.k = 3 then (v.i == 0 || v.i == 1) && v.t.toList.isEmpty
  else if v.k = 4 then v.t.toList.isEmpty
  else if v.k = 5 then (v.i == 0) && decide (v.t.size ≤ 64)
  else false

/-- the order of values: by kind, number, text -/
def cmpB : List UInt8 → List UInt8 → Int
  | [], [] => 0
  | [], _ :: _ => -1
  | _ :: _, [] => 1
  | a :: x, b :: y => if a < b then -1 else if b < a then 1 else cmpB x y

def cmpV (a b : Vl) : Int :=
  if a.k < b.k then -1 else if b.k < a.k then 1
  else if a.i < b.i then -1 else if b.i < a.i then 1
  else cmpB a.t.toList b.t.toList

theorem cmpB_lib : ∀ a b : List UInt8, Lib.compareBytes a b = cmpB a b
  | [], [] => rfl
  | [], _ :: _ => rfl
  | _ :: _, [] => rfl
  | a :: x, b :: y => by
    unfold Lib.compareBytes cmpB
    rw [cmpB_lib x y]
theorem cmpB_less : ∀ a b : List UInt8, Op.bytesLess a b = decide (cmpB a b < 0)
  | [], [] => by simp [Op.bytesLess, cmpB]
  | [], _ :: _ => by simp [Op.bytesLess, cmpB]
  | _ :: _, [] => by simp [Op.bytesLess, cmpB]
  | a :: x, b :: y => by
    have ih := cmpB_less x y
    unfold Op.bytesLess cmpB
    by_cases h1 : a < b
    · simp [h1]
    · by_cases h2 : b < a
      · have : a ≠ b := fun e => by subst e; exact h1 h2
        simp [h1, h2, this]
      · have : a = b := UInt8.le_antisymm (UInt8.not_lt.1 h2) (UInt8.not_lt.1 h1)
        simp [this, ih]
theorem cmpB_range : ∀ a b : List UInt8, cmpB a b = -1 ∨ cmpB a b = 0 ∨ cmpB a b = 1
  | [], [] => by simp [cmpB]
  | [], _ :: _ => by simp [cmpB]
  | _ :: _, [] => by simp [cmpB]
  | a :: x, b :: y => by
    have ih := cmpB_range x y
    unfold cmpB
    split
    · simp
    · split
      · simp
      · exact ih
theorem cmpB_anti : ∀ a b : List UInt8, cmpB b a = - cmpB a b
  | [], [] => by simp [cmpB]
  | [], _ :: _ => by simp [cmpB]
  | _ :: _, [] => by simp [cmpB]
  | a :: x, b :: y => by
    have ih := cmpB_anti x y
    unfold cmpB
    by_cases h1 : a < b
    · have h2 : ¬ b < a := UInt8.lt_asymm h1
      simp [h1, h2]
    · by_cases h2 : b < a
      · simp [h1, h2]
      · simp [h1, h2, ih]
theorem cmpB_zero : ∀ a b : List UInt8, cmpB a b = 0 ↔ a = b
  | [], [] => by simp [cmpB]
  | [], _ :: _ => by simp [cmpB]
  | _ :: _, [] => by simp [cmpB]
  | a :: x, b :: y => by
    have ih := cmpB_zero x y
    unfold cmpB
    by_cases h1 : a < b
    · have : a ≠ b := fun e => by subst e; exact UInt8.lt_irrefl _ h1
      simp [h1, this]
    · by_cases h2 : b < a
      · have : a ≠ b := fun e => by subst e; exact h1 h2
        simp [h1, h2, this]
      · have : a = b := UInt8.le_antisymm (UInt8.not_lt.1 h2) (UInt8.not_lt.1 h1)
        simp [this, ih]
theorem text_eq (a b : ByteArray) : a = b ↔ a.toList = b.toList := by
  constructor
  · intro e; rw [e]
  · intro e
    rw [ByteArray.toList_eq, ByteArray.toList_eq] at e
    exact ByteArray.ext (Array.toList_inj.1 e)
theorem cmpV_zero (a b : Vl) : cmpV a b = 0 ↔ a = b := by
  obtain ⟨k, i, t⟩ := a
  obtain ⟨k', i', t'⟩ := b
  unfold cmpV
  simp only [Vl.mk.injEq, text_eq]
  have := cmpB_zero t.toList t'.toList
  repeat' split
  all_goals first | omega | skip
  rw [this]
  constructor
  · intro h; exact ⟨by omega, by omega, h⟩
  · intro h; exact h.2.2
theorem cmpV_range (a b : Vl) : cmpV a b = -1 ∨ cmpV a b = 0 ∨ cmpV a b = 1 := by
  have := cmpB_range a.t.toList b.t.toList
  unfold cmpV
  repeat' split
  all_goals omega
theorem cmpV_anti (a b : Vl) : cmpV b a = - cmpV a b := by
  have := cmpB_anti a.t.toList b.t.toList
  unfold cmpV
  repeat' split
  all_goals omega

def cmpI (a b : Int) : Int := if a < b then -1 else if b < a then 1 else 0
theorem cmpI_self (a : Int) : cmpI a a = 0 := by simp [cmpI]
theorem cmpB_self (a : List UInt8) : cmpB a a = 0 := (cmpB_zero a a).2 rfl
theorem cmpV_of (k i k' i' : Int) (t t' : ByteArray) : cmpV ⟨k, i, t⟩ ⟨k', i', t'⟩ = if cmpI k k' ≠ 0 then cmpI k k' else if cmpI i i' ≠ 0 then cmpI i i' else cmpB t.toList t'.toList := by
  unfold cmpV cmpI
  simp only
  repeat' split
  all_goals first | rfl | omega
theorem less_t {a b : List UInt8} (h : Op.bytesLess a b = true) : cmpB a b = -1 := by
  rw [cmpB_less] at h
  have := cmpB_range a b
  simp only [decide_eq_true_eq] at h
  omega
theorem less_f {a b : List UInt8} (h : Op.bytesLess a b = false) (h' : (!a == b) = true) : cmpB a b = 1 := by
  rw [cmpB_less] at h
  have h1 := cmpB_range a b
  have h2 : cmpB a b ≠ 0 := by
    intro e
    rw [cmpB_zero] at e
    subst e
    simp at h'
  simp only [decide_eq_false_iff_not] at h
  omega
theorem less_e {a b : List UInt8} (h' : (!a == b) = false) : cmpB a b = 0 := by
  simp only [Bool.not_eq_false', beq_iff_eq] at h'
  exact (cmpB_zero a b).2 h'

theorem ret_i64 {a b : Int} (h : a = b) : Ending.returned (.int .i64 a) = .returned (.int .i64 b) := by rw [h]
theorem ret_bool {a b : Bool} (h : a = b) : Ending.returned (.bool a) = .returned (.bool b) := by rw [h]

def zeroV : Vl := ⟨0, 0, ⟨#[]⟩⟩
/-- an interval, behind the interval p, is as a canonical list asks -/
def okI (p : Option Iv) (x : Iv) (last : Bool) : Bool :=
  validV x.f && (match p with | none => true | some y => decide (cmpV y.t x.f < 0)) &&
    (if x.o then last && decide (x.t = zeroV) else validV x.t && decide (cmpV x.f x.t < 0))
def ordFrom : Option Iv → List Iv → Bool
  | _, [] => true
  | p, x :: r => okI p x r.isEmpty && ordFrom (some x) r
theorem ordFrom_cons (p : Option Iv) (x : Iv) (r : List Iv) : ordFrom p (x :: r) = (okI p x r.isEmpty && ordFrom (some x) r) := rfl
def validL (l : List Iv) : Bool := decide (l.length ≤ 64) && ordFrom none l
def prevI (l : List Iv) : Nat → Option Iv
  | 0 => none
  | k + 1 => l[k]?
theorem zero_text {t : ByteArray} : t = ⟨#[]⟩ ↔ t.toList = [] := by
  rw [text_eq, ByteArray.toList_eq ⟨#[]⟩]
def prevOk (p : Option Iv) (v : Vl) : Bool := match p with | none => true | some y => decide (cmpV y.t v < 0)
theorem okI_eq (p : Option Iv) (fk fi tk ti : Int) (ft tt : ByteArray) (xo last : Bool) : okI p ⟨⟨fk, fi, ft⟩, ⟨tk, ti, tt⟩, xo⟩ last =
    (validV ⟨fk, fi, ft⟩ && prevOk p ⟨fk, fi, ft⟩ && (if xo then last && (decide (tk = 0) && decide (ti = 0) && decide (tt.toList = [])) else validV ⟨tk, ti, tt⟩ && decide (cmpV ⟨fk, fi, ft⟩ ⟨tk, ti, tt⟩ < 0))) := by
  have h : decide ((⟨tk, ti, tt⟩ : Vl) = zeroV) = (decide (tk = 0) && decide (ti = 0) && decide (tt.toList = [])) := by
    rw [Bool.eq_iff_iff]
    simp only [zeroV, Vl.mk.injEq, zero_text, decide_eq_true_eq, Bool.and_eq_true]
    constructor
    · rintro ⟨a, b, c⟩; exact ⟨⟨a, b⟩, c⟩
    · rintro ⟨⟨a, b⟩, c⟩; exact ⟨a, b, c⟩
  unfold okI prevOk
  simp only [h]
theorem ord_step {l : List Iv} {k : Nat} {x : Iv} (hx : l[k]? = some x) (h : ordFrom none l = ordFrom (prevI l k) (l.drop k)) :
    ordFrom none l = (okI (prevI l k) x (decide (k + 1 = l.length)) && ordFrom (prevI l (k + 1)) (l.drop (k + 1))) := by
  have hk : k < l.length := (List.getElem?_eq_some_iff.1 hx).1
  have he : l[k] = x := (List.getElem?_eq_some_iff.1 hx).2
  rw [h, List.drop_eq_getElem_cons hk, he, ordFrom_cons]
  have : (l.drop (k + 1)).isEmpty = decide (k + 1 = l.length) := by
    rw [Bool.eq_iff_iff]; simp; omega
  rw [this]
  have e : prevI l (k + 1) = some x := hx
  rw [e]

end Go.Proofs.YtmnmckblmoalkaaGreat

/-
  Plain mathematics: the order of values is total. No program here.
-/
namespace Go.Proofs.YtmnmckblmoalkaaGreat
open Go.RowKit
set_option maxRecDepth 100000

theorem cmpB_trans : ∀ a b c : List UInt8, cmpB a b ≤ 0 → cmpB b c ≤ 0 → cmpB a c ≤ 0
  | [], _, [], _, _ => by simp [cmpB]
  | [], _, _ :: _, _, _ => by simp [cmpB]
  | _ :: _, [], _, h, _ => by simp [cmpB] at h
  | _ :: _, _ :: _, [], _, h => by simp [cmpB] at h
  | a :: x, b :: y, c :: z, h1, h2 => by
    have ih := cmpB_trans x y z
    simp only [cmpB, UInt8.lt_iff_toNat_lt] at h1 h2 ⊢
    repeat' split at h1
    all_goals (repeat' split at h2)
    all_goals (repeat' split)
    all_goals first | omega | exact ih h1 h2
theorem cmpV_trans {a b c : Vl} (h1 : cmpV a b ≤ 0) (h2 : cmpV b c ≤ 0) : cmpV a c ≤ 0 := by
  have ih := cmpB_trans a.t.toList b.t.toList c.t.toList
  unfold cmpV at h1 h2 ⊢
  repeat' split at h1
  all_goals (repeat' split at h2)
  all_goals (repeat' split)
  all_goals first | omega | exact ih h1 h2
theorem cmpV_self (a : Vl) : cmpV a a = 0 := (cmpV_zero a a).2 rfl
theorem cmpV_lt_of_le {a b c : Vl} (h1 : cmpV a b ≤ 0) (h2 : cmpV b c < 0) : cmpV a c < 0 := by
  rcases Int.lt_or_le (cmpV a c) 0 with h | h
  · exact h
  · have e1 := cmpV_anti a c
    have e2 := cmpV_anti b c
    have := cmpV_trans (a := c) (b := a) (c := b) (by omega) h1
    omega
theorem cmpV_lt_of_lt {a b c : Vl} (h1 : cmpV a b < 0) (h2 : cmpV b c ≤ 0) : cmpV a c < 0 := by
  rcases Int.lt_or_le (cmpV a c) 0 with h | h
  · exact h
  · have e1 := cmpV_anti a c
    have e2 := cmpV_anti a b
    have := cmpV_trans (a := b) (b := c) (c := a) h2 (by omega)
    omega
theorem cmpV_lt_trans {a b c : Vl} (h1 : cmpV a b < 0) (h2 : cmpV b c < 0) : cmpV a c < 0 := cmpV_lt_of_le (by omega) h2
theorem cmpV_gt {a b : Vl} (h : ¬ cmpV a b ≤ 0) : cmpV b a < 0 := by have := cmpV_anti a b; omega
theorem cmpV_not {a b : Vl} (h : cmpV b a < 0) : ¬ cmpV a b ≤ 0 := by have := cmpV_anti a b; omega

end Go.Proofs.YtmnmckblmoalkaaGreat

namespace Go.Proofs.YtmnmckblmoalkaaGreat
open Go.RowKit
set_option maxRecDepth 100000

set_option maxHeartbeats 400000 in
theorem valid_any (v : Vl) (w : World) :
    Calls Tryz.prog 110 #[.agg #[.int .i64 v.k, .int .i64 v.i, .string v.t]] w fun e w' => e = .returned (.bool (validV v)) ∧ Below w.heap.size w w' := by
  obtain ⟨k, i, t⟩ := v
  go_enter Tryz.func110, Tryz.ntmps110
  go_wp2
  all_goals
    go_ret
    refine ⟨?_, by repeat (first | exact Below.refl _ _ | apply Below.drew | refine Below.alloc ?_ (by simp) _)⟩
    simp_all [validV]
    try omega

set_option maxHeartbeats 400000 in
theorem rvalid_any (v : Vl) (w : World) :
    Calls Tryz.prog 141 #[.agg #[.int .i64 v.k, .int .i64 v.i, .string v.t]] w fun e w' => e = .returned (.bool (validV v)) ∧ Below w.heap.size w w' := by
  obtain ⟨k, i, t⟩ := v
  go_enter Tryz.func141, Tryz.ntmps141
  go_wp2
  all_goals
    go_ret
    refine ⟨?_, by repeat (first | exact Below.refl _ _ | apply Below.drew | refine Below.alloc ?_ (by simp) _)⟩
    simp_all [validV]
    try omega

theorem cmpInt_any (a b : Int) (w : World) :
    Calls Tryz.prog 133 #[.int .i64 a, .int .i64 b] w fun e w' => e = .returned (.int .i64 (cmpI a b)) ∧ w = w' := by
  go_enter Tryz.func133, Tryz.ntmps133
  go_wp2
  all_goals
    go_ret
    refine ⟨?_, rfl⟩
    simp_all [cmpI]
    try (rw [if_neg (by omega), if_neg (by omega)])
theorem cmpInt64_any (a b : Int) (w : World) :
    Calls Tryz.prog 134 #[.int .i64 a, .int .i64 b] w fun e w' => e = .returned (.int .i64 (cmpI a b)) ∧ w = w' := by
  go_enter Tryz.func134, Tryz.ntmps134
  go_wp2
  all_goals
    go_ret
    refine ⟨?_, rfl⟩
    simp_all [cmpI]
    try (rw [if_neg (by omega), if_neg (by omega)])

theorem cmpStr_any (a b : ByteArray) (w : World) :
    Calls Tryz.prog 135 #[.string a, .string b] w fun e w' => e = .returned (.int .i64 (cmpB a.toList b.toList)) ∧ w = w' := by
  go_enter Tryz.func135, Tryz.ntmps135
  go_wp2
  rw [run_callFunc_extern Tryz.func180 (by kernel_rfl) (by kernel_rfl) (by kernel_rfl) (e := Extern.BytealgCompare.compare) (by kernel_rfl), Lib.run_compareString]
  simp only [Result.andThen]
  rw [Oper.upon_value]
  go_wp2
  go_ret
  exact ⟨ret_i64 (by rw [cmpB_lib, ByteArray.toList_eq, ByteArray.toList_eq]), rfl⟩

set_option maxHeartbeats 400000 in
theorem rcompare_any (a b : Vl) (w : World) :
    Calls Tryz.prog 93 #[.agg #[.int .i64 a.k, .int .i64 a.i, .string a.t], .agg #[.int .i64 b.k, .int .i64 b.i, .string b.t]] w fun e w' => e = .returned (.int .i64 (cmpV a b)) ∧ Below w.heap.size w w' := by
  obtain ⟨k, i, t⟩ := a
  obtain ⟨k', i', t'⟩ := b
  go_enter Tryz.func93, Tryz.ntmps93
  go_wp2
  all_goals
    go_ret
    refine ⟨ret_i64 ?_, by repeat (first | exact Below.refl _ _ | apply Below.drew | refine Below.alloc ?_ (by simp) _)⟩
    simp only [cmpV]
    first
      | (have hb := less_t ‹_›; rw [hb]; repeat' split)
      | (have hb := less_f ‹_› ‹_›; rw [hb]; repeat' split)
      | (have hb := less_e ‹_›; rw [hb]; repeat' split)
      | (repeat' split)
    all_goals omega

set_option maxHeartbeats 400000 in
theorem compare_any (a b : Vl) (w : World) :
    Calls Tryz.prog 87 #[.agg #[.int .i64 a.k, .int .i64 a.i, .string a.t], .agg #[.int .i64 b.k, .int .i64 b.i, .string b.t]] w fun e w' => e = .returned (.int .i64 (cmpV a b)) ∧ Below w.heap.size w w' := by
  obtain ⟨k, i, t⟩ := a
  obtain ⟨k', i', t'⟩ := b
  go_enter Tryz.func87, Tryz.ntmps87
  go_wp2_with (first
    | (go_at_call 133; refine (cmpInt_any _ _ _).mono ?_; rintro e w' ⟨rfl, rfl⟩)
    | (go_at_call 134; refine (cmpInt64_any _ _ _).mono ?_; rintro e w' ⟨rfl, rfl⟩)
    | (go_at_call 135; refine (cmpStr_any _ _ _).mono ?_; rintro e w' ⟨rfl, rfl⟩))
  all_goals
    go_ret
    refine ⟨ret_i64 ?_, by repeat (first | exact Below.refl _ _ | apply Below.drew | refine Below.alloc ?_ (by simp) _)⟩
    rw [cmpV_of]
    simp_all [cmpI_self, cmpB_self]

end Go.Proofs.YtmnmckblmoalkaaGreat

/-
  Words for memory: what is kept, slices that read as lists, regions that draw their order beside calls that only make memory. No program here.
-/
namespace Go.Proofs.YtmnmckblmoalkaaGreat
open Go.RowKit
set_option maxRecDepth 100000
set_option linter.unusedVariables false

/-- every cell that is there reads in w' as in w -/
def Keeps (w w' : World) : Prop := ∀ a, (w.cell? a).isSome = true → w'.cell? a = w.cell? a

theorem cell_lt {w : World} {a : Addr} (h : (w.cell? a).isSome = true) : a.block < w.heap.size := by
  unfold World.cell? at h
  rcases Nat.lt_or_ge a.block w.heap.size with hlt | hge
  · exact hlt
  · rw [Array.getElem?_eq_none hge] at h; simp at h
theorem Keeps.refl (w : World) : Keeps w w := fun _ _ => rfl
theorem Keeps.trans {a b c : World} (h : Keeps a b) (k : Keeps b c) : Keeps a c := fun x hx => by
  have e := h x hx
  rw [← e] at hx ⊢
  exact k x hx
theorem keeps_of {w w' : World} (hb : Below w.heap.size w w') : Keeps w w' := fun _ h => hb.cell (cell_lt h)
/-- the same as a rule for the walk -/
theorem bcell {w w' : World} (hb : Below w.heap.size w w') : ∀ a, (w.cell? a).isSome = true → w'.cell? a = w.cell? a := keeps_of hb
theorem Below.next {W0 wc w2 : World} (h : Below W0.heap.size W0 wc) (hb : Below wc.heap.size wc w2) : Below W0.heap.size W0 w2 := h.trans (hb.mono h.size)
theorem Keeps.drew {w w' : World} (h : Keeps w w') : Keeps w w'.drew := h
theorem Keeps.drewN {w w' : World} (h : Keeps w w') (n : Nat) : Keeps w (w'.drewN n) := h
theorem keeps_alloc (w : World) (o : Obj) : Keeps w (w.alloc o) := fun a h => World.cell?_alloc_lt w o a (cell_lt h)
theorem Keeps.alloc {w w' : World} (h : Keeps w w') (o : Obj) : Keeps w (w'.alloc o) := h.trans (keeps_alloc _ _)

/-- all later worlds of w: nothing that was there has changed -/
structure Later (w : World) where
  to : World
  below : Below w.heap.size w to
instance (w : World) : Nonempty (Later w) := ⟨⟨w, Below.refl _ _⟩⟩
instance (w : World) : Inhabited (Later w) := ⟨⟨w, Below.refl _ _⟩⟩
def after (w : World) (x : Later w) : World := x.to
theorem cell_after {w : World} (x : Later w) (a : Addr) (h : (w.cell? a).isSome = true) : (after w x).cell? a = w.cell? a := x.below.cell (cell_lt h)

section
variable {P : Program} {w : World}
theorem wpQuiet_imp {ops : Array Oper} {C : World → Prop} {Q Q' : Act → Prop} (hQ : ∀ a, Q a → Q' a) : ∀ (l : List Oper) (a : Act), wpQuiet P ops C Q l a → wpQuiet P ops C Q' l a
  | [], a, h => hQ a h
  | o :: rest, a, h => by
    unfold wpQuiet at h ⊢
    split
    · rename_i hw
      rw [if_pos hw] at h
      exact Oper.quiet_mono (fun a' h' => wpQuiet_imp hQ rest a' h') h
    · rename_i hw
      rw [if_neg hw] at h
      exact wpQuiet_imp hQ rest _ h
theorem wp_region_later {id : Nat} {Q : Exit → Act → World → Prop} {a : Act} {l : List Oper} (hm : P.follows .mixedOrders = true) (hB : Region.lexB .any l.toArray = true)
    (h : wpQuiet P l.toArray (fun W => ∃ x : Later w, W = after w x) (fun a' => ∀ W, Below w.heap.size w W → Q .normal a' W) l a) : (Code.region id l.toArray true).wp P Q a w :=
  wp_region_quiet (C := fun W => ∃ x : Later w, W = after w x) hm hB ⟨⟨{ w with drawn := w.drawn + 1 }, (Below.refl _ _).drew⟩, rfl⟩
    (by
      have h2 := wpQuiet_imp (Q' := fun a' => ∀ W, (∃ x : Later w, W = after w x) → Q .normal a' W) (fun a' h' W ⟨x, hx⟩ => h' W (by rw [hx]; exact x.below)) l a h
      simpa using h2)
theorem later_of {f : FuncId} {args : Array Value} {x : Later w} {v : Value}
    (h : Calls P f args (after w x) fun e w' => e = .returned v ∧ Below (after w x).heap.size (after w x) w') : Calls P f args (after w x) fun e w'' => e = .returned v ∧ ∃ y : Later w, w'' = after w y :=
  h.mono fun _ w' ⟨he, hb⟩ => ⟨he, ⟨w', x.below.trans (hb.mono x.below.size)⟩, rfl⟩
end

/-- the slice value with address A and n elements of sz cells each reads as the list l -/
def Sl {α : Type} (sz : Nat) (cs : α → List Value) (w : World) (A : Option Addr) (n : Nat) (l : List α) : Prop :=
  l.length = n ∧ (0 < n → ∃ b o, A = some ⟨b, o, none⟩ ∧ ∀ (k : Nat) (x : α), l[k]? = some x → ∀ (j : Nat) (u : Value), (cs x)[j]? = some u → w.cell? ⟨b, o + k * sz + j, none⟩ = some u)

section
variable {α : Type} {sz : Nat} {cs : α → List Value} {w w' : World} {A : Option Addr} {n : Nat} {l : List α}
theorem Sl.len (h : Sl sz cs w A n l) : l.length = n := h.1
theorem Sl.keep (h : Sl sz cs w A n l) (hk : Keeps w w') : Sl sz cs w' A n l := by
  refine ⟨h.1, fun hn => ?_⟩
  obtain ⟨b, o, e, hc⟩ := h.2 hn
  refine ⟨b, o, e, fun k x hx j u hu => ?_⟩
  have := hc k x hx j u hu
  rw [hk _ (by rw [this]; rfl)]
  exact this
theorem Sl.nil : Sl sz cs w A 0 ([] : List α) := ⟨rfl, fun h => absurd h (by omega)⟩
theorem Sl.at {k : Nat} (h : Sl sz cs w A n l) (hk : k < n) : ∃ b o x, A = some ⟨b, o, none⟩ ∧ l[k]? = some x ∧ ∀ (j : Nat) (u : Value), (cs x)[j]? = some u → w.cell? ⟨b, o + k * sz + j, none⟩ = some u := by
  obtain ⟨b, o, e, hc⟩ := h.2 (by omega)
  have hl := h.1
  exact ⟨b, o, l[k]'(by omega), e, List.getElem?_eq_getElem _, hc k _ (List.getElem?_eq_getElem _)⟩
end

theorem flat_at {α : Type} {sz : Nat} {cs : α → List Value} (hcs : ∀ x, (cs x).length = sz) : ∀ (l : List α) (k : Nat) (x : α) (j : Nat) (u : Value), l[k]? = some x → (cs x)[j]? = some u → (l.flatMap cs)[k * sz + j]? = some u
  | [], k, x, j, u, h, _ => by simp at h
  | y :: l, 0, x, j, u, h, hu => by
    simp only [List.getElem?_cons_zero, Option.some.injEq] at h
    subst h
    have hj : j < (cs y).length := (List.getElem?_eq_some_iff.1 hu).1
    rw [List.flatMap_cons, Nat.zero_mul, Nat.zero_add, List.getElem?_append_left hj, hu]
  | y :: l, k + 1, x, j, u, h, hu => by
    simp only [List.getElem?_cons_succ] at h
    have ih := flat_at hcs l k x j u h hu
    rw [List.flatMap_cons, List.getElem?_append_right (by rw [hcs, Nat.succ_mul]; omega), hcs, ← ih]
    congr 1
    rw [Nat.succ_mul]; omega
theorem flat_len {α : Type} {sz : Nat} {cs : α → List Value} (hcs : ∀ x, (cs x).length = sz) (l : List α) : (l.flatMap cs).length = l.length * sz := by
  induction l with
  | nil => simp
  | cons x l ih => rw [List.flatMap_cons, List.length_append, ih, hcs, List.length_cons, Nat.succ_mul]; omega
/-- a row of the call's own reads as a list -/
theorem Sl.of_own {α : Type} {sz : Nat} {cs : α → List Value} {w : World} {base : Nat} {e : TypeId} {A : Option Addr} {n c : Nat} {l : List α} (hcs : ∀ x, (cs x).length = sz) (hl : l.length = n)
    (h : w.ownsRow base e sz (.slice A n c) n (l.flatMap cs)) : Sl sz cs w A n l := by
  refine ⟨hl, fun hn => ?_⟩
  obtain ⟨g, cap, hv, _, hlt⟩ := h.form hn
  have hA : A = some ⟨g, 0, none⟩ := by injection hv
  subst hA
  refine ⟨g, 0, rfl, fun k x hx j u hu => ?_⟩
  have hc := h.cells (g := g) rfl (k * sz + j) u (flat_at hcs l k x j u hx hu)
  have hadd : (⟨g, 0, none⟩ : Addr).add (k * sz + j) = ⟨g, 0 + k * sz + j, none⟩ := by unfold Addr.add; split <;> simp_all
  rw [hadd] at hc
  exact hc
theorem Vl.cs_len (x : Vl) : (Vl.cs x).length = 3 := rfl
theorem Iv.cs_len (x : Iv) : (Iv.cs x).length = 7 := rfl
theorem one_vl (v : Vl) : ∀ u ∈ Vl.cs v, u.oneCell' = true := by simp [Vl.cs, Value.oneCell']
theorem one_iv (v : Iv) : ∀ u ∈ Iv.cs v, u.oneCell' = true := by simp [Iv.cs, Value.oneCell']

theorem own_base {w : World} {base : Nat} {e : TypeId} {size n : Nat} {v : Value} {xs : List Value} (h : w.ownsRow base e size v n xs) : ∀ k, v.ownBlock = some k → base ≤ k := by
  rcases h.2 with ⟨rfl, _⟩ | ⟨g, cap, cur, rfl, hg, _⟩
  · intro k hk; simp [Value.ownBlock] at hk
  · intro k hk
    simp only [Value.ownBlock, Option.some.injEq] at hk
    omega
theorem grown_of_alloc {W w' : World} {o : Obj} {row : Option Nat} (h : (W.alloc o).grownBy w' row) : W.grownBy w' row :=
  ⟨h.os, h.tape, h.output, Nat.le_trans (by simp) h.size, fun k hk hne => (h.block k (by simp; omega) hne).trans (Below.heap_alloc W o k hk)⟩
/-- append of one element that was built just before -/
theorem wpList_append_one {P : Program} {ops : Array Oper} {rest : List Oper} {o : Oper} {a : Act} {Q : Exit → Act → World → Prop} (hgd : o.guard = none) (s x : Operand) (t : TypeId)
    (ho : o.op = .call { callee := .builtin .append, args := #[s, x], argTypes := #[t, t] })
    (base : Nat) (e : TypeId) (i : TypeInfo) (z : Value) (size bytes : Nat) (ht : P.underlying t = some (.slice e)) (hi : P.info? e = some i) (hz : i.zero = some z)
    (hsize : i.size = size) (hby : i.bytes = bytes) (hzs : z.cells.size = size) (hsz : 0 < size)
    (v : Value) (n : Nat) (xs : List Value) (hs : a.eval s = v) (W : World) (cells : Array Value) (hown : W.ownsRow base e size v n xs) (H : Nat) (hH : W.heap.size = H)
    (hx : a.eval x = .slice (some ⟨H, 0, none⟩) 1 1) (hcl : cells.toList.length = 1 * size) (h1 : ∀ u ∈ cells.toList, u.oneCell' = true)
    (h63 : n + 1 ≤ maxLen) (hbytes : (n + 1) * bytes ≤ 140737488355328) (hbase : base ≤ W.heap.size)
    (h : ∀ g cap w', w'.ownsRow base e size (.slice (some ⟨g, 0, none⟩) (n + 1) cap) (n + 1) (xs ++ cells.toList) → W.grownBy w' v.ownBlock → Below base W w' → (v.ownBlock = some g ∨ g = H + 1) → g < w'.heap.size →
      wpList P ops Q rest (a.put o.dst (.slice (some ⟨g, 0, none⟩) (n + 1) cap)) w') : wpList P ops Q (o :: rest) a (W.alloc (.cells cells e)) := by
  subst hH
  refine wpList_append_lies _ hgd s x t ho base e i z size bytes ht hi hz hsize hby hzs hsz v n xs hs (hown.alloc _) ⟨W.heap.size, 0, none⟩ 1 1 cells.toList hx hcl (World.news_of_block (heap_alloc_new W _)) h1 (by omega) h63 hbytes (by simp; omega) (W.heap.size + 1) (by simp) ?_
  intro g cap w' ho2 hg2 hat hlt
  have hg3 := grown_of_alloc hg2
  exact h g cap w' ho2 hg3 ((Below.refl _ _).grown hg3 hbase (own_base hown)) hat hlt

theorem Sl.lt {α : Type} {sz : Nat} {cs : α → List Value} {w : World} {A : Option Addr} {n : Nat} {l : List α} (hcs : ∀ x, (cs x).length = sz) (hsz : 0 < sz) (h : Sl sz cs w A n l) (hn : 0 < n) : ∀ b o, A = some ⟨b, o, none⟩ → b < w.heap.size := by
  intro b o hA
  obtain ⟨b', o', x, hA', hx, hc⟩ := h.at hn
  rw [hA] at hA'
  injection hA' with h1
  injection h1 with h1 h2
  have h3 : 0 < (cs x).length := by rw [hcs]; exact hsz
  have h4 := hc 0 _ (List.getElem?_eq_getElem h3)
  have := cell_lt (w := w) (a := ⟨b', o' + 0 * sz + 0, none⟩) (by rw [h4]; rfl)
  simp only at this
  omega
theorem own_at {w w' : World} {base : Nat} {e : TypeId} {size n : Nat} {v : Value} {xs : List Value} (h : w.ownsRow base e size v n xs) (hb : ∀ g, base ≤ g → g < w.heap.size → v.ownBlock = some g → w'.heap[g]? = w.heap[g]?) : w'.ownsRow base e size v n xs := by
  refine ⟨h.1, ?_⟩
  rcases h.2 with h2 | ⟨g, cap, cur, hv, hg, hh, r⟩
  · exact .inl h2
  · have hlt : g < w.heap.size := by
      rcases Nat.lt_or_ge g w.heap.size with hl | hl
      · exact hl
      · rw [Array.getElem?_eq_none hl] at hh; cases hh
    exact .inr ⟨g, cap, cur, hv, hg, by rw [hb g hg hlt (by rw [hv]; rfl)]; exact hh, r⟩

/-- the seven cells of an interval -/
structure IvAt (w : World) (b p : Nat) (x : Iv) : Prop where
  c0 : w.cell? ⟨b, p, none⟩ = some (.int .i64 x.f.k)
  c1 : w.cell? ⟨b, p + 1, none⟩ = some (.int .i64 x.f.i)
  c2 : w.cell? ⟨b, p + 2, none⟩ = some (.string x.f.t)
  c3 : w.cell? ⟨b, p + 3, none⟩ = some (.int .i64 x.t.k)
  c4 : w.cell? ⟨b, p + 4, none⟩ = some (.int .i64 x.t.i)
  c5 : w.cell? ⟨b, p + 5, none⟩ = some (.string x.t.t)
  c6 : w.cell? ⟨b, p + 6, none⟩ = some (.bool x.o)
structure VlAt (w : World) (b p : Nat) (x : Vl) : Prop where
  c0 : w.cell? ⟨b, p, none⟩ = some (.int .i64 x.k)
  c1 : w.cell? ⟨b, p + 1, none⟩ = some (.int .i64 x.i)
  c2 : w.cell? ⟨b, p + 2, none⟩ = some (.string x.t)
theorem IvAt.of {w : World} {b p : Nat} {x : Iv} (h : ∀ (j : Nat) (u : Value), (Iv.cs x)[j]? = some u → w.cell? ⟨b, p + j, none⟩ = some u) : IvAt w b p x :=
  ⟨h 0 _ rfl, h 1 _ rfl, h 2 _ rfl, h 3 _ rfl, h 4 _ rfl, h 5 _ rfl, h 6 _ rfl⟩
theorem VlAt.of {w : World} {b p : Nat} {x : Vl} (h : ∀ (j : Nat) (u : Value), (Vl.cs x)[j]? = some u → w.cell? ⟨b, p + j, none⟩ = some u) : VlAt w b p x :=
  ⟨h 0 _ rfl, h 1 _ rfl, h 2 _ rfl⟩
theorem keep_cell {w w' : World} (hk : Keeps w w') {a : Addr} {v : Value} (h : w.cell? a = some v) : w'.cell? a = some v := by
  rw [hk a (by rw [h]; rfl), h]
theorem VlAt.keep {w w' : World} {b p : Nat} {x : Vl} (h : VlAt w b p x) (hk : Keeps w w') : VlAt w' b p x :=
  ⟨keep_cell hk h.c0, keep_cell hk h.c1, keep_cell hk h.c2⟩
theorem IvAt.keep {w w' : World} {b p : Nat} {x : Iv} (h : IvAt w b p x) (hk : Keeps w w') : IvAt w' b p x :=
  ⟨keep_cell hk h.c0, keep_cell hk h.c1, keep_cell hk h.c2, keep_cell hk h.c3, keep_cell hk h.c4, keep_cell hk h.c5, keep_cell hk h.c6⟩
theorem IvAt.to_ {w : World} {b p : Nat} {x : Iv} (h : IvAt w b p x) : VlAt w b (p + 3) x.t := ⟨h.c3, h.c4, h.c5⟩
theorem IvAt.from_ {w : World} {b p : Nat} {x : Iv} (h : IvAt w b p x) : VlAt w b p x.f := ⟨h.c0, h.c1, h.c2⟩
theorem cell_new (w : World) (cs : Array Value) (T : TypeId) (j : Nat) : (w.alloc (.cells cs T)).cell? ⟨w.heap.size, j, none⟩ = cs[j]? :=
  cell_of_row _ _ _ _ _ _ (heap_alloc_new w _)
theorem IvAt.new (w : World) (T : TypeId) (x : Iv) : IvAt (w.alloc (.cells #[.int .i64 x.f.k, .int .i64 x.f.i, .string x.f.t, .int .i64 x.t.k, .int .i64 x.t.i, .string x.t.t, .bool x.o] T)) w.heap.size 0 x :=
  ⟨by rw [cell_new]; rfl, by rw [cell_new]; rfl, by rw [cell_new]; rfl, by rw [cell_new]; rfl, by rw [cell_new]; rfl, by rw [cell_new]; rfl, by rw [cell_new]; rfl⟩
theorem VlAt.new (w : World) (T : TypeId) (x : Vl) : VlAt (w.alloc (.cells #[.int .i64 x.k, .int .i64 x.i, .string x.t] T)) w.heap.size 0 x :=
  ⟨by rw [cell_new]; rfl, by rw [cell_new]; rfl, by rw [cell_new]; rfl⟩
/-- block b is just these cells, none of them frozen -/
def Blk (w : World) (b : Nat) (T : TypeId) (cs : Array Value) : Prop := w.heap[b]? = some (.cells cs T (0, 0))
theorem Blk.new (w : World) (T : TypeId) (cs : Array Value) : Blk (w.alloc (.cells cs T)) w.heap.size T cs := heap_alloc_new w _
theorem Blk.lt {w : World} {b : Nat} {T : TypeId} {cs : Array Value} (h : Blk w b T cs) : b < w.heap.size := by
  rcases Nat.lt_or_ge b w.heap.size with hlt | hge
  · exact hlt
  · unfold Blk at h; rw [Array.getElem?_eq_none hge] at h; cases h
theorem Blk.cell {w : World} {b : Nat} {T : TypeId} {cs : Array Value} (h : Blk w b T cs) : ∀ j, w.cell? ⟨b, j, none⟩ = cs[j]? := fun j => cell_of_row w b j cs T (0, 0) h
theorem Blk.free {w : World} {b : Nat} {T : TypeId} {cs : Array Value} (h : Blk w b T cs) : ∀ j, w.frozen? ⟨b, j, none⟩ = false := fun j => by
  unfold Blk at h
  simp [World.frozen?, h]
theorem Blk.below {w w' : World} {b : Nat} {T : TypeId} {cs : Array Value} (h : Blk w b T cs) (hb : Below w.heap.size w w') : Blk w' b T cs := (hb.block b h.lt).trans h
theorem Blk.alloc {w : World} {b : Nat} {T : TypeId} {cs : Array Value} (h : Blk w b T cs) (o : Obj) : Blk (w.alloc o) b T cs := (Below.heap_alloc w o b h.lt).trans h
theorem Blk.drew {w : World} {b : Nat} {T : TypeId} {cs : Array Value} (h : Blk w b T cs) : Blk w.drew b T cs := h
theorem Blk.set_ {w : World} {b : Nat} {T : TypeId} {cs : Array Value} (h : Blk w b T cs) (i : Nat) (u : Value) : Blk (w.setCell ⟨b, i, none⟩ u) b T (cs.setIfInBounds i u) := by
  unfold Blk at h ⊢
  simp [World.setCell, Array.getElem?_modify, h]
theorem Blk.far {w : World} {b : Nat} {T : TypeId} {cs : Array Value} (h : Blk w b T cs) {p : Addr} (hp : b ≠ p.block) (u : Value) : Blk (w.setCell p u) b T cs := (Below.heap_setCell w p u b hp).trans h
theorem Blk.grown {w w' : World} {b : Nat} {T : TypeId} {cs : Array Value} {row : Option Nat} (h : Blk w b T cs) (hg : w.grownBy w' row) (hne : some b ≠ row) : Blk w' b T cs := (hg.block b h.lt hne).trans h
theorem own_ne {w : World} {base : Nat} {e : TypeId} {size n : Nat} {v : Value} {xs : List Value} (h : w.ownsRow base e size v n xs) : some w.heap.size ≠ v.ownBlock := by
  rcases h.2 with ⟨rfl, _⟩ | ⟨g, cap, cur, rfl, _, hh, _⟩
  · simp [Value.ownBlock]
  · have : g < w.heap.size := Blk.lt (T := e) (cs := cur) hh
    simp only [Value.ownBlock, ne_eq, Option.some.injEq]
    omega
theorem blocks_at {w : World} {b : Nat} {T : TypeId} {cs : Array Value} {i : Nat} {u : Value} (h : Blk w b T cs) (hu : cs[i]? = some u) : w.cell? ⟨b, i, none⟩ = some u := by rw [h.cell, hu]
abbrev IvS (w : World) (A : Option Addr) (n : Nat) (l : List Iv) : Prop := Sl 7 Iv.cs w A n l
abbrev VlS (w : World) (A : Option Addr) (n : Nat) (l : List Vl) : Prop := Sl 3 Vl.cs w A n l

end Go.Proofs.YtmnmckblmoalkaaGreat
