/-
  Plain data of the program: a value, an interval; how they lie in cells; a slice that reads as a list. No program here.
-/
import Derived.WalkKit
import Derived.WalkSpells
import Derived.WalkLawsBesides
import Derived.Deep.Draws
import Derived.Deep.AppendLies
import Derived.Lib.Hide
import Derived.Lib.Bytealg
namespace Go.Proofs.Ytnocbigcdjlliaa
open Go.RowKit

structure Vl where
  k : Int
  i : Int
  t : ByteArray
  deriving DecidableEq

structure Iv where
  f : Vl
  t : Vl
  o : Bool
  deriving DecidableEq

def Vl.cs (v : Vl) : List Value := [.int .i64 v.k, .int .i64 v.i, .string v.t]
def Iv.cs (x : Iv) : List Value := [.int .i64 x.f.k, .int .i64 x.f.i, .string x.f.t, .int .i64 x.t.k, .int .i64 x.t.i, .string x.t.t, .bool x.o]

def validV (v : Vl) : Bool :=
  if v.k = 1 ∨ v.k = 2 then (v.i == 0) && v.t.toList.isEmpty
  else if v.k = 3 then (v.i == 0 || v.i == 1) && v.t.toList.isEmpty
  else if v.k = 4 then v.t.toList.isEmpty
  else if v.k = 5 then (v.i == 0) && decide (v.t.size ≤ 64)
  else false

/-- the order of values: by kind, number, text -/
def cmpB : List UInt8 → List UInt8 → Int
  | [], [] => 0
  | [], _ :: _ => -1
  | _ :: _, [] => 1
  | a :: x, b :: y => if a < b then -1 else if b < a then 1 else cmpB x y

def cmpV (a b : Vl) : Int :=
  if a.k < b.k then -1 else if b.k < a.k then 1
  else if a.i < b.i then -1 else if b.i < a.i then 1
  else cmpB a.t.toList b.t.toList

theorem cmpB_lib : ∀ a b : List UInt8, Lib.compareBytes a b = cmpB a b
  | [], [] => rfl
  | [], _ :: _ => rfl
  | _ :: _, [] => rfl
  | a :: x, b :: y => by
    unfold Lib.compareBytes cmpB
    rw [cmpB_lib x y]
theorem cmpB_less : ∀ a b : List UInt8, Op.bytesLess a b = decide (cmpB a b < 0)
  | [], [] => by simp [Op.bytesLess, cmpB]
  | [], _ :: _ => by simp [Op.bytesLess, cmpB]
  | _ :: _, [] => by simp [Op.bytesLess, cmpB]
  | a :: x, b :: y => by
    have ih := cmpB_less x y
    unfold Op.bytesLess cmpB
    by_cases h1 : a < b
    · simp [h1]
    · by_cases h2 : b < a
      · have : a ≠ b := fun e => by subst e; exact h1 h2
        simp [h1, h2, this]
      · have : a = b := UInt8.le_antisymm (UInt8.not_lt.1 h2) (UInt8.not_lt.1 h1)
        simp [this, ih]
theorem cmpB_range : ∀ a b : List UInt8, cmpB a b = -1 ∨ cmpB a b = 0 ∨ cmpB a b = 1
  | [], [] => by simp [cmpB]
  | [], _ :: _ => by simp [cmpB]
  | _ :: _, [] => by simp [cmpB]
  | a :: x, b :: y => by
    have ih := cmpB_range x y
    unfold cmpB
    split
    · simp
    · split
      · simp
      · exact ih
theorem cmpB_anti : ∀ a b : List UInt8, cmpB b a = - cmpB a b
  | [], [] => by simp [cmpB]
  | [], _ :: _ => by simp [cmpB]
  | _ :: _, [] => by simp [cmpB]
  | a :: x, b :: y => by
    have ih := cmpB_anti x y
    unfold cmpB
    by_cases h1 : a < b
    · have h2 : ¬ b < a := UInt8.lt_asymm h1
      simp [h1, h2]
    · by_cases h2 : b < a
      · simp [h1, h2]
      · simp [h1, h2, ih]
theorem cmpB_zero : ∀ a b : List UInt8, cmpB a b = 0 ↔ a = b
  | [], [] => by simp [cmpB]
  | [], _ :: _ => by simp [cmpB]
  | _ :: _, [] => by simp [cmpB]
  | a :: x, b :: y => by
    have ih := cmpB_zero x y
    unfold cmpB
    by_cases h1 : a < b
    · have : a ≠ b := fun e => by subst e; exact UInt8.lt_irrefl _ h1
      simp [h1, this]
    · by_cases h2 : b < a
      · have : a ≠ b := fun e => by subst e; exact h1 h2
        simp [h1, h2, this]
      · have : a = b := UInt8.le_antisymm (UInt8.not_lt.1 h2) (UInt8.not_lt.1 h1)
        simp [this, ih]
theorem text_eq (a b : ByteArray) : a = b ↔ a.toList = b.toList := by
  constructor
  · intro e; rw [e]
  · intro e
    rw [ByteArray.toList_eq, ByteArray.toList_eq] at e
    exact ByteArray.ext (Array.toList_inj.1 e)
theorem cmpV_zero (a b : Vl) : cmpV a b = 0 ↔ a = b := by
  obtain ⟨k, i, t⟩ := a
  obtain ⟨k', i', t'⟩ := b
  unfold cmpV
  simp only [Vl.mk.injEq, text_eq]
  have := cmpB_zero t.toList t'.toList
  repeat' split
  all_goals first | omega | skip
  rw [this]
  constructor
  · intro h; exact ⟨by omega, by omega, h⟩
  · intro h; exact h.2.2
theorem cmpV_range (a b : Vl) : cmpV a b = -1 ∨ cmpV a b = 0 ∨ cmpV a b = 1 := by
  have := cmpB_range a.t.toList b.t.toList
  unfold cmpV
  repeat' split
  all_goals omega
theorem cmpV_anti (a b : Vl) : cmpV b a = - cmpV a b := by
  have := cmpB_anti a.t.toList b.t.toList
  unfold cmpV
  repeat' split
  all_goals omega

def cmpI (a b : Int) : Int := if a < b then -1 else if b < a then 1 else 0
theorem cmpI_self (a : Int) : cmpI a a = 0 := by simp [cmpI]
theorem cmpB_self (a : List UInt8) : cmpB a a = 0 := (cmpB_zero a a).2 rfl
theorem cmpV_of (k i k' i' : Int) (t t' : ByteArray) : cmpV ⟨k, i, t⟩ ⟨k', i', t'⟩ = if cmpI k k' ≠ 0 then cmpI k k' else if cmpI i i' ≠ 0 then cmpI i i' else cmpB t.toList t'.toList := by
  unfold cmpV cmpI
  simp only
  repeat' split
  all_goals first | rfl | omega
theorem less_t {a b : List UInt8} (h : Op.bytesLess a b = true) : cmpB a b = -1 := by
  rw [cmpB_less] at h
  have := cmpB_range a b
  simp only [decide_eq_true_eq] at h
  omega
theorem less_f {a b : List UInt8} (h : Op.bytesLess a b = false) (h' : (!a == b) = true) : cmpB a b = 1 := by
  rw [cmpB_less] at h
  have h1 := cmpB_range a b
  have h2 : cmpB a b ≠ 0 := by
    intro e
    rw [cmpB_zero] at e
    subst e
    simp at h'
  simp only [decide_eq_false_iff_not] at h
  omega
theorem less_e {a b : List UInt8} (h' : (!a == b) = false) : cmpB a b = 0 := by
  simp only [Bool.not_eq_false', beq_iff_eq] at h'
  exact (cmpB_zero a b).2 h'

theorem ret_i64 {a b : Int} (h : a = b) : Ending.returned (.int .i64 a) = .returned (.int .i64 b) := by rw [h]
theorem ret_bool {a b : Bool} (h : a = b) : Ending.returned (.bool a) = .returned (.bool b) := by rw [h]

def zeroV : Vl := ⟨0, 0, ⟨#[]⟩⟩
/-- an interval, behind the interval p, is as a canonical list asks -/
def okI (p : Option Iv) (x : Iv) (last : Bool) : Bool :=
  validV x.f && (match p with | none => true | some y => decide (cmpV y.t x.f < 0)) &&
    (if x.o then last && decide (x.t = zeroV) else validV x.t && decide (cmpV x.f x.t < 0))
def ordFrom : Option Iv → List Iv → Bool
  | _, [] => true
  | p, x :: r => okI p x r.isEmpty && ordFrom (some x) r
theorem ordFrom_cons (p : Option Iv) (x : Iv) (r : List Iv) : ordFrom p (x :: r) = (okI p x r.isEmpty && ordFrom (some x) r) := rfl
def validL (l : List Iv) : Bool := decide (l.length ≤ 64) && ordFrom none l
def prevI (l : List Iv) : Nat → Option Iv
  | 0 => none
  | k + 1 => l[k]?
theorem zero_text {t : ByteArray} : t = ⟨#[]⟩ ↔ t.toList = [] := by
  rw [text_eq, ByteArray.toList_eq ⟨#[]⟩]
def prevOk (p : Option Iv) (v : Vl) : Bool := match p with | none => true | some y => decide (cmpV y.t v < 0)
theorem okI_eq (p : Option Iv) (fk fi tk ti : Int) (ft tt : ByteArray) (xo last : Bool) : okI p ⟨⟨fk, fi, ft⟩, ⟨tk, ti, tt⟩, xo⟩ last =
    (validV ⟨fk, fi, ft⟩ && prevOk p ⟨fk, fi, ft⟩ && (if xo then last && (decide (tk = 0) && decide (ti = 0) && decide (tt.toList = [])) else validV ⟨tk, ti, tt⟩ && decide (cmpV ⟨fk, fi, ft⟩ ⟨tk, ti, tt⟩ < 0))) := by
  have h : decide ((⟨tk, ti, tt⟩ : Vl) = zeroV) = (decide (tk = 0) && decide (ti = 0) && decide (tt.toList = [])) := by
    rw [Bool.eq_iff_iff]
    simp only [zeroV, Vl.mk.injEq, zero_text, decide_eq_true_eq, Bool.and_eq_true]
    constructor
    · rintro ⟨a, b, c⟩; exact ⟨⟨a, b⟩, c⟩
    · rintro ⟨⟨a, b⟩, c⟩; exact ⟨a, b, c⟩
  unfold okI prevOk
  simp only [h]
theorem ord_step {l : List Iv} {k : Nat} {x : Iv} (hx : l[k]? = some x) (h : ordFrom none l = ordFrom (prevI l k) (l.drop k)) :
    ordFrom none l = (okI (prevI l k) x (decide (k + 1 = l.length)) && ordFrom (prevI l (k + 1)) (l.drop (k + 1))) := by
  have hk : k < l.length := (List.getElem?_eq_some_iff.1 hx).1
  have he : l[k] = x := (List.getElem?_eq_some_iff.1 hx).2
  rw [h, List.drop_eq_getElem_cons hk, he, ordFrom_cons]
  have : (l.drop (k + 1)).isEmpty = decide (k + 1 = l.length) := by
    rw [Bool.eq_iff_iff]; simp; omega
  rw [this]
  have e : prevI l (k + 1) = some x := hx
  rw [e]

end Go.Proofs.Ytnocbigcdjlliaa
