/-
  Plain: the events of two regions. No program here.
-/
import Derived.Test.YtnocbigcdjlliaaRgSmall
namespace Go.Proofs.Ytnocbigcdjlliaa
open Go.RowKit
open Rg

def EvUp (qs : List Ev) : Prop := qs.Pairwise (fun a b => ¬ cmpE b a < 0)
/-- the events of an interval, of a part, of parts, of two regions -/
def evI (s : Int) (i : Nat) (x : Iv) : List Ev := ⟨x.f, s, (i : Int), true⟩ :: (if x.o then [] else [⟨x.t, s, (i : Int), false⟩])
def evP (s : Int) (i : Nat) (vs : List Iv) : List Ev := vs.flatMap (evI s i)
def evR (s : Int) : Nat → List (List Iv × Rg) → List Ev
  | _, [] => []
  | i, p :: l => evP s i p.1 ++ evR s (i + 1) l
def evs (a b : Rg) : List Ev := evR 0 0 a.parts ++ evR 1 0 b.parts
theorem evP_snoc (s : Int) (i : Nat) (l : List Iv) (x : Iv) : evP s i (l ++ [x]) = evP s i l ++ evI s i x := by simp [evP]
theorem evR_append (s : Int) : ∀ (i : Nat) (l m : List (List Iv × Rg)), evR s i (l ++ m) = evR s i l ++ evR s (i + l.length) m
  | i, [], m => by simp [evR]
  | i, p :: l, m => by
    rw [List.cons_append, evR, evR, evR_append s (i + 1) l m, List.append_assoc, List.length_cons, show i + 1 + l.length = i + (l.length + 1) by omega]
theorem evR_snoc (s : Int) (l : List (List Iv × Rg)) (p : List Iv × Rg) : evR s 0 (l ++ [p]) = evR s 0 l ++ evP s l.length p.1 := by
  rw [evR_append]
  simp [evR]
/-- what events leaves: the events, ascending -/
def EvSorted (a b : Rg) (qs : List Ev) : Prop := qs.Perm (evs a b) ∧ EvUp qs

end Go.Proofs.Ytnocbigcdjlliaa
