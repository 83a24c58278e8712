/-
  Texts of this proof, one behind the other: ListAt.
-/
import Derived.Test.YtnocbigcdjlliaaGreatB1
set_option linter.unusedVariables false
/-
  A list of operations parted in two: the first part ends in a frame and a world of which a relation holds; the second part goes on from every such frame and world. No program here.
-/
namespace Go.Proofs.YtnocbigcdjlliaaGreat
open Go.RowKit

theorem oper_wp2 {P : Program} {o : Oper} {a : Act} {w : World} {K K' : Act → World → Prop} {Q Q' : Exit → Act → World → Prop} (h : ∀ a w, K a w → K' a w) (hq : ∀ e a w, Q e a w → e = .normal)
    (hh : o.wp P a w K Q) : o.wp P a w K' Q' := by
  unfold Oper.wp at *
  generalize (execOp a.eval o).run P w = r at *
  cases r with
  | ok n w' =>
    cases n <;> simp only [Oper.upon] at hh ⊢ <;>
      first
        | exact h _ _ hh
        | exact Calls.mono hh (fun e w'' he => by
            cases e <;> first
              | exact h _ _ he
              | cases hq _ _ _ he
              | (obtain ⟨_, _, hl⟩ := he; cases hq _ _ _ hl))
        | exact Rows.mono hh (fun _ _ he => h _ _ he)
  | halt x w' => cases x <;> simp only [Oper.upon] at hh ⊢ <;> first | cases hq _ _ _ hh | exact hh
theorem wpList_part {P : Program} {ops : Array Oper} {Q Q1 : Exit → Act → World → Prop} (hq : ∀ e a w, Q1 e a w → e = .normal) {l2 : List Oper} (h2 : ∀ a w, Q1 .normal a w → wpList P ops Q l2 a w) :
    ∀ {l1 : List Oper} {a : Act} {w : World}, wpList P ops Q1 l1 a w → wpList P ops Q (l1 ++ l2) a w
  | [], a, w, h => h2 a w h
  | o :: l1, a, w, h => by
    simp only [List.cons_append, wpList] at h ⊢
    split
    · rename_i hw
      simp only [hw, if_true] at h
      rcases h with h | ⟨_, _, _, hl⟩
      · exact .inl (oper_wp2 (fun a w hk => wpList_part hq h2 hk) hq h)
      · cases hq _ _ _ hl
    · rename_i hw
      simp only [hw] at h
      exact wpList_part hq h2 h
/-- the frame a with the values us in the slots D -/
def overU (a : Act) (D : List Nat) (us : Nat → Value) : Act := D.foldl (fun b d => b.put (some d) (us d)) a
/-- the end of a part of a list -/
def EndAt (a0 : Act) (D : List Nat) (rel : (Nat → Value) → World → Prop) : Exit → Act → World → Prop :=
  fun e a w => e = .normal ∧ rel (fun d => a.tmps.getD d undef) w ∧ a = overU a0 D (fun d => a.tmps.getD d undef)
theorem EndAt.intro {a0 a : Act} {D : List Nat} {rel : (Nat → Value) → World → Prop} {w : World} (h1 : rel (fun d => a.tmps.getD d undef) w) (h2 : a = overU a0 D (fun d => a.tmps.getD d undef)) : EndAt a0 D rel .normal a w := ⟨rfl, h1, h2⟩
/-- the first n operations end where the relation holds; the others go on from there -/
theorem wpList_at {P : Program} {ops : Array Oper} {Q : Exit → Act → World → Prop} {l : List Oper} {a : Act} {w : World} (n : Nat) (D : List Nat) (rel : (Nat → Value) → World → Prop)
    (h1 : wpList P ops (EndAt a D rel) (l.take n) a w) (h2 : ∀ us w', rel us w' → wpList P ops Q (l.drop n) (overU a D us) w') : wpList P ops Q l a w := by
  have h := wpList_part (Q := Q) (l2 := l.drop n) (fun _ _ _ h => h.1) (fun a' w' h => by
    obtain ⟨_, hr, ha⟩ := h
    rw [ha]
    exact h2 _ _ hr) h1
  rwa [List.take_append_drop] at h
end Go.Proofs.YtnocbigcdjlliaaGreat
