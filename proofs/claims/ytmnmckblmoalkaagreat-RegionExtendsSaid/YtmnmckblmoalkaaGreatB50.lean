/-
  Texts: ListAt, Open.
-/
import Derived.Test.YtmnmckblmoalkaaGreatB37
import Derived.ProofKit
import Derived.OpenShut
import Derived.ShutString
import Derived.Carry
import Derived.Deep.Slices
import Derived.Lib.SmallJoins
set_option linter.unusedVariables false
/-
  A list of operations parted in two: the first part ends in a frame and a world of which a relation holds; the second part goes on from every such frame and world. No program here.
-/
namespace Go.Proofs.YtmnmckblmoalkaaGreat
open Go.RowKit
set_option maxRecDepth 100000

theorem oper_wp2 {P : Program} {o : Oper} {a : Act} {w : World} {K K' : Act → World → Prop} {Q Q' : Exit → Act → World → Prop} (h : ∀ a w, K a w → K' a w) (hq : ∀ e a w, Q e a w → e = .normal)
    (hh : o.wp P a w K Q) : o.wp P a w K' Q' := by
  unfold Oper.wp at *
  generalize (execOp a.eval o).run P w = r at *
  cases r with
  | ok n w' =>
    cases n <;> simp only [Oper.upon] at hh ⊢ <;>
      first
        | exact h _ _ hh
        | exact Calls.mono hh (fun e w'' he => by
            cases e <;> first
              | exact h _ _ he
              | cases hq _ _ _ he
              | (obtain ⟨_, _, hl⟩ := he; cases hq _ _ _ hl))
        | exact Rows.mono hh (fun _ _ he => h _ _ he)
  | halt x w' => cases x <;> simp only [Oper.upon] at hh ⊢ <;> first | cases hq _ _ _ hh | exact hh
theorem wpList_part {P : Program} {ops : Array Oper} {Q Q1 : Exit → Act → World → Prop} (hq : ∀ e a w, Q1 e a w → e = .normal) {l2 : List Oper} (h2 : ∀ a w, Q1 .normal a w → wpList P ops Q l2 a w) :
    ∀ {l1 : List Oper} {a : Act} {w : World}, wpList P ops Q1 l1 a w → wpList P ops Q (l1 ++ l2) a w
  | [], a, w, h => h2 a w h
  | o :: l1, a, w, h => by
    simp only [List.cons_append, wpList] at h ⊢
    split
    · rename_i hw
      simp only [hw, if_true] at h
      rcases h with h | ⟨_, _, _, hl⟩
      · exact .inl (oper_wp2 (fun a w hk => wpList_part hq h2 hk) hq h)
      · cases hq _ _ _ hl
    · rename_i hw
      simp only [hw] at h
      exact wpList_part hq h2 h
/-- the frame a with the values us in the slots D -/
def overU (a : Act) (D : List Nat) (us : Nat → Value) : Act := D.foldl (fun b d => b.put (some d) (us d)) a
/-- the end of a part of a list -/
def EndAt (a0 : Act) (D : List Nat) (rel : (Nat → Value) → World → Prop) : Exit → Act → World → Prop :=
  fun e a w => e = .normal ∧ rel (fun d => a.tmps.getD d undef) w ∧ a = overU a0 D (fun d => a.tmps.getD d undef)
theorem EndAt.intro {a0 a : Act} {D : List Nat} {rel : (Nat → Value) → World → Prop} {w : World} (h1 : rel (fun d => a.tmps.getD d undef) w) (h2 : a = overU a0 D (fun d => a.tmps.getD d undef)) : EndAt a0 D rel .normal a w := ⟨rfl, h1, h2⟩
/-- the first n operations end where the relation holds; the others go on from there -/
theorem wpList_at {P : Program} {ops : Array Oper} {Q : Exit → Act → World → Prop} {l : List Oper} {a : Act} {w : World} (n : Nat) (D : List Nat) (rel : (Nat → Value) → World → Prop)
    (h1 : wpList P ops (EndAt a D rel) (l.take n) a w) (h2 : ∀ us w', rel us w' → wpList P ops Q (l.drop n) (overU a D us) w') : wpList P ops Q l a w := by
  have h := wpList_part (Q := Q) (l2 := l.drop n) (fun _ _ _ h => h.1) (fun a' w' h => by
    obtain ⟨_, hr, ha⟩ := h
    rw [ha]
    exact h2 _ _ hr) h1
  rwa [List.take_append_drop] at h
end Go.Proofs.YtmnmckblmoalkaaGreat

/-
  What the law's arguments are in memory, and that they read behind the call as before. No walk here.
-/
namespace Go.Proofs.YtmnmckblmoalkaaGreat
open Go.ChangeShapes Go.WideShapes Go.ChangeAt Go.RowKit
set_option maxRecDepth 100000
open Go.ChangeMaps (open_string shut_string)

theorem own : ownKnob Tryz.prog.godebug = none := by kernel_rfl
theorem laidOut : laidOutB Tryz.prog = true := by kernel_rfl

section
variable {H : Type} {enc : TypeId × Value → H} {P : Program}
/-- the arguments read behind the call as before -/
theorem trodAll_below (hl : laidOutB P = true) {W W' : World} (hb : Below W.heap.size W W') : ∀ {ts : List TypeId} {vs : List Value} {ds : List (DataW H)} {ps : List MemPlace},
    (∀ t ∈ ts, P.readableRec t = true ∧ t < P.types.size) → DataW.TrodAll enc P W 0 (fun _ => true) true ts vs ds ps → (∀ x ∈ ps, x.block < W.heap.size) → DataW.TrodAll enc P W' 0 (fun b => decide (b < W.heap.size)) true ts vs ds ps
  | [], vs, ds, ps, _, h, _ => by
    obtain ⟨rfl, rfl, rfl⟩ := trodAll_nil h
    exact trodAll_mk0
  | t :: ts, vs, ds, ps, ht, h, hlt => by
    obtain ⟨v0, vs0, d0, ds0, p0, q0, rfl, rfl, rfl, h0, r0⟩ := trodAll_cons h
    have hr := ht t List.mem_cons_self
    exact trodAll_cons_mk (Below.trod hl hr.1 hr.2 h0 hb (fun x hx => hlt x (List.mem_append_left _ hx))) (trodAll_below hl hb (fun t h => ht t (List.mem_cons_of_mem _ h)) r0 (fun x hx => hlt x (List.mem_append_right _ hx)))
theorem okWide_slice_form {w : World} {r : Reach} {base : Nat} {t e : TypeId} {A : Option Addr} {n c : Nat} (ht : P.underlying t = some (.slice e)) (h : Value.okWide P w r base t (.slice A n c)) :
    (A = none → n = 0 ∧ c = 0) ∧ (∀ ad, A = some ad → ad.spot = none) ∧ n ≤ c ∧ c ≤ 9223372036854775807 := by
  simp only [Value.okWide, ht, Cell.okWide] at h
  cases A with
  | none =>
    unfold Cell.ok at h
    rw [ht] at h
    split at h <;> simp_all
  | some a =>
    unfold Cell.ok at h
    rw [ht] at h
    simp only at h
    obtain ⟨h1, h2, h3⟩ := h
    refine ⟨(fun h => by cases h), fun ad e => ?_, h1, ?_⟩
    · injection e with e
      rw [← e]
      exact h3.2.1
    · have : IntKind.i64.max = 9223372036854775807 := by decide
      omega
end

/-- a list of bytes as argument -/
theorem open_u8s {H : Type} {enc : TypeId × Value → H} {W : World} {base : Nat} {r : Reach} {b0 : Nat} {v : Value} {d : DataW H} {p : List MemPlace} (hv : Value.okWide Tryz.prog W r b0 22 v) (h : DataW.Trod enc Tryz.prog W base (fun _ => true) true 22 v d p) :
    ∃ (A : Option Addr) (n c : Nat) (zs : List Int), v = .slice A n c ∧ Sl 1 u8c W A n zs ∧ (∀ z ∈ zs, 0 ≤ z ∧ z ≤ 255) ∧ (A = none → n = 0 ∧ c = 0) ∧ (∀ ad, A = some ad → ad.spot = none) ∧ n ≤ c ∧ c ≤ 9223372036854775807 := by
  obtain ⟨A, n, c, rfl⟩ := okWide_slice Tryz.underlying22 hv
  obtain ⟨f1, f2, f3, f4⟩ := okWide_slice_form Tryz.underlying22 hv
  obtain ⟨fuel, hf⟩ := h
  have hf' : DataW.trod enc Tryz.prog W base (fun _ => true) true fuel 22 [.slice A n c] = some (d, p) := hf
  rcases open_ints Tryz.underlying22 Tryz.underlying5 (by kernel_rfl) hf' with ⟨h0, _⟩ | ⟨a, len, cap, zs, h0, hb, hl, hm, hzl, _, hc, hw⟩
  · injection h0 with h0
    injection h0 with e1 e2 e3
    subst e1 e2 e3
    exact ⟨none, 0, 0, [], rfl, Sl.nil, fun z hz => (by cases hz), fun _ => ⟨rfl, rfl⟩, fun ad e => (by cases e), Nat.le_refl _, by omega⟩
  · injection h0 with h0
    injection h0 with e1 e2 e3
    subst e1 e2 e3
    refine ⟨some a, n, c, zs.take n, rfl, ⟨?_, fun hn => ?_⟩, fun z hz => bounds_u8 (hw z (List.mem_of_mem_take hz)), f1, f2, f3, f4⟩
    · rw [List.length_take, hzl]; simp; omega
    · obtain ⟨b, o, sp⟩ := a
      obtain rfl : sp = none := f2 _ rfl
      refine ⟨b, o, rfl, fun k x hx j u hu => ?_⟩
      rw [List.getElem?_take] at hx
      split at hx
      · rename_i hk
        rcases j with _ | j
        · simp only [u8c, List.getElem?_cons_zero, Option.some.injEq] at hu
          subst hu
          have hkl := (List.getElem?_eq_some_iff.1 hx).1
          have := hc k hkl
          rw [add_at] at this
          rw [Nat.mul_one, Nat.add_zero, this, List.getD, hx]
          rfl
        · simp [u8c] at hu
      · cases hx
end Go.Proofs.YtmnmckblmoalkaaGreat
