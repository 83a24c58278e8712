/-
  What the law's arguments are in memory, and that they read behind the call as before. No walk here.
-/
import Derived.Test.YtemllddgefahfaaCase
import Derived.ProofKit
import Derived.OpenShut
import Derived.ShutString
import Derived.Carry
import Derived.Deep.Slices
import Derived.Lib.SmallJoins
namespace Go.Proofs.Ytemllddgefahfaa
open Go.ChangeShapes Go.WideShapes Go.ChangeAt Go.RowKit
open Go.ChangeMaps (open_string shut_string)

theorem own : ownKnob Try.prog.godebug = none := by kernel_rfl
theorem laidOut : laidOutB Try.prog = true := by kernel_rfl

section
variable {H : Type} {enc : TypeId × Value → H} {P : Program}
/-- the arguments read behind the call as before -/
theorem trodAll_below (hl : laidOutB P = true) {W W' : World} (hb : Below W.heap.size W W') : ∀ {ts : List TypeId} {vs : List Value} {ds : List (DataW H)} {ps : List MemPlace},
    (∀ t ∈ ts, P.readableRec t = true ∧ t < P.types.size) → DataW.TrodAll enc P W 0 (fun _ => true) true ts vs ds ps → (∀ x ∈ ps, x.block < W.heap.size) → DataW.TrodAll enc P W' 0 (fun b => decide (b < W.heap.size)) true ts vs ds ps
  | [], vs, ds, ps, _, h, _ => by
    obtain ⟨rfl, rfl, rfl⟩ := trodAll_nil h
    exact trodAll_mk0
  | t :: ts, vs, ds, ps, ht, h, hlt => by
    obtain ⟨v0, vs0, d0, ds0, p0, q0, rfl, rfl, rfl, h0, r0⟩ := trodAll_cons h
    have hr := ht t List.mem_cons_self
    exact trodAll_cons_mk (Below.trod hl hr.1 hr.2 h0 hb (fun x hx => hlt x (List.mem_append_left _ hx))) (trodAll_below hl hb (fun t h => ht t (List.mem_cons_of_mem _ h)) r0 (fun x hx => hlt x (List.mem_append_right _ hx)))
theorem okWide_slice_form {w : World} {r : Reach} {base : Nat} {t e : TypeId} {A : Option Addr} {n c : Nat} (ht : P.underlying t = some (.slice e)) (h : Value.okWide P w r base t (.slice A n c)) :
    (A = none → n = 0 ∧ c = 0) ∧ (∀ ad, A = some ad → ad.spot = none) ∧ n ≤ c ∧ c ≤ 9223372036854775807 := by
  simp only [Value.okWide, ht, Cell.okWide] at h
  cases A with
  | none =>
    unfold Cell.ok at h
    rw [ht] at h
    split at h <;> simp_all
  | some a =>
    unfold Cell.ok at h
    rw [ht] at h
    simp only at h
    obtain ⟨h1, h2, h3⟩ := h
    refine ⟨(fun h => by cases h), fun ad e => ?_, h1, ?_⟩
    · injection e with e
      rw [← e]
      exact h3.2.1
    · have : IntKind.i64.max = 9223372036854775807 := by decide
      omega
theorem trod_fields {w : World} {base : Nat} {sp : Nat → Bool} {hd : Bool} {fuel : Nat} {t : TypeId} {cs : List Value} {x : DataW H × List MemPlace} {fs : Array Field} (ht : P.underlying t = some (.struct fs)) (h : DataW.trod enc P w base sp hd fuel t cs = some x) :
    ∃ n, cs.length = P.cellsOf t ∧ ∀ (i : Nat) (f : Field), fs[i]? = some f → ∃ y, DataW.trod enc P w base sp hd n f.type ((cs.drop f.offset).take (P.cellsOf f.type)) = some y := by
  obtain ⟨ys, n, _, _, hl, hyl, hf⟩ := DataW.trod_struct ht h
  refine ⟨n, hl, fun i f hi => ?_⟩
  have hlt : i < ys.length := by rw [hyl]; exact (Array.getElem?_eq_some_iff.1 hi).1
  exact ⟨ys[i], (hf i f hi).trans (List.getElem?_eq_getElem hlt)⟩
end

theorem choose_list {α : Type} {Q : Nat → α → Prop} : ∀ n : Nat, (∀ i, i < n → ∃ y, Q i y) → ∃ l : List α, l.length = n ∧ ∀ i y, l[i]? = some y → Q i y
  | 0, _ => ⟨[], rfl, fun i y h => (by simp at h)⟩
  | n + 1, h => by
    obtain ⟨l, hl, hi⟩ := choose_list n (fun i hi => h i (by omega))
    obtain ⟨y, hy⟩ := h n (by omega)
    refine ⟨l ++ [y], by simp [hl], fun i z hz => ?_⟩
    rcases Nat.lt_or_ge i l.length with h | h
    · rw [List.getElem?_append_left h] at hz
      exact hi i z hz
    · rw [List.getElem?_append_right h] at hz
      have h0 : i - l.length = 0 := by
        have := (List.getElem?_eq_some_iff.1 hz).1
        simp at this
        omega
      rw [h0] at hz
      have : y = z := by simpa using hz
      rw [← this, show i = n by omega]
      exact hy
/-- a list of bytes as argument -/
theorem open_u8s {H : Type} {enc : TypeId × Value → H} {W : World} {base : Nat} {r : Reach} {b0 : Nat} {v : Value} {d : DataW H} {p : List MemPlace} (hv : Value.okWide Try.prog W r b0 22 v) (h : DataW.Trod enc Try.prog W base (fun _ => true) true 22 v d p) :
    ∃ (A : Option Addr) (n c : Nat) (zs : List Int), v = .slice A n c ∧ Sl 1 u8c W A n zs ∧ (∀ z ∈ zs, 0 ≤ z ∧ z ≤ 255) ∧ (A = none → n = 0 ∧ c = 0) ∧ (∀ ad, A = some ad → ad.spot = none) ∧ n ≤ c ∧ c ≤ 9223372036854775807 := by
  obtain ⟨A, n, c, rfl⟩ := okWide_slice Try.underlying22 hv
  obtain ⟨f1, f2, f3, f4⟩ := okWide_slice_form Try.underlying22 hv
  obtain ⟨fuel, hf⟩ := h
  have hf' : DataW.trod enc Try.prog W base (fun _ => true) true fuel 22 [.slice A n c] = some (d, p) := hf
  rcases open_ints Try.underlying22 Try.underlying5 (by kernel_rfl) hf' with ⟨h0, _⟩ | ⟨a, len, cap, zs, h0, hb, hl, hm, hzl, _, hc, hw⟩
  · injection h0 with h0
    injection h0 with e1 e2 e3
    subst e1 e2 e3
    exact ⟨none, 0, 0, [], rfl, Sl.nil, fun z hz => (by cases hz), fun _ => ⟨rfl, rfl⟩, fun ad e => (by cases e), Nat.le_refl _, by omega⟩
  · injection h0 with h0
    injection h0 with e1 e2 e3
    subst e1 e2 e3
    refine ⟨some a, n, c, zs.take n, rfl, ⟨?_, fun hn => ?_⟩, fun z hz => bounds_u8 (hw z (List.mem_of_mem_take hz)), f1, f2, f3, f4⟩
    · rw [List.length_take, hzl]; simp; omega
    · obtain ⟨b, o, sp⟩ := a
      obtain rfl : sp = none := f2 _ rfl
      refine ⟨b, o, rfl, fun k x hx j u hu => ?_⟩
      rw [List.getElem?_take] at hx
      split at hx
      · rename_i hk
        rcases j with _ | j
        · simp only [u8c, List.getElem?_cons_zero, Option.some.injEq] at hu
          subst hu
          have hkl := (List.getElem?_eq_some_iff.1 hx).1
          have := hc k hkl
          rw [add_at] at this
          rw [Nat.mul_one, Nat.add_zero, this, List.getD, hx]
          rfl
        · simp [u8c] at hu
      · cases hx
/-- a value as argument -/
theorem open_vl {H : Type} {enc : TypeId × Value → H} {W : World} {base : Nat} {sp : Nat → Bool} {hd : Bool} {r : Reach} {b0 : Nat} {v : Value} {d : DataW H} {p : List MemPlace} (hv : Value.okWide Try.prog W r b0 24 v) (h : DataW.Trod enc Try.prog W base sp hd 24 v d p) :
    ∃ x : Vl, v = .agg #[.int .i64 x.k, .int .i64 x.i, .string x.t] ∧ x.t.size ≤ 9223372036854775807 := by
  obtain ⟨v0, v1, v2, y0, y1, y2, n, rfl, _, _, h0, h1, h2⟩ := Joins.open_agg3 Try.underlying24 (by kernel_rfl) (by kernel_rfl) hv h
  obtain ⟨a, e0, _, _⟩ := DataW.trod_int (k := .i64) (by kernel_rfl) h0
  obtain ⟨b, e1, _, _⟩ := DataW.trod_int (k := .i64) (by kernel_rfl) h1
  obtain ⟨s, e2, _, hs⟩ := DataW.trod_string (by kernel_rfl) h2
  injection e0 with e0
  injection e1 with e1
  injection e2 with e2
  subst e0 e1 e2
  exact ⟨⟨a, b, s⟩, rfl, hs⟩
theorem trod_vl {H : Type} {enc : TypeId × Value → H} {W : World} {base : Nat} {sp : Nat → Bool} {hd : Bool} {fuel : Nat} {cs : List Value} {x : DataW H × List MemPlace} (h : DataW.trod enc Try.prog W base sp hd fuel 24 cs = some x) :
    ∃ y : Vl, cs = y.cs ∧ y.t.size ≤ 9223372036854775807 := by
  obtain ⟨n, hl, g⟩ := trod_fields Try.underlying24 h
  have hl' : cs.length = 3 := hl.trans (by kernel_rfl)
  match cs, hl' with
  | [v0, v1, v2], _ =>
    obtain ⟨y0, g0⟩ := g 0 _ rfl
    obtain ⟨y1, g1⟩ := g 1 _ rfl
    obtain ⟨y2, g2⟩ := g 2 _ rfl
    obtain ⟨a, e0, _, _⟩ := DataW.trod_int (k := .i64) (by kernel_rfl) g0
    obtain ⟨b, e1, _, _⟩ := DataW.trod_int (k := .i64) (by kernel_rfl) g1
    obtain ⟨s, e2, _, hs⟩ := DataW.trod_string (by kernel_rfl) g2
    have f0 : v0 = .int .i64 a := by
      have : [v0] = [.int .i64 a] := e0
      injection this
    have f1 : v1 = .int .i64 b := by
      have : [v1] = [.int .i64 b] := e1
      injection this
    have f2 : v2 = .string s := by
      have : [v2] = [.string s] := e2
      injection this
    subst f0 f1 f2
    exact ⟨⟨a, b, s⟩, rfl, hs⟩
end Go.Proofs.Ytemllddgefahfaa
