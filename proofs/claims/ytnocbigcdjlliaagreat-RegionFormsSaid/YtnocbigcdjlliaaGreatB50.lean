/-
  Texts: Open, OpenRow, OpenRg.
-/
import Derived.Test.YtnocbigcdjlliaaGreatB41
import Derived.ProofKit
import Derived.OpenShut
import Derived.ShutString
import Derived.Carry
import Derived.Deep.Slices
import Derived.Lib.SmallJoins
import Derived.Test.YtnocbigcdjlliaaGreatB24
set_option linter.unusedVariables false
/-
  What the law's arguments are in memory, and that they read behind the call as before. No walk here.
-/
namespace Go.Proofs.YtnocbigcdjlliaaGreat
open Go.ChangeShapes Go.WideShapes Go.ChangeAt Go.RowKit
set_option maxRecDepth 100000
open Go.ChangeMaps (open_string shut_string)

theorem own : ownKnob Tryz.prog.godebug = none := by kernel_rfl
theorem laidOut : laidOutB Tryz.prog = true := by kernel_rfl

section
variable {H : Type} {enc : TypeId × Value → H} {P : Program}
/-- the arguments read behind the call as before -/
theorem trodAll_below (hl : laidOutB P = true) {W W' : World} (hb : Below W.heap.size W W') : ∀ {ts : List TypeId} {vs : List Value} {ds : List (DataW H)} {ps : List MemPlace},
    (∀ t ∈ ts, P.readableRec t = true ∧ t < P.types.size) → DataW.TrodAll enc P W 0 (fun _ => true) true ts vs ds ps → (∀ x ∈ ps, x.block < W.heap.size) → DataW.TrodAll enc P W' 0 (fun b => decide (b < W.heap.size)) true ts vs ds ps
  | [], vs, ds, ps, _, h, _ => by
    obtain ⟨rfl, rfl, rfl⟩ := trodAll_nil h
    exact trodAll_mk0
  | t :: ts, vs, ds, ps, ht, h, hlt => by
    obtain ⟨v0, vs0, d0, ds0, p0, q0, rfl, rfl, rfl, h0, r0⟩ := trodAll_cons h
    have hr := ht t List.mem_cons_self
    exact trodAll_cons_mk (Below.trod hl hr.1 hr.2 h0 hb (fun x hx => hlt x (List.mem_append_left _ hx))) (trodAll_below hl hb (fun t h => ht t (List.mem_cons_of_mem _ h)) r0 (fun x hx => hlt x (List.mem_append_right _ hx)))
theorem okWide_slice_form {w : World} {r : Reach} {base : Nat} {t e : TypeId} {A : Option Addr} {n c : Nat} (ht : P.underlying t = some (.slice e)) (h : Value.okWide P w r base t (.slice A n c)) :
    (A = none → n = 0 ∧ c = 0) ∧ (∀ ad, A = some ad → ad.spot = none) ∧ n ≤ c ∧ c ≤ 9223372036854775807 := by
  simp only [Value.okWide, ht, Cell.okWide] at h
  cases A with
  | none =>
    unfold Cell.ok at h
    rw [ht] at h
    split at h <;> simp_all
  | some a =>
    unfold Cell.ok at h
    rw [ht] at h
    simp only at h
    obtain ⟨h1, h2, h3⟩ := h
    refine ⟨(fun h => by cases h), fun ad e => ?_, h1, ?_⟩
    · injection e with e
      rw [← e]
      exact h3.2.1
    · have : IntKind.i64.max = 9223372036854775807 := by decide
      omega
theorem trod_fields {w : World} {base : Nat} {sp : Nat → Bool} {hd : Bool} {fuel : Nat} {t : TypeId} {cs : List Value} {x : DataW H × List MemPlace} {fs : Array Field} (ht : P.underlying t = some (.struct fs)) (h : DataW.trod enc P w base sp hd fuel t cs = some x) :
    ∃ n, cs.length = P.cellsOf t ∧ ∀ (i : Nat) (f : Field), fs[i]? = some f → ∃ y, DataW.trod enc P w base sp hd n f.type ((cs.drop f.offset).take (P.cellsOf f.type)) = some y := by
  obtain ⟨ys, n, _, _, hl, hyl, hf⟩ := DataW.trod_struct ht h
  refine ⟨n, hl, fun i f hi => ?_⟩
  have hlt : i < ys.length := by rw [hyl]; exact (Array.getElem?_eq_some_iff.1 hi).1
  exact ⟨ys[i], (hf i f hi).trans (List.getElem?_eq_getElem hlt)⟩
end

theorem choose_list {α : Type} {Q : Nat → α → Prop} : ∀ n : Nat, (∀ i, i < n → ∃ y, Q i y) → ∃ l : List α, l.length = n ∧ ∀ i y, l[i]? = some y → Q i y
  | 0, _ => ⟨[], rfl, fun i y h => (by simp at h)⟩
  | n + 1, h => by
    obtain ⟨l, hl, hi⟩ := choose_list n (fun i hi => h i (by omega))
    obtain ⟨y, hy⟩ := h n (by omega)
    refine ⟨l ++ [y], by simp [hl], fun i z hz => ?_⟩
    rcases Nat.lt_or_ge i l.length with h | h
    · rw [List.getElem?_append_left h] at hz
      exact hi i z hz
    · rw [List.getElem?_append_right h] at hz
      have h0 : i - l.length = 0 := by
        have := (List.getElem?_eq_some_iff.1 hz).1
        simp at this
        omega
      rw [h0] at hz
      have : y = z := by simpa using hz
      rw [← this, show i = n by omega]
      exact hy
/-- a list of bytes as argument -/
theorem open_u8s {H : Type} {enc : TypeId × Value → H} {W : World} {base : Nat} {r : Reach} {b0 : Nat} {v : Value} {d : DataW H} {p : List MemPlace} (hv : Value.okWide Tryz.prog W r b0 22 v) (h : DataW.Trod enc Tryz.prog W base (fun _ => true) true 22 v d p) :
    ∃ (A : Option Addr) (n c : Nat) (zs : List Int), v = .slice A n c ∧ Sl 1 u8c W A n zs ∧ (∀ z ∈ zs, 0 ≤ z ∧ z ≤ 255) ∧ (A = none → n = 0 ∧ c = 0) ∧ (∀ ad, A = some ad → ad.spot = none) ∧ n ≤ c ∧ c ≤ 9223372036854775807 := by
  obtain ⟨A, n, c, rfl⟩ := okWide_slice Tryz.underlying22 hv
  obtain ⟨f1, f2, f3, f4⟩ := okWide_slice_form Tryz.underlying22 hv
  obtain ⟨fuel, hf⟩ := h
  have hf' : DataW.trod enc Tryz.prog W base (fun _ => true) true fuel 22 [.slice A n c] = some (d, p) := hf
  rcases open_ints Tryz.underlying22 Tryz.underlying5 (by kernel_rfl) hf' with ⟨h0, _⟩ | ⟨a, len, cap, zs, h0, hb, hl, hm, hzl, _, hc, hw⟩
  · injection h0 with h0
    injection h0 with e1 e2 e3
    subst e1 e2 e3
    exact ⟨none, 0, 0, [], rfl, Sl.nil, fun z hz => (by cases hz), fun _ => ⟨rfl, rfl⟩, fun ad e => (by cases e), Nat.le_refl _, by omega⟩
  · injection h0 with h0
    injection h0 with e1 e2 e3
    subst e1 e2 e3
    refine ⟨some a, n, c, zs.take n, rfl, ⟨?_, fun hn => ?_⟩, fun z hz => bounds_u8 (hw z (List.mem_of_mem_take hz)), f1, f2, f3, f4⟩
    · rw [List.length_take, hzl]; simp; omega
    · obtain ⟨b, o, sp⟩ := a
      obtain rfl : sp = none := f2 _ rfl
      refine ⟨b, o, rfl, fun k x hx j u hu => ?_⟩
      rw [List.getElem?_take] at hx
      split at hx
      · rename_i hk
        rcases j with _ | j
        · simp only [u8c, List.getElem?_cons_zero, Option.some.injEq] at hu
          subst hu
          have hkl := (List.getElem?_eq_some_iff.1 hx).1
          have := hc k hkl
          rw [add_at] at this
          rw [Nat.mul_one, Nat.add_zero, this, List.getD, hx]
          rfl
        · simp [u8c] at hu
      · cases hx
/-- a value as argument -/
theorem open_vl {H : Type} {enc : TypeId × Value → H} {W : World} {base : Nat} {sp : Nat → Bool} {hd : Bool} {r : Reach} {b0 : Nat} {v : Value} {d : DataW H} {p : List MemPlace} (hv : Value.okWide Tryz.prog W r b0 67 v) (h : DataW.Trod enc Tryz.prog W base sp hd 67 v d p) :
    ∃ x : Vl, v = .agg #[.int .i64 x.k, .int .i64 x.i, .string x.t] ∧ x.t.size ≤ 9223372036854775807 := by
  obtain ⟨v0, v1, v2, y0, y1, y2, n, rfl, _, _, h0, h1, h2⟩ := Joins.open_agg3 Tryz.underlying67 (by kernel_rfl) (by kernel_rfl) hv h
  obtain ⟨a, e0, _, _⟩ := DataW.trod_int (k := .i64) (by kernel_rfl) h0
  obtain ⟨b, e1, _, _⟩ := DataW.trod_int (k := .i64) (by kernel_rfl) h1
  obtain ⟨s, e2, _, hs⟩ := DataW.trod_string (by kernel_rfl) h2
  injection e0 with e0
  injection e1 with e1
  injection e2 with e2
  subst e0 e1 e2
  exact ⟨⟨a, b, s⟩, rfl, hs⟩
theorem trod_vl {H : Type} {enc : TypeId × Value → H} {W : World} {base : Nat} {sp : Nat → Bool} {hd : Bool} {fuel : Nat} {cs : List Value} {x : DataW H × List MemPlace} (h : DataW.trod enc Tryz.prog W base sp hd fuel 67 cs = some x) :
    ∃ y : Vl, cs = y.cs ∧ y.t.size ≤ 9223372036854775807 := by
  obtain ⟨n, hl, g⟩ := trod_fields Tryz.underlying67 h
  have hl' : cs.length = 3 := hl.trans (by kernel_rfl)
  match cs, hl' with
  | [v0, v1, v2], _ =>
    obtain ⟨y0, g0⟩ := g 0 _ rfl
    obtain ⟨y1, g1⟩ := g 1 _ rfl
    obtain ⟨y2, g2⟩ := g 2 _ rfl
    obtain ⟨a, e0, _, _⟩ := DataW.trod_int (k := .i64) (by kernel_rfl) g0
    obtain ⟨b, e1, _, _⟩ := DataW.trod_int (k := .i64) (by kernel_rfl) g1
    obtain ⟨s, e2, _, hs⟩ := DataW.trod_string (by kernel_rfl) g2
    have f0 : v0 = .int .i64 a := by
      have : [v0] = [.int .i64 a] := e0
      injection this
    have f1 : v1 = .int .i64 b := by
      have : [v1] = [.int .i64 b] := e1
      injection this
    have f2 : v2 = .string s := by
      have : [v2] = [.string s] := e2
      injection this
    subst f0 f1 f2
    exact ⟨⟨a, b, s⟩, rfl, hs⟩
end Go.Proofs.YtnocbigcdjlliaaGreat

namespace Go.Proofs.YtnocbigcdjlliaaGreat
open Go.ChangeShapes Go.WideShapes Go.ChangeAt Go.RowKit
set_option maxRecDepth 100000

/-- a row as argument -/
theorem open_row {H : Type} {enc : TypeId × Value → H} {W : World} {base : Nat} {r : Reach} {b0 : Nat} {v : Value} {d : DataW H} {p : List MemPlace} (hv : Value.okWide Tryz.prog W r b0 46 v) (h : DataW.Trod enc Tryz.prog W base (fun _ => true) true 46 v d p) :
    ∃ (A : Option Addr) (n c : Nat) (l : List Vl), v = .slice A n c ∧ VlS W A n l ∧ (A = none → n = 0 ∧ c = 0) ∧ (∀ ad, A = some ad → ad.spot = none) ∧ n ≤ c ∧ c ≤ 9223372036854775807 := by
  obtain ⟨A, n, c, rfl⟩ := okWide_slice Tryz.underlying46 hv
  obtain ⟨f1, f2, f3, f4⟩ := okWide_slice_form Tryz.underlying46 hv
  obtain ⟨fuel, hf⟩ := h
  have hf' : DataW.trod enc Tryz.prog W base (fun _ => true) true fuel 46 [.slice A n c] = some (d, p) := hf
  rcases Go.Deep.open_slice Tryz.underlying46 hf' with ⟨h0, _⟩ | ⟨a, len, cap, m, q, D, Pl, h0, hb, hl, hm, hmm, _, hc⟩
  · injection h0 with h0
    injection h0 with e1 e2 e3
    subst e1 e2 e3
    exact ⟨none, 0, 0, [], rfl, Sl.nil, fun _ => ⟨rfl, rfl⟩, fun ad e => (by cases e), Nat.le_refl _, by omega⟩
  · injection h0 with h0
    injection h0 with e1 e2 e3
    subst e1 e2 e3
    have c3 : Tryz.prog.cellsOf 67 = 3 := by kernel_rfl
    rw [c3] at hc
    have hcell : ∀ i, i < n → ∃ y : Vl, ∀ (j : Nat) (u : Value), y.cs[j]? = some u → W.cell? ((a.add (i * 3)).add j) = some u := by
      intro i hi
      obtain ⟨cs', h1, h2⟩ := hc i (by rw [hmm]; simp; omega)
      obtain ⟨y, rfl, _⟩ := trod_vl h2
      obtain ⟨_, hcl, hat⟩ := World.cells?_some h1
      refine ⟨y, fun j u hu => ?_⟩
      have hj : j < 3 := by have := (List.getElem?_eq_some_iff.1 hu).1; simpa [Vl.cs] using this
      rw [hat j hj, hu]
    have hall := choose_list n hcell
    obtain ⟨l, hll, hli⟩ := hall
    refine ⟨some a, n, c, l, rfl, ⟨hll, fun hn => ?_⟩, f1, f2, f3, f4⟩
    obtain ⟨b, o, sp⟩ := a
    obtain rfl : sp = none := f2 _ rfl
    refine ⟨b, o, rfl, fun k x hx j u hu => ?_⟩
    have := hli k x hx j u hu
    rw [add_at, add_at] at this
    exact this
/-- the reading of a row that lies in memory -/
theorem trod_row {H : Type} {enc : TypeId × Value → H} {W : World} {base : Nat} {fuel : Nat} {v : Value} {x : DataW H × List MemPlace} (h : DataW.trod enc Tryz.prog W base (fun _ => true) true fuel 46 [v] = some x) :
    ∃ p : RowP, v = .slice p.1.1 p.1.2.1 p.1.2.2 ∧ RowOk W p ∧ 32 * p.1.2.2 ≤ 9223372036854775807 * 32 := by
  rcases Go.Deep.open_slice Tryz.underlying46 h with ⟨h0, _⟩ | ⟨a, len, cap, m, q, D, Pl, h0, hb, hl, hm, hmm, _, hc⟩
  · injection h0 with h0
    exact ⟨((none, 0, 0), []), h0, ⟨Sl.nil, fun _ => ⟨rfl, rfl⟩, Nat.le_refl _, by simp⟩, by simp⟩
  · injection h0 with h0
    have c3 : Tryz.prog.cellsOf 67 = 3 := by kernel_rfl
    rw [c3] at hc
    have hcell : ∀ i, i < len → ∃ y : Vl, ∀ (j : Nat) (u : Value), y.cs[j]? = some u → W.cell? ((a.add (i * 3)).add j) = some u := by
      intro i hi
      obtain ⟨cs', h1, h2⟩ := hc i (by rw [hmm]; simp; omega)
      obtain ⟨y, rfl, _⟩ := trod_vl h2
      obtain ⟨_, hcl, hat⟩ := World.cells?_some h1
      refine ⟨y, fun j u hu => ?_⟩
      have hj : j < 3 := by have := (List.getElem?_eq_some_iff.1 hu).1; simpa [Vl.cs] using this
      rw [hat j hj, hu]
    obtain ⟨l, hll, hli⟩ := choose_list len hcell
    have hmx : cap ≤ 9223372036854775807 := by simpa [maxLen] using hm
    refine ⟨((some a, len, cap), l), h0, ⟨⟨hll, fun hn => ?_⟩, fun h => (by cases h), hl, hmx⟩, by simp only; omega⟩
    obtain ⟨b, o, sp⟩ := a
    have hn' : 0 < len := hn
    have h0l : 0 < l.length := by omega
    have g0 := hli 0 _ (List.getElem?_eq_getElem h0l) 0 _ rfl
    have hsp : sp = none := by
      have := World.cell?_spot g0
      simpa [Addr.add] using this
    subst hsp
    refine ⟨b, o, rfl, fun k x hx j u hu => ?_⟩
    have := hli k x hx j u hu
    rw [add_at, add_at] at this
    exact this
/-- a list of rows as argument -/
theorem open_rows {H : Type} {enc : TypeId × Value → H} {W : World} {base : Nat} {r : Reach} {b0 : Nat} {v : Value} {d : DataW H} {p : List MemPlace} (hv : Value.okWide Tryz.prog W r b0 54 v) (h : DataW.Trod enc Tryz.prog W base (fun _ => true) true 54 v d p) :
    ∃ (A : Option Addr) (n c : Nat) (l : List RowP), v = .slice A n c ∧ RowsS W A n l ∧ (A = none → n = 0 ∧ c = 0) ∧ (∀ ad, A = some ad → ad.spot = none) ∧ n ≤ c ∧ c ≤ 9223372036854775807 := by
  obtain ⟨A, n, c, rfl⟩ := okWide_slice Tryz.underlying54 hv
  obtain ⟨f1, f2, f3, f4⟩ := okWide_slice_form Tryz.underlying54 hv
  obtain ⟨fuel, hf⟩ := h
  have hf' : DataW.trod enc Tryz.prog W base (fun _ => true) true fuel 54 [.slice A n c] = some (d, p) := hf
  rcases Go.Deep.open_slice Tryz.underlying54 hf' with ⟨h0, _⟩ | ⟨a, len, cap, m, q, D, Pl, h0, hb, hl, hm, hmm, _, hc⟩
  · injection h0 with h0
    injection h0 with e1 e2 e3
    subst e1 e2 e3
    exact ⟨none, 0, 0, [], rfl, ⟨Sl.nil, fun p hp => (by cases hp)⟩, fun _ => ⟨rfl, rfl⟩, fun ad e => (by cases e), Nat.le_refl _, by omega⟩
  · injection h0 with h0
    injection h0 with e1 e2 e3
    subst e1 e2 e3
    have c1 : Tryz.prog.cellsOf 46 = 1 := by kernel_rfl
    rw [c1] at hc
    have hcell : ∀ i, i < n → ∃ y : RowP, RowOk W y ∧ W.cell? (a.add i) = some (.slice y.1.1 y.1.2.1 y.1.2.2) := by
      intro i hi
      obtain ⟨cs', h1, h2⟩ := hc i (by rw [hmm]; simp; omega)
      obtain ⟨_, hcl, hat⟩ := World.cells?_some h1
      match cs', hcl with
      | [v0], _ =>
        obtain ⟨y, rfl, hy, _⟩ := trod_row h2
        refine ⟨y, hy, ?_⟩
        have := hat 0 (by omega)
        rw [Go.Deep.add_add] at this
        simpa using this
    obtain ⟨l, hll, hli⟩ := choose_list n hcell
    refine ⟨some a, n, c, l, rfl, ⟨⟨hll, fun hn => ?_⟩, fun p hp => ?_⟩, f1, f2, f3, f4⟩
    · obtain ⟨b, o, sp⟩ := a
      obtain rfl : sp = none := f2 _ rfl
      refine ⟨b, o, rfl, fun k x hx j u hu => ?_⟩
      rcases j with _ | j
      · simp only [rowc, List.getElem?_cons_zero, Option.some.injEq] at hu
        subst hu
        have := (hli k x hx).2
        rw [add_at] at this
        rw [Nat.mul_one, Nat.add_zero]
        exact this
      · simp [rowc] at hu
    · obtain ⟨k, hk⟩ := List.getElem?_of_mem hp
      exact (hli k p hk).1
end Go.Proofs.YtnocbigcdjlliaaGreat

/-
  A region as argument: whatever is handed in reads as a tree; its values are in the range of their type. No walk here.
-/
namespace Go.Proofs.YtnocbigcdjlliaaGreat
open Go.ChangeShapes Go.WideShapes Go.ChangeAt Go.RowKit
set_option maxRecDepth 100000
open Rg

section
variable {H : Type} {enc : TypeId × Value → H} {W : World} {base : Nat}
theorem trod_vl2 {fuel : Nat} {cs : List Value} {x : DataW H × List MemPlace} (h : DataW.trod enc Tryz.prog W base (fun _ => true) true fuel 67 cs = some x) :
    ∃ y : Vl, cs = y.cs ∧ rgV y := by
  obtain ⟨n, hl, g⟩ := trod_fields Tryz.underlying67 h
  have hl' : cs.length = 3 := hl.trans (by kernel_rfl)
  match cs, hl' with
  | [v0, v1, v2], _ =>
    obtain ⟨y0, g0⟩ := g 0 _ rfl
    obtain ⟨y1, g1⟩ := g 1 _ rfl
    obtain ⟨y2, g2⟩ := g 2 _ rfl
    obtain ⟨a, e0, _, _⟩ := DataW.trod_int (k := .i64) (by kernel_rfl) g0
    obtain ⟨b, e1, _, hr⟩ := DataW.trod_int (k := .i64) (by kernel_rfl) g1
    obtain ⟨s, e2, _, hs⟩ := DataW.trod_string (by kernel_rfl) g2
    have f0 : v0 = .int .i64 a := by
      have : [v0] = [.int .i64 a] := e0
      injection this
    have f1 : v1 = .int .i64 b := by
      have : [v1] = [.int .i64 b] := e1
      injection this
    have f2 : v2 = .string s := by
      have : [v2] = [.string s] := e2
      injection this
    subst f0 f1 f2
    refine ⟨⟨a, b, s⟩, rfl, ?_⟩
    have m1 : IntKind.i64.min = -9223372036854775808 := by decide
    have m2 : IntKind.i64.max = 9223372036854775807 := by decide
    simp only [Lit.wf, Bool.and_eq_true, decide_eq_true_eq] at hr
    show -9223372036854775808 ≤ b ∧ b < 9223372036854775808
    omega
theorem trod_iv2 {fuel : Nat} {cs : List Value} {x : DataW H × List MemPlace} (h : DataW.trod enc Tryz.prog W base (fun _ => true) true fuel 70 cs = some x) :
    ∃ y : Iv, cs = y.cs ∧ rgV y.f ∧ rgV y.t := by
  obtain ⟨n, hl, g⟩ := trod_fields Tryz.underlying70 h
  have hl' : cs.length = 7 := hl.trans (by kernel_rfl)
  match cs, hl' with
  | [v0, v1, v2, v3, v4, v5, v6], _ =>
    obtain ⟨y0, g0⟩ := g 0 _ rfl
    obtain ⟨y1, g1⟩ := g 1 _ rfl
    obtain ⟨y2, g2⟩ := g 2 _ rfl
    obtain ⟨a, e0, ra⟩ := trod_vl2 g0
    obtain ⟨b, e1, rb⟩ := trod_vl2 g1
    obtain ⟨q, e2, _⟩ := DataW.trod_bool (by kernel_rfl) g2
    have c3 : Tryz.prog.cellsOf 67 = 3 := by kernel_rfl
    have c1 : Tryz.prog.cellsOf 4 = 1 := by kernel_rfl
    have f0 : [v0, v1, v2] = a.cs := by rw [← e0]; simp [c3]
    have f1 : [v3, v4, v5] = b.cs := by rw [← e1]; simp [c3]
    have f2 : [v6] = [.bool q] := by rw [← e2]; simp [c1]
    simp only [Vl.cs, List.cons.injEq, and_true] at f0 f1 f2
    obtain ⟨rfl, rfl, rfl⟩ := f0
    obtain ⟨rfl, rfl, rfl⟩ := f1
    subst f2
    exact ⟨⟨a, b, q⟩, rfl, ra, rb⟩
/-- the elements of a slice, each with the fuel that is left -/
theorem trod_elems {t e : TypeId} {fuel : Nat} {cs : List Value} {x : DataW H × List MemPlace} (ht : Tryz.prog.underlying t = some (.slice e)) (h : DataW.trod enc Tryz.prog W base (fun _ => true) true fuel t cs = some x) :
    (cs = [.slice none 0 0]) ∨ ∃ (a : Addr) (len cap n : Nat), fuel = n + 1 ∧ cs = [.slice (some a) len cap] ∧ len ≤ cap ∧
      ∀ i, i < len → ∃ cs' y, W.cells? base (a.add (i * Tryz.prog.cellsOf e)) (Tryz.prog.cellsOf e) = some cs' ∧ DataW.trod enc Tryz.prog W base (fun _ => true) true n e cs' = some y := by
  rcases DataW.trod_slice ht h with ⟨h0, _⟩ | ⟨a, len, cap, elems, rest, n, hn, h0, _, _, hl, _, hlen, hel, _⟩
  · exact .inl h0
  · refine .inr ⟨a, len, cap, n, hn, h0, hl, fun i hi => ?_⟩
    have h1 := hel i hi
    rw [List.getElem?_eq_getElem (by omega)] at h1
    obtain ⟨cs', h2, h3⟩ := Option.bind_eq_some_iff.1 h1
    exact ⟨cs', _, h2, h3⟩
/-- a list of intervals that lies in memory -/
theorem trod_ivs2 {fuel : Nat} {v : Value} {x : DataW H × List MemPlace} (h : DataW.trod enc Tryz.prog W base (fun _ => true) true fuel 64 [v] = some x) :
    ∃ (A : Option Addr) (n c : Nat) (l : List Iv), v = .slice A n c ∧ IvS W A n l ∧ okS A n c ∧ ∀ y ∈ l, rgV y.f ∧ rgV y.t := by
  rcases trod_elems Tryz.underlying64 h with h0 | ⟨a, len, cap, m, _, h0, hl, hc⟩
  · injection h0 with h0
    exact ⟨none, 0, 0, [], h0, Sl.nil, ⟨Nat.le_refl _, fun _ => ⟨rfl, rfl⟩⟩, fun y hy => (by cases hy)⟩
  · injection h0 with h0
    have c7 : Tryz.prog.cellsOf 70 = 7 := by kernel_rfl
    rw [c7] at hc
    have hcell : ∀ i, i < len → ∃ y : Iv, (rgV y.f ∧ rgV y.t) ∧ ∀ (j : Nat) (u : Value), y.cs[j]? = some u → W.cell? ((a.add (i * 7)).add j) = some u := by
      intro i hi
      obtain ⟨cs', x', h1, h2⟩ := hc i hi
      obtain ⟨y, rfl, hr⟩ := trod_iv2 h2
      obtain ⟨_, hcl, hat⟩ := World.cells?_some h1
      refine ⟨y, hr, fun j u hu => ?_⟩
      have hj : j < 7 := by have := (List.getElem?_eq_some_iff.1 hu).1; simpa [Iv.cs] using this
      rw [hat j hj, hu]
    obtain ⟨l, hll, hli⟩ := choose_list len hcell
    refine ⟨some a, len, cap, l, h0, ⟨hll, fun hn => ?_⟩, ⟨hl, fun h => (by cases h)⟩, fun y hy => ?_⟩
    rotate_left
    · obtain ⟨k, hk⟩ := List.getElem?_of_mem hy
      exact (hli k y hk).1
    obtain ⟨b, o, sp⟩ := a
    have h0l : 0 < l.length := by omega
    have g0 := (hli 0 _ (List.getElem?_eq_getElem h0l)).2 0 _ rfl
    have hsp : sp = none := by
      have := World.cell?_spot g0
      simpa [Addr.add] using this
    subst hsp
    refine ⟨b, o, rfl, fun k x hx j u hu => ?_⟩
    have := (hli k x hx).2 j u hu
    rw [add_at, add_at] at this
    exact this
/-- the data of one part -/
structure PtD where
  p : List Iv × Rg
  A : Option Addr
  n : Nat
  c : Nat
  x : Int
  f : Bool
  A' : Option Addr
  n' : Nat
  c' : Nat
theorem trod_region : ∀ (fuel : Nat) (cs : List Value) (xx : DataW H × List MemPlace), DataW.trod enc Tryz.prog W base (fun _ => true) true fuel 28 cs = some xx →
    ∃ (x : Int) (f : Bool) (A : Option Addr) (n c : Nat) (r : Rg), cs = [.int .i64 x, .bool f, .slice A n c] ∧ RgS W x f A n c r ∧ WfR r := by
  intro fuel
  induction fuel using Nat.strongRecOn with
  | _ fuel ih =>
    intro cs xx h
    obtain ⟨xs, n0, hf0, _, hl, hxs, g⟩ := DataW.trod_struct Tryz.underlying28 h
    have hl' : cs.length = 3 := hl.trans (by kernel_rfl)
    have c1i : Tryz.prog.cellsOf 3 = 1 := by kernel_rfl
    have c1b : Tryz.prog.cellsOf 4 = 1 := by kernel_rfl
    have c1s : Tryz.prog.cellsOf 26 = 1 := by kernel_rfl
    have hx3 : xs.length = 3 := hxs.trans (by kernel_rfl)
    match cs, hl', xs, hx3 with
    | [v0, v1, v2], _, [x0, x1, x2], _ =>
    have g0 := g 0 _ rfl
    have g1 := g 1 _ rfl
    have g2 := g 2 _ rfl
    obtain ⟨x, e0, _, _⟩ := DataW.trod_int (k := .i64) (by kernel_rfl) g0
    obtain ⟨f, e1, _⟩ := DataW.trod_bool (by kernel_rfl) g1
    have f0 : v0 = .int .i64 x := by
      have : [v0] = [.int .i64 x] := e0
      injection this
    have f1 : v1 = .bool f := by
      have : [v1] = [.bool f] := e1
      injection this
    subst f0 f1
    have g2' : DataW.trod enc Tryz.prog W base (fun _ => true) true n0 26 [v2] = some x2 := g2
    rcases trod_elems Tryz.underlying26 g2' with h0 | ⟨a, len, cap, n1, hf1, h0, hlc, hc⟩
    · injection h0 with h0
      subst h0
      exact ⟨x, f, none, 0, 0, .nil x f, rfl, RgS.nil x f, trivial⟩
    · injection h0 with h0
      subst h0
      have c4 : Tryz.prog.cellsOf 85 = 4 := by kernel_rfl
      rw [c4] at hc
      have hcell : ∀ i, i < len → ∃ d : PtD, (W.cell? ((a.add (i * 4)).add 0) = some (.slice d.A d.n d.c) ∧ W.cell? ((a.add (i * 4)).add 1) = some (.int .i64 d.x) ∧ W.cell? ((a.add (i * 4)).add 2) = some (.bool d.f) ∧ W.cell? ((a.add (i * 4)).add 3) = some (.slice d.A' d.n' d.c')) ∧ okS d.A d.n d.c ∧ IvS W d.A d.n d.p.1 ∧ RgS W d.x d.f d.A' d.n' d.c' d.p.2 ∧ (∀ y ∈ d.p.1, rgV y.f ∧ rgV y.t) ∧ WfR d.p.2 := by
        intro i hi
        obtain ⟨cs', x', h1, h2⟩ := hc i hi
        obtain ⟨ys, n2, hf2, _, hl2, hys, g3⟩ := DataW.trod_struct Tryz.underlying85 h2
        have hl4 : cs'.length = 4 := hl2.trans (by kernel_rfl)
        have hy2 : ys.length = 2 := hys.trans (by kernel_rfl)
        obtain ⟨_, hcl, hat⟩ := World.cells?_some h1
        match cs', hl4, ys, hy2 with
        | [u0, u1, u2, u3], _, [y0, y1], _ =>
          have k0 : DataW.trod enc Tryz.prog W base (fun _ => true) true n2 64 [u0] = some y0 := g3 0 _ rfl
          have k1 : DataW.trod enc Tryz.prog W base (fun _ => true) true n2 28 [u1, u2, u3] = some y1 := g3 1 _ rfl
          obtain ⟨A1, m1, c1, l, rfl, hiv, hok, hrg⟩ := trod_ivs2 k0
          obtain ⟨px, pf, A2, m2, c2, r, hcs, hr, hw⟩ := ih n2 (by omega) _ _ k1
          simp only [List.cons.injEq, and_true] at hcs
          obtain ⟨rfl, rfl, rfl⟩ := hcs
          exact ⟨⟨(l, r), A1, m1, c1, px, pf, A2, m2, c2⟩, ⟨by rw [hat 0 (by omega)]; rfl, by rw [hat 1 (by omega)]; rfl, by rw [hat 2 (by omega)]; rfl, by rw [hat 3 (by omega)]; rfl⟩, hok, hiv, hr, hrg, hw⟩
      obtain ⟨L, hLl, hLi⟩ := choose_list len hcell
      refine ⟨x, f, some a, len, cap, mkR x f (L.map PtD.p), rfl, ⟨w_mk _ _ _, f_mk _ _ _, ⟨hlc, fun h => (by cases h)⟩, by rw [len_mk, List.length_map, hLl], fun hn => ?_⟩, WfR.of fun p hp => ?_⟩
      · obtain ⟨b, o, sp⟩ := a
        have h0l : 0 < L.length := by omega
        have g0 := (hLi 0 _ (List.getElem?_eq_getElem h0l)).1.1
        have hsp : sp = none := by
          have := World.cell?_spot g0
          simpa [Addr.add] using this
        subst hsp
        refine ⟨b, o, rfl, RgP.of fun k p hp => ?_⟩
        rw [parts_mk, List.getElem?_map] at hp
        obtain ⟨d, hd, rfl⟩ := Option.map_eq_some_iff.1 hp
        obtain ⟨⟨d0, d1, d2, d3⟩, hok, hiv, hr, _, _⟩ := hLi k d hd
        rw [add_at, add_at] at d0 d1 d2 d3
        exact ⟨d.A, d.n, d.c, d.x, d.f, d.A', d.n', d.c', d0, d1, d2, d3, hok, hiv, hr⟩
      · obtain ⟨d, hd, rfl⟩ := List.mem_map.1 hp
        obtain ⟨k, hk⟩ := List.getElem?_of_mem hd
        obtain ⟨_, _, _, _, hg, hw⟩ := hLi k d hk
        exact ⟨hg, hw⟩
/-- a region as argument -/
theorem open_region {r : Reach} {b0 : Nat} {v : Value} {d : DataW H} {p : List MemPlace} (hv : Value.okWide Tryz.prog W r b0 28 v) (h : DataW.Trod enc Tryz.prog W base (fun _ => true) true 28 v d p) :
    ∃ (x : Int) (f : Bool) (A : Option Addr) (n c : Nat) (r : Rg), v = .agg #[.int .i64 x, .bool f, .slice A n c] ∧ RgS W x f A n c r ∧ WfR r := by
  obtain ⟨cs, rfl, _⟩ := okWide_struct Tryz.underlying28 hv
  obtain ⟨fuel, hf⟩ := h
  obtain ⟨x, f, A, n, c, r, hcs, hr, hw⟩ := trod_region fuel _ _ hf
  have hcs' : cs.toList = [.int .i64 x, .bool f, .slice A n c] := hcs
  refine ⟨x, f, A, n, c, r, ?_, hr, hw⟩
  rw [show cs = #[.int .i64 x, .bool f, .slice A n c] from Array.toList_inj.1 hcs']
end
end Go.Proofs.YtnocbigcdjlliaaGreat
