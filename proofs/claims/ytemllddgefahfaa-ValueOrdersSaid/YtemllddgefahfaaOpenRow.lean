import Derived.Test.YtemllddgefahfaaOpen
import Derived.Test.YtemllddgefahfaaRowCmp
namespace Go.Proofs.Ytemllddgefahfaa
open Go.ChangeShapes Go.WideShapes Go.ChangeAt Go.RowKit

/-- a row as argument -/
theorem open_row {H : Type} {enc : TypeId × Value → H} {W : World} {base : Nat} {r : Reach} {b0 : Nat} {v : Value} {d : DataW H} {p : List MemPlace} (hv : Value.okWide Try.prog W r b0 38 v) (h : DataW.Trod enc Try.prog W base (fun _ => true) true 38 v d p) :
    ∃ (A : Option Addr) (n c : Nat) (l : List Vl), v = .slice A n c ∧ VlS W A n l ∧ (A = none → n = 0 ∧ c = 0) ∧ (∀ ad, A = some ad → ad.spot = none) ∧ n ≤ c ∧ c ≤ 9223372036854775807 := by
  obtain ⟨A, n, c, rfl⟩ := okWide_slice Try.underlying38 hv
  obtain ⟨f1, f2, f3, f4⟩ := okWide_slice_form Try.underlying38 hv
  obtain ⟨fuel, hf⟩ := h
  have hf' : DataW.trod enc Try.prog W base (fun _ => true) true fuel 38 [.slice A n c] = some (d, p) := hf
  rcases Go.Deep.open_slice Try.underlying38 hf' with ⟨h0, _⟩ | ⟨a, len, cap, m, q, D, Pl, h0, hb, hl, hm, hmm, _, hc⟩
  · injection h0 with h0
    injection h0 with e1 e2 e3
    subst e1 e2 e3
    exact ⟨none, 0, 0, [], rfl, Sl.nil, fun _ => ⟨rfl, rfl⟩, fun ad e => (by cases e), Nat.le_refl _, by omega⟩
  · injection h0 with h0
    injection h0 with e1 e2 e3
    subst e1 e2 e3
    have c3 : Try.prog.cellsOf 24 = 3 := by kernel_rfl
    rw [c3] at hc
    have hcell : ∀ i, i < n → ∃ y : Vl, ∀ (j : Nat) (u : Value), y.cs[j]? = some u → W.cell? ((a.add (i * 3)).add j) = some u := by
      intro i hi
      obtain ⟨cs', h1, h2⟩ := hc i (by rw [hmm]; simp; omega)
      obtain ⟨y, rfl, _⟩ := trod_vl h2
      obtain ⟨_, hcl, hat⟩ := World.cells?_some h1
      refine ⟨y, fun j u hu => ?_⟩
      have hj : j < 3 := by have := (List.getElem?_eq_some_iff.1 hu).1; simpa [Vl.cs] using this
      rw [hat j hj, hu]
    have hall := choose_list n hcell
    obtain ⟨l, hll, hli⟩ := hall
    refine ⟨some a, n, c, l, rfl, ⟨hll, fun hn => ?_⟩, f1, f2, f3, f4⟩
    obtain ⟨b, o, sp⟩ := a
    obtain rfl : sp = none := f2 _ rfl
    refine ⟨b, o, rfl, fun k x hx j u hu => ?_⟩
    have := hli k x hx j u hu
    rw [add_at, add_at] at this
    exact this
/-- the reading of a row that lies in memory -/
theorem trod_row {H : Type} {enc : TypeId × Value → H} {W : World} {base : Nat} {fuel : Nat} {v : Value} {x : DataW H × List MemPlace} (h : DataW.trod enc Try.prog W base (fun _ => true) true fuel 38 [v] = some x) :
    ∃ p : RowP, v = .slice p.1.1 p.1.2.1 p.1.2.2 ∧ RowOk W p ∧ 32 * p.1.2.2 ≤ 9223372036854775807 * 32 := by
  rcases Go.Deep.open_slice Try.underlying38 h with ⟨h0, _⟩ | ⟨a, len, cap, m, q, D, Pl, h0, hb, hl, hm, hmm, _, hc⟩
  · injection h0 with h0
    exact ⟨((none, 0, 0), []), h0, ⟨Sl.nil, fun _ => ⟨rfl, rfl⟩, Nat.le_refl _, by simp⟩, by simp⟩
  · injection h0 with h0
    have c3 : Try.prog.cellsOf 24 = 3 := by kernel_rfl
    rw [c3] at hc
    have hcell : ∀ i, i < len → ∃ y : Vl, ∀ (j : Nat) (u : Value), y.cs[j]? = some u → W.cell? ((a.add (i * 3)).add j) = some u := by
      intro i hi
      obtain ⟨cs', h1, h2⟩ := hc i (by rw [hmm]; simp; omega)
      obtain ⟨y, rfl, _⟩ := trod_vl h2
      obtain ⟨_, hcl, hat⟩ := World.cells?_some h1
      refine ⟨y, fun j u hu => ?_⟩
      have hj : j < 3 := by have := (List.getElem?_eq_some_iff.1 hu).1; simpa [Vl.cs] using this
      rw [hat j hj, hu]
    obtain ⟨l, hll, hli⟩ := choose_list len hcell
    have hmx : cap ≤ 9223372036854775807 := by simpa [maxLen] using hm
    refine ⟨((some a, len, cap), l), h0, ⟨⟨hll, fun hn => ?_⟩, fun h => (by cases h), hl, hmx⟩, by simp only; omega⟩
    obtain ⟨b, o, sp⟩ := a
    have hn' : 0 < len := hn
    have h0l : 0 < l.length := by omega
    have g0 := hli 0 _ (List.getElem?_eq_getElem h0l) 0 _ rfl
    have hsp : sp = none := by
      have := World.cell?_spot g0
      simpa [Addr.add] using this
    subst hsp
    refine ⟨b, o, rfl, fun k x hx j u hu => ?_⟩
    have := hli k x hx j u hu
    rw [add_at, add_at] at this
    exact this
/-- a list of rows as argument -/
theorem open_rows {H : Type} {enc : TypeId × Value → H} {W : World} {base : Nat} {r : Reach} {b0 : Nat} {v : Value} {d : DataW H} {p : List MemPlace} (hv : Value.okWide Try.prog W r b0 39 v) (h : DataW.Trod enc Try.prog W base (fun _ => true) true 39 v d p) :
    ∃ (A : Option Addr) (n c : Nat) (l : List RowP), v = .slice A n c ∧ RowsS W A n l ∧ (A = none → n = 0 ∧ c = 0) ∧ (∀ ad, A = some ad → ad.spot = none) ∧ n ≤ c ∧ c ≤ 9223372036854775807 := by
  obtain ⟨A, n, c, rfl⟩ := okWide_slice Try.underlying39 hv
  obtain ⟨f1, f2, f3, f4⟩ := okWide_slice_form Try.underlying39 hv
  obtain ⟨fuel, hf⟩ := h
  have hf' : DataW.trod enc Try.prog W base (fun _ => true) true fuel 39 [.slice A n c] = some (d, p) := hf
  rcases Go.Deep.open_slice Try.underlying39 hf' with ⟨h0, _⟩ | ⟨a, len, cap, m, q, D, Pl, h0, hb, hl, hm, hmm, _, hc⟩
  · injection h0 with h0
    injection h0 with e1 e2 e3
    subst e1 e2 e3
    exact ⟨none, 0, 0, [], rfl, ⟨Sl.nil, fun p hp => (by cases hp)⟩, fun _ => ⟨rfl, rfl⟩, fun ad e => (by cases e), Nat.le_refl _, by omega⟩
  · injection h0 with h0
    injection h0 with e1 e2 e3
    subst e1 e2 e3
    have c1 : Try.prog.cellsOf 38 = 1 := by kernel_rfl
    rw [c1] at hc
    have hcell : ∀ i, i < n → ∃ y : RowP, RowOk W y ∧ W.cell? (a.add i) = some (.slice y.1.1 y.1.2.1 y.1.2.2) := by
      intro i hi
      obtain ⟨cs', h1, h2⟩ := hc i (by rw [hmm]; simp; omega)
      obtain ⟨_, hcl, hat⟩ := World.cells?_some h1
      match cs', hcl with
      | [v0], _ =>
        obtain ⟨y, rfl, hy, _⟩ := trod_row h2
        refine ⟨y, hy, ?_⟩
        have := hat 0 (by omega)
        rw [Go.Deep.add_add] at this
        simpa using this
    obtain ⟨l, hll, hli⟩ := choose_list n hcell
    refine ⟨some a, n, c, l, rfl, ⟨⟨hll, fun hn => ?_⟩, fun p hp => ?_⟩, f1, f2, f3, f4⟩
    · obtain ⟨b, o, sp⟩ := a
      obtain rfl : sp = none := f2 _ rfl
      refine ⟨b, o, rfl, fun k x hx j u hu => ?_⟩
      rcases j with _ | j
      · simp only [rowc, List.getElem?_cons_zero, Option.some.injEq] at hu
        subst hu
        have := (hli k x hx).2
        rw [add_at] at this
        rw [Nat.mul_one, Nat.add_zero]
        exact this
      · simp [rowc] at hu
    · obtain ⟨k, hk⟩ := List.getElem?_of_mem hp
      exact (hli k p hk).1
end Go.Proofs.Ytemllddgefahfaa
