/-
  Texts: OpenRow, OpenSt.
-/
import Derived.Test.YtponkkljlbifmaaGreatH43
set_option linter.unusedVariables false
namespace Go.Proofs.YtponkkljlbifmaaGreat
open Go.ChangeShapes Go.WideShapes Go.ChangeAt Go.RowKit
set_option maxRecDepth 100000

/-- the reading of a row that lies in memory -/
theorem trod_row {H : Type} {enc : TypeId × Value → H} {W : World} {base : Nat} {fuel : Nat} {v : Value} {x : DataW H × List MemPlace} (h : DataW.trod enc Tryz.prog W base (fun _ => true) true fuel 75 [v] = some x) :
    ∃ p : RowP, v = .slice p.1.1 p.1.2.1 p.1.2.2 ∧ RowOk W p ∧ 32 * p.1.2.2 ≤ 9223372036854775807 * 32 := by
  rcases Go.Deep.open_slice Tryz.underlying75 h with ⟨h0, _⟩ | ⟨a, len, cap, m, q, D, Pl, h0, hb, hl, hm, hmm, _, hc⟩
  · injection h0 with h0
    exact ⟨((none, 0, 0), []), h0, ⟨Sl.nil, fun _ => ⟨rfl, rfl⟩, Nat.le_refl _, by simp⟩, by simp⟩
  · injection h0 with h0
    have c3 : Tryz.prog.cellsOf 67 = 3 := by kernel_rfl
    rw [c3] at hc
    have hcell : ∀ i, i < len → ∃ y : Vl, ∀ (j : Nat) (u : Value), y.cs[j]? = some u → W.cell? ((a.add (i * 3)).add j) = some u := by
      intro i hi
      obtain ⟨cs', h1, h2⟩ := hc i (by rw [hmm]; simp; omega)
      obtain ⟨y, rfl, _⟩ := trod_vl h2
      obtain ⟨_, hcl, hat⟩ := World.cells?_some h1
      refine ⟨y, fun j u hu => ?_⟩
      have hj : j < 3 := by have := (List.getElem?_eq_some_iff.1 hu).1; simpa [Vl.cs] using this
      rw [hat j hj, hu]
    obtain ⟨l, hll, hli⟩ := choose_list len hcell
    have hmx : cap ≤ 9223372036854775807 := by simpa [maxLen] using hm
    refine ⟨((some a, len, cap), l), h0, ⟨⟨hll, fun hn => ?_⟩, fun h => (by cases h), hl, hmx⟩, by simp only; omega⟩
    obtain ⟨b, o, sp⟩ := a
    have hn' : 0 < len := hn
    have h0l : 0 < l.length := by omega
    have g0 := hli 0 _ (List.getElem?_eq_getElem h0l) 0 _ rfl
    have hsp : sp = none := by
      have := World.cell?_spot g0
      simpa [Addr.add] using this
    subst hsp
    refine ⟨b, o, rfl, fun k x hx j u hu => ?_⟩
    have := hli k x hx j u hu
    rw [add_at, add_at] at this
    exact this
end Go.Proofs.YtponkkljlbifmaaGreat

/-
  A state as an argument: whatever is handed in reads as a state; how many rows it has at most. No walk here.
-/
namespace Go.Proofs.YtponkkljlbifmaaGreat
open Go.ChangeShapes Go.WideShapes Go.ChangeAt Go.RowKit
set_option maxRecDepth 100000
open Pd

theorem bulk_one {H : Type} (d : DataW H) : 1 ≤ Rows.uptoBulk d := by
  cases d with
  | lit l => cases l <;> simp [Rows.uptoBulk]
  | nil => simp [Rows.uptoBulk]
  | ptr d => simp [Rows.uptoBulk]
  | slice elems spare => simp [Rows.uptoBulk]
  | agg parts => simp [Rows.uptoBulk]
  | iface t d => simp [Rows.uptoBulk]
  | map entries => simp [Rows.uptoBulk]
  | held h => simp [Rows.uptoBulk]
theorem bulk_len {H : Type} : ∀ l : List (DataW H), l.length ≤ Rows.uptoBulkAll l
  | [] => by simp [Rows.uptoBulkAll]
  | x :: r => by
    have h1 := bulk_one x
    have h2 := bulk_len r
    simp only [Rows.uptoBulkAll, List.length_cons]
    omega
theorem bulk_sum {H : Type} : ∀ (ls : List TlP) (D : Nat → DataW H) (o : Nat), (∀ (i : Nat) (p : TlP), ls[i]? = some p → (tlR p).length + 1 ≤ Rows.uptoBulk (D (o + i))) → cntS (stR ls) + ls.length ≤ Rows.uptoBulkAll ((List.range ls.length).map fun i => D (o + i))
  | [], _, _, _ => by simp [stR, cntS]
  | p :: ls, D, o, h => by
    have h1 : (tlR p).length + 1 ≤ Rows.uptoBulk (D o) := h 0 p rfl
    have h2 := bulk_sum ls D (o + 1) (fun i q hq => by have := h (i + 1) q hq; rwa [show o + 1 + i = o + (i + 1) by omega])
    have h3 : (List.range (p :: ls).length).map (fun i => D (o + i)) = D o :: (List.range ls.length).map fun i => D (o + 1 + i) := by
      rw [List.length_cons, List.range_succ_eq_map, List.map_cons, List.map_map]
      congr 1
      refine List.map_congr_left fun i _ => ?_
      show D (o + (i + 1)) = D (o + 1 + i)
      rw [show o + 1 + i = o + (i + 1) by omega]
    rw [h3]
    simp only [stR, cntS, List.map_cons, List.sum_cons, Rows.uptoBulkAll, List.length_cons] at h2 ⊢
    omega
/-- the reading of a list of rows that lies in memory -/
theorem trod_rows {H : Type} {enc : TypeId × Value → H} {W : World} {base : Nat} {fuel : Nat} {v : Value} {x : DataW H × List MemPlace} (h : DataW.trod enc Tryz.prog W base (fun _ => true) true fuel 79 [v] = some x) :
    ∃ p : TlP, v = .slice p.1.1 p.1.2.1 p.1.2.2 ∧ TlOk W p ∧ (tlR p).length + 1 ≤ Rows.uptoBulk x.1 := by
  rcases Go.Deep.open_slice Tryz.underlying79 h with ⟨h0, h1⟩ | ⟨a, len, cap, m, q, D, Pl, h0, hb, hl, hm, hmm, hxx, hc⟩
  · injection h0 with h0
    exact ⟨((none, 0, 0), []), h0, ⟨⟨Sl.nil, fun p hp => (by cases hp)⟩, fun _ => ⟨rfl, rfl⟩, Nat.le_refl _, by simp⟩, by simpa [tlR] using bulk_one x.1⟩
  · injection h0 with h0
    have c1 : Tryz.prog.cellsOf 75 = 1 := by kernel_rfl
    rw [c1] at hc
    have hcell : ∀ i, i < len → ∃ y : RowP, RowOk W y ∧ W.cell? (a.add i) = some (.slice y.1.1 y.1.2.1 y.1.2.2) := by
      intro i hi
      obtain ⟨cs', h1, h2⟩ := hc i (by rw [hmm]; simp; omega)
      obtain ⟨_, hcl, hat⟩ := World.cells?_some h1
      match cs', hcl with
      | [v0], _ =>
        obtain ⟨y, rfl, hy, _⟩ := trod_row h2
        refine ⟨y, hy, ?_⟩
        have := hat 0 (by omega)
        rw [Go.Deep.add_add] at this
        simpa using this
    obtain ⟨l, hll, hli⟩ := choose_list len hcell
    have hmx : cap ≤ 9223372036854775807 := by simpa [maxLen] using hm
    refine ⟨((some a, len, cap), l), h0, ⟨⟨⟨hll, fun hn => ?_⟩, fun p hp => ?_⟩, fun h => (by cases h), hl, hmx⟩, ?_⟩
    · obtain ⟨b, o, sp⟩ := a
      have hn' : 0 < len := hn
      have h0l : 0 < l.length := by omega
      have g0 := (hli 0 _ (List.getElem?_eq_getElem h0l)).2
      have hsp : sp = none := by
        have := World.cell?_spot g0
        simpa [Addr.add] using this
      subst hsp
      refine ⟨b, o, rfl, fun k x hx j u hu => ?_⟩
      rcases j with _ | j
      · simp only [rowc, List.getElem?_cons_zero, Option.some.injEq] at hu
        subst hu
        have := (hli k x hx).2
        rw [add_at] at this
        rw [Nat.mul_one, Nat.add_zero]
        exact this
      · simp [rowc] at hu
    · obtain ⟨k, hk⟩ := List.getElem?_of_mem hp
      exact (hli k p hk).1
    · have hd : x.1 = .slice ((List.range len).map D) ((List.range (m - len)).map fun j => D (len + j)) := congrArg Prod.fst hxx
      have h5 := bulk_len ((List.range len).map D)
      rw [List.length_map, List.length_range] at h5
      rw [hd]
      simp only [Rows.uptoBulk, tlR, List.length_map, hll]
      omega
theorem open_state {H : Type} {enc : TypeId × Value → H} {W : World} {base : Nat} {r : Reach} {b0 : Nat} {v : Value} {d : DataW H} {p : List MemPlace} (hv : Value.okWide Tryz.prog W r b0 25 v) (h : DataW.Trod enc Tryz.prog W base (fun _ => true) true 25 v d p) :
    ∃ (A : Option Addr) (n c : Nat) (l : List TlP), v = .agg #[.slice A n c] ∧ StS W A n l ∧ n + cntS (stR l) ≤ Rows.uptoBulk d := by
  obtain ⟨cs, rfl, _⟩ := okWide_struct Tryz.underlying25 hv
  obtain ⟨fuel, hf⟩ := h
  have hf' : DataW.trod enc Tryz.prog W base (fun _ => true) true fuel 25 cs.toList = some (d, p) := hf
  obtain ⟨xs, n0, hf0, hx, hl, hxs, g⟩ := DataW.trod_struct Tryz.underlying25 hf'
  have hl' : cs.toList.length = 1 := hl.trans (by kernel_rfl)
  have hx1 : xs.length = 1 := hxs.trans (by kernel_rfl)
  obtain ⟨cs⟩ := cs
  match cs, hl', xs, hx1 with
  | [v0], _, [x0], _ =>
  have g0 : DataW.trod enc Tryz.prog W base (fun _ => true) true n0 23 [v0] = some x0 := g 0 _ rfl
  have hd : Rows.uptoBulk x0.1 ≤ Rows.uptoBulk d := by
    have h1 : d = .agg [x0.1] := congrArg Prod.fst hx
    rw [h1]
    simp only [Rows.uptoBulk, Rows.uptoBulkAll]
    omega
  rcases Go.Deep.open_slice Tryz.underlying23 g0 with ⟨h0, h1⟩ | ⟨a, len, cap, m, q, D, Pl, h0, hb, hle, hm, hmm, hxx, hc⟩
  · injection h0 with h0
    subst h0
    exact ⟨none, 0, 0, [], rfl, ⟨Sl.nil, fun p hp => (by cases hp)⟩, by simp [stR, cntS]⟩
  · injection h0 with h0
    subst h0
    have c1 : Tryz.prog.cellsOf 79 = 1 := by kernel_rfl
    rw [c1] at hc
    have hcell : ∀ i, i < len → ∃ y : TlP, (TlOk W y ∧ W.cell? (a.add i) = some (.slice y.1.1 y.1.2.1 y.1.2.2)) ∧ (tlR y).length + 1 ≤ Rows.uptoBulk (D i) := by
      intro i hi
      obtain ⟨cs', h1, h2⟩ := hc i (by rw [hmm]; simp; omega)
      obtain ⟨_, hcl, hat⟩ := World.cells?_some h1
      match cs', hcl with
      | [v0], _ =>
        obtain ⟨y, rfl, hy, hyb⟩ := trod_rows h2
        refine ⟨y, ⟨hy, ?_⟩, hyb⟩
        have := hat 0 (by omega)
        rw [Go.Deep.add_add] at this
        simpa using this
    obtain ⟨l, hll, hli⟩ := choose_list len hcell
    refine ⟨some a, len, cap, l, rfl, ⟨⟨hll, fun hn => ?_⟩, fun p hp => ?_⟩, ?_⟩
    · obtain ⟨b, o, sp⟩ := a
      have hn' : 0 < len := hn
      have h0l : 0 < l.length := by omega
      have g0 := (hli 0 _ (List.getElem?_eq_getElem h0l)).1.2
      have hsp : sp = none := by
        have := World.cell?_spot g0
        simpa [Addr.add] using this
      subst hsp
      refine ⟨b, o, rfl, fun k x hx j u hu => ?_⟩
      rcases j with _ | j
      · simp only [tlc, List.getElem?_cons_zero, Option.some.injEq] at hu
        subst hu
        have := (hli k x hx).1.2
        rw [add_at] at this
        rw [Nat.mul_one, Nat.add_zero]
        exact this
      · simp [tlc] at hu
    · obtain ⟨k, hk⟩ := List.getElem?_of_mem hp
      exact (hli k p hk).1.1
    · have hd2 : x0.1 = .slice ((List.range len).map D) ((List.range (m - len)).map fun j => D (len + j)) := congrArg Prod.fst hxx
      have h5 := bulk_sum l D 0 (fun i p hp => by rw [Nat.zero_add]; exact (hli i p hp).2)
      have h6 : (List.range l.length).map (fun i => D (0 + i)) = (List.range len).map D := by
        rw [hll]
        refine List.map_congr_left fun i _ => ?_
        rw [Nat.zero_add]
      rw [h6, hll] at h5
      rw [hd2] at hd
      simp only [Rows.uptoBulk] at hd
      omega
end Go.Proofs.YtponkkljlbifmaaGreat
