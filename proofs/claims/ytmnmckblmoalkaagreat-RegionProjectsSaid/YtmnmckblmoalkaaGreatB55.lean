/-
  Texts: OpenRg, OpenCols.
-/
import Derived.Test.YtmnmckblmoalkaaGreatB47
set_option linter.unusedVariables false
/-
  A region as argument: whatever is handed in reads as a tree; its values are in the range of their type. No walk here.
-/
namespace Go.Proofs.YtmnmckblmoalkaaGreat
open Go.ChangeShapes Go.WideShapes Go.ChangeAt Go.RowKit
set_option maxRecDepth 100000
open Rg

section
variable {H : Type} {enc : TypeId × Value → H} {W : World} {base : Nat}
theorem trod_vl2 {fuel : Nat} {cs : List Value} {x : DataW H × List MemPlace} (h : DataW.trod enc Tryz.prog W base (fun _ => true) true fuel 49 cs = some x) :
    ∃ y : Vl, cs = y.cs ∧ rgV y := by
  obtain ⟨n, hl, g⟩ := trod_fields Tryz.underlying49 h
  have hl' : cs.length = 3 := hl.trans (by kernel_rfl)
  match cs, hl' with
  | [v0, v1, v2], _ =>
    obtain ⟨y0, g0⟩ := g 0 _ rfl
    obtain ⟨y1, g1⟩ := g 1 _ rfl
    obtain ⟨y2, g2⟩ := g 2 _ rfl
    obtain ⟨a, e0, _, _⟩ := DataW.trod_int (k := .i64) (by kernel_rfl) g0
    obtain ⟨b, e1, _, hr⟩ := DataW.trod_int (k := .i64) (by kernel_rfl) g1
    obtain ⟨s, e2, _, hs⟩ := DataW.trod_string (by kernel_rfl) g2
    have f0 : v0 = .int .i64 a := by
      have : [v0] = [.int .i64 a] := e0
      injection this
    have f1 : v1 = .int .i64 b := by
      have : [v1] = [.int .i64 b] := e1
      injection this
    have f2 : v2 = .string s := by
      have : [v2] = [.string s] := e2
      injection this
    subst f0 f1 f2
    refine ⟨⟨a, b, s⟩, rfl, ?_⟩
    have m1 : IntKind.i64.min = -9223372036854775808 := by decide
    have m2 : IntKind.i64.max = 9223372036854775807 := by decide
    simp only [Lit.wf, Bool.and_eq_true, decide_eq_true_eq] at hr
    show -9223372036854775808 ≤ b ∧ b < 9223372036854775808
    omega
theorem trod_iv2 {fuel : Nat} {cs : List Value} {x : DataW H × List MemPlace} (h : DataW.trod enc Tryz.prog W base (fun _ => true) true fuel 90 cs = some x) :
    ∃ y : Iv, cs = y.cs ∧ rgV y.f ∧ rgV y.t := by
  obtain ⟨n, hl, g⟩ := trod_fields Tryz.underlying90 h
  have hl' : cs.length = 7 := hl.trans (by kernel_rfl)
  match cs, hl' with
  | [v0, v1, v2, v3, v4, v5, v6], _ =>
    obtain ⟨y0, g0⟩ := g 0 _ rfl
    obtain ⟨y1, g1⟩ := g 1 _ rfl
    obtain ⟨y2, g2⟩ := g 2 _ rfl
    obtain ⟨a, e0, ra⟩ := trod_vl2 g0
    obtain ⟨b, e1, rb⟩ := trod_vl2 g1
    obtain ⟨q, e2, _⟩ := DataW.trod_bool (by kernel_rfl) g2
    have c3 : Tryz.prog.cellsOf 49 = 3 := by kernel_rfl
    have c1 : Tryz.prog.cellsOf 4 = 1 := by kernel_rfl
    have f0 : [v0, v1, v2] = a.cs := by rw [← e0]; simp [c3]
    have f1 : [v3, v4, v5] = b.cs := by rw [← e1]; simp [c3]
    have f2 : [v6] = [.bool q] := by rw [← e2]; simp [c1]
    simp only [Vl.cs, List.cons.injEq, and_true] at f0 f1 f2
    obtain ⟨rfl, rfl, rfl⟩ := f0
    obtain ⟨rfl, rfl, rfl⟩ := f1
    subst f2
    exact ⟨⟨a, b, q⟩, rfl, ra, rb⟩
/-- the elements of a slice, each with the fuel that is left -/
theorem trod_elems {t e : TypeId} {fuel : Nat} {cs : List Value} {x : DataW H × List MemPlace} (ht : Tryz.prog.underlying t = some (.slice e)) (h : DataW.trod enc Tryz.prog W base (fun _ => true) true fuel t cs = some x) :
    (cs = [.slice none 0 0]) ∨ ∃ (a : Addr) (len cap n : Nat), fuel = n + 1 ∧ cs = [.slice (some a) len cap] ∧ len ≤ cap ∧
      ∀ i, i < len → ∃ cs' y, W.cells? base (a.add (i * Tryz.prog.cellsOf e)) (Tryz.prog.cellsOf e) = some cs' ∧ DataW.trod enc Tryz.prog W base (fun _ => true) true n e cs' = some y := by
  rcases DataW.trod_slice ht h with ⟨h0, _⟩ | ⟨a, len, cap, elems, rest, n, hn, h0, _, _, hl, _, hlen, hel, _⟩
  · exact .inl h0
  · refine .inr ⟨a, len, cap, n, hn, h0, hl, fun i hi => ?_⟩
    have h1 := hel i hi
    rw [List.getElem?_eq_getElem (by omega)] at h1
    obtain ⟨cs', h2, h3⟩ := Option.bind_eq_some_iff.1 h1
    exact ⟨cs', _, h2, h3⟩
/-- a list of intervals that lies in memory -/
theorem trod_ivs2 {fuel : Nat} {v : Value} {x : DataW H × List MemPlace} (h : DataW.trod enc Tryz.prog W base (fun _ => true) true fuel 72 [v] = some x) :
    ∃ (A : Option Addr) (n c : Nat) (l : List Iv), v = .slice A n c ∧ IvS W A n l ∧ okS A n c ∧ ∀ y ∈ l, rgV y.f ∧ rgV y.t := by
  rcases trod_elems Tryz.underlying72 h with h0 | ⟨a, len, cap, m, _, h0, hl, hc⟩
  · injection h0 with h0
    exact ⟨none, 0, 0, [], h0, Sl.nil, ⟨Nat.le_refl _, fun _ => ⟨rfl, rfl⟩⟩, fun y hy => (by cases hy)⟩
  · injection h0 with h0
    have c7 : Tryz.prog.cellsOf 90 = 7 := by kernel_rfl
    rw [c7] at hc
    have hcell : ∀ i, i < len → ∃ y : Iv, (rgV y.f ∧ rgV y.t) ∧ ∀ (j : Nat) (u : Value), y.cs[j]? = some u → W.cell? ((a.add (i * 7)).add j) = some u := by
      intro i hi
      obtain ⟨cs', x', h1, h2⟩ := hc i hi
      obtain ⟨y, rfl, hr⟩ := trod_iv2 h2
      obtain ⟨_, hcl, hat⟩ := World.cells?_some h1
      refine ⟨y, hr, fun j u hu => ?_⟩
      have hj : j < 7 := by have := (List.getElem?_eq_some_iff.1 hu).1; simpa [Iv.cs] using this
      rw [hat j hj, hu]
    obtain ⟨l, hll, hli⟩ := choose_list len hcell
    refine ⟨some a, len, cap, l, h0, ⟨hll, fun hn => ?_⟩, ⟨hl, fun h => (by cases h)⟩, fun y hy => ?_⟩
    rotate_left
    · obtain ⟨k, hk⟩ := List.getElem?_of_mem hy
      exact (hli k y hk).1
    obtain ⟨b, o, sp⟩ := a
    have h0l : 0 < l.length := by omega
    have g0 := (hli 0 _ (List.getElem?_eq_getElem h0l)).2 0 _ rfl
    have hsp : sp = none := by
      have := World.cell?_spot g0
      simpa [Addr.add] using this
    subst hsp
    refine ⟨b, o, rfl, fun k x hx j u hu => ?_⟩
    have := (hli k x hx).2 j u hu
    rw [add_at, add_at] at this
    exact this
/-- the data of one part -/
structure PtD where
  p : List Iv × Rg
  A : Option Addr
  n : Nat
  c : Nat
  x : Int
  f : Bool
  A' : Option Addr
  n' : Nat
  c' : Nat
theorem trod_region : ∀ (fuel : Nat) (cs : List Value) (xx : DataW H × List MemPlace), DataW.trod enc Tryz.prog W base (fun _ => true) true fuel 27 cs = some xx →
    ∃ (x : Int) (f : Bool) (A : Option Addr) (n c : Nat) (r : Rg), cs = [.int .i64 x, .bool f, .slice A n c] ∧ RgS W x f A n c r ∧ WfR r := by
  intro fuel
  induction fuel using Nat.strongRecOn with
  | _ fuel ih =>
    intro cs xx h
    obtain ⟨xs, n0, hf0, _, hl, hxs, g⟩ := DataW.trod_struct Tryz.underlying27 h
    have hl' : cs.length = 3 := hl.trans (by kernel_rfl)
    have c1i : Tryz.prog.cellsOf 3 = 1 := by kernel_rfl
    have c1b : Tryz.prog.cellsOf 4 = 1 := by kernel_rfl
    have c1s : Tryz.prog.cellsOf 25 = 1 := by kernel_rfl
    have hx3 : xs.length = 3 := hxs.trans (by kernel_rfl)
    match cs, hl', xs, hx3 with
    | [v0, v1, v2], _, [x0, x1, x2], _ =>
    have g0 := g 0 _ rfl
    have g1 := g 1 _ rfl
    have g2 := g 2 _ rfl
    obtain ⟨x, e0, _, _⟩ := DataW.trod_int (k := .i64) (by kernel_rfl) g0
    obtain ⟨f, e1, _⟩ := DataW.trod_bool (by kernel_rfl) g1
    have f0 : v0 = .int .i64 x := by
      have : [v0] = [.int .i64 x] := e0
      injection this
    have f1 : v1 = .bool f := by
      have : [v1] = [.bool f] := e1
      injection this
    subst f0 f1
    have g2' : DataW.trod enc Tryz.prog W base (fun _ => true) true n0 25 [v2] = some x2 := g2
    rcases trod_elems Tryz.underlying25 g2' with h0 | ⟨a, len, cap, n1, hf1, h0, hlc, hc⟩
    · injection h0 with h0
      subst h0
      exact ⟨x, f, none, 0, 0, .nil x f, rfl, RgS.nil x f, trivial⟩
    · injection h0 with h0
      subst h0
      have c4 : Tryz.prog.cellsOf 86 = 4 := by kernel_rfl
      rw [c4] at hc
      have hcell : ∀ i, i < len → ∃ d : PtD, (W.cell? ((a.add (i * 4)).add 0) = some (.slice d.A d.n d.c) ∧ W.cell? ((a.add (i * 4)).add 1) = some (.int .i64 d.x) ∧ W.cell? ((a.add (i * 4)).add 2) = some (.bool d.f) ∧ W.cell? ((a.add (i * 4)).add 3) = some (.slice d.A' d.n' d.c')) ∧ okS d.A d.n d.c ∧ IvS W d.A d.n d.p.1 ∧ RgS W d.x d.f d.A' d.n' d.c' d.p.2 ∧ (∀ y ∈ d.p.1, rgV y.f ∧ rgV y.t) ∧ WfR d.p.2 := by
        intro i hi
        obtain ⟨cs', x', h1, h2⟩ := hc i hi
        obtain ⟨ys, n2, hf2, _, hl2, hys, g3⟩ := DataW.trod_struct Tryz.underlying86 h2
        have hl4 : cs'.length = 4 := hl2.trans (by kernel_rfl)
        have hy2 : ys.length = 2 := hys.trans (by kernel_rfl)
        obtain ⟨_, hcl, hat⟩ := World.cells?_some h1
        match cs', hl4, ys, hy2 with
        | [u0, u1, u2, u3], _, [y0, y1], _ =>
          have k0 : DataW.trod enc Tryz.prog W base (fun _ => true) true n2 72 [u0] = some y0 := g3 0 _ rfl
          have k1 : DataW.trod enc Tryz.prog W base (fun _ => true) true n2 27 [u1, u2, u3] = some y1 := g3 1 _ rfl
          obtain ⟨A1, m1, c1, l, rfl, hiv, hok, hrg⟩ := trod_ivs2 k0
          obtain ⟨px, pf, A2, m2, c2, r, hcs, hr, hw⟩ := ih n2 (by omega) _ _ k1
          simp only [List.cons.injEq, and_true] at hcs
          obtain ⟨rfl, rfl, rfl⟩ := hcs
          exact ⟨⟨(l, r), A1, m1, c1, px, pf, A2, m2, c2⟩, ⟨by rw [hat 0 (by omega)]; rfl, by rw [hat 1 (by omega)]; rfl, by rw [hat 2 (by omega)]; rfl, by rw [hat 3 (by omega)]; rfl⟩, hok, hiv, hr, hrg, hw⟩
      obtain ⟨L, hLl, hLi⟩ := choose_list len hcell
      refine ⟨x, f, some a, len, cap, mkR x f (L.map PtD.p), rfl, ⟨w_mk _ _ _, f_mk _ _ _, ⟨hlc, fun h => (by cases h)⟩, by rw [len_mk, List.length_map, hLl], fun hn => ?_⟩, WfR.of fun p hp => ?_⟩
      · obtain ⟨b, o, sp⟩ := a
        have h0l : 0 < L.length := by omega
        have g0 := (hLi 0 _ (List.getElem?_eq_getElem h0l)).1.1
        have hsp : sp = none := by
          have := World.cell?_spot g0
          simpa [Addr.add] using this
        subst hsp
        refine ⟨b, o, rfl, RgP.of fun k p hp => ?_⟩
        rw [parts_mk, List.getElem?_map] at hp
        obtain ⟨d, hd, rfl⟩ := Option.map_eq_some_iff.1 hp
        obtain ⟨⟨d0, d1, d2, d3⟩, hok, hiv, hr, _, _⟩ := hLi k d hd
        rw [add_at, add_at] at d0 d1 d2 d3
        exact ⟨d.A, d.n, d.c, d.x, d.f, d.A', d.n', d.c', d0, d1, d2, d3, hok, hiv, hr⟩
      · obtain ⟨d, hd, rfl⟩ := List.mem_map.1 hp
        obtain ⟨k, hk⟩ := List.getElem?_of_mem hd
        obtain ⟨_, _, _, _, hg, hw⟩ := hLi k d hk
        exact ⟨hg, hw⟩
/-- a region as argument -/
theorem open_region {r : Reach} {b0 : Nat} {v : Value} {d : DataW H} {p : List MemPlace} (hv : Value.okWide Tryz.prog W r b0 27 v) (h : DataW.Trod enc Tryz.prog W base (fun _ => true) true 27 v d p) :
    ∃ (x : Int) (f : Bool) (A : Option Addr) (n c : Nat) (r : Rg), v = .agg #[.int .i64 x, .bool f, .slice A n c] ∧ RgS W x f A n c r ∧ WfR r := by
  obtain ⟨cs, rfl, _⟩ := okWide_struct Tryz.underlying27 hv
  obtain ⟨fuel, hf⟩ := h
  obtain ⟨x, f, A, n, c, r, hcs, hr, hw⟩ := trod_region fuel _ _ hf
  have hcs' : cs.toList = [.int .i64 x, .bool f, .slice A n c] := hcs
  refine ⟨x, f, A, n, c, r, ?_, hr, hw⟩
  rw [show cs = #[.int .i64 x, .bool f, .slice A n c] from Array.toList_inj.1 hcs']
end
end Go.Proofs.YtmnmckblmoalkaaGreat

/-
  A list of numbers as argument. No walk here.
-/
namespace Go.Proofs.YtmnmckblmoalkaaGreat
open Go.ChangeShapes Go.WideShapes Go.ChangeAt Go.RowKit
set_option maxRecDepth 100000

/-- a list of numbers as argument -/
theorem open_cols {H : Type} {enc : TypeId × Value → H} {W : World} {base : Nat} {r : Reach} {b0 : Nat} {v : Value} {d : DataW H} {p : List MemPlace} (hv : Value.okWide Tryz.prog W r b0 30 v) (h : DataW.Trod enc Tryz.prog W base (fun _ => true) true 30 v d p) :
    ∃ (A : Option Addr) (n c : Nat) (zs : List Int), v = .slice A n c ∧ Sl 1 i64c W A n zs ∧ (A = none → n = 0 ∧ c = 0) ∧ (∀ ad, A = some ad → ad.spot = none) ∧ n ≤ c ∧ c ≤ 9223372036854775807 := by
  obtain ⟨A, n, c, rfl⟩ := okWide_slice Tryz.underlying30 hv
  obtain ⟨f1, f2, f3, f4⟩ := okWide_slice_form Tryz.underlying30 hv
  obtain ⟨fuel, hf⟩ := h
  have hf' : DataW.trod enc Tryz.prog W base (fun _ => true) true fuel 30 [.slice A n c] = some (d, p) := hf
  rcases open_ints Tryz.underlying30 Tryz.underlying3 (by kernel_rfl) hf' with ⟨h0, _⟩ | ⟨a, len, cap, zs, h0, hb, hl, hm, hzl, _, hc, hw⟩
  · injection h0 with h0
    injection h0 with e1 e2 e3
    subst e1 e2 e3
    exact ⟨none, 0, 0, [], rfl, Sl.nil, fun _ => ⟨rfl, rfl⟩, fun ad e => (by cases e), Nat.le_refl _, by omega⟩
  · injection h0 with h0
    injection h0 with e1 e2 e3
    subst e1 e2 e3
    refine ⟨some a, n, c, zs.take n, rfl, ⟨?_, fun hn => ?_⟩, f1, f2, f3, f4⟩
    · rw [List.length_take, hzl]; simp; omega
    · obtain ⟨b, o, sp⟩ := a
      obtain rfl : sp = none := f2 _ rfl
      refine ⟨b, o, rfl, fun k x hx j u hu => ?_⟩
      rw [List.getElem?_take] at hx
      split at hx
      · rename_i hk
        rcases j with _ | j
        · simp only [i64c, List.getElem?_cons_zero, Option.some.injEq] at hu
          subst hu
          have hkl := (List.getElem?_eq_some_iff.1 hx).1
          have := hc k hkl
          rw [add_at] at this
          rw [Nat.mul_one, Nat.add_zero, this, List.getD, hx]
          rfl
        · simp [i64c] at hu
      · cases hx
end Go.Proofs.YtmnmckblmoalkaaGreat
