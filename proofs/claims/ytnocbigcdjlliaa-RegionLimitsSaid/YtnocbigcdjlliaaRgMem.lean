/-
  How a region lies in memory: the parts of a tree in rows of four cells. No program here.
-/
import Derived.Test.YtnocbigcdjlliaaRgComb
import Derived.Test.YtnocbigcdjlliaaMem2
namespace Go.Proofs.Ytnocbigcdjlliaa
open Go.RowKit
open Rg

/-- a slice's length and capacity are as they must be -/
def okS (A : Option Addr) (n c : Nat) : Prop := n ≤ c ∧ (A = none → n = 0 ∧ c = 0)
/-- the parts of a region lie in block b from cell o on -/
def RgP (w : World) : Rg → Nat → Nat → Prop
  | .nil _ _, _, _ => True
  | .cons vs rest tail, b, o =>
    (∃ A n c, w.cell? ⟨b, o, none⟩ = some (.slice A n c) ∧ okS A n c ∧ IvS w A n vs) ∧ w.cell? ⟨b, o + 1, none⟩ = some (.int .i64 rest.w) ∧ w.cell? ⟨b, o + 2, none⟩ = some (.bool rest.f) ∧
    (∃ A n c, w.cell? ⟨b, o + 3, none⟩ = some (.slice A n c) ∧ okS A n c ∧ n = rest.len ∧ (0 < n → ∃ b' o', A = some ⟨b', o', none⟩ ∧ RgP w rest b' o')) ∧ RgP w tail b (o + 4)
/-- the width x, the mark f and the slice with address A, length n, capacity c read as a region -/
structure RgS (w : World) (x : Int) (f : Bool) (A : Option Addr) (n c : Nat) (r : Rg) : Prop where
  hw : r.w = x
  hf : r.f = f
  ok : okS A n c
  len : n = r.len
  ex : 0 < n → ∃ b o, A = some ⟨b, o, none⟩ ∧ RgP w r b o
/-- one part -/
structure PtAt (w : World) (b o : Nat) (p : List Iv × Rg) (A : Option Addr) (n c : Nat) (x : Int) (f : Bool) (A' : Option Addr) (n' c' : Nat) : Prop where
  c0 : w.cell? ⟨b, o, none⟩ = some (.slice A n c)
  c1 : w.cell? ⟨b, o + 1, none⟩ = some (.int .i64 x)
  c2 : w.cell? ⟨b, o + 2, none⟩ = some (.bool f)
  c3 : w.cell? ⟨b, o + 3, none⟩ = some (.slice A' n' c')
  ok : okS A n c
  vs : IvS w A n p.1
  rg : RgS w x f A' n' c' p.2
theorem RgP.keep {w w' : World} (hk : Keeps w w') : ∀ {r : Rg} {b o : Nat}, RgP w r b o → RgP w' r b o
  | .nil _ _, _, _, _ => trivial
  | .cons vs rest tail, b, o, h => by
    obtain ⟨⟨A, n, c, h1, h2, h3⟩, h4, h5, ⟨A', n', c', h6, h7, h8, h9⟩, h10⟩ := h
    refine ⟨⟨A, n, c, keep_cell hk h1, h2, h3.keep hk⟩, keep_cell hk h4, keep_cell hk h5, ⟨A', n', c', keep_cell hk h6, h7, h8, fun hn => ?_⟩, RgP.keep hk h10⟩
    obtain ⟨b', o', e, h⟩ := h9 hn
    exact ⟨b', o', e, RgP.keep hk h⟩
theorem RgS.keep {w w' : World} {x : Int} {f : Bool} {A : Option Addr} {n c : Nat} {r : Rg} (h : RgS w x f A n c r) (hk : Keeps w w') : RgS w' x f A n c r :=
  ⟨h.hw, h.hf, h.ok, h.len, fun hn => by
    obtain ⟨b, o, e, hp⟩ := h.ex hn
    exact ⟨b, o, e, hp.keep hk⟩⟩
theorem RgP.at {w : World} : ∀ {r : Rg} {b o k : Nat} {p : List Iv × Rg}, RgP w r b o → r.parts[k]? = some p → ∃ A n c x f A' n' c', PtAt w b (o + k * 4) p A n c x f A' n' c'
  | .nil _ _, _, _, _, _, _, hp => by simp [parts] at hp
  | .cons vs rest tail, b, o, 0, p, h, hp => by
    simp only [parts, List.getElem?_cons_zero, Option.some.injEq] at hp
    subst hp
    obtain ⟨⟨A, n, c, h1, h2, h3⟩, h4, h5, ⟨A', n', c', h6, h7, h8, h9⟩, _⟩ := h
    exact ⟨A, n, c, rest.w, rest.f, A', n', c', ⟨by simpa using h1, by simpa using h4, by simpa using h5, by simpa using h6, h2, h3, ⟨rfl, rfl, h7, h8, h9⟩⟩⟩
  | .cons vs rest tail, b, o, k + 1, p, h, hp => by
    simp only [parts, List.getElem?_cons_succ] at hp
    have := RgP.at h.2.2.2.2 hp
    rw [show o + (k + 1) * 4 = o + 4 + k * 4 by omega]
    exact this
theorem RgS.at {w : World} {x : Int} {f : Bool} {A : Option Addr} {n c k : Nat} {r : Rg} (h : RgS w x f A n c r) (hk : k < n) : ∃ b o p A1 n1 c1 x2 f2 A2 n2 c2, A = some ⟨b, o, none⟩ ∧ r.parts[k]? = some p ∧ PtAt w b (o + k * 4) p A1 n1 c1 x2 f2 A2 n2 c2 := by
  obtain ⟨b, o, e, hp⟩ := h.ex (by omega)
  have hl := h.len
  have hk' : k < r.parts.length := by rw [len_parts]; omega
  obtain ⟨A1, n1, c1, x2, f2, A2, n2, c2, hpt⟩ := hp.at (List.getElem?_eq_getElem hk')
  exact ⟨b, o, _, A1, n1, c1, x2, f2, A2, n2, c2, e, List.getElem?_eq_getElem hk', hpt⟩
theorem RgP.of {w : World} : ∀ {r : Rg} {b o : Nat}, (∀ k p, r.parts[k]? = some p → ∃ A n c x f A' n' c', PtAt w b (o + k * 4) p A n c x f A' n' c') → RgP w r b o
  | .nil _ _, _, _, _ => trivial
  | .cons vs rest tail, b, o, h => by
    obtain ⟨A, n, c, x, f, A', n', c', h0⟩ := h 0 (vs, rest) rfl
    simp only [Nat.zero_mul, Nat.add_zero] at h0
    obtain ⟨d0, d1, d2, d3, d4, d5, ⟨rfl, rfl, d6, d7, d8⟩⟩ := h0
    refine ⟨⟨A, n, c, d0, d4, d5⟩, d1, d2, ⟨A', n', c', d3, d6, d7, d8⟩, RgP.of fun k p hp => ?_⟩
    have := h (k + 1) p (by simpa [parts] using hp)
    rw [show o + 4 + k * 4 = o + (k + 1) * 4 by omega]
    exact this
theorem PtAt.keep {w w' : World} {b o : Nat} {p : List Iv × Rg} {A : Option Addr} {n c : Nat} {x : Int} {f : Bool} {A' : Option Addr} {n' c' : Nat} (h : PtAt w b o p A n c x f A' n' c') (hk : Keeps w w') : PtAt w' b o p A n c x f A' n' c' :=
  ⟨keep_cell hk h.c0, keep_cell hk h.c1, keep_cell hk h.c2, keep_cell hk h.c3, h.ok, h.vs.keep hk, h.rg.keep hk⟩
theorem RgS.nil {w : World} (x : Int) (f : Bool) : RgS w x f none 0 0 (.nil x f) := ⟨rfl, rfl, ⟨Nat.le_refl _, fun _ => ⟨rfl, rfl⟩⟩, rfl, fun h => absurd h (by omega)⟩
theorem RgS.nil_of {w : World} {x : Int} {f : Bool} {A : Option Addr} {c : Nat} {r : Rg} (h : RgS w x f A 0 c r) : r = .nil x f := by
  have := h.len
  have h1 := h.hw
  have h2 := h.hf
  cases r with
  | nil x f => simp only [Rg.w, Rg.f] at h1 h2; rw [h1, h2]
  | cons vs rest tail => simp [Rg.len] at this
def sizeL (l : List (List Iv × Rg)) : Nat := (l.map fun p => 1 + p.2.size).sum
theorem size_parts : ∀ r : Rg, r.size = sizeL r.parts
  | .nil _ _ => rfl
  | .cons vs rest tail => by
    have ih := size_parts tail
    simp only [Rg.size, parts, sizeL, List.map_cons, List.sum_cons] at ih ⊢
    omega
theorem sizeL_cons (p : List Iv × Rg) (l : List (List Iv × Rg)) : sizeL (p :: l) = 1 + p.2.size + sizeL l := by simp [sizeL]
theorem sizeL_append (a b : List (List Iv × Rg)) : sizeL (a ++ b) = sizeL a + sizeL b := by simp [sizeL, List.sum_append]
theorem sizeL_drop {l : List (List Iv × Rg)} {k : Nat} {p : List Iv × Rg} (h : l[k]? = some p) : sizeL (l.drop k) = 1 + p.2.size + sizeL (l.drop (k + 1)) := by rw [drop_at h, sizeL_cons]
theorem sizeL_len : ∀ l : List (List Iv × Rg), l.length ≤ sizeL l
  | [] => Nat.le_refl _
  | p :: l => by have := sizeL_len l; rw [sizeL_cons, List.length_cons]; omega
theorem len_le_size (r : Rg) : r.len ≤ r.size := by rw [size_parts, ← len_parts]; exact sizeL_len _
theorem size_at {r : Rg} {k : Nat} {p : List Iv × Rg} (h : r.parts[k]? = some p) : p.2.size < r.size := size_mem (List.mem_of_getElem? h)
theorem nix_len (r : Rg) : r.nix = (!r.f && decide (r.len = 0)) := rfl
/-- one and the same part, looked at in two worlds -/
theorem RgS.at2 {w w' : World} {x : Int} {f : Bool} {A : Option Addr} {n c k : Nat} {r : Rg} (h : RgS w x f A n c r) (hK : Keeps w w') (hk : k < n) : ∃ b o p A1 n1 c1 x2 f2 A2 n2 c2, A = some ⟨b, o, none⟩ ∧ r.parts[k]? = some p ∧ PtAt w b (o + k * 4) p A1 n1 c1 x2 f2 A2 n2 c2 ∧ PtAt w' b (o + k * 4) p A1 n1 c1 x2 f2 A2 n2 c2 := by
  obtain ⟨b, o, p, A1, n1, c1, x2, f2, A2, n2, c2, e, hp, hpt⟩ := h.at hk
  exact ⟨b, o, p, A1, n1, c1, x2, f2, A2, n2, c2, e, hp, hpt, hpt.keep hK⟩
end Go.Proofs.Ytnocbigcdjlliaa
