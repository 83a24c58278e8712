/-
  Texts: RgMem, RgA, NeqI, RgSame.
-/
import Derived.Test.YtmnmckblmoalkaaGreatB7
set_option linter.unusedVariables false
/-
  How a region lies in memory: the parts of a tree in rows of four cells. No program here.
-/
namespace Go.Proofs.YtmnmckblmoalkaaGreat
open Go.RowKit
set_option maxRecDepth 100000
open Rg

/-- a slice's length and capacity are as they must be -/
def okS (A : Option Addr) (n c : Nat) : Prop := n ≤ c ∧ (A = none → n = 0 ∧ c = 0)
/-- the parts of a region lie in block b from cell o on -/
def RgP (w : World) : Rg → Nat → Nat → Prop
  | .nil _ _, _, _ => True
  | .cons vs rest tail, b, o =>
    (∃ A n c, w.cell? ⟨b, o, none⟩ = some (.slice A n c) ∧ okS A n c ∧ IvS w A n vs) ∧ w.cell? ⟨b, o + 1, none⟩ = some (.int .i64 rest.w) ∧ w.cell? ⟨b, o + 2, none⟩ = some (.bool rest.f) ∧
    (∃ A n c, w.cell? ⟨b, o + 3, none⟩ = some (.slice A n c) ∧ okS A n c ∧ n = rest.len ∧ (0 < n → ∃ b' o', A = some ⟨b', o', none⟩ ∧ RgP w rest b' o')) ∧ RgP w tail b (o + 4)
/-- the width x, the mark f and the slice with address A, length n, capacity c read as a region -/
structure RgS (w : World) (x : Int) (f : Bool) (A : Option Addr) (n c : Nat) (r : Rg) : Prop where
  hw : r.w = x
  hf : r.f = f
  ok : okS A n c
  len : n = r.len
  ex : 0 < n → ∃ b o, A = some ⟨b, o, none⟩ ∧ RgP w r b o
/-- one part -/
structure PtAt (w : World) (b o : Nat) (p : List Iv × Rg) (A : Option Addr) (n c : Nat) (x : Int) (f : Bool) (A' : Option Addr) (n' c' : Nat) : Prop where
  c0 : w.cell? ⟨b, o, none⟩ = some (.slice A n c)
  c1 : w.cell? ⟨b, o + 1, none⟩ = some (.int .i64 x)
  c2 : w.cell? ⟨b, o + 2, none⟩ = some (.bool f)
  c3 : w.cell? ⟨b, o + 3, none⟩ = some (.slice A' n' c')
  ok : okS A n c
  vs : IvS w A n p.1
  rg : RgS w x f A' n' c' p.2
theorem RgP.keep {w w' : World} (hk : Keeps w w') : ∀ {r : Rg} {b o : Nat}, RgP w r b o → RgP w' r b o
  | .nil _ _, _, _, _ => trivial
  | .cons vs rest tail, b, o, h => by
    obtain ⟨⟨A, n, c, h1, h2, h3⟩, h4, h5, ⟨A', n', c', h6, h7, h8, h9⟩, h10⟩ := h
    refine ⟨⟨A, n, c, keep_cell hk h1, h2, h3.keep hk⟩, keep_cell hk h4, keep_cell hk h5, ⟨A', n', c', keep_cell hk h6, h7, h8, fun hn => ?_⟩, RgP.keep hk h10⟩
    obtain ⟨b', o', e, h⟩ := h9 hn
    exact ⟨b', o', e, RgP.keep hk h⟩
theorem RgS.keep {w w' : World} {x : Int} {f : Bool} {A : Option Addr} {n c : Nat} {r : Rg} (h : RgS w x f A n c r) (hk : Keeps w w') : RgS w' x f A n c r :=
  ⟨h.hw, h.hf, h.ok, h.len, fun hn => by
    obtain ⟨b, o, e, hp⟩ := h.ex hn
    exact ⟨b, o, e, hp.keep hk⟩⟩
theorem RgP.at {w : World} : ∀ {r : Rg} {b o k : Nat} {p : List Iv × Rg}, RgP w r b o → r.parts[k]? = some p → ∃ A n c x f A' n' c', PtAt w b (o + k * 4) p A n c x f A' n' c'
  | .nil _ _, _, _, _, _, _, hp => by simp [parts] at hp
  | .cons vs rest tail, b, o, 0, p, h, hp => by
    simp only [parts, List.getElem?_cons_zero, Option.some.injEq] at hp
    subst hp
    obtain ⟨⟨A, n, c, h1, h2, h3⟩, h4, h5, ⟨A', n', c', h6, h7, h8, h9⟩, _⟩ := h
    exact ⟨A, n, c, rest.w, rest.f, A', n', c', ⟨by simpa using h1, by simpa using h4, by simpa using h5, by simpa using h6, h2, h3, ⟨rfl, rfl, h7, h8, h9⟩⟩⟩
  | .cons vs rest tail, b, o, k + 1, p, h, hp => by
    simp only [parts, List.getElem?_cons_succ] at hp
    have := RgP.at h.2.2.2.2 hp
    rw [show o + (k + 1) * 4 = o + 4 + k * 4 by omega]
    exact this
theorem RgS.at {w : World} {x : Int} {f : Bool} {A : Option Addr} {n c k : Nat} {r : Rg} (h : RgS w x f A n c r) (hk : k < n) : ∃ b o p A1 n1 c1 x2 f2 A2 n2 c2, A = some ⟨b, o, none⟩ ∧ r.parts[k]? = some p ∧ PtAt w b (o + k * 4) p A1 n1 c1 x2 f2 A2 n2 c2 := by
  obtain ⟨b, o, e, hp⟩ := h.ex (by omega)
  have hl := h.len
  have hk' : k < r.parts.length := by rw [len_parts]; omega
  obtain ⟨A1, n1, c1, x2, f2, A2, n2, c2, hpt⟩ := hp.at (List.getElem?_eq_getElem hk')
  exact ⟨b, o, _, A1, n1, c1, x2, f2, A2, n2, c2, e, List.getElem?_eq_getElem hk', hpt⟩
theorem RgP.of {w : World} : ∀ {r : Rg} {b o : Nat}, (∀ k p, r.parts[k]? = some p → ∃ A n c x f A' n' c', PtAt w b (o + k * 4) p A n c x f A' n' c') → RgP w r b o
  | .nil _ _, _, _, _ => trivial
  | .cons vs rest tail, b, o, h => by
    obtain ⟨A, n, c, x, f, A', n', c', h0⟩ := h 0 (vs, rest) rfl
    simp only [Nat.zero_mul, Nat.add_zero] at h0
    obtain ⟨d0, d1, d2, d3, d4, d5, ⟨rfl, rfl, d6, d7, d8⟩⟩ := h0
    refine ⟨⟨A, n, c, d0, d4, d5⟩, d1, d2, ⟨A', n', c', d3, d6, d7, d8⟩, RgP.of fun k p hp => ?_⟩
    have := h (k + 1) p (by simpa [parts] using hp)
    rw [show o + 4 + k * 4 = o + (k + 1) * 4 by omega]
    exact this
theorem PtAt.keep {w w' : World} {b o : Nat} {p : List Iv × Rg} {A : Option Addr} {n c : Nat} {x : Int} {f : Bool} {A' : Option Addr} {n' c' : Nat} (h : PtAt w b o p A n c x f A' n' c') (hk : Keeps w w') : PtAt w' b o p A n c x f A' n' c' :=
  ⟨keep_cell hk h.c0, keep_cell hk h.c1, keep_cell hk h.c2, keep_cell hk h.c3, h.ok, h.vs.keep hk, h.rg.keep hk⟩
theorem RgS.nil {w : World} (x : Int) (f : Bool) : RgS w x f none 0 0 (.nil x f) := ⟨rfl, rfl, ⟨Nat.le_refl _, fun _ => ⟨rfl, rfl⟩⟩, rfl, fun h => absurd h (by omega)⟩
def sizeL (l : List (List Iv × Rg)) : Nat := (l.map fun p => 1 + p.2.size).sum
theorem size_parts : ∀ r : Rg, r.size = sizeL r.parts
  | .nil _ _ => rfl
  | .cons vs rest tail => by
    have ih := size_parts tail
    simp only [Rg.size, parts, sizeL, List.map_cons, List.sum_cons] at ih ⊢
    omega
theorem sizeL_cons (p : List Iv × Rg) (l : List (List Iv × Rg)) : sizeL (p :: l) = 1 + p.2.size + sizeL l := by simp [sizeL]
theorem sizeL_append (a b : List (List Iv × Rg)) : sizeL (a ++ b) = sizeL a + sizeL b := by simp [sizeL, List.sum_append]
theorem sizeL_drop {l : List (List Iv × Rg)} {k : Nat} {p : List Iv × Rg} (h : l[k]? = some p) : sizeL (l.drop k) = 1 + p.2.size + sizeL (l.drop (k + 1)) := by rw [drop_at h, sizeL_cons]
theorem sizeL_len : ∀ l : List (List Iv × Rg), l.length ≤ sizeL l
  | [] => Nat.le_refl _
  | p :: l => by have := sizeL_len l; rw [sizeL_cons, List.length_cons]; omega
theorem len_le_size (r : Rg) : r.len ≤ r.size := by rw [size_parts, ← len_parts]; exact sizeL_len _
theorem size_at {r : Rg} {k : Nat} {p : List Iv × Rg} (h : r.parts[k]? = some p) : p.2.size < r.size := size_mem (List.mem_of_getElem? h)
theorem nix_len (r : Rg) : r.nix = (!r.f && decide (r.len = 0)) := rfl
/-- one and the same part, looked at in two worlds -/
theorem RgS.at2 {w w' : World} {x : Int} {f : Bool} {A : Option Addr} {n c k : Nat} {r : Rg} (h : RgS w x f A n c r) (hK : Keeps w w') (hk : k < n) : ∃ b o p A1 n1 c1 x2 f2 A2 n2 c2, A = some ⟨b, o, none⟩ ∧ r.parts[k]? = some p ∧ PtAt w b (o + k * 4) p A1 n1 c1 x2 f2 A2 n2 c2 ∧ PtAt w' b (o + k * 4) p A1 n1 c1 x2 f2 A2 n2 c2 := by
  obtain ⟨b, o, p, A1, n1, c1, x2, f2, A2, n2, c2, e, hp, hpt⟩ := h.at hk
  exact ⟨b, o, p, A1, n1, c1, x2, f2, A2, n2, c2, e, hp, hpt, hpt.keep hK⟩
end Go.Proofs.YtmnmckblmoalkaaGreat

/-
  The program's region functions that only look at one region: empty, size, few.
-/
namespace Go.Proofs.YtmnmckblmoalkaaGreat
open Go.RowKit
set_option maxRecDepth 100000
open Rg

theorem rempty_any (x : Int) (f : Bool) (A : Option Addr) (n c : Nat) (r : Rg) (w : World) (hR : RgS w x f A n c r) :
    Calls Tryz.prog 67 #[.agg #[.int .i64 x, .bool f, .slice A n c]] w fun e w' => e = .returned (.bool r.nix) ∧ Below w.heap.size w w' := by
  rw [nix_len, ← hR.len, hR.hf]
  clear hR
  cases f
  · go_enter Tryz.func67, Tryz.ntmps67
    go_wp2
    go_ret
    refine ⟨ret_bool ?_, (Below.refl _ _).alloc (Nat.le_refl _) _⟩
    rw [Bool.eq_iff_iff]
    simp
  · go_enter Tryz.func67, Tryz.ntmps67
    go_wp2
    go_ret
    exact ⟨ret_bool (by simp), (Below.refl _ _).alloc (Nat.le_refl _) _⟩

set_option maxHeartbeats 1000000 in
theorem rsize_any (r : Rg) : ∀ (x : Int) (f : Bool) (A : Option Addr) (n c : Nat) (w : World), RgS w x f A n c r → r.size ≤ 1000000 →
    Calls Tryz.prog 105 #[.agg #[.int .i64 x, .bool f, .slice A n c]] w fun e w' => e = .returned (.int .i64 (r.size : Int)) ∧ Below w.heap.size w w' := by
  induction hsz : r.size using Nat.strongRecOn generalizing r with
  | _ s ih =>
    intro x f A n c w hR hb
    have hnl := hR.len
    have hns : n ≤ s := by have := len_le_size r; omega
    have Hsz := Lib.hid hsz
    have HI := Lib.hid ih
    have HR := Lib.hid hR
    have HL : Hid (n + sizeL (r.parts.drop 0) = s + n) := by
      show _ = _
      rw [List.drop_zero, ← size_parts, hsz]
      omega
    clear ih hR hsz hnl
    go_enter Tryz.func105, Tryz.ntmps105
    go_wp2
    have hB0 : Below w.heap.size w (w.alloc (.cells #[.int .i64 x, .bool f, .slice A n c] 27)) := (Below.refl _ _).alloc (Nat.le_refl _) _
    go_loopw [3, 12] (fun v i wr => ∃ (k q : Nat), k ≤ n ∧ i = .int .i64 (k : Int) ∧ v = .int .i64 (q : Int) ∧ Hid (q + sizeL (r.parts.drop k) = s + (n - k)) ∧ Below w.heap.size w wr) (fun _ i _ => n - (intOf i).toNat)
    case atStart => exact ⟨0, n, by omega, rfl, rfl, HL, hB0⟩
    case round =>
      obtain ⟨k, q, hk, rfl, rfl, Hq, hb1⟩ := hrel
      by_cases hlt : k < n
      · obtain ⟨b, o, p, A1, n1, c1, px, pf, A2, n2, c2, rfl, hp, hpt⟩ := (HR.out.keep (keeps_of hb1)).at hlt
        have hps := size_at hp
        rw [Hsz.out] at hps
        have Hd := Lib.hid (sizeL_drop hp)
        obtain ⟨d0, d1, d2, d3, hok, hvs, hrg⟩ := hpt
        have HRG := Lib.hid hrg
        clear hp hok hvs hrg
        have HI' := Lib.hid (HI.out p.2.size hps p.2 rfl)
        have hqb : q ≤ s + n := by have := Hq.out; omega
        go_wp2_with fail
        refine (HI'.out px pf A2 n2 c2 _ (HRG.out.keep (keeps_alloc _ _)) (by omega)).mono ?_
        rintro e w2 ⟨rfl, hb2⟩
        go_wp2
        go_roundw
        case rel =>
          refine ⟨k + 1, q + p.2.size, by omega, by go_num, by go_num, ?_, Below.next (hb1.alloc hb1.size _) hb2⟩
          show _ = _
          have h1 := Hq.out
          have h2 := Hd.out
          omega
        case measure => simp [intOf]; omega
      · go_wp2
        go_ret
        refine ⟨ret_i64 ?_, hb1⟩
        have h1 := Hq.out
        rw [List.drop_eq_nil_of_le (by rw [len_parts]; have := HR.out.len; omega)] at h1
        simp only [sizeL, List.map_nil, List.sum_nil] at h1
        omega

set_option maxHeartbeats 1000000 in
theorem few_any (w0 : World) (B : Nat) (hB : w0.heap.size ≤ B) (r : Rg) : ∀ (x : Int) (f : Bool) (A : Option Addr) (n c : Nat) (v : Nat) (w : World), RgS w0 x f A n c r → v ≤ 64 → Below w0.heap.size w0 w → Blk w B 3 #[.int .i64 (v : Int)] →
    Calls Tryz.prog 100 #[.agg #[.int .i64 x, .bool f, .slice A n c], .pointer (some ⟨B, 0, none⟩)] w fun e w' => e = .returned (.bool (decide (r.size ≤ v))) ∧ Below w0.heap.size w0 w' ∧ (r.size ≤ v → Blk w' B 3 #[.int .i64 ((v - r.size : Nat) : Int)]) := by
  induction hsz : r.size using Nat.strongRecOn generalizing r with
  | _ s ih =>
    intro x f A n c v w hR hv hb hblk
    have Hsz := Lib.hid hsz
    have HI := Lib.hid ih
    have HR := Lib.hid hR
    have HL : Hid (sizeL (r.parts.drop 0) = s) := by
      show _ = _
      rw [List.drop_zero, ← size_parts, hsz]
    have hs1 : w0.heap.size ≤ w.heap.size := hb.size
    have hBl := hblk.lt
    have hblk1 := Lib.hid (hblk.alloc (.cells #[.int .i64 x, .bool f, .slice A n c] 27))
    have hB1 := hb.alloc hs1 (.cells #[.int .i64 x, .bool f, .slice A n c] 27)
    have HB1 := Lib.hid hB1
    clear ih hR hsz hB1 hblk
    go_enter Tryz.func100, Tryz.ntmps100
    go_wp2
    go_loopw [10] (fun i wr => ∃ (k q : Nat), k ≤ n ∧ k ≤ 64 ∧ i = .int .i64 (k : Int) ∧ q + k ≤ v ∧ Hid (sizeL (r.parts.drop k) + v = s + q) ∧ Blk wr B 3 #[.int .i64 (q : Int)] ∧ Below w0.heap.size w0 wr) (fun i _ => n - (intOf i).toNat)
    case atStart => exact ⟨0, v, by omega, by omega, rfl, by omega, (by show _ = _; have := HL.out; omega), hblk1.out, HB1.out⟩
    case round =>
      obtain ⟨k, q, hk, hk64, rfl, hqv, Hq, hbk, hb1⟩ := hrel
      clear hblk1 HB1
      by_cases hlt : k < n
      · obtain ⟨b, o, p, A1, n1, c1, px, pf, A2, n2, c2, rfl, hp, hpt', hpt⟩ := HR.out.at2 (keeps_of hb1) hlt
        have hps := size_at hp
        rw [Hsz.out] at hps
        have Hd := Lib.hid (sizeL_drop hp)
        have HRG := Lib.hid hpt'.rg
        obtain ⟨d0, d1, d2, d3, hok, hvs, hrg⟩ := hpt
        clear hp hok hvs hrg hpt'
        have HI' := Lib.hid (HI.out p.2.size hps p.2 rfl)
        have hsz1 := hb1.size
        have hBlt := hbk.lt
        have hbk2 := hbk.alloc (.cells #[.slice A1 n1 c1, .int .i64 px, .bool pf, .slice A2 n2 c2] 86)
        have hba := hb1.alloc hsz1 (.cells #[.slice A1 n1 c1, .int .i64 px, .bool pf, .slice A2 n2 c2] 86)
        have hnew := Blk.new wr 86 #[.slice A1 n1 c1, .int .i64 px, .bool pf, .slice A2 n2 c2]
        have hc2 := hbk2.cell
        have hf2 := hbk2.free
        have hne : ¬ wr.heap.size = B := by omega
        have hss : (wr.setCell ⟨B, 0, none⟩ (.int .i64 ((q : Int) - 1))).heap.size = wr.heap.size := by simp [World.setCell]
        have hbs := Lib.hid ((hbk.set_ 0 (.int .i64 ((q : Int) - 1))).alloc (.cells #[.slice A1 n1 c1, .int .i64 px, .bool pf, .slice A2 n2 c2] 86))
        have hnews := Blk.new (wr.setCell ⟨B, 0, none⟩ (.int .i64 ((q : Int) - 1))) 86 #[.slice A1 n1 c1, .int .i64 px, .bool pf, .slice A2 n2 c2]
        rw [hss] at hnews
        have hbas := Lib.hid ((hb1.setCell (p := ⟨B, 0, none⟩) hB (.int .i64 ((q : Int) - 1))).alloc (by rw [hss]; exact hsz1) (.cells #[.slice A1 n1 c1, .int .i64 px, .bool pf, .slice A2 n2 c2] 86))
        have hcs := blocks_at hbs.out (i := 0) (u := .int .i64 ((q : Int) - 1)) rfl
        have hcn := hnews.cell
        clear hbk hbk2 hba hnew hnews
        rcases Nat.eq_zero_or_pos q with hq0 | hq0
        · have g1 : decide ((q : Int) - 1 < 0) = true := by simp; omega
          have H0 := Lib.hid hq0
          clear hq0
          go_wp2
          go_ret
          have hq0 := H0.out
          refine ⟨ret_bool ?_, hbas.out, fun h => ?_⟩
          · have h1 := Hq.out
            have h2 := Hd.out
            simp; omega
          · have h1 := Hq.out
            have h2 := Hd.out
            omega
        · have g1 : decide ((q : Int) - 1 < 0) = false := by simp; omega
          go_wp2_with fail
          refine (HI'.out px pf A2 n2 c2 (q - 1) _ HRG.out (by omega) hbas.out (by rw [show ((q - 1 : Nat) : Int) = (q : Int) - 1 by omega]; exact hbs.out)).mono ?_
          rintro e w2 ⟨rfl, hb2, hblk2⟩
          have Hblk2 := Lib.hid hblk2
          clear hblk2
          by_cases hfit : p.2.size ≤ q - 1
          · have g2 : decide (p.2.size ≤ q - 1) = true := by simp [hfit]
            go_wp2
            go_roundw
            case rel =>
              refine ⟨k + 1, q - 1 - p.2.size, by omega, by omega, by go_num, by omega, ?_, Hblk2.out hfit, hb2⟩
              show _ = _
              have h1 := Hq.out
              have h2 := Hd.out
              omega
            case measure => simp [intOf]; omega
          · have g2 : decide (p.2.size ≤ q - 1) = false := by simp; omega
            go_wp2
            go_ret
            refine ⟨ret_bool ?_, hb2, fun h => ?_⟩
            · have h1 := Hq.out
              have h2 := Hd.out
              simp; omega
            · have h1 := Hq.out
              have h2 := Hd.out
              omega
      · go_wp2
        go_ret
        have h1 := Hq.out
        rw [List.drop_eq_nil_of_le (by rw [len_parts]; have := HR.out.len; omega)] at h1
        simp only [sizeL, List.map_nil, List.sum_nil] at h1
        refine ⟨ret_bool ?_, hb1, fun _ => ?_⟩
        · simp; omega
        · rw [show v - s = q by omega]; exact hbk
end Go.Proofs.YtmnmckblmoalkaaGreat

namespace Go.Proofs.YtmnmckblmoalkaaGreat
open Go.RowKit
set_option maxRecDepth 100000

theorem run_neqI (x y : Iv) (w : World) : (binOp .neq 90 (.agg #[.int .i64 x.f.k, .int .i64 x.f.i, .string x.f.t, .int .i64 x.t.k, .int .i64 x.t.i, .string x.t.t, .bool x.o]) (.agg #[.int .i64 y.f.k, .int .i64 y.f.i, .string y.f.t, .int .i64 y.t.k, .int .i64 y.t.i, .string y.t.t, .bool y.o])).run Tryz.prog w =
    .ok (.bool (decide (x ≠ y))) w := by
  obtain ⟨⟨a, b, c⟩, ⟨d, e, f⟩, g⟩ := x
  obtain ⟨⟨a', b', c'⟩, ⟨d', e', f'⟩, g'⟩ := y
  have h : decide ((⟨⟨a, b, c⟩, ⟨d, e, f⟩, g⟩ : Iv) ≠ ⟨⟨a', b', c'⟩, ⟨d', e', f'⟩, g'⟩) = !((a == a') && ((b == b') && ((c.toList == c'.toList) && ((d == d') && ((e == e') && ((f.toList == f'.toList) && (g == g'))))))) := by
    rw [Bool.eq_iff_iff]
    simp only [Iv.mk.injEq, Vl.mk.injEq, text_eq, decide_eq_true_eq, Bool.not_eq_true', Bool.and_eq_false_imp, beq_iff_eq, ne_eq, not_and, beq_eq_false_iff_ne, and_assoc]
  rw [h]
  clear h
  by_cases h1 : (a == a') = true
  · by_cases h2 : (b == b') = true
    · by_cases h3 : (c.toList == c'.toList) = true
      · by_cases h4 : (d == d') = true
        · by_cases h5 : (e == e') = true
          · by_cases h6 : (f.toList == f'.toList) = true
            · simp [go_sem, h1, h2, h3, h4, h5, h6]
              split <;> simp_all
            · simp [go_sem, h1, h2, h3, h4, h5, h6]
          · simp [go_sem, h1, h2, h3, h4, h5]
        · simp [go_sem, h1, h2, h3, h4]
      · simp [go_sem, h1, h2, h3]
    · simp [go_sem, h1, h2]
  · simp [go_sem, h1]
end Go.Proofs.YtmnmckblmoalkaaGreat

/-
  The program's region function same: it says whether two regions are the same tree.
-/
namespace Go.Proofs.YtmnmckblmoalkaaGreat
open Go.RowKit
set_option maxRecDepth 100000
open Rg

theorem rg_eq_iff (a b : Rg) : a = b ↔ a.w = b.w ∧ a.f = b.f ∧ a.parts = b.parts := ⟨fun h => by subst h; exact ⟨rfl, rfl, rfl⟩, fun ⟨h1, h2, h3⟩ => Rg.ext h1 h2 h3⟩

set_option maxRecDepth 8000 in
set_option maxHeartbeats 4000000 in
theorem rsame_any (a : Rg) : ∀ (x : Int) (f : Bool) (A : Option Addr) (n c : Nat) (y : Int) (g : Bool) (B : Option Addr) (m d : Nat) (b : Rg) (w : World), RgS w x f A n c a → RgS w y g B m d b → a.size ≤ 1000 → a.fits = true →
    Calls Tryz.prog 57 #[.agg #[.int .i64 x, .bool f, .slice A n c], .agg #[.int .i64 y, .bool g, .slice B m d]] w fun e w' => e = .returned (.bool (decide (a = b))) ∧ Below w.heap.size w w' := by
  induction hsz : a.size using Nat.strongRecOn generalizing a with
  | _ s ih =>
    intro x f A n c y g B m d b w hR hS hs hft
    have hB0 : Below w.heap.size w ((w.alloc (.cells #[.int .i64 x, .bool f, .slice A n c] 27)).alloc (.cells #[.int .i64 y, .bool g, .slice B m d] 27)) := ((Below.refl _ _).alloc (Nat.le_refl _) _).alloc (by simp) _
    have h0 : decide (a = b) = (decide (x = y) && decide (f = g) && decide (a.parts = b.parts)) := by
      rw [Bool.eq_iff_iff]
      simp only [decide_eq_true_eq, Bool.and_eq_true]
      rw [rg_eq_iff, hR.hw, hS.hw, hR.hf, hS.hf, and_assoc]
    have hn := hR.len
    have hm := hS.len
    have hns : n ≤ s := by have := len_le_size a; omega
    rw [h0]
    clear h0
    by_cases hxy : x = y
    · by_cases hfg : f = g
      · by_cases hnm : n = m
        · subst hxy hfg hnm
          generalize hr : (decide (x = x) && decide (f = f) && decide (a.parts = b.parts)) = r
          have HRR : Hid (decide (a.parts.drop 0 = b.parts.drop 0) = r) := by
            show _ = _
            simpa using hr
          have HI := Lib.hid ih
          have HR := Lib.hid hR
          have HS := Lib.hid hS
          have Hsz := Lib.hid hsz
          have HF := Lib.hid hft
          have HB0 := Lib.hid hB0
          clear ih hR hS hsz hr hft hn hm hB0
          have g1 : (x != x) = false := by simp
          have g2 : (f != f) = false := by simp
          go_enter Tryz.func57, Tryz.ntmps57
          go_wp2
          obtain ⟨W0, HW0⟩ : ∃ W : World, Hid ((w.alloc (.cells #[.int .i64 x, .bool f, .slice A n c] 27)).alloc (.cells #[.int .i64 x, .bool f, .slice B n d] 27) = W) := ⟨_, rfl⟩
          rw [HW0.out] at HB0
          have E2 : Hid (Blk W0 (w.heap.size + 1) 27 #[.int .i64 x, .bool f, .slice B n d]) := by
            have := Blk.new (w.alloc (.cells #[.int .i64 x, .bool f, .slice A n c] 27)) 27 #[.int .i64 x, .bool f, .slice B n d]
            rw [HW0.out, World.size_alloc] at this
            exact this
          go_loopw [34] (fun i wr => ∃ k : Nat, k ≤ n ∧ i = .int .i64 (k : Int) ∧ Hid (decide (a.parts.drop k = b.parts.drop k) = r) ∧ Below W0.heap.size W0 wr) (fun i _ => n - (intOf i).toNat)
          case atStart => exact ⟨0, by omega, rfl, HRR, by rw [HW0.out]; exact Below.refl _ _⟩
          case round =>
            obtain ⟨k, hk, rfl, hinv, hb0⟩ := hrel
            have hb := Below.next HB0.out hb0
            have hsw : w.heap.size + 1 < wr.heap.size := by have h1 := E2.out.lt; have h2 := hb0.size; omega
            by_cases hlt : k < n
            · obtain ⟨b1, o1, p, A1, n1, c1, x1, f1, A2, n2, c2, rfl, hp, hpt0, hpt⟩ := HR.out.at2 (keeps_of hb) hlt
              obtain ⟨b2, o2, q, B1, m1, d1, y1, g1', B2, m2, d2, rfl, hq, hqt0, hqt⟩ := HS.out.at2 (keeps_of hb) hlt
              have hK := keeps_of hb
              have Hst : Hid (r = (decide (p.1 = q.1) && decide (p.2 = q.2) && decide (a.parts.drop (k + 1) = b.parts.drop (k + 1)))) := by
                show _ = _
                rw [← hinv.out, drop_at hp, drop_at hq, Bool.eq_iff_iff]
                simp only [List.cons.injEq, decide_eq_true_eq, Bool.and_eq_true, Prod.ext_iff]
              have hps := size_at hp
              rw [Hsz.out] at hps
              have hpf := fits_mem HF.out (List.mem_of_getElem? hp)
              have HI' := Lib.hid (HI.out p.2.size hps p.2 rfl)
              have Hpf := Lib.hid hpf.2
              obtain ⟨p0, p1, p2, p3, pok, pvs, prg⟩ := hpt
              obtain ⟨q0, q1, q2, q3, qok, _, _⟩ := hqt.keep (keeps_alloc wr (.cells #[.slice A1 n1 c1, .int .i64 x1, .bool f1, .slice A2 n2 c2] 86))
              have qvs := hqt.vs
              have qrg := hqt.rg
              have hn1 : n1 ≤ 64 := by have := pvs.len; omega
              have PV := Lib.hid pvs
              have QV := Lib.hid qvs
              have PR := Lib.hid prg
              have QR := Lib.hid qrg
              have z1 := (E2.out.below hb0).cell
              clear hp hq hpt0 hqt0 hqt pok qok pvs qvs prg qrg hinv hpf
              have hba : Below wr.heap.size wr ((wr.alloc (.cells #[.slice A1 n1 c1, .int .i64 x1, .bool f1, .slice A2 n2 c2] 86)).alloc (.cells #[.slice B1 m1 d1, .int .i64 y1, .bool g1', .slice B2 m2 d2] 86)) := ((Below.refl _ _).alloc (Nat.le_refl _) _).alloc (by simp) _
              have HBA := Lib.hid hba
              clear hba
              by_cases hnm : n1 = m1
              · subst hnm
                have g3 : ((n1 : Int) != (n1 : Int)) = false := by simp
                go_wp2_with fail
                refine (HI'.out x1 f1 A2 n2 c2 y1 g1' B2 m2 d2 q.2 _ (PR.out.keep (keeps_of HBA.out)) (QR.out.keep (keeps_of HBA.out)) (by omega) Hpf.out).mono ?_
                rintro e w2 ⟨rfl, hb2⟩
                have hb2' := Below.next HBA.out hb2
                have E3 := Lib.hid (((Blk.new wr 86 #[.slice A1 n1 c1, .int .i64 x1, .bool f1, .slice A2 n2 c2]).alloc (.cells #[.slice B1 n1 d1, .int .i64 y1, .bool g1', .slice B2 m2 d2] 86)).below hb2)
                have E4 : Hid (Blk w2 (wr.heap.size + 1) 86 #[.slice B1 n1 d1, .int .i64 y1, .bool g1', .slice B2 m2 d2]) := by
                  have := (Blk.new (wr.alloc (.cells #[.slice A1 n1 c1, .int .i64 x1, .bool f1, .slice A2 n2 c2] 86)) 86 #[.slice B1 n1 d1, .int .i64 y1, .bool g1', .slice B2 m2 d2]).below hb2
                  rw [World.size_alloc] at this
                  exact this
                have z3 := E3.out.cell
                clear p0 p1 p2 p3 q0 q1 q2 q3 z1
                have PV2 := Lib.hid (PV.out.keep (keeps_of hb2'))
                have QV2 := Lib.hid (QV.out.keep (keeps_of hb2'))
                have HB2 := Lib.hid (Below.next hb0 hb2')
                clear hb2 hb2' hb hb0 HBA PR QR
                obtain ⟨q2, Hq2⟩ : ∃ t, Hid (decide (p.2 = q.2) = t) := ⟨_, rfl⟩
                rw [Hq2.out]
                cases q2
                · go_wp2
                  go_ret
                  exact ⟨ret_bool (by rw [Hst.out, Hq2.out]; simp), Below.next HB0.out HB2.out⟩
                · go_wp2
                  obtain ⟨r2, Hr2⟩ : ∃ t, Hid (decide (p.1.drop 0 = q.1.drop 0) = t) := ⟨_, rfl⟩
                  clear z3
                  go_loopw [62] (fun i wr' => ∃ j : Nat, j ≤ n1 ∧ i = .int .i64 (j : Int) ∧ Hid (decide (p.1.drop j = q.1.drop j) = r2) ∧ Below w2.heap.size w2 wr') (fun i _ => n1 - (intOf i).toNat)
                  case atStart => exact ⟨0, by omega, rfl, Hr2, Below.refl _ _⟩
                  case round =>
                    obtain ⟨j, hj, rfl, hinv2, hb3⟩ := hrel
                    have hB4 := Below.next HB2.out hb3
                    by_cases hjl : j < n1
                    · obtain ⟨b3, o3, u, rfl, hu, huc⟩ := (PV2.out.keep (keeps_of hb3)).at hjl
                      obtain ⟨b4, o4, v, rfl, hv, hvc⟩ := (QV2.out.keep (keeps_of hb3)).at hjl
                      have Hst2 : Hid (r2 = (decide (u = v) && decide (p.1.drop (j + 1) = q.1.drop (j + 1)))) := by
                        show _ = _
                        rw [← hinv2.out, drop_at hu, drop_at hv]
                        simp
                      have hev := run_neqI u v
                      obtain ⟨t, Ht⟩ : ∃ t, Hid (decide (u ≠ v) = t) := ⟨_, rfl⟩
                      rw [Ht.out] at hev
                      obtain ⟨⟨fk, fi, ft⟩, ⟨tk, ti, tt⟩, xo⟩ := u
                      obtain ⟨⟨gk, gi, gt⟩, ⟨uk, ui, ut⟩, yo⟩ := v
                      dsimp only at hev
                      obtain ⟨a0, a1, a2, a3, a4, a5, a6⟩ := IvAt.of huc
                      obtain ⟨v0, v1, v2, v3, v4, v5, v6⟩ := IvAt.of hvc
                      dsimp only at a0 a1 a2 a3 a4 a5 a6 v0 v1 v2 v3 v4 v5 v6
                      have hE4 := E4.out.below hb3
                      have hsz3 := hE4.lt
                      clear hu hv huc hvc
                      go_wp2
                      have hxx := (Blk.new wr 90 #[.int .i64 fk, .int .i64 fi, .string ft, .int .i64 tk, .int .i64 ti, .string tt, .bool xo]).drew.cell
                      have hyy := (hE4.alloc (.cells #[.int .i64 fk, .int .i64 fi, .string ft, .int .i64 tk, .int .i64 ti, .string tt, .bool xo] 90)).drew.cell
                      obtain ⟨s0, s1, s2, s3, s4, s5, s6⟩ := (IvAt.mk (w := wr) (b := b4) (p := o4 + j * 7) (x := ⟨⟨gk, gi, gt⟩, ⟨uk, ui, ut⟩, yo⟩) v0 v1 v2 v3 v4 v5 v6).keep (keeps_alloc wr (.cells #[.int .i64 fk, .int .i64 fi, .string ft, .int .i64 tk, .int .i64 ti, .string tt, .bool xo] 90)).drew
                      dsimp only at s0 s1 s2 s3 s4 s5 s6
                      have hB5 : Below w.heap.size w (wr.alloc (.cells #[.int .i64 fk, .int .i64 fi, .string ft, .int .i64 tk, .int .i64 ti, .string tt, .bool xo] 90)).drew := ((Below.next HB0.out hB4).alloc (Below.next HB0.out hB4).size _).drew
                      have hB6 : Below w2.heap.size w2 (wr.alloc (.cells #[.int .i64 fk, .int .i64 fi, .string ft, .int .i64 tk, .int .i64 ti, .string tt, .bool xo] 90)).drew := (hb3.alloc hb3.size _).drew
                      clear a0 a1 a2 a3 a4 a5 a6 v0 v1 v2 v3 v4 v5 v6 hE4
                      generalize hWn : (wr.alloc (.cells #[.int .i64 fk, .int .i64 fi, .string ft, .int .i64 tk, .int .i64 ti, .string tt, .bool xo] 90)).drew = Wn at *
                      have hca := @cell_after Wn
                      refine wp_region_seg [] [0, 1, 2, 3, 4, 5, 6] (by kernel_rfl) (by kernel_rfl) (fun _ _ d _ _ h => by cases d <;> exact h) ?_
                      rw [hWn]
                      clear hWn
                      simp only [pickSegs, pickOps, opAt, List.map_cons, List.map_nil, List.getElem?_toArray, List.getElem?_cons_zero, List.getElem?_cons_succ, Option.getD_some]
                      unfold wpBlocks
                      repeat (go_big_quiet_step (fail))
                      refine wpQuiet_nil ?_
                      clear hca hxx hyy s0 s1 s2 s3 s4 s5 s6
                      cases t
                      · go_wp2
                        go_roundw
                        case rel => exact ⟨j + 1, by omega, by go_num, (by show _ = _; rw [Hst2.out]; have := Ht.out; simp at this; simp [this]), hB6⟩
                        case measure => simp [intOf]; omega
                      · go_wp2
                        go_ret
                        refine ⟨ret_bool ?_, hB5⟩
                        have h1 := Ht.out
                        have h2 := Hst2.out
                        have h3 := Hr2.out
                        simp only [decide_eq_true_eq] at h1
                        rw [decide_eq_false h1, Bool.false_and] at h2
                        rw [h2, List.drop_zero, List.drop_zero] at h3
                        rw [Hst.out, h3]
                        rfl
                    · go_wp2
                      go_roundw
                      case rel =>
                        refine ⟨k + 1, by omega, by go_num, ?_, hB4⟩
                        have h1 : p.1.drop j = [] := List.drop_eq_nil_of_le (by have := PV.out.len; omega)
                        have h2 : q.1.drop j = [] := List.drop_eq_nil_of_le (by have := QV.out.len; omega)
                        have h3 := hinv2.out
                        rw [h1, h2] at h3
                        have h4 := Hr2.out
                        rw [← h3, List.drop_zero, List.drop_zero] at h4
                        show _ = _
                        rw [Hst.out, h4, Hq2.out]
                        simp
                      case measure => simp [intOf]; omega
              · have g3 : ((n1 : Int) != (m1 : Int)) = true := by simp; omega
                have Hne : Hid (p.1 ≠ q.1) := Lib.hid (fun h => hnm (by rw [← PV.out.len, ← QV.out.len, h]))
                clear hnm
                go_wp2
                go_ret
                exact ⟨ret_bool (by rw [Hst.out]; simp [Hne.out]), Below.next hb HBA.out⟩
            · go_wp2
              go_ret
              have h1 : a.parts.drop k = [] := List.drop_eq_nil_of_le (by rw [len_parts]; have := HR.out.len; omega)
              have h2 : b.parts.drop k = [] := List.drop_eq_nil_of_le (by rw [len_parts]; have := HS.out.len; omega)
              exact ⟨ret_bool (by rw [← hinv.out, h1, h2]; simp), hb⟩
        · have hr : (decide (x = y) && decide (f = g) && decide (a.parts = b.parts)) = false := by
            have : a.parts ≠ b.parts := fun h => hnm (by rw [hn, hm, ← len_parts, ← len_parts, h])
            simp [this]
          rw [hr]
          have g3 : ((n : Int) != (m : Int)) = true := by simp; omega
          subst hxy hfg
          have g1 : (x != x) = false := by simp
          have g2 : (f != f) = false := by simp
          have HB0 := Lib.hid hB0
          clear ih hR hS hsz hr hft hn hm hB0 hnm
          go_enter Tryz.func57, Tryz.ntmps57
          go_wp2
          go_ret
          exact ⟨rfl, HB0.out⟩
      · have hr : (decide (x = y) && decide (f = g) && decide (a.parts = b.parts)) = false := by simp [hfg]
        rw [hr]
        subst hxy
        have g1 : (x != x) = false := by simp
        have HB0 := Lib.hid hB0
        clear ih hR hS hsz hr hft hn hm hB0
        cases f <;> cases g <;> first | exact absurd rfl hfg | skip
        all_goals
          clear hfg
          go_enter Tryz.func57, Tryz.ntmps57
          go_wp2
          go_ret
          exact ⟨rfl, HB0.out⟩
    · have hr : (decide (x = y) && decide (f = g) && decide (a.parts = b.parts)) = false := by simp [hxy]
      rw [hr]
      have g1 : (x != y) = true := by simp [hxy]
      have HB0 := Lib.hid hB0
      clear ih hR hS hsz hr hft hn hm hB0 hxy
      go_enter Tryz.func57, Tryz.ntmps57
      go_wp2
      go_ret
      exact ⟨rfl, HB0.out⟩
end Go.Proofs.YtmnmckblmoalkaaGreat
