/-
  Texts: RgBox, Cols, IgMem, I64, IgSc, IgKey, Case2, GCells, RgSmall.
-/
import Derived.Test.YtponkkljlbifmaaGreatH6
set_option linter.unusedVariables false
/-
  The program's region functions box and Box.
-/
namespace Go.Proofs.YtponkkljlbifmaaGreat
open Go.RowKit
set_option maxRecDepth 100000
open Rg

/-- a block that is a region's own three cells holds neither parts nor intervals -/
theorem IvS.off {w w' : World} {B : Nat} {T : TypeId} {x : Int} {f : Bool} {v : Value} (hB : Blk w B T #[.int .i64 x, .bool f, v]) (hb : But (· = B) w w') {A : Option Addr} {n : Nat} {l : List Iv} (h : IvS w A n l) : IvS w' A n l := by
  refine h.but hb fun hn b o hA e => ?_
  subst e
  obtain ⟨b', o', y, hA', _, hc⟩ := h.at hn
  rw [hA] at hA'
  injection hA' with h1
  injection h1 with h1 h2
  subst h1 h2
  have c0 := hc 0 _ rfl
  have c1 := hc 1 _ rfl
  rw [hB.cell] at c0 c1
  simp only [Nat.zero_mul, Nat.add_zero] at c0 c1
  rcases o with _ | _ | _ | o <;> simp at c0 c1
theorem RgP.off {w w' : World} {B : Nat} {T : TypeId} {x : Int} {f : Bool} {A : Option Addr} {n c : Nat} (hB : Blk w B T #[.int .i64 x, .bool f, .slice A n c]) (hb : But (· = B) w w') : ∀ {r : Rg} {b o : Nat}, RgP w r b o → RgP w' r b o
  | .nil _ _, _, _, _ => trivial
  | .cons vs rest tail, b, o, h => by
    obtain ⟨⟨A1, n1, c1, h1, h2, h3⟩, h4, h5, ⟨A', n', c', h6, h7, h8, h9⟩, h10⟩ := h
    have hne : ¬ b = B := by
      intro e
      subst e
      rw [hB.cell] at h1 h4
      rcases o with _ | _ | _ | o <;> simp at h1 h4
    have hk : ∀ j v, w.cell? ⟨b, j, none⟩ = some v → w'.cell? ⟨b, j, none⟩ = some v := fun j v hv => by
      have hlt := cell_lt (w := w) (a := ⟨b, j, none⟩) (by rw [hv]; rfl)
      rw [World.cell?_of_block (w := w) (hb.block b hlt hne)]
      exact hv
    refine ⟨⟨A1, n1, c1, hk _ _ h1, h2, h3.off hB hb⟩, hk _ _ h4, hk _ _ h5, ⟨A', n', c', hk _ _ h6, h7, h8, fun hn => ?_⟩, RgP.off hB hb h10⟩
    obtain ⟨b', o', e, h⟩ := h9 hn
    exact ⟨b', o', e, RgP.off hB hb h⟩
theorem RgS.off {w w' : World} {B : Nat} {T : TypeId} {x' : Int} {f' : Bool} {A' : Option Addr} {n' c' : Nat} (hB : Blk w B T #[.int .i64 x', .bool f', .slice A' n' c']) (hb : But (· = B) w w') {x : Int} {f : Bool} {A : Option Addr} {n c : Nat} {r : Rg} (h : RgS w x f A n c r) : RgS w' x f A n c r :=
  ⟨h.hw, h.hf, h.ok, h.len, fun hn => by
    obtain ⟨b, o, e, hp⟩ := h.ex hn
    exact ⟨b, o, e, hp.off hB hb⟩⟩
/-- the box of some sets -/
def boxR : List (List Iv) → Rg
  | [] => .nil 0 true
  | s :: l => if !s.isEmpty && !(boxR l).nix then .cons s (boxR l) (.nil ((boxR l).w + 1) false) else .nil ((boxR l).w + 1) false
/-- a slice of sets -/
abbrev SetP := (Option Addr × Nat × Nat) × List Iv
def setc (p : SetP) : List Value := [.slice p.1.1 p.1.2.1 p.1.2.2]
structure SetsS (w : World) (A : Option Addr) (n : Nat) (ps : List SetP) : Prop where
  sl : Sl 1 setc w A n ps
  ok : ∀ p ∈ ps, okS p.1.1 p.1.2.1 p.1.2.2 ∧ p.1.2.1 ≤ 1000000 ∧ IvS w p.1.1 p.1.2.1 p.2
theorem SetsS.keep {w w' : World} {A : Option Addr} {n : Nat} {ps : List SetP} (h : SetsS w A n ps) (hk : Keeps w w') : SetsS w' A n ps :=
  ⟨h.sl.keep hk, fun p hp => ⟨(h.ok p hp).1, (h.ok p hp).2.1, (h.ok p hp).2.2.keep hk⟩⟩
/-- a region of one part that was built just now -/
theorem RgS.one {w : World} {g : Nat} {T : TypeId} {A : Option Addr} {n c : Nat} {x : Int} {f : Bool} {A' : Option Addr} {n' c' : Nat} {vs : List Iv} {r : Rg} (hB : Blk w g T #[.slice A n c, .int .i64 x, .bool f, .slice A' n' c']) (hok : okS A n c) (hvs : IvS w A n vs) (hr : RgS w x f A' n' c' r) (y : Int) : RgS w y false (some ⟨g, 0, none⟩) 1 1 (.cons vs r (.nil y false)) :=
  ⟨rfl, rfl, ⟨Nat.le_refl _, fun h => by cases h⟩, rfl, fun _ => ⟨g, 0, rfl, ⟨A, n, c, by rw [hB.cell]; rfl, hok, hvs⟩, by rw [hB.cell, hr.hw]; rfl, by rw [hB.cell, hr.hf]; rfl, ⟨A', n', c', by rw [hB.cell]; rfl, hr.ok, hr.len, hr.ex⟩, trivial⟩⟩
theorem own_okS {w : World} {base : Nat} {e : TypeId} {sz n c : Nat} {A : Option Addr} {xs : List Value} (h : w.ownsRow base e sz (.slice A n c) n xs) : okS A n c := by
  rcases h.2 with ⟨hv, hn⟩ | ⟨g, cap, cur, hv, _, _, hnc, _⟩
  · injection hv with h1 h2 h3
    exact ⟨by omega, fun _ => ⟨hn, h3⟩⟩
  · injection hv with h1 h2 h3
    exact ⟨by omega, fun h => by rw [h] at h1; cases h1⟩
end Go.Proofs.YtponkkljlbifmaaGreat

/-
  Columns: lists of numbers, and whether they are distinct indices below a width; the program's distinct and the reference's.
-/
namespace Go.Proofs.YtponkkljlbifmaaGreat
open Go.RowKit
set_option maxRecDepth 100000

/-- a number's cell -/
def i64c (b : Int) : List Value := [.int .i64 b]
/-- a list of columns lies there -/
abbrev ClS (w : World) (A : Option Addr) (n : Nat) (cs : List Int) : Prop := Sl 1 i64c w A n cs
/-- distinct indices below a width -/
def dstB (W : Int) (cs : List Int) : Bool := cs.all (fun c => decide (0 ≤ c ∧ c < W)) && decide cs.Nodup
theorem take_snocI {l : List Int} {k : Nat} {v : Int} (h : l[k]? = some v) : l.take (k + 1) = l.take k ++ [v] := by
  rw [List.take_add_one, h]
  rfl
end Go.Proofs.YtponkkljlbifmaaGreat

/-
  How schemas and states lie in memory. No program here.
-/
namespace Go.Proofs.YtponkkljlbifmaaGreat
open Go.RowKit
set_option maxRecDepth 100000
open Pd

def Cm.cs (c : Cm) : List Value := [.string c.nm, .int .i64 c.k]
theorem Cm.cs_len (c : Cm) : c.cs.length = 2 := rfl
/-- a reference and where its columns lie -/
structure RfE where
  x : Rf
  A : Option Addr
  n : Nat
  c : Nat
def RfE.cs (e : RfE) : List Value := [.slice e.A e.n e.c, .int .i64 e.x.t]
theorem RfE.cs_len (e : RfE) : e.cs.length = 2 := rfl
/-- a table and where its columns, references and checks lie -/
structure TbE where
  T : Tb
  c : Hd
  r : Hd
  h : Hd
def TbE.cs (e : TbE) : List Value := [.string e.T.nm, .slice e.c.1 e.c.2.1 e.c.2.2, .int .i64 e.T.key, .slice e.r.1 e.r.2.1 e.r.2.2, .slice e.h.1 e.h.2.1 e.h.2.2]
theorem TbE.cs_len (e : TbE) : e.cs.length = 5 := rfl
structure RfsS (w : World) (A : Option Addr) (n : Nat) (l : List Rf) (xs : List RfE) : Prop where
  sl : Sl 2 RfE.cs w A n xs
  eq : xs.map (·.x) = l
  ok : ∀ x ∈ xs, ClS w x.A x.n x.x.cols
structure PdsS (w : World) (A : Option Addr) (n : Nat) (l : List Pd) (xs : List PdE) : Prop where
  sl : Sl 13 PdE.cs w A n xs
  eq : xs.map (·.p) = l
  ok : ∀ x ∈ xs, PrdS w x.A x.n x.c x.p
structure TbOk (w : World) (e : TbE) : Prop where
  cs : Sl 2 Cm.cs w e.c.1 e.c.2.1 e.T.cols
  rs : ∃ xs, RfsS w e.r.1 e.r.2.1 e.T.refs xs
  hs : ∃ xs, PdsS w e.h.1 e.h.2.1 e.T.chks xs
/-- the tables of a schema -/
structure ScE (w : World) (A : Option Addr) (n : Nat) (tbs : List Tb) (es : List TbE) : Prop where
  sl : Sl 5 TbE.cs w A n es
  eq : es.map (·.T) = tbs
  ok : ∀ e ∈ es, TbOk w e
def ScS (w : World) (A : Option Addr) (n : Nat) (tbs : List Tb) : Prop := ∃ es, ScE w A n tbs es
section
variable {w w' : World} {A : Option Addr} {n : Nat}
theorem RfsS.keep {l : List Rf} {xs : List RfE} (h : RfsS w A n l xs) (hk : Keeps w w') : RfsS w' A n l xs := ⟨h.sl.keep hk, h.eq, fun x hx => (h.ok x hx).keep hk⟩
theorem PdsS.keep {l : List Pd} {xs : List PdE} (h : PdsS w A n l xs) (hk : Keeps w w') : PdsS w' A n l xs := ⟨h.sl.keep hk, h.eq, fun x hx => (h.ok x hx).keep hk⟩
theorem TbOk.keep {e : TbE} (h : TbOk w e) (hk : Keeps w w') : TbOk w' e := by
  obtain ⟨xs, h1⟩ := h.rs
  obtain ⟨ys, h2⟩ := h.hs
  exact ⟨h.cs.keep hk, ⟨xs, h1.keep hk⟩, ⟨ys, h2.keep hk⟩⟩
theorem ScS.keep {tbs : List Tb} (h : ScS w A n tbs) (hk : Keeps w w') : ScS w' A n tbs := by
  obtain ⟨es, h⟩ := h
  exact ⟨es, h.sl.keep hk, h.eq, fun e he => (h.ok e he).keep hk⟩
theorem ScS.len {tbs : List Tb} (h : ScS w A n tbs) : tbs.length = n := by
  obtain ⟨es, h⟩ := h
  rw [← h.eq, List.length_map, h.sl.len]
/-- a table and its cells -/
theorem ScS.at {tbs : List Tb} (h : ScS w A n tbs) {k : Nat} (hk : k < n) : ∃ (b o : Nat) (e : TbE), A = some ⟨b, o, none⟩ ∧ tbs[k]? = some e.T ∧ TbOk w e ∧
    w.cell? ⟨b, o + k * 5, none⟩ = some (.string e.T.nm) ∧ w.cell? ⟨b, o + k * 5 + 1, none⟩ = some (.slice e.c.1 e.c.2.1 e.c.2.2) ∧ w.cell? ⟨b, o + k * 5 + 2, none⟩ = some (.int .i64 e.T.key) ∧ w.cell? ⟨b, o + k * 5 + 3, none⟩ = some (.slice e.r.1 e.r.2.1 e.r.2.2) ∧ w.cell? ⟨b, o + k * 5 + 4, none⟩ = some (.slice e.h.1 e.h.2.1 e.h.2.2) := by
  obtain ⟨es, h⟩ := h
  obtain ⟨b, o, e, hA, he, hc⟩ := h.sl.at hk
  exact ⟨b, o, e, hA, by rw [← h.eq, List.getElem?_map, he]; rfl, h.ok e (List.mem_of_getElem? he), by simpa using hc 0 _ rfl, hc 1 _ rfl, hc 2 _ rfl, hc 3 _ rfl, hc 4 _ rfl⟩
theorem Cm.at {l : List Cm} (h : Sl 2 Cm.cs w A n l) {k : Nat} (hk : k < n) : ∃ (b o : Nat) (x : Cm), A = some ⟨b, o, none⟩ ∧ l[k]? = some x ∧ w.cell? ⟨b, o + k * 2, none⟩ = some (.string x.nm) ∧ w.cell? ⟨b, o + k * 2 + 1, none⟩ = some (.int .i64 x.k) := by
  obtain ⟨b, o, x, hA, hx, hc⟩ := h.at hk
  exact ⟨b, o, x, hA, hx, by simpa using hc 0 _ rfl, hc 1 _ rfl⟩
theorem RfsS.at {l : List Rf} {xs : List RfE} (h : RfsS w A n l xs) {k : Nat} (hk : k < n) : ∃ (b o : Nat) (x : RfE), A = some ⟨b, o, none⟩ ∧ l[k]? = some x.x ∧ ClS w x.A x.n x.x.cols ∧ w.cell? ⟨b, o + k * 2, none⟩ = some (.slice x.A x.n x.c) ∧ w.cell? ⟨b, o + k * 2 + 1, none⟩ = some (.int .i64 x.x.t) := by
  obtain ⟨b, o, x, hA, hx, hc⟩ := h.sl.at hk
  exact ⟨b, o, x, hA, by rw [← h.eq, List.getElem?_map, hx]; rfl, h.ok x (List.mem_of_getElem? hx), by simpa using hc 0 _ rfl, hc 1 _ rfl⟩
theorem RfsS.len {l : List Rf} {xs : List RfE} (h : RfsS w A n l xs) : l.length = n := by rw [← h.eq, List.length_map, h.sl.len]
theorem PdsS.len {l : List Pd} {xs : List PdE} (h : PdsS w A n l xs) : l.length = n := by rw [← h.eq, List.length_map, h.sl.len]
theorem PdsS.at {l : List Pd} {xs : List PdE} (h : PdsS w A n l xs) {k : Nat} (hk : k < n) : ∃ (b o : Nat) (x : PdE), A = some ⟨b, o, none⟩ ∧ l[k]? = some x.p ∧ PrdS w x.A x.n x.c x.p ∧ ∀ (j : Nat) (u : Value), (PdE.cs x)[j]? = some u → w.cell? ⟨b, o + k * 13 + j, none⟩ = some u := by
  obtain ⟨b, o, x, hA, hx, hc⟩ := h.sl.at hk
  exact ⟨b, o, x, hA, by rw [← h.eq, List.getElem?_map, hx]; rfl, h.ok x (List.mem_of_getElem? hx), hc⟩
end

/-- a list of rows and where it lies -/
abbrev TlP := Hd × List RowP
def tlc (p : TlP) : List Value := [.slice p.1.1 p.1.2.1 p.1.2.2]
structure TlOk (w : World) (p : TlP) : Prop where
  rd : RowsS w p.1.1 p.1.2.1 p.2
  nl : p.1.1 = none → p.1.2.1 = 0 ∧ p.1.2.2 = 0
  le : p.1.2.1 ≤ p.1.2.2
  mx : p.1.2.2 ≤ 9223372036854775807
def tlR (p : TlP) : List Rw := p.2.map (·.2)
abbrev stR (ls : List TlP) : List (List Rw) := ls.map tlR
/-- the lists of a state -/
structure StS (w : World) (A : Option Addr) (n : Nat) (ls : List TlP) : Prop where
  sl : Sl 1 tlc w A n ls
  ok : ∀ p ∈ ls, TlOk w p
section
variable {w w' : World} {A : Option Addr} {n : Nat}
theorem TlOk.keep {p : TlP} (h : TlOk w p) (hk : Keeps w w') : TlOk w' p := ⟨h.rd.keep hk, h.nl, h.le, h.mx⟩
theorem StS.keep {ls : List TlP} (h : StS w A n ls) (hk : Keeps w w') : StS w' A n ls := ⟨h.sl.keep hk, fun p hp => (h.ok p hp).keep hk⟩
theorem StS.at {ls : List TlP} (h : StS w A n ls) {k : Nat} (hk : k < n) : ∃ (b o : Nat) (p : TlP), A = some ⟨b, o, none⟩ ∧ ls[k]? = some p ∧ TlOk w p ∧ w.cell? ⟨b, o + k, none⟩ = some (.slice p.1.1 p.1.2.1 p.1.2.2) := by
  obtain ⟨b, o, p, hA, hp, hc⟩ := h.sl.at hk
  have := hc 0 _ rfl
  rw [Nat.mul_one, Nat.add_zero] at this
  exact ⟨b, o, p, hA, hp, h.ok p (List.mem_of_getElem? hp), this⟩
theorem TlOk.len {p : TlP} (h : TlOk w p) : (tlR p).length = p.1.2.1 := by
  unfold tlR
  rw [List.length_map, h.rd.sl.len]
end
end Go.Proofs.YtponkkljlbifmaaGreat

/-
  Numbers as cells.
-/
namespace Go.Proofs.YtponkkljlbifmaaGreat
open Go.RowKit
set_option maxRecDepth 100000

theorem i64c_len (z : Int) : (i64c z).length = 1 := rfl
theorem one_i64 (z : Int) : ∀ u ∈ i64c z, u.oneCell' = true := by simp [i64c, Value.oneCell']
theorem info_i64 : (Tryz.prog.info? 3).map (fun i => (i.zero, i.size, i.bytes)) = some (some (.int .i64 0), 1, 8) := by kernel_rfl
end Go.Proofs.YtponkkljlbifmaaGreat

/-
  The program's schema functions on a table that is there: has, Kinds, Key, prefix.
-/
namespace Go.Proofs.YtponkkljlbifmaaGreat
open Go.RowKit
set_option maxRecDepth 100000
open Pd

theorem shas_any (ver : Int) (A : Option Addr) (n c : Nat) (t : Int) (w : World) (hn : n ≤ 8) :
    Calls Tryz.prog 84 #[.agg #[.int .i64 ver, .slice A n c], .int .i64 t] w fun e w' => e = .returned (.bool (decide (0 ≤ t ∧ t < (n : Int)))) ∧ Below w.heap.size w w' := by
  have HB := Lib.hid ((Below.refl _ w).alloc (Nat.le_refl _) (.cells #[.int .i64 ver, .slice A n c] 30))
  go_enter Tryz.func84, Tryz.ntmps84
  by_cases h0 : 0 ≤ t
  · have g0 : decide (0 ≤ t) = true := by simp [h0]
    have g1 : decide (0 ≤ t ∧ t < (n : Int)) = decide (t < (n : Int)) := by simp [h0]
    rw [g1]
    go_wp2
    go_ret
    exact ⟨rfl, HB.out⟩
  · have g0 : decide (0 ≤ t) = false := by simp; omega
    have g1 : decide (0 ≤ t ∧ t < (n : Int)) = false := by simp; omega
    rw [g1]
    go_wp2
    go_ret
    exact ⟨rfl, HB.out⟩

/-- the list of kinds lies there, in a row of its own -/
def KdsO (T : Tb) (w : World) (e : Ending) (w' : World) : Prop := ∃ (A : Option Addr) (c : Nat), e = .returned (.slice A T.cols.length c) ∧ w'.ownsRow w.heap.size 3 1 (.slice A T.cols.length c) T.cols.length (T.kinds.flatMap i64c) ∧ Below w.heap.size w w'
theorem take_kinds {T : Tb} {k : Nat} {x : Cm} (h : T.cols[k]? = some x) : (T.kinds.take (k + 1)).flatMap i64c = (T.kinds.take k).flatMap i64c ++ [.int .i64 x.k] := by
  have h1 : T.kinds[k]? = some x.k := by unfold Tb.kinds; rw [List.getElem?_map, h]; rfl
  rw [take_snocI h1, List.flatMap_append]
  rfl
set_option maxHeartbeats 2000000 in
theorem kinds_any (ver : Int) (A : Option Addr) (n c : Nat) (tbs : List Tb) (t : Nat) (T : Tb) (w : World) (hs : ScS w A n tbs) (hn : n ≤ 8) (hT : tbs[t]? = some T) (h8 : T.cols.length ≤ 8) :
    Calls Tryz.prog 112 #[.agg #[.int .i64 ver, .slice A n c], .int .i64 (t : Int)] w fun e w' => KdsO T w e w' := by
  obtain ⟨i0, hi, hz0, hz1, hz2⟩ := info_parts info_i64
  have ht : t < n := by rw [← hs.len]; exact (List.getElem?_eq_some_iff.1 hT).1
  obtain ⟨b, o, e, rfl, he, hok, c0, c1, c2, c3, c4⟩ := hs.at ht
  obtain rfl : T = e.T := by rw [hT] at he; injection he
  have HC := Lib.hid hok.cs
  have Hln := Lib.hid (hok.cs.len)
  clear hs hok hT he
  obtain ⟨T, ⟨A1, n1, k1⟩, ⟨A2, n2, k2⟩, ⟨A3, n3, k3⟩⟩ := e
  dsimp only at HC Hln c0 c1 c2 c3 c4 h8 ⊢
  have HZ := Lib.hid (Blk.new w 30 #[.int .i64 ver, .slice (some ⟨b, o, none⟩) n c])
  have HB := Lib.hid ((Below.refl _ w).alloc (Nat.le_refl _) (.cells #[.int .i64 ver, .slice (some ⟨b, o, none⟩) n c] 30))
  go_enter Tryz.func112, Tryz.ntmps112
  go_wp2_with fail
  refine (shas_any ver _ n c (t : Int) _ hn).mono ?_
  rintro e w1 ⟨rfl, hb1⟩
  have g1 : decide (0 ≤ (t : Int) ∧ (t : Int) < (n : Int)) = true := by simp; omega
  rw [g1]
  have hk := keeps_of (Below.next HB.out hb1)
  have d1 := (hk _ (by rw [c1]; rfl)).trans c1
  have HZ1 := Lib.hid (HZ.out.below hb1)
  have HC1 := Lib.hid (HC.out.keep hk)
  have HB1 := Lib.hid (Below.next HB.out hb1)
  have z := HZ1.out.cell
  have hsz1 := HZ1.out.lt
  have hn1 : n1 ≤ 8 := by have := Hln.out; omega
  clear c0 c1 c2 c3 c4 hb1 hk HZ HC HB
  go_wp2_with (at_make; refine wpList_make_own w1 rfl _ _ _ rfl w1.heap.size 3 i0 _ 1 Tryz.underlying63 hi hz0 hz1 .i64 .i64 _ n1 rfl rfl (by omega) (by rw [hz2]; omega) (by simp only [maxLen]; omega) (Nat.le_refl _) ?_; intro w2 hown hg; have hb2 : Below w1.heap.size w1 w2 := (Below.refl _ _).grown hg (Nat.le_refl _) (fun k hk => by cases hk); have z2 := (HZ1.out.below hb2).cell; have d2 := (keeps_of hb2 _ (by rw [d1]; rfl)).trans d1)
  have HO2 := Lib.hid hown
  have HB12 := Lib.hid hb2
  clear z d1 hown hg hb2
  go_loopw [5, 27] (fun v i wr => ∃ (k : Nat) (A : Option Addr) (c : Nat), k ≤ n1 ∧ i = .int .i64 (k : Int) ∧ v = .slice A k c ∧ Hid (wr.ownsRow w1.heap.size 3 1 (.slice A k c) k ((T.kinds.take k).flatMap i64c)) ∧ Hid (Below w1.heap.size w1 wr)) (fun _ i _ => n1 - (intOf i).toNat)
  case atStart => exact ⟨0, _, _, by omega, rfl, rfl, HO2, HB12⟩
  case round =>
    obtain ⟨k, A, c', hk, rfl, rfl, HO, HBr⟩ := hrel
    have HBw := Lib.hid (Below.next HB1.out HBr.out)
    clear z2
    by_cases hlt : k < n1
    · obtain ⟨b', o', x, rfl, hx, e0, e1⟩ := Cm.at (HC1.out.keep (keeps_of HBr.out)) hlt
      have HX := Lib.hid (Blk.new wr 56 #[.string x.nm, .int .i64 x.k])
      have HO3 := HO.out.alloc (.cells #[.string x.nm, .int .i64 x.k] 56)
      have HB3 := HBr.out.alloc HBr.out.size (.cells #[.string x.nm, .int .i64 x.k] 56)
      have Hx := Lib.hid (take_kinds hx)
      have zx := HX.out.cell
      clear hx HO
      go_wp2_with (at_builtin; refine wpList_append_one2 (by rfl) (.tmp 31) (.tmp 34) _ (by rfl) w1.heap.size 3 i0 _ 1 8 Tryz.underlying63 hi hz0 hz1 hz2 (by rfl) (by omega) (.slice A k c') k _ (by rfl) (wr.alloc (.cells #[.string x.nm, .int .i64 x.k] 56)) #[.int .i64 x.k] HO3 (wr.heap.size + 1) (by simp) (by rfl) (by rfl) (one_i64 x.k) (by simp only [maxLen]; omega) (by omega) HB3.size ?_; intro g6 cap6 w6 hown6 hg6 hB6 hat6 hlt6)
      have HB6 := Lib.hid (HB3.trans hB6)
      go_wp2
      go_roundw
      case rel =>
        refine ⟨k + 1, _, cap6, by omega, by go_num, rfl, Lib.hid ?_, Lib.hid ?_⟩
        · rw [Hx.out]; exact hown6
        · exact HB6.out
      case measure => simp [intOf]; omega
    · obtain rfl : k = n1 := by omega
      have hE : KdsO T w (.returned (.slice A k c')) wr := by
        refine ⟨A, c', by rw [Hln.out], own_weaken ?_ HB1.out.size, HBw.out⟩
        rw [Hln.out]
        have := HO.out
        rwa [List.take_of_length_le (by unfold Tb.kinds; rw [List.length_map, Hln.out]; exact Nat.le_refl _)] at this
      have HE := Lib.hid hE
      clear hE HO
      go_wp2
      go_ret
      exact HE.out
end Go.Proofs.YtponkkljlbifmaaGreat

/-
  The program's key of a row: prefix in the row's memory, Key in a row of its own; clone of a row.
-/
namespace Go.Proofs.YtponkkljlbifmaaGreat
open Go.RowKit
set_option maxRecDepth 100000
open Pd

/-- a new row -/
def RowN (r : Rw) (w : World) (e : Ending) (w' : World) : Prop := ∃ (A : Option Addr) (c : Nat), e = .returned (.slice A r.length c) ∧ OwnRow w' w.heap.size ((A, r.length, c), r) ∧ Below w.heap.size w w'
theorem sl_take {w : World} {A : Option Addr} {n : Nat} {l : List Vl} (h : VlS w A n l) (k : Nat) (hk : k ≤ n) : VlS w A k (l.take k) := by
  refine ⟨by rw [List.length_take, h.len]; omega, fun h0 => ?_⟩
  obtain ⟨b, o, e, hc⟩ := h.2 (by omega)
  refine ⟨b, o, e, fun j x hx => hc j x ?_⟩
  rw [List.getElem?_take] at hx
  split at hx
  · exact hx
  · cases hx
theorem keyT_len (T : Tb) (r : Rw) : (keyT T r).length = min T.key.toNat r.length := by unfold keyT; rw [List.length_take]
theorem keyT_take {T : Tb} {r : Rw} {n : Nat} (h : r.length = n) : r.take (min T.key.toNat n) = keyT T r := by
  unfold keyT
  rw [← h, ← List.take_take, List.take_length]
/-- a row's key in the row's memory -/
theorem rowok_key {w : World} {A : Option Addr} {n c : Nat} {r : Rw} (h : RowOk w ((A, n, c), r)) (T : Tb) : RowOk w ((A, min T.key.toNat n, c), keyT T r) := by
  refine ⟨?_, fun e => ?_, Nat.le_trans (Nat.min_le_right _ _) h.le, h.mx⟩
  · rw [← keyT_take h.rd.len]
    exact sl_take h.rd _ (Nat.min_le_right _ _)
  · have := h.nl e
    simp only at this ⊢
    omega
/-- the key of a row, wherever it lies -/
def KeyP (T : Tb) (r : Rw) (w : World) (e : Ending) (w' : World) : Prop := ∃ p : RowP, e = .returned (.slice p.1.1 p.1.2.1 p.1.2.2) ∧ p.2 = keyT T r ∧ RowOk w' p ∧ Below w.heap.size w w'
set_option maxHeartbeats 2000000 in
theorem prefixW_any (ver : Int) (A : Option Addr) (n c : Nat) (tbs : List Tb) (t : Nat) (T : Tb) (B : Option Addr) (m cb : Nat) (r : Rw) (w : World) (hs : ScS w A n tbs) (hn : n ≤ 8) (hT : tbs[t]? = some T) (h0 : 0 ≤ T.key) (hr : RowOk w ((B, m, cb), r)) :
    Calls Tryz.prog 55 #[.agg #[.int .i64 ver, .slice A n c], .int .i64 (t : Int), .slice B m cb] w fun e w' => KeyP T r w e w' ∧ Lay w w' := by
  have ht : t < n := by rw [← hs.len]; exact (List.getElem?_eq_some_iff.1 hT).1
  obtain ⟨b, o, e, rfl, he, hok, c0, c1, c2, c3, c4⟩ := hs.at ht
  obtain rfl : T = e.T := by rw [hT] at he; injection he
  clear hs hok hT he c0 c1 c3 c4
  obtain ⟨T, x1, x2, x3⟩ := e
  dsimp only at c2 h0
  obtain ⟨K, hK⟩ := Int.eq_ofNat_of_zero_le h0
  rw [hK] at c2
  have HK := rowok_key hr T
  rw [hK, Int.toNat_natCast] at HK
  have hmc := hr.le
  have hmx := hr.mx
  have hnl := hr.nl
  simp only at hmc hmx hnl
  clear hr h0
  have HB : Hid (Below w.heap.size w (w.alloc (.cells #[.int .i64 ver, .slice (some ⟨b, o, none⟩) n c] 30))) := Lib.hid ((Below.refl _ w).alloc (Nat.le_refl _) _)
  have d2 := (keeps_of HB.out _ (by rw [c2]; rfl)).trans c2
  clear c2
  have HL : Hid (Lay w (w.alloc (.cells #[.int .i64 ver, .slice (some ⟨b, o, none⟩) n c] 30))) := Lib.hid ((Lay.refl w).alloc _)
  have hz : (max (0 : Int) (min (K : Int) (m : Int))).toNat = min K m := by omega
  have hz0 : (max (0 : Int) (min (K : Int) 0)).toNat = 0 := by omega
  have g0 : decide ((t : Int) < 0) = false := by simp
  have g1 : decide ((n : Int) ≤ (t : Int)) = false := by simp; omega
  obtain ⟨q, hq⟩ : ∃ q, min K m = q := ⟨_, rfl⟩
  rw [hq] at hz HK
  have hqc : q ≤ cb := by omega
  have HK2 := Lib.hid HK
  clear HK
  go_enter Tryz.func55, Tryz.ntmps55
  cases B with
  | none =>
    obtain ⟨rfl, rfl⟩ := hnl rfl
    obtain rfl : q = 0 := by omega
    go_wp2
    go_ret
    exact ⟨⟨((none, 0, 0), keyT T r), rfl, rfl, HK2.out.keep (keeps_of HB.out), HB.out⟩, HL.out⟩
  | some ad =>
    go_wp2
    go_ret
    exact ⟨⟨((some ad, q, cb), keyT T r), rfl, rfl, HK2.out.keep (keeps_of HB.out), HB.out⟩, HL.out⟩
theorem prefix_any (ver : Int) (A : Option Addr) (n c : Nat) (tbs : List Tb) (t : Nat) (T : Tb) (B : Option Addr) (m cb : Nat) (r : Rw) (w : World) (hs : ScS w A n tbs) (hn : n ≤ 8) (hT : tbs[t]? = some T) (h0 : 0 ≤ T.key) (hr : RowOk w ((B, m, cb), r)) :
    Calls Tryz.prog 55 #[.agg #[.int .i64 ver, .slice A n c], .int .i64 (t : Int), .slice B m cb] w fun e w' => KeyP T r w e w' :=
  (prefixW_any ver A n c tbs t T B m cb r w hs hn hT h0 hr).mono fun _ _ h => h.1
set_option maxHeartbeats 2000000 in
theorem skey_any (ver : Int) (A : Option Addr) (n c : Nat) (tbs : List Tb) (t : Nat) (T : Tb) (B : Option Addr) (m cb : Nat) (r : Rw) (w : World) (hs : ScS w A n tbs) (hn : n ≤ 8) (hT : tbs[t]? = some T) (h0 : 0 ≤ T.key) (h8 : T.key ≤ 8) (hr : RowOk w ((B, m, cb), r)) :
    Calls Tryz.prog 56 #[.agg #[.int .i64 ver, .slice A n c], .int .i64 (t : Int), .slice B m cb] w fun e w' => RowN (keyT T r) w e w' := by
  obtain ⟨i0, hi, hz0, hz1, hz2⟩ := info_parts info_vl
  have ht : t < n := by rw [← hs.len]; exact (List.getElem?_eq_some_iff.1 hT).1
  obtain ⟨b, o, e, rfl, he, hok, c0, c1, c2, c3, c4⟩ := hs.at ht
  obtain rfl : T = e.T := by rw [hT] at he; injection he
  clear hs hok hT he c0 c1 c3 c4
  obtain ⟨T, x1, x2, x3⟩ := e
  dsimp only at c2 h0 h8
  obtain ⟨K, hK⟩ := Int.eq_ofNat_of_zero_le h0
  have HK := rowok_key hr T
  have hkl := keyT_len T r
  rw [hr.rd.len] at hkl
  simp only at hkl
  rw [hK] at c2
  rw [hK, Int.toNat_natCast] at HK hkl
  have hK8 : K ≤ 8 := by omega
  have hmc := hr.le
  have hmx := hr.mx
  have hnl := hr.nl
  simp only at hmc hmx hnl
  clear hr h0 h8
  have HZ := Lib.hid (Blk.new w 30 #[.int .i64 ver, .slice (some ⟨b, o, none⟩) n c])
  have HB := Lib.hid ((Below.refl w.heap.size w).alloc (Nat.le_refl _) (.cells #[.int .i64 ver, .slice (some ⟨b, o, none⟩) n c] 30))
  go_enter Tryz.func56, Tryz.ntmps56
  go_wp2_with fail
  refine (shas_any ver _ n c (t : Int) _ hn).mono ?_
  rintro e w1 ⟨rfl, hb1⟩
  have g1 : decide (0 ≤ (t : Int) ∧ (t : Int) < (n : Int)) = true := by simp; omega
  rw [g1]
  have HB1 := Lib.hid (Below.next HB.out hb1)
  have HB2 := Lib.hid (HB1.out.alloc HB1.out.size (.cells #[] 67))
  have d1 := (keeps_of HB1.out _ (by rw [c2]; rfl)).trans c2
  have d2 := (keeps_of HB2.out _ (by rw [c2]; rfl)).trans c2
  have z1 := (HZ.out.below hb1).cell
  have z2 := ((HZ.out.below hb1).alloc (.cells #[] 67)).cell
  obtain ⟨q, hq⟩ : ∃ q, min K m = q := ⟨_, rfl⟩
  have hz : (min (K : Int) (m : Int)).toNat = q := by omega
  have hz0' : (min (K : Int) 0).toNat = 0 := by omega
  have g0 : decide ((K : Int) < 0) = false := by simp
  have hqc : q ≤ cb := by omega
  have hq8 : q ≤ 8 := by omega
  rw [hq] at HK hkl
  have HK1 := Lib.hid (HK.keep (keeps_of HB1.out))
  have HK2 := Lib.hid (HK.keep (keeps_of HB2.out))
  have hsz : w.heap.size ≤ w1.heap.size := HB1.out.size
  have hown : (w1.alloc (.cells #[] 67)).ownsRow w.heap.size 67 3 (.slice (some ⟨w1.heap.size, 0, none⟩) 0 0) 0 (([] : List Vl).flatMap Vl.cs) :=
    ⟨rfl, .inr ⟨w1.heap.size, 0, _, rfl, hsz, Blk.new w1 67 #[], Nat.le_refl 0, Nat.zero_le _, rfl, rfl⟩⟩
  clear c2 hb1 HK HZ HB HB1
  have HL := Lib.hid hkl
  clear hkl
  cases B with
  | none =>
    obtain ⟨rfl, rfl⟩ := hnl rfl
    obtain rfl : q = 0 := by omega
    have hl0 : keyT T r = [] := List.eq_nil_of_length_eq_zero HL.out
    go_wp2_with (at_builtin; refine wpList_append_sf (cs := Vl.cs) (w1.alloc (.cells #[] 67)) (by rfl) _ (.tmp 31) _ (by rfl) w.heap.size 67 i0 _ 3 32 Tryz.underlying75 hi hz0 hz1 hz2 (by rfl) (by omega) (.slice (some ⟨w1.heap.size, 0, none⟩) 0 0) 0 [] (by rfl) hown none 0 0 (keyT T r) (by rfl) HK2.out.rd HK2.out.nl Vl.cs_len one_vl (by simp only [maxLen]; omega) (by omega) (by simp; omega) ?_; intro A4 c4 w3 hown3 hg3 hB3 hat3 hnil3; simp only [Nat.zero_add, List.nil_append] at hown3)
    go_ret
    refine ⟨A4, c4, rfl, ⟨?_, rfl⟩, ?_⟩
    · rw [hl0] at hown3; exact hown3
    · exact HB2.out.trans hB3
  | some ad =>
    go_wp2_with (at_builtin; refine wpList_append_sf (cs := Vl.cs) (w1.alloc (.cells #[] 67)) (by rfl) _ (.tmp 31) _ (by rfl) w.heap.size 67 i0 _ 3 32 Tryz.underlying75 hi hz0 hz1 hz2 (by rfl) (by omega) (.slice (some ⟨w1.heap.size, 0, none⟩) 0 0) 0 [] (by rfl) hown (some ad) q cb (keyT T r) (by rfl) HK2.out.rd HK2.out.nl Vl.cs_len one_vl (by simp only [maxLen]; omega) (by omega) (by simp; omega) ?_; intro A4 c4 w3 hown3 hg3 hB3 hat3 hnil3; simp only [Nat.zero_add, List.nil_append] at hown3)
    go_ret
    refine ⟨A4, c4, by rw [HL.out]; rfl, ⟨?_, rfl⟩, ?_⟩
    · rw [HL.out]; exact hown3
    · exact HB2.out.trans hB3

set_option maxHeartbeats 400000 in
theorem tclone_any (A : Option Addr) (n c : Nat) (r : Rw) (w : World) (hp : RowOk w ((A, n, c), r)) (hn : n ≤ 4398046511104) :
    Calls Tryz.prog 45 #[.slice A n c] w fun e w' => RowN r w e w' := by
  obtain ⟨i0, hi, hz0, hz1, hz2⟩ := info_parts info_vl
  have HP := Lib.hid hp
  have HL := Lib.hid hp.rd.len
  clear hp
  go_enter Tryz.func45, Tryz.ntmps45
  go_wp2_with (at_builtin; refine wpList_append_sf (cs := Vl.cs) w (by rfl) _ (.tmp 3) _ (by rfl) w.heap.size 67 i0 _ 3 32 Tryz.underlying75 hi hz0 hz1 hz2 (by rfl) (by omega) (.slice none 0 0) 0 [] (by rfl) ⟨by simp, .inl ⟨rfl, rfl⟩⟩ A n c r (by rfl) HP.out.rd HP.out.nl Vl.cs_len one_vl (by simp only [maxLen]; omega) (by omega) (Nat.le_refl _) ?_; intro A1 c1 w1 hown1 hg1 hB1 hat1 hn1; simp only [Nat.zero_add, List.nil_append] at hown1)
  go_ret
  have HL' := HL.out
  subst HL'
  exact ⟨A1, c1, rfl, ⟨hown1, rfl⟩, hB1⟩
end Go.Proofs.YtponkkljlbifmaaGreat

namespace Go.Proofs.YtponkkljlbifmaaGreat
open Go.RowKit
set_option maxRecDepth 100000
set_option linter.unusedVariables false

/-- the number of a value is an int64 -/
def rngV (v : Vl) : Prop := minI ≤ v.i ∧ v.i ≤ 9223372036854775807
def SomeInt2 (w : World) (g : Nat) (e : Ending) (w' : World) : Prop := (∃ x : Int, (minI ≤ x ∧ x ≤ 9223372036854775807) ∧ e = .returned (.int .i64 x)) ∧ CaseAt w' g ∧ But (· = g) w w'
theorem number2_any (g : Nat) (w : World) (hc : CaseAt w g) :
    Calls Tryz.prog 81 #[.pointer (some ⟨g, 0, none⟩)] w fun e w' => SomeInt2 w g e w' := by
  go_enter Tryz.func81, Tryz.ntmps81
  go_wp2_with fail
  refine (int_any g 12 _ hc (by omega) (by omega)).mono ?_
  rintro e w1 ⟨⟨x, hx1, hx2, rfl⟩, hc1, hb1⟩
  go_wp2
  all_goals
    go_ret
    refine ⟨⟨_, ?_, rfl⟩, hc1, hb1⟩
    unfold minI
    constructor <;> omega
def SomeW (w : World) (g : Nat) (e : Ending) (w' : World) : Prop := (∃ v : Vl, validV v = true ∧ rngV v ∧ e = .returned (.agg #[.int .i64 v.k, .int .i64 v.i, .string v.t])) ∧ CaseAt w' g ∧ But (· = g) w w'
set_option maxHeartbeats 1000000 in
theorem value2_any (g : Nat) (k : Int) (w : World) (hc : CaseAt w g) (hk : k = 3 ∨ k = 4 ∨ k = 5) :
    Calls Tryz.prog 51 #[.pointer (some ⟨g, 0, none⟩), .int .i64 k] w fun e w' => SomeW w g e w' := by
  have hlt := hc.lt
  have hc0 := hc.below ((Below.refl _ _).alloc (Nat.le_refl _) (.cells #[.int .i64 0, .int .i64 0, .string ⟨#[]⟩] 67))
  have hX := Blk.new w 67 #[.int .i64 0, .int .i64 0, .string ⟨#[]⟩]
  have hB0 : But (· = g) w (w.alloc (.cells #[.int .i64 0, .int .i64 0, .string ⟨#[]⟩] 67)) := But.alloc _ _
  rcases hk with rfl | rfl | rfl
  · go_enter Tryz.func51, Tryz.ntmps51
    go_wp2_with fail
    refine (int_any g 2 _ hc0 (by omega) (by omega)).mono ?_
    rintro e w1 ⟨⟨x, hx1, hx2, rfl⟩, hc1, hb1⟩
    have hX1 := hX.but hb1 (by omega)
    have hXc := hX1.cell
    have hXf := hX1.free
    go_wp2
    refine bodyPost_ret (v := .agg #[.int .i64 3, .int .i64 x, .string ⟨#[]⟩]) (by simp [results, Tryz.results51, go_sem, hXc]) rfl ⟨⟨⟨3, x, ⟨#[]⟩⟩, ?_, ⟨by unfold minI; simp; omega, by simp; omega⟩, rfl⟩, ?_, ?_⟩
    · have : x = 0 ∨ x = 1 := by omega
      rcases this with rfl | rfl <;> decide +kernel
    · exact case_box hc1 hX1 (by omega) _ _ _
    · exact (((hB0.trans hb1).setNew (p := ⟨w.heap.size, 0, none⟩) (by simp) _).setNew (p := ⟨w.heap.size, 1, none⟩) (by simp) _).setNew (p := ⟨w.heap.size, 2, none⟩) (by simp) _
  · go_enter Tryz.func51, Tryz.ntmps51
    go_wp2_with fail
    refine (number2_any g _ hc0).mono ?_
    rintro e w1 ⟨⟨x, hxr, rfl⟩, hc1, hb1⟩
    have HXR := Lib.hid hxr
    clear hxr
    have hX1 := hX.but hb1 (by omega)
    have hXc := hX1.cell
    have hXf := hX1.free
    go_wp2
    refine bodyPost_ret (v := .agg #[.int .i64 4, .int .i64 x, .string ⟨#[]⟩]) (by simp [results, Tryz.results51, go_sem, hXc]) rfl ⟨⟨⟨4, x, ⟨#[]⟩⟩, ?_, HXR.out, rfl⟩, ?_, ?_⟩
    · simp [validV, ByteArray.toList_eq]
    · exact case_box hc1 hX1 (by omega) _ _ _
    · exact (((hB0.trans hb1).setNew (p := ⟨w.heap.size, 0, none⟩) (by simp) _).setNew (p := ⟨w.heap.size, 1, none⟩) (by simp) _).setNew (p := ⟨w.heap.size, 2, none⟩) (by simp) _
  · go_enter Tryz.func51, Tryz.ntmps51
    go_wp2_with fail
    refine (text_any g _ hc0).mono ?_
    rintro e w1 ⟨⟨x, hx, rfl⟩, hc1, hb1⟩
    have hX1 := hX.but hb1 (by omega)
    have hXc := hX1.cell
    have hXf := hX1.free
    go_wp2
    refine bodyPost_ret (v := .agg #[.int .i64 5, .int .i64 0, .string x]) (by simp [results, Tryz.results51, go_sem, hXc]) rfl ⟨⟨⟨5, 0, x⟩, ?_, ⟨by unfold minI; simp, by simp⟩, rfl⟩, ?_, ?_⟩
    · simp [validV]; omega
    · exact case_box hc1 hX1 (by omega) _ _ _
    · exact (((hB0.trans hb1).setNew (p := ⟨w.heap.size, 0, none⟩) (by simp) _).setNew (p := ⟨w.heap.size, 1, none⟩) (by simp) _).setNew (p := ⟨w.heap.size, 2, none⟩) (by simp) _

set_option maxHeartbeats 1000000 in
theorem any2_any (g : Nat) (w : World) (hc : CaseAt w g) :
    Calls Tryz.prog 29 #[.pointer (some ⟨g, 0, none⟩)] w fun e w' => SomeW w g e w' := by
  have hlt := hc.lt
  have hc0 := hc.below ((Below.refl _ _).alloc (Nat.le_refl _) (.cells #[.int .i64 0, .int .i64 0, .string ⟨#[]⟩] 67))
  have hX := Blk.new w 67 #[.int .i64 0, .int .i64 0, .string ⟨#[]⟩]
  have hB0 : But (· = g) w (w.alloc (.cells #[.int .i64 0, .int .i64 0, .string ⟨#[]⟩] 67)) := But.alloc _ _
  go_enter Tryz.func29, Tryz.ntmps29
  go_wp2_with fail
  refine (int_any g 5 _ hc0 (by omega) (by omega)).mono ?_
  rintro e w1 ⟨⟨x, hx1, hx2, rfl⟩, hc1, hb1⟩
  have hX1 := hX.but hb1 (by omega)
  have hXc := hX1.cell
  have hXf := hX1.free
  by_cases h3 : 1 + x < 3
  · go_wp2
    refine bodyPost_ret (v := .agg #[.int .i64 (1 + x), .int .i64 0, .string ⟨#[]⟩]) (by simp [results, Tryz.results29, go_sem, hXc]) rfl ⟨⟨⟨1 + x, 0, ⟨#[]⟩⟩, ?_, ⟨by unfold minI; simp, by simp⟩, rfl⟩, ?_, ?_⟩
    · have : x = 0 ∨ x = 1 := by omega
      rcases this with rfl | rfl <;> decide +kernel
    · exact case_box hc1 hX1 (by omega) _ _ _
    · exact (((hB0.trans hb1).setNew (p := ⟨w.heap.size, 0, none⟩) (by simp) _).setNew (p := ⟨w.heap.size, 1, none⟩) (by simp) _).setNew (p := ⟨w.heap.size, 2, none⟩) (by simp) _
  · clear hXc hXf
    go_wp2_with fail
    refine (value2_any g (1 + x) _ hc1 (by omega)).mono ?_
    rintro e w2 ⟨⟨v, hv, hr, rfl⟩, hc2, hb2⟩
    have HR := Lib.hid hr
    have HV := Lib.hid hv
    clear hr hv
    have hX2 := hX1.but hb2 (by omega)
    have hXc := hX2.cell
    have hXf := hX2.free
    go_wp2
    refine bodyPost_ret (v := .agg #[.int .i64 v.k, .int .i64 v.i, .string v.t]) (by simp [results, Tryz.results29, go_sem, hXc]) rfl ⟨⟨v, HV.out, HR.out, rfl⟩, ?_, ?_⟩
    · exact case_box hc2 hX2 (by omega) _ _ _
    · exact ((((hB0.trans hb1).trans hb2).setNew (p := ⟨w.heap.size, 0, none⟩) (by simp) _).setNew (p := ⟨w.heap.size, 1, none⟩) (by simp) _).setNew (p := ⟨w.heap.size, 2, none⟩) (by simp) _
end Go.Proofs.YtponkkljlbifmaaGreat

/-
  Case.Cells: a row of valid values of the length that is asked for.
-/
namespace Go.Proofs.YtponkkljlbifmaaGreat
open Go.RowKit
set_option maxRecDepth 100000

theorem gcase_belowB {w w' : World} {g B : Nat} (h : CaseAt w g) (hb : Below B w w') (hB : g < B) : CaseAt w' g :=
  h.far (S := fun b => B ≤ b) ⟨hb.os, hb.tape, hb.output, hb.size, fun k _ hk => hb.block k (by simpa using hk)⟩ (fun b hb => by omega)
theorem gbut_belowB {S : Nat → Prop} {w0 w w' : World} {B : Nat} (h : But S w0 w) (hb : Below B w w') (hB : w0.heap.size ≤ B) : But S w0 w' :=
  ⟨hb.os.trans h.os, hb.tape.trans h.tape, hb.output.trans h.output, Nat.le_trans h.size hb.size, fun k hk hs => (hb.block k (by omega)).trans (h.block k hk hs)⟩
theorem gown_but {w w' : World} {base g : Nat} {e : TypeId} {size n : Nat} {v : Value} {xs : List Value} (h : w.ownsRow base e size v n xs) (hb : But (· = g) w w') (hg : g < base) : w'.ownsRow base e size v n xs :=
  own_at h (fun G hG hlt _ => hb.block G hlt (fun e => by omega))
def GCRel (m : Nat) (w : World) (g : Nat) (x i : Value) (wr : World) : Prop := ∃ (k : Nat) (l : List Vl) (A : Option Addr) (c : Nat), i = .int .i64 (k : Int) ∧ x = .slice A l.length c ∧ l.length + k = m ∧ (∀ v ∈ l, validV v = true) ∧ wr.ownsRow w.heap.size 67 3 (.slice A l.length c) l.length (l.flatMap Vl.cs) ∧ CaseAt wr g ∧ But (· = g) w wr
/-- a row was drawn -/
def RowP' (m : Nat) (w : World) (g : Nat) (e : Ending) (w' : World) : Prop := ∃ (A : Option Addr) (n c : Nat) (l : List Vl), e = .returned (.slice A n c) ∧ n = l.length ∧ n = m ∧ (∀ v ∈ l, validV v = true) ∧ w'.ownsRow w.heap.size 67 3 (.slice A n c) n (l.flatMap Vl.cs) ∧ VlS w' A n l ∧ CaseAt w' g ∧ But (· = g) w w'
set_option maxRecDepth 100000 in
set_option maxHeartbeats 4000000 in
theorem gcells_any (g : Nat) (m : Nat) (hm : m ≤ 12) (w : World) (hc : CaseAt w g) : Calls Tryz.prog 28 #[.pointer (some ⟨g, 0, none⟩), .int .i64 (m : Int)] w fun e w' => RowP' m w g e w' := by
  obtain ⟨i0, hi, hz0, hz1, hz2⟩ := info_parts info_vl
  have hgl := hc.lt
  go_enter Tryz.func28, Tryz.ntmps28
  go_wp2_with fail
  go_loopw [5, 1] (fun x i wr => GCRel m w g x i wr) (fun _ i _ => (intOf i).toNat)
  case atStart => exact ⟨m, [], none, 0, rfl, rfl, by simp, by simp, ⟨by simp, .inl ⟨rfl, rfl⟩⟩, hc, But.refl _ _⟩
  case round =>
    obtain ⟨k, l, A, c, rfl, rfl, hl, hvl, hown, hcr, hbr⟩ := hrel
    have HO := Lib.hid hown
    have HVL := Lib.hid hvl
    clear hown hvl
    by_cases hlt : 0 < k
    · go_wp2_with fail
      refine (any2_any g _ hcr).mono ?_
      rintro e w2 ⟨⟨⟨ak, ai, ab⟩, hav, har, rfl⟩, hc2, hb2⟩
      have HO2 := gown_but HO.out hb2 hgl
      have hsz : w.heap.size ≤ w2.heap.size := (hbr.trans hb2).size
      have HAV := Lib.hid hav
      clear hav har
      go_wp2_with (at_builtin; refine wpList_append_one2 (by rfl) (.tmp 10) (.tmp 13) _ (by rfl) w.heap.size 67 i0 _ 3 32 Tryz.underlying75 hi hz0 hz1 hz2 (by rfl) (by omega) (.slice A l.length c) l.length _ (by rfl) w2 _ HO2 w2.heap.size (by rfl) (by rfl) (by rfl) (one_vl ⟨ak, ai, ab⟩) (by simp only [maxLen]; omega) (by omega) hsz ?_; intro g6 cap6 w6 hown6 hg6 hB6 hat6 hlt6)
      go_roundw
      case rel =>
        refine ⟨k - 1, l ++ [⟨ak, ai, ab⟩], some ⟨g6, 0, none⟩, cap6, congrArg (Value.int .i64) (by omega), by simp, by simp; omega, ?_, ?_, gcase_belowB hc2 hB6 hgl, gbut_belowB (hbr.trans hb2) hB6 (Nat.le_refl _)⟩
        · intro v hv
          rcases List.mem_append.1 hv with h | h
          · exact HVL.out v h
          · simp at h
            subst h
            exact HAV.out
        · rw [List.flatMap_append]
          simpa [Vl.cs] using hown6
      case measure => simp [intOf]; omega
    · go_wp2
      go_ret
      exact ⟨A, l.length, c, l, rfl, rfl, by omega, HVL.out, HO.out, Sl.of_own (fun _ => rfl) rfl HO.out, hcr, hbr⟩
end Go.Proofs.YtponkkljlbifmaaGreat

/-
  The program's small region functions: truth.of, restOf.
-/
namespace Go.Proofs.YtponkkljlbifmaaGreat
open Go.RowKit
set_option maxRecDepth 100000
open Rg

/-- a Boolean operation by its values for both, a alone and b alone -/
def ofT (tb tl tr : Bool) (a b : Bool) : Bool := if a && b then tb else if a then tl else if b then tr else false
/-- the rest behind a part, or none -/
def restR (r : Rg) (i : Int) : Rg := if i < 0 then .nil (r.w - 1) false else match r.parts[i.toNat]? with | some p => p.2 | none => zeroR
/-- an event: where, which side, which part, in or out -/
structure Ev where
  v : Vl
  s : Int
  p : Int
  e : Bool
def Ev.cs (x : Ev) : List Value := [.int .i64 x.v.k, .int .i64 x.v.i, .string x.v.t, .int .i64 x.s, .int .i64 x.p, .bool x.e]
theorem Ev.cs_len (x : Ev) : (Ev.cs x).length = 6 := rfl
/-- the order of events: by value, those that leave first -/
def cmpE (a b : Ev) : Int := if cmpV a.v b.v ≠ 0 then cmpV a.v b.v else if a.e = b.e then 0 else if b.e then -1 else 1
end Go.Proofs.YtponkkljlbifmaaGreat
