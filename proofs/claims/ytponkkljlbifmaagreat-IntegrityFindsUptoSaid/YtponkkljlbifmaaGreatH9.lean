/-
  Texts: FMem, RPoints, IvOps, Has, RIn, FA, RegionT, Group, CombS, Comb0, FCopy, Join, RCombine, AlgC, FStep, Ordered, Ref03, FSame, Join2, Alg, Comb, FComb0, FComb, FForm, FBox, Oper, Union, RgLaw, FValid, RgOps, FOps, AllR, NextM, One, Good, CInt, CInt2, CRegion, GCols.
-/
import Derived.Test.YtponkkljlbifmaaGreatH8
import Derived.Maps.OwnOps
import Derived.Maps.RangeWalk
import Derived.Deep.DeepCutAuto
import Derived.Deep.CutBlock
import Derived.OwnWalk
set_option linter.unusedVariables false
/-
  Words for the state of the reference's Combine of regions: the parts under way and what it remembers of pairs of parts. No program of ours walks here.
-/
namespace Go.Proofs.YtponkkljlbifmaaGreat
open Go.RowKit
set_option maxRecDepth 100000
open Rg

/-- what is remembered of a pair of parts: the result, where it lies and between which blocks -/
structure KM where
  i : Int
  k : Int
  x : Int
  f : Bool
  A : Option Addr
  n : Nat
  c : Nat
  r : Rg
  lo : Nat
  hi : Nat
def KM.cs (m : KM) : List Value := [.int .i64 m.i, .int .i64 m.k, .int .i64 m.x, .bool m.f, .slice m.A m.n m.c]
theorem KM.cs_len (m : KM) : (KM.cs m).length = 5 := rfl
section
variable {B : Nat} {w w' : World} {A A' : Option Addr} {n c n' c' : Nat} {ms ms' : List PM} {Ak Ak' : Option Addr} {nk ck nk' ck' : Nat} {ks : List KM}
end
end Go.Proofs.YtponkkljlbifmaaGreat

namespace Go.Proofs.YtponkkljlbifmaaGreat
open Go.RowKit
set_option maxRecDepth 100000

/-- a slice of lists of intervals -/
abbrev LstP := Hd × List Iv
def lstc (p : LstP) : List Value := [.slice p.1.1 p.1.2.1 p.1.2.2]
structure LstOk (w : World) (p : LstP) : Prop where
  rd : IvS w p.1.1 p.1.2.1 p.2
  sm : p.1.2.1 ≤ 64
theorem LstOk.keep {w w' : World} {p : LstP} (h : LstOk w p) (hk : Keeps w w') : LstOk w' p := ⟨h.rd.keep hk, h.sm⟩
structure LstsS (w : World) (A : Option Addr) (n : Nat) (ps : List LstP) : Prop where
  sl : Sl 1 lstc w A n ps
  ok : ∀ p ∈ ps, LstOk w p
theorem LstsS.keep {w w' : World} {A : Option Addr} {n : Nat} {ps : List LstP} (h : LstsS w A n ps) (hk : Keeps w w') : LstsS w' A n ps := ⟨h.sl.keep hk, fun p hp => (h.ok p hp).keep hk⟩

/-- rows of one value each, collected in a row of the call's own -/
structure PSt (w0 : World) (col : List Vl) (Ao : Option Addr) (no co : Nat) (wr : World) : Prop where
  ex : ∃ qs : List RowP, qs.map (·.2) = col.map (fun v => [v]) ∧ wr.ownsRow w0.heap.size 75 1 (.slice Ao no co) no (qs.flatMap rowc) ∧ ∀ q ∈ qs, OwnRow wr w0.heap.size q
  len : col.length = no
  bel : Below w0.heap.size w0 wr
theorem PSt.below {w0 : World} {col : List Vl} {Ao : Option Addr} {no co : Nat} {wr wr' : World} (h : PSt w0 col Ao no co wr) (hb : Below wr.heap.size wr wr') : PSt w0 col Ao no co wr' := by
  obtain ⟨qs, h1, h2, h3⟩ := h.ex
  exact ⟨⟨qs, h1, own_at h2 (fun g _ hl _ => hb.block g hl), fun q hq => (h3 q hq).below hb⟩, h.len, Below.next h.bel hb⟩
def ptsR (ls : List (List Iv)) : List Vl := ls.flatMap ptsL
end Go.Proofs.YtponkkljlbifmaaGreat

namespace Go.Proofs.YtponkkljlbifmaaGreat
open Go.RowKit
set_option maxRecDepth 100000

def allL : List Iv := [⟨⟨1, 0, ⟨#[]⟩⟩, zeroV, true⟩]
def fromL (f : Vl) : List Iv × Int := if validV f then ([⟨f, zeroV, true⟩], 0) else ([], 10)
end Go.Proofs.YtponkkljlbifmaaGreat

namespace Go.Proofs.YtponkkljlbifmaaGreat
open Go.RowKit
set_option maxRecDepth 100000

end Go.Proofs.YtponkkljlbifmaaGreat

namespace Go.Proofs.YtponkkljlbifmaaGreat
open Go.RowKit
set_option maxRecDepth 100000

/-- the three operations of the reference -/
def opR (k : Int) : Bool → Bool → Bool := if k = 1 then opU else if k = 2 then opI else opM
end Go.Proofs.YtponkkljlbifmaaGreat

/-
  The reference's small functions on regions: none, count, fits, at, rest, Empty.
-/
namespace Go.Proofs.YtponkkljlbifmaaGreat
open Go.RowKit
set_option maxRecDepth 100000
open Rg

end Go.Proofs.YtponkkljlbifmaaGreat

/-
  The same law for a region in which two operations with an effect may come up at once (a tree of orders), and whose last store may change what was read before.
-/
namespace Go.Proofs.YtponkkljlbifmaaGreat
open Go.RowKit
set_option maxRecDepth 100000
set_option linter.unusedVariables false

/-- an order of the operations: blocks of operations that only read, each ended by one with an effect, or by two in either order; 'fin': the last one is a store that waits for all others -/
inductive Plan where
  | last (qs : List Nat)
  | fin (qs : List Nat) (e : Nat)
  | one (qs : List Nat) (e : Nat) (t : Plan)
  | two (qs : List Nat) (e1 : Nat) (t1 : Plan) (e2 : Nat) (t2 : Plan)
def Plan.len : Plan → Nat
  | .last qs => qs.length
  | .fin qs _ => qs.length + 1
  | .one qs _ t => qs.length + (t.len + 1)
  | .two qs _ t1 _ _ => qs.length + (t1.len + 1)
/-- the last store, if there is one -/
def Plan.store : Plan → Nat → Nat
  | .last _, d => d
  | .fin _ e, _ => e
  | .one _ _ t, d => t.store d
  | .two _ _ t1 _ _, d => t1.store d
section
variable {P : Program} {ops : Array Oper} {Q : Exit → Act → World → Prop} {md : Region.Mode} {S : Nat → Prop} {fin : Nat}
theorem at_of_lt {e : Nat} (h : e < ops.size) : ops[e]? = some (opAt ops e) := by
  unfold opAt
  rw [Array.getElem?_eq_getElem h]
  rfl
end
end Go.Proofs.YtponkkljlbifmaaGreat

/-
  The program's region function grouping: the function that it returns finds or makes the part for a pair of parts.
-/
namespace Go.Proofs.YtponkkljlbifmaaGreat
open Go.RowKit
set_option maxRecDepth 100000
open Rg

/-- the fixed data of one call of combine -/
structure GC where
  N : Nat
  a : Rg
  b : Rg
  xa : Int
  fa : Bool
  Aa : Option Addr
  na : Nat
  ca : Nat
  xb : Int
  fb : Bool
  Ab : Option Addr
  nb : Nat
  cb : Nat
  tb : Bool
  tl : Bool
  tr : Bool
  w0 : World
  B : Nat
def GC.h (g : GC) : Nat := g.w0.heap.size
def GC.op (g : GC) : Bool → Bool → Bool := ofT g.tb g.tl g.tr
def GC.ro (g : GC) (k : Int × Int) : Rg := comb g.op g.N (restR g.a k.1) (restR g.b k.2)
structure GC.Good (g : GC) : Prop where
  ra : RgS g.w0 g.xa g.fa g.Aa g.na g.ca g.a
  rb : RgS g.w0 g.xb g.fb g.Ab g.nb g.cb g.b
  fa : Form (g.N + 1) g.a
  fb : Form (g.N + 1) g.b
  wa : WfR g.a
  wb : WfR g.b
  ia : within g.a
  ib : within g.b
  n12 : g.N + 1 ≤ 12
/-- the blocks that a call of the function may change -/
def GC.may (g : GC) (q : Nat) : Prop := q = g.h + 8 ∨ q = g.h + 10 ∨ q = g.h + 12 ∨ q = g.h + 3 ∨ g.B ≤ q
def GC.S (g : GC) (A : Option Addr) (n c : Nat) (q : Nat) : Prop := q = g.h + 8 ∨ q = g.h + 10 ∨ q = g.h + 12 ∨ q = g.h + 3 ∨ (Value.slice A n c).ownBlock = some q
theorem But.wide {S S' : Nat → Prop} {w w' : World} (h : But S w w') (hs : ∀ k, S k → S' k) : But S' w w' := ⟨h.os, h.tape, h.output, h.size, fun k hk hn => h.block k hk (fun hS => hn (hs k hS))⟩
theorem prs_r (ms : List PM) : (ms.map PM.pr).map (·.2) = ms.map PM.r := by rw [List.map_map]; rfl
end Go.Proofs.YtponkkljlbifmaaGreat

/-
  Plain: the state of the program's combine between two events. No program of ours walks here.
-/
namespace Go.Proofs.YtponkkljlbifmaaGreat
open Go.RowKit
set_option maxRecDepth 100000
open Rg

/-- the result behind a point -/
def GC.at_ (g : GC) (p : Vl) : Rg := comb g.op g.N (g.a.at_ (g.N : Int) p) (g.b.at_ (g.N : Int) p)
def GC.full (g : GC) : Rg := comb g.op (g.N + 1) g.a g.b
theorem GC.full_eq (g : GC) : g.full = mkR ((g.N + 1 : Nat) : Int) false (partsAt g.at_ (ptsOf g.a g.b)) := rfl
theorem GC.at_form {g : GC} (hg : g.Good) (p : Vl) : Form g.N (g.at_ p) := comb_form _ _ _ _ (hg.fa.at_ p) (hg.fb.at_ p)
structure CSt (g : GC) (qs : List Ev) (k : Nat) (K : List Vl) (ms : List PM) (o : Int) : Prop where
  sw : Swp qs k K
  pr : ms.map PM.pr = partsAt g.at_ K
  op : o = idxR (resU g.at_ K) (lastR g.at_ (.nil (g.N : Int) false) K)
  fit : ∀ q ∈ partsAt g.at_ K, q.1.length ≤ 64 ∧ q.2.fits = true
theorem CSt.zero (g : GC) (qs : List Ev) : CSt g qs 0 [] [] (-1) := ⟨Swp.zero qs, rfl, rfl, fun q h => by cases h⟩
theorem CSt.skip {g : GC} {qs : List Ev} {k : Nat} {K : List Vl} {ms : List PM} {o : Int} (h : CSt g qs k K ms o) {x y : Ev} (hx : qs[k]? = some x) (hy : qs[k + 1]? = some y) (e : y.v = x.v) : CSt g qs (k + 1) K ms o := ⟨h.sw.skip hx hy e, h.pr, h.op, h.fit⟩
theorem rests_of {ms : List PM} {L : List (List Iv × Rg)} (h : ms.map PM.pr = L) : ms.map PM.r = L.map (·.2) := by rw [← h, prs_r]
theorem room_rests {ro : Vl → Rg} (K : List Vl) (p : Vl) : (roomP (partsAt ro K) (ro p)).map (·.2) = resU ro (K ++ [p]) := by
  rw [room_at, List.map_map]
  exact List.map_id' _
section
variable {g : GC} {qs : List Ev} {k : Nat} {K : List Vl} {ms ms' : List PM} {o now : Int} {x : Ev}
/-- after the function was called: where the parts stand -/
theorem CSt.room (h : CSt g qs k K ms o) (hpr : ms'.map PM.pr = roomP (ms.map PM.pr) (g.at_ x.v)) (hnow : now = idxR (ms'.map PM.r) (g.at_ x.v)) : ms'.map PM.pr = roomP (partsAt g.at_ K) (g.at_ x.v) ∧ now = idxR (resU g.at_ (K ++ [x.v])) (g.at_ x.v) := by
  rw [h.pr] at hpr
  refine ⟨hpr, ?_⟩
  rw [hnow, rests_of hpr, room_rests]
theorem CSt.same (hg : g.Good) (h : CSt g qs k K ms o) (hup : EvUp qs) (hx : qs[k]? = some x) (hb : ∀ y, qs[k + 1]? = some y → y.v ≠ x.v) (hpr : ms'.map PM.pr = roomP (partsAt g.at_ K) (g.at_ x.v)) (hnow : now = idxR (resU g.at_ (K ++ [x.v])) (g.at_ x.v)) (heq : now = o) : CSt g qs (k + 1) (K ++ [x.v]) ms' o := by
  have he := (now_open (n := g.N) (K := K) (p := x.v) (fun q _ => g.at_form hg q)).1 (by rw [← hnow, ← h.op]; exact heq)
  obtain ⟨h1, h2⟩ := step_same (n := g.N) (fun q _ => g.at_form hg q) he
  refine ⟨h.sw.take hup hx hb, by rw [hpr, h1, h2], ?_, by rw [h2]; exact h.fit⟩
  rw [lastR_snoc, ← hnow]
  exact heq.symm
theorem CSt.ahead (h : CSt g qs k K ms o) (hp : qs.Perm (evs g.a g.b)) (hup : EvUp qs) (hx : qs[k]? = some x) (hb : ∀ y, qs[k + 1]? = some y → y.v ≠ x.v) : ∃ R, ptsOf g.a g.b = K ++ x.v :: R := by
  have hk := (List.getElem?_eq_some_iff.1 hx).1
  obtain ⟨R, hR⟩ := (h.sw.take hup hx hb).prefix_ hp hup (by omega)
  exact ⟨R, by simpa using hR⟩
theorem CSt.done (h : CSt g qs qs.length K ms o) (hp : qs.Perm (evs g.a g.b)) (hs : sizeL (ms.map PM.pr) ≤ 64) : mkR ((g.N + 1 : Nat) : Int) false (ms.map PM.pr) = g.full ∧ within g.full := by
  have hK := h.sw.fin hp
  have h1 := h.pr
  have h2 := h.fit
  rw [hK] at h1 h2
  refine ⟨by rw [g.full_eq, h1], ?_⟩
  rw [g.full_eq, within_mk]
  rw [h1] at hs
  exact ⟨hs, h2⟩
end
end Go.Proofs.YtponkkljlbifmaaGreat

/-
  The program's region functions grouping (its memory), and combine at width 0.
-/
namespace Go.Proofs.YtponkkljlbifmaaGreat
open Go.RowKit
set_option maxRecDepth 100000
open Rg

theorem Blk.step {w : World} {b : Nat} {T : TypeId} {cs : Array Value} (h : b = w.heap.size) : Blk (w.alloc (.cells cs T)) b T cs := by subst h; exact Blk.new w T cs
end Go.Proofs.YtponkkljlbifmaaGreat

/-
  The reference's Copy of a region: a copy in fresh memory.
-/
namespace Go.Proofs.YtponkkljlbifmaaGreat
open Go.RowKit
set_option maxRecDepth 100000
open Rg

theorem RgF.hw {lo hi : Nat} {w : World} {x : Int} {f : Bool} {A : Option Addr} {n c : Nat} {r : Rg} (h : RgF lo hi w x f A n c r) : r.w = x := h.s.hw
end Go.Proofs.YtponkkljlbifmaaGreat

namespace Go.Proofs.YtponkkljlbifmaaGreat
open Go.RowKit
set_option maxRecDepth 100000

/-- the interval that begins at the i-th point -/
def segI (P : List Vl) (i : Nat) : Iv := match P[i + 1]? with
  | some q => ⟨P.getD i zeroV, q, false⟩
  | none => ⟨P.getD i zeroV, zeroV, true⟩
def joinL (L : List Iv) (x : Iv) : List Iv := match L.getLast? with
  | none => L ++ [x]
  | some y => if !y.o && decide (cmpV y.t x.f = 0) then L.dropLast ++ [⟨y.f, x.t, x.o⟩] else L ++ [x]

end Go.Proofs.YtponkkljlbifmaaGreat

namespace Go.Proofs.YtponkkljlbifmaaGreat
open Go.RowKit
set_option maxRecDepth 100000

/-- the distinct ends of the intervals of two lists, ascending -/
def ptsSet (a b : List Iv) : List Vl := (setL ((ptsR [a, b]).map fun v => [v])).map (fun r => r.headD zeroV)
theorem ptsSet_eq {a b : List Iv} {L : List Vl} (h : L.map (fun v => [v]) = setL ((ptsR [a, b]).map fun v => [v])) : ptsSet a b = L := by
  unfold ptsSet
  rw [← h, List.map_map]
  conv => rhs; rw [← List.map_id L]
  exact List.map_congr_left (fun _ _ => rfl)
def combStep (op : Bool → Bool → Bool) (a b : List Iv) (P : List Vl) (acc : List Iv) (i : Nat) : List Iv := if op (inL a (P.getD i zeroV)) (inL b (P.getD i zeroV)) then joinL acc (segI P i) else acc
def combTo (op : Bool → Bool → Bool) (a b : List Iv) (P : List Vl) (k : Nat) : List Iv := (List.range k).foldl (combStep op a b P) []
def combR (op : Bool → Bool → Bool) (a b : List Iv) : List Iv := combTo op a b (ptsSet a b) (ptsSet a b).length
end Go.Proofs.YtponkkljlbifmaaGreat

/-
  Plain mathematics: the points at which a value changes, joined interval by interval, as the reference does. No program here.
-/
namespace Go.Proofs.YtponkkljlbifmaaGreat
open Go.RowKit
set_option maxRecDepth 100000

/-! the reference's Combine -/
def seg : Vl → List Vl → Iv
  | p, [] => ⟨p, zeroV, true⟩
  | p, q :: _ => ⟨p, q, false⟩
def cmb (g : Vl → Bool) : List Iv → List Vl → List Iv
  | acc, [] => acc
  | acc, p :: P => cmb g (if g p then joinL acc (seg p P) else acc) P
theorem joinL_snoc (out : List Iv) (y x : Iv) : joinL (out ++ [y]) x = if !y.o && decide (cmpV y.t x.f = 0) then out ++ [⟨y.f, x.t, x.o⟩] else out ++ [y] ++ [x] := by
  simp [joinL]
/-- the end of the last interval is below every point to come -/
def lowEnd (acc : List Iv) (P : List Vl) : Prop := ∀ y, acc.getLast? = some y → y.o = false ∧ ∀ p ∈ P, cmpV y.t p < 0
theorem joinL_low {acc : List Iv} {p : Vl} {P : List Vl} (h : lowEnd acc (p :: P)) : joinL acc (seg p P) = acc ++ [seg p P] := by
  unfold joinL
  cases hl : acc.getLast? with
  | none => rfl
  | some y =>
    have h1 := (h y hl).2 p List.mem_cons_self
    have e : (seg p P).f = p := by cases P <;> rfl
    have : ¬ cmpV y.t p = 0 := by omega
    simp [e, this]
theorem cmb_eq (g : Vl → Bool) : ∀ (P : List Vl), ascV P →
    (∀ acc, lowEnd acc P → cmb g acc P = acc ++ ivsOf (chg g false P)) ∧
    (∀ out x p P', P = p :: P' → cmb g (out ++ [⟨x, p, false⟩]) P = out ++ ivsOf (x :: chg g true P)) ∧ (P = [] → ∀ out x, cmb g (out ++ [⟨x, zeroV, true⟩]) P = out ++ ivsOf (x :: chg g true P))
  | [], _ => ⟨fun acc _ => by simp [cmb, chg, ivsOf], (fun out x p P' h => by cases h), fun _ out x => by simp [cmb, chg, ivsOf]⟩
  | p :: P, h => by
    have k := List.pairwise_cons.1 h
    obtain ⟨i1, i2, i3⟩ := cmb_eq g P k.2
    have go : ∀ out x, cmb g (out ++ [⟨x, (seg p P).t, (seg p P).o⟩]) P = out ++ ivsOf (x :: chg g true P) := by
      intro out x
      cases P with
      | nil => exact i3 rfl out x
      | cons q P' => exact i2 out x q P' rfl
    refine ⟨fun acc hacc => ?_, fun out x p' P' e => ?_, fun h => by cases h⟩
    · rw [cmb, chg]
      cases hg : g p
      · simp only [Bool.false_eq_true, if_false, if_true]
        exact i1 acc (fun y hy => ⟨(hacc y hy).1, fun q hq => (hacc y hy).2 q (List.mem_cons_of_mem _ hq)⟩)
      · simp only [if_true, Bool.true_eq_false, if_false]
        rw [joinL_low hacc, ← go acc p]
        cases P <;> rfl
    · injection e with e1 e2
      subst e1 e2
      rw [cmb, chg]
      cases hg : g p
      · simp only [Bool.false_eq_true, if_false]
        rw [i1 _ (fun y hy => ?_), ivsOf, List.append_assoc]
        · rfl
        · have : y = ⟨x, p, false⟩ := by simpa using hy.symm
          subst this
          exact ⟨rfl, k.1⟩
      · simp only [if_true]
        rw [joinL_snoc]
        have e : (seg p P).f = p := by cases P <;> rfl
        simp only [e, cmpV_self, Bool.not_false, decide_true, Bool.and_self, if_true]
        exact go out x
theorem comb_fold (op : Bool → Bool → Bool) (a b : List Iv) (P : List Vl) : ∀ (R S : List Vl) (acc : List Iv), P = S ++ R →
    ((List.range' S.length R.length).foldl (combStep op a b P) acc) = cmb (fun p => op (inL a p) (inL b p)) acc R
  | [], S, acc, _ => by simp [cmb]
  | p :: R, S, acc, h => by
    have e1 : P.getD S.length zeroV = p := by rw [h]; simp
    have e2 : segI P S.length = seg p R := by
      unfold segI
      rw [e1]
      have : P[S.length + 1]? = R[0]? := by rw [h, List.getElem?_append_right (by omega)]; simp
      rw [this]
      cases R <;> rfl
    have ih := comb_fold op a b P R (S ++ [p]) (combStep op a b P acc S.length) (by rw [h]; simp)
    rw [List.length_cons, List.range'_succ, List.foldl_cons, cmb]
    rw [List.length_append, List.length_singleton] at ih
    rw [ih]
    unfold combStep
    rw [e1, e2]
theorem combR_eq (op : Bool → Bool → Bool) (a b : List Iv) : combR op a b = cmb (fun p => op (inL a p) (inL b p)) [] (ptsSet a b) := by
  have := comb_fold op a b (ptsSet a b) (ptsSet a b) [] [] rfl
  unfold combR combTo
  rw [List.range_eq_range']
  exact this
end Go.Proofs.YtponkkljlbifmaaGreat

/-
  Plain: what the reference's Combine of regions makes, point by point. No program here.
-/
namespace Go.Proofs.YtponkkljlbifmaaGreat
open Go.RowKit
set_option maxRecDepth 100000
open Rg

end Go.Proofs.YtponkkljlbifmaaGreat

namespace Go.Proofs.YtponkkljlbifmaaGreat
open Go.RowKit
set_option maxRecDepth 100000

end Go.Proofs.YtponkkljlbifmaaGreat

namespace Go.Proofs.YtponkkljlbifmaaGreat
open Go.RowKit
set_option maxRecDepth 100000

end Go.Proofs.YtponkkljlbifmaaGreat

/-
  The reference's Same on regions: it says whether two regions are the same tree.
-/
namespace Go.Proofs.YtponkkljlbifmaaGreat
open Go.RowKit
set_option maxRecDepth 100000
open Rg

end Go.Proofs.YtponkkljlbifmaaGreat

/-
  The reference's Join once more, with what else it leaves as it was.
-/
namespace Go.Proofs.YtponkkljlbifmaaGreat
open Go.RowKit
set_option maxRecDepth 100000

end Go.Proofs.YtponkkljlbifmaaGreat

/-
  Plain mathematics: a canonical list of intervals is a strictly ascending list of points; merge and the reference's Combine are the same operation. No program here.
-/
namespace Go.Proofs.YtponkkljlbifmaaGreat
open Go.RowKit
set_option maxRecDepth 100000

theorem one_lt (a b : Vl) : cmpR [a] [b] = cmpV a b := by
  simp only [cmpR]
  split <;> omega
theorem ptsSet_spec (a b : List Iv) : ascV (ptsSet a b) ∧ ∀ v, v ∈ ptsSet a b ↔ v ∈ ptsL a ∨ v ∈ ptsL b := by
  obtain ⟨L, hL⟩ := setL_ones (ptsR [a, b])
  rw [ptsSet_eq hL]
  refine ⟨?_, fun v => ?_⟩
  · have := setL_asc ((ptsR [a, b]).map fun v => [v])
    rw [← hL] at this
    have h2 := List.pairwise_map.1 this
    exact h2.imp_of_mem (fun {x y} _ _ h => by rw [one_lt] at h; exact h)
  · have := setL_mem ((ptsR [a, b]).map fun v => [v]) [v]
    rw [← hL] at this
    simpa [ptsR] using this
theorem comb_spec (op : Bool → Bool → Bool) (hop : op false false = false) {a b : List Iv} (ha : ordFrom none a = true) (hb : ordFrom none b = true) :
    ordFrom none (combR op a b) = true ∧ ∀ v, inL (combR op a b) v = op (inL a v) (inL b v) := by
  obtain ⟨a1, a2, a3, _⟩ := ord_pts a none ha
  obtain ⟨b1, b2, b3, _⟩ := ord_pts b none hb
  obtain ⟨hP, hm⟩ := ptsSet_spec a b
  have ia : ∀ v, inL a v = par (ptsL a) v := fun v => by rw [← in_ivs v _ a2, a1]
  have ib : ∀ v, inL b v = par (ptsL b) v := fun v => by rw [← in_ivs v _ b2, b1]
  have e : combR op a b = ivsOf (chg (fun p => op (inL a p) (inL b p)) false (ptsSet a b)) := by
    rw [combR_eq, (cmb_eq _ _ hP).1 [] (fun y h => by cases h)]
    rfl
  rw [e]
  refine ⟨ord_ivs _ _ (chg_asc _ _ _ hP) (fun v hv => ?_) (fun y h => by cases h), fun v => ?_⟩
  · rcases (hm v).1 ((chg_sub _ _ _).1 v hv) with h | h
    · exact a3 v h
    · exact b3 v h
  · rw [in_ivs v _ (chg_asc _ _ _ hP)]
    have h := chg_par (fun p => op (inL a p) (inL b p)) v (ptsSet a b) false hP
    rw [ia v, ib v, par_last hP (fun q hq => (hm q).2 (.inl hq)) v, par_last hP (fun q hq => (hm q).2 (.inr hq)) v]
    have h' : par (chg (fun p => op (inL a p) (inL b p)) false (ptsSet a b)) v = (match lastLe (ptsSet a b) v with | none => false | some u => op (inL a u) (inL b u)) := by rw [Bool.false_xor] at h; exact h
    rw [h']
    cases lastLe (ptsSet a b) v with
    | none => exact hop.symm
    | some u => show op (inL a u) (inL b u) = _; rw [ia u, ib u]
/-- the program's merge and the reference's Combine agree on canonical lists -/
theorem comb_merge (op : Bool → Bool → Bool) (hop : op false false = false) {a b : List Iv} (ha : ordFrom none a = true) (hb : ordFrom none b = true) : combR op a b = mergeL op a b := by
  obtain ⟨c1, c2⟩ := comb_spec op hop ha hb
  obtain ⟨m1, _, m2⟩ := merge_spec op hop ha hb
  exact ord_ext c1 m1 fun v _ => by rw [c2, m2]
end Go.Proofs.YtponkkljlbifmaaGreat

/-
  The program's region function combine at a width above 0.
-/
namespace Go.Proofs.YtponkkljlbifmaaGreat
open Go.RowKit
set_option maxRecDepth 100000
open Rg

end Go.Proofs.YtponkkljlbifmaaGreat

/-
  The reference's Combine of regions: the words for its state, and the case of width 0.
-/
namespace Go.Proofs.YtponkkljlbifmaaGreat
open Go.RowKit
set_option maxRecDepth 100000
open Rg

structure FC where
  N : Nat
  k : Int
  a : Rg
  b : Rg
  xa : Int
  fa : Bool
  Aa : Option Addr
  na : Nat
  ca : Nat
  xb : Int
  fb : Bool
  Ab : Option Addr
  nb : Nat
  cb : Nat
  Ap : Option Addr
  P : List Vl
  O : Nat
  w0 : World
def FC.at_ (g : FC) (p : Vl) : Rg := comb (opR g.k) g.N (g.a.at_ (g.N : Int) p) (g.b.at_ (g.N : Int) p)
theorem RgS.f0 {w : World} {x : Int} {f : Bool} {A : Option Addr} {n c O : Nat} {r : Rg} (h : RgS w x f A n c r) (hO : w.heap.size ≤ O) : RgF 0 O w x f A n c r := fun w' hw => h.keep fun a ha => by
  have hlt := cell_lt ha
  exact World.cell?_of_block (w := w) (hw a.block (Nat.zero_le _) (by omega))
end Go.Proofs.YtponkkljlbifmaaGreat

/-
  The reference's Combine of regions.
-/
namespace Go.Proofs.YtponkkljlbifmaaGreat
open Go.RowKit
set_option maxRecDepth 100000
open Rg

end Go.Proofs.YtponkkljlbifmaaGreat

/-
  The reference's form, Valid, Size and Equal on regions.
-/
namespace Go.Proofs.YtponkkljlbifmaaGreat
open Go.RowKit
set_option maxRecDepth 100000
open Rg

end Go.Proofs.YtponkkljlbifmaaGreat

/-
  The reference's box, Box and Empty on regions.
-/
namespace Go.Proofs.YtponkkljlbifmaaGreat
open Go.RowKit
set_option maxRecDepth 100000
open Rg

end Go.Proofs.YtponkkljlbifmaaGreat

/-
  The program's region functions operate and Union.
-/
namespace Go.Proofs.YtponkkljlbifmaaGreat
open Go.RowKit
set_option maxRecDepth 100000
open Rg

/-- the result of an operation, and its error -/
noncomputable def opErr (op : Bool → Bool → Bool) (a b : Rg) : Int := if okB a && okB b && decide (a.w = b.w) then (if (comb op a.w.toNat a b).size ≤ 64 ∧ (comb op a.w.toNat a b).fits = true then 0 else 2) else 40
noncomputable def opRes (op : Bool → Bool → Bool) (a b : Rg) : Rg := if opErr op a b = 0 then comb op a.w.toNat a b else zeroR
theorem RgRes.zero {w w' : World} {er : Int} (hb : Below w.heap.size w w') : RgRes w zeroR er (.returned (.tuple #[.agg #[.int .i64 0, .bool false, .slice none 0 0], .int .i64 er])) w' := ⟨0, false, none, 0, 0, rfl, RgS.nil _ _, hb⟩
end Go.Proofs.YtponkkljlbifmaaGreat

/-
  The program's region function Union; plain facts on boxes and results.
-/
namespace Go.Proofs.YtponkkljlbifmaaGreat
open Go.RowKit
set_option maxRecDepth 100000
open Rg

abbrev opUr : Bool → Bool → Bool := ofT true true true
end Go.Proofs.YtponkkljlbifmaaGreat

/-
  Plain: laws of the operations on canonical regions. No program here.
-/
namespace Go.Proofs.YtponkkljlbifmaaGreat
open Go.RowKit
set_option maxRecDepth 100000
open Rg

abbrev opIr : Bool → Bool → Bool := ofT true false false
abbrev opMr : Bool → Bool → Bool := ofT false true false
/-- the region of all rows -/
def allR (n : Nat) : Rg := boxR (List.replicate n allL)
section
variable {n : Nat} {a b c : Rg} (fa : Form n a) (fb : Form n b) (fc : Form n c)
include fa
include fb
include fc
end
end Go.Proofs.YtponkkljlbifmaaGreat

/-
  The reference's Valid, Size and Equal on regions.
-/
namespace Go.Proofs.YtponkkljlbifmaaGreat
open Go.RowKit
set_option maxRecDepth 100000
open Rg

end Go.Proofs.YtponkkljlbifmaaGreat

/-
  The program's Intersect, Minus, Equal and Covers on regions.
-/
namespace Go.Proofs.YtponkkljlbifmaaGreat
open Go.RowKit
set_option maxRecDepth 100000
open Rg

end Go.Proofs.YtponkkljlbifmaaGreat

/-
  The reference's limited, Do, Union, Intersect, Minus and Covers on regions.
-/
namespace Go.Proofs.YtponkkljlbifmaaGreat
open Go.RowKit
set_option maxRecDepth 100000
open Rg

end Go.Proofs.YtponkkljlbifmaaGreat

/-
  All rows and the complement: the reference's all, All, Complement, the program's All, Complement.
-/
namespace Go.Proofs.YtponkkljlbifmaaGreat
open Go.RowKit
set_option maxRecDepth 100000
open Rg

/-- the complement, and the error -/
noncomputable def cpErr (a : Rg) : Int := if okB a then opErr opMr (allR a.w.toNat) a else 40
noncomputable def cpRes (a : Rg) : Rg := if okB a then opRes opMr (allR a.w.toNat) a else zeroR
end Go.Proofs.YtponkkljlbifmaaGreat

/-
  Plain mathematics: the value behind a value. No walk here.
-/
namespace Go.Proofs.YtponkkljlbifmaaGreat
open Go.RowKit
set_option maxRecDepth 100000

theorem bytes_list (t : ByteArray) : t.toList = t.data.toList := ByteArray.toList_eq t
theorem text_nil {t : ByteArray} (h : t.toList.isEmpty = true) : t = ⟨#[]⟩ := by
  rw [zero_text]
  simpa using h
theorem valid_eq {v : Vl} (h : validV v = true) : (v.k = 1 ∧ v.i = 0 ∧ v.t = ⟨#[]⟩) ∨ (v.k = 2 ∧ v.i = 0 ∧ v.t = ⟨#[]⟩) ∨ (v.k = 3 ∧ (v.i = 0 ∨ v.i = 1) ∧ v.t = ⟨#[]⟩) ∨ (v.k = 4 ∧ v.t = ⟨#[]⟩) ∨ (v.k = 5 ∧ v.i = 0 ∧ v.t.size ≤ 64) := by
  unfold validV at h
  by_cases h12 : v.k = 1 ∨ v.k = 2
  · rw [if_pos h12, Bool.and_eq_true] at h
    have h1 : v.i = 0 := by simpa using h.1
    have h2 := text_nil h.2
    rcases h12 with e | e
    · exact .inl ⟨e, h1, h2⟩
    · exact .inr (.inl ⟨e, h1, h2⟩)
  · rw [if_neg h12] at h
    by_cases h3 : v.k = 3
    · rw [if_pos h3, Bool.and_eq_true] at h
      exact .inr (.inr (.inl ⟨h3, by simpa using h.1, text_nil h.2⟩))
    · rw [if_neg h3] at h
      by_cases h4 : v.k = 4
      · rw [if_pos h4] at h
        exact .inr (.inr (.inr (.inl ⟨h4, text_nil h⟩)))
      · rw [if_neg h4] at h
        by_cases h5 : v.k = 5
        · rw [if_pos h5, Bool.and_eq_true] at h
          exact .inr (.inr (.inr (.inr ⟨h5, by simpa using h.1, by simpa using h.2⟩)))
        · rw [if_neg h5] at h
          cases h
theorem cmpV_kind {a b : Vl} (h : a.k < b.k) : cmpV a b = -1 := by
  unfold cmpV
  rw [if_pos h]
theorem cmpV_text {a b : Vl} (h : a.k = b.k) (h2 : a.i = b.i) : cmpV a b = cmpB a.t.toList b.t.toList := by
  unfold cmpV
  rw [if_neg (by omega), if_neg (by omega), if_neg (by omega), if_neg (by omega)]
theorem nil_le (q : List UInt8) : cmpB (⟨#[]⟩ : ByteArray).toList q ≤ 0 := by
  rw [bytes_list]
  cases q <;> simp [cmpB]
end Go.Proofs.YtponkkljlbifmaaGreat

namespace Go.Proofs.YtponkkljlbifmaaGreat
open Go.RowKit
set_option maxRecDepth 100000

def oneL (v : Vl) : List Iv × Int := if validV v then ([⟨v, (nextV v).1, !(nextV v).2⟩], 0) else ([], 10)
def kindL (k : Int) : List Iv × Int := if (firstV k).2 then ([⟨(firstV k).1, (firstV (wrap64 (k + 1))).1, !(firstV (wrap64 (k + 1))).2⟩], 0) else ([], 1)
end Go.Proofs.YtponkkljlbifmaaGreat

/-
  Plain mathematics: canonical lists with few points. No walk here.
-/
namespace Go.Proofs.YtponkkljlbifmaaGreat
open Go.RowKit
set_option maxRecDepth 100000

/-- canonical, with at most m points -/
structure Good (l : List Iv) (m : Nat) : Prop where
  ord : ordFrom none l = true
  pts : (ptsL l).length ≤ m
theorem Good.len {l : List Iv} {m : Nat} (h : Good l m) : 2 * l.length ≤ m + 1 := by
  have h1 := (ord_pts l none h.ord).1
  have h2 := ivs_len (ptsL l)
  rw [h1] at h2
  have := h.pts
  omega
theorem Good.mono {l : List Iv} {m n : Nat} (h : Good l m) (hn : m ≤ n) : Good l n := ⟨h.ord, by have := h.pts; omega⟩
theorem Good.nil (m : Nat) : Good [] m := ⟨rfl, by simp [ptsL]⟩
theorem Good.valid {l : List Iv} {m : Nat} (h : Good l m) (hm : m ≤ 127) : validL l = true := by
  have := h.len
  unfold validL
  rw [h.ord, Bool.and_true, decide_eq_true_eq]
  omega
theorem Good.merge {op : Bool → Bool → Bool} {a b : List Iv} {m n : Nat} (ha : Good a m) (hb : Good b n) (hop : op false false = false) : Good (mergeL op a b) (m + n) := by
  obtain ⟨h1, h2, _⟩ := merge_spec op hop ha.ord hb.ord
  exact ⟨h1, by have := ha.pts; have := hb.pts; omega⟩
theorem Good.comb {op : Bool → Bool → Bool} {a b : List Iv} {m n : Nat} (ha : Good a m) (hb : Good b n) (hop : op false false = false) : Good (combR op a b) (m + n) := by
  rw [comb_merge op hop ha.ord hb.ord]
  exact ha.merge hb hop
theorem good_all : Good allL 1 := ⟨by decide +kernel, by decide⟩
end Go.Proofs.YtponkkljlbifmaaGreat

namespace Go.Proofs.YtponkkljlbifmaaGreat
open Go.RowKit
set_option maxRecDepth 100000

theorem iv_ne {w : World} {g : Nat} {A : Option Addr} {n : Nat} {l : List Iv} (hc : CaseAt w g) (h : IvS w A n l) : 0 < n → ∀ b o, A = some ⟨b, o, none⟩ → ¬ b = g := by
  rintro hn b o hA rfl
  obtain ⟨A', n', c', k', zs, hB, _⟩ := hc.ex
  obtain ⟨b', o', x, hA', hx, hxc⟩ := h.at hn
  rw [hA] at hA'
  injection hA' with h1
  injection h1 with h1 h2
  subst h1 h2
  have c0 := hxc 0 _ rfl
  have c1 := hxc 1 _ rfl
  rw [hB.cell] at c0 c1
  simp only [Nat.zero_mul, Nat.add_zero] at c0 c1
  rcases o with _ | _ | o <;> simp at c0 c1
end Go.Proofs.YtponkkljlbifmaaGreat

/-
  Case.Interval once more: with the ranges of its points and the row that it owns.
-/
namespace Go.Proofs.YtponkkljlbifmaaGreat
open Go.RowKit
set_option maxRecDepth 100000

/-- canonical, few points, all in range -/
structure GoodR (l : List Iv) (m : Nat) : Prop where
  good : Good l m
  rg : ∀ v ∈ ptsL l, rgV v
theorem GoodR.len {l : List Iv} {m : Nat} (h : GoodR l m) : 2 * l.length ≤ m + 1 := h.good.len
theorem GoodR.mono {l : List Iv} {m n : Nat} (h : GoodR l m) (hn : m ≤ n) : GoodR l n := ⟨h.good.mono hn, h.rg⟩
theorem GoodR.nil (m : Nat) : GoodR [] m := ⟨Good.nil m, by simp [ptsL]⟩
theorem GoodR.comb {op : Bool → Bool → Bool} {a b : List Iv} {m n : Nat} (ha : GoodR a m) (hb : GoodR b n) (hop : op false false = false) : GoodR (combR op a b) (m + n) := by
  refine ⟨ha.good.comb hb.good hop, fun v hv => ?_⟩
  obtain ⟨hP, hm⟩ := ptsSet_spec a b
  have e : combR op a b = ivsOf (chg (fun p => op (inL a p) (inL b p)) false (ptsSet a b)) := by
    rw [combR_eq, (cmb_eq _ _ hP).1 [] (fun y h => by cases h)]
    rfl
  rw [e, pts_ivs] at hv
  rcases (hm v).1 ((chg_sub _ _ _).1 v hv) with h | h
  · exact ha.rg v h
  · exact hb.rg v h
theorem GoodR.wf {l : List Iv} {m : Nat} (h : GoodR l m) : ∀ x ∈ l, rgV x.f ∧ rgV x.t := fun x hx => by
  have h1 : x.f ∈ ptsL l := mem_ptsL.2 ⟨x, hx, .inl rfl⟩
  refine ⟨h.rg _ h1, ?_⟩
  cases ho : x.o
  · exact h.rg _ (mem_ptsL.2 ⟨x, hx, .inr ⟨ho, rfl⟩⟩)
  · have : x.t = zeroV := by
      have hord := h.good.ord
      clear h h1
      generalize hp : (none : Option Iv) = p at hord
      clear hp
      induction l generalizing p with
      | nil => cases hx
      | cons y l ih =>
        rw [ordFrom_cons, Bool.and_eq_true] at hord
        rcases List.mem_cons.1 hx with rfl | hx
        · have h2 := hord.1
          unfold okI at h2
          simp only [Bool.and_eq_true, ho, if_true] at h2
          have h3 := h2.2
          simp only [decide_eq_true_eq] at h3
          exact h3.2
        · exact ih hx _ hord.2
    rw [this]
    exact ⟨by decide, by decide⟩
end Go.Proofs.YtponkkljlbifmaaGreat

/-
  Case.Region: a canonical region of the width that is asked for.
-/
namespace Go.Proofs.YtponkkljlbifmaaGreat
open Go.RowKit
set_option maxRecDepth 100000
open Rg

theorem RgP.case {w w' : World} {g : Nat} (hc : CaseAt w g) (hb : But (· = g) w w') : ∀ {r : Rg} {b o : Nat}, RgP w r b o → RgP w' r b o
  | .nil _ _, _, _, _ => trivial
  | .cons vs rest tail, b, o, h => by
    obtain ⟨⟨A1, n1, c1, h1, h2, h3⟩, h4, h5, ⟨A', n', c', h6, h7, h8, h9⟩, h10⟩ := h
    have hne : ¬ b = g := by
      intro e
      subst e
      obtain ⟨A2, n2, c2, k2, zs, hB, _⟩ := hc.ex
      rw [hB.cell] at h1 h5
      rcases o with _ | _ | o <;> simp at h1 h5
    have hk : ∀ j v, w.cell? ⟨b, j, none⟩ = some v → w'.cell? ⟨b, j, none⟩ = some v := fun j v hv => by
      have hlt := cell_lt (w := w) (a := ⟨b, j, none⟩) (by rw [hv]; rfl)
      rw [World.cell?_of_block (w := w) (hb.block b hlt hne)]
      exact hv
    refine ⟨⟨A1, n1, c1, hk _ _ h1, h2, h3.but hb (iv_ne hc h3)⟩, hk _ _ h4, hk _ _ h5, ⟨A', n', c', hk _ _ h6, h7, h8, fun hn => ?_⟩, RgP.case hc hb h10⟩
    obtain ⟨b', o', e, h⟩ := h9 hn
    exact ⟨b', o', e, RgP.case hc hb h⟩
theorem RgS.case {w w' : World} {g : Nat} (hc : CaseAt w g) (hb : But (· = g) w w') {x : Int} {f : Bool} {A : Option Addr} {n c : Nat} {r : Rg} (h : RgS w x f A n c r) : RgS w' x f A n c r :=
  ⟨h.hw, h.hf, h.ok, h.len, fun hn => by
    obtain ⟨b, o, e, hp⟩ := h.ex hn
    exact ⟨b, o, e, hp.case hc hb⟩⟩
theorem But.then {S T : Nat → Prop} {a b c : World} (h : But S a b) (k : But T b c) (hT : ∀ q, T q → a.heap.size ≤ q) : But S a c :=
  ⟨k.os.trans h.os, k.tape.trans h.tape, k.output.trans h.output, Nat.le_trans h.size k.size, fun q hq hs => (k.block q (Nat.lt_of_lt_of_le hq h.size) (fun e => by have := hT q e; omega)).trans (h.block q hq hs)⟩
theorem CaseAt.ne {w : World} {g q : Nat} {T : TypeId} {cs : Array Value} (h : CaseAt w g) (hb : Blk w q T cs) (hT : T ≠ 53) : q ≠ g := fun e => by
  obtain ⟨A', n', c', k', zs, hB, _⟩ := h.ex
  subst e
  unfold Blk at hB hb
  rw [hB] at hb
  injection hb with hb
  injection hb with _ hb
  exact hT hb.symm
theorem CaseAt.off {w w' : World} {g q : Nat} {T : TypeId} {x : Int} {f : Bool} {v : Value} (h : CaseAt w g) (hB : Blk w q T #[.int .i64 x, .bool f, v]) (hv : ∀ z, v ≠ .int .u8 z) (hb : But (· = q) w w') (hne : g ≠ q) : CaseAt w' g := h.but hb hne fun b hb i z => by
  subst hb
  rw [hB.cell]
  rcases i with _ | _ | _ | i <;> simp
  exact hv z
end Go.Proofs.YtponkkljlbifmaaGreat

/-
  The law's Case: distinct columns below a width.
-/
namespace Go.Proofs.YtponkkljlbifmaaGreat
open Go.RowKit
set_option maxRecDepth 100000

/-- columns that do not lie in the block g -/
structure ClN (g : Nat) (w : World) (A : Option Addr) (n : Nat) (cs : List Int) : Prop where
  sl : ClS w A n cs
  ne : 0 < n → ∀ b o, A = some ⟨b, o, none⟩ → b ≠ g
theorem ClN.keep {g : Nat} {w w' : World} {A : Option Addr} {n : Nat} {cs : List Int} (h : ClN g w A n cs) (hk : Keeps w w') : ClN g w' A n cs := ⟨h.sl.keep hk, h.ne⟩
theorem ClN.case {g : Nat} {w w' : World} {A : Option Addr} {n : Nat} {cs : List Int} (h : ClN g w A n cs) (hb : But (· = g) w w') : ClN g w' A n cs :=
  ⟨h.sl.but hb (fun hn b o hA => h.ne hn b o hA), h.ne⟩
end Go.Proofs.YtponkkljlbifmaaGreat
