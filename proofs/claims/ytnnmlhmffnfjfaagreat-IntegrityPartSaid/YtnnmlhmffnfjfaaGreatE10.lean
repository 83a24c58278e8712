/-
  Texts: RCombine, AlgC, FStep, Ordered, Ref03, FSame, Join2, Alg, Comb, FComb0, FComb, FForm, FBox, Oper, Union, RgLaw, FValid, RgOps, FOps, AllR, NextM, One, Good, CInt, CInt2, CRegion, GCols.
-/
import Derived.Test.YtnnmlhmffnfjfaaGreatE9
import Derived.Deep.CutBlock
import Derived.OwnWalk
set_option linter.unusedVariables false
namespace Go.Proofs.YtnnmlhmffnfjfaaGreat
open Go.RowKit
set_option maxRecDepth 100000

/-- the distinct ends of the intervals of two lists, ascending -/
def ptsSet (a b : List Iv) : List Vl := (setL ((ptsR [a, b]).map fun v => [v])).map (fun r => r.headD zeroV)
theorem ptsSet_eq {a b : List Iv} {L : List Vl} (h : L.map (fun v => [v]) = setL ((ptsR [a, b]).map fun v => [v])) : ptsSet a b = L := by
  unfold ptsSet
  rw [← h, List.map_map]
  conv => rhs; rw [← List.map_id L]
  exact List.map_congr_left (fun _ _ => rfl)
def combStep (op : Bool → Bool → Bool) (a b : List Iv) (P : List Vl) (acc : List Iv) (i : Nat) : List Iv := if op (inL a (P.getD i zeroV)) (inL b (P.getD i zeroV)) then joinL acc (segI P i) else acc
def combTo (op : Bool → Bool → Bool) (a b : List Iv) (P : List Vl) (k : Nat) : List Iv := (List.range k).foldl (combStep op a b P) []
def combR (op : Bool → Bool → Bool) (a b : List Iv) : List Iv := combTo op a b (ptsSet a b) (ptsSet a b).length
end Go.Proofs.YtnnmlhmffnfjfaaGreat

/-
  Plain mathematics: the points at which a value changes, joined interval by interval, as the reference does. No program here.
-/
namespace Go.Proofs.YtnnmlhmffnfjfaaGreat
open Go.RowKit
set_option maxRecDepth 100000

/-! the reference's Combine -/
def seg : Vl → List Vl → Iv
  | p, [] => ⟨p, zeroV, true⟩
  | p, q :: _ => ⟨p, q, false⟩
def cmb (g : Vl → Bool) : List Iv → List Vl → List Iv
  | acc, [] => acc
  | acc, p :: P => cmb g (if g p then joinL acc (seg p P) else acc) P
theorem joinL_snoc (out : List Iv) (y x : Iv) : joinL (out ++ [y]) x = if !y.o && decide (cmpV y.t x.f = 0) then out ++ [⟨y.f, x.t, x.o⟩] else out ++ [y] ++ [x] := by
  simp [joinL]
/-- the end of the last interval is below every point to come -/
def lowEnd (acc : List Iv) (P : List Vl) : Prop := ∀ y, acc.getLast? = some y → y.o = false ∧ ∀ p ∈ P, cmpV y.t p < 0
theorem joinL_low {acc : List Iv} {p : Vl} {P : List Vl} (h : lowEnd acc (p :: P)) : joinL acc (seg p P) = acc ++ [seg p P] := by
  unfold joinL
  cases hl : acc.getLast? with
  | none => rfl
  | some y =>
    have h1 := (h y hl).2 p List.mem_cons_self
    have e : (seg p P).f = p := by cases P <;> rfl
    have : ¬ cmpV y.t p = 0 := by omega
    simp [e, this]
theorem cmb_eq (g : Vl → Bool) : ∀ (P : List Vl), ascV P →
    (∀ acc, lowEnd acc P → cmb g acc P = acc ++ ivsOf (chg g false P)) ∧
    (∀ out x p P', P = p :: P' → cmb g (out ++ [⟨x, p, false⟩]) P = out ++ ivsOf (x :: chg g true P)) ∧ (P = [] → ∀ out x, cmb g (out ++ [⟨x, zeroV, true⟩]) P = out ++ ivsOf (x :: chg g true P))
  | [], _ => ⟨fun acc _ => by simp [cmb, chg, ivsOf], (fun out x p P' h => by cases h), fun _ out x => by simp [cmb, chg, ivsOf]⟩
  | p :: P, h => by
    have k := List.pairwise_cons.1 h
    obtain ⟨i1, i2, i3⟩ := cmb_eq g P k.2
    have go : ∀ out x, cmb g (out ++ [⟨x, (seg p P).t, (seg p P).o⟩]) P = out ++ ivsOf (x :: chg g true P) := by
      intro out x
      cases P with
      | nil => exact i3 rfl out x
      | cons q P' => exact i2 out x q P' rfl
    refine ⟨fun acc hacc => ?_, fun out x p' P' e => ?_, fun h => by cases h⟩
    · rw [cmb, chg]
      cases hg : g p
      · simp only [Bool.false_eq_true, if_false, if_true]
        exact i1 acc (fun y hy => ⟨(hacc y hy).1, fun q hq => (hacc y hy).2 q (List.mem_cons_of_mem _ hq)⟩)
      · simp only [if_true, Bool.true_eq_false, if_false]
        rw [joinL_low hacc, ← go acc p]
        cases P <;> rfl
    · injection e with e1 e2
      subst e1 e2
      rw [cmb, chg]
      cases hg : g p
      · simp only [Bool.false_eq_true, if_false]
        rw [i1 _ (fun y hy => ?_), ivsOf, List.append_assoc]
        · rfl
        · have : y = ⟨x, p, false⟩ := by simpa using hy.symm
          subst this
          exact ⟨rfl, k.1⟩
      · simp only [if_true]
        rw [joinL_snoc]
        have e : (seg p P).f = p := by cases P <;> rfl
        simp only [e, cmpV_self, Bool.not_false, decide_true, Bool.and_self, if_true]
        exact go out x
theorem comb_fold (op : Bool → Bool → Bool) (a b : List Iv) (P : List Vl) : ∀ (R S : List Vl) (acc : List Iv), P = S ++ R →
    ((List.range' S.length R.length).foldl (combStep op a b P) acc) = cmb (fun p => op (inL a p) (inL b p)) acc R
  | [], S, acc, _ => by simp [cmb]
  | p :: R, S, acc, h => by
    have e1 : P.getD S.length zeroV = p := by rw [h]; simp
    have e2 : segI P S.length = seg p R := by
      unfold segI
      rw [e1]
      have : P[S.length + 1]? = R[0]? := by rw [h, List.getElem?_append_right (by omega)]; simp
      rw [this]
      cases R <;> rfl
    have ih := comb_fold op a b P R (S ++ [p]) (combStep op a b P acc S.length) (by rw [h]; simp)
    rw [List.length_cons, List.range'_succ, List.foldl_cons, cmb]
    rw [List.length_append, List.length_singleton] at ih
    rw [ih]
    unfold combStep
    rw [e1, e2]
theorem combR_eq (op : Bool → Bool → Bool) (a b : List Iv) : combR op a b = cmb (fun p => op (inL a p) (inL b p)) [] (ptsSet a b) := by
  have := comb_fold op a b (ptsSet a b) (ptsSet a b) [] [] rfl
  unfold combR combTo
  rw [List.range_eq_range']
  exact this
end Go.Proofs.YtnnmlhmffnfjfaaGreat

/-
  Plain: what the reference's Combine of regions makes, point by point. No program here.
-/
namespace Go.Proofs.YtnnmlhmffnfjfaaGreat
open Go.RowKit
set_option maxRecDepth 100000
open Rg

/-- the values with the result r after k points, each with the whole interval behind it -/
def valsTo (ro : Vl → Rg) (P : List Vl) (r : Rg) : Nat → List Iv
  | 0 => []
  | k + 1 => if decide (ro (P.getD k zeroV) = r) then joinL (valsTo ro P r k) (segI P k) else valsTo ro P r k
def partsTo (ro : Vl → Rg) (P : List Vl) (k : Nat) : List (List Iv × Rg) := (resU ro (P.take k)).map fun r => (valsTo ro P r k, r)
end Go.Proofs.YtnnmlhmffnfjfaaGreat

namespace Go.Proofs.YtnnmlhmffnfjfaaGreat
open Go.RowKit
set_option maxRecDepth 100000

end Go.Proofs.YtnnmlhmffnfjfaaGreat

namespace Go.Proofs.YtnnmlhmffnfjfaaGreat
open Go.RowKit
set_option maxRecDepth 100000

end Go.Proofs.YtnnmlhmffnfjfaaGreat

/-
  The reference's Same on regions: it says whether two regions are the same tree.
-/
namespace Go.Proofs.YtnnmlhmffnfjfaaGreat
open Go.RowKit
set_option maxRecDepth 100000
open Rg

end Go.Proofs.YtnnmlhmffnfjfaaGreat

/-
  The reference's Join once more, with what else it leaves as it was.
-/
namespace Go.Proofs.YtnnmlhmffnfjfaaGreat
open Go.RowKit
set_option maxRecDepth 100000

end Go.Proofs.YtnnmlhmffnfjfaaGreat

/-
  Plain mathematics: a canonical list of intervals is a strictly ascending list of points; merge and the reference's Combine are the same operation. No program here.
-/
namespace Go.Proofs.YtnnmlhmffnfjfaaGreat
open Go.RowKit
set_option maxRecDepth 100000

theorem one_lt (a b : Vl) : cmpR [a] [b] = cmpV a b := by
  simp only [cmpR]
  split <;> omega
theorem ptsSet_spec (a b : List Iv) : ascV (ptsSet a b) ∧ ∀ v, v ∈ ptsSet a b ↔ v ∈ ptsL a ∨ v ∈ ptsL b := by
  obtain ⟨L, hL⟩ := setL_ones (ptsR [a, b])
  rw [ptsSet_eq hL]
  refine ⟨?_, fun v => ?_⟩
  · have := setL_asc ((ptsR [a, b]).map fun v => [v])
    rw [← hL] at this
    have h2 := List.pairwise_map.1 this
    exact h2.imp_of_mem (fun {x y} _ _ h => by rw [one_lt] at h; exact h)
  · have := setL_mem ((ptsR [a, b]).map fun v => [v]) [v]
    rw [← hL] at this
    simpa [ptsR] using this
theorem comb_spec (op : Bool → Bool → Bool) (hop : op false false = false) {a b : List Iv} (ha : ordFrom none a = true) (hb : ordFrom none b = true) :
    ordFrom none (combR op a b) = true ∧ ∀ v, inL (combR op a b) v = op (inL a v) (inL b v) := by
  obtain ⟨a1, a2, a3, _⟩ := ord_pts a none ha
  obtain ⟨b1, b2, b3, _⟩ := ord_pts b none hb
  obtain ⟨hP, hm⟩ := ptsSet_spec a b
  have ia : ∀ v, inL a v = par (ptsL a) v := fun v => by rw [← in_ivs v _ a2, a1]
  have ib : ∀ v, inL b v = par (ptsL b) v := fun v => by rw [← in_ivs v _ b2, b1]
  have e : combR op a b = ivsOf (chg (fun p => op (inL a p) (inL b p)) false (ptsSet a b)) := by
    rw [combR_eq, (cmb_eq _ _ hP).1 [] (fun y h => by cases h)]
    rfl
  rw [e]
  refine ⟨ord_ivs _ _ (chg_asc _ _ _ hP) (fun v hv => ?_) (fun y h => by cases h), fun v => ?_⟩
  · rcases (hm v).1 ((chg_sub _ _ _).1 v hv) with h | h
    · exact a3 v h
    · exact b3 v h
  · rw [in_ivs v _ (chg_asc _ _ _ hP)]
    have h := chg_par (fun p => op (inL a p) (inL b p)) v (ptsSet a b) false hP
    rw [ia v, ib v, par_last hP (fun q hq => (hm q).2 (.inl hq)) v, par_last hP (fun q hq => (hm q).2 (.inr hq)) v]
    have h' : par (chg (fun p => op (inL a p) (inL b p)) false (ptsSet a b)) v = (match lastLe (ptsSet a b) v with | none => false | some u => op (inL a u) (inL b u)) := by rw [Bool.false_xor] at h; exact h
    rw [h']
    cases lastLe (ptsSet a b) v with
    | none => exact hop.symm
    | some u => show op (inL a u) (inL b u) = _; rw [ia u, ib u]
/-- the program's merge and the reference's Combine agree on canonical lists -/
theorem comb_merge (op : Bool → Bool → Bool) (hop : op false false = false) {a b : List Iv} (ha : ordFrom none a = true) (hb : ordFrom none b = true) : combR op a b = mergeL op a b := by
  obtain ⟨c1, c2⟩ := comb_spec op hop ha hb
  obtain ⟨m1, _, m2⟩ := merge_spec op hop ha hb
  exact ord_ext c1 m1 fun v _ => by rw [c2, m2]
end Go.Proofs.YtnnmlhmffnfjfaaGreat

/-
  The program's region function combine at a width above 0.
-/
namespace Go.Proofs.YtnnmlhmffnfjfaaGreat
open Go.RowKit
set_option maxRecDepth 100000
open Rg

theorem GF.side {g : GC} {w w' : World} {S : Nat → Prop} (h : GF g w) (hb : But S w w') (hS : ∀ q, S q → g.h + 13 ≤ q) : GF g w' := by
  have h0 := h.hB
  have n : ∀ q, q < g.h + 13 → ¬ S q := fun q hq hs => by have := hS q hs; omega
  exact ⟨hb.below h.bel h.bel.size (fun k hk => by have := hS k hk; omega), h.ba.but hb (n _ (by omega)), h.bb.but hb (n _ (by omega)), h.bp.but hb (n _ (by omega)), h.bo.but hb (n _ (by omega)), h.bk.but hb (n _ (by omega)), h.bc.but hb (n _ (by omega)), ⟨h0.1, Nat.le_trans h0.2 hb.size⟩⟩
/-- changes beside the state -/
theorem GS.side {g : GC} {w w' : World} {A : Option Addr} {n c : Nat} {ms : List PM} {nk : Nat} {K1 : Int × Int → Option Int} {K2 : ByteArray → Option Int} {S : Nat → Prop} (h : GS g w A n c ms nk K1 K2) (hb : But S w w') (hS : ∀ q, S q → g.h + 13 ≤ q ∧ q < g.B) : GS g w' A n c ms nk K1 K2 := by
  have n : ∀ q, q < g.h + 13 → ¬ S q := fun q hq hs => by have := (hS q hs).1; omega
  exact ⟨h.fx.side hb (fun q hq => (hS q hq).1), h.km.but hb (n _ (by omega)), h.cm.but hb (n _ (by omega)), h.tot.but hb (n _ (by omega)), h.out.but hb (n _ (by omega)), h.parts.but hb (fun q hq => (hS q hq).2), h.k1, h.k2, h.good, h.size, h.nodup⟩
/-- what stands beside the state in a round -/
structure CFr (h B exb : Nat) (x : Ev) (i0 i1 : Int) (bl ol : Nat) (qs : List Ev) (w0 w : World) : Prop where
  ex : Blk w exb 227 #[.int .i64 x.v.k, .int .i64 x.v.i, .string x.v.t, .int .i64 x.s, .int .i64 x.p, .bool x.e]
  cu : Blk w (B - 1) 225 #[.int .i64 i0, .int .i64 i1]
  rb : Blk w (h + 2) 71 #[.int .i64 0, .bool false, .slice none 0 0]
  sl : Sl 6 Ev.cs w (some ⟨bl, ol, none⟩) qs.length qs
  be : Below h w0 w
  bl : bl < B
  hB : h + 13 ≤ B ∧ B ≤ exb ∧ exb < w.heap.size ∧ h ≤ w.heap.size
theorem CFr.but {h B exb : Nat} {x : Ev} {i0 i1 : Int} {bl ol : Nat} {qs : List Ev} {w0 w w' : World} {S : Nat → Prop} (f : CFr h B exb x i0 i1 bl ol qs w0 w) (hb : But S w w') (hS : ∀ q, S q → B ≤ q ∧ q ≠ exb) : CFr h B exb x i0 i1 bl ol qs w0 w' := by
  have h0 := f.hB
  have n : ∀ q, q < B → ¬ S q := fun q hq hs => by have := (hS q hs).1; omega
  exact ⟨f.ex.but hb (fun hs => (hS _ hs).2 rfl), f.cu.but hb (n _ (by omega)), f.rb.but hb (n _ (by omega)), f.sl.but hb (fun _ b o hA => by injection hA with hA; injection hA with h1 h2; rw [← h1]; exact n _ f.bl), hb.below f.be h0.2.2.2 (fun q hq => by have := (hS q hq).1; omega), f.bl, ⟨h0.1, h0.2.1, Nat.lt_of_lt_of_le h0.2.2.1 hb.size, Nat.le_trans h0.2.2.2 hb.size⟩⟩
end Go.Proofs.YtnnmlhmffnfjfaaGreat

/-
  The reference's Combine of regions: the words for its state, and the case of width 0.
-/
namespace Go.Proofs.YtnnmlhmffnfjfaaGreat
open Go.RowKit
set_option maxRecDepth 100000
open Rg

structure FC where
  N : Nat
  k : Int
  a : Rg
  b : Rg
  xa : Int
  fa : Bool
  Aa : Option Addr
  na : Nat
  ca : Nat
  xb : Int
  fb : Bool
  Ab : Option Addr
  nb : Nat
  cb : Nat
  Ap : Option Addr
  P : List Vl
  O : Nat
  w0 : World
def FC.at_ (g : FC) (p : Vl) : Rg := comb (opR g.k) g.N (g.a.at_ (g.N : Int) p) (g.b.at_ (g.N : Int) p)
structure FS0 (g : FC) (w : World) : Prop where
  hs : g.w0.heap.size + 3 ≤ g.O ∧ g.O + 1 ≤ w.heap.size
  bel : Below g.w0.heap.size g.w0 w
  ba : Blk w g.w0.heap.size 71 #[.int .i64 g.xa, .bool g.fa, .slice g.Aa g.na g.ca]
  bb : Blk w (g.w0.heap.size + 1) 71 #[.int .i64 g.xb, .bool g.fb, .slice g.Ab g.nb g.cb]
  br : Blk w (g.w0.heap.size + 2) 71 #[.int .i64 0, .bool false, .slice none 0 0]
  ra : RgF 0 g.O w g.xa g.fa g.Aa g.na g.ca g.a
  rb : RgF 0 g.O w g.xb g.fb g.Ab g.nb g.cb g.b
  pts : VlS w g.Ap g.P.length g.P
  pl : 0 < g.P.length → ∀ b o, g.Ap = some ⟨b, o, none⟩ → b < g.O
theorem FS0.but {g : FC} {w w' : World} {S : Nat → Prop} (h : FS0 g w) (hb : But S w w') (hS : ∀ q, S q → g.O ≤ q) : FS0 g w' := by
  have hs := h.hs
  have hsz := hb.size
  exact ⟨⟨hs.1, by omega⟩, hb.below h.bel (by omega) (fun q hq => by have := hS q hq; omega), h.ba.but hb (fun e => by have := hS _ e; omega), h.bb.but hb (fun e => by have := hS _ e; omega), h.br.but hb (fun e => by have := hS _ e; omega),
    h.ra.keep fun q _ hq => hb.block q (by omega) (fun e => by have := hS _ e; omega), h.rb.keep fun q _ hq => hb.block q (by omega) (fun e => by have := hS _ e; omega),
    h.pts.but hb (fun hn b o hA e => by have := h.pl hn b o hA; have := hS _ e; omega), h.pl⟩
theorem FS0.below {g : FC} {w w' : World} (h : FS0 g w) (hb : Below w.heap.size w w') : FS0 g w' := h.but (S := fun _ => False) (But.of_below hb) (fun _ h => h.elim)
theorem RgS.f0 {w : World} {x : Int} {f : Bool} {A : Option Addr} {n c O : Nat} {r : Rg} (h : RgS w x f A n c r) (hO : w.heap.size ≤ O) : RgF 0 O w x f A n c r := fun w' hw => h.keep fun a ha => by
  have hlt := cell_lt ha
  exact World.cell?_of_block (w := w) (hw a.block (Nat.zero_le _) (by omega))
/-- what is known of the state behind k points -/
structure FR (g : FC) (k : Nat) (Ak : Option Addr) (nk ck : Nat) (w : World) (A : Option Addr) (n c : Nat) (ms : List PM) (ks : List KM) : Prop where
  s0 : FS0 g w
  bo : Blk w g.O 71 #[.int .i64 g.xa, .bool false, .slice A n c]
  st : FSt (g.O + 1) w A n c ms Ak nk ck ks
  pr : ms.map PM.pr = partsTo g.at_ g.P k
  kn : ∀ m ∈ ks, m.r = comb (opR g.k) g.N (restR g.a m.i) (restR g.b m.k)
  le : n ≤ k
end Go.Proofs.YtnnmlhmffnfjfaaGreat

/-
  The reference's Combine of regions.
-/
namespace Go.Proofs.YtnnmlhmffnfjfaaGreat
open Go.RowKit
set_option maxRecDepth 100000
open Rg

end Go.Proofs.YtnnmlhmffnfjfaaGreat

/-
  The reference's form, Valid, Size and Equal on regions.
-/
namespace Go.Proofs.YtnnmlhmffnfjfaaGreat
open Go.RowKit
set_option maxRecDepth 100000
open Rg

end Go.Proofs.YtnnmlhmffnfjfaaGreat

/-
  The reference's box, Box and Empty on regions.
-/
namespace Go.Proofs.YtnnmlhmffnfjfaaGreat
open Go.RowKit
set_option maxRecDepth 100000
open Rg

end Go.Proofs.YtnnmlhmffnfjfaaGreat

/-
  The program's region functions operate and Union.
-/
namespace Go.Proofs.YtnnmlhmffnfjfaaGreat
open Go.RowKit
set_option maxRecDepth 100000
open Rg

/-- the result of an operation, and its error -/
noncomputable def opErr (op : Bool → Bool → Bool) (a b : Rg) : Int := if okB a && okB b && decide (a.w = b.w) then (if (comb op a.w.toNat a b).size ≤ 64 ∧ (comb op a.w.toNat a b).fits = true then 0 else 2) else 40
noncomputable def opRes (op : Bool → Bool → Bool) (a b : Rg) : Rg := if opErr op a b = 0 then comb op a.w.toNat a b else zeroR
theorem RgRes.zero {w w' : World} {er : Int} (hb : Below w.heap.size w w') : RgRes w zeroR er (.returned (.tuple #[.agg #[.int .i64 0, .bool false, .slice none 0 0], .int .i64 er])) w' := ⟨0, false, none, 0, 0, rfl, RgS.nil _ _, hb⟩
end Go.Proofs.YtnnmlhmffnfjfaaGreat

/-
  The program's region function Union; plain facts on boxes and results.
-/
namespace Go.Proofs.YtnnmlhmffnfjfaaGreat
open Go.RowKit
set_option maxRecDepth 100000
open Rg

abbrev opUr : Bool → Bool → Bool := ofT true true true
end Go.Proofs.YtnnmlhmffnfjfaaGreat

/-
  Plain: laws of the operations on canonical regions. No program here.
-/
namespace Go.Proofs.YtnnmlhmffnfjfaaGreat
open Go.RowKit
set_option maxRecDepth 100000
open Rg

abbrev opIr : Bool → Bool → Bool := ofT true false false
abbrev opMr : Bool → Bool → Bool := ofT false true false
/-- the region of all rows -/
def allR (n : Nat) : Rg := boxR (List.replicate n allL)
section
variable {n : Nat} {a b c : Rg} (fa : Form n a) (fb : Form n b) (fc : Form n c)
include fa
include fb
include fc
end
end Go.Proofs.YtnnmlhmffnfjfaaGreat

/-
  The reference's Valid, Size and Equal on regions.
-/
namespace Go.Proofs.YtnnmlhmffnfjfaaGreat
open Go.RowKit
set_option maxRecDepth 100000
open Rg

end Go.Proofs.YtnnmlhmffnfjfaaGreat

/-
  The program's Intersect, Minus, Equal and Covers on regions.
-/
namespace Go.Proofs.YtnnmlhmffnfjfaaGreat
open Go.RowKit
set_option maxRecDepth 100000
open Rg

end Go.Proofs.YtnnmlhmffnfjfaaGreat

/-
  The reference's limited, Do, Union, Intersect, Minus and Covers on regions.
-/
namespace Go.Proofs.YtnnmlhmffnfjfaaGreat
open Go.RowKit
set_option maxRecDepth 100000
open Rg

end Go.Proofs.YtnnmlhmffnfjfaaGreat

/-
  All rows and the complement: the reference's all, All, Complement, the program's All, Complement.
-/
namespace Go.Proofs.YtnnmlhmffnfjfaaGreat
open Go.RowKit
set_option maxRecDepth 100000
open Rg

/-- the seven cells of the interval of all values -/
def allC : Array Value := #[.int .i64 1, .int .i64 0, .string ⟨#[]⟩, .int .i64 0, .int .i64 0, .string ⟨#[]⟩, .bool true]
theorem all_iv {w : World} {g : Nat} (h : Blk w g 187 allC) : IvS w (some ⟨g, 0, none⟩) 1 allL := iv_one (T := 187) (x := ⟨⟨1, 0, ⟨#[]⟩⟩, zeroV, true⟩) h
theorem setc_len (p : SetP) : (setc p).length = 1 := rfl
def AllP (w : World) (p : SetP) : Prop := ∃ g, p = ((some ⟨g, 0, none⟩, 1, 1), allL) ∧ Blk w g 187 allC
theorem AllP.but {w w' : World} {S : Nat → Prop} {p : SetP} (h : AllP w p) (hb : But S w w') (hS : ∀ q, S q → ∀ cs, ¬ Blk w q 187 cs) : AllP w' p := by
  obtain ⟨g, e, h1⟩ := h
  exact ⟨g, e, h1.but hb (fun hs => hS g hs _ h1)⟩
theorem AllP.below {w w' : World} {p : SetP} (h : AllP w p) (hb : Below w.heap.size w w') : AllP w' p := h.but (S := fun _ => False) (But.of_below hb) (fun _ h => h.elim)
theorem own_notI {w : World} {B n k c : Nat} {A : Option Addr} {xs : List Value} (h : w.ownsRow B 139 1 (.slice A n c) k xs) {q : Nat} (hq : (Value.slice A n c).ownBlock = some q) (cs : Array Value) : ¬ Blk w q 187 cs := fun hb => by
  obtain ⟨_, _, cs', h1⟩ := own_lt h hq
  unfold Blk at hb
  rw [h1] at hb
  injection hb with hb
  injection hb with _ hb
  exact absurd hb (by decide)
/-- the complement, and the error -/
noncomputable def cpErr (a : Rg) : Int := if okB a then opErr opMr (allR a.w.toNat) a else 40
noncomputable def cpRes (a : Rg) : Rg := if okB a then opRes opMr (allR a.w.toNat) a else zeroR
end Go.Proofs.YtnnmlhmffnfjfaaGreat

/-
  Plain mathematics: the value behind a value. No walk here.
-/
namespace Go.Proofs.YtnnmlhmffnfjfaaGreat
open Go.RowKit
set_option maxRecDepth 100000

theorem bytes_list (t : ByteArray) : t.toList = t.data.toList := ByteArray.toList_eq t
theorem text_nil {t : ByteArray} (h : t.toList.isEmpty = true) : t = ⟨#[]⟩ := by
  rw [zero_text]
  simpa using h
theorem valid_eq {v : Vl} (h : validV v = true) : (v.k = 1 ∧ v.i = 0 ∧ v.t = ⟨#[]⟩) ∨ (v.k = 2 ∧ v.i = 0 ∧ v.t = ⟨#[]⟩) ∨ (v.k = 3 ∧ (v.i = 0 ∨ v.i = 1) ∧ v.t = ⟨#[]⟩) ∨ (v.k = 4 ∧ v.t = ⟨#[]⟩) ∨ (v.k = 5 ∧ v.i = 0 ∧ v.t.size ≤ 64) := by
  unfold validV at h
  by_cases h12 : v.k = 1 ∨ v.k = 2
  · rw [if_pos h12, Bool.and_eq_true] at h
    have h1 : v.i = 0 := by simpa using h.1
    have h2 := text_nil h.2
    rcases h12 with e | e
    · exact .inl ⟨e, h1, h2⟩
    · exact .inr (.inl ⟨e, h1, h2⟩)
  · rw [if_neg h12] at h
    by_cases h3 : v.k = 3
    · rw [if_pos h3, Bool.and_eq_true] at h
      exact .inr (.inr (.inl ⟨h3, by simpa using h.1, text_nil h.2⟩))
    · rw [if_neg h3] at h
      by_cases h4 : v.k = 4
      · rw [if_pos h4] at h
        exact .inr (.inr (.inr (.inl ⟨h4, text_nil h⟩)))
      · rw [if_neg h4] at h
        by_cases h5 : v.k = 5
        · rw [if_pos h5, Bool.and_eq_true] at h
          exact .inr (.inr (.inr (.inr ⟨h5, by simpa using h.1, by simpa using h.2⟩)))
        · rw [if_neg h5] at h
          cases h
theorem cmpV_kind {a b : Vl} (h : a.k < b.k) : cmpV a b = -1 := by
  unfold cmpV
  rw [if_pos h]
theorem cmpV_text {a b : Vl} (h : a.k = b.k) (h2 : a.i = b.i) : cmpV a b = cmpB a.t.toList b.t.toList := by
  unfold cmpV
  rw [if_neg (by omega), if_neg (by omega), if_neg (by omega), if_neg (by omega)]
theorem nil_le (q : List UInt8) : cmpB (⟨#[]⟩ : ByteArray).toList q ≤ 0 := by
  rw [bytes_list]
  cases q <;> simp [cmpB]
end Go.Proofs.YtnnmlhmffnfjfaaGreat

namespace Go.Proofs.YtnnmlhmffnfjfaaGreat
open Go.RowKit
set_option maxRecDepth 100000

def oneL (v : Vl) : List Iv × Int := if validV v then ([⟨v, (nextV v).1, !(nextV v).2⟩], 0) else ([], 10)
def kindL (k : Int) : List Iv × Int := if (firstV k).2 then ([⟨(firstV k).1, (firstV (wrap64 (k + 1))).1, !(firstV (wrap64 (k + 1))).2⟩], 0) else ([], 1)
end Go.Proofs.YtnnmlhmffnfjfaaGreat

/-
  Plain mathematics: canonical lists with few points. No walk here.
-/
namespace Go.Proofs.YtnnmlhmffnfjfaaGreat
open Go.RowKit
set_option maxRecDepth 100000

/-- canonical, with at most m points -/
structure Good (l : List Iv) (m : Nat) : Prop where
  ord : ordFrom none l = true
  pts : (ptsL l).length ≤ m
theorem Good.len {l : List Iv} {m : Nat} (h : Good l m) : 2 * l.length ≤ m + 1 := by
  have h1 := (ord_pts l none h.ord).1
  have h2 := ivs_len (ptsL l)
  rw [h1] at h2
  have := h.pts
  omega
theorem Good.mono {l : List Iv} {m n : Nat} (h : Good l m) (hn : m ≤ n) : Good l n := ⟨h.ord, by have := h.pts; omega⟩
theorem Good.nil (m : Nat) : Good [] m := ⟨rfl, by simp [ptsL]⟩
theorem Good.valid {l : List Iv} {m : Nat} (h : Good l m) (hm : m ≤ 127) : validL l = true := by
  have := h.len
  unfold validL
  rw [h.ord, Bool.and_true, decide_eq_true_eq]
  omega
theorem Good.merge {op : Bool → Bool → Bool} {a b : List Iv} {m n : Nat} (ha : Good a m) (hb : Good b n) (hop : op false false = false) : Good (mergeL op a b) (m + n) := by
  obtain ⟨h1, h2, _⟩ := merge_spec op hop ha.ord hb.ord
  exact ⟨h1, by have := ha.pts; have := hb.pts; omega⟩
theorem Good.comb {op : Bool → Bool → Bool} {a b : List Iv} {m n : Nat} (ha : Good a m) (hb : Good b n) (hop : op false false = false) : Good (combR op a b) (m + n) := by
  rw [comb_merge op hop ha.ord hb.ord]
  exact ha.merge hb hop
theorem good_all : Good allL 1 := ⟨by decide +kernel, by decide⟩
end Go.Proofs.YtnnmlhmffnfjfaaGreat

namespace Go.Proofs.YtnnmlhmffnfjfaaGreat
open Go.RowKit
set_option maxRecDepth 100000

theorem iv_ne {w : World} {g : Nat} {A : Option Addr} {n : Nat} {l : List Iv} (hc : CaseAt w g) (h : IvS w A n l) : 0 < n → ∀ b o, A = some ⟨b, o, none⟩ → ¬ b = g := by
  rintro hn b o hA rfl
  obtain ⟨A', n', c', k', zs, hB, _⟩ := hc.ex
  obtain ⟨b', o', x, hA', hx, hxc⟩ := h.at hn
  rw [hA] at hA'
  injection hA' with h1
  injection h1 with h1 h2
  subst h1 h2
  have c0 := hxc 0 _ rfl
  have c1 := hxc 1 _ rfl
  rw [hB.cell] at c0 c1
  simp only [Nat.zero_mul, Nat.add_zero] at c0 c1
  rcases o with _ | _ | o <;> simp at c0 c1
end Go.Proofs.YtnnmlhmffnfjfaaGreat

/-
  Case.Interval once more: with the ranges of its points and the row that it owns.
-/
namespace Go.Proofs.YtnnmlhmffnfjfaaGreat
open Go.RowKit
set_option maxRecDepth 100000

/-- canonical, few points, all in range -/
structure GoodR (l : List Iv) (m : Nat) : Prop where
  good : Good l m
  rg : ∀ v ∈ ptsL l, rgV v
theorem GoodR.len {l : List Iv} {m : Nat} (h : GoodR l m) : 2 * l.length ≤ m + 1 := h.good.len
theorem GoodR.mono {l : List Iv} {m n : Nat} (h : GoodR l m) (hn : m ≤ n) : GoodR l n := ⟨h.good.mono hn, h.rg⟩
theorem GoodR.nil (m : Nat) : GoodR [] m := ⟨Good.nil m, by simp [ptsL]⟩
theorem GoodR.comb {op : Bool → Bool → Bool} {a b : List Iv} {m n : Nat} (ha : GoodR a m) (hb : GoodR b n) (hop : op false false = false) : GoodR (combR op a b) (m + n) := by
  refine ⟨ha.good.comb hb.good hop, fun v hv => ?_⟩
  obtain ⟨hP, hm⟩ := ptsSet_spec a b
  have e : combR op a b = ivsOf (chg (fun p => op (inL a p) (inL b p)) false (ptsSet a b)) := by
    rw [combR_eq, (cmb_eq _ _ hP).1 [] (fun y h => by cases h)]
    rfl
  rw [e, pts_ivs] at hv
  rcases (hm v).1 ((chg_sub _ _ _).1 v hv) with h | h
  · exact ha.rg v h
  · exact hb.rg v h
theorem GoodR.wf {l : List Iv} {m : Nat} (h : GoodR l m) : ∀ x ∈ l, rgV x.f ∧ rgV x.t := fun x hx => by
  have h1 : x.f ∈ ptsL l := mem_ptsL.2 ⟨x, hx, .inl rfl⟩
  refine ⟨h.rg _ h1, ?_⟩
  cases ho : x.o
  · exact h.rg _ (mem_ptsL.2 ⟨x, hx, .inr ⟨ho, rfl⟩⟩)
  · have : x.t = zeroV := by
      have hord := h.good.ord
      clear h h1
      generalize hp : (none : Option Iv) = p at hord
      clear hp
      induction l generalizing p with
      | nil => cases hx
      | cons y l ih =>
        rw [ordFrom_cons, Bool.and_eq_true] at hord
        rcases List.mem_cons.1 hx with rfl | hx
        · have h2 := hord.1
          unfold okI at h2
          simp only [Bool.and_eq_true, ho, if_true] at h2
          have h3 := h2.2
          simp only [decide_eq_true_eq] at h3
          exact h3.2
        · exact ih hx _ hord.2
    rw [this]
    exact ⟨by decide, by decide⟩
/-- the list is a row of intervals of the call's own -/
def OwnI7 (w : World) (A : Option Addr) (l : List Iv) (c : Nat) : Prop := ∃ B, w.ownsRow B 187 7 (.slice A l.length c) l.length (l.flatMap Iv.cs)
theorem OwnI7.nil (w : World) : OwnI7 w none [] 0 := ⟨0, by simp, .inl ⟨rfl, rfl⟩⟩
theorem OwnI7.but {w w' : World} {A : Option Addr} {l : List Iv} {c : Nat} {S : Nat → Prop} (h : OwnI7 w A l c) (hb : But S w w') (hs : ∀ q, (Value.slice A l.length c).ownBlock = some q → ¬ S q) : OwnI7 w' A l c := by
  obtain ⟨B, h⟩ := h
  exact ⟨B, own_but h hb hs⟩
theorem OwnI7.ne {w : World} {A : Option Addr} {l : List Iv} {c : Nat} (h : OwnI7 w A l c) {q : Nat} (hq : (Value.slice A l.length c).ownBlock = some q) {T : TypeId} {cs : Array Value} (hb : Blk w q T cs) : T = 187 := by
  obtain ⟨B, h⟩ := h
  obtain ⟨_, _, cs', h1⟩ := own_lt h hq
  unfold Blk at hb
  rw [h1] at hb
  injection hb with hb
  injection hb with _ hb
  exact hb.symm
theorem OwnI7.case {w w' : World} {A : Option Addr} {l : List Iv} {c g : Nat} (h : OwnI7 w A l c) (hc : CaseAt w g) (hb : But (· = g) w w') : OwnI7 w' A l c := h.but hb fun q hq e => by
  obtain ⟨A', n', c', k', zs, hB, _⟩ := hc.ex
  subst e
  exact absurd (h.ne hq hB) (by decide)
theorem OwnI7.s {w : World} {A : Option Addr} {l : List Iv} {c : Nat} (h : OwnI7 w A l c) : IvS w A l.length l := by
  obtain ⟨B, h⟩ := h
  exact Sl.of_own Iv.cs_len rfl h
theorem OwnI7.ok {w : World} {A : Option Addr} {l : List Iv} {c : Nat} (h : OwnI7 w A l c) : okS A l.length c := by
  obtain ⟨B, h⟩ := h
  exact own_okS h
end Go.Proofs.YtnnmlhmffnfjfaaGreat

/-
  Case.Region: a canonical region of the width that is asked for.
-/
namespace Go.Proofs.YtnnmlhmffnfjfaaGreat
open Go.RowKit
set_option maxRecDepth 100000
open Rg

theorem RgP.case {w w' : World} {g : Nat} (hc : CaseAt w g) (hb : But (· = g) w w') : ∀ {r : Rg} {b o : Nat}, RgP w r b o → RgP w' r b o
  | .nil _ _, _, _, _ => trivial
  | .cons vs rest tail, b, o, h => by
    obtain ⟨⟨A1, n1, c1, h1, h2, h3⟩, h4, h5, ⟨A', n', c', h6, h7, h8, h9⟩, h10⟩ := h
    have hne : ¬ b = g := by
      intro e
      subst e
      obtain ⟨A2, n2, c2, k2, zs, hB, _⟩ := hc.ex
      rw [hB.cell] at h1 h5
      rcases o with _ | _ | o <;> simp at h1 h5
    have hk : ∀ j v, w.cell? ⟨b, j, none⟩ = some v → w'.cell? ⟨b, j, none⟩ = some v := fun j v hv => by
      have hlt := cell_lt (w := w) (a := ⟨b, j, none⟩) (by rw [hv]; rfl)
      rw [World.cell?_of_block (w := w) (hb.block b hlt hne)]
      exact hv
    refine ⟨⟨A1, n1, c1, hk _ _ h1, h2, h3.but hb (iv_ne hc h3)⟩, hk _ _ h4, hk _ _ h5, ⟨A', n', c', hk _ _ h6, h7, h8, fun hn => ?_⟩, RgP.case hc hb h10⟩
    obtain ⟨b', o', e, h⟩ := h9 hn
    exact ⟨b', o', e, RgP.case hc hb h⟩
theorem RgS.case {w w' : World} {g : Nat} (hc : CaseAt w g) (hb : But (· = g) w w') {x : Int} {f : Bool} {A : Option Addr} {n c : Nat} {r : Rg} (h : RgS w x f A n c r) : RgS w' x f A n c r :=
  ⟨h.hw, h.hf, h.ok, h.len, fun hn => by
    obtain ⟨b, o, e, hp⟩ := h.ex hn
    exact ⟨b, o, e, hp.case hc hb⟩⟩
theorem But.then {S T : Nat → Prop} {a b c : World} (h : But S a b) (k : But T b c) (hT : ∀ q, T q → a.heap.size ≤ q) : But S a c :=
  ⟨k.os.trans h.os, k.tape.trans h.tape, k.output.trans h.output, Nat.le_trans h.size k.size, fun q hq hs => (k.block q (Nat.lt_of_lt_of_le hq h.size) (fun e => by have := hT q e; omega)).trans (h.block q hq hs)⟩
theorem CaseAt.ne {w : World} {g q : Nat} {T : TypeId} {cs : Array Value} (h : CaseAt w g) (hb : Blk w q T cs) (hT : T ≠ 87) : q ≠ g := fun e => by
  obtain ⟨A', n', c', k', zs, hB, _⟩ := h.ex
  subst e
  unfold Blk at hB hb
  rw [hB] at hb
  injection hb with hb
  injection hb with _ hb
  exact hT hb.symm
theorem CaseAt.off {w w' : World} {g q : Nat} {T : TypeId} {x : Int} {f : Bool} {v : Value} (h : CaseAt w g) (hB : Blk w q T #[.int .i64 x, .bool f, v]) (hv : ∀ z, v ≠ .int .u8 z) (hb : But (· = q) w w') (hne : g ≠ q) : CaseAt w' g := h.but hb hne fun b hb i z => by
  subst hb
  rw [hB.cell]
  rcases i with _ | _ | _ | i <;> simp
  exact hv z
/-- a set of the box under way -/
def SetR (w : World) (p : SetP) : Prop := GoodR p.2 7 ∧ p.1.2.1 = p.2.length ∧ OwnI7 w p.1.1 p.2 p.1.2.2
theorem SetR.but {w w' : World} {p : SetP} {S : Nat → Prop} (h : SetR w p) (hb : But S w w') (hs : ∀ q, (Value.slice p.1.1 p.2.length p.1.2.2).ownBlock = some q → ¬ S q) : SetR w' p := ⟨h.1, h.2.1, h.2.2.but hb hs⟩
/-- what Case.Region returns -/
def SomeR (w : World) (g wd : Nat) (e : Ending) (w' : World) : Prop :=
  ∃ (x : Int) (f : Bool) (A : Option Addr) (n c : Nat) (r : Rg), e = .returned (.agg #[.int .i64 x, .bool f, .slice A n c]) ∧ RgS w' x f A n c r ∧ OkR r ∧ r.w = (wd : Int) ∧ WfR r ∧ CaseAt w' g ∧ But (· = g) w w'
/-- the state between two boxes -/
structure CRg (w : World) (g wd O : Nat) (x : Int) (f : Bool) (A : Option Addr) (n c : Nat) (r : Rg) (wr : World) : Prop where
  bo : Blk wr O 71 #[.int .i64 x, .bool f, .slice A n c]
  br : Blk wr w.heap.size 71 #[.int .i64 0, .bool false, .slice none 0 0]
  rs : RgS wr x f A n c r
  ok : OkR r
  rw_ : r.w = (wd : Int)
  wf : WfR r
  cs : CaseAt wr g
  bu : But (· = g) w wr
  hO : w.heap.size < O
theorem CRg.case {w : World} {g wd O : Nat} {x : Int} {f : Bool} {A : Option Addr} {n c : Nat} {r : Rg} {wr wr' : World} (h : CRg w g wd O x f A n c r wr) (hb : But (· = g) wr wr') (hc : CaseAt wr' g) : CRg w g wd O x f A n c r wr' :=
  ⟨h.bo.but hb (h.cs.ne h.bo (by decide)), h.br.but hb (h.cs.ne h.br (by decide)), h.rs.case h.cs hb, h.ok, h.rw_, h.wf, hc, h.bu.trans hb, h.hO⟩
theorem CRg.below {w : World} {g wd O : Nat} {x : Int} {f : Bool} {A : Option Addr} {n c : Nat} {r : Rg} {wr wr' : World} (h : CRg w g wd O x f A n c r wr) (hb : Below wr.heap.size wr wr') : CRg w g wd O x f A n c r wr' := h.case (But.of_below hb) (h.cs.below hb)
/-- another region in the box -/
theorem CRg.put {w : World} {g wd O : Nat} {x : Int} {f : Bool} {A : Option Addr} {n c : Nat} {r : Rg} {wr : World} (h : CRg w g wd O x f A n c r wr) {x' : Int} {f' : Bool} {A' : Option Addr} {n' c' : Nat} {r' : Rg} (hr : RgS wr x' f' A' n' c' r') (ho : OkR r') (hw : r'.w = (wd : Int)) (hf : WfR r') : CRg w g wd O x' f' A' n' c' r' (put3R wr O (.int .i64 x') (.bool f') (.slice A' n' c')) := by
  have hb := put3R_but wr O (.int .i64 x') (.bool f') (.slice A' n' c')
  have hO := h.hO
  exact ⟨put3R_blk h.bo, h.br.but hb (by omega), RgS.off h.bo hb hr, ho, hw, hf, h.cs.off h.bo (fun z => by simp) hb (Ne.symm (h.cs.ne h.bo (by decide))), h.bu.then hb (fun q hq => by omega), hO⟩
/-- the end: the region into the result's cell -/
theorem CRg.fin {w : World} {g wd O : Nat} {x : Int} {f : Bool} {A : Option Addr} {n c : Nat} {r : Rg} {wr : World} (h : CRg w g wd O x f A n c r wr) : SomeR w g wd (.returned (.agg #[.int .i64 x, .bool f, .slice A n c])) (put3R wr w.heap.size (.int .i64 x) (.bool f) (.slice A n c)) := by
  have hb := put3R_but wr w.heap.size (.int .i64 x) (.bool f) (.slice A n c)
  exact ⟨x, f, A, n, c, r, rfl, RgS.off h.br hb h.rs, h.ok, h.rw_, h.wf, h.cs.off h.br (fun z => by simp) hb (Ne.symm (h.cs.ne h.br (by decide))), h.bu.then hb (fun q hq => by omega)⟩
end Go.Proofs.YtnnmlhmffnfjfaaGreat

/-
  The law's Case: distinct columns below a width.
-/
namespace Go.Proofs.YtnnmlhmffnfjfaaGreat
open Go.RowKit
set_option maxRecDepth 100000

/-- columns that do not lie in the block g -/
structure ClN (g : Nat) (w : World) (A : Option Addr) (n : Nat) (cs : List Int) : Prop where
  sl : ClS w A n cs
  ne : 0 < n → ∀ b o, A = some ⟨b, o, none⟩ → b ≠ g
theorem ClN.keep {g : Nat} {w w' : World} {A : Option Addr} {n : Nat} {cs : List Int} (h : ClN g w A n cs) (hk : Keeps w w') : ClN g w' A n cs := ⟨h.sl.keep hk, h.ne⟩
theorem ClN.case {g : Nat} {w w' : World} {A : Option Addr} {n : Nat} {cs : List Int} (h : ClN g w A n cs) (hb : But (· = g) w w') : ClN g w' A n cs :=
  ⟨h.sl.but hb (fun hn b o hA => h.ne hn b o hA), h.ne⟩
end Go.Proofs.YtnnmlhmffnfjfaaGreat
