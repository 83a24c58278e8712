/-
  Texts: PjLaw, CInt2, BdP, BdLaw, BdEx.
-/
import Derived.Test.YtnnmlhmffnfjfaaGreatB17
set_option linter.unusedVariables false
set_option maxRecDepth 100000
namespace Go.Proofs.YtnnmlhmffnfjfaaGreat
open Go.RowKit
open Rg
theorem ofU_eq (x y : Bool) : ofT true true true x y = (x || y) := by cases x <;> cases y <;> rfl
theorem ofI_eq (x y : Bool) : ofT true false false x y = (x && y) := by cases x <;> cases y <;> rfl
def inB (b : List (List Iv)) (u : List Vl) : Bool := (b.zip u).all fun p => inL p.1 p.2
theorem inB_at {b : List (List Iv)} {u : List Vl} (h : u.length = b.length) : inB b u = true ↔ ∀ i, i < b.length → inL (b.getD i []) (u.getD i zeroV) = true := by
 induction b generalizing u with
 | nil => simp [inB]
 | cons s b ih =>
   cases u with
   | nil => cases h
   | cons v u =>
     have h1 : u.length = b.length := by simpa using h
     have e : inB (s :: b) (v :: u) = (inL s v && inB b u) := by simp [inB]
     rw [e, Bool.and_eq_true, ih h1]
     constructor
     · rintro ⟨h2, h3⟩ i hi
       cases i with
       | zero => simpa using h2
       | succ i => simpa using h3 i (by simpa using hi)
     · intro h2
       refine ⟨by simpa using h2 0 (by simp), fun i hi => ?_⟩
       simpa using h2 (i + 1) (by simpa using hi)
theorem good_at {n : Nat} {u : List Vl} (h : goodRow n u) {i : Nat} (hi : i < n) : validV (u.getD i zeroV) = true := by
 have h1 : i < u.length := by rw [h.1]; exact hi
 rw [List.getD_eq_getElem?_getD, List.getElem?_eq_getElem h1]
 exact h.2 _ (List.getElem_mem h1)
theorem boxR_den {b : List (List Iv)} {u : List Vl} (h : u.length = b.length) : (boxR b).den u = inB b u := den_box b u h
theorem boxR_ok {n : Nat} {b : List (List Iv)} (hn : n ≤ 12) (h : b.length = n) (hv : ∀ s ∈ b, validL s = true) : OkR (boxR b) ∧ (boxR b).w = (n : Int) := by
 obtain ⟨h1, h2, h3⟩ := box_ok b hv
 have hw := box_w b
 rw [h] at h1 h3 hw
 exact ⟨⟨by omega, by omega, by omega, by rw [hw, Int.toNat_natCast]; exact h1, h2⟩, hw⟩
theorem nil_ok {n : Nat} (hn : n ≤ 12) : OkR (.nil (n : Int) false) ∧ (Rg.nil (n : Int) false).w = (n : Int) := by
 refine ⟨⟨by simp [Rg.w], by simp [Rg.w]; omega, by simp [Rg.size], ?_, by simp [fits]⟩, rfl⟩
 simp only [Rg.w, Int.toNat_natCast]
 exact form_nil n
theorem nil_den (n : Int) (u : List Vl) : (Rg.nil n false).den u = false := by cases u <;> rfl
section
variable {n : Nat} {r : Rg} (hr : OkR r) (hw : r.w = (n : Int)) {cs : List Int}
include hr hw
end
theorem cov_iff {n : Nat} {a b : Rg} (ha : OkR a) (hwa : a.w = (n : Int)) (hb : OkR b) (hwb : b.w = (n : Int)) : covRes a b = true ↔ ∀ u, goodRow n u → b.den u = true → a.den u = true := by
 rw [(cov_spec ha hwa hb hwb).2, minus_nix (ok_formN ha hwa) (ok_formN hb hwb)]
section
variable {n : Nat} {a b : Rg} (ha : OkR a) (hwa : a.w = (n : Int)) {cs : List Int} (h : dstB (n : Int) cs = true)
include ha hwa h
end
section
variable {n : Nat} {a : Rg} (ha : OkR a) (hwa : a.w = (n : Int))
include ha hwa
end
end Go.Proofs.YtnnmlhmffnfjfaaGreat
namespace Go.Proofs.YtnnmlhmffnfjfaaGreat
open Go.RowKit
structure GoodR (l : List Iv) (m : Nat) : Prop where
 good : Good l m
 rg : ∀ v ∈ ptsL l, rgV v
theorem rg_of {v : Vl} (h : rngV v) : rgV v := ⟨h.1, by have := h.2; omega⟩
theorem GoodR.len {l : List Iv} {m : Nat} (h : GoodR l m) : 2 * l.length ≤ m + 1 := h.good.len
theorem GoodR.mono {l : List Iv} {m n : Nat} (h : GoodR l m) (hn : m ≤ n) : GoodR l n := ⟨h.good.mono hn, h.rg⟩
theorem GoodR.nil (m : Nat) : GoodR [] m := ⟨Good.nil m, by simp [ptsL]⟩
theorem GoodR.comb {op : Bool → Bool → Bool} {a b : List Iv} {m n : Nat} (ha : GoodR a m) (hb : GoodR b n) (hop : op false false = false) : GoodR (combR op a b) (m + n) := by
 refine ⟨ha.good.comb hb.good hop, fun v hv => ?_⟩
 obtain ⟨hP, hm⟩ := ptsSet_spec a b
 have e : combR op a b = ivsOf (chg (fun p => op (inL a p) (inL b p)) false (ptsSet a b)) := by
  rw [combR_eq, (cmb_eq _ _ hP).1 [] (fun y h => by cases h)]
  rfl
 rw [e, pts_ivs] at hv
 rcases (hm v).1 ((chg_sub _ _ _).1 v hv) with h | h
 · exact ha.rg v h
 · exact hb.rg v h
theorem goodR_from {v : Vl} (hv : validV v = true) (hr : rngV v) : GoodR (fromL v).1 2 := by
 refine ⟨good_from hv, fun u hu => ?_⟩
 unfold fromL at hu
 rw [if_pos hv] at hu
 simp [ptsL] at hu
 rw [hu]
 exact rg_of hr
theorem goodR_one {v : Vl} (hv : validV v = true) (hr : rngV v) : GoodR (oneL v).1 2 := by
 refine ⟨good_one hv hr, fun u hu => ?_⟩
 obtain ⟨h1, h2⟩ := nextV_good hv hr
 unfold oneL at hu
 rw [if_pos hv] at hu
 cases hb : (nextV v).2
 · rw [hb] at hu
   simp [ptsL] at hu
   rw [hu]
   exact rg_of hr
 · rw [hb] at hu
   simp [ptsL] at hu
   rcases hu with rfl | rfl
   · exact rg_of hr
   · exact rg_of (h1 hb).2.1
theorem GoodR.wf {l : List Iv} {m : Nat} (h : GoodR l m) : ∀ x ∈ l, rgV x.f ∧ rgV x.t := fun x hx => by
 have h1 : x.f ∈ ptsL l := mem_ptsL.2 ⟨x, hx, .inl rfl⟩
 refine ⟨h.rg _ h1, ?_⟩
 cases ho : x.o
 · exact h.rg _ (mem_ptsL.2 ⟨x, hx, .inr ⟨ho, rfl⟩⟩)
 · have : x.t = zeroV := by
    have hord := h.good.ord
    clear h h1
    generalize hp : (none : Option Iv) = p at hord
    clear hp
    induction l generalizing p with
    | nil => cases hx
    | cons y l ih =>
      rw [ordFrom_cons, Bool.and_eq_true] at hord
      rcases List.mem_cons.1 hx with rfl | hx
      · have h2 := hord.1
        unfold okI at h2
        simp only [Bool.and_eq_true, ho, if_true] at h2
        have h3 := h2.2
        simp only [decide_eq_true_eq] at h3
        exact h3.2
      · exact ih hx _ hord.2
   rw [this]
   exact ⟨by decide, by decide⟩
def OwnI7 (w : World) (A : Option Addr) (l : List Iv) (c : Nat) : Prop := ∃ B, w.ownsRow B 187 7 (.slice A l.length c) l.length (l.flatMap Iv.cs)
theorem OwnI7.nil (w : World) : OwnI7 w none [] 0 := ⟨0, by simp, .inl ⟨rfl, rfl⟩⟩
theorem OwnI7.but {w w' : World} {A : Option Addr} {l : List Iv} {c : Nat} {S : Nat → Prop} (h : OwnI7 w A l c) (hb : But S w w') (hs : ∀ q, (Value.slice A l.length c).ownBlock = some q → ¬ S q) : OwnI7 w' A l c := by
 obtain ⟨B, h⟩ := h
 exact ⟨B, own_but h hb hs⟩
theorem OwnI7.ne {w : World} {A : Option Addr} {l : List Iv} {c : Nat} (h : OwnI7 w A l c) {q : Nat} (hq : (Value.slice A l.length c).ownBlock = some q) {T : TypeId} {cs : Array Value} (hb : Blk w q T cs) : T = 187 := by
 obtain ⟨B, h⟩ := h
 obtain ⟨_, _, cs', h1⟩ := own_lt h hq
 unfold Blk at hb
 rw [h1] at hb
 injection hb with hb
 injection hb with _ hb
 exact hb.symm
theorem OwnI7.case {w w' : World} {A : Option Addr} {l : List Iv} {c g : Nat} (h : OwnI7 w A l c) (hc : CaseAt w g) (hb : But (· = g) w w') : OwnI7 w' A l c := h.but hb fun q hq e => by
 obtain ⟨A', n', c', k', zs, hB, _⟩ := hc.ex
 subst e
 exact absurd (h.ne hq hB) (by decide)
theorem OwnI7.s {w : World} {A : Option Addr} {l : List Iv} {c : Nat} (h : OwnI7 w A l c) : IvS w A l.length l := by
 obtain ⟨B, h⟩ := h
 exact Sl.of_own Iv.cs_len rfl h
theorem OwnI7.ok {w : World} {A : Option Addr} {l : List Iv} {c : Nat} (h : OwnI7 w A l c) : okS A l.length c := by
 obtain ⟨B, h⟩ := h
 exact own_okS h
end Go.Proofs.YtnnmlhmffnfjfaaGreat
namespace Go.Proofs.YtnnmlhmffnfjfaaGreat
open Go.RowKit
open Rg Pd
def bx2L (n : Nat) (i j : Int) (s : List Iv) : List (List Iv) := (List.range n).map fun (q : Nat) => if (q : Int) = i ∨ (q : Int) = j then s else allL
def bx2 (n : Nat) (i j : Int) (s : List Iv) : Rg := boxR (bx2L n i j s)
def mirC (cm : Int) : Int := if cm = 3 then 5 else if cm = 4 then 6 else if cm = 5 then 3 else if cm = 6 then 4 else cm
def cmpPair (cols : List Int) (h : Nd) : Rg × Rg :=
 if h.l.k = 3 ∧ h.r.k = 3 then (if cmpOk h.cm h.l.v h.r.v = true then (allR cols.length, allR cols.length) else (.nil (cols.length : Int) false, .nil (cols.length : Int) false))
 else if h.l.k = 1 ∧ h.r.k = 1 then
  (if h.l.ix ≠ h.r.ix then (.nil (cols.length : Int) false, bx2 cols.length h.l.ix h.r.ix (kindL (cols.getD h.l.ix.toNat 0)).1)
   else if h.cm = 1 ∨ h.cm = 4 ∨ h.cm = 6 then (bx2 cols.length h.l.ix h.r.ix (kindL (cols.getD h.l.ix.toNat 0)).1, bx2 cols.length h.l.ix h.r.ix (kindL (cols.getD h.l.ix.toNat 0)).1)
   else (.nil (cols.length : Int) false, .nil (cols.length : Int) false))
 else if h.l.k = 1 then (bx2 cols.length h.l.ix h.l.ix (cmpSet h.cm h.r.v), bx2 cols.length h.l.ix h.l.ix (cmpSet h.cm h.r.v))
 else (bx2 cols.length h.r.ix h.r.ix (cmpSet (mirC h.cm) h.l.v), bx2 cols.length h.r.ix h.r.ix (cmpSet (mirC h.cm) h.l.v))
noncomputable def stepX (op : Bool → Bool → Bool) (a x : Rg × Rg) : Option (Rg × Rg) := if opErr op a.1 x.1 = 0 ∧ opErr op a.2 x.2 = 0 then some (opRes op a.1 x.1, opRes op a.2 x.2) else none
noncomputable def notX (a : Rg × Rg) : Option (Rg × Rg) := if cpErr a.2 = 0 ∧ cpErr a.1 = 0 then some (cpRes a.2, cpRes a.1) else none
structure NX where
 an : Rg × Rg → Option (Rg × Rg)
 or : Rg × Rg → Option (Rg × Rg)
 fst : Option (Rg × Rg)
noncomputable def finX (cols : List Int) (h : Nd) (x : NX) : Option (Rg × Rg) :=
 if h.op = 1 then some (allR cols.length, allR cols.length) else if h.op = 2 then some (.nil (cols.length : Int) false, .nil (cols.length : Int) false)
 else if h.op = 4 then x.an (allR cols.length, allR cols.length) else if h.op = 5 then x.or (.nil (cols.length : Int) false, .nil (cols.length : Int) false)
 else if h.op = 6 then x.fst.bind notX else some (cmpPair cols h)
noncomputable def nx (cols : List Int) : Pd → NX
 | .nil _ => ⟨some, some, none⟩
 | .cons a t => ⟨fun acc => (finX cols a.h (nx cols a)).bind fun r => (stepX opIr acc r).bind (nx cols t).an, fun acc => (finX cols a.h (nx cols a)).bind fun r => (stepX opUr acc r).bind (nx cols t).or, finX cols a.h (nx cols a)⟩
noncomputable def nodeX (cols : List Int) (p : Pd) : Option (Rg × Rg) := finX cols p.h (nx cols p)
noncomputable def bdE (cols : List Int) (p : Pd) : Int := if 12 < cols.length then 2 else if checkE cols [] p = 0 then (match nodeX cols p with | none => 2 | some _ => 0) else checkE cols [] p
noncomputable def bdR (cols : List Int) (p : Pd) : Rg × Rg := if bdE cols p = 0 then (nodeX cols p).getD (zeroR, zeroR) else (zeroR, zeroR)
def crH (h : Nd) : Bool := decide (h.op = 3 ∧ h.l.k = 1 ∧ h.r.k = 1 ∧ h.l.ix ≠ h.r.ix)
def crA : Pd → Bool
 | .nil _ => false
 | .cons a t => (crH a.h || crA a) || crA t
def crB (p : Pd) : Bool := crH p.h || crA p
def okNd (h : Nd) : Prop := rngV h.l.v ∧ rngV h.r.v
def wfPA : Pd → Prop
 | .nil _ => True
 | .cons a t => okNd a.h ∧ wfPA a ∧ wfPA t
def wfP (p : Pd) : Prop := okNd p.h ∧ wfPA p
def typedR (cols : List Int) (u : List Vl) : Prop := u.length = cols.length ∧ ∀ (i : Nat) (v : Vl) (c : Int), u[i]? = some v → cols[i]? = some c → validV v = true ∧ rngV v ∧ (v.k = c ∨ v.k = 1 ∨ v.k = 2)
theorem typed_good {cols : List Int} {u : List Vl} (h : typedR cols u) : goodRow cols.length u := by
 refine ⟨h.1, fun v hv => ?_⟩
 obtain ⟨i, hi⟩ := List.getElem?_of_mem hv
 have hl : i < cols.length := by rw [← h.1]; exact (List.getElem?_eq_some_iff.1 hi).1
 exact (h.2 i v _ hi (List.getElem?_eq_getElem hl)).1
theorem typed_at {cols : List Int} {u : List Vl} (h : typedR cols u) {i : Nat} (hi : i < cols.length) : validV (u.getD i zeroV) = true ∧ rngV (u.getD i zeroV) ∧ ((u.getD i zeroV).k = cols.getD i 0 ∨ (u.getD i zeroV).k = 1 ∨ (u.getD i zeroV).k = 2) := by
 have hu : i < u.length := by rw [h.1]; exact hi
 rw [List.getD_eq_getElem?_getD, List.getD_eq_getElem?_getD, List.getElem?_eq_getElem hu, List.getElem?_eq_getElem hi]
 exact h.2 i _ _ (List.getElem?_eq_getElem hu) (List.getElem?_eq_getElem hi)
structure Pair (n : Nat) (r : Rg × Rg) : Prop where
 o1 : OkR r.1
 w1 : r.1.w = (n : Int)
 o2 : OkR r.2
 w2 : r.2.w = (n : Int)
 f1 : WfR r.1
 f2 : WfR r.2
theorem bx2_len (n : Nat) (i j : Int) (s : List Iv) : (bx2L n i j s).length = n := by simp [bx2L]
theorem bx2_valid {n : Nat} {i j : Int} {s : List Iv} (hs : validL s = true) : ∀ t ∈ bx2L n i j s, validL t = true := fun t ht => by
 obtain ⟨q, _, rfl⟩ := List.mem_map.1 ht
 split
 · exact hs
 · exact validL_all
theorem bx2_ok {n : Nat} (hn : n ≤ 12) {i j : Int} {s : List Iv} (hs : validL s = true) : OkR (bx2 n i j s) ∧ (bx2 n i j s).w = (n : Int) := boxR_ok hn (bx2_len _ _ _ _) (bx2_valid hs)
theorem bx2_wf {n : Nat} {i j : Int} {s : List Iv} (hs : ∀ x ∈ s, rgV x.f ∧ rgV x.t) : WfR (bx2 n i j s) := box_wf _ fun t ht => by
 obtain ⟨q, _, rfl⟩ := List.mem_map.1 ht
 split
 · exact hs
 · exact alls_wf 1 allL (by simp)
theorem bx2_at {n : Nat} {i j : Int} {s : List Iv} {q : Nat} (hq : q < n) : (bx2L n i j s).getD q [] = if (q : Int) = i ∨ (q : Int) = j then s else allL := by
 simp [bx2L, List.getD_eq_getElem?_getD, List.getElem?_range hq]
theorem bx2_den {n : Nat} {i j : Nat} (hi : i < n) (hj : j < n) (s : List Iv) {u : List Vl} (hu : goodRow n u) : (bx2 n i j s).den u = (inL s (u.getD i zeroV) && inL s (u.getD j zeroV)) := by
 rw [bx2, boxR_den (by rw [hu.1, bx2_len]), Bool.eq_iff_iff, inB_at (by rw [hu.1, bx2_len]), bx2_len, Bool.and_eq_true]
 constructor
 · intro h
   have h1 := h i hi
   have h2 := h j hj
   rw [bx2_at hi, if_pos (.inl rfl)] at h1
   rw [bx2_at hj, if_pos (.inr rfl)] at h2
   exact ⟨h1, h2⟩
 · rintro ⟨h1, h2⟩ q hq
   rw [bx2_at hq]
   split
   · rename_i h
     rcases h with h | h
     · obtain rfl : q = i := by omega
       exact h1
     · obtain rfl : q = j := by omega
       exact h2
   · exact in_all (good_at hu hq)
structure Big (cols : List Int) (p : Pd) (r : Rg × Rg) : Prop where
 pr : Pair cols.length r
 sub : ∀ u, goodRow cols.length u → r.1.den u = true → r.2.den u = true
 lo : ∀ u, typedR cols u → r.1.den u = true → holdsB u [] p = true
 hi : ∀ u, typedR cols u → holdsB u [] p = true → r.2.den u = true
 eq : crB p = false → r.1 = r.2
structure BigA (cols : List Int) (H : List Vl → Bool) (c : Bool) (r : Rg × Rg) : Prop where
 pr : Pair cols.length r
 sub : ∀ u, goodRow cols.length u → r.1.den u = true → r.2.den u = true
 lo : ∀ u, typedR cols u → r.1.den u = true → H u = true
 hi : ∀ u, typedR cols u → H u = true → r.2.den u = true
 eq : c = false → r.1 = r.2
theorem step_pair {n : Nat} {op : Bool → Bool → Bool} {a x r : Rg × Rg} (ha : Pair n a) (hx : Pair n x) (h : stepX op a x = some r) : Pair n r ∧ r.1 = comb op n a.1 x.1 ∧ r.2 = comb op n a.2 x.2 := by
 unfold stepX at h
 split at h
 · rename_i he
   injection h with h
   subst h
   obtain ⟨u1, u2, u3⟩ := (op_spec ha.o1 ha.w1 hx.o1 hx.w1 op).2 he.1
   obtain ⟨v1, v2, v3⟩ := (op_spec ha.o2 ha.w2 hx.o2 hx.w2 op).2 he.2
   exact ⟨⟨u2, u3, v2, v3, op_wf ha.f1 hx.f1, op_wf ha.f2 hx.f2⟩, u1, v1⟩
 · cases h
theorem not_pair {n : Nat} {a r : Rg × Rg} (ha : Pair n a) (h : notX a = some r) : Pair n r ∧ r.1 = cplR n a.2 ∧ r.2 = cplR n a.1 := by
 unfold notX at h
 split at h
 · rename_i he
   injection h with h
   subst h
   obtain ⟨u1, u2, u3⟩ := (cp_spec ha.o2 ha.w2).2 he.1
   obtain ⟨v1, v2, v3⟩ := (cp_spec ha.o1 ha.w1).2 he.2
   exact ⟨⟨u2, u3, v2, v3, cp_wf ha.f2, cp_wf ha.f1⟩, u1, v1⟩
 · cases h
theorem all_pair {n : Nat} (hn : n ≤ 12) : Pair n (allR n, allR n) := ⟨all_ok hn, all_w n, all_ok hn, all_w n, all_wf n, all_wf n⟩
theorem em_pair {n : Nat} (hn : n ≤ 12) : Pair n (.nil (n : Int) false, .nil (n : Int) false) := ⟨(nil_ok hn).1, rfl, (nil_ok hn).1, rfl, trivial, trivial⟩
section
variable {cols : List Int}
theorem big_and {H : List Vl → Bool} {c : Bool} {p : Pd} {a x r : Rg × Rg} (ha : BigA cols H c a) (hx : Big cols p x) (h : stepX opIr a x = some r) : BigA cols (fun u => H u && holdsB u [] p) (c || crB p) r := by
 obtain ⟨h1, h2, h3⟩ := step_pair ha.pr hx.pr h
 have d1 : ∀ u, goodRow cols.length u → r.1.den u = (a.1.den u && x.1.den u) := fun u hu => by rw [h2, den_op (ok_formN ha.pr.o1 ha.pr.w1) (ok_formN hx.pr.o1 hx.pr.w1) _ _ _ hu, ofI_eq]
 have d2 : ∀ u, goodRow cols.length u → r.2.den u = (a.2.den u && x.2.den u) := fun u hu => by rw [h3, den_op (ok_formN ha.pr.o2 ha.pr.w2) (ok_formN hx.pr.o2 hx.pr.w2) _ _ _ hu, ofI_eq]
 refine ⟨h1, fun u hu hd => ?_, fun u hu hd => ?_, fun u hu hd => ?_, fun hc => ?_⟩
 · rw [d1 u hu, Bool.and_eq_true] at hd
   rw [d2 u hu, ha.sub u hu hd.1, hx.sub u hu hd.2]; rfl
 · rw [d1 u (typed_good hu), Bool.and_eq_true] at hd
   rw [ha.lo u hu hd.1, hx.lo u hu hd.2]; rfl
 · rw [Bool.and_eq_true] at hd
   rw [d2 u (typed_good hu), ha.hi u hu hd.1, hx.hi u hu hd.2]; rfl
 · rw [Bool.or_eq_false_iff] at hc
   rw [h2, h3, ha.eq hc.1, hx.eq hc.2]
theorem big_or {H : List Vl → Bool} {c : Bool} {p : Pd} {a x r : Rg × Rg} (ha : BigA cols H c a) (hx : Big cols p x) (h : stepX opUr a x = some r) : BigA cols (fun u => H u || holdsB u [] p) (c || crB p) r := by
 obtain ⟨h1, h2, h3⟩ := step_pair ha.pr hx.pr h
 have d1 : ∀ u, goodRow cols.length u → r.1.den u = (a.1.den u || x.1.den u) := fun u hu => by rw [h2, den_op (ok_formN ha.pr.o1 ha.pr.w1) (ok_formN hx.pr.o1 hx.pr.w1) _ _ _ hu, ofU_eq]
 have d2 : ∀ u, goodRow cols.length u → r.2.den u = (a.2.den u || x.2.den u) := fun u hu => by rw [h3, den_op (ok_formN ha.pr.o2 ha.pr.w2) (ok_formN hx.pr.o2 hx.pr.w2) _ _ _ hu, ofU_eq]
 refine ⟨h1, fun u hu hd => ?_, fun u hu hd => ?_, fun u hu hd => ?_, fun hc => ?_⟩
 · rw [d1 u hu, Bool.or_eq_true] at hd
   rw [d2 u hu]
   rcases hd with hd | hd
   · rw [ha.sub u hu hd]; rfl
   · rw [hx.sub u hu hd, Bool.or_true]
 · rw [d1 u (typed_good hu), Bool.or_eq_true] at hd
   rcases hd with hd | hd
   · rw [ha.lo u hu hd]; rfl
   · rw [hx.lo u hu hd, Bool.or_true]
 · rw [Bool.or_eq_true] at hd
   rw [d2 u (typed_good hu)]
   rcases hd with hd | hd
   · rw [ha.hi u hu hd]; rfl
   · rw [hx.hi u hu hd, Bool.or_true]
 · rw [Bool.or_eq_false_iff] at hc
   rw [h2, h3, ha.eq hc.1, hx.eq hc.2]
theorem big_all (hn : cols.length ≤ 12) : BigA cols (fun _ => true) false (allR cols.length, allR cols.length) := ⟨all_pair hn, fun _ _ h => h, fun _ _ _ => rfl, fun u hu _ => all_den (typed_good hu), fun _ => rfl⟩
theorem big_em (hn : cols.length ≤ 12) : BigA cols (fun _ => false) false (.nil (cols.length : Int) false, .nil (cols.length : Int) false) := ⟨em_pair hn, fun _ _ h => h, fun u _ h => (by rw [nil_den] at h; cases h), fun _ _ h => (by cases h), fun _ => rfl⟩
end
theorem real_k {v : Vl} : realV v = true ↔ validV v = true ∧ 3 ≤ v.k := by simp [realV]
theorem kindOf_cases {cols : List Int} {o : Od} (h : kindOf cols [] o ≠ 0) : (o.k = 3 ∧ realV o.v = true ∧ kindOf cols [] o = o.v.k) ∨ (o.k = 1 ∧ ∃ i : Nat, o.ix = (i : Int) ∧ i < cols.length ∧ kindOf cols [] o = cols.getD i 0) := by
 unfold kindOf at h ⊢
 split at h
 · rename_i h3
   rw [if_pos h3]
   split at h
   · rename_i h4
     rw [if_pos h4]
     exact .inl ⟨h3, h4.2, rfl⟩
   · exact absurd rfl h
 · rename_i h3
   rw [if_neg h3]
   split at h
   · rename_i h1
     rw [if_pos h1]
     split at h
     · rename_i h4
       rw [if_pos h4]
       refine .inr ⟨h1, o.ix.toNat, by omega, by omega, rfl⟩
     · exact absurd rfl h
   · split at h
     · split at h
       · rename_i h5
         exact absurd h5.2.1 (by simp; omega)
       · exact absurd rfl h
     · exact absurd rfl h
theorem colB_at {cols : List Int} (h : colB cols = true) {i : Nat} (hi : i < cols.length) : 3 ≤ cols.getD i 0 ∧ cols.getD i 0 ≤ 5 := by
 unfold colB at h
 rw [List.all_eq_true] at h
 rw [List.getD_eq_getElem?_getD, List.getElem?_eq_getElem hi]
 simpa using h _ (List.getElem_mem hi)
theorem dnV_col {u : List Vl} {o : Od} (h : o.k = 1) {i : Nat} (hi : o.ix = (i : Int)) (hl : i < u.length) : dnV u [] o = u.getD i zeroV := by
 unfold dnV
 rw [if_neg (by omega), if_pos h, if_pos (by omega), hi, Int.toNat_natCast]
theorem dnV_val {u : List Vl} {o : Od} (h : o.k = 3) : dnV u [] o = o.v := by unfold dnV; rw [if_pos h]
theorem cmpB2_mir (cm c : Int) : cmpB2 (mirC cm) (-c) = cmpB2 cm c := by
 unfold cmpB2 mirC
 by_cases h1 : cm = 1
 · subst h1; simp
 by_cases h2 : cm = 2
 · subst h2; simp
 by_cases h3 : cm = 3
 · subst h3; simp
 by_cases h4 : cm = 4
 · subst h4; simp
 by_cases h5 : cm = 5
 · subst h5; simp
 by_cases h6 : cm = 6
 · subst h6; simp
 simp [h1, h2, h3, h4, h5, h6]
theorem kind_goodR {k : Int} (h : 3 ≤ k ∧ k ≤ 5) : GoodR (kindL k).1 2 := by
 refine ⟨kind_good h, fun u hu => ?_⟩
 have hk : k = 3 ∨ k = 4 ∨ k = 5 := by omega
 have hm : minI = -9223372036854775808 := rfl
 rcases hk with rfl | rfl | rfl
 · rw [kind3] at hu
   simp [ptsL] at hu
   rcases hu with rfl | rfl <;> simp [rgV, hm]
 · rw [kind4] at hu
   simp [ptsL] at hu
   rcases hu with rfl | rfl <;> simp [rgV, hm]
 · rw [kind5] at hu
   simp [ptsL] at hu
   subst hu
   simp [rgV]
theorem cmpSet_goodR {v : Vl} (hv : realV v = true) (hr : rngV v) {cm : Int} (hc : 1 ≤ cm ∧ cm ≤ 6) : GoodR (cmpSet cm v) 8 := by
 obtain ⟨h1, h3⟩ := real_k.1 hv
 have hk5 : 3 ≤ v.k ∧ v.k ≤ 5 := by
  have := valid_kind (k := v.k) (i := v.i) (t := v.t) h1
  omega
 have gk := kind_goodR hk5
 have gf := goodR_from h1 hr
 have go := goodR_one h1 hr
 have oM : opM false false = false := rfl
 have oU : opU false false = false := rfl
 have oI : opI false false = false := rfl
 have hcm : cm = 1 ∨ cm = 2 ∨ cm = 3 ∨ cm = 4 ∨ cm = 5 ∨ cm = 6 := by omega
 rcases hcm with rfl | rfl | rfl | rfl | rfl | rfl <;> simp only [cmpSet, reduceIte, Int.reduceEq]
 · exact go.mono (by omega)
 · exact (gk.comb go oM).mono (by omega)
 · exact (gk.comb gf oM).mono (by omega)
 · exact ((gk.comb gf oM).comb go oU).mono (by omega)
 · exact ((gk.comb gf oI).comb go oM).mono (by omega)
 · exact (gk.comb gf oI).mono (by omega)
theorem box_pair {n : Nat} (hn : n ≤ 12) {i j : Int} {s : List Iv} {m : Nat} (hs : GoodR s m) (hm : m ≤ 127) : Pair n (bx2 n i j s, bx2 n i j s) := by
 obtain ⟨h1, h2⟩ := bx2_ok (i := i) (j := j) hn (hs.good.valid hm)
 have h3 : WfR (bx2 n i j s) := bx2_wf hs.wf
 exact ⟨h1, h2, h1, h2, h3, h3⟩
theorem both_same {n : Nat} {cols : List Int} {p : Pd} {x : Rg} (hp : Pair cols.length (x, x)) (h : ∀ u, typedR cols u → x.den u = holdsB u [] p) : Big cols p (x, x) :=
 ⟨hp, fun _ _ h => h, fun u hu hd => by rw [← h u hu]; exact hd, fun u hu hd => by rw [← h u hu] at hd; exact hd, fun _ => rfl⟩
theorem big_cmp {cols : List Int} (hn : cols.length ≤ 12) (hc : colB cols = true) {p : Pd} (ho : p.h.op = 3) (hv : validB cols [] p = true) (hw : okNd p.h) : Big cols p (cmpPair cols p.h) := by
 have hH : ∀ u, holdsB u [] p = cmpOk p.h.cm (dnV u [] p.h.l) (dnV u [] p.h.r) := fun u => by
  unfold holdsB finH
  rw [if_neg (by omega), if_pos ho]
 have hk : (1 ≤ p.h.cm ∧ p.h.cm ≤ 6) ∧ kindOf cols [] p.h.l ≠ 0 ∧ kindOf cols [] p.h.l = kindOf cols [] p.h.r := by
  unfold validB headOk at hv
  rw [if_pos ho, Bool.and_eq_true, decide_eq_true_eq] at hv
  exact hv.1.2
 have hcr : crB p = false → crH p.h = false := fun h => by
  unfold crB at h
  rw [Bool.or_eq_false_iff] at h
  exact h.1
 obtain ⟨hcm, hl, hlr⟩ := hk
 have hr : kindOf cols [] p.h.r ≠ 0 := by rw [← hlr]; exact hl
 generalize p.h = h at *
 rcases kindOf_cases hl with ⟨l1, l2, l3⟩ | ⟨l1, i, l2, l3, l4⟩ <;> rcases kindOf_cases hr with ⟨r1, r2, r3⟩ | ⟨r1, j, r2, r3, r4⟩
 · -- two values
   have e : cmpPair cols h = if cmpOk h.cm h.l.v h.r.v = true then (allR cols.length, allR cols.length) else (.nil (cols.length : Int) false, .nil (cols.length : Int) false) := by
    unfold cmpPair
    rw [if_pos ⟨l1, r1⟩]
   rw [e]
   cases hb : cmpOk h.cm h.l.v h.r.v
   · rw [if_neg (by simp)]
     refine both_same (n := 0) (em_pair hn) fun u hu => ?_
     rw [nil_den, hH, dnV_val l1, dnV_val r1, hb]
   · rw [if_pos rfl]
     refine both_same (n := 0) (all_pair hn) fun u hu => ?_
     rw [all_den (typed_good hu), hH, dnV_val l1, dnV_val r1, hb]
 · -- a value and a column
   have hkv : h.l.v.k = cols.getD j 0 := by rw [← l3, hlr, r4]
   have e : cmpPair cols h = (bx2 cols.length h.r.ix h.r.ix (cmpSet (mirC h.cm) h.l.v), bx2 cols.length h.r.ix h.r.ix (cmpSet (mirC h.cm) h.l.v)) := by
    unfold cmpPair
    rw [if_neg (by omega), if_neg (by omega), if_neg (by omega)]
   have hm : 1 ≤ mirC h.cm ∧ mirC h.cm ≤ 6 := by unfold mirC; repeat' split <;> omega
   rw [e]
   refine both_same (n := 0) (box_pair hn (cmpSet_goodR l2 hw.1 hm) (by omega)) fun u hu => ?_
   obtain ⟨t1, t2, t3⟩ := typed_at hu r3
   rw [r2, bx2_den r3 r3 _ (typed_good hu), Bool.and_self, cmpSet_in (real_k.1 l2).1 hw.1 (real_k.1 l2).2 _ hm t1 t2, hH, dnV_val l1, dnV_col r1 r2 (by rw [hu.1]; exact r3)]
   unfold cmpOk
   rw [l2, Bool.true_and]
   have ha := cmpV_anti h.l.v (u.getD j zeroV)
   rw [ha, cmpB2_mir]
   have hreal : realV (u.getD j zeroV) = true ↔ 3 ≤ (u.getD j zeroV).k := by rw [real_k]; exact ⟨fun h => h.2, fun h => ⟨t1, h⟩⟩
   have h3 := (real_k.1 l2).2
   rw [Bool.eq_iff_iff]
   simp only [Bool.and_eq_true, decide_eq_true_eq, hreal]
   constructor
   · rintro ⟨g1, g2⟩
     exact ⟨⟨by omega, by omega⟩, g2⟩
   · rintro ⟨⟨g1, g2⟩, g3⟩
     exact ⟨by omega, g3⟩
 · -- a column and a value
   have hkv : h.r.v.k = cols.getD i 0 := by rw [← r3, ← hlr, l4]
   have e : cmpPair cols h = (bx2 cols.length h.l.ix h.l.ix (cmpSet h.cm h.r.v), bx2 cols.length h.l.ix h.l.ix (cmpSet h.cm h.r.v)) := by
    unfold cmpPair
    rw [if_neg (by omega), if_neg (by omega), if_pos l1]
   rw [e]
   refine both_same (n := 0) (box_pair hn (cmpSet_goodR r2 hw.2 hcm) (by omega)) fun u hu => ?_
   obtain ⟨t1, t2, t3⟩ := typed_at hu l3
   rw [l2, bx2_den l3 l3 _ (typed_good hu), Bool.and_self, cmpSet_in (real_k.1 r2).1 hw.2 (real_k.1 r2).2 _ hcm t1 t2, hH, dnV_val r1, dnV_col l1 l2 (by rw [hu.1]; exact l3)]
   unfold cmpOk
   rw [r2, Bool.and_true]
   have hreal : realV (u.getD i zeroV) = true ↔ 3 ≤ (u.getD i zeroV).k := by rw [real_k]; exact ⟨fun h => h.2, fun h => ⟨t1, h⟩⟩
   have h3 := (real_k.1 r2).2
   rw [Bool.eq_iff_iff]
   simp only [Bool.and_eq_true, decide_eq_true_eq, hreal]
   constructor
   · rintro ⟨g1, g2⟩
     exact ⟨⟨by omega, by omega⟩, g2⟩
   · rintro ⟨⟨g1, g2⟩, g3⟩
     exact ⟨by omega, g3⟩
 · -- two columns
   have hkk : cols.getD i 0 = cols.getD j 0 := by rw [← l4, hlr, r4]
   have hki := colB_at hc l3
   have gk := kind_goodR hki
   have hset : (kindL (cols.getD h.l.ix.toNat 0)).1 = (kindL (cols.getD i 0)).1 := by rw [l2, Int.toNat_natCast]
   have e : cmpPair cols h = if h.l.ix ≠ h.r.ix then (.nil (cols.length : Int) false, bx2 cols.length h.l.ix h.r.ix (kindL (cols.getD i 0)).1) else if h.cm = 1 ∨ h.cm = 4 ∨ h.cm = 6 then (bx2 cols.length h.l.ix h.r.ix (kindL (cols.getD i 0)).1, bx2 cols.length h.l.ix h.r.ix (kindL (cols.getD i 0)).1) else (.nil (cols.length : Int) false, .nil (cols.length : Int) false) := by
    unfold cmpPair
    rw [if_neg (by omega), if_pos ⟨l1, r1⟩, hset]
   have hpr := box_pair hn (i := h.l.ix) (j := h.r.ix) gk (by omega)
   have hden : ∀ u, typedR cols u → (bx2 cols.length h.l.ix h.r.ix (kindL (cols.getD i 0)).1).den u = (decide ((u.getD i zeroV).k = cols.getD i 0) && decide ((u.getD j zeroV).k = cols.getD i 0)) := fun u hu => by
    obtain ⟨t1, t2, _⟩ := typed_at hu l3
    obtain ⟨s1, s2, _⟩ := typed_at hu r3
    rw [l2, r2, bx2_den l3 r3 _ (typed_good hu), kind_in hki t1 t2, kind_in hki s1 s2]
   have hH2 : ∀ u, typedR cols u → holdsB u [] p = cmpOk h.cm (u.getD i zeroV) (u.getD j zeroV) := fun u hu => by
    rw [hH, dnV_col l1 l2 (by rw [hu.1]; exact l3), dnV_col r1 r2 (by rw [hu.1]; exact r3)]
   rw [e]
   by_cases hij : h.l.ix = h.r.ix
   · rw [if_neg (by simp [hij])]
     have hji : j = i := by omega
     subst hji
     by_cases hq : h.cm = 1 ∨ h.cm = 4 ∨ h.cm = 6
     · rw [if_pos hq]
       refine both_same (n := 0) hpr fun u hu => ?_
       obtain ⟨t1, t2, t3⟩ := typed_at hu l3
       rw [hden u hu, hH2 u hu, Bool.and_self]
       unfold cmpOk
       rw [cmpV_self, Bool.and_self, decide_eq_true rfl, Bool.and_true]
       have hb : cmpB2 h.cm 0 = true := by rcases hq with h | h | h <;> rw [h] <;> rfl
       rw [hb, Bool.and_true, Bool.eq_iff_iff, real_k, decide_eq_true_eq]
       constructor
       · intro h; exact ⟨t1, by omega⟩
       · intro h; omega
     · rw [if_neg hq]
       refine both_same (n := 0) (em_pair hn) fun u hu => ?_
       rw [nil_den, hH2 u hu]
       unfold cmpOk
       rw [cmpV_self]
       have hb : cmpB2 h.cm 0 = false := by
        have : h.cm = 2 ∨ h.cm = 3 ∨ h.cm = 5 := by omega
        rcases this with h | h | h <;> rw [h] <;> rfl
       rw [hb, Bool.and_false]
   · rw [if_pos hij]
     refine ⟨⟨(nil_ok hn).1, rfl, hpr.o2, hpr.w2, trivial, hpr.f2⟩, fun u hu hd => ?_, fun u hu hd => ?_, fun u hu hd => ?_, fun hcb => ?_⟩
     · rw [nil_den] at hd; cases hd
     · rw [nil_den] at hd; cases hd
     · show (bx2 _ _ _ _).den u = true
       rw [hH2 u hu] at hd
       rw [hden u hu]
       unfold cmpOk at hd
       simp only [Bool.and_eq_true, decide_eq_true_eq] at hd
       obtain ⟨⟨⟨d1, d2⟩, d3⟩, _⟩ := hd
       obtain ⟨_, _, t3⟩ := typed_at hu l3
       obtain ⟨_, _, s3⟩ := typed_at hu r3
       have := (real_k.1 d1).2
       have := (real_k.1 d2).2
       rw [Bool.and_eq_true, decide_eq_true_eq, decide_eq_true_eq]
       omega
     · have := hcr hcb
       unfold crH at this
       rw [decide_eq_false_iff_not] at this
       exact absurd ⟨ho, l1, r1, hij⟩ this
def SayA (cols : List Int) (t : Pd) : Prop :=
 (∀ H c acc r, BigA cols H c acc → (nx cols t).an acc = some r → BigA cols (fun u => H u && (holdsA u [] t).1) (c || crA t) r) ∧
 (∀ H c acc r, BigA cols H c acc → (nx cols t).or acc = some r → BigA cols (fun u => H u || (holdsA u [] t).2.1) (c || crA t) r) ∧
 (∀ r, (nx cols t).fst = some r → t.len = 1 → ∃ a, t.args = [a] ∧ Big cols a r)
theorem big_fin {cols : List Int} (hn : cols.length ≤ 12) (hc : colB cols = true) {p : Pd} (hv : validB cols [] p = true) (hw : wfP p) (hs : SayA cols p) {r : Rg × Rg} (h : nodeX cols p = some r) : Big cols p r := by
 unfold nodeX finX at h
 have hcr : crB p = false → crA p = false := fun h => by
  unfold crB at h
  rw [Bool.or_eq_false_iff] at h
  exact h.2
 by_cases h1 : p.h.op = 1
 · rw [if_pos h1] at h
   injection h with h
   subst h
   refine both_same (n := 0) (all_pair hn) fun u hu => ?_
   rw [all_den (typed_good hu)]
   unfold holdsB finH
   rw [if_pos h1]
 · rw [if_neg h1] at h
   by_cases h2 : p.h.op = 2
   · rw [if_pos h2] at h
     injection h with h
     subst h
     refine both_same (n := 0) (em_pair hn) fun u hu => ?_
     rw [nil_den]
     unfold holdsB finH
     rw [if_neg (by omega), if_neg (by omega), if_neg (by omega), if_neg (by omega), if_neg (by omega)]
   · rw [if_neg h2] at h
     by_cases h4 : p.h.op = 4
     · rw [if_pos h4] at h
       have g := hs.1 _ _ _ _ (big_all hn) h
       have e : ∀ u, holdsB u [] p = (true && (holdsA u [] p).1) := fun u => by
        unfold holdsB finH
        rw [if_neg (by omega), if_neg (by omega), if_pos h4]
        rfl
       exact ⟨g.pr, g.sub, fun u hu hd => (e u).trans (g.lo u hu hd), fun u hu hd => g.hi u hu ((e u).symm.trans hd), fun hcb => g.eq (by rw [hcr hcb]; rfl)⟩
     · rw [if_neg h4] at h
       by_cases h5 : p.h.op = 5
       · rw [if_pos h5] at h
         have g := hs.2.1 _ _ _ _ (big_em hn) h
         have e : ∀ u, holdsB u [] p = (false || (holdsA u [] p).2.1) := fun u => by
          unfold holdsB finH
          rw [if_neg (by omega), if_neg (by omega), if_neg (by omega), if_pos h5]
          rfl
         exact ⟨g.pr, g.sub, fun u hu hd => (e u).trans (g.lo u hu hd), fun u hu hd => g.hi u hu ((e u).symm.trans hd), fun hcb => g.eq (by rw [hcr hcb]; rfl)⟩
       · rw [if_neg h5] at h
         by_cases h6 : p.h.op = 6
         · rw [if_pos h6] at h
           obtain ⟨x, hx1, hx2⟩ := Option.bind_eq_some_iff.1 h
           have hl : p.len = 1 := by
            unfold validB headOk at hv
            rw [if_neg (by omega), if_neg (by omega), if_pos h6] at hv
            simp only [Bool.and_eq_true, decide_eq_true_eq] at hv
            exact hv.1.1
           obtain ⟨a, ha1, ha2⟩ := hs.2.2 x hx1 hl
           obtain ⟨n1, n2, n3⟩ := not_pair ha2.pr hx2
           have f1 := ok_formN ha2.pr.o1 ha2.pr.w1
           have f2 := ok_formN ha2.pr.o2 ha2.pr.w2
           have e : ∀ u, holdsB u [] p = !holdsB u [] a := fun u => by
            have h7 := holdsA_not u [] p
            rw [ha1] at h7
            unfold holdsB finH
            rw [if_neg (by omega), if_neg (by omega), if_neg (by omega), if_neg (by omega), if_pos h6]
            exact h7
           have hca : crA p = crB a := by
            cases p with
            | nil _ => simp [args] at ha1
            | cons b t =>
              simp only [args, List.cons.injEq] at ha1
              obtain ⟨rfl, ht⟩ := ha1
              have : crA t = false := by
               cases t with
               | nil _ => rfl
               | cons _ _ => simp [args] at ht
              simp [crA, crB, this]
           refine ⟨n1, fun u hu hd => ?_, fun u hu hd => ?_, fun u hu hd => ?_, fun hcb => ?_⟩
           · rw [n2, cpl_den f2 hu] at hd
             rw [n3, cpl_den f1 hu]
             cases h8 : x.1.den u
             · rfl
             · rw [ha2.sub u hu h8] at hd; cases hd
           · rw [n2, cpl_den f2 (typed_good hu)] at hd
             rw [e u]
             cases h8 : holdsB u [] a
             · rfl
             · rw [ha2.hi u hu h8] at hd; cases hd
           · rw [e u] at hd
             rw [n3, cpl_den f1 (typed_good hu)]
             cases h8 : x.1.den u
             · rfl
             · rw [ha2.lo u hu h8] at hd; cases hd
           · rw [n2, n3, ha2.eq (by rw [← hca]; exact hcr hcb)]
         · rw [if_neg h6] at h
           injection h with h
           subst h
           have h3 : p.h.op = 3 := by
            unfold validB headOk at hv
            by_cases h3 : p.h.op = 3
            · exact h3
            · rw [if_neg h3, if_neg (by omega), if_neg h6, if_neg (by omega)] at hv
              simp at hv
           exact big_cmp hn hc h3 hv hw.1
theorem say_all {cols : List Int} (hn : cols.length ≤ 12) (hc : colB cols = true) : ∀ t : Pd, validA cols [] t = true → wfPA t → SayA cols t
 | .nil _, _, _ => ⟨fun H c acc r hb h => by
  simp only [nx, Option.some.injEq] at h
  subst h
  simpa [holdsA, crA] using hb, fun H c acc r hb h => by
  simp only [nx, Option.some.injEq] at h
  subst h
  simpa [holdsA, crA] using hb, fun r h => by simp [nx] at h⟩
 | .cons a t, hv, hw => by
   unfold validA at hv
   rw [Bool.and_eq_true] at hv
   have hva : validB cols [] a = true := hv.1
   have sa := say_all hn hc a (by have := hv.1; rw [Bool.and_eq_true] at this; exact this.2) hw.2.1
   have st := say_all hn hc t hv.2 hw.2.2
   have ba : ∀ r, finX cols a.h (nx cols a) = some r → Big cols a r := fun r h => big_fin hn hc hva ⟨hw.1, hw.2.1⟩ sa h
   refine ⟨fun H c acc r hb h => ?_, fun H c acc r hb h => ?_, fun r h hl => ?_⟩
   · simp only [nx] at h
     obtain ⟨x, hx1, hx2⟩ := Option.bind_eq_some_iff.1 h
     obtain ⟨y, hy1, hy2⟩ := Option.bind_eq_some_iff.1 hx2
     have g := st.1 _ _ _ _ (big_and hb (ba x hx1) hy1) hy2
     have e : ∀ u, (H u && (holdsA u [] (.cons a t)).1) = ((H u && holdsB u [] a) && (holdsA u [] t).1) := fun u => by
      rw [Bool.and_assoc]
      rfl
     have ec : (c || crA (.cons a t)) = ((c || crB a) || crA t) := by
      rw [Bool.or_assoc]
      rfl
     rw [ec]
     exact ⟨g.pr, g.sub, fun u hu hd => (e u).trans (g.lo u hu hd), fun u hu hd => g.hi u hu ((e u).symm.trans hd), g.eq⟩
   · simp only [nx] at h
     obtain ⟨x, hx1, hx2⟩ := Option.bind_eq_some_iff.1 h
     obtain ⟨y, hy1, hy2⟩ := Option.bind_eq_some_iff.1 hx2
     have g := st.2.1 _ _ _ _ (big_or hb (ba x hx1) hy1) hy2
     have e : ∀ u, (H u || (holdsA u [] (.cons a t)).2.1) = ((H u || holdsB u [] a) || (holdsA u [] t).2.1) := fun u => by
      rw [Bool.or_assoc]
      rfl
     have ec : (c || crA (.cons a t)) = ((c || crB a) || crA t) := by
      rw [Bool.or_assoc]
      rfl
     rw [ec]
     exact ⟨g.pr, g.sub, fun u hu hd => (e u).trans (g.lo u hu hd), fun u hu hd => g.hi u hu ((e u).symm.trans hd), g.eq⟩
   · simp only [nx] at h
     have h0 : t.args = [] := by
      have h1 : t.len = 0 := by simp only [Pd.len] at hl; omega
      rw [← len_args] at h1
      exact List.eq_nil_of_length_eq_zero h1
     exact ⟨a, by simp only [args, h0], ba r h⟩
theorem big_node {cols : List Int} (hn : cols.length ≤ 12) (hc : colB cols = true) {p : Pd} (hv : validB cols [] p = true) (hw : wfP p) {r : Rg × Rg} (h : nodeX cols p = some r) : Big cols p r :=
 big_fin hn hc hv hw (say_all hn hc p (by unfold validB at hv; rw [Bool.and_eq_true] at hv; exact hv.2) hw.2) h
theorem checkE_ok {cols : List Int} {p : Pd} (h : checkE cols [] p = 0) : colB cols = true ∧ validB cols [] p = true ∧ p.nodes ≤ 24 ∧ p.depth ≤ 8 := by
 unfold checkE at h
 split at h
 · rename_i h1
   split at h
   · rename_i h2
     split at h
     · rename_i h3
       rw [Bool.and_eq_true] at h1
       exact ⟨h1.1, h3, h2.1, h2.2⟩
     · cases h
   · cases h
 · cases h
theorem bd_ok {cols : List Int} {p : Pd} (h : bdE cols p = 0) : cols.length ≤ 12 ∧ checkE cols [] p = 0 ∧ nodeX cols p = some (bdR cols p) := by
 have h0 := h
 unfold bdE at h
 split at h
 · cases h
 · rename_i h1
   split at h
   · rename_i h2
     split at h
     · cases h
     · rename_i r hr
       refine ⟨by omega, h2, ?_⟩
       unfold bdR
       rw [if_pos h0, hr]
       rfl
   · rename_i h2
     exact absurd h h2
theorem bd_big {cols : List Int} {p : Pd} (hw : wfP p) (h : bdE cols p = 0) : Big cols p (bdR cols p) := by
 obtain ⟨h1, h2, h3⟩ := bd_ok h
 obtain ⟨c1, c2, _, _⟩ := checkE_ok h2
 exact big_node h1 c1 c2 hw h3
def plainN (op : Int) : Nd := ⟨op, 0, zeroOd, zeroOd⟩
theorem checkE_02 {cols : List Int} {p : Pd} (hc : colB cols = true) (hv : validB cols [] p = true) : checkE cols [] p = 0 ∨ checkE cols [] p = 2 := by
 unfold checkE
 rw [hc]
 have : colB [] = true := rfl
 rw [this, if_pos (by rfl), hv]
 split
 · exact .inl rfl
 · exact .inr rfl
theorem bdE_02 {cols : List Int} {p : Pd} (hc : colB cols = true) (hv : validB cols [] p = true) : bdE cols p = 0 ∨ bdE cols p = 2 := by
 unfold bdE
 split
 · exact .inr rfl
 · split
   · split
     · exact .inr rfl
     · exact .inl rfl
   · rename_i h
     rcases checkE_02 hc hv with h1 | h1
     · exact absurd h1 h
     · exact .inr h1
section
variable {cols : List Int} {p : Pd} (hw : wfP p) (h0 : bdE cols p = 0)
include hw h0
theorem enclose_plain {u : List Vl} (hu : typedR cols u) : (hasR (bdR cols p).1 u = true → holdsB u [] p = true) ∧ (holdsB u [] p = true → hasR (bdR cols p).2 u = true) := by
 have g := bd_big hw h0
 have hg := typed_good hu
 rw [hasR_den g.pr.o1 g.pr.w1 hg, hasR_den g.pr.o2 g.pr.w2 hg]
 exact ⟨g.lo u hu, g.hi u hu⟩
theorem meet_plain : covErr (bdR cols p).2 (bdR cols p).1 = 0 ∧ covRes (bdR cols p).2 (bdR cols p).1 = true ∧ (crB p = false → eqB (bdR cols p).1 (bdR cols p).2 = true) := by
 have g := bd_big hw h0
 refine ⟨(cov_spec g.pr.o2 g.pr.w2 g.pr.o1 g.pr.w1).1, (cov_iff g.pr.o2 g.pr.w2 g.pr.o1 g.pr.w1).2 g.sub, fun hc => ?_⟩
 rw [g.eq hc]
 exact eqB_self g.pr.o2
omit hw in
theorem neg_valid : colB cols = true ∧ validB cols [] (.cons p (.nil (plainN 6))) = true := by
 obtain ⟨_, h2, _⟩ := bd_ok h0
 obtain ⟨c1, c2, _, _⟩ := checkE_ok h2
 refine ⟨c1, ?_⟩
 show (headOk cols [] (plainN 6) 1 && ((headOk cols [] p.h p.len && validA cols [] p) && true)) = true
 unfold validB at c2
 rw [c2]
 rfl
theorem negate_plain : (¬ bdE cols (.cons p (.nil (plainN 6))) = 0 → bdE cols (.cons p (.nil (plainN 6))) = 2 ∧ (cpErr (bdR cols p).2 = 2 ∨ cpErr (bdR cols p).1 = 2 ∨ checkE cols [] (.cons p (.nil (plainN 6))) = 2)) ∧
 (bdE cols (.cons p (.nil (plainN 6))) = 0 → cpErr (bdR cols p).2 = 0 ∧ cpErr (bdR cols p).1 = 0 ∧ bdR cols (.cons p (.nil (plainN 6))) = (cpRes (bdR cols p).2, cpRes (bdR cols p).1) ∧ eqB (cpRes (bdR cols p).2) (cpRes (bdR cols p).2) = true ∧ eqB (cpRes (bdR cols p).1) (cpRes (bdR cols p).1) = true) := by
 have g := bd_big hw h0
 obtain ⟨h1, h2, h3⟩ := bd_ok h0
 obtain ⟨v1, v2⟩ := neg_valid h0
 have hN : nodeX cols (.cons p (.nil (plainN 6))) = notX (bdR cols p) := by
  unfold nodeX finX
  show (if (6 : Int) = 1 then _ else if (6 : Int) = 2 then _ else if (6 : Int) = 4 then _ else if (6 : Int) = 5 then _ else if (6 : Int) = 6 then (finX cols p.h (nx cols p)).bind notX else _) = _
  rw [if_neg (by decide), if_neg (by decide), if_neg (by decide), if_neg (by decide), if_pos rfl]
  unfold nodeX at h3
  rw [h3]
  rfl
 constructor
 · intro hne
   have h02 := bdE_02 v1 v2
   have e2 : bdE cols (.cons p (.nil (plainN 6))) = 2 := by
    rcases h02 with h | h
    · exact absurd h hne
    · exact h
   refine ⟨e2, ?_⟩
   unfold bdE at e2
   rw [if_neg (by omega)] at e2
   split at e2
   · rw [hN] at e2
     unfold notX at e2
     by_cases he : cpErr (bdR cols p).2 = 0 ∧ cpErr (bdR cols p).1 = 0
     · rw [if_pos he] at e2; cases e2
     · have k1 := cp_02 g.pr.o1 g.pr.w1
       have k2 := cp_02 g.pr.o2 g.pr.w2
       omega
   · exact .inr (.inr e2)
 · intro he
   obtain ⟨_, _, n3⟩ := bd_ok he
   rw [hN] at n3
   unfold notX at n3
   split at n3
   · rename_i hq
     injection n3 with n3
     refine ⟨hq.1, hq.2, n3.symm, eqB_self ((cp_spec g.pr.o2 g.pr.w2).2 hq.1).2.1, eqB_self ((cp_spec g.pr.o1 g.pr.w1).2 hq.2).2.1⟩
   · cases n3
end
theorem and_all {n : Nat} {a : Rg} (hn : n ≤ 12) (ha : OkR a) (hwa : a.w = (n : Int)) : opErr opIr (allR n) a = 0 ∧ opRes opIr (allR n) a = a := by
 have fa := ok_formN ha hwa
 refine op_is (all_ok hn) (all_w n) ha hwa (form_ext n _ _ (comb_form _ _ _ _ (all_form n).1 fa) fa fun u hu => ?_) ha
 rw [den_op (all_form n).1 fa _ _ _ hu, all_den hu]
 cases a.den u <;> rfl
theorem or_em {n : Nat} {a : Rg} (hn : n ≤ 12) (ha : OkR a) (hwa : a.w = (n : Int)) : opErr opUr (.nil (n : Int) false) a = 0 ∧ opRes opUr (.nil (n : Int) false) a = a := by
 have fa := ok_formN ha hwa
 have fe : Form n (.nil (n : Int) false) := form_nil n
 refine op_is (nil_ok hn).1 rfl ha hwa (form_ext n _ _ (comb_form _ _ _ _ fe fa) fa fun u hu => ?_) ha
 rw [den_op fe fa _ _ _ hu, nil_den]
 cases a.den u <;> rfl
theorem joins_plain {cols : List Int} {p q : Pd} (hw : wfP p) (hwq : wfP q) (hp : bdE cols p = 0) (hq : bdE cols q = 0) :
 (bdE cols (.cons p (.cons q (.nil (plainN 4)))) = 0 → bdR cols (.cons p (.cons q (.nil (plainN 4)))) = (opRes opIr (bdR cols p).1 (bdR cols q).1, opRes opIr (bdR cols p).2 (bdR cols q).2) ∧ eqB (opRes opIr (bdR cols p).1 (bdR cols q).1) (opRes opIr (bdR cols p).1 (bdR cols q).1) = true ∧ eqB (opRes opIr (bdR cols p).2 (bdR cols q).2) (opRes opIr (bdR cols p).2 (bdR cols q).2) = true) ∧
 (bdE cols (.cons p (.cons q (.nil (plainN 5)))) = 0 → bdR cols (.cons p (.cons q (.nil (plainN 5)))) = (opRes opUr (bdR cols p).1 (bdR cols q).1, opRes opUr (bdR cols p).2 (bdR cols q).2) ∧ eqB (opRes opUr (bdR cols p).1 (bdR cols q).1) (opRes opUr (bdR cols p).1 (bdR cols q).1) = true ∧ eqB (opRes opUr (bdR cols p).2 (bdR cols q).2) (opRes opUr (bdR cols p).2 (bdR cols q).2) = true) := by
 have gp := bd_big hw hp
 have gq := bd_big hwq hq
 obtain ⟨hn, _, p3⟩ := bd_ok hp
 obtain ⟨_, _, q3⟩ := bd_ok hq
 unfold nodeX at p3 q3
 constructor
 · intro he
   obtain ⟨_, _, n3⟩ := bd_ok he
   have hN : nodeX cols (.cons p (.cons q (.nil (plainN 4)))) = (stepX opIr (allR cols.length, allR cols.length) (bdR cols p)).bind fun r => (stepX opIr r (bdR cols q)).bind some := by
    unfold nodeX finX
    show (if (4 : Int) = 1 then _ else if (4 : Int) = 2 then _ else if (4 : Int) = 4 then ((finX cols p.h (nx cols p)).bind fun r => (stepX opIr (allR cols.length, allR cols.length) r).bind fun acc => (finX cols q.h (nx cols q)).bind fun r => (stepX opIr acc r).bind some) else _) = _
    rw [if_neg (by decide), if_neg (by decide), if_pos rfl, p3, q3]
    rfl
   have h1 : stepX opIr (allR cols.length, allR cols.length) (bdR cols p) = some (bdR cols p) := by
    obtain ⟨a1, a2⟩ := and_all hn gp.pr.o1 gp.pr.w1
    obtain ⟨b1, b2⟩ := and_all hn gp.pr.o2 gp.pr.w2
    unfold stepX
    rw [if_pos ⟨a1, b1⟩, a2, b2]
   rw [hN, h1] at n3
   obtain ⟨r, hr1, hr2⟩ := Option.bind_eq_some_iff.1 n3
   obtain ⟨s, hs1, hs2⟩ := Option.bind_eq_some_iff.1 hr2
   injection hr1 with hr1
   injection hs2 with hs2
   subst hr1 hs2
   obtain ⟨k1, k2, k3⟩ := step_pair gp.pr gq.pr hs1
   unfold stepX at hs1
   split at hs1
   · injection hs1 with hs1
     rw [← hs1] at k1 ⊢
     exact ⟨rfl, eqB_self k1.o1, eqB_self k1.o2⟩
   · cases hs1
 · intro he
   obtain ⟨_, _, n3⟩ := bd_ok he
   have hN : nodeX cols (.cons p (.cons q (.nil (plainN 5)))) = (stepX opUr (.nil (cols.length : Int) false, .nil (cols.length : Int) false) (bdR cols p)).bind fun r => (stepX opUr r (bdR cols q)).bind some := by
    unfold nodeX finX
    show (if (5 : Int) = 1 then _ else if (5 : Int) = 2 then _ else if (5 : Int) = 4 then _ else if (5 : Int) = 5 then ((finX cols p.h (nx cols p)).bind fun r => (stepX opUr (.nil (cols.length : Int) false, .nil (cols.length : Int) false) r).bind fun acc => (finX cols q.h (nx cols q)).bind fun r => (stepX opUr acc r).bind some) else _) = _
    rw [if_neg (by decide), if_neg (by decide), if_neg (by decide), if_pos rfl, p3, q3]
    rfl
   have h1 : stepX opUr (.nil (cols.length : Int) false, .nil (cols.length : Int) false) (bdR cols p) = some (bdR cols p) := by
    obtain ⟨a1, a2⟩ := or_em hn gp.pr.o1 gp.pr.w1
    obtain ⟨b1, b2⟩ := or_em hn gp.pr.o2 gp.pr.w2
    unfold stepX
    rw [if_pos ⟨a1, b1⟩, a2, b2]
   rw [hN, h1] at n3
   obtain ⟨r, hr1, hr2⟩ := Option.bind_eq_some_iff.1 n3
   obtain ⟨s, hs1, hs2⟩ := Option.bind_eq_some_iff.1 hr2
   injection hr1 with hr1
   injection hs2 with hs2
   subst hr1 hs2
   obtain ⟨k1, k2, k3⟩ := step_pair gp.pr gq.pr hs1
   unfold stepX at hs1
   split at hs1
   · injection hs1 with hs1
     rw [← hs1] at k1 ⊢
     exact ⟨rfl, eqB_self k1.o1, eqB_self k1.o2⟩
   · cases hs1
def exV : Vl := ⟨4, 5, ⟨#[]⟩⟩
def exH1 : Nd := ⟨3, 3, ⟨1, 0, zeroV⟩, ⟨3, 0, exV⟩⟩
def exH2 : Nd := ⟨3, 1, ⟨1, 0, zeroV⟩, ⟨1, 1, zeroV⟩⟩
def exP : Pd := .cons (.nil exH1) (.cons (.nil exH2) (.nil (plainN 4)))
def exA : Rg := bx2 2 0 0 (cmpSet 3 exV)
def exB : Rg := bx2 2 0 1 (kindL 4).1
def exI : Rg := comb opIr 2 exA (.nil 2 false)
def exO : Rg := comb opIr 2 exA exB
theorem ex_node : nodeX [4, 4] exP = (stepX opIr (allR 2, allR 2) (exA, exA)).bind fun r => (stepX opIr r (.nil 2 false, exB)).bind some := rfl
theorem ex_A : OkR exA ∧ exA.w = 2 := bx2_ok (by omega) (by decide +kernel)
theorem ex_B : OkR exB ∧ exB.w = 2 := bx2_ok (by omega) (by decide +kernel)
theorem ex_s : (exI.size ≤ 64 ∧ exI.fits = true) ∧ (exO.size ≤ 64 ∧ exO.fits = true) := by decide +kernel
theorem ex_I : exI.w = 2 ∧ exI.len = 0 := by decide +kernel
theorem ex_O : exO.w = 2 ∧ hasF exO [⟨4, 4, ⟨#[]⟩⟩, ⟨4, 0, ⟨#[]⟩⟩] = true ∧ hasF exO [⟨4, 5, ⟨#[]⟩⟩, ⟨4, 0, ⟨#[]⟩⟩] = false := by decide +kernel
theorem ex_check : checkE [4, 4] [] exP = 0 := by decide +kernel
theorem ex_bd : bdE [4, 4] exP = 0 ∧ bdR [4, 4] exP = (exI, exO) ∧ OkR exO := by
 have n1 := and_all (n := 2) (by omega) ex_A.1 ex_A.2
 have oN := (nil_ok (n := 2) (by omega)).1
 have s1 := op_spec ex_A.1 ex_A.2 oN (show (Rg.nil ((2 : Nat) : Int) false).w = ((2 : Nat) : Int) from rfl) opIr
 have s2 := op_spec ex_A.1 ex_A.2 ex_B.1 ex_B.2 opIr
 have e1 : opErr opIr exA (.nil 2 false) = 0 := s1.1.trans (if_pos ex_s.1)
 have e2 : opErr opIr exA exB = 0 := s2.1.trans (if_pos ex_s.2)
 have h1 : stepX opIr (allR 2, allR 2) (exA, exA) = some (exA, exA) := by
  unfold stepX
  rw [if_pos ⟨n1.1, n1.1⟩]
  show some (opRes opIr (allR 2) exA, opRes opIr (allR 2) exA) = _
  rw [n1.2]
 have h2 : stepX opIr (exA, exA) (.nil 2 false, exB) = some (exI, exO) := by
  unfold stepX
  rw [if_pos ⟨e1, e2⟩]
  show some (opRes opIr exA (.nil 2 false), opRes opIr exA exB) = _
  rw [(s2.2 e2).1]
  congr 2
  exact (s1.2 e1).1
 have hn : nodeX [4, 4] exP = some (exI, exO) := by
  rw [ex_node, h1]
  show (stepX opIr (exA, exA) (.nil 2 false, exB)).bind some = _
  rw [h2]
  rfl
 have hE : bdE [4, 4] exP = 0 := by
  unfold bdE
  rw [if_neg (by decide), if_pos ex_check, hn]
 refine ⟨hE, ?_, ?_⟩
 · unfold bdR
   rw [if_pos hE, hn]
   rfl
 · have := (s2.2 e2).2.1
   rw [(s2.2 e2).1] at this
   exact this
theorem ex_has : hasR exO [⟨4, 4, ⟨#[]⟩⟩, ⟨4, 0, ⟨#[]⟩⟩] = true ∧ hasR exO [⟨4, 5, ⟨#[]⟩⟩, ⟨4, 0, ⟨#[]⟩⟩] = false := by
 unfold hasR
 rw [okB_true.2 ex_bd.2.2, ex_O.1, ex_O.2.1, ex_O.2.2]
 exact ⟨rfl, rfl⟩
theorem ex_wf : wfP exP := by
 have h : ∀ x : Int, minI ≤ x ∧ x ≤ 9223372036854775807 → rngV ⟨4, x, ⟨#[]⟩⟩ := fun x h => h
 have z : rngV zeroV := ⟨by show minI ≤ (0 : Int); decide, by show (0 : Int) ≤ 9223372036854775807; decide⟩
 have v : rngV exV := ⟨by show minI ≤ (5 : Int); decide, by show (5 : Int) ≤ 9223372036854775807; decide⟩
 exact ⟨⟨z, z⟩, ⟨z, v⟩, trivial, ⟨z, z⟩, trivial, trivial⟩
end Go.Proofs.YtnnmlhmffnfjfaaGreat
