/-
  Texts: PdP, RowCmp, Sorted, SetR, SetL, Ord, Case2, NextM, RPoints, IvValid, Combine, IvOps.
-/
import Derived.Test.YtnnmlhmffnfjfaaGreatB5
set_option linter.unusedVariables false
set_option maxRecDepth 100000
namespace Go.Proofs.YtnnmlhmffnfjfaaGreat
open Go.RowKit
set_option maxRecDepth 100000
open Pd
def zeroOd : Od := ⟨0, 0, zeroV⟩
def colB (l : List Int) : Bool := l.all fun k => decide (3 ≤ k ∧ k ≤ 5)
def kindOf (cols ps : List Int) (o : Od) : Int :=
 if o.k = 3 then (if o.ix = 0 ∧ realV o.v = true then o.v.k else 0)
 else if o.k = 1 then (if 0 ≤ o.ix ∧ o.ix < (cols.length : Int) ∧ o.v = zeroV then cols.getD o.ix.toNat 0 else 0)
 else if o.k = 2 then (if 0 ≤ o.ix ∧ o.ix < (ps.length : Int) ∧ o.v = zeroV then ps.getD o.ix.toNat 0 else 0)
 else 0
def plainH (h : Nd) : Bool := decide (h.cm = 0 ∧ h.l = zeroOd ∧ h.r = zeroOd)
def headOk (cols ps : List Int) (h : Nd) (n : Nat) : Bool :=
 if h.op = 3 then decide (n = 0 ∧ (1 ≤ h.cm ∧ h.cm ≤ 6) ∧ kindOf cols ps h.l ≠ 0 ∧ kindOf cols ps h.l = kindOf cols ps h.r)
 else if h.op = 1 ∨ h.op = 2 then decide (n = 0) && plainH h
 else if h.op = 6 then decide (n = 1) && plainH h
 else if h.op = 4 ∨ h.op = 5 then plainH h
 else false
def validA (cols ps : List Int) : Pd → Bool
 | .nil _ => true
 | .cons a t => (headOk cols ps a.h a.len && validA cols ps a) && validA cols ps t
def validB (cols ps : List Int) (p : Pd) : Bool := headOk cols ps p.h p.len && validA cols ps p
theorem validA_mem {cols ps : List Int} : ∀ {p : Pd}, validA cols ps p = true ↔ ∀ q ∈ p.args, validB cols ps q = true
 | .nil _ => by simp [validA, args]
 | .cons a t => by
   rw [validA, Bool.and_eq_true, validA_mem (p := t)]
   simp [args, validB]
namespace Pd
def depth : Pd → Nat
 | nil _ => 1
 | cons a t => max (a.depth + 1) t.depth
theorem depth_pos : ∀ p : Pd, 1 ≤ p.depth
 | nil _ => Nat.le_refl _
 | cons a t => by have := depth_pos t; simp only [depth]; omega
end Pd
def checkE (cols ps : List Int) (p : Pd) : Int := if (colB cols && colB ps) = true then (if p.nodes ≤ 24 ∧ p.depth ≤ 8 then (if validB cols ps p = true then 0 else 50) else 2) else 1
def smA : Nat → Int → Pd → Option Int
 | _, b, .nil _ => some b
 | l, b, .cons a t => match (if b - 1 < 0 ∨ 8 < l then none else smA (l + 1) (b - 1) a) with
   | none => none
   | some b' => smA l b' t
def smB (l : Nat) (b : Int) (p : Pd) : Option Int := if b - 1 < 0 ∨ 8 < l then none else smA (l + 1) (b - 1) p
theorem smA_eq : ∀ (p : Pd) (l : Nat) (b : Int), l ≤ 9 → 0 ≤ b → smA l b p = if (p.nodes : Int) - 1 ≤ b ∧ p.depth + l ≤ 10 then some (b - ((p.nodes : Int) - 1)) else none
 | .nil h, l, b, hl, hb => by
   have hn : (Pd.nil h).nodes = 1 := rfl
   have hd : (Pd.nil h).depth = 1 := rfl
   rw [hn, hd, if_pos (by omega)]
   simp [smA]
 | .cons a t, l, b, hl, hb => by
   have ha := nodes_pos a
   have ht := nodes_pos t
   have hda := depth_pos a
   have hn : (Pd.cons a t).nodes = a.nodes + t.nodes := rfl
   have hd : (Pd.cons a t).depth = max (a.depth + 1) t.depth := rfl
   rw [hn, hd]
   unfold smA
   by_cases h1 : b - 1 < 0 ∨ 8 < l
   · rw [if_pos h1, if_neg (by omega)]
   · rw [if_neg h1, smA_eq a (l + 1) (b - 1) (by omega) (by omega)]
     by_cases h2 : (a.nodes : Int) - 1 ≤ b - 1 ∧ a.depth + (l + 1) ≤ 10
     · rw [if_pos h2]
       show smA l _ t = _
       rw [smA_eq t l _ hl (by omega)]
       by_cases h3 : (t.nodes : Int) - 1 ≤ b - 1 - ((a.nodes : Int) - 1) ∧ t.depth + l ≤ 10
       · rw [if_pos h3, if_pos (by omega)]
         congr 1
         omega
       · rw [if_neg h3, if_neg (by omega)]
     · rw [if_neg h2]
       show none = _
       rw [if_neg (by omega)]
theorem smB_eq (p : Pd) : (smB 1 24 p).isSome = decide (p.nodes ≤ 24 ∧ p.depth ≤ 8) := by
 have := nodes_pos p
 unfold smB
 rw [if_neg (by omega), smA_eq p (1 + 1) (24 - 1) (by omega) (by omega)]
 by_cases h : p.nodes ≤ 24 ∧ p.depth ≤ 8
 · rw [if_pos (by omega), decide_eq_true h]; rfl
 · rw [if_neg (by omega), decide_eq_false h]; rfl
def dnV (row ps : List Vl) (o : Od) : Vl :=
 if o.k = 3 then o.v
 else if o.k = 1 then (if 0 ≤ o.ix ∧ o.ix < (row.length : Int) then row.getD o.ix.toNat zeroV else zeroV)
 else if o.k = 2 then (if 0 ≤ o.ix ∧ o.ix < (ps.length : Int) then ps.getD o.ix.toNat zeroV else zeroV)
 else zeroV
def cmpB2 (cm : Int) (c : Int) : Bool := if cm = 1 then decide (c = 0) else if cm = 2 then decide (c ≠ 0) else if cm = 3 then decide (c < 0) else if cm = 4 then decide (c ≤ 0) else if cm = 5 then decide (0 < c) else if cm = 6 then decide (0 ≤ c) else false
def cmpOk (cm : Int) (a b : Vl) : Bool := realV a && realV b && decide (a.k = b.k) && cmpB2 cm (cmpV a b)
def finH (row ps : List Vl) (h : Nd) (x : Bool × Bool × Bool) : Bool :=
 if h.op = 1 then true else if h.op = 3 then cmpOk h.cm (dnV row ps h.l) (dnV row ps h.r) else if h.op = 4 then x.1 else if h.op = 5 then x.2.1 else if h.op = 6 then x.2.2 else false
def holdsA (row ps : List Vl) : Pd → Bool × Bool × Bool
 | .nil _ => (true, false, false)
 | .cons a t => (finH row ps a.h (holdsA row ps a) && (holdsA row ps t).1, finH row ps a.h (holdsA row ps a) || (holdsA row ps t).2.1, !finH row ps a.h (holdsA row ps a))
def holdsB (row ps : List Vl) (p : Pd) : Bool := finH row ps p.h (holdsA row ps p)
theorem holdsA_not (row ps : List Vl) : ∀ p : Pd, (holdsA row ps p).2.2 = match p.args with | [] => false | a :: _ => !holdsB row ps a
 | .nil _ => rfl
 | .cons a t => rfl
end Go.Proofs.YtnnmlhmffnfjfaaGreat
namespace Go.Proofs.YtnnmlhmffnfjfaaGreat
open Go.RowKit
def cmpR : List Vl → List Vl → Int
 | [], [] => 0
 | [], _ :: _ => -1
 | _ :: _, [] => 1
 | x :: xs, y :: ys => if cmpV x y ≠ 0 then cmpV x y else cmpR xs ys
abbrev Hd := Option Addr × Nat × Nat
abbrev RowP := Hd × List Vl
def rowc (p : RowP) : List Value := [.slice p.1.1 p.1.2.1 p.1.2.2]
structure RowOk (w : World) (p : RowP) : Prop where
 rd : VlS w p.1.1 p.1.2.1 p.2
 nl : p.1.1 = none → p.1.2.1 = 0 ∧ p.1.2.2 = 0
 le : p.1.2.1 ≤ p.1.2.2
 mx : p.1.2.2 ≤ 9223372036854775807
theorem RowOk.keep {w w' : World} {p : RowP} (h : RowOk w p) (hk : Keeps w w') : RowOk w' p := ⟨h.rd.keep hk, h.nl, h.le, h.mx⟩
structure RowsS (w : World) (A : Option Addr) (n : Nat) (ps : List RowP) : Prop where
 sl : Sl 1 rowc w A n ps
 ok : ∀ p ∈ ps, RowOk w p
theorem RowsS.keep {w w' : World} {A : Option Addr} {n : Nat} {ps : List RowP} (h : RowsS w A n ps) (hk : Keeps w w') : RowsS w' A n ps := ⟨h.sl.keep hk, fun p hp => (h.ok p hp).keep hk⟩
theorem own_forms {w : World} {base : Nat} {e : TypeId} {size n : Nat} {A : Option Addr} {c : Nat} {xs : List Value} (h : w.ownsRow base e size (.slice A n c) n xs) : (A = none → n = 0 ∧ c = 0) ∧ (∀ ad, A = some ad → ad.spot = none) ∧ n ≤ c := by
 rcases h.2 with ⟨hv, hn⟩ | ⟨g, cap, cur, hv, _, _, hnc, _⟩
 · injection hv with h1 h2 h3
   subst h1 h3
   exact ⟨fun _ => ⟨hn, rfl⟩, fun ad h => (by cases h), by omega⟩
 · injection hv with h1 h2 h3
   subst h1 h3
   exact ⟨fun h => (by cases h), fun ad h => (by injection h with h; rw [← h]), hnc⟩
def mergeP : List RowP → List RowP → List RowP
 | [], b => b
 | x :: a, [] => x :: a
 | x :: a, y :: b => if cmpR x.2 y.2 ≤ 0 then x :: mergeP a (y :: b) else y :: mergeP (x :: a) b
termination_by a b => a.length + b.length
theorem Sl.drop {α : Type} {sz : Nat} {cs : α → List Value} {w : World} {b o n : Nat} {l : List α} (h : Sl sz cs w (some ⟨b, o, none⟩) n l) (k : Nat) (hk : k ≤ n) : Sl sz cs w (some ⟨b, o + k * sz, none⟩) (n - k) (l.drop k) := by
 have hl := h.1
 refine ⟨by simp; omega, fun h0 => ?_⟩
 obtain ⟨b', o', e, hc⟩ := h.2 (by omega)
 injection e with e
 injection e with e1 e2
 subst e1 e2
 refine ⟨b, o + k * sz, rfl, fun i x hx j u hu => ?_⟩
 rw [List.getElem?_drop] at hx
 have := hc (k + i) x hx j u hu
 rw [← this, Nat.add_mul]
 congr 2
 omega
structure SPart (w : World) (A : Option Addr) (n c : Nat) (l : List RowP) : Prop where
 rd : RowsS w A n l
 nl : A = none → n = 0 ∧ c = 0
 sp : ∀ ad, A = some ad → ad.spot = none
 le : n ≤ c
 mx : c ≤ 9223372036854775807
theorem SPart.keep {w w' : World} {A : Option Addr} {n c : Nat} {l : List RowP} (h : SPart w A n c l) (hk : Keeps w w') : SPart w' A n c l := ⟨h.rd.keep hk, h.nl, h.sp, h.le, h.mx⟩
theorem SPart.tail {w : World} {b o n c : Nat} {p : RowP} {l : List RowP} (h : SPart w (some ⟨b, o, none⟩) n c (p :: l)) : SPart w (if c = 1 then some ⟨b, o, none⟩ else some ⟨b, o + 1, none⟩) (n - 1) (c - 1) l := by
 have hl := h.rd.sl.len
 have hle := h.le
 simp only [List.length_cons] at hl
 refine ⟨⟨?_, fun q hq => h.rd.ok q (List.mem_cons_of_mem _ hq)⟩, fun e => ?_, fun ad e => ?_, by omega, by have := h.mx; omega⟩
 · split
   · obtain rfl : l = [] := List.eq_nil_of_length_eq_zero (by omega)
     rw [show n - 1 = 0 by omega]
     exact Sl.nil
   · have := h.rd.sl.drop 1 (by omega)
     simpa using this
 · split at e <;> cases e
 · split at e <;> (injection e with e; rw [← e])
structure SState (w2 : World) (R : List RowP) (la lb lo : List RowP) (Aa : Option Addr) (na ca : Nat) (Ab : Option Addr) (nb cb : Nat) (Ao : Option Addr) (no co : Nat) (wr : World) : Prop where
 a : SPart w2 Aa na ca la
 b : SPart w2 Ab nb cb lb
 own : wr.ownsRow w2.heap.size 53 1 (.slice Ao no co) no (lo.flatMap rowc)
 len : lo.length = no
 run : lo ++ mergeP la lb = R
 bel : Below w2.heap.size w2 wr
def keepR (acc : List (List Vl)) (r : List Vl) : Bool := match acc.getLast? with
 | none => true
 | some x => decide (cmpR x r ≠ 0)
def dedup : List (List Vl) → List (List Vl) → List (List Vl)
 | acc, [] => acc
 | acc, r :: l => if keepR acc r then dedup (acc ++ [r]) l else dedup acc l
def OwnRow (w : World) (base : Nat) (q : RowP) : Prop := w.ownsRow base 59 3 (.slice q.1.1 q.1.2.1 q.1.2.2) q.1.2.1 (q.2.flatMap Vl.cs) ∧ q.2.length = q.1.2.1
theorem OwnRow.ok {w : World} {base : Nat} {q : RowP} (h : OwnRow w base q) : RowOk w q := by
 obtain ⟨f1, f2, f3⟩ := own_forms h.1
 refine ⟨Sl.of_own Vl.cs_len h.2 h.1, f1, f3, ?_⟩
 rcases h.1.2 with ⟨hv, _⟩ | ⟨g, cap, cur, hv, _, _, _, hm, _⟩
 · injection hv with _ _ h3; omega
 · injection hv with _ _ h3; simp only [maxLen] at hm; omega
theorem OwnRow.grown {w w' : World} {base : Nat} {q : RowP} (h : OwnRow w base q) {base' : Nat} {v : Value} {n size : Nat} {xs : List Value} (ho : w.ownsRow base' 53 size v n xs) (hg : w.grownBy w' v.ownBlock) : OwnRow w' base q := by
 refine ⟨own_at h.1 (fun g _ hlt hv => hg.block g hlt (fun e => ?_)), h.2⟩
 rcases h.1.2 with ⟨hq, _⟩ | ⟨g1, cap1, cur1, hq, _, hh1, _⟩
 · rw [hq] at hv; simp [Value.ownBlock] at hv
 · rw [hq] at hv
   simp only [Value.ownBlock, Option.some.injEq] at hv
   rcases ho.2 with ⟨hv2, _⟩ | ⟨g2, cap2, cur2, hv2, _, hh2, _⟩
   · rw [hv2] at e; simp [Value.ownBlock] at e
   · rw [hv2] at e
     simp only [Value.ownBlock, Option.some.injEq] at e
     rw [← hv] at e
     subst e
     rw [hh1] at hh2
     injection hh2 with hh2
     injection hh2 with _ ht
     exact absurd ht (by decide)
theorem OwnRow.below {w w' : World} {base : Nat} {q : RowP} (h : OwnRow w base q) (hb : Below w.heap.size w w') : OwnRow w' base q := ⟨own_at h.1 (fun g _ hlt _ => hb.block g hlt), h.2⟩
structure TState (w1 : World) (R : List (List Vl)) (ps : List RowP) (k : Nat) (qs : List RowP) (Ao : Option Addr) (no co : Nat) (wr : World) : Prop where
 own : wr.ownsRow w1.heap.size 53 1 (.slice Ao no co) no (qs.flatMap rowc)
 len : qs.length = no
 kle : no ≤ k
 rows : ∀ q ∈ qs, OwnRow wr w1.heap.size q
 run : dedup (qs.map (·.2)) ((ps.drop k).map (·.2)) = R
 bel : Below w1.heap.size w1 wr
def SetPost (w : World) (R : List (List Vl)) (e : Ending) (w' : World) : Prop :=
 ∃ (qs : List RowP) (A' : Option Addr) (c' : Nat), e = .returned (.slice A' R.length c') ∧ qs.map (·.2) = R ∧ w'.ownsRow w.heap.size 53 1 (.slice A' R.length c') R.length (qs.flatMap rowc) ∧ (∀ q ∈ qs, OwnRow w' w.heap.size q) ∧ Below w.heap.size w w'
theorem SetPost.rows {w w' : World} {R : List (List Vl)} {e : Ending} (h : SetPost w R e w') : ∃ (qs : List RowP) (A' : Option Addr) (c' : Nat), e = .returned (.slice A' R.length c') ∧ qs.map (·.2) = R ∧ RowsS w' A' R.length qs ∧ Below w.heap.size w w' := by
 obtain ⟨qs, A', c', h1, h2, h3, h4, h5⟩ := h
 exact ⟨qs, A', c', h1, h2, ⟨Sl.of_own (cs := rowc) (fun _ => rfl) (by rw [← h2]; simp) h3, fun q hq => (h4 q hq).ok⟩, h5⟩
def mrgR : List (List Vl) → List (List Vl) → List (List Vl)
 | [], b => b
 | x :: a, [] => x :: a
 | x :: a, y :: b => if cmpR x y ≤ 0 then x :: mrgR a (y :: b) else y :: mrgR (x :: a) b
termination_by a b => a.length + b.length
theorem mrgR_cons (x : List Vl) (a : List (List Vl)) (y : List Vl) (b : List (List Vl)) : mrgR (x :: a) (y :: b) = if cmpR x y ≤ 0 then x :: mrgR a (y :: b) else y :: mrgR (x :: a) b := by rw [mrgR]
def srtR (l : List (List Vl)) : List (List Vl) :=
 if h : l.length < 2 then l else mrgR (srtR (l.take (l.length / 2))) (srtR (l.drop (l.length / 2)))
termination_by l.length
decreasing_by
 · simp; omega
 · simp; omega
def setL (l : List (List Vl)) : List (List Vl) := dedup [] (srtR l)
theorem mrgR_mem : ∀ (a b : List (List Vl)) (r : List Vl), r ∈ mrgR a b ↔ r ∈ a ∨ r ∈ b
 | [], b, r => by simp [mrgR]
 | x :: a, [], r => by simp [mrgR]
 | x :: a, y :: b, r => by
   rw [mrgR_cons]
   split
   · rw [List.mem_cons, mrgR_mem a (y :: b) r]; simp only [List.mem_cons]; grind
   · rw [List.mem_cons, mrgR_mem (x :: a) b r]; simp only [List.mem_cons]; grind
termination_by a b => a.length + b.length
theorem srtR_short {l : List (List Vl)} (h : l.length < 2) : srtR l = l := by rw [srtR]; simp [h]
theorem srtR_long {l : List (List Vl)} (h : 2 ≤ l.length) : srtR l = mrgR (srtR (l.take (l.length / 2))) (srtR (l.drop (l.length / 2))) := by
 rw [srtR, dif_neg (by omega)]
theorem srtR_mem (l : List (List Vl)) (r : List Vl) : r ∈ srtR l ↔ r ∈ l := by
 induction h : l.length using Nat.strongRecOn generalizing l with
 | _ n ih =>
   subst h
   by_cases h2 : l.length < 2
   · rw [srtR_short h2]
   · rw [srtR_long (by omega), mrgR_mem, ih _ (by simp; omega) (l.take (l.length / 2)) rfl, ih _ (by simp; omega) (l.drop (l.length / 2)) rfl]
     rw [← List.mem_append, List.take_append_drop]
theorem dedup_sub : ∀ (l acc : List (List Vl)) (r : List Vl), r ∈ dedup acc l → r ∈ acc ∨ r ∈ l
 | [], acc, r, h => .inl h
 | x :: l, acc, r, h => by
   unfold dedup at h
   split at h
   · rcases dedup_sub l _ r h with h1 | h1
     · rw [List.mem_append, List.mem_singleton] at h1
       rcases h1 with h1 | rfl
       · exact .inl h1
       · exact .inr List.mem_cons_self
     · exact .inr (List.mem_cons_of_mem _ h1)
   · rcases dedup_sub l _ r h with h1 | h1
     · exact .inl h1
     · exact .inr (List.mem_cons_of_mem _ h1)
theorem setL_sub (l : List (List Vl)) (r : List Vl) (h : r ∈ setL l) : r ∈ l := by
 rcases dedup_sub _ _ r h with h1 | h1
 · simp at h1
 · exact (srtR_mem l r).1 h1
theorem setL_ones (c : List Vl) : ∃ L : List Vl, L.map (fun v => [v]) = setL (c.map fun v => [v]) := by
 refine ⟨(setL (c.map fun v => [v])).map (fun r => r.headD zeroV), ?_⟩
 rw [List.map_map]
 conv => rhs; rw [← List.map_id (setL (c.map fun v => [v]))]
 apply List.map_congr_left
 intro r hr
 have := setL_sub _ r hr
 rw [List.mem_map] at this
 obtain ⟨v, _, rfl⟩ := this
 rfl
theorem cmpR_anti : ∀ a b : List Vl, cmpR b a = - cmpR a b
 | [], [] => by simp [cmpR]
 | [], _ :: _ => by simp [cmpR]
 | _ :: _, [] => by simp [cmpR]
 | x :: a, y :: b => by
   have ih := cmpR_anti a b
   have := cmpV_anti x y
   simp only [cmpR]
   repeat' split
   all_goals omega
theorem cmpR_zero : ∀ a b : List Vl, cmpR a b = 0 ↔ a = b
 | [], [] => by simp [cmpR]
 | [], _ :: _ => by simp [cmpR]
 | _ :: _, [] => by simp [cmpR]
 | x :: a, y :: b => by
   have ih := cmpR_zero a b
   have := cmpV_zero x y
   simp only [cmpR, List.cons.injEq]
   split
   · constructor
     · intro h; omega
     · rintro ⟨h, _⟩; exact absurd (this.2 h) (by omega)
   · rw [ih]
     constructor
     · intro h; exact ⟨this.1 (by omega), h⟩
     · intro h; exact h.2
theorem cmpR_trans : ∀ a b c : List Vl, cmpR a b ≤ 0 → cmpR b c ≤ 0 → cmpR a c ≤ 0
 | [], _, [], _, _ => by simp [cmpR]
 | [], _, _ :: _, _, _ => by simp [cmpR]
 | _ :: _, [], _, h, _ => by simp [cmpR] at h
 | _ :: _, _ :: _, [], _, h => by simp [cmpR] at h
 | x :: a, y :: b, z :: c, h1, h2 => by
   have ih := cmpR_trans a b c
   simp only [cmpR] at h1 h2 ⊢
   have t1 := @cmpV_trans x y z
   have t2 := @cmpV_lt_of_le x y z
   have t3 := @cmpV_lt_of_lt x y z
   repeat' split at h1
   all_goals (repeat' split at h2)
   all_goals (repeat' split)
   all_goals first | (exact ih h1 h2) | omega
theorem cmpR_lt_of_lt {a b c : List Vl} (h1 : cmpR a b < 0) (h2 : cmpR b c ≤ 0) : cmpR a c < 0 := by
 rcases Int.lt_or_le (cmpR a c) 0 with h | h
 · exact h
 · have e1 := cmpR_anti a c
   have e2 := cmpR_anti a b
   have := cmpR_trans b c a h2 (by omega)
   omega
abbrev upR (l : List (List Vl)) : Prop := l.Pairwise (fun a b => cmpR a b ≤ 0)
abbrev ascR (l : List (List Vl)) : Prop := l.Pairwise (fun a b => cmpR a b < 0)
theorem mrgR_up : ∀ (a b : List (List Vl)), upR a → upR b → upR (mrgR a b)
 | [], b, _, h => by simpa [mrgR] using h
 | x :: a, [], h, _ => by simpa [mrgR] using h
 | x :: a, y :: b, h1, h2 => by
   rw [mrgR_cons]
   have k1 := List.pairwise_cons.1 h1
   have k2 := List.pairwise_cons.1 h2
   split
   · rename_i hc
     refine List.pairwise_cons.2 ⟨fun r hr => ?_, mrgR_up a (y :: b) k1.2 h2⟩
     rcases (mrgR_mem _ _ _).1 hr with h | h
     · exact k1.1 r h
     · rcases List.mem_cons.1 h with rfl | h
       · exact hc
       · exact cmpR_trans _ _ _ hc (k2.1 r h)
   · rename_i hc
     have hyx : cmpR y x ≤ 0 := by have := cmpR_anti x y; omega
     refine List.pairwise_cons.2 ⟨fun r hr => ?_, mrgR_up (x :: a) b h1 k2.2⟩
     rcases (mrgR_mem _ _ _).1 hr with h | h
     · rcases List.mem_cons.1 h with rfl | h
       · exact hyx
       · exact cmpR_trans _ _ _ hyx (k1.1 r h)
     · exact k2.1 r h
termination_by a b => a.length + b.length
theorem srtR_up (l : List (List Vl)) : upR (srtR l) := by
 induction h : l.length using Nat.strongRecOn generalizing l with
 | _ n ih =>
   subst h
   by_cases h2 : l.length < 2
   · rw [srtR_short h2]
     match l, h2 with
     | [], _ => exact List.Pairwise.nil
     | [x], _ => exact List.pairwise_singleton _ _
   · rw [srtR_long (by omega)]
     exact mrgR_up _ _ (ih _ (by simp; omega) _ rfl) (ih _ (by simp; omega) _ rfl)
theorem keepR_snoc (acc : List (List Vl)) (x r : List Vl) : keepR (acc ++ [x]) r = decide (cmpR x r ≠ 0) := by
 simp [keepR]
theorem dedup_asc : ∀ (l acc : List (List Vl)), ascR acc → upR l → (∀ x ∈ acc, ∀ y ∈ l, cmpR x y ≤ 0) → ascR (dedup acc l) ∧ ∀ r, r ∈ acc ∨ r ∈ l → r ∈ dedup acc l
 | [], acc, h, _, _ => ⟨h, fun r hr => hr.elim id (fun h => by cases h)⟩
 | y :: l, acc, h1, h2, h3 => by
   have k2 := List.pairwise_cons.1 h2
   unfold dedup
   by_cases hk : keepR acc y = true
   · rw [if_pos hk]
     have hlt : ∀ x ∈ acc, cmpR x y < 0 := by
      intro x hx
      have hne : acc ≠ [] := List.ne_nil_of_mem hx
      obtain ⟨acc', z, rfl⟩ : ∃ acc' z, acc = acc' ++ [z] := ⟨_, _, (List.dropLast_concat_getLast hne).symm⟩
      rw [keepR_snoc] at hk
      have hz := h3 z (by simp) y (by simp)
      have hzy : cmpR z y < 0 := by
       have := of_decide_eq_true hk
       omega
      rcases List.mem_append.1 hx with h | h
      · have := (List.pairwise_append.1 h1).2.2 x h z (by simp)
        exact cmpR_lt_of_lt this hz
      · have : x = z := by simpa using h
        rw [this]; exact hzy
     have hasc : ascR (acc ++ [y]) := List.pairwise_append.2 ⟨h1, List.pairwise_singleton _ _, fun a ha b hb => by
      have : b = y := by simpa using hb
      rw [this]; exact hlt a ha⟩
     have ih := dedup_asc l (acc ++ [y]) hasc k2.2 (fun x hx z hz => by
      rcases List.mem_append.1 hx with h | h
      · exact h3 x h z (List.mem_cons_of_mem _ hz)
      · have : x = y := by simpa using h
        rw [this]; exact k2.1 z hz)
     refine ⟨ih.1, fun r hr => ih.2 r ?_⟩
     rcases hr with h | h
     · exact .inl (List.mem_append_left _ h)
     · rcases List.mem_cons.1 h with rfl | h
       · exact .inl (by simp)
       · exact .inr h
   · rw [if_neg hk]
     have ih := dedup_asc l acc h1 k2.2 (fun x hx z hz => h3 x hx z (List.mem_cons_of_mem _ hz))
     refine ⟨ih.1, fun r hr => ih.2 r ?_⟩
     rcases hr with h | h
     · exact .inl h
     · rcases List.mem_cons.1 h with rfl | h
       · left
         by_cases hne : acc = []
         · subst hne; simp [keepR] at hk
         · obtain ⟨acc', z, rfl⟩ : ∃ acc' z, acc = acc' ++ [z] := ⟨_, _, (List.dropLast_concat_getLast hne).symm⟩
           rw [keepR_snoc] at hk
           have : cmpR z r = 0 := by simpa using hk
           rw [← (cmpR_zero z r).1 this]
           simp
       · exact .inr h
theorem setL_asc (l : List (List Vl)) : ascR (setL l) := (dedup_asc (srtR l) [] List.Pairwise.nil (srtR_up l) (fun x h => by cases h)).1
theorem setL_mem (l : List (List Vl)) (r : List Vl) : r ∈ setL l ↔ r ∈ l := by
 constructor
 · exact setL_sub l r
 · intro h
   exact (dedup_asc (srtR l) [] List.Pairwise.nil (srtR_up l) (fun x h => by cases h)).2 r (.inr ((srtR_mem l r).2 h))
def rngV (v : Vl) : Prop := minI ≤ v.i ∧ v.i ≤ 9223372036854775807
def SomeInt2 (w : World) (g : Nat) (e : Ending) (w' : World) : Prop := (∃ x : Int, (minI ≤ x ∧ x ≤ 9223372036854775807) ∧ e = .returned (.int .i64 x)) ∧ CaseAt w' g ∧ But (· = g) w w'
theorem number2_any (g : Nat) (w : World) (hc : CaseAt w g) :
 Calls Tryz.prog 146 #[.pointer (some ⟨g, 0, none⟩)] w fun e w' => SomeInt2 w g e w' := by
 go_enter Tryz.func146, Tryz.ntmps146
 go_wp2_with fail
 refine (int_any g 12 _ hc (by omega) (by omega)).mono ?_
 rintro e w1 ⟨⟨x, hx1, hx2, rfl⟩, hc1, hb1⟩
 go_wp2
 all_goals
  go_ret
  refine ⟨⟨_, ?_, rfl⟩, hc1, hb1⟩
  unfold minI
  constructor <;> omega
theorem cmpB_snoc0 : ∀ t q : List UInt8, cmpB t q < 0 → cmpB (t ++ [0]) q ≤ 0
 | [], [], h => by simp [cmpB] at h
 | [], b :: q, _ => by
   simp only [List.nil_append, cmpB]
   split
   · omega
   · split
     · rename_i h1 h2
       exact absurd h2 (UInt8.not_lt.2 (by rw [UInt8.le_iff_toNat_le]; simp))
     · cases q <;> simp [cmpB]
 | _ :: _, [], h => by simp [cmpB] at h
 | a :: t, b :: q, h => by
   have ih := cmpB_snoc0 t q
   simp only [List.cons_append, cmpB] at h ⊢
   repeat' split at h
   all_goals (repeat' split)
   all_goals first | omega | exact ih h
theorem cmpB_snoc_lt : ∀ t : List UInt8, cmpB t (t ++ [0]) < 0
 | [] => by simp [cmpB]
 | a :: t => by
   have ih := cmpB_snoc_lt t
   simp only [List.cons_append, cmpB, UInt8.lt_irrefl, if_false]
   exact ih
theorem cmpB_top : ∀ (n : Nat) (q : List UInt8), q.length ≤ n → ¬ cmpB (List.replicate n 255) q < 0
 | 0, [], _ => by simp [cmpB]
 | 0, _ :: _, h => by simp at h
 | n + 1, [], _ => by simp [List.replicate_succ, cmpB]
 | n + 1, b :: q, h => by
   have ih := cmpB_top n q (by simpa using h)
   rw [List.replicate_succ]
   simp only [cmpB]
   split
   · rename_i h1
     rw [UInt8.lt_iff_toNat_lt] at h1
     have := b.toNat_lt
     have e : (255 : UInt8).toNat = 255 := rfl
     omega
   · split
     · omega
     · exact ih
theorem u8_succ {c : UInt8} (h : c ≠ 255) : (c + 1).toNat = c.toNat + 1 := by
 have h1 : c.toNat ≠ 255 := fun e => h (UInt8.toNat_inj.1 e)
 have h2 := c.toNat_lt
 rw [UInt8.toNat_add]
 have e : (1 : UInt8).toNat = 1 := rfl
 omega
theorem cmpB_up (c : UInt8) (hc : c ≠ 255) (n : Nat) : ∀ (p q : List UInt8), q.length ≤ p.length + 1 + n → cmpB (p ++ c :: List.replicate n 255) q < 0 → cmpB (p ++ [c + 1]) q ≤ 0
 | [], [], _, h => by simp [cmpB] at h
 | [], b :: q, hl, h => by
   have e := u8_succ hc
   have ht := cmpB_top n q (by simp at hl; omega)
   simp only [List.nil_append, cmpB, UInt8.lt_iff_toNat_lt] at h ⊢
   repeat' split at h
   all_goals (repeat' split)
   all_goals first | omega | (cases q <;> simp [cmpB])
 | _ :: _, [], _, h => by simp [cmpB] at h
 | a :: p, b :: q, hl, h => by
   have ih := cmpB_up c hc n p q (by simp at hl ⊢; omega)
   simp only [List.cons_append, cmpB] at h ⊢
   repeat' split at h
   all_goals (repeat' split)
   all_goals first | omega | exact ih h
theorem cmpB_up_lt (c : UInt8) (hc : c ≠ 255) (n : Nat) : ∀ p : List UInt8, cmpB (p ++ c :: List.replicate n 255) (p ++ [c + 1]) < 0
 | [] => by
   have e := u8_succ hc
   simp only [List.nil_append, cmpB, UInt8.lt_iff_toNat_lt]
   split <;> omega
 | a :: p => by
   have ih := cmpB_up_lt c hc n p
   simp only [List.cons_append, cmpB, UInt8.lt_irrefl, if_false]
   exact ih
theorem strip_le (t : List UInt8) : ∀ n, strip t n ≤ n
 | 0 => by simp [strip]
 | n + 1 => by
   have := strip_le t n
   unfold strip
   split <;> omega
theorem strip_parts (t : List UInt8) : ∀ n, n ≤ t.length → strip t n ≠ 0 → ∃ c, c ≠ (255 : UInt8) ∧ t.getD (strip t n - 1) 0 = c ∧ t.take n = t.take (strip t n - 1) ++ c :: List.replicate (n - strip t n) 255
 | 0, _, h => absurd rfl h
 | n + 1, hn, h => by
   unfold strip at h ⊢
   by_cases hc : t.getD n 0 = 255
   · rw [if_pos hc] at h ⊢
     obtain ⟨c, h1, h2, h3⟩ := strip_parts t n (by omega) h
     refine ⟨c, h1, h2, ?_⟩
     have hl := strip_le t n
     rw [List.take_add_one, h3, List.getElem?_eq_getElem (by omega), List.append_assoc, List.cons_append]
     congr 2
     have : t[n]'(by omega) = 255 := by rw [← hc, List.getD_eq_getElem?_getD, List.getElem?_eq_getElem (by omega)]; rfl
     rw [Option.toList_some, this, show n + 1 - strip t n = (n - strip t n) + 1 by omega, List.replicate_succ']
   · rw [if_neg hc] at h ⊢
     refine ⟨t.getD n 0, hc, rfl, ?_⟩
     rw [Nat.add_sub_cancel, Nat.sub_self, List.replicate_zero, List.take_add_one, List.getElem?_eq_getElem (by omega)]
     congr 1
     rw [List.getD_eq_getElem?_getD, List.getElem?_eq_getElem (by omega)]
     rfl
theorem bytes_list (t : ByteArray) : t.toList = t.data.toList := ByteArray.toList_eq t
theorem app_list (t s : ByteArray) : (t ++ s).toList = t.toList ++ s.toList := by
 rw [bytes_list, bytes_list, bytes_list, ByteArray.data_append, Array.toList_append]
theorem nextT_good (t : ByteArray) (ht : t.size ≤ 64) : ((nextT t).2 = true → (nextT t).1.k = 5 ∧ (nextT t).1.i = 0 ∧ (nextT t).1.t.size ≤ 64 ∧ cmpB t.toList (nextT t).1.t.toList < 0 ∧ ∀ q : ByteArray, q.size ≤ 64 → cmpB t.toList q.toList < 0 → cmpB (nextT t).1.t.toList q.toList ≤ 0) ∧
 ((nextT t).2 = false → (nextT t).1 = zeroV) := by
 unfold nextT
 by_cases h1 : t.size < 64
 · rw [if_pos h1]
   refine ⟨fun _ => ⟨rfl, rfl, ?_, ?_, fun q hq hlt => ?_⟩, fun h => by cases h⟩
   · show (t ++ ⟨#[0]⟩ : ByteArray).size ≤ 64
     rw [ByteArray.size_append]
     have : (⟨#[0]⟩ : ByteArray).size = 1 := rfl
     omega
   · show cmpB t.toList (t ++ ⟨#[0]⟩ : ByteArray).toList < 0
     rw [app_list, bytes_list ⟨#[0]⟩]
     exact cmpB_snoc_lt _
   · show cmpB (t ++ ⟨#[0]⟩ : ByteArray).toList q.toList ≤ 0
     rw [app_list, bytes_list ⟨#[0]⟩]
     exact cmpB_snoc0 _ _ hlt
 · rw [if_neg h1]
   by_cases h2 : strip t.data.toList t.size = 0
   · rw [if_pos h2]
     exact ⟨(fun h => by cases h), fun _ => rfl⟩
   · rw [if_neg h2]
     have hsz : t.data.toList.length = t.size := by simp
     obtain ⟨c, c1, c2, c3⟩ := strip_parts t.data.toList t.size (by omega) h2
     have hle := strip_le t.data.toList t.size
     rw [List.take_of_length_le (by omega)] at c3
     have hu : (upT t (strip t.data.toList t.size)).toList = t.data.toList.take (strip t.data.toList t.size - 1) ++ [c + 1] := by
      rw [bytes_list]
      unfold upT
      rw [c2]
     have hus : (upT t (strip t.data.toList t.size)).size = (upT t (strip t.data.toList t.size)).toList.length := by rw [bytes_list]; simp
     clear c2
     generalize upT t (strip t.data.toList t.size) = U at *
     generalize strip t.data.toList t.size = s at *
     generalize t.data.toList.take (s - 1) = P at *
     have hlen := congrArg List.length c3
     simp only [List.length_append, List.length_cons, List.length_replicate] at hlen
     refine ⟨fun _ => ⟨rfl, rfl, ?_, ?_, fun q hq hlt => ?_⟩, fun h => by cases h⟩
     · show U.size ≤ 64
       rw [hus, hu]
       simp
       omega
     · show cmpB t.toList U.toList < 0
       rw [hu, bytes_list t, c3]
       exact cmpB_up_lt c c1 _ _
     · show cmpB U.toList q.toList ≤ 0
       rw [hu]
       rw [bytes_list t, c3] at hlt
       refine cmpB_up c c1 _ _ _ ?_ hlt
       have : q.toList.length = q.size := by rw [bytes_list]; simp
       omega
theorem text_nil {t : ByteArray} (h : t.toList.isEmpty = true) : t = ⟨#[]⟩ := by
 rw [zero_text]
 simpa using h
theorem valid_eq {v : Vl} (h : validV v = true) : (v.k = 1 ∧ v.i = 0 ∧ v.t = ⟨#[]⟩) ∨ (v.k = 2 ∧ v.i = 0 ∧ v.t = ⟨#[]⟩) ∨ (v.k = 3 ∧ (v.i = 0 ∨ v.i = 1) ∧ v.t = ⟨#[]⟩) ∨ (v.k = 4 ∧ v.t = ⟨#[]⟩) ∨ (v.k = 5 ∧ v.i = 0 ∧ v.t.size ≤ 64) := by
 unfold validV at h
 by_cases h12 : v.k = 1 ∨ v.k = 2
 · rw [if_pos h12, Bool.and_eq_true] at h
   have h1 : v.i = 0 := by simpa using h.1
   have h2 := text_nil h.2
   rcases h12 with e | e
   · exact .inl ⟨e, h1, h2⟩
   · exact .inr (.inl ⟨e, h1, h2⟩)
 · rw [if_neg h12] at h
   by_cases h3 : v.k = 3
   · rw [if_pos h3, Bool.and_eq_true] at h
     exact .inr (.inr (.inl ⟨h3, by simpa using h.1, text_nil h.2⟩))
   · rw [if_neg h3] at h
     by_cases h4 : v.k = 4
     · rw [if_pos h4] at h
       exact .inr (.inr (.inr (.inl ⟨h4, text_nil h⟩)))
     · rw [if_neg h4] at h
       by_cases h5 : v.k = 5
       · rw [if_pos h5, Bool.and_eq_true] at h
         exact .inr (.inr (.inr (.inr ⟨h5, by simpa using h.1, by simpa using h.2⟩)))
       · rw [if_neg h5] at h
         cases h
theorem cmpV_kind {a b : Vl} (h : a.k < b.k) : cmpV a b = -1 := by
 unfold cmpV
 rw [if_pos h]
theorem cmpV_num {a b : Vl} (h : a.k = b.k) (h2 : a.i < b.i) : cmpV a b = -1 := by
 unfold cmpV
 rw [if_neg (by omega), if_neg (by omega), if_pos h2]
theorem cmpV_text {a b : Vl} (h : a.k = b.k) (h2 : a.i = b.i) : cmpV a b = cmpB a.t.toList b.t.toList := by
 unfold cmpV
 rw [if_neg (by omega), if_neg (by omega), if_neg (by omega), if_neg (by omega)]
theorem lt_cases {a b : Vl} (h : cmpV a b < 0) : a.k < b.k ∨ (a.k = b.k ∧ a.i < b.i) ∨ (a.k = b.k ∧ a.i = b.i ∧ cmpB a.t.toList b.t.toList < 0) := by
 unfold cmpV at h
 repeat' split at h
 all_goals first | omega | skip
def NextGood (v : Vl) : Prop := ((nextV v).2 = true → validV (nextV v).1 = true ∧ rngV (nextV v).1 ∧ cmpV v (nextV v).1 < 0 ∧ ∀ q, validV q = true → rngV q → cmpV v q < 0 → cmpV (nextV v).1 q ≤ 0) ∧ ((nextV v).2 = false → (nextV v).1 = zeroV)
theorem next_of {v n : Vl} (e : nextV v = (n, true)) (h1 : validV n = true) (h2 : rngV n) (h3 : cmpV v n < 0) (h4 : ∀ q, validV q = true → rngV q → cmpV v q < 0 → cmpV n q ≤ 0) : NextGood v := by
 unfold NextGood
 rw [e]
 exact ⟨fun _ => ⟨h1, h2, h3, h4⟩, fun h => by cases h⟩
theorem nil_cmp : cmpB (⟨#[]⟩ : ByteArray).toList (⟨#[]⟩ : ByteArray).toList = 0 := cmpB_self _
theorem nil_le (q : List UInt8) : cmpB (⟨#[]⟩ : ByteArray).toList q ≤ 0 := by
 rw [bytes_list]
 cases q <;> simp [cmpB]
theorem nextV_good {v : Vl} (hv : validV v = true) (hr : rngV v) : NextGood v := by
 obtain ⟨k, i, t⟩ := v
 have hm : minI = -9223372036854775808 := rfl
 unfold rngV at hr
 rw [hm] at hr
 dsimp only at hr
 rcases valid_eq hv with ⟨h1, h2, h3⟩ | ⟨h1, h2, h3⟩ | ⟨h1, h2, h3⟩ | ⟨h1, h3⟩ | ⟨h1, h2, h3⟩
 · simp only at h1 h2 h3
   subst h1 h2 h3
   refine next_of (n := ⟨2, 0, ⟨#[]⟩⟩) (by decide +kernel) (by decide +kernel) ⟨by simp [hm], by simp⟩ (by decide +kernel) fun q hq hrq hlt => ?_
   rcases valid_eq hq with ⟨a1, a2, a3⟩ | ⟨a1, a2, a3⟩ | ⟨a1, a2, a3⟩ | ⟨a1, a3⟩ | ⟨a1, a2, a3⟩
   · rcases lt_cases hlt with h | ⟨_, h⟩ | ⟨_, _, h⟩
     · simp only at h; omega
     · simp only at h; omega
     · rw [a3, nil_cmp] at h; omega
   · rw [cmpV_text a1.symm a2.symm]; exact nil_le _
   all_goals (rw [cmpV_kind (by simp only; omega)]; omega)
 · simp only at h1 h2 h3
   subst h1 h2 h3
   refine next_of (n := ⟨3, 0, ⟨#[]⟩⟩) (by decide +kernel) (by decide +kernel) ⟨by simp [hm], by simp⟩ (by decide +kernel) fun q hq hrq hlt => ?_
   rcases valid_eq hq with ⟨a1, a2, a3⟩ | ⟨a1, a2, a3⟩ | ⟨a1, a2, a3⟩ | ⟨a1, a3⟩ | ⟨a1, a2, a3⟩
   · rcases lt_cases hlt with h | ⟨h', h⟩ | ⟨h', _, h⟩
     · simp only at h; omega
     · simp only at h'; omega
     · simp only at h'; omega
   · rcases lt_cases hlt with h | ⟨_, h⟩ | ⟨_, _, h⟩
     · simp only at h; omega
     · simp only at h; omega
     · rw [a3, nil_cmp] at h; omega
   · rcases a2 with a2 | a2
     · rw [cmpV_text a1.symm a2.symm]; exact nil_le _
     · rw [cmpV_num a1.symm (by simp only; omega)]; omega
   all_goals (rw [cmpV_kind (by simp only; omega)]; omega)
 · simp only at h1 h2 h3
   subst h1 h3
   rcases h2 with rfl | rfl
   · refine next_of (n := ⟨3, 1, ⟨#[]⟩⟩) (by decide +kernel) (by decide +kernel) ⟨by simp [hm], by simp⟩ (by decide +kernel) fun q hq hrq hlt => ?_
     rcases valid_eq hq with ⟨a1, a2, a3⟩ | ⟨a1, a2, a3⟩ | ⟨a1, a2, a3⟩ | ⟨a1, a3⟩ | ⟨a1, a2, a3⟩
     · rcases lt_cases hlt with h | ⟨h', h⟩ | ⟨h', _, h⟩
       · simp only at h; omega
       · simp only at h'; omega
       · simp only at h'; omega
     · rcases lt_cases hlt with h | ⟨h', h⟩ | ⟨h', _, h⟩
       · simp only at h; omega
       · simp only at h'; omega
       · simp only at h'; omega
     · rcases a2 with a2 | a2
       · rcases lt_cases hlt with h | ⟨_, h⟩ | ⟨_, _, h⟩
         · simp only at h; omega
         · simp only at h; omega
         · rw [a3, nil_cmp] at h; omega
       · rw [cmpV_text a1.symm a2.symm]; exact nil_le _
     all_goals (rw [cmpV_kind (by simp only; omega)]; omega)
   · refine next_of (n := ⟨4, minI, ⟨#[]⟩⟩) (by decide +kernel) (by decide +kernel) ⟨by simp, by simp [hm]⟩ (by decide +kernel) fun q hq hrq hlt => ?_
     rcases valid_eq hq with ⟨a1, a2, a3⟩ | ⟨a1, a2, a3⟩ | ⟨a1, a2, a3⟩ | ⟨a1, a3⟩ | ⟨a1, a2, a3⟩
     · rcases lt_cases hlt with h | ⟨h', h⟩ | ⟨h', _, h⟩
       · simp only at h; omega
       · simp only at h'; omega
       · simp only at h'; omega
     · rcases lt_cases hlt with h | ⟨h', h⟩ | ⟨h', _, h⟩
       · simp only at h; omega
       · simp only at h'; omega
       · simp only at h'; omega
     · rcases lt_cases hlt with h | ⟨_, h⟩ | ⟨_, h', h⟩
       · simp only at h; omega
       · simp only at h; rcases a2 with a2 | a2 <;> omega
       · rw [a3, nil_cmp] at h; omega
     · rcases Int.lt_or_le minI q.i with h | h
       · rw [cmpV_num a1.symm h]; omega
       · rw [cmpV_text a1.symm (by have := hrq.1; simp only; omega)]; exact nil_le _
     · rw [cmpV_kind (by simp only; omega)]; omega
 · simp only at h1 h3
   subst h1 h3
   by_cases hl : i < 9223372036854775807
   · have e : nextV ⟨4, i, ⟨#[]⟩⟩ = (⟨4, i + 1, ⟨#[]⟩⟩, true) := by
      unfold nextV
      rw [if_pos hv, if_neg (by simp), if_pos ⟨rfl, hl⟩]
      have : wrap64 (i + 1) = i + 1 := by
       unfold wrap64
       omega
      rw [this]
     refine next_of e (by simp [validV, bytes_list]) ⟨by show minI ≤ i + 1; rw [hm]; omega, by show i + 1 ≤ 9223372036854775807; omega⟩ ?_ fun q hq hrq hlt => ?_
     · rw [cmpV_num (a := ⟨4, i, ⟨#[]⟩⟩) (b := ⟨4, i + 1, ⟨#[]⟩⟩) rfl (by simp only; omega)]; omega
     · rcases valid_eq hq with ⟨a1, a2, a3⟩ | ⟨a1, a2, a3⟩ | ⟨a1, a2, a3⟩ | ⟨a1, a3⟩ | ⟨a1, a2, a3⟩
       iterate 3
        · rcases lt_cases hlt with h | ⟨h', h⟩ | ⟨h', _, h⟩
          · simp only at h; omega
          · simp only at h'; omega
          · simp only at h'; omega
       · rcases lt_cases hlt with h | ⟨_, h⟩ | ⟨_, _, h⟩
         · simp only at h; omega
         · simp only at h
           rcases Int.lt_or_le (i + 1) q.i with h5 | h5
           · rw [cmpV_num a1.symm h5]; omega
           · rw [cmpV_text a1.symm (by simp only; omega)]; exact nil_le _
         · rw [a3, nil_cmp] at h; omega
       · rw [cmpV_kind (by simp only; omega)]; omega
   · refine next_of (n := ⟨5, 0, ⟨#[]⟩⟩) (nextV_top hv hl) (by decide +kernel) ⟨by simp [hm], by simp⟩ (by rw [cmpV_kind (by simp)]; omega) fun q hq hrq hlt => ?_
     rcases valid_eq hq with ⟨a1, a2, a3⟩ | ⟨a1, a2, a3⟩ | ⟨a1, a2, a3⟩ | ⟨a1, a3⟩ | ⟨a1, a2, a3⟩
     iterate 3
      · rcases lt_cases hlt with h | ⟨h', h⟩ | ⟨h', _, h⟩
        · simp only at h; omega
        · simp only at h'; omega
        · simp only at h'; omega
     · rcases lt_cases hlt with h | ⟨_, h⟩ | ⟨_, _, h⟩
       · simp only at h; omega
       · simp only at h; have := hrq.2; omega
       · rw [a3, nil_cmp] at h; omega
     · rw [cmpV_text a1.symm a2.symm]; exact nil_le _
 · simp only at h1 h2 h3
   subst h1 h2
   have e : nextV ⟨5, 0, t⟩ = nextT t := by
    unfold nextV
    rw [if_pos hv, if_neg (by simp), if_neg (by simp), if_pos rfl]
   obtain ⟨g1, g2⟩ := nextT_good t h3
   unfold NextGood
   rw [e]
   refine ⟨fun h => ?_, g2⟩
   obtain ⟨b1, b2, b3, b4, b5⟩ := g1 h
   generalize (nextT t).1 = n at *
   obtain ⟨nk, ni, nt⟩ := n
   simp only at b1 b2 b3 b4 b5
   subst b1 b2
   refine ⟨by simp [validV]; omega, ⟨by simp [hm], by simp⟩, by rw [cmpV_text (a := ⟨5, 0, t⟩) (b := ⟨5, 0, nt⟩) rfl rfl]; exact b4, fun q hq hrq hlt => ?_⟩
   rcases valid_eq hq with ⟨a1, a2, a3⟩ | ⟨a1, a2, a3⟩ | ⟨a1, a2, a3⟩ | ⟨a1, a3⟩ | ⟨a1, a2, a3⟩
   iterate 4
    · rcases lt_cases hlt with h | ⟨h', h⟩ | ⟨h', _, h⟩
      · simp only at h; omega
      · simp only at h'; omega
      · simp only at h'; omega
   · rcases lt_cases hlt with h | ⟨_, h⟩ | ⟨_, _, h⟩
     · simp only at h; omega
     · simp only at h; omega
     · rw [cmpV_text a1.symm a2.symm]
       exact b5 q.t a3 h
abbrev LstP := Hd × List Iv
def lstc (p : LstP) : List Value := [.slice p.1.1 p.1.2.1 p.1.2.2]
structure LstOk (w : World) (p : LstP) : Prop where
 rd : IvS w p.1.1 p.1.2.1 p.2
 sm : p.1.2.1 ≤ 64
theorem LstOk.keep {w w' : World} {p : LstP} (h : LstOk w p) (hk : Keeps w w') : LstOk w' p := ⟨h.rd.keep hk, h.sm⟩
structure LstsS (w : World) (A : Option Addr) (n : Nat) (ps : List LstP) : Prop where
 sl : Sl 1 lstc w A n ps
 ok : ∀ p ∈ ps, LstOk w p
theorem LstsS.keep {w w' : World} {A : Option Addr} {n : Nat} {ps : List LstP} (h : LstsS w A n ps) (hk : Keeps w w') : LstsS w' A n ps := ⟨h.sl.keep hk, fun p hp => (h.ok p hp).keep hk⟩
structure PSt (w0 : World) (col : List Vl) (Ao : Option Addr) (no co : Nat) (wr : World) : Prop where
 ex : ∃ qs : List RowP, qs.map (·.2) = col.map (fun v => [v]) ∧ wr.ownsRow w0.heap.size 53 1 (.slice Ao no co) no (qs.flatMap rowc) ∧ ∀ q ∈ qs, OwnRow wr w0.heap.size q
 len : col.length = no
 bel : Below w0.heap.size w0 wr
theorem PSt.below {w0 : World} {col : List Vl} {Ao : Option Addr} {no co : Nat} {wr wr' : World} (h : PSt w0 col Ao no co wr) (hb : Below wr.heap.size wr wr') : PSt w0 col Ao no co wr' := by
 obtain ⟨qs, h1, h2, h3⟩ := h.ex
 exact ⟨⟨qs, h1, own_at h2 (fun g _ hl _ => hb.block g hl), fun q hq => (h3 q hq).below hb⟩, h.len, Below.next h.bel hb⟩
def ptsR (ls : List (List Iv)) : List Vl := ls.flatMap ptsL
set_option maxHeartbeats 1000000 in
theorem ivvalid_any (A : Option Addr) (n c : Nat) (l : List Iv) (w : World) (hn : n ≤ 64) (hs : IvS w A n l) :
 Calls Tryz.prog 159 #[.slice A n c] w fun e w' => e = .returned (.bool (ordFrom none l)) ∧ Below w.heap.size w w' := by
 have Hs := zH hs
 have hln := hs.len
 clear hs
 go_enter Tryz.func159, Tryz.ntmps159
 go_wp2
 go_loopw [10] (fun i wr => ∃ k : Nat, k ≤ n ∧ i = .int .i64 (k : Int) ∧ Hid (ordFrom none l = ordFrom (prevI l k) (l.drop k)) ∧ Below w.heap.size w wr) (fun i _ => n - (intOf i).toNat)
 case atStart => exact ⟨0, by omega, rfl, by simp [Hid, prevI], Below.refl _ _⟩
 case round =>
  obtain ⟨k, hk, rfl, hinv, hb⟩ := hrel
  by_cases hlt : k < n
  · have hS := Hs.out.keep (keeps_of hb)
    obtain ⟨b, o, x, rfl, hx, hc⟩ := hS.at hlt
    have hi := ord_step hx hinv.out
    obtain ⟨⟨fk, fi, ft⟩, ⟨tk, ti, tt⟩, xo⟩ := x
    obtain ⟨c0, c1, c2, c3, c4, c5, c6⟩ := IvAt.of hc
    dsimp only at c0 c1 c2 c3 c4 c5 c6
    rw [okI_eq] at hi
    obtain ⟨lst, Hl⟩ : ∃ lst, Hid (decide (k + 1 = l.length) = lst) := ⟨_, rfl⟩
    rw [Hl.out] at hi
    obtain ⟨pok, Hp⟩ : ∃ pok, Hid (prevOk (prevI l k) ⟨fk, fi, ft⟩ = pok) := ⟨_, rfl⟩
    rw [Hp.out] at hi
    have Hi := zH hi
    clear hi hinv hc hx
    go_wp2_with (first | (go_at_call 125; refine (valid_any ⟨_, _, _⟩ _).mono ?_; rintro e w1 ⟨rfl, hb1⟩))
    · go_ret
      refine ⟨ret_bool ?_, ?_⟩
      · rw [Hi.out]; simp_all
      · exact Below.next (hb.alloc hb.size _) hb1
    · have hK1 := keeps_of hb1
      obtain ⟨e0, e1, e2, e3, e4, e5, e6⟩ := (IvAt.new wr 187 ⟨⟨fk, fi, ft⟩, ⟨tk, ti, tt⟩, xo⟩).keep hK1
      dsimp only at e0 e1 e2 e3 e4 e5 e6
      simp only [Nat.zero_add] at e1 e2 e3 e4 e5 e6
      clear c0 c1 c2 c3 c4 c5 c6
      have hca := @cell_after w1
      refine wp_region_later (by kernel_rfl) (by kernel_rfl) ?_
      rcases Nat.eq_zero_or_pos k with hk0 | hk0
      · have g0 : decide (0 < k) = false := by simp [hk0]
        obtain rfl : pok = true := by rw [← Hp.out, hk0]; rfl
        clear hk0
        clear hS
        repeat (go_big_quiet_step (fail))
        refine wpQuiet_nil ?_
        intro w2 hb2
        have hB := Below.next (hb.alloc hb.size _) (Below.next hb1 hb2)
        have hX := (IvAt.new wr 187 ⟨⟨fk, fi, ft⟩, ⟨tk, ti, tt⟩, xo⟩).keep (hK1.trans (keeps_of hb2))
        clear hb1 e0 e1 e2 e3 e4 e5 e6 hca hK1 g0
        obtain ⟨e0, e1, e2, e3, e4, e5, e6⟩ := hX
        dsimp only at e0 e1 e2 e3 e4 e5 e6
        simp only [Nat.zero_add] at e1 e2 e3 e4 e5 e6
        go_wp2_with (first
         | (go_at_call 125; refine (valid_any ⟨_, _, _⟩ _).mono ?_; rintro e w3 ⟨rfl, hb3⟩; replace hB := Below.next hB hb3; have hk3 := bcell hb3)
         | (go_at_call 93; refine (compare_any ⟨_, _, _⟩ ⟨_, _, _⟩ _).mono ?_; rintro e w4 ⟨rfl, hb4⟩; replace hB := Below.next hB hb4))
        all_goals
         have hl := Hl.out
         have hi := Hi.out
         first
          | (go_ret
             refine ⟨ret_bool ?_, hB⟩
             rw [hi]
             first | (simp [*]; done) | (simp [*]; intros; omega) | (obtain rfl : lst = false := (by rw [← hl]; simp; omega); simp [*]))
          | (go_roundw
             case rel =>
              refine ⟨k + 1, by omega, by go_num, ?_, hB⟩
              show _ = _
              rw [hi]
              first | (simp_all; done) | (obtain rfl : lst = true := (by rw [← hl]; simp; omega); simp_all)
             case measure => simp [intOf]; omega)
      · have g0 : decide (0 < k) = true := by simp [hk0]
        obtain ⟨b', o', y, hA, hy, hd⟩ := hS.at (show k - 1 < n by omega)
        obtain ⟨rfl, rfl⟩ : b = b' ∧ o = o' := by injection hA with h; injection h with h1 h2; exact ⟨h1, h2⟩
        obtain ⟨⟨pk, pi, pt⟩, ⟨qk, qi, qt⟩, yo⟩ := y
        obtain ⟨d3, d4, d5⟩ := (IvAt.of hd).to_.keep ((keeps_alloc _ _).trans hK1)
        dsimp only at d3 d4 d5
        obtain rfl : decide (cmpV ⟨qk, qi, qt⟩ ⟨fk, fi, ft⟩ < 0) = pok := by
         rw [← Hp.out]
         have : prevI l k = l[k - 1]? := by obtain ⟨j, rfl⟩ : ∃ j, k = j + 1 := ⟨k - 1, by omega⟩; rfl
         rw [this, hy]; rfl
        clear hy hd hA hS
        repeat (go_big_quiet_step (first | (go_at_call 93; exact later_of (compare_any ⟨_, _, _⟩ ⟨_, _, _⟩ _))))
        refine wpQuiet_nil ?_
        intro w2 hb2
        have hB := Below.next (hb.alloc hb.size _) (Below.next hb1 hb2)
        have hX := (IvAt.new wr 187 ⟨⟨fk, fi, ft⟩, ⟨tk, ti, tt⟩, xo⟩).keep (hK1.trans (keeps_of hb2))
        clear hb1 e0 e1 e2 e3 e4 e5 e6 hca hK1 g0 d3 d4 d5
        obtain ⟨e0, e1, e2, e3, e4, e5, e6⟩ := hX
        dsimp only at e0 e1 e2 e3 e4 e5 e6
        simp only [Nat.zero_add] at e1 e2 e3 e4 e5 e6
        go_wp2_with (first
         | (go_at_call 125; refine (valid_any ⟨_, _, _⟩ _).mono ?_; rintro e w3 ⟨rfl, hb3⟩; replace hB := Below.next hB hb3; have hk3 := bcell hb3)
         | (go_at_call 93; refine (compare_any ⟨_, _, _⟩ ⟨_, _, _⟩ _).mono ?_; rintro e w4 ⟨rfl, hb4⟩; replace hB := Below.next hB hb4))
        all_goals
         have hl := Hl.out
         have hi := Hi.out
         first
          | (go_ret
             refine ⟨ret_bool ?_, hB⟩
             rw [hi]
             first | (simp [*]; done) | (simp [*]; intros; omega) | (obtain rfl : lst = false := (by rw [← hl]; simp; omega); simp [*]))
          | (go_roundw
             case rel =>
              refine ⟨k + 1, by omega, by go_num, ?_, hB⟩
              show _ = _
              rw [hi]
              first | (simp_all; done) | (obtain rfl : lst = true := (by rw [← hl]; simp; omega); simp_all)
             case measure => simp [intOf]; omega)
  · go_wp2
    go_ret
    exact ⟨ret_bool (by rw [hinv.out]; have hkl : k = l.length := (by have := Hs.out.len; omega); subst hkl; simp [ordFrom]), hb⟩
theorem validLong (A : Option Addr) (n c : Nat) (w : World) (hn : 64 < n) :
 Calls Tryz.prog 159 #[.slice A n c] w fun e w' => e = .returned (.bool false) ∧ Below w.heap.size w w' := by
 go_enter Tryz.func159, Tryz.ntmps159
 go_wp2
 go_ret
 exact ⟨rfl, Below.refl _ _⟩
theorem validL_any (A : Option Addr) (n c : Nat) (l : List Iv) (w : World) (hs : IvS w A n l) :
 Calls Tryz.prog 159 #[.slice A n c] w fun e w' => e = .returned (.bool (validL l)) ∧ Below w.heap.size w w' := by
 have hl := hs.len
 rcases Nat.lt_or_ge 64 n with h | h
 · have : validL l = false := by simp [validL]; omega
   rw [this]
   exact validLong A n c w h
 · have : validL l = ordFrom none l := by simp [validL]; omega
   rw [this]
   exact ivvalid_any A n c l w h hs
theorem opI_any (x y : Bool) (w : World) : Calls Tryz.prog 240 #[.bool x, .bool y] w fun e w' => e = .returned (.bool (x && y)) ∧ w = w' := by
 cases x <;> cases y <;>
 · go_enter Tryz.func240, Tryz.ntmps240
   go_wp2
   go_ret
   exact ⟨rfl, rfl⟩
def combineL (op : Bool → Bool → Bool) (a b : List Iv) : List Iv × Int :=
 if validL a && validL b then (if (mergeL op a b).length ≤ 64 then (mergeL op a b, 0) else ([], 2)) else ([], 30)
def IvRes (w : World) (r : List Iv × Int) (e : Ending) (w' : World) : Prop :=
 ∃ (A' : Option Addr) (c' : Nat), e = .returned (.tuple #[.slice A' r.1.length c', .int .i64 r.2]) ∧ IvS w' A' r.1.length r.1 ∧ Below w.heap.size w w'
theorem ivres_nil {w w' : World} {r : List Iv × Int} {x : Int} (h : r = ([], x)) (hb : Below w.heap.size w w') : IvRes w r (.returned (.tuple #[.slice none 0 0, .int .i64 x])) w' := by
 subst h
 exact ⟨none, 0, rfl, Sl.nil, hb⟩
set_option maxHeartbeats 1000000 in
theorem combine_any (F : Nat) (op : Bool → Bool → Bool) (hent : ∀ args w, (callFunc F args).run Tryz.prog w = .ok (.enter F args) w)
 (hop : ∀ x y W, Calls Tryz.prog F #[.bool x, .bool y] W fun e w' => e = .returned (.bool (op x y)) ∧ W = w')
 (A B : Option Addr) (n m ca cb : Nat) (la lb : List Iv) (w : World) (hA : IvS w A n la) (hB : IvS w B m lb) :
 Calls Tryz.prog 220 #[.slice A n ca, .slice B m cb, .func (.func F) #[] #[]] w fun e w' => IvRes w (combineL op la lb) e w' := by
 have Hop := zH hop
 have HA := zH hA
 have HB := zH hB
 have hln := hA.len
 have hlm := hB.len
 have Hln := zH hln
 have Hlm := zH hlm
 clear hop hA hB hln hlm
 obtain ⟨va, Hva⟩ : ∃ va, Hid (validL la = va) := ⟨_, rfl⟩
 obtain ⟨vb, Hvb⟩ : ∃ vb, Hid (validL lb = vb) := ⟨_, rfl⟩
 go_enter Tryz.func220, Tryz.ntmps220
 go_wp2_with fail
 refine (validL_any A n ca la _ HA.out).mono ?_
 rintro e w1 ⟨rfl, hb1⟩
 rw [Hva.out]
 cases va
 · go_wp2
   go_ret2
   exact ivres_nil (by simp [combineL, Hva.out]) hb1
 · go_wp2_with fail
   refine (validL_any B m cb lb _ (HB.out.keep (keeps_of hb1))).mono ?_
   rintro e w2 ⟨rfl, hb2⟩
   rw [Hvb.out]
   have hb2' := Below.next hb1 hb2
   cases vb
   · go_wp2
     go_ret2
     exact ivres_nil (by simp [combineL, Hva.out, Hvb.out]) hb2'
   · have hn : n ≤ 64 := by have h := Hva.out; have := Hln.out; simp [validL] at h; omega
     have hm : m ≤ 64 := by have h := Hvb.out; have := Hlm.out; simp [validL] at h; omega
     have hK := keeps_of hb2'
     go_wp2_with fail
     refine (merge_any F op hent Hop.out A B n m ca cb la lb _ hn hm (HA.out.keep hK) (HB.out.keep hK)).mono ?_
     rintro e w3 ⟨A3, c3, rfl, hS3, hb3⟩
     have hb3' := Below.next hb2' hb3
     have HS3 := zH hS3
     clear hS3 hK
     rcases Nat.lt_or_ge 64 (mergeL op la lb).length with h64 | h64
     · go_wp2
       go_ret2
       exact ivres_nil (by simp [combineL, Hva.out, Hvb.out]; omega) hb3'
     · go_wp2
       go_ret2
       have hr : combineL op la lb = (mergeL op la lb, 0) := by simp [combineL, Hva.out, Hvb.out]; omega
       rw [hr]
       exact ⟨A3, c3, rfl, HS3.out, hb3'⟩
def opU : Bool → Bool → Bool := fun x y => x || y
def opI : Bool → Bool → Bool := fun x y => x && y
def opM : Bool → Bool → Bool := fun x y => x && !y
theorem entI : ∀ args w, (callFunc 240 args).run Tryz.prog w = .ok (.enter 240 args) w := Go.Proofs.enters_of Tryz.func240 (by kernel_rfl) rfl
theorem intersect_any (A B : Option Addr) (n m ca cb : Nat) (la lb : List Iv) (w : World) (hA : IvS w A n la) (hB : IvS w B m lb) :
 Calls Tryz.prog 202 #[.slice A n ca, .slice B m cb] w fun e w' => IvRes w (combineL opI la lb) e w' := by
 have HA := zH hA
 have HB := zH hB
 clear hA hB
 go_enter Tryz.func202, Tryz.ntmps202
 go_wp2_with fail
 refine (combine_any 240 opI entI opI_any A B n m ca cb la lb _ HA.out HB.out).mono ?_
 rintro e w1 ⟨A1, c1, rfl, hS1, hb1⟩
 have HS1 := zH hS1
 clear hS1
 go_wp2
 go_ret2
 exact ⟨A1, c1, rfl, HS1.out, hb1⟩
def allL : List Iv := [⟨⟨1, 0, ⟨#[]⟩⟩, zeroV, true⟩]
theorem iv_one {w : World} {g : Nat} {T : TypeId} {x : Iv} (h : Blk w g T #[.int .i64 x.f.k, .int .i64 x.f.i, .string x.f.t, .int .i64 x.t.k, .int .i64 x.t.i, .string x.t.t, .bool x.o]) : IvS w (some ⟨g, 0, none⟩) 1 [x] := by
 refine ⟨rfl, fun _ => ⟨g, 0, rfl, fun k y hy j u hu => ?_⟩⟩
 obtain ⟨rfl, rfl⟩ : k = 0 ∧ x = y := by
  rcases k with _ | k
  · exact ⟨rfl, by simpa using hy⟩
  · simp at hy
 rw [show 0 + 0 * 7 + j = j by omega, h.cell]
 simpa [Iv.cs] using hu
def fromL (f : Vl) : List Iv × Int := if validV f then ([⟨f, zeroV, true⟩], 0) else ([], 10)
theorem opU_any (x y : Bool) (w : World) : Calls Tryz.prog 222 #[.bool x, .bool y] w fun e w' => e = .returned (.bool (x || y)) ∧ w = w' := by
 cases x <;> cases y <;>
 · go_enter Tryz.func222, Tryz.ntmps222
   go_wp2
   go_ret
   exact ⟨rfl, rfl⟩
theorem opM_any (x y : Bool) (w : World) : Calls Tryz.prog 221 #[.bool x, .bool y] w fun e w' => e = .returned (.bool (x && !y)) ∧ w = w' := by
 cases x <;> cases y <;>
 · go_enter Tryz.func221, Tryz.ntmps221
   go_wp2
   go_ret
   exact ⟨rfl, rfl⟩
theorem entU : ∀ args w, (callFunc 222 args).run Tryz.prog w = .ok (.enter 222 args) w := Go.Proofs.enters_of Tryz.func222 (by kernel_rfl) rfl
theorem entM : ∀ args w, (callFunc 221 args).run Tryz.prog w = .ok (.enter 221 args) w := Go.Proofs.enters_of Tryz.func221 (by kernel_rfl) rfl
end Go.Proofs.YtnnmlhmffnfjfaaGreat
