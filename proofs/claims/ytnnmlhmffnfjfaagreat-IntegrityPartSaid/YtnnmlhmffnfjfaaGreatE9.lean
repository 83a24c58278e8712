/-
  Texts: GroupM, Sm, FMem, RPoints, IvOps, Has, RIn, FA, RegionT, Group, CombS, Comb0, FCopy, Join.
-/
import Derived.Test.YtnnmlhmffnfjfaaGreatE8
import Derived.Maps.OwnOps
import Derived.Maps.RangeWalk
import Derived.Deep.DeepCutAuto
set_option linter.unusedVariables false
/-
  Words for the state of the program's combine: regions that lie in fresh memory, the parts under way, the bytes as a string. No program of ours walks here.
-/
namespace Go.Proofs.YtnnmlhmffnfjfaaGreat
open Go.RowKit
set_option maxRecDepth 100000
open Rg

/-- the region reads in every world that has these blocks -/
def RgF (lo hi : Nat) (w : World) (x : Int) (f : Bool) (A : Option Addr) (n c : Nat) (r : Rg) : Prop :=
  ∀ w' : World, (∀ k, lo ≤ k → k < hi → w'.heap[k]? = w.heap[k]?) → RgS w' x f A n c r
theorem RgF.s {lo hi : Nat} {w : World} {x : Int} {f : Bool} {A : Option Addr} {n c : Nat} {r : Rg} (h : RgF lo hi w x f A n c r) : RgS w x f A n c r := h w fun _ _ _ => rfl
theorem RgF.keep {lo hi : Nat} {w w' : World} {x : Int} {f : Bool} {A : Option Addr} {n c : Nat} {r : Rg} (h : RgF lo hi w x f A n c r) (hk : ∀ k, lo ≤ k → k < hi → w'.heap[k]? = w.heap[k]?) : RgF lo hi w' x f A n c r :=
  fun w'' h2 => h w'' fun k h3 h4 => (h2 k h3 h4).trans (hk k h3 h4)
theorem RgF.wide {lo hi lo' hi' : Nat} {w : World} {x : Int} {f : Bool} {A : Option Addr} {n c : Nat} {r : Rg} (h : RgF lo hi w x f A n c r) (h1 : lo' ≤ lo) (h2 : hi ≤ hi') : RgF lo' hi' w x f A n c r :=
  fun w' h3 => h w' fun k h4 h5 => h3 k (by omega) (by omega)
theorem RgF.nil {lo hi : Nat} {w : World} (x : Int) (f : Bool) : RgF lo hi w x f none 0 0 (.nil x f) := fun _ _ => RgS.nil x f

/-- a part under way: where its values lie, its rest, and between which blocks the rest lies -/
structure PM where
  A1 : Option Addr
  n1 : Nat
  c1 : Nat
  vs : List Iv
  x : Int
  f : Bool
  A2 : Option Addr
  n2 : Nat
  c2 : Nat
  r : Rg
  lo : Nat
  hi : Nat
def PM.vv (m : PM) : Value := .slice m.A1 m.n1 m.c1
def PM.cs (m : PM) : List Value := [.slice m.A1 m.n1 m.c1, .int .i64 m.x, .bool m.f, .slice m.A2 m.n2 m.c2]
def PM.pr (m : PM) : List Iv × Rg := (m.vs, m.r)
theorem PM.cs_len (m : PM) : (PM.cs m).length = 4 := rfl
structure PM.Ok (B : Nat) (w : World) (m : PM) : Prop where
  own : w.ownsRow B 187 7 m.vv m.n1 (m.vs.flatMap Iv.cs)
  len : m.vs.length = m.n1
  rg : RgF m.lo m.hi w m.x m.f m.A2 m.n2 m.c2 m.r
  lo : B ≤ m.lo
  hi : m.hi ≤ w.heap.size
structure PartsIn (B : Nat) (w : World) (A : Option Addr) (n c : Nat) (ms : List PM) : Prop where
  own : w.ownsRow B 141 4 (.slice A n c) n (ms.flatMap PM.cs)
  len : ms.length = n
  ok : ∀ m ∈ ms, m.Ok B w
  apart : ms.Pairwise (fun m m' => ∀ k, m.vv.ownBlock = some k → m'.vv.ownBlock ≠ some k)
  far : ∀ m ∈ ms, ∀ k, m.lo ≤ k → k < m.hi → (Value.slice A n c).ownBlock ≠ some k ∧ ∀ m' ∈ ms, m'.vv.ownBlock ≠ some k
theorem own_lt {w : World} {base : Nat} {e : TypeId} {size n : Nat} {v : Value} {xs : List Value} (h : w.ownsRow base e size v n xs) {k : Nat} (hk : v.ownBlock = some k) : base ≤ k ∧ k < w.heap.size ∧ ∃ cs, w.heap[k]? = some (.cells cs e (0, 0)) := by
  rcases h.2 with ⟨rfl, _⟩ | ⟨g, cap, cur, rfl, hg, hh, _⟩
  · simp [Value.ownBlock] at hk
  · simp only [Value.ownBlock, Option.some.injEq] at hk
    subst hk
    exact ⟨hg, Blk.lt (T := e) (cs := cur) hh, cur, hh⟩
/-- rows of two types are two blocks -/
theorem own_types {w : World} {b1 b2 : Nat} {e1 e2 : TypeId} {s1 s2 n1 n2 : Nat} {v1 v2 : Value} {x1 x2 : List Value} (h1 : w.ownsRow b1 e1 s1 v1 n1 x1) (h2 : w.ownsRow b2 e2 s2 v2 n2 x2) (hne : e1 ≠ e2) {k : Nat} (hk : v1.ownBlock = some k) : v2.ownBlock ≠ some k := fun hk2 => by
  obtain ⟨_, _, c1, a1⟩ := own_lt h1 hk
  obtain ⟨_, _, c2, a2⟩ := own_lt h2 hk2
  rw [a1] at a2
  injection a2 with a2
  injection a2 with _ a2
  exact hne a2
theorem own_but {w w' : World} {base : Nat} {e : TypeId} {size n : Nat} {v : Value} {xs : List Value} {S : Nat → Prop} (h : w.ownsRow base e size v n xs) (hb : But S w w') (hs : ∀ k, v.ownBlock = some k → ¬ S k) : w'.ownsRow base e size v n xs :=
  own_at h fun g _ hlt hg => hb.block g hlt (hs g hg)
theorem PM.Ok.but {B : Nat} {w w' : World} {m : PM} {S : Nat → Prop} (h : m.Ok B w) (hb : But S w w') (h1 : ∀ k, m.vv.ownBlock = some k → ¬ S k) (h2 : ∀ k, m.lo ≤ k → k < m.hi → ¬ S k) : m.Ok B w' :=
  ⟨own_but h.own hb h1, h.len, h.rg.keep fun k h3 h4 => hb.block k (Nat.lt_of_lt_of_le h4 h.hi) (h2 k h3 h4), h.lo, Nat.le_trans h.hi hb.size⟩
/-- changes below B do not touch the parts -/
theorem PartsIn.but {B : Nat} {w w' : World} {A : Option Addr} {n c : Nat} {ms : List PM} {S : Nat → Prop} (h : PartsIn B w A n c ms) (hb : But S w w') (hS : ∀ k, S k → k < B) : PartsIn B w' A n c ms :=
  ⟨own_but h.own hb (fun k hk hs => by have := (own_lt h.own hk).1; have := hS k hs; omega), h.len,
    fun m hm => (h.ok m hm).but hb (fun k hk hs => by have := (own_lt (h.ok m hm).own hk).1; have := hS k hs; omega) (fun k hk _ hs => by have := (h.ok m hm).lo; have := hS k hs; omega), h.apart, h.far⟩
theorem PartsIn.below {B : Nat} {w w' : World} {A : Option Addr} {n c : Nat} {ms : List PM} (h : PartsIn B w A n c ms) (hb : Below w.heap.size w w') : PartsIn B w' A n c ms := h.but (S := fun _ => False) (But.of_below hb) (fun _ h => h.elim)
/-- one more part -/
theorem PartsIn.add {B : Nat} {w w' : World} {A A' : Option Addr} {n c c' : Nat} {ms : List PM} (h : PartsIn B w A n c ms) {x : Int} {f : Bool} {A2 : Option Addr} {n2 c2 lo hi : Nat} {r : Rg}
    (hown : w'.ownsRow B 141 4 (.slice A' (n + 1) c') (n + 1) ((ms ++ [PM.mk none 0 0 [] x f A2 n2 c2 r lo hi]).flatMap PM.cs))
    (hb : But (fun k => (Value.slice A n c).ownBlock = some k ∨ k < B) w w') (hloc : ∀ k, (Value.slice A' (n + 1) c').ownBlock = some k → (Value.slice A n c).ownBlock = some k ∨ w.heap.size ≤ k)
    (hr : RgF lo hi w x f A2 n2 c2 r) (hlo : B ≤ lo) (hhi : hi ≤ w.heap.size) (hfar : ∀ k, lo ≤ k → k < hi → (Value.slice A n c).ownBlock ≠ some k ∧ ∀ m ∈ ms, m.vv.ownBlock ≠ some k) :
    PartsIn B w' A' (n + 1) c' (ms ++ [PM.mk none 0 0 [] x f A2 n2 c2 r lo hi]) := by
  have hnil : ∀ k : Nat, (PM.mk none 0 0 [] x f A2 n2 c2 r lo hi).vv.ownBlock ≠ some k := fun k hk => by simp [PM.vv, Value.ownBlock] at hk
  refine ⟨hown, by simp [h.len], fun m hm => ?_, ?_, fun m hm k hk1 hk2 => ?_⟩
  · rcases List.mem_append.1 hm with hm | hm
    · refine (h.ok m hm).but hb (fun k hk hs => ?_) (fun k hk1 hk2 hs => ?_)
      · rcases hs with hs | hs
        · exact own_types (h.ok m hm).own h.own (by decide) hk hs
        · have := (own_lt (h.ok m hm).own hk).1; omega
      · rcases hs with hs | hs
        · exact (h.far m hm k hk1 hk2).1 hs
        · have := (h.ok m hm).lo; omega
    · rw [List.mem_singleton] at hm
      subst hm
      refine ⟨⟨by simp, .inl ⟨rfl, rfl⟩⟩, rfl, hr.keep fun k hk1 hk2 => hb.block k (Nat.lt_of_lt_of_le hk2 hhi) fun hs => ?_, hlo, Nat.le_trans hhi hb.size⟩
      rcases hs with hs | hs
      · exact (hfar k hk1 hk2).1 hs
      · have hk1' : lo ≤ k := hk1
        omega
  · refine List.pairwise_append.2 ⟨h.apart, List.pairwise_singleton _ _, fun m _ m' hm' k _ => ?_⟩
    rw [List.mem_singleton] at hm'
    subst hm'
    exact hnil k
  · have key : k < w.heap.size ∧ (Value.slice A n c).ownBlock ≠ some k ∧ ∀ m' ∈ ms, m'.vv.ownBlock ≠ some k := by
      rcases List.mem_append.1 hm with hm | hm
      · exact ⟨Nat.lt_of_lt_of_le hk2 (h.ok m hm).hi, h.far m hm k hk1 hk2⟩
      · rw [List.mem_singleton] at hm
        subst hm
        exact ⟨Nat.lt_of_lt_of_le hk2 hhi, hfar k hk1 hk2⟩
    refine ⟨fun hs => ?_, fun m' hm' => ?_⟩
    · rcases hloc k hs with e | e
      · exact key.2.1 e
      · have := key.1; omega
    · rcases List.mem_append.1 hm' with hm' | hm'
      · exact key.2.2 m' hm'
      · rw [List.mem_singleton] at hm'
        subst hm'
        exact hnil k
/-- one part's values changed -/
theorem PartsIn.set {B : Nat} {w w' : World} {A : Option Addr} {n c j : Nat} {ms : List PM} (h : PartsIn B w A n c ms) {m : PM} (hm : ms[j]? = some m) {A1 : Option Addr} {n1 c1 : Nat} {vs : List Iv}
    (hown : w'.ownsRow B 141 4 (.slice A n c) n ((ms.set j { m with A1 := A1, n1 := n1, c1 := c1, vs := vs }).flatMap PM.cs))
    (hv : w'.ownsRow B 187 7 (.slice A1 n1 c1) n1 (vs.flatMap Iv.cs)) (hl : vs.length = n1)
    (hb : But (fun k => (Value.slice A n c).ownBlock = some k ∨ m.vv.ownBlock = some k) w w') (hloc : ∀ k, (Value.slice A1 n1 c1).ownBlock = some k → m.vv.ownBlock = some k ∨ w.heap.size ≤ k) :
    PartsIn B w' A n c (ms.set j { m with A1 := A1, n1 := n1, c1 := c1, vs := vs }) := by
  have hj := (List.getElem?_eq_some_iff.1 hm).1
  have hmm := List.mem_of_getElem? hm
  have hget : ∀ i, (ms.set j { m with A1 := A1, n1 := n1, c1 := c1, vs := vs })[i]? = if i = j then some { m with A1 := A1, n1 := n1, c1 := c1, vs := vs } else ms[i]? := fun i => by
    rw [List.getElem?_set]
    by_cases e : j = i
    · subst e; simp [hj]
    · rw [if_neg e, if_neg (Ne.symm e)]
  have hmem : ∀ m', m' ∈ ms.set j { m with A1 := A1, n1 := n1, c1 := c1, vs := vs } → m' = { m with A1 := A1, n1 := n1, c1 := c1, vs := vs } ∨ ∃ i, i ≠ j ∧ ms[i]? = some m' := fun m' hm' => by
    obtain ⟨i, hi⟩ := List.mem_iff_getElem?.1 hm'
    rw [hget] at hi
    split at hi
    · injection hi with hi; exact .inl hi.symm
    · exact .inr ⟨i, ‹_›, hi⟩
  have hap : ∀ (i : Nat) (m' : PM), i ≠ j → ms[i]? = some m' → ∀ k, m.vv.ownBlock = some k → m'.vv.ownBlock ≠ some k := fun i m' hij hi k hk hk' => by
    have a := List.getElem?_eq_some_iff.1 hi
    have b := List.getElem?_eq_some_iff.1 hm
    rcases Nat.lt_or_gt_of_ne hij with hl | hl
    · have := List.pairwise_iff_getElem.1 h.apart i j a.1 b.1 hl k
      rw [a.2, b.2] at this
      exact this hk' hk
    · have := List.pairwise_iff_getElem.1 h.apart j i b.1 a.1 hl k
      rw [a.2, b.2] at this
      exact this hk hk'
  have hnew : ∀ (i : Nat) (m' : PM), i ≠ j → ms[i]? = some m' → ∀ k, (Value.slice A1 n1 c1).ownBlock = some k → m'.vv.ownBlock ≠ some k := fun i m' hij hi k hk hk' => by
    rcases hloc k hk with e | e
    · exact hap i m' hij hi k e hk'
    · have := (own_lt (h.ok m' (List.mem_of_getElem? hi)).own hk').2.1; omega
  refine ⟨hown, by simp [h.len], fun m' hm' => ?_, ?_, fun m' hm' k hk1 hk2 => ?_⟩
  · rcases hmem m' hm' with rfl | ⟨i, hij, hi⟩
    · have ho := h.ok m hmm
      refine ⟨hv, hl, ho.rg.keep fun k hk1 hk2 => hb.block k (Nat.lt_of_lt_of_le hk2 ho.hi) fun hs => ?_, ho.lo, Nat.le_trans ho.hi hb.size⟩
      rcases hs with hs | hs
      · exact (h.far m hmm k hk1 hk2).1 hs
      · exact (h.far m hmm k hk1 hk2).2 m hmm hs
    · have hmi := List.mem_of_getElem? hi
      refine (h.ok m' hmi).but hb (fun k hk hs => ?_) (fun k hk1 hk2 hs => ?_)
      · rcases hs with hs | hs
        · exact own_types (h.ok m' hmi).own h.own (by decide) hk hs
        · exact hap i m' hij hi k hs hk
      · rcases hs with hs | hs
        · exact (h.far m' hmi k hk1 hk2).1 hs
        · exact (h.far m' hmi k hk1 hk2).2 m hmm hs
  · rw [List.pairwise_iff_getElem]
    intro i1 i2 h1 h2 hlt k hk hk'
    have g1 := hget i1
    have g2 := hget i2
    rw [List.getElem?_eq_getElem h1] at g1
    rw [List.getElem?_eq_getElem h2] at g2
    by_cases e1 : i1 = j
    · by_cases e2 : i2 = j
      · omega
      · rw [if_pos e1] at g1
        rw [if_neg e2] at g2
        injection g1 with g1
        rw [g1] at hk
        exact hnew i2 _ e2 g2.symm k hk hk'
    · rw [if_neg e1] at g1
      by_cases e2 : i2 = j
      · rw [if_pos e2] at g2
        injection g2 with g2
        rw [g2] at hk'
        exact hnew i1 _ e1 g1.symm k hk' hk
      · rw [if_neg e2] at g2
        have a := List.getElem?_eq_some_iff.1 g1.symm
        have b := List.getElem?_eq_some_iff.1 g2.symm
        have := List.pairwise_iff_getElem.1 h.apart i1 i2 a.1 b.1 hlt k
        rw [a.2, b.2] at this
        exact this hk hk'
  · have key : k < w.heap.size ∧ (Value.slice A n c).ownBlock ≠ some k ∧ ∀ m' ∈ ms, m'.vv.ownBlock ≠ some k := by
      rcases hmem m' hm' with rfl | ⟨i, hij, hi⟩
      · exact ⟨Nat.lt_of_lt_of_le hk2 (h.ok m hmm).hi, h.far m hmm k hk1 hk2⟩
      · exact ⟨Nat.lt_of_lt_of_le hk2 (h.ok m' (List.mem_of_getElem? hi)).hi, h.far m' (List.mem_of_getElem? hi) k hk1 hk2⟩
    refine ⟨key.2.1, fun m'' hm'' => ?_⟩
    rcases hmem m'' hm'' with rfl | ⟨i, hij, hi⟩
    · intro hs
      rcases hloc k hs with e | e
      · exact key.2.2 m hmm e
      · have := key.1; omega
    · exact key.2.2 m'' (List.mem_of_getElem? hi)
/-- the parts are a region in fresh memory -/
theorem PartsIn.region {B : Nat} {w : World} {A : Option Addr} {n c : Nat} {ms : List PM} (h : PartsIn B w A n c ms) (x : Int) : RgF B w.heap.size w x false A n c (mkR x false (ms.map PM.pr)) := by
  intro w' hw
  have hown : w'.ownsRow B 141 4 (.slice A n c) n (ms.flatMap PM.cs) := own_at h.own fun g h1 h2 _ => hw g h1 h2
  have hok : ∀ m ∈ ms, w'.ownsRow B 187 7 m.vv m.n1 (m.vs.flatMap Iv.cs) ∧ RgS w' m.x m.f m.A2 m.n2 m.c2 m.r := fun m hm => by
    have ho := h.ok m hm
    exact ⟨own_at ho.own fun g h1 h2 _ => hw g h1 h2, ho.rg w' fun k h1 h2 => hw k (Nat.le_trans ho.lo h1) (Nat.lt_of_lt_of_le h2 ho.hi)⟩
  refine ⟨w_mk _ _ _, f_mk _ _ _, own_okS hown, by rw [← len_parts, parts_mk, List.length_map, h.len], fun hn => ?_⟩
  obtain ⟨b, o, e, hc⟩ := (Sl.of_own PM.cs_len h.len hown).2 hn
  refine ⟨b, o, e, RgP.of fun k p hp => ?_⟩
  rw [parts_mk, List.getElem?_map, Option.map_eq_some_iff] at hp
  obtain ⟨m, hm, rfl⟩ := hp
  have hk := hok m (List.mem_of_getElem? hm)
  have h0 := hc k m hm
  exact ⟨m.A1, m.n1, m.c1, m.x, m.f, m.A2, m.n2, m.c2, ⟨h0 0 _ rfl, h0 1 _ rfl, h0 2 _ rfl, h0 3 _ rfl, own_okS hk.1, Sl.of_own Iv.cs_len (h.ok m (List.mem_of_getElem? hm)).len hk.1, hk.2⟩⟩
/-- bytes as a string -/
def txOf (l : List Int) : ByteArray := ⟨(l.map fun z => UInt8.ofNat z.toNat).toArray⟩
/-- the code of a region tells it -/
def codeR (r : Rg) : ByteArray := txOf (encR r)
end Go.Proofs.YtnnmlhmffnfjfaaGreat

/-
  Plain: regions whose lists are all short; the results of operations are such. No program here.
-/
namespace Go.Proofs.YtnnmlhmffnfjfaaGreat
open Go.RowKit
set_option maxRecDepth 100000
open Rg

/-- all lists inside are short -/
def SmR : Rg → Prop
  | .nil _ _ => True
  | .cons vs rest tail => vs.length ≤ 100000 ∧ rest.len ≤ 100000 ∧ SmR rest ∧ SmR tail
def Sm (r : Rg) : Prop := r.len ≤ 100000 ∧ SmR r
theorem SmR.mem {p : List Iv × Rg} : ∀ {r : Rg}, SmR r → p ∈ r.parts → p.1.length ≤ 100000 ∧ Sm p.2
  | .nil _ _, _, h => by cases h
  | .cons vs rest tail, hs, h => by
    rcases List.mem_cons.1 h with rfl | h
    · exact ⟨hs.1, hs.2.1, hs.2.2.1⟩
    · exact SmR.mem hs.2.2.2 h
theorem SmR.of {w : Int} {f : Bool} : ∀ {L : List (List Iv × Rg)}, (∀ p ∈ L, p.1.length ≤ 100000 ∧ Sm p.2) → SmR (mkR w f L)
  | [], _ => trivial
  | p :: L, h => ⟨(h p List.mem_cons_self).1, (h p List.mem_cons_self).2.1, (h p List.mem_cons_self).2.2, SmR.of fun q hq => h q (List.mem_cons_of_mem _ hq)⟩
theorem len_mk (w : Int) (f : Bool) (L : List (List Iv × Rg)) : (mkR w f L).len = L.length := by rw [← len_parts, parts_mk]
theorem Sm.of {w : Int} {f : Bool} {L : List (List Iv × Rg)} (hl : L.length ≤ 100000) (h : ∀ p ∈ L, p.1.length ≤ 100000 ∧ Sm p.2) : Sm (mkR w f L) := ⟨by rw [len_mk]; exact hl, SmR.of h⟩
theorem Sm.nil (w : Int) (f : Bool) : Sm (.nil w f) := ⟨Nat.zero_le _, trivial⟩
theorem Sm.mem {p : List Iv × Rg} {r : Rg} (h : Sm r) (hp : p ∈ r.parts) : p.1.length ≤ 100000 ∧ Sm p.2 := SmR.mem h.2 hp
end Go.Proofs.YtnnmlhmffnfjfaaGreat

/-
  Words for the state of the reference's Combine of regions: the parts under way and what it remembers of pairs of parts. No program of ours walks here.
-/
namespace Go.Proofs.YtnnmlhmffnfjfaaGreat
open Go.RowKit
set_option maxRecDepth 100000
open Rg

/-- what is remembered of a pair of parts: the result, where it lies and between which blocks -/
structure KM where
  i : Int
  k : Int
  x : Int
  f : Bool
  A : Option Addr
  n : Nat
  c : Nat
  r : Rg
  lo : Nat
  hi : Nat
def KM.cs (m : KM) : List Value := [.int .i64 m.i, .int .i64 m.k, .int .i64 m.x, .bool m.f, .slice m.A m.n m.c]
theorem KM.cs_len (m : KM) : (KM.cs m).length = 5 := rfl
structure FSt (B : Nat) (w : World) (A : Option Addr) (n c : Nat) (ms : List PM) (Ak : Option Addr) (nk ck : Nat) (ks : List KM) : Prop where
  pt : PartsIn B w A n c ms
  kown : w.ownsRow B 253 5 (.slice Ak nk ck) nk (ks.flatMap KM.cs)
  klen : ks.length = nk
  krg : ∀ m ∈ ks, RgF m.lo m.hi w m.x m.f m.A m.n m.c m.r ∧ B ≤ m.lo ∧ m.hi ≤ w.heap.size
  kfar : ∀ m ∈ ks, ∀ q, m.lo ≤ q → q < m.hi → (Value.slice Ak nk ck).ownBlock ≠ some q ∧ (Value.slice A n c).ownBlock ≠ some q ∧ ∀ m' ∈ ms, m'.vv.ownBlock ≠ some q
  pfar : ∀ m ∈ ms, ∀ q, m.lo ≤ q → q < m.hi → (Value.slice Ak nk ck).ownBlock ≠ some q
section
variable {B : Nat} {w w' : World} {A A' : Option Addr} {n c n' c' : Nat} {ms ms' : List PM} {Ak Ak' : Option Addr} {nk ck nk' ck' : Nat} {ks : List KM}
theorem FSt.below (h : FSt B w A n c ms Ak nk ck ks) (hb : Below w.heap.size w w') : FSt B w' A n c ms Ak nk ck ks :=
  ⟨h.pt.below hb, own_at h.kown fun g _ hlt _ => hb.block g hlt, h.klen, fun m hm => by
    obtain ⟨h1, h2, h3⟩ := h.krg m hm
    exact ⟨h1.keep fun k _ hk => hb.block k (Nat.lt_of_lt_of_le hk h3), h2, Nat.le_trans h3 hb.size⟩, h.kfar, h.pfar⟩
/-- the parts change, what is remembered stays -/
theorem FSt.step (h : FSt B w A n c ms Ak nk ck ks) (hp : PartsIn B w' A' n' c' ms') (hb : But (fun q => (Value.slice A n c).ownBlock = some q ∨ (∃ m ∈ ms, m.vv.ownBlock = some q) ∨ q < B) w w')
    (hlA : ∀ q, (Value.slice A' n' c').ownBlock = some q → (Value.slice A n c).ownBlock = some q ∨ w.heap.size ≤ q)
    (hlV : ∀ m' ∈ ms', ∀ q, m'.vv.ownBlock = some q → (∃ m ∈ ms, m.vv.ownBlock = some q) ∨ w.heap.size ≤ q)
    (hrg : ∀ m' ∈ ms', (∃ m ∈ ms, m.lo = m'.lo ∧ m.hi = m'.hi) ∨ ∀ q, m'.lo ≤ q → q < m'.hi → (Value.slice Ak nk ck).ownBlock ≠ some q) : FSt B w' A' n' c' ms' Ak nk ck ks := by
  refine ⟨hp, own_but h.kown hb fun k hk hs => ?_, h.klen, fun m hm => ?_, fun m hm q h1 h2 => ?_, fun m hm q h1 h2 => ?_⟩
  · rcases hs with hs | ⟨m, hm, hs⟩ | hs
    · exact own_types h.kown h.pt.own (by decide) hk hs
    · exact own_types h.kown (h.pt.ok m hm).own (by decide) hk hs
    · have := (own_lt h.kown hk).1; omega
  · obtain ⟨h1, h2, h3⟩ := h.krg m hm
    refine ⟨h1.keep fun k hk1 hk2 => hb.block k (Nat.lt_of_lt_of_le hk2 h3) fun hs => ?_, h2, Nat.le_trans h3 hb.size⟩
    obtain ⟨_, f2, f3⟩ := h.kfar m hm k hk1 hk2
    rcases hs with hs | ⟨m', hm', hs⟩ | hs
    · exact f2 hs
    · exact f3 m' hm' hs
    · omega
  · obtain ⟨f1, f2, f3⟩ := h.kfar m hm q h1 h2
    have hlt := Nat.lt_of_lt_of_le h2 (h.krg m hm).2.2
    refine ⟨f1, fun hs => ?_, fun m' hm' hs => ?_⟩
    · rcases hlA q hs with e | e
      · exact f2 e
      · omega
    · rcases hlV m' hm' q hs with ⟨m2, hm2, e⟩ | e
      · exact f3 m2 hm2 e
      · omega
  · rcases hrg m hm with ⟨m2, hm2, e1, e2⟩ | hf
    · exact h.pfar m2 hm2 q (by omega) (by omega)
    · exact hf q h1 h2
/-- one more pair is remembered -/
theorem FSt.known (h : FSt B w A n c ms Ak nk ck ks) {i k x : Int} {f : Bool} {A2 : Option Addr} {n2 c2 lo hi : Nat} {r : Rg}
    (hown : w'.ownsRow B 253 5 (.slice Ak' (nk + 1) ck') (nk + 1) ((ks ++ [KM.mk i k x f A2 n2 c2 r lo hi]).flatMap KM.cs))
    (hb : But (fun q => (Value.slice Ak nk ck).ownBlock = some q) w w') (hloc : ∀ q, (Value.slice Ak' (nk + 1) ck').ownBlock = some q → (Value.slice Ak nk ck).ownBlock = some q ∨ w.heap.size ≤ q)
    (hr : RgF lo hi w x f A2 n2 c2 r) (hlo : B ≤ lo) (hhi : hi ≤ w.heap.size)
    (hfar : ∀ q, lo ≤ q → q < hi → (Value.slice Ak nk ck).ownBlock ≠ some q ∧ (Value.slice A n c).ownBlock ≠ some q ∧ ∀ m ∈ ms, m.vv.ownBlock ≠ some q) :
    FSt B w' A n c ms Ak' (nk + 1) ck' (ks ++ [KM.mk i k x f A2 n2 c2 r lo hi]) := by
  have hkn : ∀ q, (Value.slice Ak nk ck).ownBlock = some q → (Value.slice A n c).ownBlock ≠ some q ∧ ∀ m ∈ ms, m.vv.ownBlock ≠ some q := fun q hq =>
    ⟨own_types h.kown h.pt.own (by decide) hq, fun m hm => own_types h.kown (h.pt.ok m hm).own (by decide) hq⟩
  refine ⟨⟨own_but h.pt.own hb fun q hq hs => (hkn q hs).1 hq, h.pt.len, fun m hm => (h.pt.ok m hm).but hb (fun q hq hs => (hkn q hs).2 m hm hq) (fun q h1 h2 hs => h.pfar m hm q h1 h2 hs), h.pt.apart, h.pt.far⟩, hown, by simp [h.klen], fun m hm => ?_, fun m hm q h1 h2 => ?_, fun m hm q h1 h2 hs => ?_⟩
  · rcases List.mem_append.1 hm with hm | hm
    · obtain ⟨h1, h2, h3⟩ := h.krg m hm
      exact ⟨h1.keep fun q q1 q2 => hb.block q (Nat.lt_of_lt_of_le q2 h3) fun hs => (h.kfar m hm q q1 q2).1 hs, h2, Nat.le_trans h3 hb.size⟩
    · rw [List.mem_singleton] at hm
      subst hm
      exact ⟨hr.keep fun q q1 q2 => hb.block q (Nat.lt_of_lt_of_le q2 hhi) fun hs => (hfar q q1 q2).1 hs, hlo, Nat.le_trans hhi hb.size⟩
  · have key : q < w.heap.size ∧ (Value.slice Ak nk ck).ownBlock ≠ some q ∧ (Value.slice A n c).ownBlock ≠ some q ∧ ∀ m' ∈ ms, m'.vv.ownBlock ≠ some q := by
      rcases List.mem_append.1 hm with hm | hm
      · exact ⟨Nat.lt_of_lt_of_le h2 (h.krg m hm).2.2, h.kfar m hm q h1 h2⟩
      · rw [List.mem_singleton] at hm
        subst hm
        exact ⟨Nat.lt_of_lt_of_le h2 hhi, hfar q h1 h2⟩
    refine ⟨fun hs => ?_, key.2.2⟩
    rcases hloc q hs with e | e
    · exact key.2.1 e
    · have := key.1; omega
  · rcases hloc q hs with e | e
    · exact h.pfar m hm q h1 h2 e
    · have h3 := (h.pt.ok m hm).hi; omega
end
end Go.Proofs.YtnnmlhmffnfjfaaGreat

namespace Go.Proofs.YtnnmlhmffnfjfaaGreat
open Go.RowKit
set_option maxRecDepth 100000

/-- a slice of lists of intervals -/
abbrev LstP := Hd × List Iv
def lstc (p : LstP) : List Value := [.slice p.1.1 p.1.2.1 p.1.2.2]
structure LstOk (w : World) (p : LstP) : Prop where
  rd : IvS w p.1.1 p.1.2.1 p.2
  sm : p.1.2.1 ≤ 64
theorem LstOk.keep {w w' : World} {p : LstP} (h : LstOk w p) (hk : Keeps w w') : LstOk w' p := ⟨h.rd.keep hk, h.sm⟩
structure LstsS (w : World) (A : Option Addr) (n : Nat) (ps : List LstP) : Prop where
  sl : Sl 1 lstc w A n ps
  ok : ∀ p ∈ ps, LstOk w p
theorem LstsS.keep {w w' : World} {A : Option Addr} {n : Nat} {ps : List LstP} (h : LstsS w A n ps) (hk : Keeps w w') : LstsS w' A n ps := ⟨h.sl.keep hk, fun p hp => (h.ok p hp).keep hk⟩

/-- rows of one value each, collected in a row of the call's own -/
structure PSt (w0 : World) (col : List Vl) (Ao : Option Addr) (no co : Nat) (wr : World) : Prop where
  ex : ∃ qs : List RowP, qs.map (·.2) = col.map (fun v => [v]) ∧ wr.ownsRow w0.heap.size 53 1 (.slice Ao no co) no (qs.flatMap rowc) ∧ ∀ q ∈ qs, OwnRow wr w0.heap.size q
  len : col.length = no
  bel : Below w0.heap.size w0 wr
theorem PSt.below {w0 : World} {col : List Vl} {Ao : Option Addr} {no co : Nat} {wr wr' : World} (h : PSt w0 col Ao no co wr) (hb : Below wr.heap.size wr wr') : PSt w0 col Ao no co wr' := by
  obtain ⟨qs, h1, h2, h3⟩ := h.ex
  exact ⟨⟨qs, h1, own_at h2 (fun g _ hl _ => hb.block g hl), fun q hq => (h3 q hq).below hb⟩, h.len, Below.next h.bel hb⟩
def ptsR (ls : List (List Iv)) : List Vl := ls.flatMap ptsL
end Go.Proofs.YtnnmlhmffnfjfaaGreat

namespace Go.Proofs.YtnnmlhmffnfjfaaGreat
open Go.RowKit
set_option maxRecDepth 100000

def allL : List Iv := [⟨⟨1, 0, ⟨#[]⟩⟩, zeroV, true⟩]
theorem iv_one {w : World} {g : Nat} {T : TypeId} {x : Iv} (h : Blk w g T #[.int .i64 x.f.k, .int .i64 x.f.i, .string x.f.t, .int .i64 x.t.k, .int .i64 x.t.i, .string x.t.t, .bool x.o]) : IvS w (some ⟨g, 0, none⟩) 1 [x] := by
  refine ⟨rfl, fun _ => ⟨g, 0, rfl, fun k y hy j u hu => ?_⟩⟩
  obtain ⟨rfl, rfl⟩ : k = 0 ∧ x = y := by
    rcases k with _ | k
    · exact ⟨rfl, by simpa using hy⟩
    · simp at hy
  rw [show 0 + 0 * 7 + j = j by omega, h.cell]
  simpa [Iv.cs] using hu
def fromL (f : Vl) : List Iv × Int := if validV f then ([⟨f, zeroV, true⟩], 0) else ([], 10)
end Go.Proofs.YtnnmlhmffnfjfaaGreat

namespace Go.Proofs.YtnnmlhmffnfjfaaGreat
open Go.RowKit
set_option maxRecDepth 100000

end Go.Proofs.YtnnmlhmffnfjfaaGreat

namespace Go.Proofs.YtnnmlhmffnfjfaaGreat
open Go.RowKit
set_option maxRecDepth 100000

/-- the three operations of the reference -/
def opR (k : Int) : Bool → Bool → Bool := if k = 1 then opU else if k = 2 then opI else opM
end Go.Proofs.YtnnmlhmffnfjfaaGreat

/-
  The reference's small functions on regions: none, count, fits, at, rest, Empty.
-/
namespace Go.Proofs.YtnnmlhmffnfjfaaGreat
open Go.RowKit
set_option maxRecDepth 100000
open Rg

end Go.Proofs.YtnnmlhmffnfjfaaGreat

/-
  The same law for a region in which two operations with an effect may come up at once (a tree of orders), and whose last store may change what was read before.
-/
namespace Go.Proofs.YtnnmlhmffnfjfaaGreat
open Go.RowKit
set_option maxRecDepth 100000
set_option linter.unusedVariables false

/-- an order of the operations: blocks of operations that only read, each ended by one with an effect, or by two in either order; 'fin': the last one is a store that waits for all others -/
inductive Plan where
  | last (qs : List Nat)
  | fin (qs : List Nat) (e : Nat)
  | one (qs : List Nat) (e : Nat) (t : Plan)
  | two (qs : List Nat) (e1 : Nat) (t1 : Plan) (e2 : Nat) (t2 : Plan)
def Plan.len : Plan → Nat
  | .last qs => qs.length
  | .fin qs _ => qs.length + 1
  | .one qs _ t => qs.length + (t.len + 1)
  | .two qs _ t1 _ _ => qs.length + (t1.len + 1)
/-- the last store, if there is one -/
def Plan.store : Plan → Nat → Nat
  | .last _, d => d
  | .fin _ e, _ => e
  | .one _ _ t, d => t.store d
  | .two _ _ t1 _ _, d => t1.store d
section
variable {P : Program} {ops : Array Oper} {Q : Exit → Act → World → Prop} {md : Region.Mode} {S : Nat → Prop} {fin : Nat}
theorem at_of_lt {e : Nat} (h : e < ops.size) : ops[e]? = some (opAt ops e) := by
  unfold opAt
  rw [Array.getElem?_eq_getElem h]
  rfl
end
end Go.Proofs.YtnnmlhmffnfjfaaGreat

/-
  The program's region function grouping: the function that it returns finds or makes the part for a pair of parts.
-/
namespace Go.Proofs.YtnnmlhmffnfjfaaGreat
open Go.RowKit
set_option maxRecDepth 100000
open Rg

abbrev opV (tb tl tr : Bool) : Value := .func (.func 161) #[.agg #[.bool tb, .bool tl, .bool tr]] #[]
/-- the fixed data of one call of combine -/
structure GC where
  N : Nat
  a : Rg
  b : Rg
  xa : Int
  fa : Bool
  Aa : Option Addr
  na : Nat
  ca : Nat
  xb : Int
  fb : Bool
  Ab : Option Addr
  nb : Nat
  cb : Nat
  tb : Bool
  tl : Bool
  tr : Bool
  w0 : World
  B : Nat
def GC.h (g : GC) : Nat := g.w0.heap.size
def GC.op (g : GC) : Bool → Bool → Bool := ofT g.tb g.tl g.tr
def GC.ro (g : GC) (k : Int × Int) : Rg := comb g.op g.N (restR g.a k.1) (restR g.b k.2)
structure GC.Good (g : GC) : Prop where
  ra : RgS g.w0 g.xa g.fa g.Aa g.na g.ca g.a
  rb : RgS g.w0 g.xb g.fb g.Ab g.nb g.cb g.b
  fa : Form (g.N + 1) g.a
  fb : Form (g.N + 1) g.b
  wa : WfR g.a
  wb : WfR g.b
  ia : within g.a
  ib : within g.b
  n12 : g.N + 1 ≤ 12
/-- what stays in one call of combine -/
structure GF (g : GC) (w : World) : Prop where
  bel : Below g.h g.w0 w
  ba : Blk w (g.h + 4) 71 #[.int .i64 g.xa, .bool g.fa, .slice g.Aa g.na g.ca]
  bb : Blk w (g.h + 5) 71 #[.int .i64 g.xb, .bool g.fb, .slice g.Ab g.nb g.cb]
  bp : Blk w (g.h + 6) 222 #[.pointer (some ⟨g.h + 3, 0, none⟩)]
  bo : Blk w (g.h + 7) 199 #[opV g.tb g.tl g.tr]
  bk : Blk w (g.h + 9) 257 #[.map (some (g.h + 8))]
  bc : Blk w (g.h + 11) 258 #[.map (some (g.h + 10))]
  hB : g.h + 13 ≤ g.B ∧ g.B ≤ w.heap.size
/-- the blocks that a call of the function may change -/
def GC.may (g : GC) (q : Nat) : Prop := q = g.h + 8 ∨ q = g.h + 10 ∨ q = g.h + 12 ∨ q = g.h + 3 ∨ g.B ≤ q
theorem GF.but {g : GC} {w w' : World} {S : Nat → Prop} (h : GF g w) (hb : But S w w') (hS : ∀ q, S q → g.may q) : GF g w' := by
  have h0 := h.hB
  have n : ∀ q, ¬ g.may q → ¬ S q := fun q hq hs => hq (hS q hs)
  refine ⟨hb.below h.bel h.bel.size (fun k hk => ?_), h.ba.but hb (n _ ?_), h.bb.but hb (n _ ?_), h.bp.but hb (n _ ?_), h.bo.but hb (n _ ?_), h.bk.but hb (n _ ?_), h.bc.but hb (n _ ?_), ⟨h0.1, Nat.le_trans h0.2 hb.size⟩⟩
  · have h1 := hS k hk
    unfold GC.may at h1
    omega
  all_goals
    unfold GC.may
    omega
theorem GF.below {g : GC} {w w' : World} (h : GF g w) (hb : Below w.heap.size w w') : GF g w' := h.but (S := fun _ => False) (But.of_below hb) (fun _ h => h.elim)
/-- the state of one call of combine -/
structure GS (g : GC) (w : World) (A : Option Addr) (n c : Nat) (ms : List PM) (nk : Nat) (K1 : Int × Int → Option Int) (K2 : ByteArray → Option Int) : Prop where
  fx : GF g w
  km : MapIs w 225 kv2 (g.h + 8) nk K1
  cm : MapIs w 9 Value.string (g.h + 10) n K2
  tot : Blk w (g.h + 12) 3 #[.int .i64 (sizeL (ms.map PM.pr) : Nat)]
  out : Blk w (g.h + 3) 71 #[.int .i64 ((g.N + 1 : Nat) : Int), .bool false, .slice A n c]
  parts : PartsIn g.B w A n c ms
  k1 : ∀ k z, K1 k = some z → z = idxR (ms.map PM.r) (g.ro k) ∧ ((g.ro k).nix = true ∨ g.ro k ∈ ms.map PM.r)
  k2 : ∀ s, Form g.N s → WfR s → within s → K2 (codeR s) = if s ∈ ms.map PM.r then some (idxR (ms.map PM.r) s) else none
  good : ∀ m ∈ ms, Form g.N m.r ∧ WfR m.r ∧ within m.r ∧ m.r.nix = false
  size : sizeL (ms.map PM.pr) ≤ 64
  nodup : (ms.map PM.r).Nodup
def GC.S (g : GC) (A : Option Addr) (n c : Nat) (q : Nat) : Prop := q = g.h + 8 ∨ q = g.h + 10 ∨ q = g.h + 12 ∨ q = g.h + 3 ∨ (Value.slice A n c).ownBlock = some q
theorem GS.below {g : GC} {w w' : World} {A : Option Addr} {n c : Nat} {ms : List PM} {nk : Nat} {K1 : Int × Int → Option Int} {K2 : ByteArray → Option Int} (h : GS g w A n c ms nk K1 K2) (hb : Below w.heap.size w w') : GS g w' A n c ms nk K1 K2 :=
  ⟨h.fx.below hb, h.km.below hb, h.cm.below hb, h.tot.below hb, h.out.below hb, h.parts.below hb, h.k1, h.k2, h.good, h.size, h.nodup⟩
/-- an entry more in the map of known pairs -/
theorem GS.known {g : GC} {w w' : World} {A : Option Addr} {n c : Nat} {ms : List PM} {nk nk' : Nat} {K1 : Int × Int → Option Int} {K2 : ByteArray → Option Int} (h : GS g w A n c ms nk K1 K2) (hb : But (· = g.h + 8) w w') {k0 : Int × Int} {z0 : Int}
    (hm : MapIs w' 225 kv2 (g.h + 8) nk' (fun k' => if k' = k0 then some z0 else K1 k')) (hz : z0 = idxR (ms.map PM.r) (g.ro k0) ∧ ((g.ro k0).nix = true ∨ g.ro k0 ∈ ms.map PM.r)) : GS g w' A n c ms nk' (fun k' => if k' = k0 then some z0 else K1 k') K2 := by
  have h0 := h.fx.hB
  refine ⟨h.fx.but hb (fun q hq => .inl hq), hm, h.cm.but hb (by omega), h.tot.but hb (by omega), h.out.but hb (by omega), h.parts.but hb (fun k hk => by omega), fun k z hk => ?_, h.k2, h.good, h.size, h.nodup⟩
  split at hk
  · rename_i e
    injection hk with hk
    rw [← hk, e]
    exact hz
  · exact h.k1 k z hk
theorem But.wide {S S' : Nat → Prop} {w w' : World} (h : But S w w') (hs : ∀ k, S k → S' k) : But S' w w' := ⟨h.os, h.tape, h.output, h.size, fun k hk hn => h.block k hk (fun hS => hn (hs k hS))⟩
theorem prs_r (ms : List PM) : (ms.map PM.pr).map (·.2) = ms.map PM.r := by rw [List.map_map]; rfl
end Go.Proofs.YtnnmlhmffnfjfaaGreat

/-
  Plain: the state of the program's combine between two events. No program of ours walks here.
-/
namespace Go.Proofs.YtnnmlhmffnfjfaaGreat
open Go.RowKit
set_option maxRecDepth 100000
open Rg

/-- the result behind a point -/
def GC.at_ (g : GC) (p : Vl) : Rg := comb g.op g.N (g.a.at_ (g.N : Int) p) (g.b.at_ (g.N : Int) p)
def GC.full (g : GC) : Rg := comb g.op (g.N + 1) g.a g.b
theorem GC.full_eq (g : GC) : g.full = mkR ((g.N + 1 : Nat) : Int) false (partsAt g.at_ (ptsOf g.a g.b)) := rfl
theorem GC.at_form {g : GC} (hg : g.Good) (p : Vl) : Form g.N (g.at_ p) := comb_form _ _ _ _ (hg.fa.at_ p) (hg.fb.at_ p)
structure CSt (g : GC) (qs : List Ev) (k : Nat) (K : List Vl) (ms : List PM) (o : Int) : Prop where
  sw : Swp qs k K
  pr : ms.map PM.pr = partsAt g.at_ K
  op : o = idxR (resU g.at_ K) (lastR g.at_ (.nil (g.N : Int) false) K)
  fit : ∀ q ∈ partsAt g.at_ K, q.1.length ≤ 64 ∧ q.2.fits = true
theorem CSt.zero (g : GC) (qs : List Ev) : CSt g qs 0 [] [] (-1) := ⟨Swp.zero qs, rfl, rfl, fun q h => by cases h⟩
theorem CSt.skip {g : GC} {qs : List Ev} {k : Nat} {K : List Vl} {ms : List PM} {o : Int} (h : CSt g qs k K ms o) {x y : Ev} (hx : qs[k]? = some x) (hy : qs[k + 1]? = some y) (e : y.v = x.v) : CSt g qs (k + 1) K ms o := ⟨h.sw.skip hx hy e, h.pr, h.op, h.fit⟩
theorem rests_of {ms : List PM} {L : List (List Iv × Rg)} (h : ms.map PM.pr = L) : ms.map PM.r = L.map (·.2) := by rw [← h, prs_r]
theorem room_rests {ro : Vl → Rg} (K : List Vl) (p : Vl) : (roomP (partsAt ro K) (ro p)).map (·.2) = resU ro (K ++ [p]) := by
  rw [room_at, List.map_map]
  exact List.map_id' _
section
variable {g : GC} {qs : List Ev} {k : Nat} {K : List Vl} {ms ms' : List PM} {o now : Int} {x : Ev}
/-- after the function was called: where the parts stand -/
theorem CSt.room (h : CSt g qs k K ms o) (hpr : ms'.map PM.pr = roomP (ms.map PM.pr) (g.at_ x.v)) (hnow : now = idxR (ms'.map PM.r) (g.at_ x.v)) : ms'.map PM.pr = roomP (partsAt g.at_ K) (g.at_ x.v) ∧ now = idxR (resU g.at_ (K ++ [x.v])) (g.at_ x.v) := by
  rw [h.pr] at hpr
  refine ⟨hpr, ?_⟩
  rw [hnow, rests_of hpr, room_rests]
theorem CSt.same (hg : g.Good) (h : CSt g qs k K ms o) (hup : EvUp qs) (hx : qs[k]? = some x) (hb : ∀ y, qs[k + 1]? = some y → y.v ≠ x.v) (hpr : ms'.map PM.pr = roomP (partsAt g.at_ K) (g.at_ x.v)) (hnow : now = idxR (resU g.at_ (K ++ [x.v])) (g.at_ x.v)) (heq : now = o) : CSt g qs (k + 1) (K ++ [x.v]) ms' o := by
  have he := (now_open (n := g.N) (K := K) (p := x.v) (fun q _ => g.at_form hg q)).1 (by rw [← hnow, ← h.op]; exact heq)
  obtain ⟨h1, h2⟩ := step_same (n := g.N) (fun q _ => g.at_form hg q) he
  refine ⟨h.sw.take hup hx hb, by rw [hpr, h1, h2], ?_, by rw [h2]; exact h.fit⟩
  rw [lastR_snoc, ← hnow]
  exact heq.symm
theorem CSt.ahead (h : CSt g qs k K ms o) (hp : qs.Perm (evs g.a g.b)) (hup : EvUp qs) (hx : qs[k]? = some x) (hb : ∀ y, qs[k + 1]? = some y → y.v ≠ x.v) : ∃ R, ptsOf g.a g.b = K ++ x.v :: R := by
  have hk := (List.getElem?_eq_some_iff.1 hx).1
  obtain ⟨R, hR⟩ := (h.sw.take hup hx hb).prefix_ hp hup (by omega)
  exact ⟨R, by simpa using hR⟩
theorem CSt.done (h : CSt g qs qs.length K ms o) (hp : qs.Perm (evs g.a g.b)) (hs : sizeL (ms.map PM.pr) ≤ 64) : mkR ((g.N + 1 : Nat) : Int) false (ms.map PM.pr) = g.full ∧ within g.full := by
  have hK := h.sw.fin hp
  have h1 := h.pr
  have h2 := h.fit
  rw [hK] at h1 h2
  refine ⟨by rw [g.full_eq, h1], ?_⟩
  rw [g.full_eq, within_mk]
  rw [h1] at hs
  exact ⟨hs, h2⟩
end
end Go.Proofs.YtnnmlhmffnfjfaaGreat

/-
  The program's region functions grouping (its memory), and combine at width 0.
-/
namespace Go.Proofs.YtnnmlhmffnfjfaaGreat
open Go.RowKit
set_option maxRecDepth 100000
open Rg

/-- what grouping leaves in memory -/
structure Boxes (H O : Nat) (xa : Int) (fa : Bool) (Aa : Option Addr) (na ca : Nat) (xb : Int) (fb : Bool) (Ab : Option Addr) (nb cb : Nat) (ov : Value) (w : World) : Prop where
  ba : Blk w H 71 #[.int .i64 xa, .bool fa, .slice Aa na ca]
  bb : Blk w (H + 1) 71 #[.int .i64 xb, .bool fb, .slice Ab nb cb]
  bp : Blk w (H + 2) 222 #[.pointer (some ⟨O, 0, none⟩)]
  bo : Blk w (H + 3) 199 #[ov]
  km : MapIs w 225 kv2 (H + 4) 0 (fun _ => none)
  bk : Blk w (H + 5) 257 #[.map (some (H + 4))]
  cm : MapIs w 9 Value.string (H + 6) 0 (fun _ => none)
  bc : Blk w (H + 7) 258 #[.map (some (H + 6))]
  bt : Blk w (H + 8) 3 #[.int .i64 0]
theorem Blk.step {w : World} {b : Nat} {T : TypeId} {cs : Array Value} (h : b = w.heap.size) : Blk (w.alloc (.cells cs T)) b T cs := by subst h; exact Blk.new w T cs
end Go.Proofs.YtnnmlhmffnfjfaaGreat

/-
  The reference's Copy of a region: a copy in fresh memory.
-/
namespace Go.Proofs.YtnnmlhmffnfjfaaGreat
open Go.RowKit
set_option maxRecDepth 100000
open Rg

/-- what a function that makes a region in fresh memory returns -/
def RgNew (w : World) (r : Rg) (e : Ending) (w' : World) : Prop :=
  ∃ (x : Int) (f : Bool) (A : Option Addr) (n c : Nat), e = .returned (.agg #[.int .i64 x, .bool f, .slice A n c]) ∧ RgF w.heap.size w'.heap.size w' x f A n c r ∧ Below w.heap.size w w'
/-- the same, with the parts one by one -/
def RgNewP (w : World) (r : Rg) (e : Ending) (w' : World) : Prop :=
  ∃ (x : Int) (f : Bool) (A : Option Addr) (n c : Nat) (ms : List PM), e = .returned (.agg #[.int .i64 x, .bool f, .slice A n c]) ∧ RgF w.heap.size w'.heap.size w' x f A n c r ∧ Below w.heap.size w w' ∧ PartsIn (w.heap.size + 3) w' A n c ms ∧ ms.map PM.pr = r.parts
theorem RgNewP.new {w : World} {r : Rg} {e : Ending} {w' : World} (h : RgNewP w r e w') : RgNew w r e w' := by
  obtain ⟨x, f, A, n, c, ms, h1, h2, h3, _, _⟩ := h
  exact ⟨x, f, A, n, c, h1, h2, h3⟩
theorem RgF.hw {lo hi : Nat} {w : World} {x : Int} {f : Bool} {A : Option Addr} {n c : Nat} {r : Rg} (h : RgF lo hi w x f A n c r) : r.w = x := h.s.hw
end Go.Proofs.YtnnmlhmffnfjfaaGreat

namespace Go.Proofs.YtnnmlhmffnfjfaaGreat
open Go.RowKit
set_option maxRecDepth 100000

/-- the interval that begins at the i-th point -/
def segI (P : List Vl) (i : Nat) : Iv := match P[i + 1]? with
  | some q => ⟨P.getD i zeroV, q, false⟩
  | none => ⟨P.getD i zeroV, zeroV, true⟩
def joinL (L : List Iv) (x : Iv) : List Iv := match L.getLast? with
  | none => L ++ [x]
  | some y => if !y.o && decide (cmpV y.t x.f = 0) then L.dropLast ++ [⟨y.f, x.t, x.o⟩] else L ++ [x]

end Go.Proofs.YtnnmlhmffnfjfaaGreat
