/-
  Texts: GroupM, Sm.
-/
import Derived.Test.YtmnmckblmoalkaaGreatB15
import Derived.Test.YtmnmckblmoalkaaGreatB16
set_option linter.unusedVariables false
/-
  Words for the state of the program's combine: regions that lie in fresh memory, the parts under way, the bytes as a string. No program of ours walks here.
-/
namespace Go.Proofs.YtmnmckblmoalkaaGreat
open Go.RowKit
set_option maxRecDepth 100000
open Rg

/-- the region reads in every world that has these blocks -/
def RgF (lo hi : Nat) (w : World) (x : Int) (f : Bool) (A : Option Addr) (n c : Nat) (r : Rg) : Prop :=
  ∀ w' : World, (∀ k, lo ≤ k → k < hi → w'.heap[k]? = w.heap[k]?) → RgS w' x f A n c r
theorem RgF.s {lo hi : Nat} {w : World} {x : Int} {f : Bool} {A : Option Addr} {n c : Nat} {r : Rg} (h : RgF lo hi w x f A n c r) : RgS w x f A n c r := h w fun _ _ _ => rfl
theorem RgF.keep {lo hi : Nat} {w w' : World} {x : Int} {f : Bool} {A : Option Addr} {n c : Nat} {r : Rg} (h : RgF lo hi w x f A n c r) (hk : ∀ k, lo ≤ k → k < hi → w'.heap[k]? = w.heap[k]?) : RgF lo hi w' x f A n c r :=
  fun w'' h2 => h w'' fun k h3 h4 => (h2 k h3 h4).trans (hk k h3 h4)
theorem RgF.wide {lo hi lo' hi' : Nat} {w : World} {x : Int} {f : Bool} {A : Option Addr} {n c : Nat} {r : Rg} (h : RgF lo hi w x f A n c r) (h1 : lo' ≤ lo) (h2 : hi ≤ hi') : RgF lo' hi' w x f A n c r :=
  fun w' h3 => h w' fun k h4 h5 => h3 k (by omega) (by omega)
theorem RgF.nil {lo hi : Nat} {w : World} (x : Int) (f : Bool) : RgF lo hi w x f none 0 0 (.nil x f) := fun _ _ => RgS.nil x f

/-- a part under way: where its values lie, its rest, and between which blocks the rest lies -/
structure PM where
  A1 : Option Addr
  n1 : Nat
  c1 : Nat
  vs : List Iv
  x : Int
  f : Bool
  A2 : Option Addr
  n2 : Nat
  c2 : Nat
  r : Rg
  lo : Nat
  hi : Nat
def PM.vv (m : PM) : Value := .slice m.A1 m.n1 m.c1
def PM.cs (m : PM) : List Value := [.slice m.A1 m.n1 m.c1, .int .i64 m.x, .bool m.f, .slice m.A2 m.n2 m.c2]
def PM.pr (m : PM) : List Iv × Rg := (m.vs, m.r)
theorem PM.cs_len (m : PM) : (PM.cs m).length = 4 := rfl
theorem one_pm (m : PM) : ∀ u ∈ PM.cs m, u.oneCell' = true := by simp [PM.cs, Value.oneCell']
structure PM.Ok (B : Nat) (w : World) (m : PM) : Prop where
  own : w.ownsRow B 90 7 m.vv m.n1 (m.vs.flatMap Iv.cs)
  len : m.vs.length = m.n1
  rg : RgF m.lo m.hi w m.x m.f m.A2 m.n2 m.c2 m.r
  lo : B ≤ m.lo
  hi : m.hi ≤ w.heap.size
structure PartsIn (B : Nat) (w : World) (A : Option Addr) (n c : Nat) (ms : List PM) : Prop where
  own : w.ownsRow B 86 4 (.slice A n c) n (ms.flatMap PM.cs)
  len : ms.length = n
  ok : ∀ m ∈ ms, m.Ok B w
  apart : ms.Pairwise (fun m m' => ∀ k, m.vv.ownBlock = some k → m'.vv.ownBlock ≠ some k)
  far : ∀ m ∈ ms, ∀ k, m.lo ≤ k → k < m.hi → (Value.slice A n c).ownBlock ≠ some k ∧ ∀ m' ∈ ms, m'.vv.ownBlock ≠ some k
theorem own_lt {w : World} {base : Nat} {e : TypeId} {size n : Nat} {v : Value} {xs : List Value} (h : w.ownsRow base e size v n xs) {k : Nat} (hk : v.ownBlock = some k) : base ≤ k ∧ k < w.heap.size ∧ ∃ cs, w.heap[k]? = some (.cells cs e (0, 0)) := by
  rcases h.2 with ⟨rfl, _⟩ | ⟨g, cap, cur, rfl, hg, hh, _⟩
  · simp [Value.ownBlock] at hk
  · simp only [Value.ownBlock, Option.some.injEq] at hk
    subst hk
    exact ⟨hg, Blk.lt (T := e) (cs := cur) hh, cur, hh⟩
/-- rows of two types are two blocks -/
theorem own_types {w : World} {b1 b2 : Nat} {e1 e2 : TypeId} {s1 s2 n1 n2 : Nat} {v1 v2 : Value} {x1 x2 : List Value} (h1 : w.ownsRow b1 e1 s1 v1 n1 x1) (h2 : w.ownsRow b2 e2 s2 v2 n2 x2) (hne : e1 ≠ e2) {k : Nat} (hk : v1.ownBlock = some k) : v2.ownBlock ≠ some k := fun hk2 => by
  obtain ⟨_, _, c1, a1⟩ := own_lt h1 hk
  obtain ⟨_, _, c2, a2⟩ := own_lt h2 hk2
  rw [a1] at a2
  injection a2 with a2
  injection a2 with _ a2
  exact hne a2
theorem own_but {w w' : World} {base : Nat} {e : TypeId} {size n : Nat} {v : Value} {xs : List Value} {S : Nat → Prop} (h : w.ownsRow base e size v n xs) (hb : But S w w') (hs : ∀ k, v.ownBlock = some k → ¬ S k) : w'.ownsRow base e size v n xs :=
  own_at h fun g _ hlt hg => hb.block g hlt (hs g hg)
theorem PM.Ok.but {B : Nat} {w w' : World} {m : PM} {S : Nat → Prop} (h : m.Ok B w) (hb : But S w w') (h1 : ∀ k, m.vv.ownBlock = some k → ¬ S k) (h2 : ∀ k, m.lo ≤ k → k < m.hi → ¬ S k) : m.Ok B w' :=
  ⟨own_but h.own hb h1, h.len, h.rg.keep fun k h3 h4 => hb.block k (Nat.lt_of_lt_of_le h4 h.hi) (h2 k h3 h4), h.lo, Nat.le_trans h.hi hb.size⟩
/-- changes below B do not touch the parts -/
theorem PartsIn.but {B : Nat} {w w' : World} {A : Option Addr} {n c : Nat} {ms : List PM} {S : Nat → Prop} (h : PartsIn B w A n c ms) (hb : But S w w') (hS : ∀ k, S k → k < B) : PartsIn B w' A n c ms :=
  ⟨own_but h.own hb (fun k hk hs => by have := (own_lt h.own hk).1; have := hS k hs; omega), h.len,
    fun m hm => (h.ok m hm).but hb (fun k hk hs => by have := (own_lt (h.ok m hm).own hk).1; have := hS k hs; omega) (fun k hk _ hs => by have := (h.ok m hm).lo; have := hS k hs; omega), h.apart, h.far⟩
theorem PartsIn.below {B : Nat} {w w' : World} {A : Option Addr} {n c : Nat} {ms : List PM} (h : PartsIn B w A n c ms) (hb : Below w.heap.size w w') : PartsIn B w' A n c ms := h.but (S := fun _ => False) (But.of_below hb) (fun _ h => h.elim)
/-- one more part -/
theorem PartsIn.add {B : Nat} {w w' : World} {A A' : Option Addr} {n c c' : Nat} {ms : List PM} (h : PartsIn B w A n c ms) {x : Int} {f : Bool} {A2 : Option Addr} {n2 c2 lo hi : Nat} {r : Rg}
    (hown : w'.ownsRow B 86 4 (.slice A' (n + 1) c') (n + 1) ((ms ++ [PM.mk none 0 0 [] x f A2 n2 c2 r lo hi]).flatMap PM.cs))
    (hb : But (fun k => (Value.slice A n c).ownBlock = some k ∨ k < B) w w') (hloc : ∀ k, (Value.slice A' (n + 1) c').ownBlock = some k → (Value.slice A n c).ownBlock = some k ∨ w.heap.size ≤ k)
    (hr : RgF lo hi w x f A2 n2 c2 r) (hlo : B ≤ lo) (hhi : hi ≤ w.heap.size) (hfar : ∀ k, lo ≤ k → k < hi → (Value.slice A n c).ownBlock ≠ some k ∧ ∀ m ∈ ms, m.vv.ownBlock ≠ some k) :
    PartsIn B w' A' (n + 1) c' (ms ++ [PM.mk none 0 0 [] x f A2 n2 c2 r lo hi]) := by
  have hnil : ∀ k : Nat, (PM.mk none 0 0 [] x f A2 n2 c2 r lo hi).vv.ownBlock ≠ some k := fun k hk => by simp [PM.vv, Value.ownBlock] at hk
  refine ⟨hown, by simp [h.len], fun m hm => ?_, ?_, fun m hm k hk1 hk2 => ?_⟩
  · rcases List.mem_append.1 hm with hm | hm
    · refine (h.ok m hm).but hb (fun k hk hs => ?_) (fun k hk1 hk2 hs => ?_)
      · rcases hs with hs | hs
        · exact own_types (h.ok m hm).own h.own (by decide) hk hs
        · have := (own_lt (h.ok m hm).own hk).1; omega
      · rcases hs with hs | hs
        · exact (h.far m hm k hk1 hk2).1 hs
        · have := (h.ok m hm).lo; omega
    · rw [List.mem_singleton] at hm
      subst hm
      refine ⟨⟨by simp, .inl ⟨rfl, rfl⟩⟩, rfl, hr.keep fun k hk1 hk2 => hb.block k (Nat.lt_of_lt_of_le hk2 hhi) fun hs => ?_, hlo, Nat.le_trans hhi hb.size⟩
      rcases hs with hs | hs
      · exact (hfar k hk1 hk2).1 hs
      · have hk1' : lo ≤ k := hk1
        omega
  · refine List.pairwise_append.2 ⟨h.apart, List.pairwise_singleton _ _, fun m _ m' hm' k _ => ?_⟩
    rw [List.mem_singleton] at hm'
    subst hm'
    exact hnil k
  · have key : k < w.heap.size ∧ (Value.slice A n c).ownBlock ≠ some k ∧ ∀ m' ∈ ms, m'.vv.ownBlock ≠ some k := by
      rcases List.mem_append.1 hm with hm | hm
      · exact ⟨Nat.lt_of_lt_of_le hk2 (h.ok m hm).hi, h.far m hm k hk1 hk2⟩
      · rw [List.mem_singleton] at hm
        subst hm
        exact ⟨Nat.lt_of_lt_of_le hk2 hhi, hfar k hk1 hk2⟩
    refine ⟨fun hs => ?_, fun m' hm' => ?_⟩
    · rcases hloc k hs with e | e
      · exact key.2.1 e
      · have := key.1; omega
    · rcases List.mem_append.1 hm' with hm' | hm'
      · exact key.2.2 m' hm'
      · rw [List.mem_singleton] at hm'
        subst hm'
        exact hnil k
/-- one part's values changed -/
theorem PartsIn.set {B : Nat} {w w' : World} {A : Option Addr} {n c j : Nat} {ms : List PM} (h : PartsIn B w A n c ms) {m : PM} (hm : ms[j]? = some m) {A1 : Option Addr} {n1 c1 : Nat} {vs : List Iv}
    (hown : w'.ownsRow B 86 4 (.slice A n c) n ((ms.set j { m with A1 := A1, n1 := n1, c1 := c1, vs := vs }).flatMap PM.cs))
    (hv : w'.ownsRow B 90 7 (.slice A1 n1 c1) n1 (vs.flatMap Iv.cs)) (hl : vs.length = n1)
    (hb : But (fun k => (Value.slice A n c).ownBlock = some k ∨ m.vv.ownBlock = some k) w w') (hloc : ∀ k, (Value.slice A1 n1 c1).ownBlock = some k → m.vv.ownBlock = some k ∨ w.heap.size ≤ k) :
    PartsIn B w' A n c (ms.set j { m with A1 := A1, n1 := n1, c1 := c1, vs := vs }) := by
  have hj := (List.getElem?_eq_some_iff.1 hm).1
  have hmm := List.mem_of_getElem? hm
  have hget : ∀ i, (ms.set j { m with A1 := A1, n1 := n1, c1 := c1, vs := vs })[i]? = if i = j then some { m with A1 := A1, n1 := n1, c1 := c1, vs := vs } else ms[i]? := fun i => by
    rw [List.getElem?_set]
    by_cases e : j = i
    · subst e; simp [hj]
    · rw [if_neg e, if_neg (Ne.symm e)]
  have hmem : ∀ m', m' ∈ ms.set j { m with A1 := A1, n1 := n1, c1 := c1, vs := vs } → m' = { m with A1 := A1, n1 := n1, c1 := c1, vs := vs } ∨ ∃ i, i ≠ j ∧ ms[i]? = some m' := fun m' hm' => by
    obtain ⟨i, hi⟩ := List.mem_iff_getElem?.1 hm'
    rw [hget] at hi
    split at hi
    · injection hi with hi; exact .inl hi.symm
    · exact .inr ⟨i, ‹_›, hi⟩
  have hap : ∀ (i : Nat) (m' : PM), i ≠ j → ms[i]? = some m' → ∀ k, m.vv.ownBlock = some k → m'.vv.ownBlock ≠ some k := fun i m' hij hi k hk hk' => by
    have a := List.getElem?_eq_some_iff.1 hi
    have b := List.getElem?_eq_some_iff.1 hm
    rcases Nat.lt_or_gt_of_ne hij with hl | hl
    · have := List.pairwise_iff_getElem.1 h.apart i j a.1 b.1 hl k
      rw [a.2, b.2] at this
      exact this hk' hk
    · have := List.pairwise_iff_getElem.1 h.apart j i b.1 a.1 hl k
      rw [a.2, b.2] at this
      exact this hk hk'
  have hnew : ∀ (i : Nat) (m' : PM), i ≠ j → ms[i]? = some m' → ∀ k, (Value.slice A1 n1 c1).ownBlock = some k → m'.vv.ownBlock ≠ some k := fun i m' hij hi k hk hk' => by
    rcases hloc k hk with e | e
    · exact hap i m' hij hi k e hk'
    · have := (own_lt (h.ok m' (List.mem_of_getElem? hi)).own hk').2.1; omega
  refine ⟨hown, by simp [h.len], fun m' hm' => ?_, ?_, fun m' hm' k hk1 hk2 => ?_⟩
  · rcases hmem m' hm' with rfl | ⟨i, hij, hi⟩
    · have ho := h.ok m hmm
      refine ⟨hv, hl, ho.rg.keep fun k hk1 hk2 => hb.block k (Nat.lt_of_lt_of_le hk2 ho.hi) fun hs => ?_, ho.lo, Nat.le_trans ho.hi hb.size⟩
      rcases hs with hs | hs
      · exact (h.far m hmm k hk1 hk2).1 hs
      · exact (h.far m hmm k hk1 hk2).2 m hmm hs
    · have hmi := List.mem_of_getElem? hi
      refine (h.ok m' hmi).but hb (fun k hk hs => ?_) (fun k hk1 hk2 hs => ?_)
      · rcases hs with hs | hs
        · exact own_types (h.ok m' hmi).own h.own (by decide) hk hs
        · exact hap i m' hij hi k hs hk
      · rcases hs with hs | hs
        · exact (h.far m' hmi k hk1 hk2).1 hs
        · exact (h.far m' hmi k hk1 hk2).2 m hmm hs
  · rw [List.pairwise_iff_getElem]
    intro i1 i2 h1 h2 hlt k hk hk'
    have g1 := hget i1
    have g2 := hget i2
    rw [List.getElem?_eq_getElem h1] at g1
    rw [List.getElem?_eq_getElem h2] at g2
    by_cases e1 : i1 = j
    · by_cases e2 : i2 = j
      · omega
      · rw [if_pos e1] at g1
        rw [if_neg e2] at g2
        injection g1 with g1
        rw [g1] at hk
        exact hnew i2 _ e2 g2.symm k hk hk'
    · rw [if_neg e1] at g1
      by_cases e2 : i2 = j
      · rw [if_pos e2] at g2
        injection g2 with g2
        rw [g2] at hk'
        exact hnew i1 _ e1 g1.symm k hk' hk
      · rw [if_neg e2] at g2
        have a := List.getElem?_eq_some_iff.1 g1.symm
        have b := List.getElem?_eq_some_iff.1 g2.symm
        have := List.pairwise_iff_getElem.1 h.apart i1 i2 a.1 b.1 hlt k
        rw [a.2, b.2] at this
        exact this hk hk'
  · have key : k < w.heap.size ∧ (Value.slice A n c).ownBlock ≠ some k ∧ ∀ m' ∈ ms, m'.vv.ownBlock ≠ some k := by
      rcases hmem m' hm' with rfl | ⟨i, hij, hi⟩
      · exact ⟨Nat.lt_of_lt_of_le hk2 (h.ok m hmm).hi, h.far m hmm k hk1 hk2⟩
      · exact ⟨Nat.lt_of_lt_of_le hk2 (h.ok m' (List.mem_of_getElem? hi)).hi, h.far m' (List.mem_of_getElem? hi) k hk1 hk2⟩
    refine ⟨key.2.1, fun m'' hm'' => ?_⟩
    rcases hmem m'' hm'' with rfl | ⟨i, hij, hi⟩
    · intro hs
      rcases hloc k hs with e | e
      · exact key.2.2 m hmm e
      · have := key.1; omega
    · exact key.2.2 m'' (List.mem_of_getElem? hi)
/-- the parts are a region in fresh memory -/
theorem PartsIn.region {B : Nat} {w : World} {A : Option Addr} {n c : Nat} {ms : List PM} (h : PartsIn B w A n c ms) (x : Int) : RgF B w.heap.size w x false A n c (mkR x false (ms.map PM.pr)) := by
  intro w' hw
  have hown : w'.ownsRow B 86 4 (.slice A n c) n (ms.flatMap PM.cs) := own_at h.own fun g h1 h2 _ => hw g h1 h2
  have hok : ∀ m ∈ ms, w'.ownsRow B 90 7 m.vv m.n1 (m.vs.flatMap Iv.cs) ∧ RgS w' m.x m.f m.A2 m.n2 m.c2 m.r := fun m hm => by
    have ho := h.ok m hm
    exact ⟨own_at ho.own fun g h1 h2 _ => hw g h1 h2, ho.rg w' fun k h1 h2 => hw k (Nat.le_trans ho.lo h1) (Nat.lt_of_lt_of_le h2 ho.hi)⟩
  refine ⟨w_mk _ _ _, f_mk _ _ _, own_okS hown, by rw [← len_parts, parts_mk, List.length_map, h.len], fun hn => ?_⟩
  obtain ⟨b, o, e, hc⟩ := (Sl.of_own PM.cs_len h.len hown).2 hn
  refine ⟨b, o, e, RgP.of fun k p hp => ?_⟩
  rw [parts_mk, List.getElem?_map, Option.map_eq_some_iff] at hp
  obtain ⟨m, hm, rfl⟩ := hp
  have hk := hok m (List.mem_of_getElem? hm)
  have h0 := hc k m hm
  exact ⟨m.A1, m.n1, m.c1, m.x, m.f, m.A2, m.n2, m.c2, ⟨h0 0 _ rfl, h0 1 _ rfl, h0 2 _ rfl, h0 3 _ rfl, own_okS hk.1, Sl.of_own Iv.cs_len (h.ok m (List.mem_of_getElem? hm)).len hk.1, hk.2⟩⟩
/-- bytes as a string -/
def txOf (l : List Int) : ByteArray := ⟨(l.map fun z => UInt8.ofNat z.toNat).toArray⟩
theorem txOf_size (l : List Int) : (txOf l).size = l.length := by simp [txOf, ByteArray.size]
theorem u8_nat {z : Int} (h : 0 ≤ z ∧ z ≤ 255) : ((UInt8.ofNat z.toNat).toNat : Int) = z := by
  rw [UInt8.toNat_ofNat']
  omega
theorem txOf_inj {l m : List Int} (hl : ∀ z ∈ l, 0 ≤ z ∧ z ≤ 255) (hm : ∀ z ∈ m, 0 ≤ z ∧ z ≤ 255) (h : txOf l = txOf m) : l = m := by
  have h1 : (l.map fun z => UInt8.ofNat z.toNat) = (m.map fun z => UInt8.ofNat z.toNat) := by
    have := congrArg (fun t : ByteArray => t.data.toList) h
    simpa [txOf] using this
  clear h
  induction l generalizing m with
  | nil => cases m with | nil => rfl | cons => simp at h1
  | cons x l ih =>
    cases m with
    | nil => simp at h1
    | cons y m =>
      simp only [List.map_cons, List.cons.injEq] at h1
      have e1 := u8_nat (hl x List.mem_cons_self)
      have e2 := u8_nat (hm y List.mem_cons_self)
      rw [h1.1, e2] at e1
      rw [ih (fun z hz => hl z (List.mem_cons_of_mem _ hz)) (fun z hz => hm z (List.mem_cons_of_mem _ hz)) h1.2, ← e1]
theorem own_bytes {w : World} {base g m c : Nat} {l : List Int} (h : w.ownsRow base 5 1 (.slice (some ⟨g, 0, none⟩) m c) m (l.flatMap u8v)) (hl : ∀ z ∈ l, 0 ≤ z ∧ z ≤ 255) (hm : l.length = m) :
    (convert 22 9 (.slice (some ⟨g, 0, none⟩) m c)).run Tryz.prog w = .ok (.string (txOf l)) w := by
  have := Lib.run_convert_whole (P := Tryz.prog) w 22 5 9 Tryz.underlying22 Tryz.underlying5 Tryz.underlying9 g 0 (txOf l) ?_ c
  · rw [txOf_size, hm] at this
    exact this
  · intro i hi
    rw [txOf_size] at hi
    have h1 := List.getElem?_eq_getElem hi
    have h2 := h.cells (g := g) rfl i (.int .u8 l[i]) (by have := flat_at u8v_len l i _ 0 (.int .u8 l[i]) h1 rfl; simpa using this)
    rw [add_at] at h2
    rw [h2]
    congr 2
    have h3 : (txOf l)[i]'(by rw [txOf_size]; exact hi) = UInt8.ofNat (l[i]).toNat := by
      show (txOf l).data[i]'(by have := txOf_size l; simp only [ByteArray.size] at this; omega) = _
      simp [txOf]
    rw [h3, u8_nat (hl _ (List.getElem_mem hi))]
theorem encV_byte {v : Vl} (h : okV v) : ∀ z ∈ encV v, 0 ≤ z ∧ z ≤ 255 := by
  have hn : ∀ k, ∀ z ∈ numBs v.i k, 0 ≤ z ∧ z ≤ 255 := fun k => by
    induction k with
    | zero => intro z hz; cases hz
    | succ k ih =>
      intro z hz
      rcases List.mem_append.1 hz with hz | hz
      · exact ih z hz
      · rw [List.mem_singleton] at hz
        subst hz
        unfold numB
        omega
  intro z hz
  simp only [encV, List.mem_append, List.mem_cons, List.not_mem_nil, or_false] at hz
  have h1 := h.1
  have h2 := h.2
  rcases hz with ((rfl | hz) | rfl) | hz
  · exact h1
  · exact hn 8 z hz
  · omega
  · unfold txB at hz
    obtain ⟨b, _, rfl⟩ := List.mem_map.1 hz
    have := UInt8.toNat_lt b
    omega
theorem encB_byte : ∀ {r : Rg}, EncOk r → r.size ≤ 64 → ∀ z ∈ encB r, 0 ≤ z ∧ z ≤ 255
  | .nil _ _, _, _, z, hz => by cases hz
  | .cons vs rest tail, ho, hs, z, hz => by
    simp only [Rg.size] at hs
    simp only [encB, List.mem_append, List.mem_cons, List.not_mem_nil, or_false, List.mem_flatMap] at hz
    have h1 := ho.1
    have h2 := len_le_size rest
    have h3 : ∀ f, 0 ≤ fbit f ∧ fbit f ≤ 255 := fun f => by cases f <;> simp [fbit]
    rcases hz with ((rfl | ⟨x, hx, hz⟩) | ((rfl | rfl) | hz)) | hz
    · omega
    · rcases List.mem_append.1 hz with hz | hz
      · exact encV_byte (ho.2.1 x hx).1 z hz
      · exact encV_byte (ho.2.1 x hx).2 z hz
    · exact h3 _
    · omega
    · exact encB_byte ho.2.2.1 (by omega) z hz
    · exact encB_byte ho.2.2.2 (by omega) z hz
theorem encR_byte {r : Rg} (ho : EncOk r) (hs : r.size ≤ 64) : ∀ z ∈ encR r, 0 ≤ z ∧ z ≤ 255 := fun z hz => by
  simp only [encR, List.mem_append, List.mem_cons, List.not_mem_nil, or_false] at hz
  have h2 := len_le_size r
  rcases hz with (rfl | rfl) | hz
  · cases r.f <;> simp [fbit]
  · omega
  · exact encB_byte ho hs z hz
/-- the code of a region tells it -/
def codeR (r : Rg) : ByteArray := txOf (encR r)
theorem codeR_inj {n : Nat} {a b : Rg} (ha : Form n a) (hb : Form n b) (wa : WfR a) (wb : WfR b) (ia : within a) (ib : within b) (h : codeR a = codeR b) : a = b :=
  encR_inj ha hb wa wb (txOf_inj (encR_byte (form_enc n a ha ia.2) ia.1) (encR_byte (form_enc n b hb ib.2) ib.1) h)
theorem codeR_len {n : Nat} {r : Rg} (h : Form n r) (i : within r) : (codeR r).size ≤ 640002 := by
  rw [codeR, txOf_size]
  have := encR_len (form_enc n r h i.2)
  have := i.1
  omega
/-- the numbers of a combined region are those of the two -/
theorem comb_wf (op : Bool → Bool → Bool) : ∀ (n : Nat) (a b : Rg), WfR a → WfR b → WfR (comb op n a b)
  | 0, _, _, _, _ => trivial
  | n + 1, a, b, ha, hb => by
    have hat : ∀ (r : Rg) (v : Vl), WfR r → WfR (r.at_ (n : Int) v) := fun r v hr => by
      rcases at_spec (n : Int) v r with ⟨p, hp, _, e⟩ | ⟨e, _⟩
      · rw [e]; exact (hr.mem hp).2
      · rw [e]; trivial
    have hz : rgV zeroV := ⟨by decide, by decide⟩
    have hpt : ∀ v ∈ ptsOf a b, rgV v := fun v hv => by
      obtain ⟨l, hl, hvl⟩ := ((ptsAll_spec (valsOf a ++ valsOf b)).2 v).1 hv
      have : ∀ r : Rg, WfR r → l ∈ valsOf r → rgV v := fun r hr hl => by
        obtain ⟨p, hp, rfl⟩ := List.mem_map.1 hl
        obtain ⟨x, hx, h⟩ := mem_ptsL.1 hvl
        have := (hr.mem hp).1 x hx
        rcases h with rfl | ⟨_, rfl⟩
        · exact this.1
        · exact this.2
      rcases List.mem_append.1 hl with hl | hl
      · exact this a ha hl
      · exact this b hb hl
    have hiv : ∀ P : List Vl, (∀ v ∈ P, rgV v) → ∀ x ∈ ivsOf P, rgV x.f ∧ rgV x.t := by
      intro P
      induction P using ivsOf.induct with
      | case1 => intro _ x hx; cases hx
      | case2 y => intro h x hx; simp only [ivsOf, List.mem_singleton] at hx; subst hx; exact ⟨h y (by simp), hz⟩
      | case3 y z P ih =>
        intro h x hx
        simp only [ivsOf, List.mem_cons] at hx
        rcases hx with rfl | hx
        · exact ⟨h y (by simp), h z (by simp)⟩
        · exact ih (fun v hv => h v (by simp [hv])) x hx
    refine WfR.of fun p hp => ?_
    obtain ⟨r, hm, rfl⟩ := List.mem_map.1 hp
    refine ⟨hiv _ fun v hv => hpt v ((chg_sub _ _ _).1 v hv), ?_⟩
    obtain ⟨h1, _⟩ := (uniq_mem r _).1 hm
    obtain ⟨q, _, rfl⟩ := List.mem_map.1 h1
    exact comb_wf op n _ _ (hat a q ha) (hat b q hb)
end Go.Proofs.YtmnmckblmoalkaaGreat

/-
  Plain: regions whose lists are all short; the results of operations are such. No program here.
-/
namespace Go.Proofs.YtmnmckblmoalkaaGreat
open Go.RowKit
set_option maxRecDepth 100000
open Rg

/-- all lists inside are short -/
def SmR : Rg → Prop
  | .nil _ _ => True
  | .cons vs rest tail => vs.length ≤ 100000 ∧ rest.len ≤ 100000 ∧ SmR rest ∧ SmR tail
def Sm (r : Rg) : Prop := r.len ≤ 100000 ∧ SmR r
theorem SmR.mem {p : List Iv × Rg} : ∀ {r : Rg}, SmR r → p ∈ r.parts → p.1.length ≤ 100000 ∧ Sm p.2
  | .nil _ _, _, h => by cases h
  | .cons vs rest tail, hs, h => by
    rcases List.mem_cons.1 h with rfl | h
    · exact ⟨hs.1, hs.2.1, hs.2.2.1⟩
    · exact SmR.mem hs.2.2.2 h
theorem SmR.of {w : Int} {f : Bool} : ∀ {L : List (List Iv × Rg)}, (∀ p ∈ L, p.1.length ≤ 100000 ∧ Sm p.2) → SmR (mkR w f L)
  | [], _ => trivial
  | p :: L, h => ⟨(h p List.mem_cons_self).1, (h p List.mem_cons_self).2.1, (h p List.mem_cons_self).2.2, SmR.of fun q hq => h q (List.mem_cons_of_mem _ hq)⟩
theorem len_mk (w : Int) (f : Bool) (L : List (List Iv × Rg)) : (mkR w f L).len = L.length := by rw [← len_parts, parts_mk]
theorem Sm.of {w : Int} {f : Bool} {L : List (List Iv × Rg)} (hl : L.length ≤ 100000) (h : ∀ p ∈ L, p.1.length ≤ 100000 ∧ Sm p.2) : Sm (mkR w f L) := ⟨by rw [len_mk]; exact hl, SmR.of h⟩
theorem Sm.nil (w : Int) (f : Bool) : Sm (.nil w f) := ⟨Nat.zero_le _, trivial⟩
theorem Sm.mem {p : List Iv × Rg} {r : Rg} (h : Sm r) (hp : p ∈ r.parts) : p.1.length ≤ 100000 ∧ Sm p.2 := SmR.mem h.2 hp
theorem sm_within' : ∀ {r : Rg}, r.size ≤ 64 → r.fits = true → SmR r
  | .nil _ _, _, _ => trivial
  | .cons vs rest tail, h1, h2 => by
    simp only [Rg.fits, Bool.and_eq_true, decide_eq_true_eq] at h2
    simp only [Rg.size] at h1
    have := len_le_size rest
    exact ⟨by omega, by omega, sm_within' (by omega) h2.1.2, sm_within' (by omega) h2.2⟩
theorem sm_within {r : Rg} (h : within r) : Sm r := ⟨by have := len_le_size r; have := h.1; omega, sm_within' h.1 h.2⟩
theorem insV_len (v : Vl) : ∀ l : List Vl, (insV v l).length ≤ l.length + 1
  | [] => by simp [insV]
  | x :: l => by
    have ih := insV_len v l
    unfold insV
    repeat' split
    all_goals simp only [List.length_cons]
    all_goals omega
theorem sortV_len : ∀ l : List Vl, (sortV l).length ≤ l.length
  | [] => Nat.le_refl _
  | x :: l => by
    have ih := sortV_len l
    have := insV_len x (sortV l)
    show (insV x (sortV l)).length ≤ _
    rw [List.length_cons]
    omega
theorem ptsL_len2 : ∀ l : List Iv, (ptsL l).length ≤ 2 * l.length
  | [] => Nat.le_refl _
  | x :: l => by
    have ih := ptsL_len2 l
    unfold ptsL
    cases x.o <;> simp <;> omega
theorem flat_pts_len : ∀ {L : List (List Iv)} {m : Nat}, (∀ l ∈ L, l.length ≤ m) → (L.flatMap ptsL).length ≤ 2 * m * L.length
  | [], _, _ => by simp
  | l :: L, m, h => by
    have ih := flat_pts_len (L := L) (m := m) fun q hq => h q (List.mem_cons_of_mem _ hq)
    have h1 := h l List.mem_cons_self
    have h2 := ptsL_len2 l
    rw [List.flatMap_cons, List.length_append, List.length_cons, Nat.mul_succ]
    omega
theorem vals_within {r : Rg} (h : within r) : (valsOf r).length ≤ 64 ∧ ∀ l ∈ valsOf r, l.length ≤ 64 := by
  refine ⟨by unfold valsOf; rw [List.length_map, len_parts]; exact Nat.le_trans (len_le_size r) h.1, fun l hl => ?_⟩
  obtain ⟨p, hp, rfl⟩ := List.mem_map.1 hl
  exact (fits_mem h.2 hp).1
theorem pts_len {a b : Rg} (ha : within a) (hb : within b) : (ptsOf a b).length ≤ 16384 := by
  have h := sortV_len ((valsOf a ++ valsOf b).flatMap ptsL)
  have h1 := flat_pts_len (L := valsOf a ++ valsOf b) (m := 64) fun l hl => by
    rcases List.mem_append.1 hl with hl | hl
    · exact (vals_within ha).2 l hl
    · exact (vals_within hb).2 l hl
  have h2 := (vals_within ha).1
  have h3 := (vals_within hb).1
  rw [List.length_append] at h1
  show (sortV _).length ≤ _
  omega
theorem uniq_len : ∀ l : List Rg, (uniq l).length ≤ l.length
  | [] => Nat.le_refl _
  | r :: l => by
    have ih := uniq_len l
    unfold uniq
    split
    · rw [List.length_cons]; omega
    · have := List.length_filter_le (fun s => decide (s ≠ r)) (uniq l)
      rw [List.length_cons, List.length_cons]
      omega
theorem valsAt_len (ro : Vl → Rg) (P : List Vl) (r : Rg) : (valsAt ro P r).length ≤ P.length := by
  unfold valsAt
  have h1 := ivs_len (chg (fun p => decide (ro p = r)) false P)
  have h2 := (chg_sub (fun p => decide (ro p = r)) P false).2
  cases P with
  | nil => simp [chg, ivsOf]
  | cons x P => rw [List.length_cons] at h2 ⊢; omega
theorem within_at {n : Int} {r : Rg} (h : within r) (v : Vl) : within (r.at_ n v) := by
  rcases at_spec n v r with ⟨p, hp, _, e⟩ | ⟨e, _⟩
  · rw [e]
    have := size_mem hp
    have := h.1
    exact ⟨by omega, (fits_mem h.2 hp).2⟩
  · rw [e]; exact ⟨by simp [Rg.size], rfl⟩
theorem comb_sm (op : Bool → Bool → Bool) : ∀ (n : Nat) (a b : Rg), within a → within b → Sm (comb op n a b)
  | 0, _, _, _, _ => Sm.nil _ _
  | n + 1, a, b, ha, hb => by
    have hP := pts_len ha hb
    refine Sm.of ?_ fun p hp => ?_
    · unfold partsAt
      rw [List.length_map]
      have := uniq_len ((ptsOf a b).map fun p => comb op n (a.at_ (n : Int) p) (b.at_ (n : Int) p))
      rw [List.length_map] at this
      omega
    · obtain ⟨r, hr, rfl⟩ := List.mem_map.1 hp
      refine ⟨Nat.le_trans (valsAt_len _ _ _) (by omega), ?_⟩
      obtain ⟨q, _, rfl⟩ := List.mem_map.1 ((uniq_mem r _).1 hr).1
      exact comb_sm op n _ _ (within_at ha q) (within_at hb q)
end Go.Proofs.YtmnmckblmoalkaaGreat
