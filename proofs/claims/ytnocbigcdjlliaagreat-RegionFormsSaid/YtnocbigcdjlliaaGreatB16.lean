/-
  Texts: MapIs, ShelfQ, LayOf, SortE.
-/
import Derived.Test.YtnocbigcdjlliaaGreatB15
import Derived.Maps.OwnSet
import Derived.Maps.Views
import Derived.DeepKeys4
import Derived.Shelf.SlGeneric
import Derived.Shelf.SlSortCmp.WholeK
import Derived.Ground.SlsfProg
import Derived.Test.YtnocbigcdjlliaaGreatProg
import Derived.Shelf.GgSortFunc.InsertionK
import Derived.Shelf.SlSortCmp.NoneTotal
set_option linter.unusedVariables false
/-
  A map of the call's own as a function of its keys: looking up and storing. No program of ours here.
-/
namespace Go.Proofs.YtnocbigcdjlliaaGreat
open Go.RowKit Go.Maps
set_option maxRecDepth 100000

section
variable {κ : Type}
/-- block b is a map of at most n entries that holds M -/
def MapIs (w : World) (kT : TypeId) (kv : κ → Value) (b n : Nat) (M : κ → Option Int) : Prop :=
  ∃ D : DataW Unit, w.ownsMap Tryz.prog kT (plainElem Tryz.prog 3) b n D ∧ ∀ k kl, keyOf Tryz.prog kT (kv k) = some kl → Maps.has D kl = (M k).isSome ∧ ∀ c, M k = some c → D.atKey kl (.lit (.int .i64 0)) = .lit (.int .i64 c)
variable {w w' : World} {kT : TypeId} {kv : κ → Value} {b n : Nat} {M : κ → Option Int}
theorem MapIs.lt (h : MapIs w kT kv b n M) : b < w.heap.size := by obtain ⟨D, h1, _⟩ := h; exact h1.lt
theorem MapIs.block (h : MapIs w kT kv b n M) (hb : w'.heap[b]? = w.heap[b]?) : MapIs w' kT kv b n M := by
  obtain ⟨D, ⟨es, clock, h1, h2⟩, h3⟩ := h
  exact ⟨D, ⟨es, clock, hb.trans h1, h2⟩, h3⟩
theorem MapIs.below (h : MapIs w kT kv b n M) (hb : Below w.heap.size w w') : MapIs w' kT kv b n M := h.block (hb.block b h.lt)
theorem MapIs.but {S : Nat → Prop} (h : MapIs w kT kv b n M) (hb : But S w w') (hs : ¬ S b) : MapIs w' kT kv b n M := h.block (hb.block b h.lt hs)
theorem MapIs.mono (h : MapIs w kT kv b n M) {n' : Nat} (hn : n ≤ n') : MapIs w kT kv b n' M := by
  obtain ⟨D, h1, h2⟩ := h
  exact ⟨D, h1.mono hn, h2⟩
theorem MapIs.made (w : World) (kT : TypeId) (kv : κ → Value) : MapIs (w.alloc (.map #[] 0)) kT kv w.heap.size 0 (fun _ => none) :=
  ⟨.map [], World.ownsMap_made w _ _ _, fun k kl _ => ⟨rfl, fun c h => by cases h⟩⟩
/-- it is no row of cells -/
theorem MapIs.norow (h : MapIs w kT kv b n M) (cs : Array Value) (e : TypeId) (fz : Nat × Nat) : w.heap[b]? ≠ some (.cells cs e fz) := by
  obtain ⟨D, ⟨es, clock, h1, h2⟩, h3⟩ := h
  rw [h1]
  intro h
  injection h with h
  cases h
theorem wpList_map_look {P : Program} {ops : Array Oper} {rest : List Oper} {o : Oper} {a : Act} {Q : Exit → Act → World → Prop} (hP : P = Tryz.prog) (hg : o.guard = none) (m x : Operand) (t : TypeId) (hop : o.op = Op.lookup t m x true)
    (K : Keyed Tryz.prog kT) (ht : Tryz.prog.underlying t = some (.map kT 3)) (hm : a.eval m = .map (some b)) (h : MapIs w kT kv b n M) (k : κ) (kl : Lit) (hx : a.eval x = kv k) (hkey : keyOf Tryz.prog kT (kv k) = some kl)
    (hK : wpList P ops Q rest (a.put o.dst (.tuple #[.int .i64 ((M k).getD 0), .bool (M k).isSome])) w) : wpList P ops Q (o :: rest) a w := by
  subst hP
  obtain ⟨D, h1, h2⟩ := h
  obtain ⟨h3, h4⟩ := h2 k kl hkey
  refine wpList_lookup_own_ok_int w hg m x t hop kT 3 .i64 K ht Tryz.underlying3 (by kernel_rfl) b n D hm h1 (kv k) kl hx hkey ?_
  intro c hc _
  rw [h3]
  cases hM : M k with
  | none =>
    rw [hM] at h3 hK
    have h5 := atKey_of_not_has (D := D) (k := kl) h3 (.lit (.int .i64 0))
    rw [h5] at hc
    injection hc with hc
    injection hc with _ hc
    rw [← hc]
    exact hK
  | some v =>
    rw [hM] at hK
    have h5 := h4 v hM
    rw [h5] at hc
    injection hc with hc
    injection hc with _ hc
    rw [← hc]
    exact hK
set_option maxRecDepth 100000 in
theorem wpList_map_put [DecidableEq κ] {P : Program} {ops : Array Oper} {rest : List Oper} {o : Oper} {a : Act} {Q : Exit → Act → World → Prop} (hP : P = Tryz.prog) (hg : o.guard = none) (m x v : Operand) (t : TypeId) (hop : o.op = Op.mapUpdate t m x v)
    (K : Keyed Tryz.prog kT) (ht : Tryz.prog.underlying t = some (.map kT 3)) (hm : a.eval m = .map (some b)) (h : MapIs w kT kv b n M) (hn : n < 1000000) (k : κ) (kl : Lit) (hx : a.eval x = kv k) (hkey : keyOf Tryz.prog kT (kv k) = some kl)
    (z : Int) (hz : -9223372036854775808 ≤ z ∧ z < 9223372036854775808) (hv : a.eval v = .int .i64 z) (hinj : ∀ k', kv k' = kv k → k' = k)
    (hK : ∀ w', MapIs w' kT kv b (n + 1) (fun k' => if k' = k then some z else M k') → But (· = b) w w' → wpList P ops Q rest (a.put o.dst undef) w') : wpList P ops Q (o :: rest) a w := by
  subst hP
  obtain ⟨D, h1, h2⟩ := h
  refine wpList_mapUpdate_own w hg m x v t hop kT 3 K ht _ b n D hm h1 (by simp only [maxLen]; omega) (kv k) (.int .i64 z) kl hx hv hkey (.lit (.int .i64 z)) [] (plainElem_int Tryz.underlying3 (WalkArith.wf_i64 (by omega))) ?_
  intro w' ho hg'
  refine hK w' ⟨_, ho, fun k' kl' hk' => ?_⟩ (But.of_grown hg' (fun j hj => by injection hj with hj; exact hj.symm))
  have hmap := h1.isMap
  dsimp only
  by_cases e : k' = k
  · subst e
    rw [hkey] at hk'
    injection hk' with hk'
    subst hk'
    rw [if_pos rfl]
    exact ⟨has_put_same hmap (K.key hkey) _, fun c hc => by injection hc with hc; rw [← hc]; exact atKey_put_same hmap (K.key hkey) _ _⟩
  · have hne : kl' ≠ kl := fun h => e (hinj k' (K.inj hk' (by rw [h]; exact hkey)))
    rw [if_neg e, has_put_other hne, atKey_put_other hne]
    exact h2 k' kl' hk'
end
/-- pairs of numbers as keys -/
def kv2 (k : Int × Int) : Value := .agg #[.int .i64 k.1, .int .i64 k.2]
theorem kv2_inj (k k' : Int × Int) (h : kv2 k' = kv2 k) : k' = k := by
  obtain ⟨a, b⟩ := k
  obtain ⟨c, d⟩ := k'
  simp only [kv2, Value.agg.injEq, Array.mk.injEq, List.cons.injEq, Value.int.injEq, true_and, and_true] at h
  rw [h.1, h.2]
theorem keyed2 : Keyed Tryz.prog 129 := Keyed.of_law (deep_law_laid (P := Tryz.prog) (by kernel_rfl) (m := 2) (by omega) (of_decide_eq_true (by kernel_rfl)) (by kernel_rfl) (by rw [Tryz.underlying129]))
theorem keyedS : Keyed Tryz.prog 9 := string_keyed Tryz.underlying9
theorem key2 (i k : Int) (hi : -9223372036854775808 ≤ i ∧ i < 9223372036854775808) (hk : -9223372036854775808 ≤ k ∧ k < 9223372036854775808) : ∃ kl, keyOf Tryz.prog 129 (kv2 (i, k)) = some kl := by
  have ht : Tryz.prog.keyType 129 = true := by kernel_rfl
  have hc : Tryz.prog.cellsOf 129 = 2 := by kernel_rfl
  have hc1 : Tryz.prog.cellsOf 3 = 1 := by kernel_rfl
  have hf : (Value.agg #[.int .i64 i, .int .i64 k]).formed Tryz.prog 129 = true := by simp [Value.formed, Tryz.underlying129, hc]
  obtain ⟨s, hs⟩ : ∃ s, Tryz.prog.types.size = s + 1 := Nat.exists_eq_succ_of_ne_zero (Nat.pos_iff_ne_zero.1 (of_decide_eq_true (by kernel_rfl)))
  have w1 : (Lit.int .i64 i).wf = true := WalkArith.wf_i64 (by omega)
  have w2 : (Lit.int .i64 k).wf = true := WalkArith.wf_i64 (by omega)
  refine ⟨.string (keyBytes [.int .i64 i, .int .i64 k]), ?_⟩
  unfold keyOf kv2
  rw [Tryz.underlying129]
  simp only [ht, hf, Bool.and_self, if_true, hs]
  simp [Program.keyLits, Tryz.underlying129, Tryz.underlying3, hc, hc1, w1, w2, Value.cells, List.range, List.range.loop]
end Go.Proofs.YtnocbigcdjlliaaGreat

/-
  The shelf's laying of slices.SortFunc over events at this seat, in plain words, written by the kit's lay-plain.mjs. Turned into a template by name.
-/
namespace Go.Proofs
open Go.Shelf
def Tryz.sortE_ren : Go.Shelf.Ren := ⟨fun | 6 => 139 | 15 => 148 | 14 => 147 | 28 => 161 | 29 => 162 | 20 => 153 | 21 => 154 | 22 => 155 | 23 => 156 | 24 => 157 | 25 => 158 | 26 => 159 | 27 => 160 | 46 => 163 | 47 => 164 | 48 => 165 | 49 => 166 | 50 => 167 | 57 => 168 | n => n, fun | 22 => 127 | 24 => 131 | 25 => 145 | 3 => 3 | 39 => 151 | 0 => 0 | 53 => 164 | 55 => 155 | 4 => 4 | 46 => 158 | 45 => 157 | 50 => 132 | 5 => 5 | 9 => 9 | 66 => 166 | 70 => 89 | 76 => 171 | 77 => 172 | n => n, fun | n => n⟩
theorem Tryz.sortE : Go.Proofs.SlLaysF0.n6 Tryz.prog Tryz.sortE_ren := {
  mixed := by kernel_rfl
  f6 := ⟨Tryz.f139.name, by decide, Tryz.func139.trans (congrArg some (by kernel_rfl))⟩
  f14 := ⟨Tryz.f147.name, by decide, Tryz.func147.trans (congrArg some (by kernel_rfl))⟩
  f15 := Tryz.func148.trans (congrArg some (by kernel_rfl))
  f20 := ⟨Tryz.f153.name, by decide, Tryz.func153.trans (congrArg some (by kernel_rfl))⟩
  f21 := ⟨Tryz.f154.name, by decide, Tryz.func154.trans (congrArg some (by kernel_rfl))⟩
  f22 := ⟨Tryz.f155.name, by decide, Tryz.func155.trans (congrArg some (by kernel_rfl))⟩
  f23 := ⟨Tryz.f156.name, by decide, Tryz.func156.trans (congrArg some (by kernel_rfl))⟩
  f24 := ⟨Tryz.f157.name, by decide, Tryz.func157.trans (congrArg some (by kernel_rfl))⟩
  f25 := ⟨Tryz.f158.name, by decide, Tryz.func158.trans (congrArg some (by kernel_rfl))⟩
  f26 := ⟨Tryz.f159.name, by decide, Tryz.func159.trans (congrArg some (by kernel_rfl))⟩
  f27 := ⟨Tryz.f160.name, by decide, Tryz.func160.trans (congrArg some (by kernel_rfl))⟩
  f28 := Tryz.func161.trans (congrArg some (by kernel_rfl))
  f29 := Tryz.func162.trans (congrArg some (by kernel_rfl))
  f46 := ⟨Tryz.f163.name, by decide, Tryz.func163.trans (congrArg some (by kernel_rfl))⟩
  f47 := Tryz.func164.trans (congrArg some (by kernel_rfl))
  f48 := Tryz.func165.trans (congrArg some (by kernel_rfl))
  f49 := ⟨Tryz.f166.name, by decide, Tryz.func166.trans (congrArg some (by kernel_rfl))⟩
  f50 := ⟨Tryz.f167.name, by decide, Tryz.func167.trans (congrArg some (by kernel_rfl))⟩
  f57 := ⟨Tryz.f168.name, by decide, Tryz.func168.trans (congrArg some (by kernel_rfl))⟩
  t0 := Tryz.underlying0
  a0 := Tryz.isAgg0
  z0 := Tryz.sizeOf0
  v0 := Tryz.zeroValue0
  t3 := Tryz.underlying3
  a3 := Tryz.isAgg3
  z3 := Tryz.sizeOf3
  v3 := Tryz.zeroValue3
  t4 := Tryz.underlying4
  a4 := Tryz.isAgg4
  z4 := Tryz.sizeOf4
  v4 := Tryz.zeroValue4
  t5 := Tryz.underlying5
  a5 := Tryz.isAgg5
  z5 := Tryz.sizeOf5
  v5 := Tryz.zeroValue5
  t9 := Tryz.underlying9
  a9 := Tryz.isAgg9
  z9 := Tryz.sizeOf9
  v9 := Tryz.zeroValue9
  t22 := Tryz.underlying127
  a22 := Tryz.isAgg127
  z22 := Tryz.sizeOf127
  v22 := Tryz.zeroValue127
  t25 := Tryz.underlying145
  a25 := Tryz.isAgg145
  z25 := Tryz.sizeOf145
  v25 := Tryz.zeroValue145
  t39 := Tryz.underlying151
  a39 := Tryz.isAgg151
  z39 := Tryz.sizeOf151
  v39 := Tryz.zeroValue151
  t45 := Tryz.underlying157
  a45 := Tryz.isAgg157
  z45 := Tryz.sizeOf157
  v45 := Tryz.zeroValue157
  t46 := Tryz.underlying158
  a46 := Tryz.isAgg158
  z46 := Tryz.sizeOf158
  v46 := Tryz.zeroValue158
  t50 := Tryz.underlying132
  a50 := Tryz.isAgg132
  z50 := Tryz.sizeOf132
  v50 := Tryz.zeroValue132
  t53 := Tryz.underlying164
  a53 := Tryz.isAgg164
  z53 := Tryz.sizeOf164
  v53 := Tryz.zeroValue164
  t55 := Tryz.underlying155
  a55 := Tryz.isAgg155
  z55 := Tryz.sizeOf155
  v55 := Tryz.zeroValue155
  t66 := Tryz.underlying166
  a66 := Tryz.isAgg166
  z66 := Tryz.sizeOf166
  v66 := Tryz.zeroValue166
  t70 := Tryz.underlying89
  a70 := Tryz.isAgg89
  z70 := Tryz.sizeOf89
  v70 := Tryz.zeroValue89
  t76 := Tryz.underlying171
  a76 := Tryz.isAgg171
  z76 := Tryz.sizeOf171
  v76 := Tryz.zeroValue171
  t77 := Tryz.underlying172
  a77 := Tryz.isAgg172
  z77 := Tryz.sizeOf172
  v77 := Tryz.zeroValue172 }
end Go.Proofs

/-
  From 'only lays blocks and draws' to the words of the shelf's sort. No program here.
-/
namespace Go.Proofs.YtnocbigcdjlliaaGreat
open Go.RowKit Go.Sort Go.Shelf
set_option maxRecDepth 100000

theorem lay_of {W w' : World} (h : Lay W w') : ∃ q os', w' = grow (W.drewN q) os' := by
  refine ⟨w'.drawn - W.drawn, w'.heap.extract W.heap.size w'.heap.size, ?_⟩
  have hh : w'.heap = W.heap ++ w'.heap.extract W.heap.size w'.heap.size := by
    apply Array.ext_getElem?
    intro k
    rw [Array.getElem?_append]
    by_cases hk : k < W.heap.size
    · rw [if_pos hk]
      exact h.bel.block k hk
    · rw [if_neg hk, Array.getElem?_extract]
      have hs := h.bel.size
      split
      · congr 1; omega
      · rw [Array.getElem?_eq_none]; omega
  have h1 := h.bel.os
  have h2 := h.bel.tape
  have h3 := h.bel.output
  have h4 := h.dr
  obtain ⟨heap, tape, drawn, os, out⟩ := w'
  obtain ⟨heap0, tape0, drawn0, os0, out0⟩ := W
  simp only at h1 h2 h3 h4 hh
  subst h1 h2 h3
  simp only [grow, World.drewN, World.mk.injEq, true_and, and_true]
  refine ⟨hh, ?_⟩
  omega
end Go.Proofs.YtnocbigcdjlliaaGreat

/-
  slices.SortFunc over events, by the shelf's contract.
-/
namespace Go.Proofs.YtnocbigcdjlliaaGreat
open Go.RowKit Go.Sort Go.Shelf
set_option maxRecDepth 100000

instance : Inhabited Ev := ⟨⟨zeroV, 0, 0, false⟩⟩
theorem cmpE_lt (a b : Ev) : cmpE a b < 0 ↔ cmpV a.v b.v < 0 ∨ (cmpV a.v b.v = 0 ∧ a.e = false ∧ b.e = true) := by
  unfold cmpE
  have := cmpV_range a.v b.v
  cases a.e <;> cases b.e <;> split <;> simp_all <;> omega
theorem cmpE_ge (a b : Ev) : ¬ cmpE a b < 0 ↔ cmpV b.v a.v < 0 ∨ (cmpV a.v b.v = 0 ∧ (b.e = true → a.e = true)) := by
  rw [cmpE_lt]
  have h1 := cmpV_range a.v b.v
  have h2 := cmpV_anti a.v b.v
  constructor
  · intro h
    rcases Int.lt_trichotomy (cmpV a.v b.v) 0 with h3 | h3 | h3
    · exact absurd (.inl h3) h
    · refine .inr ⟨h3, fun hb => ?_⟩
      cases ha : a.e
      · exact absurd (.inr ⟨h3, ha, hb⟩) h
      · rfl
    · exact .inl (by omega)
  · rintro (h | ⟨h, h'⟩) (h3 | ⟨h3, h4, h5⟩)
    · omega
    · omega
    · omega
    · rw [h' h5] at h4; cases h4
theorem swoE : SWO (ltOf cmpE) where
  irrefl x := decide_eq_false (p := cmpE x x < 0) (by rw [cmpE_ge]; exact .inr ⟨cmpV_self _, fun h => h⟩)
  trans x y z h1 h2 := by
    have h1' := (cmpE_lt x y).1 (of_decide_eq_true h1)
    have h2' := (cmpE_lt y z).1 (of_decide_eq_true h2)
    refine decide_eq_true (p := cmpE x z < 0) ((cmpE_lt x z).2 ?_)
    rcases h1' with h1 | ⟨h1, e1, f1⟩ <;> rcases h2' with h2 | ⟨h2, e2, f2⟩
    · exact .inl (cmpV_lt_trans h1 h2)
    · exact .inl (cmpV_lt_of_lt h1 (by omega))
    · exact .inl (cmpV_lt_of_le (by omega) h2)
    · rw [f1] at e2; cases e2
  ntrans x y z h1 h2 := by
    have h1' := (cmpE_ge x y).1 (of_decide_eq_false h1)
    have h2' := (cmpE_ge y z).1 (of_decide_eq_false h2)
    refine decide_eq_false (p := cmpE x z < 0) ((cmpE_ge x z).2 ?_)
    rcases h1' with h1 | ⟨h1, e1⟩ <;> rcases h2' with h2 | ⟨h2, e2⟩
    · exact .inl (cmpV_lt_trans h2 h1)
    · have := (cmpV_zero _ _).1 h2; rw [this] at h1; exact .inl h1
    · have := (cmpV_zero _ _).1 h1; rw [← this] at h2; exact .inl h2
    · exact .inr ⟨by have := (cmpV_zero _ _).1 h1; rw [this]; exact h2, fun h => e1 (e2 h)⟩
theorem cmpLaysE {w : World} (blk off size : Nat) : CmpLays Tryz.prog 140 #[] Ev.cs 6 cmpE blk off size w := by
  intro m os dk hs x y
  exact (cmpE_any x y _).mono fun e w' ⟨he, hl⟩ => ⟨he, lay_of hl⟩
theorem swk_block {w : World} {blk off m : Nat} {d : Array Ev} {os : Array Obj} {k : Nat} (hk : k < w.heap.size) (hne : k ≠ blk) : (sortWorldK Ev.cs 6 w blk off m d os).heap[k]? = w.heap[k]? := by
  unfold sortWorldK putRowK
  rw [heap_grow_old _ _ (by simpa using hk)]
  simp only [putRow, mapBlock, heap_ahead, Array.getElem?_modify]
  rw [if_neg (fun e => hne e.symm)]
theorem swk_but {w : World} {blk off m : Nat} {d : Array Ev} {os : Array Obj} : But (· = blk) w (sortWorldK Ev.cs 6 w blk off m d os) :=
  ⟨rfl, rfl, rfl, by simp [sortWorldK, putRowK], fun k hk hs => swk_block hk hs⟩
/-- what a sort of events leaves -/
def SortedE (w : World) (blk off n : Nat) (es : List Ev) (w' : World) : Prop := ∃ qs : List Ev, qs.Perm es ∧ EvUp qs ∧ Sl 6 Ev.cs w' (some ⟨blk, off, none⟩) n qs ∧ But (· = blk) w w'
theorem sortE_any (blk off cap n : Nat) (es : List Ev) (w : World) (hsl : Sl 6 Ev.cs w (some ⟨blk, off, none⟩) n es) (hfz : ∀ j, w.frozen? ⟨blk, j, none⟩ = false) (hblk : blk < w.heap.size) (hn : n ≤ 1000000) (hn0 : 0 < n) :
    Calls Tryz.prog 139 #[.slice (some ⟨blk, off, none⟩) n cap, .func (.func 140) #[] #[]] w fun e w' => e = .returned (.tuple #[]) ∧ SortedE w blk off n es w' := by
  have hlen := hsl.len
  have hcell : ∀ k x, es[k]? = some x → ∀ (j : Nat) (u : Value), (Ev.cs x)[j]? = some u → w.cell? ⟨blk, off + k * 6 + j, none⟩ = some u := by
    obtain ⟨b, o, e, hc⟩ := hsl.2 hn0
    injection e with e
    injection e with e1 e2
    subst e1 e2
    exact hc
  have hH : HoldsK Ev.cs 6 w blk off es.toArray := by
    intro t ht
    have ht' : t < es.length * 6 := by simpa [flatK] using ht
    have hq : t / 6 < es.length := (Nat.div_lt_iff_lt_mul (by omega)).2 ht'
    have hr : t % 6 < 6 := Nat.mod_lt _ (by omega)
    refine ⟨?_, hfz _⟩
    have h1 := hcell (t / 6) _ (List.getElem?_eq_getElem hq) (t % 6) _ (List.getElem?_eq_getElem (by rw [Ev.cs_len]; exact hr))
    rw [show off + t / 6 * 6 + t % 6 = off + t by omega] at h1
    rw [h1]
    rw [getElem!_pos (flatK Ev.cs 6 es.toArray) t ht]
    simp only [flatK, Array.getElem_map, Array.getElem_range, id_eq]
    rw [getElem!_pos es.toArray (t / 6) (by simpa using hq), getElem!_pos _ (t % 6) (by rw [Ev.cs_len]; exact hr)]
    simp
  have hcon := AnyQ.slices_SortFunc Tryz.sortE 6 Tryz.isAgg131 Tryz.sizeOf131 Ev.cs Ev.cs_len one_ev cmpE swoE 140 #[] blk off cap es.toArray w entE (cmpLaysE blk off _) hH hblk (by simp; omega)
  rw [show es.toArray.size = n by simp [hlen]] at hcon
  change Calls Tryz.prog 139 _ _ _ at hcon
  refine hcon.mono fun e w' ⟨he, d', m, os, hp, hs, hw⟩ => ⟨he, ?_⟩
  have hds : d'.size = n := by rw [hp.1]; simp [hlen]
  have hHs : HoldsK Ev.cs 6 w' blk off d' := by
    rw [hw]
    exact SWK.holds ⟨m, os, rfl⟩ hblk hH (by rw [hds]; simp [hlen])
  refine ⟨d'.toList, ?_, ?_, ⟨by simp [hds], fun _ => ⟨blk, off, rfl, fun k x hx j u hu => ?_⟩⟩, by rw [hw]; exact swk_but⟩
  · have h1 := hp.2.2
    rw [Array.extract_eq_self_of_le (by omega), Array.extract_eq_self_of_le (by simp; omega)] at h1
    simpa using h1
  · refine List.pairwise_iff_getElem.2 fun i j hi hj hij => ?_
    have hi' : i < d'.size := by simpa using hi
    have hj' : j < d'.size := by simpa using hj
    have h1 := hs i j (Nat.zero_le _) hij (by omega)
    rw [getElem!_pos d' i hi', getElem!_pos d' j hj'] at h1
    have h2 : ¬ cmpE d'[j] d'[i] < 0 := of_decide_eq_false h1
    simpa using h2
  · have hk : k < d'.size := by have := (List.getElem?_eq_some_iff.1 hx).1; simpa using this
    have hx' : d'[k]! = x := by
      rw [getElem!_pos d' k hk]
      have := (List.getElem?_eq_some_iff.1 hx).2
      simpa using this
    have h1 := HoldsK.cells hHs Ev.cs_len hk j u (by rw [hx']; exact hu)
    rw [add_at] at h1
    exact h1
theorem sortE_none (p : Option Addr) (cap : Nat) (w : World) : Calls Tryz.prog 139 #[.slice p 0 cap, .func (.func 140) #[] #[]] w fun e w' => e = .returned (.tuple #[]) ∧ w' = w := AnyF.slices_SortFunc_none Tryz.sortE p cap (.func (.func 140) #[] #[]) w
end Go.Proofs.YtnocbigcdjlliaaGreat
