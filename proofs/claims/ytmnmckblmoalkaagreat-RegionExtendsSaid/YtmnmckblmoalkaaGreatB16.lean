/-
  Texts: ShelfQ, LayOf, SortE, Events, Flat.
-/
import Derived.Shelf.SlGeneric
import Derived.Shelf.SlSortCmp.WholeK
import Derived.Ground.SlsfProg
import Derived.Test.YtmnmckblmoalkaaGreatProg
import Derived.Shelf.GgSortFunc.InsertionK
import Derived.Test.YtmnmckblmoalkaaGreatB12
import Derived.Shelf.SlSortCmp.NoneTotal
set_option linter.unusedVariables false
/-
  The shelf's laying of slices.SortFunc over events at this seat, in plain words, written by the kit's lay-plain.mjs. Turned into a template by name.
-/
namespace Go.Proofs
open Go.Shelf
def Tryz.sortE_ren : Go.Shelf.Ren := ⟨fun | 6 => 184 | 15 => 193 | 14 => 192 | 28 => 205 | 29 => 206 | 20 => 197 | 21 => 198 | 22 => 199 | 23 => 200 | 24 => 201 | 25 => 202 | 26 => 203 | 27 => 204 | 46 => 207 | 47 => 208 | 48 => 209 | 49 => 210 | 50 => 211 | 57 => 212 | n => n, fun | 22 => 164 | 24 => 168 | 25 => 188 | 3 => 3 | 39 => 196 | 0 => 0 | 53 => 209 | 55 => 200 | 4 => 4 | 46 => 203 | 45 => 202 | 50 => 169 | 5 => 5 | 9 => 9 | 66 => 211 | 70 => 126 | 76 => 216 | 77 => 217 | n => n, fun | n => n⟩
theorem Tryz.sortE : Go.Proofs.SlLaysF0.n6 Tryz.prog Tryz.sortE_ren := {
  mixed := by kernel_rfl
  f6 := ⟨Tryz.f184.name, by decide, Tryz.func184.trans (congrArg some (by kernel_rfl))⟩
  f14 := ⟨Tryz.f192.name, by decide, Tryz.func192.trans (congrArg some (by kernel_rfl))⟩
  f15 := Tryz.func193.trans (congrArg some (by kernel_rfl))
  f20 := ⟨Tryz.f197.name, by decide, Tryz.func197.trans (congrArg some (by kernel_rfl))⟩
  f21 := ⟨Tryz.f198.name, by decide, Tryz.func198.trans (congrArg some (by kernel_rfl))⟩
  f22 := ⟨Tryz.f199.name, by decide, Tryz.func199.trans (congrArg some (by kernel_rfl))⟩
  f23 := ⟨Tryz.f200.name, by decide, Tryz.func200.trans (congrArg some (by kernel_rfl))⟩
  f24 := ⟨Tryz.f201.name, by decide, Tryz.func201.trans (congrArg some (by kernel_rfl))⟩
  f25 := ⟨Tryz.f202.name, by decide, Tryz.func202.trans (congrArg some (by kernel_rfl))⟩
  f26 := ⟨Tryz.f203.name, by decide, Tryz.func203.trans (congrArg some (by kernel_rfl))⟩
  f27 := ⟨Tryz.f204.name, by decide, Tryz.func204.trans (congrArg some (by kernel_rfl))⟩
  f28 := Tryz.func205.trans (congrArg some (by kernel_rfl))
  f29 := Tryz.func206.trans (congrArg some (by kernel_rfl))
  f46 := ⟨Tryz.f207.name, by decide, Tryz.func207.trans (congrArg some (by kernel_rfl))⟩
  f47 := Tryz.func208.trans (congrArg some (by kernel_rfl))
  f48 := Tryz.func209.trans (congrArg some (by kernel_rfl))
  f49 := ⟨Tryz.f210.name, by decide, Tryz.func210.trans (congrArg some (by kernel_rfl))⟩
  f50 := ⟨Tryz.f211.name, by decide, Tryz.func211.trans (congrArg some (by kernel_rfl))⟩
  f57 := ⟨Tryz.f212.name, by decide, Tryz.func212.trans (congrArg some (by kernel_rfl))⟩
  t0 := Tryz.underlying0
  a0 := Tryz.isAgg0
  z0 := Tryz.sizeOf0
  v0 := Tryz.zeroValue0
  t3 := Tryz.underlying3
  a3 := Tryz.isAgg3
  z3 := Tryz.sizeOf3
  v3 := Tryz.zeroValue3
  t4 := Tryz.underlying4
  a4 := Tryz.isAgg4
  z4 := Tryz.sizeOf4
  v4 := Tryz.zeroValue4
  t5 := Tryz.underlying5
  a5 := Tryz.isAgg5
  z5 := Tryz.sizeOf5
  v5 := Tryz.zeroValue5
  t9 := Tryz.underlying9
  a9 := Tryz.isAgg9
  z9 := Tryz.sizeOf9
  v9 := Tryz.zeroValue9
  t22 := Tryz.underlying164
  a22 := Tryz.isAgg164
  z22 := Tryz.sizeOf164
  v22 := Tryz.zeroValue164
  t25 := Tryz.underlying188
  a25 := Tryz.isAgg188
  z25 := Tryz.sizeOf188
  v25 := Tryz.zeroValue188
  t39 := Tryz.underlying196
  a39 := Tryz.isAgg196
  z39 := Tryz.sizeOf196
  v39 := Tryz.zeroValue196
  t45 := Tryz.underlying202
  a45 := Tryz.isAgg202
  z45 := Tryz.sizeOf202
  v45 := Tryz.zeroValue202
  t46 := Tryz.underlying203
  a46 := Tryz.isAgg203
  z46 := Tryz.sizeOf203
  v46 := Tryz.zeroValue203
  t50 := Tryz.underlying169
  a50 := Tryz.isAgg169
  z50 := Tryz.sizeOf169
  v50 := Tryz.zeroValue169
  t53 := Tryz.underlying209
  a53 := Tryz.isAgg209
  z53 := Tryz.sizeOf209
  v53 := Tryz.zeroValue209
  t55 := Tryz.underlying200
  a55 := Tryz.isAgg200
  z55 := Tryz.sizeOf200
  v55 := Tryz.zeroValue200
  t66 := Tryz.underlying211
  a66 := Tryz.isAgg211
  z66 := Tryz.sizeOf211
  v66 := Tryz.zeroValue211
  t70 := Tryz.underlying126
  a70 := Tryz.isAgg126
  z70 := Tryz.sizeOf126
  v70 := Tryz.zeroValue126
  t76 := Tryz.underlying216
  a76 := Tryz.isAgg216
  z76 := Tryz.sizeOf216
  v76 := Tryz.zeroValue216
  t77 := Tryz.underlying217
  a77 := Tryz.isAgg217
  z77 := Tryz.sizeOf217
  v77 := Tryz.zeroValue217 }
end Go.Proofs

/-
  From 'only lays blocks and draws' to the words of the shelf's sort. No program here.
-/
namespace Go.Proofs.YtmnmckblmoalkaaGreat
open Go.RowKit Go.Sort Go.Shelf
set_option maxRecDepth 100000

theorem lay_of {W w' : World} (h : Lay W w') : ∃ q os', w' = grow (W.drewN q) os' := by
  refine ⟨w'.drawn - W.drawn, w'.heap.extract W.heap.size w'.heap.size, ?_⟩
  have hh : w'.heap = W.heap ++ w'.heap.extract W.heap.size w'.heap.size := by
    apply Array.ext_getElem?
    intro k
    rw [Array.getElem?_append]
    by_cases hk : k < W.heap.size
    · rw [if_pos hk]
      exact h.bel.block k hk
    · rw [if_neg hk, Array.getElem?_extract]
      have hs := h.bel.size
      split
      · congr 1; omega
      · rw [Array.getElem?_eq_none]; omega
  have h1 := h.bel.os
  have h2 := h.bel.tape
  have h3 := h.bel.output
  have h4 := h.dr
  obtain ⟨heap, tape, drawn, os, out⟩ := w'
  obtain ⟨heap0, tape0, drawn0, os0, out0⟩ := W
  simp only at h1 h2 h3 h4 hh
  subst h1 h2 h3
  simp only [grow, World.drewN, World.mk.injEq, true_and, and_true]
  refine ⟨hh, ?_⟩
  omega
end Go.Proofs.YtmnmckblmoalkaaGreat

/-
  slices.SortFunc over events, by the shelf's contract.
-/
namespace Go.Proofs.YtmnmckblmoalkaaGreat
open Go.RowKit Go.Sort Go.Shelf
set_option maxRecDepth 100000

instance : Inhabited Ev := ⟨⟨zeroV, 0, 0, false⟩⟩
theorem cmpE_lt (a b : Ev) : cmpE a b < 0 ↔ cmpV a.v b.v < 0 ∨ (cmpV a.v b.v = 0 ∧ a.e = false ∧ b.e = true) := by
  unfold cmpE
  have := cmpV_range a.v b.v
  cases a.e <;> cases b.e <;> split <;> simp_all <;> omega
theorem cmpE_ge (a b : Ev) : ¬ cmpE a b < 0 ↔ cmpV b.v a.v < 0 ∨ (cmpV a.v b.v = 0 ∧ (b.e = true → a.e = true)) := by
  rw [cmpE_lt]
  have h1 := cmpV_range a.v b.v
  have h2 := cmpV_anti a.v b.v
  constructor
  · intro h
    rcases Int.lt_trichotomy (cmpV a.v b.v) 0 with h3 | h3 | h3
    · exact absurd (.inl h3) h
    · refine .inr ⟨h3, fun hb => ?_⟩
      cases ha : a.e
      · exact absurd (.inr ⟨h3, ha, hb⟩) h
      · rfl
    · exact .inl (by omega)
  · rintro (h | ⟨h, h'⟩) (h3 | ⟨h3, h4, h5⟩)
    · omega
    · omega
    · omega
    · rw [h' h5] at h4; cases h4
theorem swoE : SWO (ltOf cmpE) where
  irrefl x := decide_eq_false (p := cmpE x x < 0) (by rw [cmpE_ge]; exact .inr ⟨cmpV_self _, fun h => h⟩)
  trans x y z h1 h2 := by
    have h1' := (cmpE_lt x y).1 (of_decide_eq_true h1)
    have h2' := (cmpE_lt y z).1 (of_decide_eq_true h2)
    refine decide_eq_true (p := cmpE x z < 0) ((cmpE_lt x z).2 ?_)
    rcases h1' with h1 | ⟨h1, e1, f1⟩ <;> rcases h2' with h2 | ⟨h2, e2, f2⟩
    · exact .inl (cmpV_lt_trans h1 h2)
    · exact .inl (cmpV_lt_of_lt h1 (by omega))
    · exact .inl (cmpV_lt_of_le (by omega) h2)
    · rw [f1] at e2; cases e2
  ntrans x y z h1 h2 := by
    have h1' := (cmpE_ge x y).1 (of_decide_eq_false h1)
    have h2' := (cmpE_ge y z).1 (of_decide_eq_false h2)
    refine decide_eq_false (p := cmpE x z < 0) ((cmpE_ge x z).2 ?_)
    rcases h1' with h1 | ⟨h1, e1⟩ <;> rcases h2' with h2 | ⟨h2, e2⟩
    · exact .inl (cmpV_lt_trans h2 h1)
    · have := (cmpV_zero _ _).1 h2; rw [this] at h1; exact .inl h1
    · have := (cmpV_zero _ _).1 h1; rw [← this] at h2; exact .inl h2
    · exact .inr ⟨by have := (cmpV_zero _ _).1 h1; rw [this]; exact h2, fun h => e1 (e2 h)⟩
theorem cmpLaysE {w : World} (blk off size : Nat) : CmpLays Tryz.prog 185 #[] Ev.cs 6 cmpE blk off size w := by
  intro m os dk hs x y
  exact (cmpE_any x y _).mono fun e w' ⟨he, hl⟩ => ⟨he, lay_of hl⟩
theorem swk_block {w : World} {blk off m : Nat} {d : Array Ev} {os : Array Obj} {k : Nat} (hk : k < w.heap.size) (hne : k ≠ blk) : (sortWorldK Ev.cs 6 w blk off m d os).heap[k]? = w.heap[k]? := by
  unfold sortWorldK putRowK
  rw [heap_grow_old _ _ (by simpa using hk)]
  simp only [putRow, mapBlock, heap_ahead, Array.getElem?_modify]
  rw [if_neg (fun e => hne e.symm)]
theorem swk_but {w : World} {blk off m : Nat} {d : Array Ev} {os : Array Obj} : But (· = blk) w (sortWorldK Ev.cs 6 w blk off m d os) :=
  ⟨rfl, rfl, rfl, by simp [sortWorldK, putRowK], fun k hk hs => swk_block hk hs⟩
/-- what a sort of events leaves -/
def SortedE (w : World) (blk off n : Nat) (es : List Ev) (w' : World) : Prop := ∃ qs : List Ev, qs.Perm es ∧ EvUp qs ∧ Sl 6 Ev.cs w' (some ⟨blk, off, none⟩) n qs ∧ But (· = blk) w w'
theorem sortE_any (blk off cap n : Nat) (es : List Ev) (w : World) (hsl : Sl 6 Ev.cs w (some ⟨blk, off, none⟩) n es) (hfz : ∀ j, w.frozen? ⟨blk, j, none⟩ = false) (hblk : blk < w.heap.size) (hn : n ≤ 1000000) (hn0 : 0 < n) :
    Calls Tryz.prog 184 #[.slice (some ⟨blk, off, none⟩) n cap, .func (.func 185) #[] #[]] w fun e w' => e = .returned (.tuple #[]) ∧ SortedE w blk off n es w' := by
  have hlen := hsl.len
  have hcell : ∀ k x, es[k]? = some x → ∀ (j : Nat) (u : Value), (Ev.cs x)[j]? = some u → w.cell? ⟨blk, off + k * 6 + j, none⟩ = some u := by
    obtain ⟨b, o, e, hc⟩ := hsl.2 hn0
    injection e with e
    injection e with e1 e2
    subst e1 e2
    exact hc
  have hH : HoldsK Ev.cs 6 w blk off es.toArray := by
    intro t ht
    have ht' : t < es.length * 6 := by simpa [flatK] using ht
    have hq : t / 6 < es.length := (Nat.div_lt_iff_lt_mul (by omega)).2 ht'
    have hr : t % 6 < 6 := Nat.mod_lt _ (by omega)
    refine ⟨?_, hfz _⟩
    have h1 := hcell (t / 6) _ (List.getElem?_eq_getElem hq) (t % 6) _ (List.getElem?_eq_getElem (by rw [Ev.cs_len]; exact hr))
    rw [show off + t / 6 * 6 + t % 6 = off + t by omega] at h1
    rw [h1]
    rw [getElem!_pos (flatK Ev.cs 6 es.toArray) t ht]
    simp only [flatK, Array.getElem_map, Array.getElem_range, id_eq]
    rw [getElem!_pos es.toArray (t / 6) (by simpa using hq), getElem!_pos _ (t % 6) (by rw [Ev.cs_len]; exact hr)]
    simp
  have hcon := AnyQ.slices_SortFunc Tryz.sortE 6 Tryz.isAgg168 Tryz.sizeOf168 Ev.cs Ev.cs_len one_ev cmpE swoE 185 #[] blk off cap es.toArray w entE (cmpLaysE blk off _) hH hblk (by simp; omega)
  rw [show es.toArray.size = n by simp [hlen]] at hcon
  change Calls Tryz.prog 184 _ _ _ at hcon
  refine hcon.mono fun e w' ⟨he, d', m, os, hp, hs, hw⟩ => ⟨he, ?_⟩
  have hds : d'.size = n := by rw [hp.1]; simp [hlen]
  have hHs : HoldsK Ev.cs 6 w' blk off d' := by
    rw [hw]
    exact SWK.holds ⟨m, os, rfl⟩ hblk hH (by rw [hds]; simp [hlen])
  refine ⟨d'.toList, ?_, ?_, ⟨by simp [hds], fun _ => ⟨blk, off, rfl, fun k x hx j u hu => ?_⟩⟩, by rw [hw]; exact swk_but⟩
  · have h1 := hp.2.2
    rw [Array.extract_eq_self_of_le (by omega), Array.extract_eq_self_of_le (by simp; omega)] at h1
    simpa using h1
  · refine List.pairwise_iff_getElem.2 fun i j hi hj hij => ?_
    have hi' : i < d'.size := by simpa using hi
    have hj' : j < d'.size := by simpa using hj
    have h1 := hs i j (Nat.zero_le _) hij (by omega)
    rw [getElem!_pos d' i hi', getElem!_pos d' j hj'] at h1
    have h2 : ¬ cmpE d'[j] d'[i] < 0 := of_decide_eq_false h1
    simpa using h2
  · have hk : k < d'.size := by have := (List.getElem?_eq_some_iff.1 hx).1; simpa using this
    have hx' : d'[k]! = x := by
      rw [getElem!_pos d' k hk]
      have := (List.getElem?_eq_some_iff.1 hx).2
      simpa using this
    have h1 := HoldsK.cells hHs Ev.cs_len hk j u (by rw [hx']; exact hu)
    rw [add_at] at h1
    exact h1
theorem sortE_none (p : Option Addr) (cap : Nat) (w : World) : Calls Tryz.prog 184 #[.slice p 0 cap, .func (.func 185) #[] #[]] w fun e w' => e = .returned (.tuple #[]) ∧ w' = w := AnyF.slices_SortFunc_none Tryz.sortE p cap (.func (.func 185) #[] #[]) w
end Go.Proofs.YtmnmckblmoalkaaGreat

/-
  The program's region function events: the list of events, sorted.
-/
namespace Go.Proofs.YtmnmckblmoalkaaGreat
open Go.RowKit
set_option maxRecDepth 100000
open Rg

theorem info_ev : (Tryz.prog.info? 168).map (fun i => (i.zero, i.size, i.bytes)) = some (some (.agg #[.int .i64 0, .int .i64 0, .string ⟨#[]⟩, .int .i64 0, .int .i64 0, .bool false]), 6, 56) := by kernel_rfl
set_option maxRecDepth 100000 in
set_option maxHeartbeats 8000000 in
theorem events_any (a : Rg) (x : Int) (f : Bool) (A : Option Addr) (n c : Nat) (b : Rg) (y : Int) (g : Bool) (B : Option Addr) (m d : Nat) (w : World) (hA : RgS w x f A n c a) (hB : RgS w y g B m d b) (ha : a.fits = true) (hb : b.fits = true) (hna : n ≤ 64) (hnb : m ≤ 64) :
    Calls Tryz.prog 165 #[.agg #[.int .i64 x, .bool f, .slice A n c], .agg #[.int .i64 y, .bool g, .slice B m d]] w fun e w' => ∃ (qs : List Ev) (A' : Option Addr) (c' : Nat), e = .returned (.slice A' qs.length c') ∧ EvSorted a b qs ∧ Sl 6 Ev.cs w' A' qs.length qs ∧ qs.length ≤ 20000 ∧ Below w.heap.size w w' := by
  obtain ⟨i0, hi, hz0, hz1, hz2⟩ := info_parts info_ev
  have H0 := Lib.hid hA
  have H1 := Lib.hid hB
  have HF0 := Lib.hid ha
  have HF1 := Lib.hid hb
  have HW2 : Hid (Below w.heap.size w ((w.alloc (.cells #[.int .i64 x, .bool f, .slice A n c] 27)).alloc (.cells #[.int .i64 y, .bool g, .slice B m d] 27))) := Lib.hid (((Below.refl _ _).alloc (Nat.le_refl _) _).alloc (by simp) _)
  clear hA hB ha hb
  have ix0 : ∀ w : World, (Instr.index 186 (.agg #[.int .i64 x, .bool f, .slice A n c, .int .i64 y, .bool g, .slice B m d]) (.int .i64 0)).run Tryz.prog w = .ok (.agg #[.int .i64 x, .bool f, .slice A n c]) w := fun _ => by kernel_rfl
  have ix1 : ∀ w : World, (Instr.index 186 (.agg #[.int .i64 x, .bool f, .slice A n c, .int .i64 y, .bool g, .slice B m d]) (.int .i64 1)).run Tryz.prog w = .ok (.agg #[.int .i64 y, .bool g, .slice B m d]) w := fun _ => by kernel_rfl
  go_enter Tryz.func165, Tryz.ntmps165
  go_wp2
  go_loopw [5, 15] (fun v i wr => ∃ (m0 : Nat) (A0 : Option Addr) (c0 : Nat) (col0 : List Ev), v = .slice A0 m0 c0 ∧ wr.ownsRow w.heap.size 168 6 (.slice A0 m0 c0) m0 (col0.flatMap Ev.cs) ∧ col0.length = m0 ∧ Below w.heap.size w wr ∧ ((i = .int .i64 0 ∧ col0 = [] ∧ m0 = 0) ∨ (i = .int .i64 1 ∧ col0 = evR 0 0 a.parts ∧ m0 ≤ 8192) ∨ (i = .int .i64 2 ∧ col0 = evR 0 0 a.parts ++ evR 1 0 b.parts ∧ m0 ≤ 16384))) (fun _ i _ => 2 - (intOf i).toNat)
  case atStart => exact ⟨0, none, 0, [], rfl, ⟨by simp, .inl ⟨rfl, rfl⟩⟩, rfl, HW2.out, .inl ⟨rfl, rfl, rfl⟩⟩
  case round =>
    obtain ⟨m0, A0, c0, col0, rfl, ho0, hl0', hb0, hor⟩ := hrel
    have hl0 := Lib.hid hl0'
    clear hl0'
    rcases hor with ⟨rfl, hcol0, hmm⟩ | ⟨rfl, hcol0, hmm⟩ | ⟨rfl, hcol0, hmm⟩
    · have Hcol0 := Lib.hid hcol0
      have hm0 : m0 ≤ 0 * 8192 := by omega
      have hsz0 := hb0.size
      have HO1 := Lib.hid (ho0.alloc (.cells #[.int .i64 x, .bool f, .slice A n c] 27))
      have HB1 := Lib.hid (hb0.alloc hsz0 (.cells #[.int .i64 x, .bool f, .slice A n c] 27))
      clear hcol0 ho0 hb0
      go_wp2
      go_loopw [5, 22] (fun v i wr2 => ∃ (k m : Nat) (A' : Option Addr) (c' : Nat) (col : List Ev), k ≤ n ∧ i = .int .i64 (k : Int) ∧ v = .slice A' m c' ∧ Hid (col = col0 ++ evR 0 0 (a.parts.take k)) ∧ m ≤ 0 * 8192 + 128 * k ∧ wr2.ownsRow w.heap.size 168 6 (.slice A' m c') m (col.flatMap Ev.cs) ∧ Hid (col.length = m) ∧ Below w.heap.size w wr2) (fun _ i _ => n - (intOf i).toNat)
      case atStart => exact ⟨0, m0, A0, c0, col0, by omega, rfl, rfl, (by show _ = _; simp [evR]), by omega, HO1.out, hl0, HB1.out⟩
      case round =>
        obtain ⟨k, m, A', c', col, hk, rfl, rfl, Hcol, hm, hown, Hcl, hb⟩ := hrel
        obtain ⟨wo, rfl⟩ : ∃ wo : World, wo = wr := ⟨_, rfl⟩
        have HOwn := Lib.hid hown
        have hsz := hb.size
        clear hown
        by_cases hlt : k < n
        · obtain ⟨b1, o1, p, A1, n1, c1, x1, f1, A2, n2, c2, rfl, hp, hpt0, hpt⟩ := H0.out.at2 (keeps_of hb) hlt
          have hpf := (fits_iff a).1 HF0.out p (List.mem_of_getElem? hp)
          have Htk := Lib.hid (take_snoc' hp)
          have PV := Lib.hid hpt0.vs
          obtain ⟨p0, p1, p2, p3, pok, pvs, prg⟩ := hpt
          have hn1 : n1 ≤ 64 := by have := pvs.len; omega
          have Hn1 := Lib.hid pvs.len
          have Htl : Hid ((a.parts.take k).length = k) := by show _ = _; rw [List.length_take, len_parts]; have := H0.out.len; omega
          clear hp hpf pok pvs prg hpt0
          have HO2 := Lib.hid (HOwn.out.alloc (.cells #[.slice A1 n1 c1, .int .i64 x1, .bool f1, .slice A2 n2 c2] 86))
          have HB2 := Lib.hid (hb.alloc hsz (.cells #[.slice A1 n1 c1, .int .i64 x1, .bool f1, .slice A2 n2 c2] 86))
          go_wp2
          go_loopw [5, 30] (fun v i wr3 => ∃ (j m2 : Nat) (A'' : Option Addr) (c'' : Nat) (cl : List Ev), j ≤ n1 ∧ i = .int .i64 (j : Int) ∧ v = .slice A'' m2 c'' ∧ Hid (cl = col ++ evP 0 k (p.1.take j)) ∧ m2 ≤ m + 2 * j ∧ wr3.ownsRow w.heap.size 168 6 (.slice A'' m2 c'') m2 (cl.flatMap Ev.cs) ∧ Hid (cl.length = m2) ∧ Below w.heap.size w wr3) (fun _ i _ => n1 - (intOf i).toNat)
          case atStart => exact ⟨0, m, A', c', col, by omega, rfl, rfl, (by show _ = _; simp [evP]), by omega, HO2.out, Hcl, HB2.out⟩
          case round =>
            obtain ⟨j, m2, A'', c'', cl, hj, rfl, rfl, Hcl2, hm2, hown', hql, hb3⟩ := hrel
            by_cases hjl : j < n1
            · obtain ⟨b, o, u, rfl, hu, huc⟩ := (PV.out.keep (keeps_of hb3)).at hjl
              have Hts := Lib.hid (take_snoc' hu)
              obtain ⟨⟨fk, fi, ft⟩, ⟨tk, ti, tt⟩, xo⟩ := u
              obtain ⟨d0, d1, d2, d3, d4, d5, d6⟩ := IvAt.of huc
              dsimp only at d0 d1 d2 d3 d4 d5 d6
              clear hu huc
              have hsz3 := hb3.size
              go_wp2_with (first
                | (at_builtin; refine wpList_append_one (by rfl) (.tmp 34) (.tmp 40) _ (by rfl) w.heap.size 168 i0 _ 6 56 Tryz.underlying164 hi hz0 hz1 hz2 (by rfl) (by omega) (.slice A'' m2 c'') m2 _ (by rfl) _ _ (hown'.alloc _) (wr.heap.size + 1) (by simp) (by rfl) (by rfl) (one_ev ⟨⟨fk, fi, ft⟩, 0, (k : Int), true⟩) (by simp only [maxLen]; omega) (by omega) (by simp; omega) ?_; intro g cap w4 hown4 hg4 hB4 hat4 hlt4; have hbx := (Blk.grown (Blk.new wr _ _) hg4 (own_ne hown')).cell; have hsz4 := hB4.size; clear hg4)
                | (at_builtin; refine wpList_append_one (by rfl) (.tmp 45) (.tmp 51) _ (by rfl) w.heap.size 168 i0 _ 6 56 Tryz.underlying164 hi hz0 hz1 hz2 (by rfl) (by omega) (.slice (some ⟨g, 0, none⟩) (m2 + 1) cap) (m2 + 1) _ (by rfl) _ _ hown4 w4.heap.size (by rfl) (by rfl) (by rfl) (one_ev ⟨⟨tk, ti, tt⟩, 0, (k : Int), false⟩) (by simp only [maxLen]; omega) (by omega) (by simp at hsz4; omega) ?_; intro g5 cap5 w5 hown5 hg5 hB5 hat5 hlt5))
              · go_roundw
                case rel =>
                  refine ⟨j + 1, m2 + 1 + 1, _, _, cl ++ [⟨⟨fk, fi, ft⟩, 0, (k : Int), true⟩, ⟨⟨tk, ti, tt⟩, 0, (k : Int), false⟩], by omega, by go_num, rfl, ?_, by omega, ?_, ?_, ?_⟩
                  · show _ = _
                    have hxo : xo = false := by simpa using ‹(!xo) = true›
                    rw [Hts.out, evP_snoc, Hcl2.out, hxo]
                    simp [evI]
                  · simpa [List.flatMap_append, Ev.cs] using hown5
                  · show _ = _
                    have := hql.out
                    simp; omega
                  · exact ((hb3.alloc hb3.size _).trans hB4).trans hB5
                case measure => simp [intOf]; omega
              · go_roundw
                case rel =>
                  refine ⟨j + 1, m2 + 1, _, _, cl ++ [⟨⟨fk, fi, ft⟩, 0, (k : Int), true⟩], by omega, by go_num, rfl, ?_, by omega, ?_, ?_, ?_⟩
                  · show _ = _
                    have hxo : xo = true := by simpa using ‹(!xo) = false›
                    rw [Hts.out, evP_snoc, Hcl2.out, hxo]
                    simp [evI]
                  · simpa [List.flatMap_append, Ev.cs] using hown4
                  · show _ = _
                    have := hql.out
                    simp; omega
                  · exact (hb3.alloc hb3.size _).trans hB4
                case measure => simp [intOf]; omega
            · go_wp2
              go_roundw
              case rel =>
                refine ⟨k + 1, m2, A'', c'', cl, by omega, by go_num, rfl, ?_, by omega, hown', hql, hb3⟩
                show _ = _
                have e1 : p.1.take j = p.1 := List.take_of_length_le (by have := Hn1.out; omega)
                rw [Hcl2.out, e1, Htk.out, evR_snoc, Hcol.out, Htl.out]
                simp
              case measure => simp [intOf]; omega
        · go_wp2
          go_roundw
          case rel =>
            refine ⟨m, A', c', col, rfl, HOwn.out, Hcl.out, hb, .inr (.inl ⟨rfl, ?_, by omega⟩)⟩
            have h1 := Hcol.out
            rw [List.take_of_length_le (by rw [len_parts]; have := H0.out.len; omega), Hcol0.out] at h1
            simpa using h1
          case measure => simp [intOf]
    · have Hcol0 := Lib.hid hcol0
      have hm0 : m0 ≤ 1 * 8192 := by omega
      have hsz0 := hb0.size
      have HO1 := Lib.hid (ho0.alloc (.cells #[.int .i64 y, .bool g, .slice B m d] 27))
      have HB1 := Lib.hid (hb0.alloc hsz0 (.cells #[.int .i64 y, .bool g, .slice B m d] 27))
      clear hcol0 ho0 hb0
      go_wp2
      go_loopw [5, 22] (fun v i wr2 => ∃ (k mm : Nat) (A' : Option Addr) (c' : Nat) (col : List Ev), k ≤ m ∧ i = .int .i64 (k : Int) ∧ v = .slice A' mm c' ∧ Hid (col = col0 ++ evR 1 0 (b.parts.take k)) ∧ mm ≤ 1 * 8192 + 128 * k ∧ wr2.ownsRow w.heap.size 168 6 (.slice A' mm c') mm (col.flatMap Ev.cs) ∧ Hid (col.length = mm) ∧ Below w.heap.size w wr2) (fun _ i _ => m - (intOf i).toNat)
      case atStart => exact ⟨0, m0, A0, c0, col0, by omega, rfl, rfl, (by show _ = _; simp [evR]), by omega, HO1.out, hl0, HB1.out⟩
      case round =>
        obtain ⟨k, mm, A', c', col, hk, rfl, rfl, Hcol, hm, hown, Hcl, hb⟩ := hrel
        obtain ⟨wo, rfl⟩ : ∃ wo : World, wo = wr := ⟨_, rfl⟩
        have HOwn := Lib.hid hown
        have hsz := hb.size
        clear hown
        by_cases hlt : k < m
        · obtain ⟨b1, o1, p, A1, n1, c1, x1, f1, A2, n2, c2, rfl, hp, hpt0, hpt⟩ := H1.out.at2 (keeps_of hb) hlt
          have hpf := (fits_iff b).1 HF1.out p (List.mem_of_getElem? hp)
          have Htk := Lib.hid (take_snoc' hp)
          have PV := Lib.hid hpt0.vs
          obtain ⟨p0, p1, p2, p3, pok, pvs, prg⟩ := hpt
          have hn1 : n1 ≤ 64 := by have := pvs.len; omega
          have Hn1 := Lib.hid pvs.len
          have Htl : Hid ((b.parts.take k).length = k) := by show _ = _; rw [List.length_take, len_parts]; have := H1.out.len; omega
          clear hp hpf pok pvs prg hpt0
          have HO2 := Lib.hid (HOwn.out.alloc (.cells #[.slice A1 n1 c1, .int .i64 x1, .bool f1, .slice A2 n2 c2] 86))
          have HB2 := Lib.hid (hb.alloc hsz (.cells #[.slice A1 n1 c1, .int .i64 x1, .bool f1, .slice A2 n2 c2] 86))
          go_wp2
          go_loopw [5, 30] (fun v i wr3 => ∃ (j m2 : Nat) (A'' : Option Addr) (c'' : Nat) (cl : List Ev), j ≤ n1 ∧ i = .int .i64 (j : Int) ∧ v = .slice A'' m2 c'' ∧ Hid (cl = col ++ evP 1 k (p.1.take j)) ∧ m2 ≤ mm + 2 * j ∧ wr3.ownsRow w.heap.size 168 6 (.slice A'' m2 c'') m2 (cl.flatMap Ev.cs) ∧ Hid (cl.length = m2) ∧ Below w.heap.size w wr3) (fun _ i _ => n1 - (intOf i).toNat)
          case atStart => exact ⟨0, mm, A', c', col, by omega, rfl, rfl, (by show _ = _; simp [evP]), by omega, HO2.out, Hcl, HB2.out⟩
          case round =>
            obtain ⟨j, m2, A'', c'', cl, hj, rfl, rfl, Hcl2, hm2, hown', hql, hb3⟩ := hrel
            by_cases hjl : j < n1
            · obtain ⟨b, o, u, rfl, hu, huc⟩ := (PV.out.keep (keeps_of hb3)).at hjl
              have Hts := Lib.hid (take_snoc' hu)
              obtain ⟨⟨fk, fi, ft⟩, ⟨tk, ti, tt⟩, xo⟩ := u
              obtain ⟨d0, d1, d2, d3, d4, d5, d6⟩ := IvAt.of huc
              dsimp only at d0 d1 d2 d3 d4 d5 d6
              clear hu huc
              have hsz3 := hb3.size
              go_wp2_with (first
                | (at_builtin; refine wpList_append_one (by rfl) (.tmp 34) (.tmp 40) _ (by rfl) w.heap.size 168 i0 _ 6 56 Tryz.underlying164 hi hz0 hz1 hz2 (by rfl) (by omega) (.slice A'' m2 c'') m2 _ (by rfl) _ _ (hown'.alloc _) (wr.heap.size + 1) (by simp) (by rfl) (by rfl) (one_ev ⟨⟨fk, fi, ft⟩, 1, (k : Int), true⟩) (by simp only [maxLen]; omega) (by omega) (by simp; omega) ?_; intro g cap w4 hown4 hg4 hB4 hat4 hlt4; have hbx := (Blk.grown (Blk.new wr _ _) hg4 (own_ne hown')).cell; have hsz4 := hB4.size; clear hg4)
                | (at_builtin; refine wpList_append_one (by rfl) (.tmp 45) (.tmp 51) _ (by rfl) w.heap.size 168 i0 _ 6 56 Tryz.underlying164 hi hz0 hz1 hz2 (by rfl) (by omega) (.slice (some ⟨g, 0, none⟩) (m2 + 1) cap) (m2 + 1) _ (by rfl) _ _ hown4 w4.heap.size (by rfl) (by rfl) (by rfl) (one_ev ⟨⟨tk, ti, tt⟩, 1, (k : Int), false⟩) (by simp only [maxLen]; omega) (by omega) (by simp at hsz4; omega) ?_; intro g5 cap5 w5 hown5 hg5 hB5 hat5 hlt5))
              · go_roundw
                case rel =>
                  refine ⟨j + 1, m2 + 1 + 1, _, _, cl ++ [⟨⟨fk, fi, ft⟩, 1, (k : Int), true⟩, ⟨⟨tk, ti, tt⟩, 1, (k : Int), false⟩], by omega, by go_num, rfl, ?_, by omega, ?_, ?_, ?_⟩
                  · show _ = _
                    have hxo : xo = false := by simpa using ‹(!xo) = true›
                    rw [Hts.out, evP_snoc, Hcl2.out, hxo]
                    simp [evI]
                  · simpa [List.flatMap_append, Ev.cs] using hown5
                  · show _ = _
                    have := hql.out
                    simp; omega
                  · exact ((hb3.alloc hb3.size _).trans hB4).trans hB5
                case measure => simp [intOf]; omega
              · go_roundw
                case rel =>
                  refine ⟨j + 1, m2 + 1, _, _, cl ++ [⟨⟨fk, fi, ft⟩, 1, (k : Int), true⟩], by omega, by go_num, rfl, ?_, by omega, ?_, ?_, ?_⟩
                  · show _ = _
                    have hxo : xo = true := by simpa using ‹(!xo) = false›
                    rw [Hts.out, evP_snoc, Hcl2.out, hxo]
                    simp [evI]
                  · simpa [List.flatMap_append, Ev.cs] using hown4
                  · show _ = _
                    have := hql.out
                    simp; omega
                  · exact (hb3.alloc hb3.size _).trans hB4
                case measure => simp [intOf]; omega
            · go_wp2
              go_roundw
              case rel =>
                refine ⟨k + 1, m2, A'', c'', cl, by omega, by go_num, rfl, ?_, by omega, hown', hql, hb3⟩
                show _ = _
                have e1 : p.1.take j = p.1 := List.take_of_length_le (by have := Hn1.out; omega)
                rw [Hcl2.out, e1, Htk.out, evR_snoc, Hcol.out, Htl.out]
                simp
              case measure => simp [intOf]; omega
        · go_wp2
          go_roundw
          case rel =>
            refine ⟨mm, A', c', col, rfl, HOwn.out, Hcl.out, hb, .inr (.inr ⟨rfl, ?_, by omega⟩)⟩
            have h1 := Hcol.out
            rw [List.take_of_length_le (by rw [len_parts]; have := H1.out.len; omega), Hcol0.out] at h1
            exact h1
          case measure => simp [intOf]
    · have Hcol0 := Lib.hid hcol0
      have HO := Lib.hid ho0
      have HB := Lib.hid hb0
      clear hcol0 ho0 hb0
      rcases Nat.eq_zero_or_pos m0 with hm0 | hm0
      · subst hm0
        have hl := hl0.out
        obtain rfl : col0 = [] := List.eq_nil_of_length_eq_zero hl
        go_wp2_with fail
        refine (sortE_none A0 c0 _).mono ?_
        rintro e w2 ⟨rfl, rfl⟩
        go_wp2
        go_ret
        refine ⟨[], A0, c0, rfl, ⟨?_, List.Pairwise.nil⟩, Sl.nil, by simp, HB.out⟩
        have := Hcol0.out
        unfold evs
        rw [← this]
      · obtain ⟨G, cap, hv, hGb, hGl⟩ := HO.out.form hm0
        obtain ⟨rfl, rfl⟩ : A0 = some ⟨G, 0, none⟩ ∧ c0 = cap := by injection hv with h1 h2 h3; exact ⟨h1, h3⟩
        have hsl := Sl.of_own (cs := Ev.cs) Ev.cs_len hl0.out HO.out
        have HSl := Lib.hid hsl
        have HFz := Lib.hid (fun q => HO.out.frozenAt q)
        clear hsl hv
        go_wp2_with fail
        refine (sortE_any G 0 c0 m0 col0 _ HSl.out HFz.out hGl (by omega) hm0).mono ?_
        rintro e w2 ⟨rfl, qs, hq1, hq2, hq3, hq4⟩
        have hql : qs.length = m0 := by rw [hq1.length_eq]; exact hl0.out
        have HQ := Lib.hid (And.intro hq1 (And.intro hq2 hq3))
        have HB2 := Lib.hid (hq4.below HB.out HB.out.size (by rintro k rfl; exact hGb))
        clear hq1 hq2 hq3 hq4
        subst hql
        go_wp2
        go_ret
        refine ⟨qs, _, _, rfl, ⟨?_, HQ.out.2.1⟩, HQ.out.2.2, by omega, HB2.out⟩
        unfold evs
        rw [← Hcol0.out]
        exact HQ.out.1
end Go.Proofs.YtmnmckblmoalkaaGreat

/-
  Plain: one cell of a row of structs changed. No program here.
-/
namespace Go.Proofs.YtmnmckblmoalkaaGreat
open Go.RowKit
set_option maxRecDepth 100000

theorem flat_set {α : Type} {sz : Nat} {cs : α → List Value} (hcs : ∀ x, (cs x).length = sz) {x' : α} {u : Value} {j : Nat} : ∀ (l : List α) (i : Nat) (x : α), l[i]? = some x → j < sz → cs x' = (cs x).set j u → (l.flatMap cs).set (i * sz + j) u = (l.set i x').flatMap cs
  | [], i, x, h, _, _ => by simp at h
  | y :: l, 0, x, h, hj, he => by
    simp only [List.getElem?_cons_zero, Option.some.injEq] at h
    subst h
    rw [List.flatMap_cons, List.set_cons_zero, List.flatMap_cons, Nat.zero_mul, Nat.zero_add, List.set_append_left _ _ (by rw [hcs]; exact hj), he]
  | y :: l, i + 1, x, h, hj, he => by
    simp only [List.getElem?_cons_succ] at h
    have ih := flat_set hcs l i x h hj he
    rw [List.flatMap_cons, List.set_cons_succ, List.flatMap_cons, List.set_append_right _ _ (by rw [hcs, Nat.succ_mul]; omega), ← ih]
    congr 2
    rw [hcs, Nat.succ_mul]
    omega
end Go.Proofs.YtmnmckblmoalkaaGreat
