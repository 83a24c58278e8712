/-
  slices.SortFunc over events, by the shelf's contract.
-/
import Derived.Test.YtnocbigcdjlliaaShelfQ
import Derived.Test.YtnocbigcdjlliaaLayOf
import Derived.Test.YtnocbigcdjlliaaEvP
import Derived.Shelf.SlSortCmp.WholeK
import Derived.Shelf.SlSortCmp.NoneTotal
namespace Go.Proofs.Ytnocbigcdjlliaa
open Go.RowKit Go.Sort Go.Shelf

instance : Inhabited Ev := ⟨⟨zeroV, 0, 0, false⟩⟩
theorem cmpE_lt (a b : Ev) : cmpE a b < 0 ↔ cmpV a.v b.v < 0 ∨ (cmpV a.v b.v = 0 ∧ a.e = false ∧ b.e = true) := by
  unfold cmpE
  have := cmpV_range a.v b.v
  cases a.e <;> cases b.e <;> split <;> simp_all <;> omega
theorem cmpE_ge (a b : Ev) : ¬ cmpE a b < 0 ↔ cmpV b.v a.v < 0 ∨ (cmpV a.v b.v = 0 ∧ (b.e = true → a.e = true)) := by
  rw [cmpE_lt]
  have h1 := cmpV_range a.v b.v
  have h2 := cmpV_anti a.v b.v
  constructor
  · intro h
    rcases Int.lt_trichotomy (cmpV a.v b.v) 0 with h3 | h3 | h3
    · exact absurd (.inl h3) h
    · refine .inr ⟨h3, fun hb => ?_⟩
      cases ha : a.e
      · exact absurd (.inr ⟨h3, ha, hb⟩) h
      · rfl
    · exact .inl (by omega)
  · rintro (h | ⟨h, h'⟩) (h3 | ⟨h3, h4, h5⟩)
    · omega
    · omega
    · omega
    · rw [h' h5] at h4; cases h4
theorem swoE : SWO (ltOf cmpE) where
  irrefl x := decide_eq_false (p := cmpE x x < 0) (by rw [cmpE_ge]; exact .inr ⟨cmpV_self _, fun h => h⟩)
  trans x y z h1 h2 := by
    have h1' := (cmpE_lt x y).1 (of_decide_eq_true h1)
    have h2' := (cmpE_lt y z).1 (of_decide_eq_true h2)
    refine decide_eq_true (p := cmpE x z < 0) ((cmpE_lt x z).2 ?_)
    rcases h1' with h1 | ⟨h1, e1, f1⟩ <;> rcases h2' with h2 | ⟨h2, e2, f2⟩
    · exact .inl (cmpV_lt_trans h1 h2)
    · exact .inl (cmpV_lt_of_lt h1 (by omega))
    · exact .inl (cmpV_lt_of_le (by omega) h2)
    · rw [f1] at e2; cases e2
  ntrans x y z h1 h2 := by
    have h1' := (cmpE_ge x y).1 (of_decide_eq_false h1)
    have h2' := (cmpE_ge y z).1 (of_decide_eq_false h2)
    refine decide_eq_false (p := cmpE x z < 0) ((cmpE_ge x z).2 ?_)
    rcases h1' with h1 | ⟨h1, e1⟩ <;> rcases h2' with h2 | ⟨h2, e2⟩
    · exact .inl (cmpV_lt_trans h2 h1)
    · have := (cmpV_zero _ _).1 h2; rw [this] at h1; exact .inl h1
    · have := (cmpV_zero _ _).1 h1; rw [← this] at h2; exact .inl h2
    · exact .inr ⟨by have := (cmpV_zero _ _).1 h1; rw [this]; exact h2, fun h => e1 (e2 h)⟩
theorem cmpLaysE {w : World} (blk off size : Nat) : CmpLays Try.prog 36 #[] Ev.cs 6 cmpE blk off size w := by
  intro m os dk hs x y
  exact (cmpE_any x y _).mono fun e w' ⟨he, hl⟩ => ⟨he, lay_of hl⟩
theorem swk_block {w : World} {blk off m : Nat} {d : Array Ev} {os : Array Obj} {k : Nat} (hk : k < w.heap.size) (hne : k ≠ blk) : (sortWorldK Ev.cs 6 w blk off m d os).heap[k]? = w.heap[k]? := by
  unfold sortWorldK putRowK
  rw [heap_grow_old _ _ (by simpa using hk)]
  simp only [putRow, mapBlock, heap_ahead, Array.getElem?_modify]
  rw [if_neg (fun e => hne e.symm)]
theorem swk_but {w : World} {blk off m : Nat} {d : Array Ev} {os : Array Obj} : But (· = blk) w (sortWorldK Ev.cs 6 w blk off m d os) :=
  ⟨rfl, rfl, rfl, by simp [sortWorldK, putRowK], fun k hk hs => swk_block hk hs⟩
/-- what a sort of events leaves -/
def SortedE (w : World) (blk off n : Nat) (es : List Ev) (w' : World) : Prop := ∃ qs : List Ev, qs.Perm es ∧ EvUp qs ∧ Sl 6 Ev.cs w' (some ⟨blk, off, none⟩) n qs ∧ But (· = blk) w w'
theorem sortE_any (blk off cap n : Nat) (es : List Ev) (w : World) (hsl : Sl 6 Ev.cs w (some ⟨blk, off, none⟩) n es) (hfz : ∀ j, w.frozen? ⟨blk, j, none⟩ = false) (hblk : blk < w.heap.size) (hn : n ≤ 1000000) (hn0 : 0 < n) :
    Calls Try.prog 35 #[.slice (some ⟨blk, off, none⟩) n cap, .func (.func 36) #[] #[]] w fun e w' => e = .returned (.tuple #[]) ∧ SortedE w blk off n es w' := by
  have hlen := hsl.len
  have hcell : ∀ k x, es[k]? = some x → ∀ (j : Nat) (u : Value), (Ev.cs x)[j]? = some u → w.cell? ⟨blk, off + k * 6 + j, none⟩ = some u := by
    obtain ⟨b, o, e, hc⟩ := hsl.2 hn0
    injection e with e
    injection e with e1 e2
    subst e1 e2
    exact hc
  have hH : HoldsK Ev.cs 6 w blk off es.toArray := by
    intro t ht
    have ht' : t < es.length * 6 := by simpa [flatK] using ht
    have hq : t / 6 < es.length := (Nat.div_lt_iff_lt_mul (by omega)).2 ht'
    have hr : t % 6 < 6 := Nat.mod_lt _ (by omega)
    refine ⟨?_, hfz _⟩
    have h1 := hcell (t / 6) _ (List.getElem?_eq_getElem hq) (t % 6) _ (List.getElem?_eq_getElem (by rw [Ev.cs_len]; exact hr))
    rw [show off + t / 6 * 6 + t % 6 = off + t by omega] at h1
    rw [h1]
    rw [getElem!_pos (flatK Ev.cs 6 es.toArray) t ht]
    simp only [flatK, Array.getElem_map, Array.getElem_range, id_eq]
    rw [getElem!_pos es.toArray (t / 6) (by simpa using hq), getElem!_pos _ (t % 6) (by rw [Ev.cs_len]; exact hr)]
    simp
  have hcon := AnyQ.slices_SortFunc Try.sortE 6 Try.isAgg66 Try.sizeOf66 Ev.cs Ev.cs_len one_ev cmpE swoE 36 #[] blk off cap es.toArray w entE (cmpLaysE blk off _) hH hblk (by simp; omega)
  rw [show es.toArray.size = n by simp [hlen]] at hcon
  change Calls Try.prog 35 _ _ _ at hcon
  refine hcon.mono fun e w' ⟨he, d', m, os, hp, hs, hw⟩ => ⟨he, ?_⟩
  have hds : d'.size = n := by rw [hp.1]; simp [hlen]
  have hHs : HoldsK Ev.cs 6 w' blk off d' := by
    rw [hw]
    exact SWK.holds ⟨m, os, rfl⟩ hblk hH (by rw [hds]; simp [hlen])
  refine ⟨d'.toList, ?_, ?_, ⟨by simp [hds], fun _ => ⟨blk, off, rfl, fun k x hx j u hu => ?_⟩⟩, by rw [hw]; exact swk_but⟩
  · have h1 := hp.2.2
    rw [Array.extract_eq_self_of_le (by omega), Array.extract_eq_self_of_le (by simp; omega)] at h1
    simpa using h1
  · refine List.pairwise_iff_getElem.2 fun i j hi hj hij => ?_
    have hi' : i < d'.size := by simpa using hi
    have hj' : j < d'.size := by simpa using hj
    have h1 := hs i j (Nat.zero_le _) hij (by omega)
    rw [getElem!_pos d' i hi', getElem!_pos d' j hj'] at h1
    have h2 : ¬ cmpE d'[j] d'[i] < 0 := of_decide_eq_false h1
    simpa using h2
  · have hk : k < d'.size := by have := (List.getElem?_eq_some_iff.1 hx).1; simpa using this
    have hx' : d'[k]! = x := by
      rw [getElem!_pos d' k hk]
      have := (List.getElem?_eq_some_iff.1 hx).2
      simpa using this
    have h1 := HoldsK.cells hHs Ev.cs_len hk j u (by rw [hx']; exact hu)
    rw [add_at] at h1
    exact h1
theorem sortE_none (p : Option Addr) (cap : Nat) (w : World) : Calls Try.prog 35 #[.slice p 0 cap, .func (.func 36) #[] #[]] w fun e w' => e = .returned (.tuple #[]) ∧ w' = w := AnyF.slices_SortFunc_none Try.sortE p cap (.func (.func 36) #[] #[]) w
end Go.Proofs.Ytnocbigcdjlliaa
