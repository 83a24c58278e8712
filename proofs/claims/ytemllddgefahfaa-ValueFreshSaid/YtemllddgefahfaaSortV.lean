/-
  slices.SortFunc over rows, by the shelf's contract.
-/
import Derived.Test.YtemllddgefahfaaShelf
import Derived.Test.YtemllddgefahfaaSortG
import Derived.Test.YtemllddgefahfaaCmpRows
import Derived.Test.YtemllddgefahfaaOrd
namespace Go.Proofs.Ytemllddgefahfaa
open Go.RowKit Go.Sort Go.Shelf

theorem Sl.cells {α : Type} {sz : Nat} {cs : α → List Value} {w w' : World} {A : Option Addr} {n : Nat} {l : List α} (h : Sl sz cs w A n l)
    (hc : ∀ b o, A = some ⟨b, o, none⟩ → 0 < n → ∀ j, (w.cell? ⟨b, j, none⟩).isSome = true → w'.cell? ⟨b, j, none⟩ = w.cell? ⟨b, j, none⟩) : Sl sz cs w' A n l := by
  refine ⟨h.1, fun hn => ?_⟩
  obtain ⟨b, o, e, hx⟩ := h.2 hn
  refine ⟨b, o, e, fun k x hk j u hu => ?_⟩
  have h1 := hx k x hk j u hu
  rw [hc b o e hn _ (by rw [h1]; rfl)]
  exact h1
/-- a row whose cells do not lie in block blk -/
def RowFar (w : World) (blk : Nat) (p : RowP) : Prop := RowOk w p ∧ (0 < p.1.2.1 → ∀ b o, p.1.1 = some ⟨b, o, none⟩ → b ≠ blk)
abbrev FarRow (w : World) (blk : Nat) : Type := { p : RowP // RowFar w blk p }
instance (w : World) (blk : Nat) : Inhabited (FarRow w blk) := ⟨⟨((none, 0, 0), []), ⟨⟨Sl.nil, fun _ => ⟨rfl, rfl⟩, Nat.le_refl _, by simp⟩, fun h => absurd h (by simp)⟩⟩⟩
def encR {w : World} {blk : Nat} (x : FarRow w blk) : Value := .slice x.1.1.1 x.1.1.2.1 x.1.1.2.2
def cfR {w : World} {blk : Nat} (x y : FarRow w blk) : Int := cmpR x.1.2 y.1.2
theorem swoR {w : World} {blk : Nat} : SWO (ltOf (cfR (w := w) (blk := blk))) where
  irrefl x := by simp [ltOf, cfR, cmpR_self]
  trans x y z h1 h2 := by
    have h1' : cmpR x.1.2 y.1.2 < 0 := of_decide_eq_true h1
    have h2' : cmpR y.1.2 z.1.2 < 0 := of_decide_eq_true h2
    exact decide_eq_true (cmpR_lt_of_le (by omega) h2')
  ntrans x y z h1 h2 := by
    have h1' : ¬ cmpR x.1.2 y.1.2 < 0 := of_decide_eq_false h1
    have h2' : ¬ cmpR y.1.2 z.1.2 < 0 := of_decide_eq_false h2
    refine decide_eq_false (p := cmpR x.1.2 z.1.2 < 0) ?_
    have e1 := cmpR_anti x.1.2 y.1.2
    have e2 := cmpR_anti y.1.2 z.1.2
    have e3 := cmpR_anti x.1.2 z.1.2
    have := cmpR_trans z.1.2 y.1.2 x.1.2 (by omega) (by omega)
    omega
theorem sw_block {w : World} {blk off m : Nat} {d : Array (FarRow w blk)} {os : Array Obj} {k : Nat} (hk : k < w.heap.size) (hne : k ≠ blk) : (sortWorld encR w blk off m d os).heap[k]? = w.heap[k]? := by
  unfold sortWorld
  rw [heap_grow_old _ _ (by simpa using hk)]
  simp only [putRow, mapBlock, heap_ahead, Array.getElem?_modify]
  rw [if_neg (fun e => hne e.symm)]
theorem sw_but {w : World} {blk off m : Nat} {d : Array (FarRow w blk)} {os : Array Obj} : But (· = blk) w (sortWorld encR w blk off m d os) :=
  ⟨rfl, rfl, rfl, by simp [sortWorld], fun k hk hs => sw_block hk hs⟩
theorem RowFar.sw {w : World} {blk off m : Nat} {d : Array (FarRow w blk)} {os : Array Obj} {p : RowP} (h : RowFar w blk p) : RowOk (sortWorld encR w blk off m d os) p :=
  ⟨h.1.rd.but sw_but (fun hn b o e hs => h.2 hn b o e hs), h.1.nl, h.1.le, h.1.mx⟩
theorem cmpLays {w : World} (blk off size : Nat) : CmpLays1 Try.prog 25 #[] (encR (w := w) (blk := blk)) cfR blk off size w := by
  intro m os dk hs x y
  have hx := (x.2.sw (off := off) (m := m) (d := dk) (os := os))
  have hy := (y.2.sw (off := off) (m := m) (d := dk) (os := os))
  have h := comprowsL_any x.1.1.1 y.1.1.1 x.1.1.2.1 y.1.1.2.1 x.1.1.2.2 y.1.1.2.2 x.1.2 y.1.2 _ hx.rd hy.rd (Nat.le_trans hx.le hx.mx) (Nat.le_trans hy.le hy.mx)
  exact h.mono fun e w' ⟨he, hl⟩ => ⟨he, lay_of hl⟩
def toD {w : World} {blk : Nat} (ps : List RowP) (h : ∀ p ∈ ps, RowFar w blk p) : Array (FarRow w blk) := (ps.attach.map fun p => ⟨p.1, h p.1 p.2⟩).toArray
theorem toD_list {w : World} {blk : Nat} (ps : List RowP) (h : ∀ p ∈ ps, RowFar w blk p) : (toD ps h).toList.map (·.1) = ps := by
  simp only [toD, List.map_map, Function.comp_def]
  first | exact List.attach_map_subtype_val ps | exact List.attach_map_val ps | simp
theorem toD_size {w : World} {blk : Nat} (ps : List RowP) (h : ∀ p ∈ ps, RowFar w blk p) : (toD ps h).size = ps.length := by simp [toD]
theorem toD_at {w : World} {blk : Nat} (ps : List RowP) (h : ∀ p ∈ ps, RowFar w blk p) (j : Nat) (hj : j < (toD ps h).size) : ((toD ps h)[j]!).1 = ps[j]'(by rw [← toD_size ps h]; exact hj) := by
  rw [getElem!_pos (toD ps h) j hj]
  simp [toD]
/-- what a sort leaves -/
def SortedTo (w : World) (blk off n : Nat) (ps : List RowP) (w' : World) : Prop := ∃ qs : List RowP, qs.Perm ps ∧ upR (qs.map (·.2)) ∧ RowsS w' (some ⟨blk, off, none⟩) n qs ∧ But (· = blk) w w'
theorem sort_any (blk off cap n : Nat) (ps : List RowP) (w : World) (hn0 : 0 < n) (hsl : Sl 1 rowc w (some ⟨blk, off, none⟩) n ps) (hfz : ∀ j, w.frozen? ⟨blk, j, none⟩ = false) (hps : ∀ p ∈ ps, RowFar w blk p) (hblk : blk < w.heap.size) (hn : n ≤ 1000000) :
    Calls Try.prog 43 #[.slice (some ⟨blk, off, none⟩) n cap, .func (.func 25) #[] #[]] w fun e w' => e = .returned (.tuple #[]) ∧ SortedTo w blk off n ps w' := by
  have hlen := hsl.len
  have hsz : (toD ps hps).size = n := by rw [toD_size, hlen]
  have hH : Holds encR w blk off (toD ps hps) := by
    intro j hj
    refine ⟨?_, hfz _⟩
    obtain ⟨b, o, x, hA, hx, hc⟩ := hsl.at (show j < n by omega)
    injection hA with hA
    injection hA with e1 e2
    subst e1 e2
    have h0 := hc 0 _ rfl
    have hxe : ps[j]'(by rw [← toD_size ps hps]; exact hj) = x := (List.getElem?_eq_some_iff.1 hx).2
    rw [Nat.mul_one, Nat.add_zero] at h0
    rw [h0]
    unfold encR
    rw [toD_at ps hps j hj, hxe]
  have hcon := Any.slices_SortFunc Try.sortL (encR (w := w) (blk := blk)) (fun _ => rfl) cfR swoR 25 #[] blk off cap (toD ps hps) w entR (cmpLays blk off _) hH hblk (by omega)
  rw [hsz] at hcon
  change Calls Try.prog 43 _ _ _ at hcon
  refine hcon.mono fun e w' ⟨he, d', m, os, hp, hs, hw⟩ => ⟨he, ?_⟩
  have hds : d'.size = n := by rw [hp.1, hsz]
  have hHs : Holds encR w' blk off d' := by
    rw [hw]
    exact SW.holds (enc := encR) ⟨m, os, rfl⟩ hblk hH (by rw [hds, hsz])
  have hperm : (d'.toList.map (·.1)).Perm ps := by
    have h1 := hp.2.2
    rw [Array.extract_eq_self_of_le (by omega), Array.extract_eq_self_of_le (by omega)] at h1
    have h2 := h1.map (fun x : FarRow w blk => x.1)
    rw [toD_list] at h2
    exact h2
  refine ⟨d'.toList.map (·.1), hperm, ?_, ⟨⟨by simp [hds], fun _ => ⟨blk, off, rfl, ?_⟩⟩, ?_⟩, by rw [hw]; exact sw_but⟩
  · rw [List.map_map]
    refine List.pairwise_map.2 (List.pairwise_iff_getElem.2 fun i j hi hj hij => ?_)
    have hi' : i < d'.size := by simpa using hi
    have hj' : j < d'.size := by simpa using hj
    have h1 := hs i j (Nat.zero_le _) hij (by omega)
    rw [getElem!_pos d' i hi', getElem!_pos d' j hj'] at h1
    have h2 : ¬ cmpR (d'[j]).1.2 (d'[i]).1.2 < 0 := of_decide_eq_false h1
    have e1 := cmpR_anti (d'[i]).1.2 (d'[j]).1.2
    have hg : cmpR (d'[i]).1.2 (d'[j]).1.2 ≤ 0 := by omega
    simpa using hg
  · intro k x hx j u hu
    rcases j with _ | j
    · simp only [rowc, List.getElem?_cons_zero, Option.some.injEq] at hu
      subst hu
      rw [List.getElem?_map, Option.map_eq_some_iff] at hx
      obtain ⟨y, hy, rfl⟩ := hx
      have hk : k < d'.size := by have := (List.getElem?_eq_some_iff.1 hy).1; simpa using this
      have hy' : d'[k]! = y := by
        rw [getElem!_pos d' k hk]
        have := (List.getElem?_eq_some_iff.1 hy).2
        simpa using this
      rw [Nat.mul_one, Nat.add_zero, (hHs k hk).1, hy']
      rfl
    · simp [rowc] at hu
  · intro p hp'
    have hm := hperm.mem_iff.1 hp'
    rw [hw]
    exact (hps p hm).sw
end Go.Proofs.Ytemllddgefahfaa
