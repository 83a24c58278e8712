/-
  Texts: Shelf, SortG, SortV, SetV.
-/
import Derived.Shelf.SlSortCmp.Whole1
import Derived.Shelf.SlicesE.Clone
import Derived.Ground.SlgnProg
import Derived.Test.YtponkkljlbifmaaGreatH8
set_option linter.unusedVariables false
/-
  The shelf's layings of slices.SortFunc and slices.Clone over rows, in plain words, written by the kit's lay-plain.mjs. Turned into a template by name.
-/
namespace Go.Proofs
open Go.Shelf
def Tryz.sortL_ren : Go.Shelf.Ren := ⟨fun | 6 => 106 | 15 => 94 | 14 => 135 | 28 => 130 | 29 => 131 | 20 => 147 | 21 => 148 | 22 => 149 | 23 => 150 | 24 => 151 | 25 => 152 | 26 => 153 | 27 => 154 | 46 => 158 | 47 => 143 | 48 => 144 | 49 => 159 | 50 => 160 | 57 => 161 | n => n, fun | 22 => 79 | 24 => 75 | 25 => 89 | 3 => 3 | 39 => 137 | 0 => 0 | 53 => 159 | 55 => 161 | 4 => 4 | 46 => 153 | 45 => 152 | 50 => 116 | 5 => 5 | 9 => 9 | 66 => 170 | 70 => 166 | 76 => 181 | 77 => 182 | n => n, fun | n => n⟩
theorem Tryz.sortL : Go.Proofs.SlLaysF.n6 Tryz.prog Tryz.sortL_ren := {
  mixed := by kernel_rfl
  f6 := ⟨Tryz.f106.name, by decide, Tryz.func106.trans (congrArg some (by kernel_rfl))⟩
  f14 := ⟨Tryz.f135.name, by decide, Tryz.func135.trans (congrArg some (by kernel_rfl))⟩
  f15 := Tryz.func94.trans (congrArg some (by kernel_rfl))
  f20 := ⟨Tryz.f147.name, by decide, Tryz.func147.trans (congrArg some (by kernel_rfl))⟩
  f21 := ⟨Tryz.f148.name, by decide, Tryz.func148.trans (congrArg some (by kernel_rfl))⟩
  f22 := ⟨Tryz.f149.name, by decide, Tryz.func149.trans (congrArg some (by kernel_rfl))⟩
  f23 := ⟨Tryz.f150.name, by decide, Tryz.func150.trans (congrArg some (by kernel_rfl))⟩
  f24 := ⟨Tryz.f151.name, by decide, Tryz.func151.trans (congrArg some (by kernel_rfl))⟩
  f25 := ⟨Tryz.f152.name, by decide, Tryz.func152.trans (congrArg some (by kernel_rfl))⟩
  f26 := ⟨Tryz.f153.name, by decide, Tryz.func153.trans (congrArg some (by kernel_rfl))⟩
  f27 := ⟨Tryz.f154.name, by decide, Tryz.func154.trans (congrArg some (by kernel_rfl))⟩
  f28 := Tryz.func130.trans (congrArg some (by kernel_rfl))
  f29 := Tryz.func131.trans (congrArg some (by kernel_rfl))
  f46 := ⟨Tryz.f158.name, by decide, Tryz.func158.trans (congrArg some (by kernel_rfl))⟩
  f47 := Tryz.func143.trans (congrArg some (by kernel_rfl))
  f48 := Tryz.func144.trans (congrArg some (by kernel_rfl))
  f49 := ⟨Tryz.f159.name, by decide, Tryz.func159.trans (congrArg some (by kernel_rfl))⟩
  f50 := ⟨Tryz.f160.name, by decide, Tryz.func160.trans (congrArg some (by kernel_rfl))⟩
  f57 := ⟨Tryz.f161.name, by decide, Tryz.func161.trans (congrArg some (by kernel_rfl))⟩
  t0 := Tryz.underlying0
  a0 := Tryz.isAgg0
  z0 := Tryz.sizeOf0
  v0 := Tryz.zeroValue0
  t3 := Tryz.underlying3
  a3 := Tryz.isAgg3
  z3 := Tryz.sizeOf3
  v3 := Tryz.zeroValue3
  t4 := Tryz.underlying4
  a4 := Tryz.isAgg4
  z4 := Tryz.sizeOf4
  v4 := Tryz.zeroValue4
  t5 := Tryz.underlying5
  a5 := Tryz.isAgg5
  z5 := Tryz.sizeOf5
  v5 := Tryz.zeroValue5
  t9 := Tryz.underlying9
  a9 := Tryz.isAgg9
  z9 := Tryz.sizeOf9
  v9 := Tryz.zeroValue9
  t22 := Tryz.underlying79
  a22 := Tryz.isAgg79
  z22 := Tryz.sizeOf79
  v22 := Tryz.zeroValue79
  a24 := Tryz.isAgg75
  z24 := Tryz.sizeOf75
  t25 := Tryz.underlying89
  a25 := Tryz.isAgg89
  z25 := Tryz.sizeOf89
  v25 := Tryz.zeroValue89
  t39 := Tryz.underlying137
  a39 := Tryz.isAgg137
  z39 := Tryz.sizeOf137
  v39 := Tryz.zeroValue137
  t45 := Tryz.underlying152
  a45 := Tryz.isAgg152
  z45 := Tryz.sizeOf152
  v45 := Tryz.zeroValue152
  t46 := Tryz.underlying153
  a46 := Tryz.isAgg153
  z46 := Tryz.sizeOf153
  v46 := Tryz.zeroValue153
  t50 := Tryz.underlying116
  a50 := Tryz.isAgg116
  z50 := Tryz.sizeOf116
  v50 := Tryz.zeroValue116
  t53 := Tryz.underlying159
  a53 := Tryz.isAgg159
  z53 := Tryz.sizeOf159
  v53 := Tryz.zeroValue159
  t55 := Tryz.underlying161
  a55 := Tryz.isAgg161
  z55 := Tryz.sizeOf161
  v55 := Tryz.zeroValue161
  t66 := Tryz.underlying170
  a66 := Tryz.isAgg170
  z66 := Tryz.sizeOf170
  v66 := Tryz.zeroValue170
  t70 := Tryz.underlying166
  a70 := Tryz.isAgg166
  z70 := Tryz.sizeOf166
  v70 := Tryz.zeroValue166
  t76 := Tryz.underlying181
  a76 := Tryz.isAgg181
  z76 := Tryz.sizeOf181
  v76 := Tryz.zeroValue181
  t77 := Tryz.underlying182
  a77 := Tryz.isAgg182
  z77 := Tryz.sizeOf182
  v77 := Tryz.zeroValue182 }
def Tryz.sortZ_ren : Go.Shelf.Ren := ⟨fun | 6 => 106 | 15 => 94 | 14 => 135 | 28 => 130 | 29 => 131 | 20 => 147 | 21 => 148 | 22 => 149 | 23 => 150 | 24 => 151 | 25 => 152 | 26 => 153 | 27 => 154 | 46 => 158 | 47 => 143 | 48 => 144 | 49 => 159 | 50 => 160 | 57 => 161 | n => n, fun | 22 => 79 | 24 => 75 | 25 => 89 | 3 => 3 | 39 => 137 | 0 => 0 | 53 => 159 | 55 => 161 | 4 => 4 | 46 => 153 | 45 => 152 | 50 => 116 | 5 => 5 | 9 => 9 | 66 => 170 | 70 => 166 | 76 => 181 | 77 => 182 | n => n, fun | n => n⟩
theorem Tryz.sortZ : Go.Proofs.SlLaysF0.n6 Tryz.prog Tryz.sortZ_ren := {
  mixed := by kernel_rfl
  f6 := ⟨Tryz.f106.name, by decide, Tryz.func106.trans (congrArg some (by kernel_rfl))⟩
  f14 := ⟨Tryz.f135.name, by decide, Tryz.func135.trans (congrArg some (by kernel_rfl))⟩
  f15 := Tryz.func94.trans (congrArg some (by kernel_rfl))
  f20 := ⟨Tryz.f147.name, by decide, Tryz.func147.trans (congrArg some (by kernel_rfl))⟩
  f21 := ⟨Tryz.f148.name, by decide, Tryz.func148.trans (congrArg some (by kernel_rfl))⟩
  f22 := ⟨Tryz.f149.name, by decide, Tryz.func149.trans (congrArg some (by kernel_rfl))⟩
  f23 := ⟨Tryz.f150.name, by decide, Tryz.func150.trans (congrArg some (by kernel_rfl))⟩
  f24 := ⟨Tryz.f151.name, by decide, Tryz.func151.trans (congrArg some (by kernel_rfl))⟩
  f25 := ⟨Tryz.f152.name, by decide, Tryz.func152.trans (congrArg some (by kernel_rfl))⟩
  f26 := ⟨Tryz.f153.name, by decide, Tryz.func153.trans (congrArg some (by kernel_rfl))⟩
  f27 := ⟨Tryz.f154.name, by decide, Tryz.func154.trans (congrArg some (by kernel_rfl))⟩
  f28 := Tryz.func130.trans (congrArg some (by kernel_rfl))
  f29 := Tryz.func131.trans (congrArg some (by kernel_rfl))
  f46 := ⟨Tryz.f158.name, by decide, Tryz.func158.trans (congrArg some (by kernel_rfl))⟩
  f47 := Tryz.func143.trans (congrArg some (by kernel_rfl))
  f48 := Tryz.func144.trans (congrArg some (by kernel_rfl))
  f49 := ⟨Tryz.f159.name, by decide, Tryz.func159.trans (congrArg some (by kernel_rfl))⟩
  f50 := ⟨Tryz.f160.name, by decide, Tryz.func160.trans (congrArg some (by kernel_rfl))⟩
  f57 := ⟨Tryz.f161.name, by decide, Tryz.func161.trans (congrArg some (by kernel_rfl))⟩
  t0 := Tryz.underlying0
  a0 := Tryz.isAgg0
  z0 := Tryz.sizeOf0
  v0 := Tryz.zeroValue0
  t3 := Tryz.underlying3
  a3 := Tryz.isAgg3
  z3 := Tryz.sizeOf3
  v3 := Tryz.zeroValue3
  t4 := Tryz.underlying4
  a4 := Tryz.isAgg4
  z4 := Tryz.sizeOf4
  v4 := Tryz.zeroValue4
  t5 := Tryz.underlying5
  a5 := Tryz.isAgg5
  z5 := Tryz.sizeOf5
  v5 := Tryz.zeroValue5
  t9 := Tryz.underlying9
  a9 := Tryz.isAgg9
  z9 := Tryz.sizeOf9
  v9 := Tryz.zeroValue9
  t22 := Tryz.underlying79
  a22 := Tryz.isAgg79
  z22 := Tryz.sizeOf79
  v22 := Tryz.zeroValue79
  t25 := Tryz.underlying89
  a25 := Tryz.isAgg89
  z25 := Tryz.sizeOf89
  v25 := Tryz.zeroValue89
  t39 := Tryz.underlying137
  a39 := Tryz.isAgg137
  z39 := Tryz.sizeOf137
  v39 := Tryz.zeroValue137
  t45 := Tryz.underlying152
  a45 := Tryz.isAgg152
  z45 := Tryz.sizeOf152
  v45 := Tryz.zeroValue152
  t46 := Tryz.underlying153
  a46 := Tryz.isAgg153
  z46 := Tryz.sizeOf153
  v46 := Tryz.zeroValue153
  t50 := Tryz.underlying116
  a50 := Tryz.isAgg116
  z50 := Tryz.sizeOf116
  v50 := Tryz.zeroValue116
  t53 := Tryz.underlying159
  a53 := Tryz.isAgg159
  z53 := Tryz.sizeOf159
  v53 := Tryz.zeroValue159
  t55 := Tryz.underlying161
  a55 := Tryz.isAgg161
  z55 := Tryz.sizeOf161
  v55 := Tryz.zeroValue161
  t66 := Tryz.underlying170
  a66 := Tryz.isAgg170
  z66 := Tryz.sizeOf170
  v66 := Tryz.zeroValue170
  t70 := Tryz.underlying166
  a70 := Tryz.isAgg166
  z70 := Tryz.sizeOf166
  v70 := Tryz.zeroValue166
  t76 := Tryz.underlying181
  a76 := Tryz.isAgg181
  z76 := Tryz.sizeOf181
  v76 := Tryz.zeroValue181
  t77 := Tryz.underlying182
  a77 := Tryz.isAgg182
  z77 := Tryz.sizeOf182
  v77 := Tryz.zeroValue182 }
def Tryz.cloneL_ren : Go.Shelf.Ren := ⟨fun | 41 => 105 | n => n, fun | 22 => 79 | 23 => 75 | 4 => 4 | n => n, fun | n => n⟩
theorem Tryz.cloneL : Go.Proofs.SlLaysE0.n41 Tryz.prog Tryz.cloneL_ren := {
  mixed := by kernel_rfl
  f41 := ⟨Tryz.f105.name, by decide, Tryz.func105.trans (congrArg some (by kernel_rfl))⟩
  t4 := Tryz.underlying4
  a4 := Tryz.isAgg4
  z4 := Tryz.sizeOf4
  v4 := Tryz.zeroValue4
  t22 := Tryz.underlying79
  a22 := Tryz.isAgg79
  z22 := Tryz.sizeOf79
  v22 := Tryz.zeroValue79 }
end Go.Proofs

/-
  From 'only lays blocks and draws' to the words of the shelf's sort. No program here.
-/
namespace Go.Proofs.YtponkkljlbifmaaGreat
open Go.RowKit Go.Sort Go.Shelf
set_option maxRecDepth 100000

end Go.Proofs.YtponkkljlbifmaaGreat

/-
  slices.SortFunc over rows, by the shelf's contract.
-/
namespace Go.Proofs.YtponkkljlbifmaaGreat
open Go.RowKit Go.Sort Go.Shelf
set_option maxRecDepth 100000

theorem Sl.cells {α : Type} {sz : Nat} {cs : α → List Value} {w w' : World} {A : Option Addr} {n : Nat} {l : List α} (h : Sl sz cs w A n l)
    (hc : ∀ b o, A = some ⟨b, o, none⟩ → 0 < n → ∀ j, (w.cell? ⟨b, j, none⟩).isSome = true → w'.cell? ⟨b, j, none⟩ = w.cell? ⟨b, j, none⟩) : Sl sz cs w' A n l := by
  refine ⟨h.1, fun hn => ?_⟩
  obtain ⟨b, o, e, hx⟩ := h.2 hn
  refine ⟨b, o, e, fun k x hk j u hu => ?_⟩
  have h1 := hx k x hk j u hu
  rw [hc b o e hn _ (by rw [h1]; rfl)]
  exact h1
/-- a row whose cells do not lie in block blk -/
def RowFar (w : World) (blk : Nat) (p : RowP) : Prop := RowOk w p ∧ (0 < p.1.2.1 → ∀ b o, p.1.1 = some ⟨b, o, none⟩ → b ≠ blk)
abbrev FarRow (w : World) (blk : Nat) : Type := { p : RowP // RowFar w blk p }
instance (w : World) (blk : Nat) : Inhabited (FarRow w blk) := ⟨⟨((none, 0, 0), []), ⟨⟨Sl.nil, fun _ => ⟨rfl, rfl⟩, Nat.le_refl _, by simp⟩, fun h => absurd h (by simp)⟩⟩⟩
def encRV {w : World} {blk : Nat} (x : FarRow w blk) : Value := .slice x.1.1.1 x.1.1.2.1 x.1.1.2.2
def cfR {w : World} {blk : Nat} (x y : FarRow w blk) : Int := cmpR x.1.2 y.1.2
theorem swoR {w : World} {blk : Nat} : SWO (ltOf (cfR (w := w) (blk := blk))) where
  irrefl x := by simp [ltOf, cfR, cmpR_self]
  trans x y z h1 h2 := by
    have h1' : cmpR x.1.2 y.1.2 < 0 := of_decide_eq_true h1
    have h2' : cmpR y.1.2 z.1.2 < 0 := of_decide_eq_true h2
    exact decide_eq_true (cmpR_lt_of_le (by omega) h2')
  ntrans x y z h1 h2 := by
    have h1' : ¬ cmpR x.1.2 y.1.2 < 0 := of_decide_eq_false h1
    have h2' : ¬ cmpR y.1.2 z.1.2 < 0 := of_decide_eq_false h2
    refine decide_eq_false (p := cmpR x.1.2 z.1.2 < 0) ?_
    have e1 := cmpR_anti x.1.2 y.1.2
    have e2 := cmpR_anti y.1.2 z.1.2
    have e3 := cmpR_anti x.1.2 z.1.2
    have := cmpR_trans z.1.2 y.1.2 x.1.2 (by omega) (by omega)
    omega
theorem sw_block {w : World} {blk off m : Nat} {d : Array (FarRow w blk)} {os : Array Obj} {k : Nat} (hk : k < w.heap.size) (hne : k ≠ blk) : (sortWorld encRV w blk off m d os).heap[k]? = w.heap[k]? := by
  unfold sortWorld
  rw [heap_grow_old _ _ (by simpa using hk)]
  simp only [putRow, mapBlock, heap_ahead, Array.getElem?_modify]
  rw [if_neg (fun e => hne e.symm)]
theorem sw_but {w : World} {blk off m : Nat} {d : Array (FarRow w blk)} {os : Array Obj} : But (· = blk) w (sortWorld encRV w blk off m d os) :=
  ⟨rfl, rfl, rfl, by simp [sortWorld], fun k hk hs => sw_block hk hs⟩
theorem RowFar.sw {w : World} {blk off m : Nat} {d : Array (FarRow w blk)} {os : Array Obj} {p : RowP} (h : RowFar w blk p) : RowOk (sortWorld encRV w blk off m d os) p :=
  ⟨h.1.rd.but sw_but (fun hn b o e hs => h.2 hn b o e hs), h.1.nl, h.1.le, h.1.mx⟩
theorem cmpLays {w : World} (blk off size : Nat) : CmpLays1 Tryz.prog 54 #[] (encRV (w := w) (blk := blk)) cfR blk off size w := by
  intro m os dk hs x y
  have hx := (x.2.sw (off := off) (m := m) (d := dk) (os := os))
  have hy := (y.2.sw (off := off) (m := m) (d := dk) (os := os))
  have h := comprowsL_any x.1.1.1 y.1.1.1 x.1.1.2.1 y.1.1.2.1 x.1.1.2.2 y.1.1.2.2 x.1.2 y.1.2 _ hx.rd hy.rd (Nat.le_trans hx.le hx.mx) (Nat.le_trans hy.le hy.mx)
  exact h.mono fun e w' ⟨he, hl⟩ => ⟨he, lay_of hl⟩
def toD {w : World} {blk : Nat} (ps : List RowP) (h : ∀ p ∈ ps, RowFar w blk p) : Array (FarRow w blk) := (ps.attach.map fun p => ⟨p.1, h p.1 p.2⟩).toArray
theorem toD_list {w : World} {blk : Nat} (ps : List RowP) (h : ∀ p ∈ ps, RowFar w blk p) : (toD ps h).toList.map (·.1) = ps := by
  simp only [toD, List.map_map, Function.comp_def]
  first | exact List.attach_map_subtype_val ps | exact List.attach_map_val ps | simp
theorem toD_size {w : World} {blk : Nat} (ps : List RowP) (h : ∀ p ∈ ps, RowFar w blk p) : (toD ps h).size = ps.length := by simp [toD]
theorem toD_at {w : World} {blk : Nat} (ps : List RowP) (h : ∀ p ∈ ps, RowFar w blk p) (j : Nat) (hj : j < (toD ps h).size) : ((toD ps h)[j]!).1 = ps[j]'(by rw [← toD_size ps h]; exact hj) := by
  rw [getElem!_pos (toD ps h) j hj]
  simp [toD]
/-- what a sort leaves -/
def SortedTo (w : World) (blk off n : Nat) (ps : List RowP) (w' : World) : Prop := ∃ qs : List RowP, qs.Perm ps ∧ upR (qs.map (·.2)) ∧ RowsS w' (some ⟨blk, off, none⟩) n qs ∧ But (· = blk) w w'
theorem sort_any (blk off cap n : Nat) (ps : List RowP) (w : World) (hn0 : 0 < n) (hsl : Sl 1 rowc w (some ⟨blk, off, none⟩) n ps) (hfz : ∀ j, w.frozen? ⟨blk, j, none⟩ = false) (hps : ∀ p ∈ ps, RowFar w blk p) (hblk : blk < w.heap.size) (hn : n ≤ 1000000) :
    Calls Tryz.prog 106 #[.slice (some ⟨blk, off, none⟩) n cap, .func (.func 54) #[] #[]] w fun e w' => e = .returned (.tuple #[]) ∧ SortedTo w blk off n ps w' := by
  have hlen := hsl.len
  have hsz : (toD ps hps).size = n := by rw [toD_size, hlen]
  have hH : Holds encRV w blk off (toD ps hps) := by
    intro j hj
    refine ⟨?_, hfz _⟩
    obtain ⟨b, o, x, hA, hx, hc⟩ := hsl.at (show j < n by omega)
    injection hA with hA
    injection hA with e1 e2
    subst e1 e2
    have h0 := hc 0 _ rfl
    have hxe : ps[j]'(by rw [← toD_size ps hps]; exact hj) = x := (List.getElem?_eq_some_iff.1 hx).2
    rw [Nat.mul_one, Nat.add_zero] at h0
    rw [h0]
    unfold encRV
    rw [toD_at ps hps j hj, hxe]
  have hcon := Any.slices_SortFunc Tryz.sortL (encRV (w := w) (blk := blk)) (fun _ => rfl) cfR swoR 54 #[] blk off cap (toD ps hps) w entR (cmpLays blk off _) hH hblk (by omega)
  rw [hsz] at hcon
  change Calls Tryz.prog 106 _ _ _ at hcon
  refine hcon.mono fun e w' ⟨he, d', m, os, hp, hs, hw⟩ => ⟨he, ?_⟩
  have hds : d'.size = n := by rw [hp.1, hsz]
  have hHs : Holds encRV w' blk off d' := by
    rw [hw]
    exact SW.holds (enc := encRV) ⟨m, os, rfl⟩ hblk hH (by rw [hds, hsz])
  have hperm : (d'.toList.map (·.1)).Perm ps := by
    have h1 := hp.2.2
    rw [Array.extract_eq_self_of_le (by omega), Array.extract_eq_self_of_le (by omega)] at h1
    have h2 := h1.map (fun x : FarRow w blk => x.1)
    rw [toD_list] at h2
    exact h2
  refine ⟨d'.toList.map (·.1), hperm, ?_, ⟨⟨by simp [hds], fun _ => ⟨blk, off, rfl, ?_⟩⟩, ?_⟩, by rw [hw]; exact sw_but⟩
  · rw [List.map_map]
    refine List.pairwise_map.2 (List.pairwise_iff_getElem.2 fun i j hi hj hij => ?_)
    have hi' : i < d'.size := by simpa using hi
    have hj' : j < d'.size := by simpa using hj
    have h1 := hs i j (Nat.zero_le _) hij (by omega)
    rw [getElem!_pos d' i hi', getElem!_pos d' j hj'] at h1
    have h2 : ¬ cmpR (d'[j]).1.2 (d'[i]).1.2 < 0 := of_decide_eq_false h1
    have e1 := cmpR_anti (d'[i]).1.2 (d'[j]).1.2
    have hg : cmpR (d'[i]).1.2 (d'[j]).1.2 ≤ 0 := by omega
    simpa using hg
  · intro k x hx j u hu
    rcases j with _ | j
    · simp only [rowc, List.getElem?_cons_zero, Option.some.injEq] at hu
      subst hu
      rw [List.getElem?_map, Option.map_eq_some_iff] at hx
      obtain ⟨y, hy, rfl⟩ := hx
      have hk : k < d'.size := by have := (List.getElem?_eq_some_iff.1 hy).1; simpa using this
      have hy' : d'[k]! = y := by
        rw [getElem!_pos d' k hk]
        have := (List.getElem?_eq_some_iff.1 hy).2
        simpa using this
      rw [Nat.mul_one, Nat.add_zero, (hHs k hk).1, hy']
      rfl
    · simp [rowc] at hu
  · intro p hp'
    have hm := hperm.mem_iff.1 hp'
    rw [hw]
    exact (hps p hm).sw
end Go.Proofs.YtponkkljlbifmaaGreat

/-
  value.Set: the rows sorted, each once.
-/
namespace Go.Proofs.YtponkkljlbifmaaGreat
open Go.RowKit Go.Shelf
set_option maxRecDepth 100000

theorem clone_any (A : Option Addr) (n c : Nat) (ps : List RowP) (w : World) (hs : Sl 1 rowc w A n ps) (hnil : A = none → n = 0 ∧ c = 0) (hsp : ∀ ad, A = some ad → ad.spot = none) (hn : n ≤ 1000000) :
    Calls Tryz.prog 105 #[.slice A n c] w fun e w' => ∃ (A1 : Option Addr) (c1 : Nat), e = .returned (.slice A1 n c1) ∧ w'.ownsRow w.heap.size 75 1 (.slice A1 n c1) n (ps.flatMap rowc) ∧ Below w.heap.size w w' := by
  obtain ⟨i0, hi, hz0, hz1, hz2⟩ := info_parts info_row
  have hlen := hs.len
  cases A with
  | none =>
    obtain ⟨rfl, rfl⟩ := hnil rfl
    obtain rfl : ps = [] := List.eq_nil_of_length_eq_zero hlen
    have hcon := AnyE.slices_Clone_nil Tryz.cloneL 0 0 w
    change Calls Tryz.prog 105 _ _ _ at hcon
    exact hcon.mono fun e w' ⟨he, hw⟩ => ⟨none, 0, he, ⟨by simp, .inl ⟨rfl, rfl⟩⟩, by rw [hw]; exact Below.refl _ _⟩
  | some ad =>
    obtain ⟨b, o, sp⟩ := ad
    obtain rfl : sp = none := hsp _ rfl
    have hc : ∀ j u, (ps.flatMap rowc)[j]? = some u → w.cell? ⟨b, o + j, none⟩ = some u := by
      intro j u hu
      obtain ⟨x, hx, hxu⟩ := flat_get (sz := 1) (cs := rowc) (fun _ => rfl) (by omega) ps j u hu
      have hjn : 0 < n := by have := (List.getElem?_eq_some_iff.1 hx).1; omega
      obtain ⟨b', o', hA, hcc⟩ := hs.2 hjn
      injection hA with hA
      injection hA with e1 e2
      subst e1 e2
      have := hcc _ x hx _ u hxu
      simpa [Nat.mod_one] using this
    have hcon := AnyE.slices_Clone Tryz.cloneL i0 (.slice none 0 0) 1 24 hi hz0 hz1 hz2 (by rfl) (by omega) Tryz.sizeOf75 b o n c (ps.flatMap rowc) w (by rw [flat_len (sz := 1) (fun _ => rfl), hlen]) (by simp only [maxLen]; omega) (by omega) hc (fun u hu => by
      rw [List.mem_flatMap] at hu
      obtain ⟨p, _, hu⟩ := hu
      exact one_row p u hu)
    change Calls Tryz.prog 105 _ _ _ at hcon
    refine hcon.mono fun e w' ⟨v', he, ho, hne, hb⟩ => ?_
    change w'.ownsRow w.heap.size 75 1 v' n _ at ho
    rcases ho.2 with ⟨hv, hn0⟩ | ⟨g, cap, cur, hv, _⟩
    · exact absurd hv hne
    · rw [hv] at ho he
      exact ⟨_, _, he, ho, hb⟩
theorem sort0_any (p : Option Addr) (cap : Nat) (w : World) :
    Calls Tryz.prog 106 #[.slice p 0 cap, .func (.func 54) #[] #[]] w fun e w' => e = .returned (.tuple #[]) ∧ w' = w := by
  have hcon := AnyF.slices_SortFunc_none Tryz.sortZ p cap (.func (.func 54) #[] #[]) w
  exact hcon
/-- what a sort leaves of a row of the call's own -/
def Sorted2 (w0 w : World) (A : Option Addr) (n : Nat) (ps : List RowP) (w' : World) : Prop := ∃ qs : List RowP, qs.Perm ps ∧ upR (qs.map (·.2)) ∧ RowsS w' A n qs ∧ Below w0.heap.size w0 w'
theorem sortany2 (A : Option Addr) (n c : Nat) (ps : List RowP) (w0 w : World) (hown : w.ownsRow w0.heap.size 75 1 (.slice A n c) n (ps.flatMap rowc)) (hlen : ps.length = n) (hok : ∀ p ∈ ps, RowOk w0 p) (hb : Below w0.heap.size w0 w) (hn : n ≤ 1000000) :
    Calls Tryz.prog 106 #[.slice A n c, .func (.func 54) #[] #[]] w fun e w' => e = .returned (.tuple #[]) ∧ Sorted2 w0 w A n ps w' := by
  rcases Nat.eq_zero_or_pos n with h0 | h0
  · subst h0
    obtain rfl : ps = [] := List.eq_nil_of_length_eq_zero hlen
    exact (sort0_any A c w).mono fun e w' ⟨he, hw⟩ => ⟨he, [], List.Perm.refl _, List.Pairwise.nil, ⟨Sl.nil, fun p hp => by cases hp⟩, by rw [hw]; exact hb⟩
  · obtain ⟨g, cap, hv, hgb, hgl⟩ := hown.form h0
    obtain ⟨rfl, rfl⟩ : A = some ⟨g, 0, none⟩ ∧ c = cap := by injection hv with h1 h2 h3; exact ⟨h1, h3⟩
    have hfar : ∀ p ∈ ps, RowFar w g p := fun p hp => ⟨(hok p hp).keep (keeps_of hb), fun hpn b o e => by
      have := (hok p hp).rd.lt Vl.cs_len (by omega) hpn b o e
      omega⟩
    refine (sort_any g 0 c n ps w h0 (Sl.of_own (cs := rowc) (fun _ => rfl) hlen hown) (fun j => hown.frozenAt j) hfar hgl hn).mono fun e w' ⟨he, qs, h1, h2, h3, h4⟩ => ⟨he, qs, h1, h2, h3, ?_⟩
    exact h4.below hb hb.size (fun k hk => by subst hk; exact hgb)
theorem dedup_setL {qs ps : List RowP} (h1 : qs.Perm ps) (h2 : upR (qs.map (·.2))) : dedup [] (qs.map (·.2)) = setL (ps.map (·.2)) := by
  have hd := dedup_asc (qs.map (·.2)) [] List.Pairwise.nil h2 (fun x h => by cases h)
  refine ascR_ext _ _ hd.1 (setL_asc _) fun r => ?_
  rw [setL_mem]
  have hm : r ∈ qs.map (·.2) ↔ r ∈ ps.map (·.2) := (h1.map (·.2)).mem_iff
  constructor
  · intro h
    rcases dedup_sub _ _ r h with h | h
    · cases h
    · exact hm.1 h
  · intro h
    exact hd.2 r (.inr (hm.2 h))
theorem own_empty (w : World) {e : TypeId} {size base : Nat} (hb : base ≤ w.heap.size) : (w.alloc (.cells #[] e)).ownsRow base e size (.slice (some ⟨w.heap.size, 0, none⟩) 0 0) 0 [] :=
  ⟨by simp, .inr ⟨w.heap.size, 0, #[], rfl, hb, heap_alloc_new w _, Nat.le_refl _, by simp [maxLen], by simp, by simp⟩⟩
/-- where the walk over the sorted rows stands -/
structure VState (w0 : World) (R : List (List Vl)) (sp : List RowP) (k : Nat) (qs : List RowP) (Ao : Option Addr) (no co : Nat) (w1 wr : World) : Prop where
  own : wr.ownsRow w1.heap.size 75 1 (.slice Ao no co) no (qs.flatMap rowc)
  len : qs.length = no
  kle : no ≤ k
  rows : ∀ q ∈ qs, OwnRow wr w1.heap.size q
  run : dedup (qs.map (·.2)) ((sp.drop k).map (·.2)) = R
  last : 0 < k → (qs.map (·.2)).getLast? = (sp[k - 1]?).map (·.2)
  bel : Below w1.heap.size w1 wr
def VRel (w0 : World) (R : List (List Vl)) (sp : List RowP) (n : Nat) (w1 : World) (x i : Value) (wr : World) : Prop :=
  ∃ (k : Nat) (qs : List RowP) (Ao : Option Addr) (no co : Nat), k ≤ n ∧ i = .int .i64 (k : Int) ∧ x = .slice Ao no co ∧ VState w0 R sp k qs Ao no co w1 wr
set_option maxRecDepth 100000 in
set_option maxHeartbeats 4000000 in
theorem setV_any (A : Option Addr) (n c : Nat) (ps : List RowP) (w : World) (hs : RowsS w A n ps) (hnil : A = none → n = 0 ∧ c = 0) (hsp : ∀ ad, A = some ad → ad.spot = none) (hn : n ≤ 1000000) (hsm : ∀ p ∈ ps, p.1.2.1 ≤ 4398046511104) :
    Calls Tryz.prog 67 #[.slice A n c] w fun e w' => SetPost w (setL (ps.map (·.2))) e w' := by
  obtain ⟨i0, hi, hz0, hz1, hz2⟩ := info_parts info_row
  obtain ⟨j0, hj, hy0, hy1, hy2⟩ := info_parts info_vl
  have HS := Lib.hid hs
  have HN := Lib.hid hnil
  have HP := Lib.hid hsp
  have Hln := Lib.hid hs.sl.len
  have Hsm := Lib.hid hsm
  clear hs hnil hsp hsm
  generalize hR : setL (ps.map (·.2)) = R
  have HR := Lib.hid hR
  clear hR
  go_enter Tryz.func67, Tryz.ntmps67
  go_wp2_with fail
  refine (clone_any A n c ps _ HS.out.sl HN.out HP.out hn).mono ?_
  rintro e w1 ⟨A1, c1, rfl, hown1, hb1⟩
  have HO1 := Lib.hid hown1
  clear hown1
  go_wp2_with fail
  refine (sortany2 A1 n c1 ps w w1 HO1.out Hln.out HS.out.ok hb1 hn).mono ?_
  rintro e w2 ⟨rfl, sp, hperm, hup, hss, hb2⟩
  have HSS := Lib.hid hss
  have Hrun : Hid (dedup [] (sp.map (·.2)) = R) := Lib.hid (by rw [dedup_setL hperm hup, HR.out])
  have Hsmp : Hid (∀ p ∈ sp, p.1.2.1 ≤ 4398046511104) := Lib.hid (fun p hp => Hsm.out p (hperm.mem_iff.1 hp))
  clear hss HO1 HS HN HP Hln hup hperm HR Hsm hb1
  go_wp2_with fail
  go_loopw [4, 13] (fun x i wr => VRel w R sp n w2 x i wr) (fun _ i _ => n - (intOf i).toNat)
  case atStart => exact ⟨0, [], none, 0, 0, by omega, rfl, rfl, ⟨⟨by simp, .inl ⟨rfl, rfl⟩⟩, rfl, by omega, by simp, by simpa using Hrun.out, fun h => absurd h (by omega), Below.refl _ _⟩⟩
  case round =>
    obtain ⟨k, qs, Ao, no, co, hk, rfl, rfl, hT⟩ := hrel
    have HT := Lib.hid hT
    have hno : no ≤ k := hT.kle
    clear hT
    by_cases hlt : k < n
    · have hkr := keeps_of HT.out.bel
      obtain ⟨b, o, p, hAp, hp, hpc⟩ := HSS.out.sl.at hlt
      subst hAp
      have e1 := keep_cell hkr (hpc 0 _ rfl)
      simp only [Nat.mul_one, Nat.add_zero] at e1
      have hpm : p ∈ sp := List.mem_of_getElem? hp
      have hpo := (HSS.out.ok p hpm).keep hkr
      have hps := Hsmp.out p hpm
      have Hst : Hid (R = if keepR (qs.map (·.2)) p.2 then dedup (qs.map (·.2) ++ [p.2]) ((sp.drop (k + 1)).map (·.2)) else dedup (qs.map (·.2)) ((sp.drop (k + 1)).map (·.2))) := Lib.hid (by
        rw [← HT.out.run, drop_at hp]; rfl)
      have HPP := Lib.hid hp
      obtain ⟨⟨p1, p2, p3⟩, pr⟩ := p
      dsimp only [rowc] at e1 hps Hst
      have HPO := Lib.hid hpo
      clear hp hpc hpm hpo
      have hwz := HT.out.bel.size
      rcases Nat.eq_zero_or_pos k with h0 | h0
      · have g0 : ((k : Int) == 0) = true := by simp [h0]
        have H0 := Lib.hid h0
        clear h0 hkr
        have HKT : Hid (keepR (qs.map (·.2)) pr = true) := Lib.hid (by
          obtain rfl : qs = [] := List.eq_nil_of_length_eq_zero (by have := HT.out.len; have := H0.out; omega)
          rfl)
        go_wp2_with (first
          | (at_builtin; refine wpList_append_sf (cs := Vl.cs) (wr.alloc (.cells #[] 67)) (by rfl) (.tmp 31) (.tmp 32) _ (by rfl) wr.heap.size 67 j0 _ 3 32 Tryz.underlying75 hj hy0 hy1 hy2 (by rfl) (by omega) (.slice (some ⟨wr.heap.size, 0, none⟩) 0 0) 0 [] (by rfl) (own_empty wr (Nat.le_refl _)) p1 p2 p3 pr (by rfl) (HPO.out.rd.keep (keeps_alloc _ _)) HPO.out.nl Vl.cs_len one_vl (by simp only [maxLen]; omega) (by omega) (by simp) ?_; intro A3 c3 w3 hown3 hg3 hB3 hat3 hn3; simp only [Nat.zero_add, List.nil_append] at hown3; have hb3 : Below wr.heap.size wr w3 := ((Below.refl _ _).alloc (Nat.le_refl _) _).trans hB3; have hO3 := own_at HT.out.own (fun g _ hl _ => hb3.block g hl); have hsz3 : w2.heap.size ≤ w3.heap.size := Nat.le_trans HT.out.bel.size hb3.size)
          | (at_builtin; refine wpList_append_one2 (by rfl) (.tmp 30) (.tmp 34) _ (by rfl) w2.heap.size 75 i0 _ 1 24 Tryz.underlying79 hi hz0 hz1 hz2 (by rfl) (by omega) (.slice Ao no co) no _ (by rfl) w3 _ hO3 w3.heap.size (by rfl) (by rfl) (by rfl) (one_row ((A3, p2, c3), [])) (by simp only [maxLen]; omega) (by omega) hsz3 ?_; intro g6 cap6 w6 hown6 hg6 hB6 hat6 hlt6))
        have HN3 : Hid (OwnRow w3 w2.heap.size ((A3, p2, c3), pr)) := Lib.hid ⟨own_weaken hown3 HT.out.bel.size, (HPO.out).rd.len⟩
        go_roundw
        case rel =>
          refine ⟨k + 1, qs ++ [((A3, p2, c3), pr)], _, no + 1, cap6, by omega, by go_num, rfl, ⟨?_, by simp [HT.out.len], by omega, ?_, ?_, ?_, (HT.out.bel.trans (hb3.mono HT.out.bel.size)).trans hB6⟩⟩
          · rw [List.flatMap_append]; simpa [rowc] using hown6
          · intro q hq
            have ho4 := hO3.alloc (.cells #[.slice A3 p2 c3] 75)
            rw [List.mem_append, List.mem_singleton] at hq
            rcases hq with hq | rfl
            · exact ((((HT.out.rows) q hq).below hb3).below ((Below.refl _ _).alloc (Nat.le_refl _) _)).grown ho4 hg6
            · exact (HN3.out.below ((Below.refl _ _).alloc (Nat.le_refl _) _)).grown ho4 hg6
          · have := Hst.out
            rw [if_pos HKT.out] at this
            rw [this]; simp
          · intro _
            rw [Nat.add_sub_cancel, HPP.out]
            simp
        case measure => simp [intOf]; omega
      · have g0 : ((k : Int) == 0) = false := by simp; omega
        have hk1 : (1 : Int) ≤ (k : Int) := by omega
        obtain ⟨b', o', q, hAq, hq, hqc⟩ := HSS.out.sl.at (show k - 1 < n by omega)
        injection hAq with hAq
        injection hAq with e3 e4
        subst e3 e4
        have e2 := keep_cell hkr (hqc 0 _ rfl)
        simp only [Nat.mul_one, Nat.add_zero] at e2
        have hqo := (HSS.out.ok q (List.mem_of_getElem? hq)).keep hkr
        have HKL : Hid (keepR (qs.map (·.2)) pr = decide (cmpR q.2 pr ≠ 0)) := Lib.hid (by
          unfold keepR
          rw [HT.out.last h0, hq]
          rfl)
        have HQQ := Lib.hid hq
        obtain ⟨⟨q1, q2, q3⟩, qr⟩ := q
        dsimp only [rowc] at e2 HKL
        have HQO := Lib.hid hqo
        clear hq hqc hqo hkr
        have H0 := Lib.hid h0
        clear h0
        go_wp2_with fail
        refine (comprowsL_any q1 p1 q2 p2 q3 p3 qr pr _ HQO.out.rd HPO.out.rd (Nat.le_trans HQO.out.le HQO.out.mx) (Nat.le_trans HPO.out.le HPO.out.mx)).mono ?_
        rintro e w4 ⟨rfl, hL4⟩
        have hb4 := hL4.bel
        clear hL4 e1 e2
        have hT4 : VState w R sp k qs Ao no co w2 w4 := ⟨own_at HT.out.own (fun g _ hl _ => hb4.block g hl), HT.out.len, HT.out.kle, fun q hq => (HT.out.rows q hq).below hb4, HT.out.run, HT.out.last, Below.next HT.out.bel hb4⟩
        replace HT := Lib.hid hT4
        replace HPO := Lib.hid (HPO.out.keep (keeps_of hb4))
        clear hT4 hb4 hwz
        obtain ⟨z, Hz⟩ : ∃ z, Hid (cmpR qr pr = z) := ⟨_, rfl⟩
        rw [Hz.out] at HKL ⊢
        by_cases hz : z = 0
        · have g1 : (z != 0) = false := by simp [hz]
          have HKT : Hid (keepR (qs.map (·.2)) pr = false) := Lib.hid (by rw [HKL.out]; simp [hz])
          have HEQ : Hid (qr = pr) := Lib.hid ((cmpR_zero _ _).1 (by rw [Hz.out, hz]))
          clear hz
          go_wp2_with fail
          go_roundw
          case rel =>
            refine ⟨k + 1, qs, Ao, no, co, by omega, by go_num, rfl, ⟨HT.out.own, HT.out.len, by omega, HT.out.rows, ?_, ?_, HT.out.bel⟩⟩
            · have := Hst.out
              rw [if_neg (by rw [HKT.out]; simp)] at this
              rw [this]
            · intro _
              rw [HT.out.last H0.out, HQQ.out, Nat.add_sub_cancel, HPP.out]
              simp [HEQ.out]
          case measure => simp [intOf]; omega
        · have g1 : (z != 0) = true := by simp [hz]
          have HKT : Hid (keepR (qs.map (·.2)) pr = true) := Lib.hid (by rw [HKL.out]; simp [hz])
          clear hz
          go_wp2_with (first
            | (at_builtin; refine wpList_append_sf (cs := Vl.cs) (w4.alloc (.cells #[] 67)) (by rfl) (.tmp 31) (.tmp 32) _ (by rfl) w4.heap.size 67 j0 _ 3 32 Tryz.underlying75 hj hy0 hy1 hy2 (by rfl) (by omega) (.slice (some ⟨w4.heap.size, 0, none⟩) 0 0) 0 [] (by rfl) (own_empty w4 (Nat.le_refl _)) p1 p2 p3 pr (by rfl) (HPO.out.rd.keep (keeps_alloc _ _)) HPO.out.nl Vl.cs_len one_vl (by simp only [maxLen]; omega) (by omega) (by simp) ?_; intro A3 c3 w3 hown3 hg3 hB3 hat3 hn3; simp only [Nat.zero_add, List.nil_append] at hown3; have hb3 : Below w4.heap.size w4 w3 := ((Below.refl _ _).alloc (Nat.le_refl _) _).trans hB3; have hO3 := own_at HT.out.own (fun g _ hl _ => hb3.block g hl); have hsz3 : w2.heap.size ≤ w3.heap.size := Nat.le_trans HT.out.bel.size hb3.size)
            | (at_builtin; refine wpList_append_one2 (by rfl) (.tmp 30) (.tmp 34) _ (by rfl) w2.heap.size 75 i0 _ 1 24 Tryz.underlying79 hi hz0 hz1 hz2 (by rfl) (by omega) (.slice Ao no co) no _ (by rfl) w3 _ hO3 w3.heap.size (by rfl) (by rfl) (by rfl) (one_row ((A3, p2, c3), [])) (by simp only [maxLen]; omega) (by omega) hsz3 ?_; intro g6 cap6 w6 hown6 hg6 hB6 hat6 hlt6))
          have HN3 : Hid (OwnRow w3 w2.heap.size ((A3, p2, c3), pr)) := Lib.hid ⟨own_weaken hown3 HT.out.bel.size, (HPO.out).rd.len⟩
          go_roundw
          case rel =>
            refine ⟨k + 1, qs ++ [((A3, p2, c3), pr)], _, no + 1, cap6, by omega, by go_num, rfl, ⟨?_, by simp [HT.out.len], by omega, ?_, ?_, ?_, (HT.out.bel.trans (hb3.mono HT.out.bel.size)).trans hB6⟩⟩
            · rw [List.flatMap_append]; simpa [rowc] using hown6
            · intro q hq
              have ho4 := hO3.alloc (.cells #[.slice A3 p2 c3] 75)
              rw [List.mem_append, List.mem_singleton] at hq
              rcases hq with hq | rfl
              · exact ((((HT.out.rows) q hq).below hb3).below ((Below.refl _ _).alloc (Nat.le_refl _) _)).grown ho4 hg6
              · exact (HN3.out.below ((Below.refl _ _).alloc (Nat.le_refl _) _)).grown ho4 hg6
            · have := Hst.out
              rw [if_pos HKT.out] at this
              rw [this]; simp
            · intro _
              rw [Nat.add_sub_cancel, HPP.out]
              simp
          case measure => simp [intOf]; omega
    · obtain rfl : k = n := by omega
      go_wp2
      go_ret
      have hT := HT.out
      have hrun := hT.run
      rw [List.drop_eq_nil_of_le (by have := HSS.out.sl.len; omega)] at hrun
      have hq : qs.map (·.2) = R := hrun
      obtain rfl : R.length = no := by rw [← hq, List.length_map, hT.len]
      exact ⟨qs, Ao, co, rfl, hq, own_weaken hT.own hb2.size, fun q hq => ⟨own_weaken (hT.rows q hq).1 hb2.size, (hT.rows q hq).2⟩, Below.next hb2 hT.bel⟩
end Go.Proofs.YtponkkljlbifmaaGreat
