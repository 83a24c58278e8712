/-
  Texts: SortO, PdD, PdO, EqF, PdR, ListAt.
-/
import Derived.Test.YtnnmlhmffnfjfaaGreatE14
import Derived.Laws.EntriesVeiled
set_option linter.unusedVariables false
/-
  slices.SortFunc over violations, by the shelf's contract: violations that ascend stay as they are.
-/
namespace Go.Proofs.YtnnmlhmffnfjfaaGreat
open Go.RowKit Go.Sort Go.Shelf
set_option maxRecDepth 100000

/-- a comparison that orders -/
structure OrdF {α : Type} (f : α → α → Int) : Prop where
  anti : ∀ x y, f y x = - f x y
  trans : ∀ x y z, f x y ≤ 0 → f y z ≤ 0 → f x z ≤ 0
def lexF {α : Type} (f g : α → α → Int) (x y : α) : Int := if f x y ≠ 0 then f x y else g x y
theorem OrdF.lex {α : Type} {f g : α → α → Int} (h : OrdF f) (k : OrdF g) : OrdF (lexF f g) where
  anti x y := by
    unfold lexF
    have h1 := h.anti x y
    have h2 := k.anti x y
    by_cases h0 : f x y = 0
    · rw [if_neg (by omega), if_neg (by omega), h2]
    · rw [if_pos (by omega), if_pos (by omega), h1]
  trans x y z h1 h2 := by
    unfold lexF at h1 h2 ⊢
    have a1 := h.anti x y
    have a2 := h.anti y z
    have a3 := h.anti x z
    have t1 := h.trans x y z
    have t2 := h.trans z x y
    have t3 := h.trans y z x
    have t4 := h.trans z y x
    have b1 := h.anti x z
    by_cases e1 : f x y = 0
    · by_cases e2 : f y z = 0
      · rw [if_neg (by omega)] at h1 h2
        have := k.trans x y z h1 h2
        rw [if_neg (by omega)]
        exact this
      · rw [if_pos e2] at h2
        rw [if_pos (by omega)]
        omega
    · rw [if_pos e1] at h1
      by_cases e2 : f y z = 0
      · rw [if_pos (by omega)]; omega
      · rw [if_pos e2] at h2
        rw [if_pos (by omega)]; omega
theorem ordI {α : Type} (p : α → Int) : OrdF (fun x y => cmpI (p x) (p y)) where
  anti x y := by unfold cmpI; repeat' split <;> omega
  trans x y z := by unfold cmpI; intro h1 h2; repeat' split at h1 <;> repeat' split at h2 <;> repeat' split <;> omega
theorem ordR {α : Type} (p : α → Rw) : OrdF (fun x y => cmpR (p x) (p y)) where
  anti x y := cmpR_anti _ _
  trans x y z := cmpR_trans _ _ _
theorem ordO : OrdF cmpO := (ordI Vo.t).lex ((ordR Vo.key).lex ((ordI Vo.k).lex (ordI Vo.ix)))
/-- a violation whose key does not lie in block blk -/
abbrev FarVo (w : World) (blk : Nat) : Type := { x : VoE // RowOk w x.p ∧ (0 < x.n → ∀ b o, x.A = some ⟨b, o, none⟩ → b ≠ blk) }
instance (w : World) (blk : Nat) : Inhabited (FarVo w blk) := ⟨⟨⟨⟨0, 0, [], 0⟩, none, 0, 0⟩, ⟨Sl.nil, fun _ => ⟨rfl, rfl⟩, Nat.le_refl _, by simp [VoE.p]⟩, fun h => absurd h (by simp)⟩⟩
def encO {w : World} {blk : Nat} (x : FarVo w blk) : List Value := VoE.cs x.1
def cfO {w : World} {blk : Nat} (x y : FarVo w blk) : Int := cmpO x.1.v y.1.v
theorem encO_len {w : World} {blk : Nat} (x : FarVo w blk) : (encO x).length = 4 := rfl
theorem swoO {w : World} {blk : Nat} : SWO (ltOf (cfO (w := w) (blk := blk))) where
  irrefl x := by have := ordO.anti x.1.v x.1.v; exact decide_eq_false (p := cmpO x.1.v x.1.v < 0) (by omega)
  trans x y z h1 h2 := by
    have h1' : cmpO x.1.v y.1.v < 0 := of_decide_eq_true h1
    have h2' : cmpO y.1.v z.1.v < 0 := of_decide_eq_true h2
    have e1 := ordO.anti x.1.v y.1.v
    have e2 := ordO.anti y.1.v z.1.v
    have e3 := ordO.anti x.1.v z.1.v
    have t1 := ordO.trans x.1.v y.1.v z.1.v (by omega) (by omega)
    have t2 := ordO.trans y.1.v z.1.v x.1.v (by omega)
    exact decide_eq_true (p := cmpO x.1.v z.1.v < 0) (by omega)
  ntrans x y z h1 h2 := by
    have h1' : ¬ cmpO x.1.v y.1.v < 0 := of_decide_eq_false h1
    have h2' : ¬ cmpO y.1.v z.1.v < 0 := of_decide_eq_false h2
    refine decide_eq_false (p := cmpO x.1.v z.1.v < 0) ?_
    have e1 := ordO.anti x.1.v y.1.v
    have e2 := ordO.anti y.1.v z.1.v
    have e3 := ordO.anti x.1.v z.1.v
    have := ordO.trans z.1.v y.1.v x.1.v (by omega) (by omega)
    omega
section
variable {w : World} {blk off m : Nat} {d : Array (FarVo w blk)} {os : Array Obj}
theorem swo_block {k : Nat} (hk : k < w.heap.size) (hne : k ≠ blk) : (sortWorldK encO 4 w blk off m d os).heap[k]? = w.heap[k]? := by
  unfold sortWorldK putRowK
  rw [heap_grow_old _ _ (by simpa using hk)]
  simp only [putRow, mapBlock, heap_ahead, Array.getElem?_modify]
  rw [if_neg (fun e => hne e.symm)]
theorem swo_but : But (· = blk) w (sortWorldK encO 4 w blk off m d os) :=
  ⟨rfl, rfl, rfl, by simp [sortWorldK, putRowK], fun k hk hs => swo_block hk hs⟩
theorem farvo_sw (x : FarVo w blk) : RowOk (sortWorldK encO 4 w blk off m d os) x.1.p :=
  ⟨x.2.1.rd.but swo_but (fun hn b o e hs => x.2.2 hn b o e hs), x.2.1.nl, x.2.1.le, x.2.1.mx⟩
end
theorem cmpLaysO {w : World} (blk off size : Nat) : CmpLays Tryz.prog 108 #[] (encO (w := w) (blk := blk)) 4 cfO blk off size w := by
  intro m os dk hs x y
  exact (cmpvio_any x.1 y.1 _ (farvo_sw x) (farvo_sw y)).mono fun e w' ⟨he, hl⟩ => ⟨he, lay_of hl⟩
theorem entVio : ∀ args w, (callFunc 108 args).run Tryz.prog w = .ok (.enter 108 args) w := Go.Proofs.enters_of Tryz.func108 (by kernel_rfl) rfl
def toO {w : World} {blk : Nat} (xs : List VoE) (h : ∀ x ∈ xs, RowOk w x.p ∧ (0 < x.n → ∀ b o, x.A = some ⟨b, o, none⟩ → b ≠ blk)) : Array (FarVo w blk) := (xs.attach.map fun p => ⟨p.1, h p.1 p.2⟩).toArray
theorem toO_list {w : World} {blk : Nat} (xs : List VoE) (h : ∀ x ∈ xs, RowOk w x.p ∧ (0 < x.n → ∀ b o, x.A = some ⟨b, o, none⟩ → b ≠ blk)) : (toO xs h).toList.map (·.1) = xs := by
  simp only [toO, List.map_map, Function.comp_def]
  first | exact List.attach_map_subtype_val xs | exact List.attach_map_val xs | simp
theorem toO_size {w : World} {blk : Nat} (xs : List VoE) (h : ∀ x ∈ xs, RowOk w x.p ∧ (0 < x.n → ∀ b o, x.A = some ⟨b, o, none⟩ → b ≠ blk)) : (toO xs h).size = xs.length := by simp [toO]
theorem sortO_any (blk off cap n : Nat) (xs : List VoE) (w : World) (hn0 : 0 < n) (hsl : Sl 4 VoE.cs w (some ⟨blk, off, none⟩) n xs) (hfz : ∀ j, w.frozen? ⟨blk, j, none⟩ = false) (hxs : ∀ x ∈ xs, RowOk w x.p ∧ (0 < x.n → ∀ b o, x.A = some ⟨b, o, none⟩ → b ≠ blk)) (ha : ascO (xs.map (·.v))) (hblk : blk < w.heap.size) (hn : n ≤ 1000000) :
    Calls Tryz.prog 107 #[.slice (some ⟨blk, off, none⟩) n cap, .func (.func 108) #[] #[]] w fun e w' => e = .returned (.tuple #[]) ∧ Sl 4 VoE.cs w' (some ⟨blk, off, none⟩) n xs ∧ But (· = blk) w w' := by
  have hlen := hsl.len
  have hsz : (toO xs hxs).size = n := by rw [toO_size, hlen]
  have hcell : ∀ k x, xs[k]? = some x → ∀ (j : Nat) (u : Value), (VoE.cs x)[j]? = some u → w.cell? ⟨blk, off + k * 4 + j, none⟩ = some u := by
    obtain ⟨b, o, e, hc⟩ := hsl.2 hn0
    injection e with e
    injection e with e1 e2
    subst e1 e2
    exact hc
  have hat : ∀ k (hk : k < (toO xs hxs).size), xs[k]? = some ((toO xs hxs)[k]).1 := by
    intro k hk
    have := congrArg (fun l => l[k]?) (toO_list xs hxs)
    simp only [List.getElem?_map, Array.getElem?_toList] at this
    rw [← this, Array.getElem?_eq_getElem hk]
    rfl
  have hH : HoldsK encO 4 w blk off (toO xs hxs) := by
    intro t ht
    have ht' : t < (toO xs hxs).size * 4 := by simpa [flatK] using ht
    have hq : t / 4 < (toO xs hxs).size := (Nat.div_lt_iff_lt_mul (by omega)).2 ht'
    have hr : t % 4 < 4 := Nat.mod_lt _ (by omega)
    refine ⟨?_, hfz _⟩
    have h1 := hcell (t / 4) _ (hat (t / 4) hq) (t % 4) _ (List.getElem?_eq_getElem (by rw [VoE.cs_len]; exact hr))
    rw [show off + t / 4 * 4 + t % 4 = off + t by omega] at h1
    rw [h1]
    rw [getElem!_pos (flatK encO 4 (toO xs hxs)) t ht]
    simp only [flatK, Array.getElem_map, Array.getElem_range, id_eq]
    rw [getElem!_pos (toO xs hxs) (t / 4) hq, getElem!_pos _ (t % 4) (by rw [encO_len]; exact hr)]
    rfl
  have hcon := AnyQ.slices_SortFunc Tryz.sortO 4 Tryz.isAgg55 Tryz.sizeOf55 (encO (w := w) (blk := blk)) encO_len (fun x => one_vo x.1) cfO swoO 108 #[] blk off cap (toO xs hxs) w entVio (cmpLaysO blk off _) hH hblk (by omega)
  rw [hsz] at hcon
  change Calls Tryz.prog 107 _ _ _ at hcon
  refine hcon.mono fun e w' ⟨he, d', m, os, hp, hs, hw⟩ => ⟨he, ?_, by rw [hw]; exact swo_but⟩
  have hds : d'.size = n := by rw [hp.1, hsz]
  have hHs : HoldsK encO 4 w' blk off d' := by
    rw [hw]
    exact SWK.holds ⟨m, os, rfl⟩ hblk hH (by rw [hds, hsz])
  have hperm : (d'.toList.map (·.1)).Perm xs := by
    have h1 := hp.2.2
    rw [Array.extract_eq_self_of_le (by omega), Array.extract_eq_self_of_le (by omega)] at h1
    have h2 := h1.map (fun x : FarVo w blk => x.1)
    rw [toO_list] at h2
    exact h2
  have hup : (d'.toList.map (·.1)).Pairwise (fun a b : VoE => cmpO a.v b.v ≤ 0) := by
    refine List.pairwise_map.2 (List.pairwise_iff_getElem.2 fun i j hi hj hij => ?_)
    have hi' : i < d'.size := by simpa using hi
    have hj' : j < d'.size := by simpa using hj
    have h1 := hs i j (Nat.zero_le _) hij (by omega)
    rw [getElem!_pos d' i hi', getElem!_pos d' j hj'] at h1
    have h2 : ¬ cmpO (d'[j]).1.v (d'[i]).1.v < 0 := of_decide_eq_false h1
    have e1 := ordO.anti (d'[i]).1.v (d'[j]).1.v
    have hg : cmpO (d'[i]).1.v (d'[j]).1.v ≤ 0 := by omega
    simpa using hg
  have ha2 : xs.Pairwise (fun a b : VoE => cmpO a.v b.v < 0) := List.pairwise_map.1 ha
  have heq : d'.toList.map (·.1) = xs := by
    refine List.Perm.eq_of_pairwise (le := fun a b : VoE => cmpO a.v b.v ≤ 0) (fun a b hma hmb h1 h2 => ?_) hup (ha2.imp fun h => by omega) hperm
    have hma := hperm.mem_iff.1 hma
    have e1 := ordO.anti a.v b.v
    have h0 : cmpO a.v b.v = 0 := by omega
    obtain ⟨i, hi, rfl⟩ := List.mem_iff_getElem.1 hma
    obtain ⟨j, hj, rfl⟩ := List.mem_iff_getElem.1 hmb
    rcases Nat.lt_trichotomy i j with h | h | h
    · have := List.pairwise_iff_getElem.1 ha2 i j hi hj h; omega
    · subst h; rfl
    · have := List.pairwise_iff_getElem.1 ha2 j i hj hi h; omega
  refine ⟨hlen, fun _ => ⟨blk, off, rfl, fun k x hx j u hu => ?_⟩⟩
  rw [← heq, List.getElem?_map, Option.map_eq_some_iff] at hx
  obtain ⟨y, hy, rfl⟩ := hx
  have hk : k < d'.size := by have := (List.getElem?_eq_some_iff.1 hy).1; simpa using this
  have hy' : d'[k]! = y := by
    rw [getElem!_pos d' k hk]
    have := (List.getElem?_eq_some_iff.1 hy).2
    simpa using this
  have h1 := HoldsK.cells hHs encO_len hk j u (by rw [hy']; exact hu)
  rw [add_at] at h1
  exact h1
theorem sortO_none (p : Option Addr) (cap : Nat) (w : World) : Calls Tryz.prog 107 #[.slice p 0 cap, .func (.func 108) #[] #[]] w fun e w' => e = .returned (.tuple #[]) ∧ w' = w := AnyF.slices_SortFunc_none Tryz.sortO p cap (.func (.func 108) #[] #[]) w
end Go.Proofs.YtnnmlhmffnfjfaaGreat

/-
  What an operand denotes: the program's and the reference's.
-/
namespace Go.Proofs.YtnnmlhmffnfjfaaGreat
open Go.RowKit
set_option maxRecDepth 100000

theorem dnV_val2 {row ps : List Vl} {o : Od} (h : o.k = 3) : dnV row ps o = o.v := by unfold dnV; rw [if_pos h]
theorem dnV_row {row ps : List Vl} {o : Od} (h : o.k = 1) : dnV row ps o = if 0 ≤ o.ix ∧ o.ix < (row.length : Int) then row.getD o.ix.toNat zeroV else zeroV := by unfold dnV; rw [if_neg (by omega), if_pos h]
theorem dnV_par {row ps : List Vl} {o : Od} (h : o.k = 2) : dnV row ps o = if 0 ≤ o.ix ∧ o.ix < (ps.length : Int) then ps.getD o.ix.toNat zeroV else zeroV := by unfold dnV; rw [if_neg (by omega), if_neg (by omega), if_pos h]
theorem dnV_none {row ps : List Vl} {o : Od} (h1 : o.k ≠ 1) (h2 : o.k ≠ 2) (h3 : o.k ≠ 3) : dnV row ps o = zeroV := by unfold dnV; rw [if_neg h3, if_neg h1, if_neg h2]
set_option maxHeartbeats 4000000 in
theorem denoted_any (row ps : List Vl) (o : Od) (Ac : Option Addr) (nc cc : Nat) (Ap : Option Addr) (np cp : Nat) (w : World) (hc : VlS w Ac nc row) (hp : VlS w Ap np ps) :
    Calls Tryz.prog 90 #[.agg #[.int .i64 o.k, .int .i64 o.ix, .int .i64 o.v.k, .int .i64 o.v.i, .string o.v.t], .slice Ac nc cc, .slice Ap np cp] w fun e w' => e = .returned (.agg #[.int .i64 (dnV row ps o).k, .int .i64 (dnV row ps o).i, .string (dnV row ps o).t]) ∧ Below w.heap.size w w' := by
  obtain ⟨k, ix, ⟨vk, vi, vt⟩⟩ := o
  obtain ⟨rr, Hrr⟩ : ∃ z, Hid (dnV row ps ⟨k, ix, ⟨vk, vi, vt⟩⟩ = z) := ⟨_, rfl⟩
  rw [Hrr.out]
  have Hlc := Lib.hid hc.len
  have Hlp := Lib.hid hp.len
  have HC := Lib.hid ((hc.keep (keeps_alloc w (.cells #[.int .i64 k, .int .i64 ix, .int .i64 vk, .int .i64 vi, .string vt] 61))).keep (keeps_alloc _ (.cells #[.int .i64 0, .int .i64 0, .string ⟨#[]⟩] 59)))
  have HP := Lib.hid ((hp.keep (keeps_alloc w (.cells #[.int .i64 k, .int .i64 ix, .int .i64 vk, .int .i64 vi, .string vt] 61))).keep (keeps_alloc _ (.cells #[.int .i64 0, .int .i64 0, .string ⟨#[]⟩] 59)))
  have HX := Lib.hid ((Blk.new w 61 #[.int .i64 k, .int .i64 ix, .int .i64 vk, .int .i64 vi, .string vt]).alloc (.cells #[.int .i64 0, .int .i64 0, .string ⟨#[]⟩] 59))
  have HR := Lib.hid (Blk.new (w.alloc (.cells #[.int .i64 k, .int .i64 ix, .int .i64 vk, .int .i64 vi, .string vt] 61)) 59 #[.int .i64 0, .int .i64 0, .string ⟨#[]⟩])
  rw [show (w.alloc (.cells #[.int .i64 k, .int .i64 ix, .int .i64 vk, .int .i64 vi, .string vt] 61)).heap.size = w.heap.size + 1 by simp] at HR
  have HB0 := (Below.refl w.heap.size w).alloc (Nat.le_refl _) (.cells #[.int .i64 k, .int .i64 ix, .int .i64 vk, .int .i64 vi, .string vt] 61)
  have HB := Lib.hid (HB0.alloc HB0.size (.cells #[.int .i64 0, .int .i64 0, .string ⟨#[]⟩] 59))
  clear HB0 hc hp
  go_enter Tryz.func90, Tryz.ntmps90
  go_upto_region 1 with fail
  generalize hW : (w.alloc (.cells #[.int .i64 k, .int .i64 ix, .int .i64 vk, .int .i64 vi, .string vt] 61)).alloc (.cells #[.int .i64 0, .int .i64 0, .string ⟨#[]⟩] 59) = w1 at *
  clear hW
  have zx := HX.out.cell
  have zr := HR.out.cell
  have zf := HR.out.free
  by_cases h3 : k = 3
  · obtain rfl : ⟨vk, vi, vt⟩ = rr := by rw [← Hrr.out, dnV_val2 h3]
    subst h3
    clear Hrr
    go_wp2
    refine bodyPost_ret (v := .agg #[.int .i64 vk, .int .i64 vi, .string vt]) (by simp [results, Tryz.results90, go_sem, zr]) rfl ⟨rfl, ?_⟩
    repeat (first | exact HB.out | refine Below.setCell ?_ (by simp) _)
  by_cases h1 : k = 1
  · have Hs : Hid ((if 0 ≤ ix ∧ ix < (row.length : Int) then row.getD ix.toNat zeroV else zeroV) = rr) := Lib.hid (by rw [← Hrr.out, dnV_row h1])
    by_cases h0 : ix < 0
    · obtain rfl : zeroV = rr := by rw [← Hs.out, if_neg (fun h => by omega)]
      have g1 : decide (ix < 0) = true := decide_eq_true h0
      have g2 : decide (0 ≤ ix) = false := decide_eq_false (by omega)
      clear Hs h0 Hrr h3
      subst h1
      go_wp2
      refine bodyPost_ret (v := .agg #[.int .i64 0, .int .i64 0, .string ⟨#[]⟩]) (by simp [results, Tryz.results90, go_sem, zr]) rfl ⟨rfl, ?_⟩
      repeat (first | exact HB.out | refine Below.setCell ?_ (by simp) _)
    · have g1 : decide (ix < 0) = false := decide_eq_false h0
      by_cases hn : ix < (nc : Int)
      · obtain ⟨j, rfl⟩ := Int.eq_ofNat_of_zero_le (Int.not_lt.1 h0)
        obtain ⟨b, o, ⟨xk, xi, xt⟩, rfl, hx, hxc⟩ := HC.out.at (show j < nc by omega)
        have c0 : w1.cell? ⟨b, o + j * 3, none⟩ = some (.int .i64 xk) := hxc 0 (.int .i64 xk) rfl
        have c1 : w1.cell? ⟨b, o + j * 3 + 1, none⟩ = some (.int .i64 xi) := hxc 1 (.int .i64 xi) rfl
        have c2 : w1.cell? ⟨b, o + j * 3 + 2, none⟩ = some (.string xt) := hxc 2 (.string xt) rfl
        obtain rfl : ⟨xk, xi, xt⟩ = rr := by rw [← Hs.out, if_pos ⟨by omega, by rw [Hlc.out]; omega⟩, Int.toNat_natCast, List.getD_eq_getElem?_getD, hx]; rfl
        have hjn : j < nc := by omega
        have g3 : decide (nc ≤ j) = false := by simp; omega
        clear hx hxc Hs h0 hn Hrr h3 g1
        subst h1
        go_wp2
        refine bodyPost_ret (v := .agg #[.int .i64 xk, .int .i64 xi, .string xt]) (by simp [results, Tryz.results90, go_sem, zr]) rfl ⟨rfl, ?_⟩
        repeat (first | exact HB.out | refine Below.setCell ?_ (by simp) _)
      · have g2 : decide ((nc : Int) ≤ ix) = true := decide_eq_true (by omega)
        have g3 : decide (0 ≤ ix) = true := decide_eq_true (by omega)
        have g4 : decide (ix < (nc : Int)) = false := decide_eq_false hn
        obtain rfl : zeroV = rr := by rw [← Hs.out, if_neg (fun h => by have := Hlc.out; omega)]
        clear Hs h0 hn Hrr h3
        subst h1
        go_wp2
        refine bodyPost_ret (v := .agg #[.int .i64 0, .int .i64 0, .string ⟨#[]⟩]) (by simp [results, Tryz.results90, go_sem, zr]) rfl ⟨rfl, ?_⟩
        repeat (first | exact HB.out | refine Below.setCell ?_ (by simp) _)
  by_cases h2 : k = 2
  · have Hs : Hid ((if 0 ≤ ix ∧ ix < (ps.length : Int) then ps.getD ix.toNat zeroV else zeroV) = rr) := Lib.hid (by rw [← Hrr.out, dnV_par h2])
    by_cases h0 : ix < 0
    · obtain rfl : zeroV = rr := by rw [← Hs.out, if_neg (fun h => by omega)]
      have g1 : decide (ix < 0) = true := decide_eq_true h0
      have g2 : decide (0 ≤ ix) = false := decide_eq_false (by omega)
      clear Hs h0 Hrr h3 h1
      subst h2
      go_wp2
      refine bodyPost_ret (v := .agg #[.int .i64 0, .int .i64 0, .string ⟨#[]⟩]) (by simp [results, Tryz.results90, go_sem, zr]) rfl ⟨rfl, ?_⟩
      repeat (first | exact HB.out | refine Below.setCell ?_ (by simp) _)
    · have g1 : decide (ix < 0) = false := decide_eq_false h0
      by_cases hn : ix < (np : Int)
      · obtain ⟨j, rfl⟩ := Int.eq_ofNat_of_zero_le (Int.not_lt.1 h0)
        obtain ⟨b, o, ⟨xk, xi, xt⟩, rfl, hx, hxc⟩ := HP.out.at (show j < np by omega)
        have c0 : w1.cell? ⟨b, o + j * 3, none⟩ = some (.int .i64 xk) := hxc 0 (.int .i64 xk) rfl
        have c1 : w1.cell? ⟨b, o + j * 3 + 1, none⟩ = some (.int .i64 xi) := hxc 1 (.int .i64 xi) rfl
        have c2 : w1.cell? ⟨b, o + j * 3 + 2, none⟩ = some (.string xt) := hxc 2 (.string xt) rfl
        obtain rfl : ⟨xk, xi, xt⟩ = rr := by rw [← Hs.out, if_pos ⟨by omega, by rw [Hlp.out]; omega⟩, Int.toNat_natCast, List.getD_eq_getElem?_getD, hx]; rfl
        have hjn : j < np := by omega
        have g3 : decide (np ≤ j) = false := by simp; omega
        clear hx hxc Hs h0 hn Hrr h3 h1 g1
        subst h2
        go_wp2
        refine bodyPost_ret (v := .agg #[.int .i64 xk, .int .i64 xi, .string xt]) (by simp [results, Tryz.results90, go_sem, zr]) rfl ⟨rfl, ?_⟩
        repeat (first | exact HB.out | refine Below.setCell ?_ (by simp) _)
      · have g2 : decide ((np : Int) ≤ ix) = true := decide_eq_true (by omega)
        have g3 : decide (0 ≤ ix) = true := decide_eq_true (by omega)
        have g4 : decide (ix < (np : Int)) = false := decide_eq_false hn
        obtain rfl : zeroV = rr := by rw [← Hs.out, if_neg (fun h => by have := Hlp.out; omega)]
        clear Hs h0 hn Hrr h3 h1
        subst h2
        go_wp2
        refine bodyPost_ret (v := .agg #[.int .i64 0, .int .i64 0, .string ⟨#[]⟩]) (by simp [results, Tryz.results90, go_sem, zr]) rfl ⟨rfl, ?_⟩
        repeat (first | exact HB.out | refine Below.setCell ?_ (by simp) _)
  obtain rfl : zeroV = rr := by rw [← Hrr.out, dnV_none h1 h2 h3]
  have g1 : (k == 1) = false := by simpa using h1
  have g2 : (k == 2) = false := by simpa using h2
  have g3 : (k == 3) = false := by simpa using h3
  clear h1 h2 h3 Hrr
  go_wp2
  refine bodyPost_ret (v := .agg #[.int .i64 0, .int .i64 0, .string ⟨#[]⟩]) (by simp [results, Tryz.results90, go_sem, zr]) rfl ⟨rfl, ?_⟩
  repeat (first | exact HB.out | refine Below.setCell ?_ (by simp) _)
end Go.Proofs.YtnnmlhmffnfjfaaGreat

/-
  The program's table of comparisons and the methods of order.
-/
namespace Go.Proofs.YtnnmlhmffnfjfaaGreat
open Go.RowKit
set_option maxRecDepth 100000

theorem ord_equal (o : Int) (w : World) : Calls Tryz.prog 148 #[.int .i64 o] w fun e w' => e = .returned (.bool (cmpB2 1 o)) ∧ w = w' := by
  have h : cmpB2 1 o = decide (o = 0) := rfl
  rw [h]
  by_cases h0 : o = 0
  · rw [decide_eq_true h0]
    have g1 : (o == 0) = true := by simpa using h0
    clear h0 h
    go_enter Tryz.func148, Tryz.ntmps148
    go_wp2
    go_ret
    exact ⟨rfl, rfl⟩
  · rw [decide_eq_false h0]
    have g1 : (o == 0) = false := by simpa using h0
    clear h0 h
    go_enter Tryz.func148, Tryz.ntmps148
    go_wp2
    go_ret
    exact ⟨rfl, rfl⟩
theorem ord_different (o : Int) (w : World) : Calls Tryz.prog 149 #[.int .i64 o] w fun e w' => e = .returned (.bool (cmpB2 2 o)) ∧ w = w' := by
  have h : cmpB2 2 o = decide (o ≠ 0) := rfl
  rw [h]
  by_cases h0 : o ≠ 0
  · rw [decide_eq_true h0]
    have g1 : (o != 0) = true := by simpa using h0
    clear h0 h
    go_enter Tryz.func149, Tryz.ntmps149
    go_wp2
    go_ret
    exact ⟨rfl, rfl⟩
  · rw [decide_eq_false h0]
    have g1 : (o != 0) = false := by simpa using h0
    clear h0 h
    go_enter Tryz.func149, Tryz.ntmps149
    go_wp2
    go_ret
    exact ⟨rfl, rfl⟩
theorem ord_less (o : Int) (w : World) : Calls Tryz.prog 150 #[.int .i64 o] w fun e w' => e = .returned (.bool (cmpB2 3 o)) ∧ w = w' := by
  have h : cmpB2 3 o = decide (o < 0) := rfl
  rw [h]
  by_cases h0 : o < 0
  · rw [decide_eq_true h0]
    have g1 : decide (o < 0) = true := by simpa using h0
    clear h0 h
    go_enter Tryz.func150, Tryz.ntmps150
    go_wp2
    go_ret
    exact ⟨rfl, rfl⟩
  · rw [decide_eq_false h0]
    have g1 : decide (o < 0) = false := by simpa using h0
    clear h0 h
    go_enter Tryz.func150, Tryz.ntmps150
    go_wp2
    go_ret
    exact ⟨rfl, rfl⟩
theorem ord_atMost (o : Int) (w : World) : Calls Tryz.prog 151 #[.int .i64 o] w fun e w' => e = .returned (.bool (cmpB2 4 o)) ∧ w = w' := by
  have h : cmpB2 4 o = decide (o ≤ 0) := rfl
  rw [h]
  by_cases h0 : o ≤ 0
  · rw [decide_eq_true h0]
    have g1 : decide (o ≤ 0) = true := by simpa using h0
    clear h0 h
    go_enter Tryz.func151, Tryz.ntmps151
    go_wp2
    go_ret
    exact ⟨rfl, rfl⟩
  · rw [decide_eq_false h0]
    have g1 : decide (o ≤ 0) = false := by simpa using h0
    clear h0 h
    go_enter Tryz.func151, Tryz.ntmps151
    go_wp2
    go_ret
    exact ⟨rfl, rfl⟩
theorem ord_greater (o : Int) (w : World) : Calls Tryz.prog 152 #[.int .i64 o] w fun e w' => e = .returned (.bool (cmpB2 5 o)) ∧ w = w' := by
  have h : cmpB2 5 o = decide (0 < o) := rfl
  rw [h]
  by_cases h0 : 0 < o
  · rw [decide_eq_true h0]
    have g1 : decide (0 < o) = true := by simpa using h0
    clear h0 h
    go_enter Tryz.func152, Tryz.ntmps152
    go_wp2
    go_ret
    exact ⟨rfl, rfl⟩
  · rw [decide_eq_false h0]
    have g1 : decide (0 < o) = false := by simpa using h0
    clear h0 h
    go_enter Tryz.func152, Tryz.ntmps152
    go_wp2
    go_ret
    exact ⟨rfl, rfl⟩
theorem ord_atLeast (o : Int) (w : World) : Calls Tryz.prog 153 #[.int .i64 o] w fun e w' => e = .returned (.bool (cmpB2 6 o)) ∧ w = w' := by
  have h : cmpB2 6 o = decide (0 ≤ o) := rfl
  rw [h]
  by_cases h0 : 0 ≤ o
  · rw [decide_eq_true h0]
    have g1 : decide (0 ≤ o) = true := by simpa using h0
    clear h0 h
    go_enter Tryz.func153, Tryz.ntmps153
    go_wp2
    go_ret
    exact ⟨rfl, rfl⟩
  · rw [decide_eq_false h0]
    have g1 : decide (0 ≤ o) = false := by simpa using h0
    clear h0 h
    go_enter Tryz.func153, Tryz.ntmps153
    go_wp2
    go_ret
    exact ⟨rfl, rfl⟩
/-- the function of a comparison -/
def ordF (cm : Int) : Value := if cm = 1 then .func (.func 148) #[] #[] else if cm = 2 then .func (.func 149) #[] #[] else if cm = 3 then .func (.func 150) #[] #[] else if cm = 4 then .func (.func 151) #[] #[] else if cm = 5 then .func (.func 152) #[] #[] else if cm = 6 then .func (.func 153) #[] #[] else Value.nilFunc
theorem comparison_any (cm : Int) (w : World) : Calls Tryz.prog 92 #[.int .i64 cm] w fun e w' => e = .returned (ordF cm) ∧ Below w.heap.size w w' := by
  have HB := Lib.hid ((Below.refl w.heap.size w).alloc (Nat.le_refl _) (.cells #[Value.nilFunc, (.func (.func 148) #[] #[]), (.func (.func 149) #[] #[]), (.func (.func 150) #[] #[]), (.func (.func 151) #[] #[]), (.func (.func 152) #[] #[]), (.func (.func 153) #[] #[])] 190))
  have HX := Lib.hid (Blk.new w 190 #[Value.nilFunc, (.func (.func 148) #[] #[]), (.func (.func 149) #[] #[]), (.func (.func 150) #[] #[]), (.func (.func 151) #[] #[]), (.func (.func 152) #[] #[]), (.func (.func 153) #[] #[])])
  by_cases h : 1 ≤ cm ∧ cm ≤ 6
  · have h : cm = 1 ∨ cm = 2 ∨ cm = 3 ∨ cm = 4 ∨ cm = 5 ∨ cm = 6 := by omega
    rcases h with rfl | rfl | rfl | rfl | rfl | rfl
    all_goals
      go_enter Tryz.func92, Tryz.ntmps92
      go_upto_region 2 with fail
      generalize hW : w.alloc (.cells #[Value.nilFunc, (.func (.func 148) #[] #[]), (.func (.func 149) #[] #[]), (.func (.func 150) #[] #[]), (.func (.func 151) #[] #[]), (.func (.func 152) #[] #[]), (.func (.func 153) #[] #[])] 190) = w1 at *
      clear hW
      have zx := HX.out.cell
      go_wp2
      go_ret
      exact ⟨rfl, HB.out⟩
  · have hf : ordF cm = Value.nilFunc := by
      unfold ordF
      repeat rw [if_neg (by omega)]
    rw [hf]
    clear hf
    by_cases h0 : cm = 0
    · subst h0
      clear h
      go_enter Tryz.func92, Tryz.ntmps92
      go_upto_region 2 with fail
      generalize hW : w.alloc (.cells #[Value.nilFunc, (.func (.func 148) #[] #[]), (.func (.func 149) #[] #[]), (.func (.func 150) #[] #[]), (.func (.func 151) #[] #[]), (.func (.func 152) #[] #[]), (.func (.func 153) #[] #[])] 190) = w1 at *
      clear hW
      have zx := HX.out.cell
      go_wp2
      go_ret
      exact ⟨rfl, HB.out⟩
    · by_cases h1 : cm < 0
      · have g1 : decide (cm < 0) = true := decide_eq_true h1
        clear h h0 h1
        go_enter Tryz.func92, Tryz.ntmps92
        go_upto_region 2 with fail
        generalize hW : w.alloc (.cells #[Value.nilFunc, (.func (.func 148) #[] #[]), (.func (.func 149) #[] #[]), (.func (.func 150) #[] #[]), (.func (.func 151) #[] #[]), (.func (.func 152) #[] #[]), (.func (.func 153) #[] #[])] 190) = w1 at *
        clear hW
        have zx := HX.out.cell
        go_wp2
        go_ret
        exact ⟨rfl, HB.out⟩
      · have g1 : decide (cm < 0) = false := decide_eq_false h1
        have g2 : decide (7 ≤ cm) = true := decide_eq_true (by omega)
        clear h h0 h1
        go_enter Tryz.func92, Tryz.ntmps92
        go_upto_region 2 with fail
        generalize hW : w.alloc (.cells #[Value.nilFunc, (.func (.func 148) #[] #[]), (.func (.func 149) #[] #[]), (.func (.func 150) #[] #[]), (.func (.func 151) #[] #[]), (.func (.func 152) #[] #[]), (.func (.func 153) #[] #[])] 190) = w1 at *
        clear hW
        have zx := HX.out.cell
        go_wp2
        go_ret
        exact ⟨rfl, HB.out⟩
end Go.Proofs.YtnnmlhmffnfjfaaGreat

/-
  A function against nil.
-/
namespace Go.Proofs.YtnnmlhmffnfjfaaGreat
open Go.RowKit
set_option maxRecDepth 100000

theorem run_neqF (f : Fn) (w : World) : (binOp .neq 145 (.func f #[] #[]) .nilFunc).run Tryz.prog w = .ok (.bool true) w := by
  first
  | rfl
  | (simp [go_sem]; done)
  | (simp only [binOp]; simp [go_sem]; done)
  | skip
theorem run_neqN (w : World) : (binOp .neq 145 .nilFunc .nilFunc).run Tryz.prog w = .ok (.bool false) w := by
  first
  | rfl
  | (simp [go_sem]; done)
  | (simp only [binOp]; simp [go_sem]; done)
  | skip
end Go.Proofs.YtnnmlhmffnfjfaaGreat

/-
  Plain: what is left of the arguments of a node behind the first k of them. No program here.
-/
namespace Go.Proofs.YtnnmlhmffnfjfaaGreat
open Go.RowKit
set_option maxRecDepth 100000
open Pd

namespace Pd
/-- a node of which the first k arguments are struck -/
def rest (p : Pd) (k : Nat) : Pd := mkP p.h (p.args.drop k)
theorem rest_zero (p : Pd) : p.rest 0 = p := by rw [rest, List.drop_zero, mk_args]
theorem rest_at {p q : Pd} {k : Nat} (h : p.args[k]? = some q) : p.rest k = .cons q (p.rest (k + 1)) := by
  have hk : k < p.args.length := (List.getElem?_eq_some_iff.1 h).1
  have he : p.args[k] = q := (List.getElem?_eq_some_iff.1 h).2
  rw [rest, rest, List.drop_eq_getElem_cons hk, he]
  rfl
theorem rest_end {p : Pd} {k : Nat} (h : p.len ≤ k) : p.rest k = .nil p.h := by
  rw [rest, List.drop_eq_nil_of_le (by rw [len_args]; exact h)]
  rfl
theorem len_lt : ∀ p : Pd, p.len < p.nodes
  | nil _ => Nat.lt_succ_self 0
  | cons a t => by have := len_lt t; have := nodes_pos a; simp only [len, nodes]; omega
theorem at_mem {p q : Pd} {k : Nat} (h : p.args[k]? = some q) : q ∈ p.args := List.mem_of_getElem? h
theorem at_nodes {p q : Pd} {k : Nat} (h : p.args[k]? = some q) : q.nodes < p.nodes := nodes_mem (at_mem h)
end Pd
section
variable {p q : Pd} {k : Nat}
theorem sm_rest (h : p.args[k]? = some q) (l : Nat) (b : Int) : smA l b (p.rest k) = match smB l b q with
    | none => none
    | some b' => smA l b' (p.rest (k + 1)) := by
  rw [Pd.rest_at h]
  rfl
theorem val_rest (h : p.args[k]? = some q) (cols ps : List Int) : validA cols ps (p.rest k) = (validB cols ps q && validA cols ps (p.rest (k + 1))) := by
  rw [Pd.rest_at h]
  rfl
theorem hold_rest (h : p.args[k]? = some q) (row ps : List Vl) : holdsA row ps (p.rest k) = (holdsB row ps q && (holdsA row ps (p.rest (k + 1))).1, holdsB row ps q || (holdsA row ps (p.rest (k + 1))).2.1, !holdsB row ps q) := by
  rw [Pd.rest_at h]
  rfl
theorem nodes_rest (h : p.args[k]? = some q) : (p.rest k).nodes = q.nodes + (p.rest (k + 1)).nodes := by
  rw [Pd.rest_at h]
  rfl
theorem depth_rest (h : p.args[k]? = some q) : (p.rest k).depth = max (q.depth + 1) (p.rest (k + 1)).depth := by
  rw [Pd.rest_at h]
  rfl
end
end Go.Proofs.YtnnmlhmffnfjfaaGreat

/-
  A list of operations parted in two: the first part ends in a frame and a world of which a relation holds; the second part goes on from every such frame and world. No program here.
-/
namespace Go.Proofs.YtnnmlhmffnfjfaaGreat
open Go.RowKit
set_option maxRecDepth 100000

/-- the frame a with the values us in the slots D -/
def overU (a : Act) (D : List Nat) (us : Nat → Value) : Act := D.foldl (fun b d => b.put (some d) (us d)) a
/-- the end of a part of a list -/
def EndAt (a0 : Act) (D : List Nat) (rel : (Nat → Value) → World → Prop) : Exit → Act → World → Prop :=
  fun e a w => e = .normal ∧ rel (fun d => a.tmps.getD d undef) w ∧ a = overU a0 D (fun d => a.tmps.getD d undef)
theorem EndAt.intro {a0 a : Act} {D : List Nat} {rel : (Nat → Value) → World → Prop} {w : World} (h1 : rel (fun d => a.tmps.getD d undef) w) (h2 : a = overU a0 D (fun d => a.tmps.getD d undef)) : EndAt a0 D rel .normal a w := ⟨rfl, h1, h2⟩
end Go.Proofs.YtnnmlhmffnfjfaaGreat
