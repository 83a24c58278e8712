/-
  Texts: IgSpS.
-/
import Derived.Test.YtponkkljlbifmaaGreatH37
set_option linter.unusedVariables false
/-
  Case.SpoilState: whatever it makes of a state, the state reads.
-/
namespace Go.Proofs.YtponkkljlbifmaaGreat
open Go.RowKit
set_option maxRecDepth 100000
open Pd

/-- a state that reads; n, c0: how much it holds at most -/
def SpO (n c0 : Nat) (w : World) (g : Nat) (e : Ending) (w' : World) : Prop := ∃ (B : Option Addr) (m cb : Nat) (ls : List TlP), e = .returned (.agg #[.slice B m cb]) ∧ StS w' B m ls ∧ m ≤ n + 1 ∧ cntS (stR ls) ≤ c0 + 1 ∧ CaseAt w' g ∧ But (· = g) w w'
/-- what SpoilState holds -/
structure SpI (w : World) (g H : Nat) (B : Option Addr) (n cb : Nat) (wr : World) (ls : List TlP) (hl : Nat → Prop) (hr : Nat → Nat → Prop) : Prop where
  cz : CzH H wr B n cb ls hl hr
  x : Blk wr w.heap.size 25 #[.slice B n cb]
  r : Blk wr (w.heap.size + 1) 25 #[.slice none 0 0]
  ca : CaseAt wr g
  bu : But (· = g) w wr
  gl : g < w.heap.size
  hH : w.heap.size + 1 < H
section
variable {w wr w' : World} {g H : Nat} {B : Option Addr} {n cb : Nat} {ls : List TlP} {hl : Nat → Prop} {hr : Nat → Nat → Prop}
theorem SpI.case (h : SpI w g H B n cb wr ls hl hr) (hc : CaseAt w' g) (hb : But (· = g) wr w') : SpI w g H B n cb w' ls hl hr := by
  have h1 := h.gl
  have h2 := h.hH
  exact ⟨h.cz.off hb (fun k hk => by subst hk; omega), h.x.but hb (by omega), h.r.but hb (by omega), hc, h.bu.trans hb, h1, h2⟩
theorem SpI.below (h : SpI w g H B n cb wr ls hl hr) (hb : Below wr.heap.size wr w') : SpI w g H B n cb w' ls hl hr := h.case (h.ca.below hb) (But.ofB hb)
/-- what lies from H on changes -/
theorem SpI.up (h : SpI w g H B n cb wr ls hl hr) (hb : Below H wr w') {ls' : List TlP} {hl' : Nat → Prop} {hr' : Nat → Nat → Prop} (hc : CzH H w' B n cb ls' hl' hr') : SpI w g H B n cb w' ls' hl' hr' := by
  have h1 := h.gl
  have h2 := h.hH
  exact ⟨hc, (hb.block _ (by omega)).trans h.x, (hb.block _ (by omega)).trans h.r, h.ca.belowB hb (by omega), h.bu.belowB hb (by omega), h1, h2⟩
/-- the state's box is stored anew -/
theorem SpI.box (h : SpI w g H B n cb wr ls hl hr) {B' : Option Addr} {n' cb' : Nat} {ls' : List TlP} {hl' : Nat → Prop} {hr' : Nat → Nat → Prop} (hc : CzH H wr B' n' cb' ls' hl' hr') : SpI w g H B' n' cb' (wr.setCell ⟨w.heap.size, 0, none⟩ (.slice B' n' cb')) ls' hl' hr' := by
  have h1 := h.gl
  have h2 := h.hH
  have hb : But (· = w.heap.size) wr (wr.setCell ⟨w.heap.size, 0, none⟩ (.slice B' n' cb')) := But.set (S := (· = w.heap.size)) wr (p := ⟨w.heap.size, 0, none⟩) rfl _
  refine ⟨hc.off hb (fun k hk => by subst hk; omega), ?_, h.r.but hb (by omega), h.ca.far hb (fun k hk => by omega), ⟨hb.os.trans h.bu.os, hb.tape.trans h.bu.tape, hb.output.trans h.bu.output, Nat.le_trans h.bu.size hb.size, fun k hk hs => (hb.block k (Nat.lt_of_lt_of_le hk h.bu.size) (by omega)).trans (h.bu.block k hk hs)⟩, h1, h2⟩
  have := h.x.set_ 0 (.slice B' n' cb')
  simpa using this
theorem SpI.upbox (h : SpI w g H B n cb wr ls hl hr) (hb : Below H wr w') {B' : Option Addr} {n' cb' : Nat} {ls' : List TlP} {hl' : Nat → Prop} {hr' : Nat → Nat → Prop} (hc : CzH H w' B' n' cb' ls' hl' hr') : SpI w g H B' n' cb' (w'.setCell ⟨w.heap.size, 0, none⟩ (.slice B' n' cb')) ls' hl' hr' ∧ Blk w' w.heap.size 25 #[.slice B n cb] := by
  have h1 := h.gl
  have h2 := h.hH
  have hx : Blk w' w.heap.size 25 #[.slice B n cb] := (hb.block _ (by omega)).trans h.x
  have hst : But (· = w.heap.size) w' (w'.setCell ⟨w.heap.size, 0, none⟩ (.slice B' n' cb')) := But.set (S := (· = w.heap.size)) w' (p := ⟨w.heap.size, 0, none⟩) rfl _
  have hbu := h.bu.belowB hb (by omega)
  refine ⟨⟨hc.off hst (fun k hk => by subst hk; omega), ?_, Blk.but ((hb.block _ (by omega)).trans h.r) hst (by omega), (h.ca.belowB hb (by omega)).far hst (fun k hk => by omega), ⟨hst.os.trans hbu.os, hst.tape.trans hbu.tape, hst.output.trans hbu.output, Nat.le_trans hbu.size hst.size, fun k hk hs => (hst.block k (Nat.lt_of_lt_of_le hk hbu.size) (by omega)).trans (hbu.block k hk hs)⟩, h1, h2⟩, hx⟩
  have := hx.set_ 0 (.slice B' n' cb')
  simpa using this
theorem SpI.fin {m0 c0 : Nat} (h : SpI w g H B n cb wr ls nol nor) (hn : n ≤ m0 + 1) (hc : cntS (stR ls) ≤ c0 + 1) : Blk (wr.setCell ⟨w.heap.size + 1, 0, none⟩ (.slice B n cb)) (w.heap.size + 1) 25 #[.slice B n cb] ∧ SpO m0 c0 w g (.returned (.agg #[.slice B n cb])) (wr.setCell ⟨w.heap.size + 1, 0, none⟩ (.slice B n cb)) := by
  have h1 := h.gl
  have h2 := h.hH
  have hb : But (· = w.heap.size + 1) wr (wr.setCell ⟨w.heap.size + 1, 0, none⟩ (.slice B n cb)) := But.set (S := (· = w.heap.size + 1)) wr (p := ⟨w.heap.size + 1, 0, none⟩) rfl _
  refine ⟨?_, B, n, cb, ls, rfl, (h.cz.off hb (fun k hk => by subst hk; omega)).st, hn, hc, h.ca.far hb (fun k hk => by omega), ⟨hb.os.trans h.bu.os, hb.tape.trans h.bu.tape, hb.output.trans h.bu.output, Nat.le_trans h.bu.size hb.size, fun k hk hs => (hb.block k (Nat.lt_of_lt_of_le hk h.bu.size) (by omega)).trans (h.bu.block k hk hs)⟩⟩
  have := h.r.set_ 0 (.slice B n cb)
  simpa using this
theorem own_at0 {base : Nat} {e : TypeId} {n c : Nat} {A : Option Addr} {xs : List Value} (h : w.ownsRow base e 1 (.slice A n c) n xs) {k : Nat} (hk : k < n) : ∃ (b : Nat) (u : Value), A = some ⟨b, 0, none⟩ ∧ xs[k]? = some u ∧ w.cell? ⟨b, k, none⟩ = some u ∧ base ≤ b := by
  obtain ⟨u, hu⟩ : ∃ u, xs[k]? = some u := ⟨_, List.getElem?_eq_getElem (by rw [h.1]; omega)⟩
  rcases h.2 with ⟨_, h0⟩ | ⟨b, cap, cur, hv, hg, hh, _, _, _, htk⟩
  · omega
  · injection hv with hA
    refine ⟨b, u, hA, hu, ?_, hg⟩
    rw [Blk.cell (T := e) (cs := cur) hh k, ← Array.getElem?_toList]
    rw [← htk, List.getElem?_take] at hu
    split at hu
    · exact hu
    · cases hu
theorem CzH.atL (h : CzH H w B n cb ls hl hr) {i : Nat} (hi : i < n) : ∃ (b : Nat) (p : TlP), B = some ⟨b, 0, none⟩ ∧ ls[i]? = some p ∧ w.cell? ⟨b, i, none⟩ = some (.slice p.1.1 p.1.2.1 p.1.2.2) ∧ H ≤ b := by
  obtain ⟨b, u, hB, hu, hc, hH⟩ := own_at0 h.own hi
  rw [List.getElem?_map, Option.map_eq_some_iff] at hu
  obtain ⟨p, hp, rfl⟩ := hu
  exact ⟨b, p, hB, hp, hc, hH⟩
theorem flat_hdr : ∀ l : List RowP, l.flatMap rowc = l.map hdr
  | [] => rfl
  | x :: l => by rw [List.flatMap_cons, flat_hdr l]; rfl
theorem CzH.atQ (h : CzH H w B n cb ls nol nor) {i k : Nat} {p : TlP} (hp : ls[i]? = some p) (hk : k < p.1.2.1) : ∃ (b : Nat) (q : RowP), p.1.1 = some ⟨b, 0, none⟩ ∧ p.2[k]? = some q ∧ w.cell? ⟨b, k, none⟩ = some (.slice q.1.1 q.1.2.1 q.1.2.2) ∧ OwnRow w H q ∧ H ≤ b := by
  have ho := h.lst i p hp (fun h => h)
  rw [flat_hdr] at ho
  obtain ⟨b, u, hB, hu, hc, hH⟩ := own_at0 ho hk
  rw [List.getElem?_map, Option.map_eq_some_iff] at hu
  obtain ⟨q, hq, rfl⟩ := hu
  exact ⟨b, q, hB, hq, hc, h.row i p k q hp hq (fun h => h), hH⟩
theorem own_free {base : Nat} {e : TypeId} {size n c b : Nat} {xs : List Value} (h : w.ownsRow base e size (.slice (some ⟨b, 0, none⟩) n c) n xs) : ∀ j, w.frozen? ⟨b, j, none⟩ = false := by
  obtain ⟨_, _, cs, hh⟩ := own_lt h (k := b) rfl
  exact Blk.free (T := e) (cs := cs) hh
theorem own_list1 {q : RowP} (hH : H ≤ w.heap.size) : (w.alloc (.cells #[.slice q.1.1 q.1.2.1 q.1.2.2] 75)).ownsRow H 75 1 (.slice (some ⟨w.heap.size, 0, none⟩) 1 1) 1 ([q].flatMap rowc) :=
  ⟨rfl, .inr ⟨w.heap.size, 1, _, rfl, hH, Blk.new w 75 #[.slice q.1.1 q.1.2.1 q.1.2.2], Nat.le_refl _, by decide, rfl, rfl⟩⟩
theorem cnt_set1 {ls : List TlP} {i : Nat} {p p' : TlP} (hp : ls[i]? = some p) (h : p'.2.length ≤ p.2.length + 1) : cntS (stR (ls.set i p')) ≤ cntS (stR ls) + 1 := by
  have h1 := cntS_set (stR ls) i (tlR p) (tlR p') (by unfold stR; rw [List.getElem?_map, hp]; rfl)
  have h2 : stR (ls.set i p') = (stR ls).set i (tlR p') := by unfold stR; rw [List.map_set]
  rw [h2]
  unfold tlR at h1
  rw [List.length_map, List.length_map] at h1
  unfold tlR
  omega
theorem cnt_set0 {ls : List TlP} {i : Nat} {p p' : TlP} (hp : ls[i]? = some p) (h : p'.2.length = p.2.length) : cntS (stR (ls.set i p')) = cntS (stR ls) := by
  have h1 := cntS_set (stR ls) i (tlR p) (tlR p') (by unfold stR; rw [List.getElem?_map, hp]; rfl)
  have h2 : stR (ls.set i p') = (stR ls).set i (tlR p') := by unfold stR; rw [List.map_set]
  rw [h2]
  unfold tlR at h1
  rw [List.length_map, List.length_map] at h1
  unfold tlR
  omega
theorem but_cellS {S : Nat → Prop} {w w' : World} (hb : But S w w') {p : Addr} {v : Value} (h : w.cell? p = some v) (hp : ¬ S p.block) : w'.cell? p = some v := by
  have hlt := cell_lt (w := w) (a := p) (by rw [h]; rfl)
  rw [World.cell?_of_block (w := w) (hb.block p.block hlt hp)]
  exact h
theorem bel_set {H b i : Nat} (w : World) (hb : H ≤ b) (u : Value) : Below H w (w.setCell ⟨b, i, none⟩ u) := (Below.refl H w).setCell (p := ⟨b, i, none⟩) hb u
end
set_option maxRecDepth 100000 in
set_option maxHeartbeats 16000000 in
theorem cspoil_any (g : Nat) (B : Option Addr) (m cb : Nat) (ls0 : List TlP) (w : World) (hc : CaseAt w g) (hst : StS w B m ls0) (hm0 : 0 < m) (hm : m ≤ 8) (hct : cntS (stR ls0) ≤ 100) (h8 : ∀ l ∈ stR ls0, ∀ r ∈ l, 1 ≤ r.length ∧ r.length ≤ 8) :
    Calls Tryz.prog 9 #[.pointer (some ⟨g, 0, none⟩), .agg #[.slice B m cb]] w fun e w' => SpO m (cntS (stR ls0)) w g e w' := by
  obtain ⟨il, hil, hl0, hl1, hl2⟩ := info_parts (show (Tryz.prog.info? 79).map (fun i => (i.zero, i.size, i.bytes)) = some (some (.slice none 0 0), 1, 24) by kernel_rfl)
  obtain ⟨i0, hi0, hz0, hz1, hz2⟩ := info_parts info_row
  obtain ⟨iv, hiv, hv0, hv1, hv2⟩ := info_parts info_vl
  have hgl := hc.lt
  have HB : Hid (Below w.heap.size w ((w.alloc (.cells #[.slice B m cb] 25)).alloc (.cells #[.slice none 0 0] 25))) := Lib.hid (((Below.refl _ _).alloc (Nat.le_refl _) _).alloc (by simp) _)
  have HC := Lib.hid (hc.below HB.out)
  have HST := Lib.hid (hst.keep (keeps_of HB.out))
  have HX := Lib.hid ((Blk.new w 25 #[.slice B m cb]).alloc (.cells #[.slice none 0 0] 25))
  have HR := Lib.hid (Blk.new (w.alloc (.cells #[.slice B m cb] 25)) 25 #[.slice none 0 0])
  rw [World.size_alloc] at HR
  have H8 := Lib.hid h8
  have H8b : Hid (∀ l ∈ stR ls0, ∀ r ∈ l, r.length ≤ 1000) := Lib.hid (fun l hl r hr => by have := (h8 l hl r hr).2; omega)
  clear hc hst h8
  go_enter Tryz.func9, Tryz.ntmps9
  go_upto_region 1 with fail
  generalize hW : (w.alloc (.cells #[.slice B m cb] 25)).alloc (.cells #[.slice none 0 0] 25) = w1 at *
  clear hW
  have HLt : Hid (w.heap.size + 1 < w1.heap.size) := Lib.hid HR.out.lt
  have zx := HX.out.cell
  go_wp2_with fail
  refine (rcopy2_any B m cb ls0 _ HST.out (by omega) hm0 (by omega) H8b.out).mono ?_
  rintro e w2 ⟨b, dc, ls, rfl, hcz, hsl, hsr, hls, hb2⟩
  obtain ⟨H, HH⟩ : ∃ z, Hid (w1.heap.size = z) := ⟨_, Lib.hid rfl⟩
  have HX2 := Lib.hid (HX.out.below hb2)
  have HI : Hid (SpI w g H (some ⟨b, 0, none⟩) m dc (w2.setCell ⟨w.heap.size, 0, none⟩ (.slice (some ⟨b, 0, none⟩) m dc)) ls nol nor) := Lib.hid (by
    have hH := HH.out
    rw [hH] at hcz
    have h0 : w.heap.size + 1 < H := by have := HLt.out; omega
    have hb : But (· = w.heap.size) w2 (w2.setCell ⟨w.heap.size, 0, none⟩ (.slice (some ⟨b, 0, none⟩) m dc)) := But.set (S := (· = w.heap.size)) w2 (p := ⟨w.heap.size, 0, none⟩) rfl _
    have hbw := HB.out.trans (hb2.mono HB.out.size)
    refine ⟨hcz.off hb (fun k hk => by subst hk; omega), ?_, (HR.out.below hb2).but hb (by omega), (HC.out.below hb2).far hb (fun k hk => by omega), ⟨hb.os.trans hbw.os, hb.tape.trans hbw.tape, hb.output.trans hbw.output, Nat.le_trans hbw.size hb.size, fun k hk hs => (hb.block k (Nat.lt_of_lt_of_le hk hbw.size) (by omega)).trans (hbw.block k hk)⟩, hgl, h0⟩
    have := HX2.out.set_ 0 (.slice (some ⟨b, 0, none⟩) m dc)
    simpa using this)
  have HSL := Lib.hid hsl
  have HSR := Lib.hid hsr
  have HLS := Lib.hid hls
  rw [← hls] at hct
  have zx := HX2.out.cell
  have zf := HX2.out.free
  clear hcz hsl hsr hls hb2 HX HC HR HST HB HLt HH H8b
  go_upto_region 2 with fail
  clear zx zf HX2
  generalize w2.setCell ⟨w.heap.size, 0, none⟩ (.slice (some ⟨b, 0, none⟩) m dc) = w3 at *
  have zx := HI.out.x.cell
  have g0 : ((m : Int) == 0) = false := by simp; omega
  go_wp2_with fail
  refine (bool_any g 6 _ HI.out.ca (by omega) (by omega)).mono ?_
  rintro e w4 ⟨⟨b1, rfl⟩, hc4, hb4⟩
  replace HI := Lib.hid (HI.out.case hc4 hb4)
  clear hc4 hb4 zx
  cases b1
  rotate_left
  · have zx := HI.out.x.cell
    have HHs : Hid (H ≤ w4.heap.size) := Lib.hid (by have := own_lt HI.out.cz.own (k := b) rfl; omega)
    go_upto_region 4 with (at_builtin; refine wpList_append_one2 (by rfl) (.tmp 19) (.tmp 20) _ (by rfl) H 79 il _ 1 24 Tryz.underlying23 hil hl0 hl1 hl2 (by rfl) (by omega) (.slice (some ⟨b, 0, none⟩) m dc) m _ (by rfl) w4 #[.slice none 0 0] HI.out.cz.own w4.heap.size (by rfl) (by rfl) (by rfl) (one_hd ((none, 0, 0), [])) (by simp only [maxLen]; omega) (by omega) HHs.out ?_; intro g6 cap6 w5 hown6 hg6 hB6 hat6 hlt6; have HI5 := Lib.hid (HI.out.upbox hB6 (HI.out.cz.growB (p := ((none, 0, 0), [])) hown6 (grown_of_alloc hg6) rfl)); clear zx; have zx := HI5.out.2.cell; have zf := HI5.out.2.free; clear hown6 hg6 hB6 hat6 hlt6)
    have HI6 := Lib.hid HI5.out.1
    have Hcn : Hid (cntS (stR (ls ++ [((none, 0, 0), [])])) ≤ cntS (stR ls0) + 1) := Lib.hid (by rw [← HLS.out]; unfold stR cntS; rw [List.map_append, List.map_append, List.sum_append]; simp [tlR])
    clear zx zf HI5 HI
    generalize w5.setCell ⟨w.heap.size, 0, none⟩ (.slice (some ⟨g6, 0, none⟩) (m + 1) cap6) = w6 at *
    have zx := HI6.out.x.cell
    have zr := HI6.out.r.cell
    have zf := HI6.out.r.free
    have HF := Lib.hid (HI6.out.fin (c0 := cntS (stR ls0)) (m0 := m) (Nat.le_refl _) Hcn.out)
    clear HI6
    go_wp2
    have zc := HF.out.1.cell
    exact bodyPost_ret (v := .agg #[.slice (some ⟨g6, 0, none⟩) (m + 1) cap6]) (by simp [results, Tryz.results9, go_sem, zc]) rfl HF.out.2
  · obtain ⟨hHw, _⟩ := own_lt HI.out.cz.own (k := b) rfl
    have HHb : Hid (H ≤ b) := Lib.hid hHw
    clear hHw
    have zx := HI.out.x.cell
    go_wp2_with fail
    refine (int_any g (m : Int) _ HI.out.ca (by omega) (by omega)).mono ?_
    rintro e w5 ⟨⟨y, hy1, hy2, rfl⟩, hc5, hb5⟩
    obtain ⟨i, rfl⟩ := Int.eq_ofNat_of_zero_le hy1
    have him : i < m := by omega
    replace HI := Lib.hid (HI.out.case hc5 hb5)
    clear hy1 hy2 hc5 hb5 zx
    obtain ⟨b', p, hB, hp, hcell, _⟩ := HI.out.cz.atL him
    injection hB with hB
    injection hB with hB
    subst hB
    obtain ⟨⟨L, ln, lc⟩, qs⟩ := p
    dsimp only at hcell
    have Hp := Lib.hid hp
    have hqs : qs.length = ln := HI.out.cz.ln2 i _ hp
    have Hqs := Lib.hid hqs
    have hln5 : ln ≤ 100 := by
      have h1 := cntS_le2 (st := stR ls) (i := i) (l := tlR ((L, ln, lc), qs)) (by unfold stR; rw [List.getElem?_map, hp]; rfl)
      unfold tlR at h1
      rw [List.length_map] at h1
      simp only at h1
      omega
    have Hrow : Hid (∀ q ∈ qs, 1 ≤ q.2.length ∧ q.2.length ≤ 8) := Lib.hid (fun q hq => H8.out (tlR ((L, ln, lc), qs)) (by rw [← HLS.out]; unfold stR; exact List.mem_map_of_mem (List.mem_of_getElem? hp)) q.2 (by unfold tlR; exact List.mem_map_of_mem hq))
    clear hp hqs
    have zx := HI.out.x.cell
    by_cases hln : ln = 0
    · have g1 : ((ln : Int) == 0) = true := by simp [hln]
      go_upto_region 8 with fail
      clear hcell zx g1
      refine wp_region_planR [9] (onlyB g) anyW (onlyB_trans _) anyW_trans (.one [0, 1, 2, 3, 4] [] 5 (.one [] [] 6 (.one [] [] 7 (.one [8] [] 9 (.last [] []))))) (by kernel_rfl) (by kernel_rfl) (fun _ _ d _ _ h => by cases d <;> exact h) ?_
      have HI8 : Hid (SpI w g H (some ⟨b, 0, none⟩) m dc w5.drew ls nol nor) := Lib.hid (HI.out.below ((Below.refl _ _).drew))
      clear HI
      generalize hWd : w5.drew = wd at *
      clear hWd
      have qx : ∀ (y : LaterR (onlyB g) wd) j, (afterR (onlyB g) wd y).cell? ⟨w.heap.size, j, none⟩ = (#[.slice (some ⟨b, 0, none⟩) m dc] : Array Value)[j]? := fun y j => y.cell (HI8.out.x.cell j) (fun W h => (HI8.out.x.but h (by show ¬ w.heap.size = g; omega)).cell j)
      unfold wpPlanR
      simp only [pickOps, opAt, List.map_cons, List.map_nil, List.getElem?_toArray, List.getElem?_cons_zero, List.getElem?_cons_succ, Option.getD_some]
      repeat (go_big_quiet_step (fail))
      refine wpQuiet_nil ?_
      repeat (go_big_quiet_step (fail))
      refine wpQuiet_nil ?_
      clear qx
      go_wp2_with fail
      refine (int_any g 4 _ HI8.out.ca (by omega) (by omega)).mono ?_
      rintro e w6 ⟨⟨y, hy1, hy2, rfl⟩, hc6, hb6⟩
      obtain ⟨q, rfl⟩ := Int.eq_ofNat_of_zero_le hy1
      have HI9 := Lib.hid (HI8.out.case hc6 hb6)
      have hq4 : q ≤ 12 := by omega
      clear hy1 hy2 hc6 HI8
      go_wp2_with fail
      refine ⟨⟨fun _ => hb6, trivial⟩, ?_⟩
      unfold wpPlanR
      simp only [pickOps, opAt, List.map_nil, List.getElem?_toArray, List.getElem?_cons_zero, List.getElem?_cons_succ, Option.getD_some]
      refine wpQuiet_nil ?_
      refine wpQuiet_nil ?_
      clear hb6
      go_wp2_with fail
      refine (gcells_any g q hq4 _ HI9.out.ca).mono ?_
      rintro e w7 ⟨RA, rn, rc, l, rfl, hrl, hrm, hrv, hro, hrs, hc7, hb7⟩
      have hHs : H ≤ w6.heap.size := by have := own_lt HI9.out.cz.own (k := b) rfl; omega
      have HRo : Hid (OwnRow w7 H ((RA, rn, rc), l)) := Lib.hid ⟨own_weaken hro hHs, hrl.symm⟩
      have HI10 := Lib.hid (HI9.out.case hc7 hb7)
      have hHs7 : H ≤ w7.heap.size := Nat.le_trans hHs hb7.size
      clear hrl hrm hrv hro hrs hc7 HI9 hHs
      go_wp2_with fail
      refine ⟨⟨fun _ => hb7, trivial⟩, ?_⟩
      unfold wpPlanR
      simp only [pickOps, opAt, List.map_nil, List.getElem?_toArray, List.getElem?_cons_zero, List.getElem?_cons_succ, Option.getD_some]
      refine wpQuiet_nil ?_
      refine wpQuiet_nil ?_
      clear hb7
      have hal : Below w7.heap.size w7 (w7.alloc (.cells #[.slice RA rn rc] 75)) := (Below.refl _ _).alloc (Nat.le_refl _) _
      have HLo : Hid ((w7.alloc (.cells #[.slice RA rn rc] 75)).ownsRow H 75 1 (.slice (some ⟨w7.heap.size, 0, none⟩) 1 1) 1 ([((RA, rn, rc), l)].flatMap rowc)) := Lib.hid (own_list1 (q := ((RA, rn, rc), l)) hHs7)
      have HR2 := Lib.hid (HRo.out.below hal)
      have HI11 := Lib.hid (HI10.out.below hal)
      obtain ⟨X7, HX7⟩ : ∃ z, Hid (w7.heap.size = z) := ⟨_, Lib.hid rfl⟩
      go_wp2_with fail
      refine ⟨⟨fun _ => But.alloc _ _, trivial⟩, ?_⟩
      rw [HX7.out] at HLo ⊢
      clear HRo HI10 hal HX7
      generalize w7.alloc (.cells #[.slice RA rn rc] 75) = w8 at *
      obtain ⟨b', p', hB, hp', hcell, _⟩ := HI11.out.cz.atL him
      injection hB with hB
      injection hB with hB
      subst hB
      have zf := own_free HI11.out.cz.own
      unfold wpPlanR
      simp only [pickOps, opAt, List.map_cons, List.map_nil, List.getElem?_toArray, List.getElem?_cons_zero, List.getElem?_cons_succ, Option.getD_some]
      repeat (go_big_quiet_step (fail))
      refine wpQuiet_nil ?_
      refine wpQuiet_nil ?_
      go_wp2_with fail
      refine ⟨⟨fun h => (h (by decide)).elim, trivial⟩, ?_⟩
      have HI12 := Lib.hid (HI11.out.up (bel_set w8 (i := i) HHb.out (.slice (some ⟨X7, 0, none⟩) 1 1)) ((HI11.out.cz.hole (fun a => a = i) nor).putL (p := ((some ⟨X7, 0, none⟩, 1, 1), [((RA, rn, rc), l)])) HLo.out rfl (fun z hz => by rw [List.mem_singleton.1 hz]; exact HR2.out)))
      have Hcn : Hid (cntS (stR (ls.set i ((some ⟨X7, 0, none⟩, 1, 1), [((RA, rn, rc), l)]))) ≤ cntS (stR ls0) + 1) := Lib.hid (by rw [← HLS.out]; exact cnt_set1 Hp.out (by simp))
      unfold wpPlanR
      simp only [pickOps, List.map_nil]
      refine wpQuiet_nil ?_
      refine wpQuiet_nil ?_
      clear hcell zf hp' HI11 HLo HR2
      generalize w8.setCell ⟨b, i, none⟩ (.slice (some ⟨X7, 0, none⟩) 1 1) = w9 at *
      have zx := HI12.out.x.cell
      have zr := HI12.out.r.cell
      have zf := HI12.out.r.free
      have HF := Lib.hid (HI12.out.fin (c0 := cntS (stR ls0)) (m0 := m) (by omega) Hcn.out)
      clear HI12
      go_wp2
      have zc := HF.out.1.cell
      exact bodyPost_ret (v := .agg #[.slice (some ⟨b, 0, none⟩) m dc]) (by simp [results, Tryz.results9, go_sem, zc]) rfl HF.out.2
    · have g1 : ((ln : Int) == 0) = false := by simp [hln]
      go_wp2_with fail
      refine (int_any g (ln : Int) _ HI.out.ca (by omega) (by omega)).mono ?_
      rintro e w6 ⟨⟨y, hy1, hy2, rfl⟩, hc6, hb6⟩
      obtain ⟨k, rfl⟩ := Int.eq_ofNat_of_zero_le hy1
      have hkl : k < ln := by omega
      replace HI := Lib.hid (HI.out.case hc6 hb6)
      clear hy1 hy2 hc6 hb6 zx hcell g1
      go_wp2_with fail
      refine (int_any g 5 _ HI.out.ca (by omega) (by omega)).mono ?_
      rintro e w7 ⟨⟨y, hy1, hy2, rfl⟩, hc7, hb7⟩
      replace HI := Lib.hid (HI.out.case hc7 hb7)
      clear hc7 hb7
      obtain ⟨Lb, ⟨⟨QA, qn, qc⟩, r⟩, hL, hq, hcq, hqo, hHL⟩ := HI.out.cz.atQ Hp.out hkl
      dsimp only at hL hq hcq
      subst hL
      have Hq := Lib.hid hq
      have HHL := Lib.hid hHL
      have hgL : ¬ Lb = g := by have h1 := HI.out.hH; omega
      have Hqo := Lib.hid hqo
      have Hrn : Hid (r.length = qn ∧ 1 ≤ qn ∧ qn ≤ 8) := Lib.hid (by have h1 := Hrow.out _ (List.mem_of_getElem? hq); have h2 := hqo.2; simp only at h1 h2; omega)
      have HHs : Hid (H ≤ w7.heap.size) := Lib.hid (by have := own_lt HI.out.cz.own (k := b) rfl; omega)
      have hlst := HI.out.cz.lst i _ Hp.out (fun h => h)
      have zfl := own_free hlst
      clear hq hHL hqo hlst
      obtain rfl | rfl | rfl | rfl | rfl : y = 0 ∨ y = 1 ∨ y = 2 ∨ y = 3 ∨ y = 4 := by omega
      · clear hy1 hy2
        go_upto_region 14 with fail
        refine wp_region_planR [9, 11] (onlyB g) anyW (onlyB_trans _) anyW_trans (.one [2, 3, 4, 5, 6] [0, 1] 7 (.one [] [] 8 (.one [] [] 9 (.one [] [10] 11 (.last [] []))))) (by kernel_rfl) (by kernel_rfl) (fun _ _ d _ _ h => by cases d <;> exact h) ?_
        have HI8 : Hid (SpI w g H (some ⟨b, 0, none⟩) m dc w7.drew ls nol nor) := Lib.hid (HI.out.below ((Below.refl _ _).drew))
        have hcd : w7.drew.cell? ⟨Lb, k, none⟩ = some (.slice QA qn qc) := hcq
        have HHs8 : Hid (H ≤ w7.drew.heap.size) := Lib.hid HHs.out
        have HQ8 : Hid (OwnRow w7.drew H ((QA, qn, qc), r)) := Lib.hid (Hqo.out.below (Below.refl _ _).drew)
        clear HI hcq zfl Hqo HHs
        generalize hWd : w7.drew = wd at *
        clear hWd
        have ql : ∀ (y : LaterR (onlyB g) wd), (afterR (onlyB g) wd y).cell? ⟨Lb, k, none⟩ = some (.slice QA qn qc) := fun y => y.cell hcd (fun W h => but_cellS h hcd hgL)
        unfold wpPlanR
        simp only [pickOps, opAt, List.map_cons, List.map_nil, List.getElem?_toArray, List.getElem?_cons_zero, List.getElem?_cons_succ, Option.getD_some]
        repeat (go_big_quiet_step (fail))
        refine wpQuiet_nil ?_
        repeat (go_big_quiet_step (fail))
        refine wpQuiet_nil ?_
        clear ql hcd
        go_wp2_with fail
        refine (any2_any g _ HI8.out.ca).mono ?_
        rintro e w8 ⟨⟨v, hv1', hv2', rfl⟩, hc9, hb9⟩
        have HI9 := Lib.hid (HI8.out.case hc9 hb9)
        clear hv1' hv2' hc9 HI8
        go_wp2_with fail
        refine ⟨⟨fun _ => hb9, trivial⟩, ?_⟩
        unfold wpPlanR
        simp only [pickOps, opAt, List.map_nil, List.getElem?_toArray, List.getElem?_cons_zero, List.getElem?_cons_succ, Option.getD_some]
        refine wpQuiet_nil ?_
        refine wpQuiet_nil ?_
        have HHs9 : Hid (H ≤ w8.heap.size) := Lib.hid (Nat.le_trans HHs8.out hb9.size)
        clear hb9
        go_wp2_with fail
        refine ⟨⟨fun _ => But.alloc _ _, trivial⟩, ?_⟩
        unfold wpPlanR
        simp only [pickOps, opAt, List.map_nil, List.getElem?_toArray, List.getElem?_cons_zero, List.getElem?_cons_succ, Option.getD_some]
        refine wpQuiet_nil ?_
        refine wpQuiet_nil ?_
        have HQ9 : Hid (OwnRow w8 H ((QA, qn, qc), r)) := Lib.hid (HI9.out.cz.row i _ k _ Hp.out Hq.out (fun h => h))
        have hqn8 : qn ≤ 8 := Hrn.out.2.2
        go_wp2_with (at_builtin; refine wpList_append_one2 (by rfl) (.tmp 63) (.tmp 66) _ (by rfl) H 67 iv _ 3 32 Tryz.underlying75 hiv hv0 hv1 hv2 (by rfl) (by omega) (.slice QA qn qc) qn _ (by rfl) w8 #[.int .i64 v.k, .int .i64 v.i, .string v.t] HQ9.out.1 w8.heap.size (by rfl) (by rfl) (by rfl) (one_vl v) (by simp only [maxLen]; omega) (by omega) HHs9.out ?_; intro g6 cap6 w9 hown6 hg6 hB6 hat6 hlt6)
        refine ⟨⟨fun h => (h (by decide)).elim, trivial⟩, ?_⟩
        have HI10 := Lib.hid (HI9.out.up hB6 (HI9.out.cz.growR HSR.out Hp.out Hq.out (grown_of_alloc hg6)))
        have HQ10 : Hid (OwnRow w9 H ((some ⟨g6, 0, none⟩, qn + 1, cap6), r ++ [v])) := Lib.hid ⟨by rw [List.flatMap_append]; exact hown6, by rw [List.length_append, Hrn.out.1]; rfl⟩
        clear hown6 hg6 hB6 hat6 hlt6 HI9 HQ9
        have hl10 := HI10.out.cz.lst i _ Hp.out (fun h => h)
        obtain ⟨b2, u, e1, hu, hcq, _⟩ := own_at0 hl10 hkl
        injection e1 with e1
        injection e1 with e1
        subst e1
        have zf := own_free hl10
        clear hl10 hu
        unfold wpPlanR
        simp only [pickOps, opAt, List.map_cons, List.map_nil, List.getElem?_toArray, List.getElem?_cons_zero, List.getElem?_cons_succ, Option.getD_some]
        refine wpQuiet_nil ?_
        repeat (go_big_quiet_step (fail))
        refine wpQuiet_nil ?_
        go_wp2_with fail
        refine ⟨⟨fun h => (h (by decide)).elim, trivial⟩, ?_⟩
        unfold wpPlanR
        simp only [pickOps, List.map_nil]
        refine wpQuiet_nil ?_
        refine wpQuiet_nil ?_
        have HI11 := Lib.hid (HI10.out.up (bel_set w9 (i := k) HHL.out (.slice (some ⟨g6, 0, none⟩) (qn + 1) cap6)) (HI10.out.cz.putQ HSL.out Hp.out (lc := lc) rfl HQ10.out))
        have Hcn : Hid (cntS (stR (ls.set i ((some ⟨Lb, 0, none⟩, ln, lc), qs.set k ((some ⟨g6, 0, none⟩, qn + 1, cap6), r ++ [v])))) ≤ cntS (stR ls0) + 1) := Lib.hid (by rw [← HLS.out]; exact cnt_set1 Hp.out (by simp))
        clear hcq zf HI10 HQ10
        generalize w9.setCell ⟨Lb, k, none⟩ (.slice (some ⟨g6, 0, none⟩) (qn + 1) cap6) = wz at *
        have zx := HI11.out.x.cell
        have zr := HI11.out.r.cell
        have zf := HI11.out.r.free
        have HF := Lib.hid (HI11.out.fin (c0 := cntS (stR ls0)) (m0 := m) (by omega) Hcn.out)
        clear HI11
        go_wp2
        have zc := HF.out.1.cell
        exact bodyPost_ret (v := .agg #[.slice (some ⟨b, 0, none⟩) m dc]) (by simp [results, Tryz.results9, go_sem, zc]) rfl HF.out.2
      · clear hy1 hy2
        go_upto_region 16 with fail
        obtain ⟨gq, hQA, hgq⟩ : ∃ gq, QA = some ⟨gq, 0, none⟩ ∧ H ≤ gq := by
          have h0 := Hrn.out.2.1
          rcases Hqo.out.1.2 with ⟨_, h1⟩ | ⟨gq, cap, cur, hv, hg, _⟩
          · simp only at h1; omega
          · injection hv with hA
            exact ⟨gq, hA, hg⟩
        subst hQA
        have HGq := Lib.hid hgq
        clear hgq
        refine wp_region_planR [14] (onlyB g) anyW (onlyB_trans _) anyW_trans (.one [0, 1, 2, 3, 4, 5, 6, 7, 8, 9, 11] [] 10 (.one [] [] 12 (.one [13] [] 14 (.last [] [])))) (by kernel_rfl) (by kernel_rfl) (fun _ _ d _ _ h => by cases d <;> exact h) ?_
        have HI8 : Hid (SpI w g H (some ⟨b, 0, none⟩) m dc w7.drew ls nol nor) := Lib.hid (HI.out.below ((Below.refl _ _).drew))
        have hcd : w7.drew.cell? ⟨Lb, k, none⟩ = some (.slice (some ⟨gq, 0, none⟩) qn qc) := hcq
        have HHs8 : Hid (H ≤ w7.drew.heap.size) := Lib.hid HHs.out
        have HQ8 : Hid (OwnRow w7.drew H ((some ⟨gq, 0, none⟩, qn, qc), r)) := Lib.hid (Hqo.out.below (Below.refl _ _).drew)
        clear HI hcq zfl Hqo HHs
        generalize hWd : w7.drew = wd at *
        clear hWd
        have ql : ∀ (y : LaterR (onlyB g) wd), (afterR (onlyB g) wd y).cell? ⟨Lb, k, none⟩ = some (.slice (some ⟨gq, 0, none⟩) qn qc) := fun y => y.cell hcd (fun W h => but_cellS h hcd hgL)
        unfold wpPlanR
        simp only [pickOps, opAt, List.map_cons, List.map_nil, List.getElem?_toArray, List.getElem?_cons_zero, List.getElem?_cons_succ, Option.getD_some]
        repeat (go_big_quiet_step (fail))
        refine wpQuiet_nil ?_
        repeat (go_big_quiet_step (fail))
        refine wpQuiet_nil ?_
        clear ql hcd
        have hqn1 : 1 ≤ qn := Hrn.out.2.1
        have hqn8 : qn ≤ 8 := Hrn.out.2.2
        go_wp2_with fail
        refine (int_any g (qn : Int) _ HI8.out.ca (by omega) (by omega)).mono ?_
        rintro e w8 ⟨⟨y, hy1, hy2, rfl⟩, hc9, hb9⟩
        obtain ⟨j, rfl⟩ := Int.eq_ofNat_of_zero_le hy1
        have hjq : j < qn := by omega
        have HI9 := Lib.hid (HI8.out.case hc9 hb9)
        clear hy1 hy2 hc9 HI8
        go_wp2_with fail
        refine ⟨⟨fun _ => hb9, trivial⟩, ?_⟩
        unfold wpPlanR
        simp only [pickOps, opAt, List.map_nil, List.getElem?_toArray, List.getElem?_cons_zero, List.getElem?_cons_succ, Option.getD_some]
        refine wpQuiet_nil ?_
        refine wpQuiet_nil ?_
        clear hb9
        go_wp2_with fail
        refine (any2_any g _ HI9.out.ca).mono ?_
        rintro e w9 ⟨⟨v, hv1', hv2', rfl⟩, hc9, hb9⟩
        have HI10 := Lib.hid (HI9.out.case hc9 hb9)
        clear hv1' hv2' hc9 HI9
        go_wp2_with fail
        refine ⟨⟨fun _ => hb9, trivial⟩, ?_⟩
        have HQ10 : Hid (OwnRow w9 H ((some ⟨gq, 0, none⟩, qn, qc), r)) := Lib.hid (HI10.out.cz.row i _ k _ Hp.out Hq.out (fun h => h))
        obtain ⟨b2, o2, x, e1, hx, hcx⟩ := HQ10.out.ok.rd.at hjq
        injection e1 with e1
        injection e1 with e1 e2
        subst e1 e2
        have d0 : w9.cell? ⟨gq, j * 3, none⟩ = some (.int .i64 x.k) := by have := hcx 0 (.int .i64 x.k) rfl; simpa using this
        have d1 : w9.cell? ⟨gq, j * 3 + 1, none⟩ = some (.int .i64 x.i) := by have := hcx 1 (.int .i64 x.i) rfl; simpa using this
        have d2 : w9.cell? ⟨gq, j * 3 + 2, none⟩ = some (.string x.t) := by have := hcx 2 (.string x.t) rfl; simpa using this
        have zf := own_free HQ10.out.1
        clear hx hcx hb9
        unfold wpPlanR
        simp only [pickOps, opAt, List.map_cons, List.map_nil, List.getElem?_toArray, List.getElem?_cons_zero, List.getElem?_cons_succ, Option.getD_some]
        repeat (go_big_quiet_step (fail))
        refine wpQuiet_nil ?_
        refine wpQuiet_nil ?_
        go_wp2_with fail
        refine ⟨⟨fun h => (h (by decide)).elim, trivial⟩, ?_⟩
        unfold wpPlanR
        simp only [pickOps, List.map_nil]
        refine wpQuiet_nil ?_
        refine wpQuiet_nil ?_
        have HI11 := Lib.hid (HI10.out.up ((((Below.refl H w9).setCell (p := ⟨gq, j * 3, none⟩) HGq.out (.int .i64 v.k)).setCell (p := ⟨gq, j * 3 + 1, none⟩) HGq.out (.int .i64 v.i)).setCell (p := ⟨gq, j * 3 + 2, none⟩) HGq.out (.string v.t)) (HI10.out.cz.setV Hp.out Hq.out rfl j v))
        have Hcn : Hid (cntS (stR (ls.map fun p => (p.1, p.2.map (wrQ gq j v)))) ≤ cntS (stR ls0) + 1) := Lib.hid (by rw [← HLS.out, cnt_wr]; exact Nat.le_succ _)
        clear d0 d1 d2 zf HI10 HQ10
        generalize ((w9.setCell ⟨gq, j * 3, none⟩ (.int .i64 v.k)).setCell ⟨gq, j * 3 + 1, none⟩ (.int .i64 v.i)).setCell ⟨gq, j * 3 + 2, none⟩ (.string v.t) = wz at *
        have zx := HI11.out.x.cell
        have zr := HI11.out.r.cell
        have zf := HI11.out.r.free
        have HF := Lib.hid (HI11.out.fin (c0 := cntS (stR ls0)) (m0 := m) (by omega) Hcn.out)
        clear HI11
        go_wp2
        have zc := HF.out.1.cell
        exact bodyPost_ret (v := .agg #[.slice (some ⟨b, 0, none⟩) m dc]) (by simp [results, Tryz.results9, go_sem, zc]) rfl HF.out.2
      · clear hy1 hy2
        go_upto_region 18 with fail
        refine wp_region_planR [10, 12] (belB w7.drew.heap.size) (stB w.heap.size) (belB_trans _) (stB_trans _) (.one [3, 4, 5, 6, 7] [0, 1, 2] 8 (.one [] [] 9 (.one [] [] 10 (.one [] [11] 12 (.last [] []))))) (by kernel_rfl) (by kernel_rfl) (fun _ _ d _ _ h => by cases d <;> exact h) ?_
        have HI8 : Hid (SpI w g H (some ⟨b, 0, none⟩) m dc w7.drew ls nol nor) := Lib.hid (HI.out.below ((Below.refl _ _).drew))
        have hcd : w7.drew.cell? ⟨Lb, k, none⟩ = some (.slice QA qn qc) := hcq
        have HHs8 : Hid (H ≤ w7.drew.heap.size) := Lib.hid HHs.out
        have HQ8 : Hid (OwnRow w7.drew H ((QA, qn, qc), r)) := Lib.hid (Hqo.out.below (Below.refl _ _).drew)
        clear HI hcq zfl Hqo HHs
        generalize hWd : w7.drew = wd at *
        clear hWd
        have ql : ∀ (y : LaterR (belB wd.heap.size) wd), (afterR (belB wd.heap.size) wd y).cell? ⟨Lb, k, none⟩ = some (.slice QA qn qc) := fun y => y.cell hcd (fun W h => (h.cell (p := ⟨Lb, k, none⟩) (cell_lt (w := wd) (a := ⟨Lb, k, none⟩) (by rw [hcd]; rfl))).trans hcd)
        have qx2 : ∀ (y : LaterR (stB w.heap.size) wd) i, (afterR (stB w.heap.size) wd y).cell? ⟨w.heap.size, i, none⟩ = (#[.slice (some ⟨b, 0, none⟩) m dc] : Array Value)[i]? := fun y i => y.cell (HI8.out.x.cell i) (fun W h => (World.cell?_of_block (w := wd) (a := ⟨w.heap.size, i, none⟩) (show W.heap[w.heap.size]? = wd.heap[w.heap.size]? from h)).trans (HI8.out.x.cell i))
        unfold wpPlanR
        simp only [pickOps, opAt, List.map_cons, List.map_nil, List.getElem?_toArray, List.getElem?_cons_zero, List.getElem?_cons_succ, Option.getD_some]
        repeat (go_big_quiet_step (fail))
        refine wpQuiet_nil ?_
        repeat (go_big_quiet_step (fail))
        refine wpQuiet_nil ?_
        clear ql qx2 hcd
        have hqn8 : qn ≤ 8 := Hrn.out.2.2
        go_wp2_with fail
        refine (copy_any ((QA, qn, qc), r) _ HQ8.out.ok (by show qn ≤ _; omega)).mono ?_
        rintro e w8 ⟨A6, c6, rfl, hown, hb9⟩
        have HN : Hid (OwnRow w8 H ((A6, qn, c6), r)) := Lib.hid ⟨own_weaken hown HHs8.out, Hrn.out.1⟩
        have HHs9 : Hid (H ≤ w8.heap.size) := Lib.hid (Nat.le_trans HHs8.out hb9.size)
        have hx9 : w.heap.size < w8.heap.size := Nat.lt_of_lt_of_le HI8.out.x.lt hb9.size
        go_wp2_with fail
        refine ⟨⟨fun _ => hb9, hb9.block _ HI8.out.x.lt⟩, ?_⟩
        unfold wpPlanR
        simp only [pickOps, opAt, List.map_nil, List.getElem?_toArray, List.getElem?_cons_zero, List.getElem?_cons_succ, Option.getD_some]
        refine wpQuiet_nil ?_
        refine wpQuiet_nil ?_
        have HI9 := Lib.hid (HI8.out.below hb9)
        clear hown HI8 HQ8
        go_wp2_with fail
        refine ⟨⟨fun _ => (Below.refl _ _).alloc hb9.size _, Below.heap_alloc _ _ _ hx9⟩, ?_⟩
        unfold wpPlanR
        simp only [pickOps, opAt, List.map_nil, List.getElem?_toArray, List.getElem?_cons_zero, List.getElem?_cons_succ, Option.getD_some]
        refine wpQuiet_nil ?_
        refine wpQuiet_nil ?_
        have hlst := HI9.out.cz.lst i _ Hp.out (fun h => h)
        have HLst := Lib.hid hlst
        clear hlst hb9
        go_wp2_with (at_builtin; refine wpList_append_one2 (by rfl) (.tmp 90) (.tmp 96) _ (by rfl) H 75 i0 _ 1 24 Tryz.underlying79 hi0 hz0 hz1 hz2 (by rfl) (by omega) (.slice (some ⟨Lb, 0, none⟩) ln lc) ln _ (by rfl) w8 #[.slice A6 qn c6] HLst.out w8.heap.size (by rfl) (by rfl) (by rfl) (one_row ((A6, qn, c6), r)) (by simp only [maxLen]; omega) (by omega) HHs9.out ?_; intro g6 cap6 w9 hown6 hg6 hB6 hat6 hlt6)
        have hxH : w.heap.size < H := by have := HI9.out.hH; omega
        refine ⟨⟨fun h => (h (by decide)).elim, (hB6.block _ hxH).trans (Below.heap_alloc _ _ _ hx9).symm⟩, ?_⟩
        have HI10 := Lib.hid (HI9.out.up hB6 (HI9.out.cz.growL HSL.out Hp.out (grown_of_alloc hg6)))
        have HLn : Hid (w9.ownsRow H 75 1 (hdl ((some ⟨g6, 0, none⟩, ln + 1, cap6), qs ++ [((A6, qn, c6), r)])) (ln + 1) ((qs ++ [((A6, qn, c6), r)]).flatMap rowc)) := Lib.hid (by rw [List.flatMap_append]; exact hown6)
        have HN9 : Hid (OwnRow w9 H ((A6, qn, c6), r)) := Lib.hid ⟨own_gt HN.out.1 HLst.out (by decide) (grown_of_alloc hg6), HN.out.2⟩
        clear hown6 hg6 hB6 hat6 hlt6 HI9 HN HLst
        obtain ⟨b2, u, e1, hu, hcq, _⟩ := own_at0 HI10.out.cz.own him
        injection e1 with e1
        injection e1 with e1
        subst e1
        have zf := own_free HI10.out.cz.own
        clear hu
        unfold wpPlanR
        simp only [pickOps, opAt, List.map_cons, List.map_nil, List.getElem?_toArray, List.getElem?_cons_zero, List.getElem?_cons_succ, Option.getD_some]
        refine wpQuiet_nil ?_
        repeat (go_big_quiet_step (fail))
        refine wpQuiet_nil ?_
        go_wp2_with fail
        refine ⟨⟨fun h => (h (by decide)).elim, Below.heap_setCell _ _ _ _ (by have := HI10.out.hH; have := HHb.out; show w.heap.size ≠ b; omega)⟩, ?_⟩
        unfold wpPlanR
        simp only [pickOps, List.map_nil]
        refine wpQuiet_nil ?_
        refine wpQuiet_nil ?_
        have HI11 := Lib.hid (HI10.out.up (bel_set w9 (i := i) HHb.out (.slice (some ⟨g6, 0, none⟩) (ln + 1) cap6)) (HI10.out.cz.putL (p := ((some ⟨g6, 0, none⟩, ln + 1, cap6), qs ++ [((A6, qn, c6), r)])) HLn.out (by rw [List.length_append, Hqs.out]; rfl) (fun z hz => by
          rcases List.mem_append.1 hz with hz | hz
          · obtain ⟨kk, hkk⟩ := List.mem_iff_getElem?.1 hz
            exact HI10.out.cz.row i _ kk z Hp.out hkk (fun h => h)
          · rw [List.mem_singleton.1 hz]
            exact HN9.out)))
        have Hcn : Hid (cntS (stR (ls.set i ((some ⟨g6, 0, none⟩, ln + 1, cap6), qs ++ [((A6, qn, c6), r)]))) ≤ cntS (stR ls0) + 1) := Lib.hid (by rw [← HLS.out]; exact cnt_set1 Hp.out (by simp))
        clear hcq zf HI10 HLn HN9
        generalize w9.setCell ⟨b, i, none⟩ (.slice (some ⟨g6, 0, none⟩) (ln + 1) cap6) = wz at *
        have zx := HI11.out.x.cell
        have zr := HI11.out.r.cell
        have zf := HI11.out.r.free
        have HF := Lib.hid (HI11.out.fin (c0 := cntS (stR ls0)) (m0 := m) (by omega) Hcn.out)
        clear HI11
        go_wp2
        have zc := HF.out.1.cell
        exact bodyPost_ret (v := .agg #[.slice (some ⟨b, 0, none⟩) m dc]) (by simp [results, Tryz.results9, go_sem, zc]) rfl HF.out.2
      · clear hy1 hy2
        go_upto_region 20 with fail
        clear hcq Hqo Hq Hrn hkl
        obtain ⟨n', rfl⟩ : ∃ n', ln = n' + 1 := ⟨ln - 1, by omega⟩
        refine wp_region_planR [15, 17] noW anyW noW_trans anyW_trans (.one [0, 5, 6, 7, 8, 9, 10, 11, 12, 13, 14] [1, 2, 3, 4] 15 (.one [16] [] 17 (.last [] []))) (by kernel_rfl) (by kernel_rfl) (fun _ _ d _ _ h => by cases d <;> exact h) ?_
        have HI8 : Hid (SpI w g H (some ⟨b, 0, none⟩) m dc w7.drew ls nol nor) := Lib.hid (HI.out.below ((Below.refl _ _).drew))
        clear HI zfl HHs
        generalize hWd : w7.drew = wd at *
        clear hWd
        obtain ⟨b2, ⟨⟨XA, xn, xc⟩, x⟩, e1, hx, cx, hxo, _⟩ := HI8.out.cz.atQ Hp.out (show 0 < n' + 1 by omega)
        injection e1 with e1
        injection e1 with e1
        subst e1
        obtain ⟨b2, ⟨⟨ZA, zn, zc⟩, z⟩, e1, hz, cz', hzo, _⟩ := HI8.out.cz.atQ Hp.out (show n' < n' + 1 by omega)
        injection e1 with e1
        injection e1 with e1
        subst e1
        dsimp only at cx cz'
        have hlst := HI8.out.cz.lst i _ Hp.out (fun h => h)
        have zf := own_free hlst
        have q0 : ∀ (y : LaterR noW wd), (afterR noW wd y).cell? ⟨Lb, 0, none⟩ = some (.slice XA xn xc) := fun y => y.cell cx (fun W h => h.elim)
        have q1 : ∀ (y : LaterR noW wd), (afterR noW wd y).cell? ⟨Lb, n', none⟩ = some (.slice ZA zn zc) := fun y => y.cell cz' (fun W h => h.elim)
        have HXo := Lib.hid hxo
        have HZo := Lib.hid hzo
        have HLst := Lib.hid hlst
        clear hx hz hxo hzo hlst
        unfold wpPlanR
        simp only [pickOps, opAt, List.map_cons, List.map_nil, List.getElem?_toArray, List.getElem?_cons_zero, List.getElem?_cons_succ, Option.getD_some]
        repeat (go_big_quiet_step (fail))
        refine wpQuiet_nil ?_
        repeat (go_big_quiet_step (fail))
        refine wpQuiet_nil ?_
        clear q0 q1
        go_wp2_with fail
        refine ⟨⟨fun h => (h (by decide)).elim, trivial⟩, ?_⟩
        have HI9 := Lib.hid (HI8.out.up (bel_set wd (i := 0) HHL.out (.slice ZA zn zc)) ((HI8.out.cz.hole nol (fun a b => a = i ∧ b = 0)).putQ HSL.out Hp.out (lc := lc) rfl (q := ((ZA, zn, zc), z)) HZo.out))
        have HX9 : Hid (OwnRow (wd.setCell ⟨Lb, 0, none⟩ (.slice ZA zn zc)) H ((XA, xn, xc), x)) := Lib.hid ⟨own_cell HXo.out.1 (c' := lc) HLst.out (by decide) (But.cell1 wd Lb 0 _), HXo.out.2⟩
        have Hil : Hid (i < ls.length) := Lib.hid (List.getElem?_eq_some_iff.1 Hp.out).1
        have Hp9 : Hid ((ls.set i ((some ⟨Lb, 0, none⟩, n' + 1, lc), qs.set 0 ((ZA, zn, zc), z)))[i]? = some ((some ⟨Lb, 0, none⟩, n' + 1, lc), qs.set 0 ((ZA, zn, zc), z))) := Lib.hid (List.getElem?_set_self Hil.out)
        clear cx cz' zf HI8 HXo HZo HLst
        generalize wd.setCell ⟨Lb, 0, none⟩ (.slice ZA zn zc) = w8 at *
        have hl9 := HI9.out.cz.lst i _ Hp9.out (fun h => h)
        rw [flat_hdr] at hl9
        obtain ⟨b2, u, e1, hu, hcq, _⟩ := own_at0 hl9 (show n' < n' + 1 by omega)
        injection e1 with e1
        injection e1 with e1
        subst e1
        have zf := own_free hl9
        clear hu hl9
        unfold wpPlanR
        simp only [pickOps, opAt, List.map_cons, List.map_nil, List.getElem?_toArray, List.getElem?_cons_zero, List.getElem?_cons_succ, Option.getD_some]
        repeat (go_big_quiet_step (fail))
        refine wpQuiet_nil ?_
        refine wpQuiet_nil ?_
        go_wp2_with fail
        refine ⟨⟨fun h => (h (by decide)).elim, trivial⟩, ?_⟩
        unfold wpPlanR
        simp only [pickOps, List.map_nil]
        refine wpQuiet_nil ?_
        refine wpQuiet_nil ?_
        have HI11 := Lib.hid (HI9.out.up (bel_set w8 (i := n') HHL.out (.slice XA xn xc)) ((HI9.out.cz.hole nol (fun a b => a = i ∧ b = n')).putQ (HSL.out.set Hp.out _) Hp9.out (lc := lc) rfl (q := ((XA, xn, xc), x)) HX9.out))
        have Hcn : Hid (cntS (stR ((ls.set i ((some ⟨Lb, 0, none⟩, n' + 1, lc), qs.set 0 ((ZA, zn, zc), z))).set i ((some ⟨Lb, 0, none⟩, n' + 1, lc), (qs.set 0 ((ZA, zn, zc), z)).set n' ((XA, xn, xc), x)))) ≤ cntS (stR ls0) + 1) := Lib.hid (by
          rw [← HLS.out, cnt_set0 Hp9.out (by simp), cnt_set0 Hp.out (by simp)]
          exact Nat.le_succ _)
        clear hcq zf HI9 HX9
        generalize w8.setCell ⟨Lb, n', none⟩ (.slice XA xn xc) = wz at *
        have zx := HI11.out.x.cell
        have zr := HI11.out.r.cell
        have zf := HI11.out.r.free
        have HF := Lib.hid (HI11.out.fin (c0 := cntS (stR ls0)) (m0 := m) (by omega) Hcn.out)
        clear HI11
        go_wp2
        have zc := HF.out.1.cell
        exact bodyPost_ret (v := .agg #[.slice (some ⟨b, 0, none⟩) m dc]) (by simp [results, Tryz.results9, go_sem, zc]) rfl HF.out.2
      · clear hy1 hy2
        go_upto_region 21 with fail
        have HI8 := Lib.hid (HI.out.up (bel_set w7 (i := k) HHL.out (.slice none 0 0)) ((HI.out.cz.hole nol (fun a b => a = i ∧ b = k)).putQ HSL.out Hp.out (lc := lc) rfl (q := ((none, 0, 0), [])) ⟨⟨by simp, .inl ⟨rfl, rfl⟩⟩, rfl⟩))
        have Hcn : Hid (cntS (stR (ls.set i ((some ⟨Lb, 0, none⟩, ln, lc), qs.set k ((none, 0, 0), [])))) ≤ cntS (stR ls0) + 1) := Lib.hid (by rw [← HLS.out]; exact cnt_set1 Hp.out (by simp))
        clear HI hcq zfl
        generalize w7.setCell ⟨Lb, k, none⟩ (.slice none 0 0) = w8 at *
        have zx := HI8.out.x.cell
        have zr := HI8.out.r.cell
        have zf := HI8.out.r.free
        have HF := Lib.hid (HI8.out.fin (c0 := cntS (stR ls0)) (m0 := m) (by omega) Hcn.out)
        clear HI8
        go_wp2
        have zc := HF.out.1.cell
        exact bodyPost_ret (v := .agg #[.slice (some ⟨b, 0, none⟩) m dc]) (by simp [results, Tryz.results9, go_sem, zc]) rfl HF.out.2
end Go.Proofs.YtponkkljlbifmaaGreat
