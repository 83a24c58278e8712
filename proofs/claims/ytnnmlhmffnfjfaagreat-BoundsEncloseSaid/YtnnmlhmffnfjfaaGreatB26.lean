/-
  Texts: BdWalk, PdA.
-/
import Derived.Test.YtnnmlhmffnfjfaaGreatB24
import Derived.Test.YtnnmlhmffnfjfaaGreatB25
set_option linter.unusedVariables false
set_option maxRecDepth 100000
namespace Go.Proofs.YtnnmlhmffnfjfaaGreat
open Go.RowKit
open Rg
open Pd
theorem node_true {cols : List Int} {p : Pd} (h : p.h.op = 1) : nodeX cols p = some (allR cols.length, allR cols.length) := by unfold nodeX finX; rw [if_pos h]
theorem node_false {cols : List Int} {p : Pd} (h : p.h.op = 2) : nodeX cols p = some (.nil (cols.length : Int) false, .nil (cols.length : Int) false) := by unfold nodeX finX; rw [if_neg (by omega), if_pos h]
theorem node_and {cols : List Int} {p : Pd} (h : p.h.op = 4) : nodeX cols p = (nx cols p).an (allR cols.length, allR cols.length) := by unfold nodeX finX; rw [if_neg (by omega), if_neg (by omega), if_pos h]
theorem node_or {cols : List Int} {p : Pd} (h : p.h.op = 5) : nodeX cols p = (nx cols p).or (.nil (cols.length : Int) false, .nil (cols.length : Int) false) := by unfold nodeX finX; rw [if_neg (by omega), if_neg (by omega), if_neg (by omega), if_pos h]
theorem node_not {cols : List Int} {p : Pd} (h : p.h.op = 6) : nodeX cols p = (nx cols p).fst.bind notX := by unfold nodeX finX; rw [if_neg (by omega), if_neg (by omega), if_neg (by omega), if_neg (by omega), if_pos h]
theorem node_cmp {cols : List Int} {p : Pd} (h : p.h.op = 3) : nodeX cols p = some (cmpPair cols p.h) := by unfold nodeX finX; rw [if_neg (by omega), if_neg (by omega), if_neg (by omega), if_neg (by omega), if_neg (by omega)]
theorem fst_at {cols : List Int} {p q : Pd} (h : p.args[0]? = some q) : (nx cols p).fst = nodeX cols q := by
 cases p with
 | nil _ => simp [args] at h
 | cons a t =>
   simp only [args, List.getElem?_cons_zero, Option.some.injEq] at h
   subst h
   rfl
theorem val_op {cols : List Int} {h : Nd} {n : Nat} (hv : headOk cols [] h n = true) : h.op = 1 ∨ h.op = 2 ∨ h.op = 3 ∨ h.op = 4 ∨ h.op = 5 ∨ h.op = 6 := by
 by_cases h1 : h.op = 1
 · exact .inl h1
 by_cases h2 : h.op = 2
 · exact .inr (.inl h2)
 by_cases h3 : h.op = 3
 · exact .inr (.inr (.inl h3))
 by_cases h4 : h.op = 4
 · exact .inr (.inr (.inr (.inl h4)))
 by_cases h5 : h.op = 5
 · exact .inr (.inr (.inr (.inr (.inl h5))))
 by_cases h6 : h.op = 6
 · exact .inr (.inr (.inr (.inr (.inr h6))))
 rw [headOk_none h1 h2 h3 h4 h5 h6] at hv
 cases hv
theorem wf_mem : ∀ {p : Pd}, wfPA p → ∀ q ∈ p.args, wfP q
 | .nil _, _, q, h => by cases h
 | .cons a t, hw, q, h => by
   rcases List.mem_cons.1 h with rfl | h
   · exact ⟨hw.1, hw.2.1⟩
   · exact wf_mem hw.2.2 q h
theorem cp_noEmp {n : Nat} {a : Rg} (ha : OkR a) (hwa : a.w = (n : Int)) : (cpErr a = 0 ∨ cpErr a = 2) ∧ noEmp (cpRes a) := by
 have h := cp_spec ha hwa
 have h1 : cpErr a = 0 ∨ cpErr a = 2 := by
  rw [h.1]
  split
  · exact .inl rfl
  · exact .inr rfl
 refine ⟨h1, ?_⟩
 rcases h1 with h1 | h1
 · exact ok_noEmp (h.2 h1).2.1
 · have h4 : cpErr a = opErr opMr (allR a.w.toNat) a := by unfold cpErr; rw [if_pos (okB_true.2 ha)]
   have h5 : cpRes a = opRes opMr (allR a.w.toNat) a := by unfold cpRes; rw [if_pos (okB_true.2 ha)]
   rw [h5, opRes, if_neg (by rw [← h4, h1]; decide)]
   exact trivial
set_option maxHeartbeats 16000000 in
theorem walk_any (cols : List Int) (nc : Nat) (Ac : Option Addr) (cc Bc Bw : Nat) (hn : nc ≤ 12) (hcl : cols.length = nc) (hcb : colB cols = true) : ∀ (N : Nat) (p : Pd) (A : Option Addr) (n c : Nat) (w : World), p.nodes ≤ N → N ≤ 1000 → PrdS w A n c p → Blk w Bc 65 #[.slice Ac nc cc] → ClS w Ac nc cols → Blk w Bw 125 #[.func (.func 78) #[] #[.pointer (some ⟨Bc, 0, none⟩), .pointer (some ⟨Bw, 0, none⟩)]] → validB cols [] p = true → wfP p →
 Calls Tryz.prog 78 #[.agg (pdV p.h A n c), .pointer (some ⟨Bc, 0, none⟩), .pointer (some ⟨Bw, 0, none⟩)] w fun e w' => WalkRes w (nodeX cols p) e w' := by
 intro N
 induction N with
 | zero => intro p A n c w hN; have := nodes_pos p; omega
 | succ N ih =>
   intro p A n c w hN hN2 hs hbc hc hbw hv hwf
   have IH := zH ih
   have HN : Hid (p.nodes ≤ N + 1 ∧ N + 1 ≤ 1000) := zH ⟨hN, hN2⟩
   have Hlen := zH hs.len
   have HCB := zH hcb
   have Hcl := zH hcl
   have HV0 := zH hv
   have HWF := zH hwf
   obtain ⟨rr, Hrr⟩ : ∃ z, Hid (nodeX cols p = z) := ⟨_, rfl⟩
   rw [Hrr.out]
   obtain ⟨hd, Hhd⟩ : ∃ z, Hid (p.h = z) := ⟨_, rfl⟩
   have HOK : Hid (headOk cols [] hd n = true) := zH (by
    unfold validB at hv
    rw [Bool.and_eq_true] at hv
    rw [hs.len, ← Hhd.out]
    exact hv.1)
   rw [Hhd.out]
   have HVA : Hid (∀ q ∈ p.args, validB cols [] q = true) := zH (by
    unfold validB at hv
    rw [Bool.and_eq_true] at hv
    exact validA_mem.1 hv.2)
   have HWA : Hid (∀ q ∈ p.args, wfP q) := zH (wf_mem hwf.2)
   have HPRa : Hid (∀ q ∈ p.args, ∀ r, nodeX cols q = some r → Pair nc r) := zH (fun q hq r hr => by
    have h := (big_node (cols := cols) (by omega) hcb (HVA.out q hq) (HWA.out q hq) hr).pr
    rw [hcl] at h
    exact h)
   have HOP := val_op HOK.out
   clear ih hN hN2 hv hwf hcl
   obtain ⟨op, cm, ⟨lk, lx, ⟨vk, vi, vt⟩⟩, ⟨rk, rx, ⟨uk, ui, ut⟩⟩⟩ := hd
   unfold pdV
   have HS := zH ((hs.keep (keeps_alloc w (.cells #[.int .i64 op, .int .i64 cm, .int .i64 lk, .int .i64 lx, .int .i64 vk, .int .i64 vi, .string vt, .int .i64 rk, .int .i64 rx, .int .i64 uk, .int .i64 ui, .string ut, .slice A n c] 64))).keep (keeps_alloc _ (.cells #[.int .i64 0, .bool false, .slice none 0 0, .int .i64 0, .bool false, .slice none 0 0] 127)))
   have HC := zH ((hc.keep (keeps_alloc w (.cells #[.int .i64 op, .int .i64 cm, .int .i64 lk, .int .i64 lx, .int .i64 vk, .int .i64 vi, .string vt, .int .i64 rk, .int .i64 rx, .int .i64 uk, .int .i64 ui, .string ut, .slice A n c] 64))).keep (keeps_alloc _ (.cells #[.int .i64 0, .bool false, .slice none 0 0, .int .i64 0, .bool false, .slice none 0 0] 127)))
   have HBC := zH ((hbc.alloc (.cells #[.int .i64 op, .int .i64 cm, .int .i64 lk, .int .i64 lx, .int .i64 vk, .int .i64 vi, .string vt, .int .i64 rk, .int .i64 rx, .int .i64 uk, .int .i64 ui, .string ut, .slice A n c] 64)).alloc (.cells #[.int .i64 0, .bool false, .slice none 0 0, .int .i64 0, .bool false, .slice none 0 0] 127))
   have HBW := zH ((hbw.alloc (.cells #[.int .i64 op, .int .i64 cm, .int .i64 lk, .int .i64 lx, .int .i64 vk, .int .i64 vi, .string vt, .int .i64 rk, .int .i64 rx, .int .i64 uk, .int .i64 ui, .string ut, .slice A n c] 64)).alloc (.cells #[.int .i64 0, .bool false, .slice none 0 0, .int .i64 0, .bool false, .slice none 0 0] 127))
   have HX := zH ((Blk.new w 64 #[.int .i64 op, .int .i64 cm, .int .i64 lk, .int .i64 lx, .int .i64 vk, .int .i64 vi, .string vt, .int .i64 rk, .int .i64 rx, .int .i64 uk, .int .i64 ui, .string ut, .slice A n c]).alloc (.cells #[.int .i64 0, .bool false, .slice none 0 0, .int .i64 0, .bool false, .slice none 0 0] 127))
   have HR : Hid (Blk _ (w.alloc (.cells #[.int .i64 op, .int .i64 cm, .int .i64 lk, .int .i64 lx, .int .i64 vk, .int .i64 vi, .string vt, .int .i64 rk, .int .i64 rx, .int .i64 uk, .int .i64 ui, .string ut, .slice A n c] 64)).heap.size 127 (prC 0 false none 0 0 0 false none 0 0)) := zH (Blk.new (w.alloc (.cells #[.int .i64 op, .int .i64 cm, .int .i64 lk, .int .i64 lx, .int .i64 vk, .int .i64 vi, .string vt, .int .i64 rk, .int .i64 rx, .int .i64 uk, .int .i64 ui, .string ut, .slice A n c] 64)) 127 #[.int .i64 0, .bool false, .slice none 0 0, .int .i64 0, .bool false, .slice none 0 0])
   rw [show (w.alloc (.cells #[.int .i64 op, .int .i64 cm, .int .i64 lk, .int .i64 lx, .int .i64 vk, .int .i64 vi, .string vt, .int .i64 rk, .int .i64 rx, .int .i64 uk, .int .i64 ui, .string ut, .slice A n c] 64)).heap.size = w.heap.size + 1 by simp] at HR
   have HB0 := (Below.refl w.heap.size w).alloc (Nat.le_refl _) (.cells #[.int .i64 op, .int .i64 cm, .int .i64 lk, .int .i64 lx, .int .i64 vk, .int .i64 vi, .string vt, .int .i64 rk, .int .i64 rx, .int .i64 uk, .int .i64 ui, .string ut, .slice A n c] 64)
   have HB := zH (HB0.alloc HB0.size (.cells #[.int .i64 0, .bool false, .slice none 0 0, .int .i64 0, .bool false, .slice none 0 0] 127))
   clear HB0 hs hbc hc hbw
   go_enter Tryz.func78, Tryz.ntmps78
   go_upto_region 1 with fail
   obtain ⟨X, HXe⟩ : ∃ z, Hid (w.heap.size = z) := ⟨_, rfl⟩
   obtain ⟨R, HRe⟩ : ∃ z, Hid (w.heap.size + 1 = z) := ⟨_, rfl⟩
   have HRl : Hid (w.heap.size ≤ R) := zH (by have := HRe.out; omega)
   rw [HRe.out] at HR
   rw [HXe.out] at HX
   rw [HRe.out, HXe.out]
   generalize hW : (w.alloc (.cells #[.int .i64 op, .int .i64 cm, .int .i64 lk, .int .i64 lx, .int .i64 vk, .int .i64 vi, .string vt, .int .i64 rk, .int .i64 rx, .int .i64 uk, .int .i64 ui, .string ut, .slice A n c] 64)).alloc (.cells #[.int .i64 0, .bool false, .slice none 0 0, .int .i64 0, .bool false, .slice none 0 0] 127) = w1 at *
   clear hW HXe HRe
   have zx := HX.out.cell
   have zb := HBC.out.cell
   dsimp only at HOP
   rcases HOP with rfl | rfl | rfl | rfl | rfl | rfl
   · obtain rfl : some (allR nc, allR nc) = rr := by rw [← Hrr.out, node_true (by rw [Hhd.out]), Hcl.out]
     have HNr : Hid (noEmp (allR nc)) := zH (ok_noEmp (all_ok hn))
     clear Hrr
     go_wp2_with fail
     refine (twice1_any 80 ent_fnAll Bc (allR nc) HNr.out _ (fun W hW => fnAll_any Bc Ac nc cc W (HBC.out.below hW) hn)).mono ?_
     rintro e w2 ⟨y, g, C, m, d, y', g', C', m', d', rfl, hA, hA', hb⟩
     clear zx zb
     have HRz := zH (HR.out.below hb)
     have HBz := zH (Below.next HB.out hb)
     have HA := zH hA
     have HA' := zH hA'
     clear hA hA' hb
     have zr := HRz.out.cell
     have zf := HRz.out.free
     unfold prC at zr
     have y6 := (put6_blk (x := y) (f := g) (A := C) (n := m) (c := d) (x' := y') (f' := g') (A' := C') (n' := m') (c' := d') HRz.out).cell
     unfold prC at y6
     have HBr := zH (put6_below (x := y) (f := g) (A := C) (n := m) (c := d) (x' := y') (f' := g') (A' := C') (n' := m') (c' := d') HBz.out HRl.out)
     have HA3 := zH (RgS.off2 (a := zeroR) HRz.out (RgS.zero' _) (put6_but (w := w2) (B := R) (x := y) (f := g) (A := C) (n := m) (c := d) (x' := y') (f' := g') (A' := C') (n' := m') (c' := d')) (HNr.out) HA.out)
     have HA4 := zH (RgS.off2 (a := zeroR) HRz.out (RgS.zero' _) (put6_but (w := w2) (B := R) (x := y) (f := g) (A := C) (n := m) (c := d) (x' := y') (f' := g') (A' := C') (n' := m') (c' := d')) (HNr.out) HA'.out)
     unfold put6 at y6 HBr HA3 HA4
     unfold prC
     go_wp2
     exact bodyPost_ret (v := .tuple #[.agg #[.int .i64 y, .bool g, .slice C m d, .int .i64 y', .bool g', .slice C' m' d'], .int .i64 0]) (by simp [results, Tryz.results78, go_sem, y6]) rfl ⟨y, g, C, m, d, y', g', C', m', d', rfl, HA3.out, HA4.out, HBr.out⟩
   · obtain rfl : some (Rg.nil (nc : Int) false, Rg.nil (nc : Int) false) = rr := by rw [← Hrr.out, node_false (by rw [Hhd.out]), Hcl.out]
     have HNr : Hid (noEmp (Rg.nil (nc : Int) false)) := zH (trivial)
     clear Hrr
     go_wp2_with fail
     refine (twice1_any 82 ent_fnEmp Bc (Rg.nil (nc : Int) false) HNr.out _ (fun W hW => fnEmp_any Bc Ac nc cc W (HBC.out.below hW) hn)).mono ?_
     rintro e w2 ⟨y, g, C, m, d, y', g', C', m', d', rfl, hA, hA', hb⟩
     clear zx zb
     have HRz := zH (HR.out.below hb)
     have HBz := zH (Below.next HB.out hb)
     have HA := zH hA
     have HA' := zH hA'
     clear hA hA' hb
     have zr := HRz.out.cell
     have zf := HRz.out.free
     unfold prC at zr
     have y6 := (put6_blk (x := y) (f := g) (A := C) (n := m) (c := d) (x' := y') (f' := g') (A' := C') (n' := m') (c' := d') HRz.out).cell
     unfold prC at y6
     have HBr := zH (put6_below (x := y) (f := g) (A := C) (n := m) (c := d) (x' := y') (f' := g') (A' := C') (n' := m') (c' := d') HBz.out HRl.out)
     have HA3 := zH (RgS.off2 (a := zeroR) HRz.out (RgS.zero' _) (put6_but (w := w2) (B := R) (x := y) (f := g) (A := C) (n := m) (c := d) (x' := y') (f' := g') (A' := C') (n' := m') (c' := d')) (HNr.out) HA.out)
     have HA4 := zH (RgS.off2 (a := zeroR) HRz.out (RgS.zero' _) (put6_but (w := w2) (B := R) (x := y) (f := g) (A := C) (n := m) (c := d) (x' := y') (f' := g') (A' := C') (n' := m') (c' := d')) (HNr.out) HA'.out)
     unfold put6 at y6 HBr HA3 HA4
     unfold prC
     go_wp2
     exact bodyPost_ret (v := .tuple #[.agg #[.int .i64 y, .bool g, .slice C m d, .int .i64 y', .bool g', .slice C' m' d'], .int .i64 0]) (by simp [results, Tryz.results78, go_sem, y6]) rfl ⟨y, g, C, m, d, y', g', C', m', d', rfl, HA3.out, HA4.out, HBr.out⟩
   · obtain rfl : n = 0 := by
      have h := HOK.out
      rw [headOk_cmp rfl, decide_eq_true_eq] at h
      exact h.1
     have hp : p = .nil ⟨3, cm, ⟨lk, lx, ⟨vk, vi, vt⟩⟩, ⟨rk, rx, ⟨uk, ui, ut⟩⟩⟩ := by rw [HS.out.nil_of, Hhd.out]
     obtain rfl : some (cmpPair cols ⟨3, cm, ⟨lk, lx, ⟨vk, vi, vt⟩⟩, ⟨rk, rx, ⟨uk, ui, ut⟩⟩⟩) = rr := by rw [← Hrr.out, node_cmp (by rw [Hhd.out]), Hhd.out]
     have HPc : Hid (Pair nc (cmpPair cols ⟨3, cm, ⟨lk, lx, ⟨vk, vi, vt⟩⟩, ⟨rk, rx, ⟨uk, ui, ut⟩⟩⟩)) := zH (by
      have h := (big_node (cols := cols) (p := p) (by have := Hcl.out; omega) HCB.out HV0.out HWF.out Hrr.out).pr
      rw [Hcl.out] at h
      exact h)
     have HS2 : Hid (PrdS w1 A 0 c (.nil ⟨3, cm, ⟨lk, lx, ⟨vk, vi, vt⟩⟩, ⟨rk, rx, ⟨uk, ui, ut⟩⟩⟩)) := zH (by rw [← hp]; exact HS.out)
     have HRG : Hid (okNd ⟨3, cm, ⟨lk, lx, ⟨vk, vi, vt⟩⟩, ⟨rk, rx, ⟨uk, ui, ut⟩⟩⟩) := zH (by have h := HWF.out.1; rw [Hhd.out] at h; exact h)
     clear Hrr hp
     go_wp2_with fail
     refine (bcompare_any cols cm ⟨lk, lx, ⟨vk, vi, vt⟩⟩ ⟨rk, rx, ⟨uk, ui, ut⟩⟩ A c Ac nc cc _ HC.out hn HCB.out HOK.out HRG.out HS2.out).mono ?_
     rintro e w2 ⟨y, g, C, m, d, y', g', C', m', d', rfl, hA, hA', hb⟩
     clear zx zb
     have HRz := zH (HR.out.below hb)
     have HBz := zH (Below.next HB.out hb)
     have HA := zH hA
     have HA' := zH hA'
     clear hA hA' hb
     have zr := HRz.out.cell
     have zf := HRz.out.free
     unfold prC at zr
     have y6 := (put6_blk (x := y) (f := g) (A := C) (n := m) (c := d) (x' := y') (f' := g') (A' := C') (n' := m') (c' := d') HRz.out).cell
     unfold prC at y6
     have HBr := zH (put6_below (x := y) (f := g) (A := C) (n := m) (c := d) (x' := y') (f' := g') (A' := C') (n' := m') (c' := d') HBz.out HRl.out)
     have HA3 := zH (RgS.off2 (a := zeroR) HRz.out (RgS.zero' _) (put6_but (w := w2) (B := R) (x := y) (f := g) (A := C) (n := m) (c := d) (x' := y') (f' := g') (A' := C') (n' := m') (c' := d')) ((pair_noEmp HPc.out).1) HA.out)
     have HA4 := zH (RgS.off2 (a := zeroR) HRz.out (RgS.zero' _) (put6_but (w := w2) (B := R) (x := y) (f := g) (A := C) (n := m) (c := d) (x' := y') (f' := g') (A' := C') (n' := m') (c' := d')) ((pair_noEmp HPc.out).2) HA'.out)
     unfold put6 at y6 HBr HA3 HA4
     unfold prC
     go_wp2
     exact bodyPost_ret (v := .tuple #[.agg #[.int .i64 y, .bool g, .slice C m d, .int .i64 y', .bool g', .slice C' m' d'], .int .i64 0]) (by simp [results, Tryz.results78, go_sem, y6]) rfl ⟨y, g, C, m, d, y', g', C', m', d', rfl, HA3.out, HA4.out, HBr.out⟩
   · have Hfo : Hid ((nx cols p).an (allR nc, allR nc) = rr) := zH (by rw [← Hrr.out, node_and (by rw [Hhd.out]), Hcl.out])
     have HRn : Hid (noEmp (oP rr).1 ∧ noEmp (oP rr).2) := zH (by
      cases hrx : rr with
      | none => exact ⟨trivial, trivial⟩
      | some r =>
        have h := (big_node (cols := cols) (p := p) (by have := Hcl.out; omega) HCB.out HV0.out HWF.out (Hrr.out.trans hrx)).pr
        exact pair_noEmp h)
     clear Hrr
     have zw := HBW.out.cell
     go_wp2_with fail
     refine (over_an_any cols p A n c Bc Bw nc _ HS.out hn Hcl.out (by have := HN.out; omega) HPRa.out (fun q hq A2 n2 c2 W hW hsq => IH.out q A2 n2 c2 W (by have h1 := nodes_mem hq; have h2 := HN.out; omega) (by have := HN.out; omega) hsq (HBC.out.below hW) (HC.out.keep (keeps_of hW)) (HBW.out.below hW) (HVA.out q hq) (HWA.out q hq))).mono ?_
     rintro e w2 ⟨y, g, C, m, d, y', g', C', m', d', rfl, hA, hA', hb⟩
     rw [Hfo.out] at hA hA' ⊢
     obtain ⟨er, Her⟩ : ∃ z, Hid (oE rr = z) := ⟨_, rfl⟩
     have Hpost : Hid (oE rr = er) := Her
     rw [Her.out]
     clear zx zb zw
     have HRz := zH (HR.out.below hb)
     have HBz := zH (Below.next HB.out hb)
     have HA := zH hA
     have HA' := zH hA'
     clear hA hA' hb
     have zr := HRz.out.cell
     have zf := HRz.out.free
     unfold prC at zr
     have y6 := (put6_blk (x := y) (f := g) (A := C) (n := m) (c := d) (x' := y') (f' := g') (A' := C') (n' := m') (c' := d') HRz.out).cell
     unfold prC at y6
     have HBr := zH (put6_below (x := y) (f := g) (A := C) (n := m) (c := d) (x' := y') (f' := g') (A' := C') (n' := m') (c' := d') HBz.out HRl.out)
     have HA3 := zH (RgS.off2 (a := zeroR) HRz.out (RgS.zero' _) (put6_but (w := w2) (B := R) (x := y) (f := g) (A := C) (n := m) (c := d) (x' := y') (f' := g') (A' := C') (n' := m') (c' := d')) (HRn.out.1) HA.out)
     have HA4 := zH (RgS.off2 (a := zeroR) HRz.out (RgS.zero' _) (put6_but (w := w2) (B := R) (x := y) (f := g) (A := C) (n := m) (c := d) (x' := y') (f' := g') (A' := C') (n' := m') (c' := d')) (HRn.out.2) HA'.out)
     unfold put6 at y6 HBr HA3 HA4
     unfold prC
     go_wp2
     exact bodyPost_ret (v := .tuple #[.agg #[.int .i64 y, .bool g, .slice C m d, .int .i64 y', .bool g', .slice C' m' d'], .int .i64 er]) (by simp [results, Tryz.results78, go_sem, y6]) rfl ⟨y, g, C, m, d, y', g', C', m', d', by rw [← Hpost.out]; rfl, HA3.out, HA4.out, HBr.out⟩
   · have Hfo : Hid ((nx cols p).or (Rg.nil (nc : Int) false, Rg.nil (nc : Int) false) = rr) := zH (by rw [← Hrr.out, node_or (by rw [Hhd.out]), Hcl.out])
     have HRn : Hid (noEmp (oP rr).1 ∧ noEmp (oP rr).2) := zH (by
      cases hrx : rr with
      | none => exact ⟨trivial, trivial⟩
      | some r =>
        have h := (big_node (cols := cols) (p := p) (by have := Hcl.out; omega) HCB.out HV0.out HWF.out (Hrr.out.trans hrx)).pr
        exact pair_noEmp h)
     clear Hrr
     have zw := HBW.out.cell
     go_wp2_with fail
     refine (over_or_any cols p A n c Bc Bw nc _ HS.out hn Hcl.out (by have := HN.out; omega) HPRa.out (fun q hq A2 n2 c2 W hW hsq => IH.out q A2 n2 c2 W (by have h1 := nodes_mem hq; have h2 := HN.out; omega) (by have := HN.out; omega) hsq (HBC.out.below hW) (HC.out.keep (keeps_of hW)) (HBW.out.below hW) (HVA.out q hq) (HWA.out q hq))).mono ?_
     rintro e w2 ⟨y, g, C, m, d, y', g', C', m', d', rfl, hA, hA', hb⟩
     rw [Hfo.out] at hA hA' ⊢
     obtain ⟨er, Her⟩ : ∃ z, Hid (oE rr = z) := ⟨_, rfl⟩
     have Hpost : Hid (oE rr = er) := Her
     rw [Her.out]
     clear zx zb zw
     have HRz := zH (HR.out.below hb)
     have HBz := zH (Below.next HB.out hb)
     have HA := zH hA
     have HA' := zH hA'
     clear hA hA' hb
     have zr := HRz.out.cell
     have zf := HRz.out.free
     unfold prC at zr
     have y6 := (put6_blk (x := y) (f := g) (A := C) (n := m) (c := d) (x' := y') (f' := g') (A' := C') (n' := m') (c' := d') HRz.out).cell
     unfold prC at y6
     have HBr := zH (put6_below (x := y) (f := g) (A := C) (n := m) (c := d) (x' := y') (f' := g') (A' := C') (n' := m') (c' := d') HBz.out HRl.out)
     have HA3 := zH (RgS.off2 (a := zeroR) HRz.out (RgS.zero' _) (put6_but (w := w2) (B := R) (x := y) (f := g) (A := C) (n := m) (c := d) (x' := y') (f' := g') (A' := C') (n' := m') (c' := d')) (HRn.out.1) HA.out)
     have HA4 := zH (RgS.off2 (a := zeroR) HRz.out (RgS.zero' _) (put6_but (w := w2) (B := R) (x := y) (f := g) (A := C) (n := m) (c := d) (x' := y') (f' := g') (A' := C') (n' := m') (c' := d')) (HRn.out.2) HA'.out)
     unfold put6 at y6 HBr HA3 HA4
     unfold prC
     go_wp2
     exact bodyPost_ret (v := .tuple #[.agg #[.int .i64 y, .bool g, .slice C m d, .int .i64 y', .bool g', .slice C' m' d'], .int .i64 er]) (by simp [results, Tryz.results78, go_sem, y6]) rfl ⟨y, g, C, m, d, y', g', C', m', d', by rw [← Hpost.out]; rfl, HA3.out, HA4.out, HBr.out⟩
   · obtain rfl : n = 1 := by
      have h := HOK.out
      rw [headOk_not rfl, Bool.and_eq_true, decide_eq_true_eq] at h
      exact h.1
     obtain ⟨b0, o0, q, A1, n1, c1, rfl, hq, dd⟩ := HS.out.at (show 0 < 1 by omega)
     have HSq0 := zH dd.s
     obtain ⟨d0, d1, d2, d3, d4, d5, d6, d7, d8, d9, d10, d11, d12, ds⟩ := dd
     simp only [Nat.zero_mul, Nat.add_zero] at d0 d1 d2 d3 d4 d5 d6 d7 d8 d9 d10 d11 d12
     have Hmem := zH (at_mem hq)
     have Hqn := zH (at_nodes hq)
     have Hno : Hid ((nodeX cols q).bind notX = rr) := zH (by rw [← Hrr.out, node_not (p := p) (by rw [Hhd.out]), fst_at hq])
     have HSlt : Hid (b0 < w1.heap.size) := zH (cell_lt (w := w1) (a := ⟨b0, o0, none⟩) (by rw [d0]; rfl))
     obtain ⟨oq, Hoq⟩ : ∃ z, Hid (nodeX cols q = z) := ⟨_, rfl⟩
     have HNq : Hid (noEmp (oP oq).1 ∧ noEmp (oP oq).2) := zH (by
      cases hoq : oq with
      | none => exact ⟨trivial, trivial⟩
      | some r => exact pair_noEmp (HPRa.out q Hmem.out r (Hoq.out.trans hoq)))
     clear ds hq Hrr
     go_upto_region 11 with fail
     clear zx zb
     have HXl : Hid (X < w1.heap.size ∧ Bw < w1.heap.size ∧ R < w1.heap.size) := zH ⟨HX.out.lt, HBW.out.lt, HR.out.lt⟩
     go_cut [6, 7] (fun v e w8 => ∃ (W2 : World) (U : Nat) (y : Int) (g : Bool) (C : Option Addr) (m d : Nat) (y' : Int) (g' : Bool) (C' : Option Addr) (m' d' : Nat), W2 = w8 ∧ v = .pointer (some ⟨U, 0, none⟩) ∧ e = .int .i64 (oE oq) ∧ Hid (w1.heap.size ≤ U) ∧ Hid (Blk w8 U 127 (prC y g C m d y' g' C' m' d')) ∧ Hid (RgS w8 y g C m d (oP oq).1) ∧ Hid (RgS w8 y' g' C' m' d' (oP oq).2) ∧ Hid (Below w1.heap.size w1 w8))
     case first =>
      obtain ⟨S, HSS⟩ : ∃ S : Nat → Prop, Hid ((fun q => w1.drew.heap.size ≤ q) = S) := ⟨_, rfl⟩
      have HSn : Hid (¬ S Bw ∧ ¬ S X ∧ ¬ S b0) := zH (by
       rw [← HSS.out]
       have h := HXl.out; have h2 := HSlt.out
       have e : w1.drew.heap.size = w1.heap.size := rfl
       refine ⟨?_, ?_, ?_⟩ <;> (intro h3; omega))
      refine wp_region_planB (But S) (fun _ _ _ h k => h.trans k) (.two [0, 1, 2, 3, 4] 5 (.one [6, 7, 8] 9 (.one [] 10 (.last [11]))) 9 (.one [] 5 (.one [6, 7, 8] 10 (.last [11])))) (by kernel_rfl) (by kernel_rfl) (fun _ _ d _ _ h => by cases d <;> exact h) ?_
      have qW : ∀ (z : LaterR (But S) w1.drew) j, (afterR (But S) w1.drew z).cell? ⟨Bw, j, none⟩ = (#[.func (.func 78) #[] #[.pointer (some ⟨Bc, 0, none⟩), .pointer (some ⟨Bw, 0, none⟩)]] : Array Value)[j]? := fun z j => z.cell (HBW.out.drew.cell j) (fun W h => (HBW.out.drew.but h HSn.out.1).cell j)
      have qX : ∀ (z : LaterR (But S) w1.drew) j, (afterR (But S) w1.drew z).cell? ⟨X, j, none⟩ = (#[.int .i64 6, .int .i64 cm, .int .i64 lk, .int .i64 lx, .int .i64 vk, .int .i64 vi, .string vt, .int .i64 rk, .int .i64 rx, .int .i64 uk, .int .i64 ui, .string ut, .slice (some ⟨b0, o0, none⟩) 1 c] : Array Value)[j]? := fun z j => z.cell (HX.out.drew.cell j) (fun W h => (HX.out.drew.but h HSn.out.2.1).cell j)
      have qd0 : ∀ (z : LaterR (But S) w1.drew), (afterR (But S) w1.drew z).cell? ⟨b0, o0, none⟩ = some (.int .i64 q.h.op) := fun z => z.cell d0 (fun W h => (World.cell?_of_block (a := ⟨b0, o0, none⟩) (h.block b0 HSlt.out HSn.out.2.2)).trans d0)
      have qd1 : ∀ (z : LaterR (But S) w1.drew), (afterR (But S) w1.drew z).cell? ⟨b0, o0 + 1, none⟩ = some (.int .i64 q.h.cm) := fun z => z.cell d1 (fun W h => (World.cell?_of_block (a := ⟨b0, o0 + 1, none⟩) (h.block b0 HSlt.out HSn.out.2.2)).trans d1)
      have qd2 : ∀ (z : LaterR (But S) w1.drew), (afterR (But S) w1.drew z).cell? ⟨b0, o0 + 2, none⟩ = some (.int .i64 q.h.l.k) := fun z => z.cell d2 (fun W h => (World.cell?_of_block (a := ⟨b0, o0 + 2, none⟩) (h.block b0 HSlt.out HSn.out.2.2)).trans d2)
      have qd3 : ∀ (z : LaterR (But S) w1.drew), (afterR (But S) w1.drew z).cell? ⟨b0, o0 + 3, none⟩ = some (.int .i64 q.h.l.ix) := fun z => z.cell d3 (fun W h => (World.cell?_of_block (a := ⟨b0, o0 + 3, none⟩) (h.block b0 HSlt.out HSn.out.2.2)).trans d3)
      have qd4 : ∀ (z : LaterR (But S) w1.drew), (afterR (But S) w1.drew z).cell? ⟨b0, o0 + 4, none⟩ = some (.int .i64 q.h.l.v.k) := fun z => z.cell d4 (fun W h => (World.cell?_of_block (a := ⟨b0, o0 + 4, none⟩) (h.block b0 HSlt.out HSn.out.2.2)).trans d4)
      have qd5 : ∀ (z : LaterR (But S) w1.drew), (afterR (But S) w1.drew z).cell? ⟨b0, o0 + 5, none⟩ = some (.int .i64 q.h.l.v.i) := fun z => z.cell d5 (fun W h => (World.cell?_of_block (a := ⟨b0, o0 + 5, none⟩) (h.block b0 HSlt.out HSn.out.2.2)).trans d5)
      have qd6 : ∀ (z : LaterR (But S) w1.drew), (afterR (But S) w1.drew z).cell? ⟨b0, o0 + 6, none⟩ = some (.string q.h.l.v.t) := fun z => z.cell d6 (fun W h => (World.cell?_of_block (a := ⟨b0, o0 + 6, none⟩) (h.block b0 HSlt.out HSn.out.2.2)).trans d6)
      have qd7 : ∀ (z : LaterR (But S) w1.drew), (afterR (But S) w1.drew z).cell? ⟨b0, o0 + 7, none⟩ = some (.int .i64 q.h.r.k) := fun z => z.cell d7 (fun W h => (World.cell?_of_block (a := ⟨b0, o0 + 7, none⟩) (h.block b0 HSlt.out HSn.out.2.2)).trans d7)
      have qd8 : ∀ (z : LaterR (But S) w1.drew), (afterR (But S) w1.drew z).cell? ⟨b0, o0 + 8, none⟩ = some (.int .i64 q.h.r.ix) := fun z => z.cell d8 (fun W h => (World.cell?_of_block (a := ⟨b0, o0 + 8, none⟩) (h.block b0 HSlt.out HSn.out.2.2)).trans d8)
      have qd9 : ∀ (z : LaterR (But S) w1.drew), (afterR (But S) w1.drew z).cell? ⟨b0, o0 + 9, none⟩ = some (.int .i64 q.h.r.v.k) := fun z => z.cell d9 (fun W h => (World.cell?_of_block (a := ⟨b0, o0 + 9, none⟩) (h.block b0 HSlt.out HSn.out.2.2)).trans d9)
      have qd10 : ∀ (z : LaterR (But S) w1.drew), (afterR (But S) w1.drew z).cell? ⟨b0, o0 + 10, none⟩ = some (.int .i64 q.h.r.v.i) := fun z => z.cell d10 (fun W h => (World.cell?_of_block (a := ⟨b0, o0 + 10, none⟩) (h.block b0 HSlt.out HSn.out.2.2)).trans d10)
      have qd11 : ∀ (z : LaterR (But S) w1.drew), (afterR (But S) w1.drew z).cell? ⟨b0, o0 + 11, none⟩ = some (.string q.h.r.v.t) := fun z => z.cell d11 (fun W h => (World.cell?_of_block (a := ⟨b0, o0 + 11, none⟩) (h.block b0 HSlt.out HSn.out.2.2)).trans d11)
      have qd12 : ∀ (z : LaterR (But S) w1.drew), (afterR (But S) w1.drew z).cell? ⟨b0, o0 + 12, none⟩ = some (.slice A1 n1 c1) := fun z => z.cell d12 (fun W h => (World.cell?_of_block (a := ⟨b0, o0 + 12, none⟩) (h.block b0 HSlt.out HSn.out.2.2)).trans d12)
      have hd1 : Below w1.heap.size w1 w1.drew := (Below.refl _ _).drew
      have HBCd := zH (HBC.out.below hd1)
      have HCd := zH (HC.out.keep (keeps_of hd1))
      have HBWd := zH (HBW.out.below hd1)
      have HSq := zH (HSq0.out.keep (keeps_of hd1))
      have HD := zH (Below.refl w1.drew.heap.size w1.drew)
      have Hwe : Hid (w1.drew.heap.size = w1.heap.size) := zH rfl
      have HW1 : Hid (∀ W, Below w1.drew.heap.size w1.drew W → Below w1.heap.size w1 W) := zH (fun W h => Below.trans (Below.refl w1.heap.size w1).drew h)
      clear hd1 HSq0 HX HR HB HS HBC HC HBW d0 d1 d2 d3 d4 d5 d6 d7 d8 d9 d10 d11 d12
      generalize hWd : w1.drew = wd at *
      clear hWd
      unfold wpPlanB
      simp only [pickOps, opAt, pkO]
      repeat (go_big_quiet_step (fail))
      refine wpQuiet_nil ?_
      clear qW qX qd0 qd1 qd2 qd3 qd4 qd5 qd6 qd7 qd8 qd9 qd10 qd11 qd12
      refine ⟨?_, ?_⟩
      · skip
        go_wp2_with fail
        refine (IH.out q A1 n1 c1 _ (by have h1 := Hqn.out; have h2 := HN.out; omega) (by have := HN.out; omega) HSq.out HBCd.out HCd.out HBWd.out (HVA.out q Hmem.out) (HWA.out q Hmem.out)).mono ?_
        rintro e v1 ⟨y, g, C, m, d, y', g', C', m', d', rfl, hX, hX', hb⟩
        rw [Hoq.out] at hX hX' ⊢
        go_wp2_with fail
        refine ⟨But.of_below hb, ?_⟩
        have HX1 := zH hX
        have HX2 := zH hX'
        replace HD := zH (Below.next HD.out hb)
        clear hX hX'
        clear hb HBCd HCd HBWd HSq
        unfold wpPlanB
        simp only [pickOps, opAt, pkO]
        go_simp
        repeat (go_big_quiet_step (fail))
        refine wpQuiet_nil ?_
        have hb9 : Below v1.heap.size v1 (v1.alloc (.cells #[.int .i64 0, .bool false, .slice none 0 0, .int .i64 0, .bool false, .slice none 0 0] 127)) := (Below.refl _ _).alloc (Nat.le_refl _) _
        have HU : Hid (Blk (v1.alloc (.cells #[.int .i64 0, .bool false, .slice none 0 0, .int .i64 0, .bool false, .slice none 0 0] 127)) v1.heap.size 127 (prC 0 false none 0 0 0 false none 0 0)) := zH (Blk.new v1 127 #[.int .i64 0, .bool false, .slice none 0 0, .int .i64 0, .bool false, .slice none 0 0])
        have HU0 : Hid (wd.heap.size ≤ v1.heap.size) := zH HD.out.size
        go_wp2_with fail
        refine ⟨But.of_below hb9, ?_⟩
        obtain ⟨U, HUe⟩ : ∃ z, Hid (v1.heap.size = z) := ⟨_, rfl⟩
        have HUl : Hid (wd.heap.size ≤ U) := zH (by have h1 := HU0.out; have h2 := HUe.out; omega)
        rw [HUe.out] at HU
        rw [HUe.out]
        replace HD := zH (Below.next HD.out hb9)
        replace HX1 := zH (HX1.out.keep (keeps_of hb9))
        replace HX2 := zH (HX2.out.keep (keeps_of hb9))
        generalize hWW : v1.alloc (.cells #[.int .i64 0, .bool false, .slice none 0 0, .int .i64 0, .bool false, .slice none 0 0] 127) = v2 at *
        clear hWW HUe HU0 hb9
        unfold wpPlanB
        simp only [pickOps, opAt, pkO]
        go_simp
        repeat (go_big_quiet_step (fail))
        refine wpQuiet_nil ?_
        have zr := HU.out.cell
        have zf := HU.out.free
        unfold prC at zr ⊢
        have HUr : Hid (Blk (put6 v2 U y g C m d y' g' C' m' d') U 127 (prC y g C m d y' g' C' m' d')) := zH (put6_blk HU.out)
        have HDr := zH (put6_below (x := y) (f := g) (A := C) (n := m) (c := d) (x' := y') (f' := g') (A' := C') (n' := m') (c' := d') HD.out HUl.out)
        have HX3 := zH (RgS.off2 (a := zeroR) HU.out (RgS.zero' _) (put6_but (w := v2) (B := U) (x := y) (f := g) (A := C) (n := m) (c := d) (x' := y') (f' := g') (A' := C') (n' := m') (c' := d')) HNq.out.1 HX1.out)
        have HX4 := zH (RgS.off2 (a := zeroR) HU.out (RgS.zero' _) (put6_but (w := v2) (B := U) (x := y) (f := g) (A := C) (n := m) (c := d) (x' := y') (f' := g') (A' := C') (n' := m') (c' := d')) HNq.out.2 HX2.out)
        have hbS : But (· = U) v2 (put6 v2 U y g C m d y' g' C' m' d') := put6_but
        have hbS2 : But S v2 (put6 v2 U y g C m d y' g' C' m' d') := ⟨hbS.os, hbS.tape, hbS.output, hbS.size, fun k hk hs => hbS.block k hk (fun e => hs (by rw [← HSS.out]; rw [e]; exact HUl.out))⟩
        clear hbS
        unfold put6 at HUr HDr HX3 HX4 hbS2
        go_wp2_with fail
        refine ⟨hbS2, ?_⟩
        unfold wpPlanB
        simp only [pickOps, opAt, pkO]
        go_simp
        repeat (go_big_quiet_step (fail))
        refine wpQuiet_nil ?_
        go_wp2_with fail
        go_meet
        case rel => exact ⟨_, U, y, g, C, m, d, y', g', C', m', d', rfl, rfl, rfl, zH (by have h1 := HUl.out; have h2 := Hwe.out; omega), HUr, HX3, HX4, zH (HW1.out _ HDr.out)⟩
      · skip
        have hb9 : Below wd.heap.size wd (wd.alloc (.cells #[.int .i64 0, .bool false, .slice none 0 0, .int .i64 0, .bool false, .slice none 0 0] 127)) := (Below.refl _ _).alloc (Nat.le_refl _) _
        have HU : Hid (Blk (wd.alloc (.cells #[.int .i64 0, .bool false, .slice none 0 0, .int .i64 0, .bool false, .slice none 0 0] 127)) wd.heap.size 127 (prC 0 false none 0 0 0 false none 0 0)) := zH (Blk.new wd 127 #[.int .i64 0, .bool false, .slice none 0 0, .int .i64 0, .bool false, .slice none 0 0])
        have HU0 : Hid (wd.heap.size ≤ wd.heap.size) := zH HD.out.size
        go_wp2_with fail
        refine ⟨But.of_below hb9, ?_⟩
        obtain ⟨U, HUe⟩ : ∃ z, Hid (wd.heap.size = z) := ⟨_, rfl⟩
        have HUl : Hid (wd.heap.size ≤ U) := zH (by have h1 := HU0.out; have h2 := HUe.out; omega)
        rw [HUe.out] at HU
        rw [HUe.out]
        replace HD := zH (Below.next HD.out hb9)
        replace HBCd := zH (HBCd.out.below hb9)
        replace HCd := zH (HCd.out.keep (keeps_of hb9))
        replace HBWd := zH (HBWd.out.below hb9)
        replace HSq := zH (HSq.out.keep (keeps_of hb9))
        generalize hWW : wd.alloc (.cells #[.int .i64 0, .bool false, .slice none 0 0, .int .i64 0, .bool false, .slice none 0 0] 127) = v1 at *
        clear hWW HUe HU0 hb9
        unfold wpPlanB
        simp only [pickOps, opAt, pkO]
        go_simp
        repeat (go_big_quiet_step (fail))
        refine wpQuiet_nil ?_
        go_wp2_with fail
        refine (IH.out q A1 n1 c1 _ (by have h1 := Hqn.out; have h2 := HN.out; omega) (by have := HN.out; omega) HSq.out HBCd.out HCd.out HBWd.out (HVA.out q Hmem.out) (HWA.out q Hmem.out)).mono ?_
        rintro e v2 ⟨y, g, C, m, d, y', g', C', m', d', rfl, hX, hX', hb⟩
        rw [Hoq.out] at hX hX' ⊢
        go_wp2_with fail
        refine ⟨But.of_below hb, ?_⟩
        have HX1 := zH hX
        have HX2 := zH hX'
        replace HD := zH (Below.next HD.out hb)
        clear hX hX'
        replace HU := zH (HU.out.below hb)
        clear hb HBCd HCd HBWd HSq
        unfold wpPlanB
        simp only [pickOps, opAt, pkO]
        go_simp
        repeat (go_big_quiet_step (fail))
        refine wpQuiet_nil ?_
        have zr := HU.out.cell
        have zf := HU.out.free
        unfold prC at zr ⊢
        have HUr : Hid (Blk (put6 v2 U y g C m d y' g' C' m' d') U 127 (prC y g C m d y' g' C' m' d')) := zH (put6_blk HU.out)
        have HDr := zH (put6_below (x := y) (f := g) (A := C) (n := m) (c := d) (x' := y') (f' := g') (A' := C') (n' := m') (c' := d') HD.out HUl.out)
        have HX3 := zH (RgS.off2 (a := zeroR) HU.out (RgS.zero' _) (put6_but (w := v2) (B := U) (x := y) (f := g) (A := C) (n := m) (c := d) (x' := y') (f' := g') (A' := C') (n' := m') (c' := d')) HNq.out.1 HX1.out)
        have HX4 := zH (RgS.off2 (a := zeroR) HU.out (RgS.zero' _) (put6_but (w := v2) (B := U) (x := y) (f := g) (A := C) (n := m) (c := d) (x' := y') (f' := g') (A' := C') (n' := m') (c' := d')) HNq.out.2 HX2.out)
        have hbS : But (· = U) v2 (put6 v2 U y g C m d y' g' C' m' d') := put6_but
        have hbS2 : But S v2 (put6 v2 U y g C m d y' g' C' m' d') := ⟨hbS.os, hbS.tape, hbS.output, hbS.size, fun k hk hs => hbS.block k hk (fun e => hs (by rw [← HSS.out]; rw [e]; exact HUl.out))⟩
        clear hbS
        unfold put6 at HUr HDr HX3 HX4 hbS2
        go_wp2_with fail
        refine ⟨hbS2, ?_⟩
        unfold wpPlanB
        simp only [pickOps, opAt, pkO]
        go_simp
        repeat (go_big_quiet_step (fail))
        refine wpQuiet_nil ?_
        go_wp2_with fail
        go_meet
        case rel => exact ⟨_, U, y, g, C, m, d, y', g', C', m', d', rfl, rfl, rfl, zH (by have h1 := HUl.out; have h2 := Hwe.out; omega), HUr, HX3, HX4, zH (HW1.out _ HDr.out)⟩
     case rest =>
      clear d0 d1 d2 d3 d4 d5 d6 d7 d8 d9 d10 d11 d12 HSq0 HSlt HS HX HBC HBW HC
      obtain ⟨w2, U, y, g, C, m, d, y', g', C', m', d', rfl, rfl, rfl, HUl, HU, HX1, HX2, HBe⟩ := hcut
      have HR2 := zH (HR.out.below HBe.out)
      have HB2 := zH (Below.next HB.out HBe.out)
      have HUR : Hid (U ≠ R ∧ w.heap.size ≤ U) := zH (by have h1 := HUl.out; have h2 := HXl.out; have h3 := HB.out.size; omega)
      clear HR HB HBe
      cases oq with
      | none =>
        obtain rfl : none = rr := by rw [← Hno.out, Hoq.out]; rfl
        rw [show oE none = 2 from rfl]
        have zr := HR2.out.cell
        have zf := HR2.out.free
        unfold prC at zr
        have y6 := (put6_blk (x := 0) (f := false) (A := none) (n := 0) (c := 0) (x' := 0) (f' := false) (A' := none) (n' := 0) (c' := 0) HR2.out).cell
        unfold prC at y6
        have HBr := zH (put6_below (x := 0) (f := false) (A := none) (n := 0) (c := 0) (x' := 0) (f' := false) (A' := none) (n' := 0) (c' := 0) HB2.out HRl.out)
        unfold put6 at y6 HBr
        go_wp2
        exact bodyPost_ret (v := .tuple #[.agg #[.int .i64 0, .bool false, .slice none 0 0, .int .i64 0, .bool false, .slice none 0 0], .int .i64 2]) (by simp [results, Tryz.results78, go_sem, y6]) rfl ⟨0, false, none, 0, 0, 0, false, none, 0, 0, rfl, RgS.zero' _, RgS.zero' _, HBr.out⟩
      | some r =>
        rw [show oE (some r) = 0 from rfl]
        have HPr := zH (HPRa.out q Hmem.out r Hoq.out)
        replace HX1 : Hid (RgS _ y g C m d r.1) := HX1
        replace HX2 : Hid (RgS _ y' g' C' m' d' r.2) := HX2
        go_upto_region 14 with fail
        refine wp_region_planR [14] (lessB w2.drew.heap.size) anyW (lessB_trans _) anyW_trans (.one [0, 1, 6, 7] [] 2 (.one [3, 4] [] 5 (.one [] [] 8 (.one [9, 10] [] 11 (.one [12] [13] 14 (.last [15] [])))))) (by kernel_rfl) (by kernel_rfl) (fun _ _ d _ _ h => by cases d <;> exact h) ?_
        have hbd : Below w2.heap.size w2 w2.drew := (Below.refl _ _).drew
        replace HU := zH (HU.out.below hbd)
        replace HX1 := zH (HX1.out.keep (keeps_of hbd))
        replace HX2 := zH (HX2.out.keep (keeps_of hbd))
        replace HR2 := zH (HR2.out.below hbd)
        replace HB2 := zH (Below.next HB2.out hbd)
        clear hbd
        generalize hWd : w2.drew = wd at *
        clear hWd
        have HUlt := zH HU.out.lt
        have HRlt := zH HR2.out.lt
        have HBs : Hid (w.heap.size ≤ wd.heap.size) := zH HB2.out.size
        have qU : ∀ (z : LaterR (lessB wd.heap.size) wd) j, (afterR (lessB wd.heap.size) wd z).cell? ⟨U, j, none⟩ = (prC y g C m d y' g' C' m' d')[j]? := fun z j => z.cell (HU.out.cell j) (fun W h => (keep_blk HU.out h HUlt.out).cell j)
        unfold prC at qU
        unfold wpPlanR
        simp only [pickOps, opAt, pkO]
        repeat (go_big_quiet_step (fail))
        refine wpQuiet_nil ?_
        repeat (go_big_quiet_step (fail))
        refine wpQuiet_nil ?_
        clear qU HU
        go_wp2_with fail
        refine (gcomplement_any r.2 y' g' C' m' d' _ HX2.out HPr.out.f2).mono ?_
        rintro e w7 ⟨h1, k1, D1, l1, b1, rfl, hR, hb⟩
        obtain ⟨e1, He1⟩ : ∃ z, Hid (cpErr r.2 = z) := ⟨_, rfl⟩
        rw [He1.out]
        go_wp2_with fail
        refine ⟨⟨fun _ => lessB_of hb (Nat.le_refl _), trivial⟩, ?_⟩
        have HWs : Hid (wd.heap.size ≤ w7.heap.size) := zH hb.size
        replace HX1 := zH (HX1.out.keep (keeps_of hb))
        replace HR2 := zH (HR2.out.below hb)
        replace HB2 := zH (Below.next HB2.out hb)
        have HI := zH hR
        clear hb hR HX2
        unfold wpPlanR
        simp only [pickOps, opAt, pkO]
        repeat (go_big_quiet_step (fail))
        refine wpQuiet_nil ?_
        repeat (go_big_quiet_step (fail))
        refine wpQuiet_nil ?_
        go_wp2_with fail
        refine (bjoin_any h1 k1 D1 l1 b1 e1 _).mono ?_
        rintro e w8 ⟨P, Z, rfl, hPl, hP, hZ, hb⟩
        go_wp2_with fail
        refine ⟨⟨fun _ => lessB_of hb HWs.out, trivial⟩, ?_⟩
        have HPl : Hid (wd.heap.size ≤ P ∧ R ≠ P) := zH (by have h1 := HRlt.out; have h2 := HWs.out; omega)
        replace HWs : Hid (wd.heap.size ≤ w8.heap.size) := zH (Nat.le_trans HWs.out hb.size)
        replace HX1 := zH (HX1.out.keep (keeps_of hb))
        replace HI := zH (HI.out.keep (keeps_of hb))
        replace HR2 := zH (HR2.out.below hb)
        replace HB2 := zH (Below.next HB2.out hb)
        have HP := zH hP
        have HZ := zH hZ
        clear hb hPl hP hZ
        unfold wpPlanR
        simp only [pickOps, opAt, pkO]
        repeat (go_big_quiet_step (fail))
        refine wpQuiet_nil ?_
        repeat (go_big_quiet_step (fail))
        refine wpQuiet_nil ?_
        go_wp2_with fail
        refine (gcomplement_any r.1 y g C m d _ HX1.out HPr.out.f1).mono ?_
        rintro e w9 ⟨h2, k2, D2, l2, b2, rfl, hR, hb⟩
        obtain ⟨e2, He2⟩ : ∃ z, Hid (cpErr r.1 = z) := ⟨_, rfl⟩
        rw [He2.out]
        go_wp2_with fail
        refine ⟨⟨fun _ => lessB_of hb HWs.out, trivial⟩, ?_⟩
        replace HWs : Hid (wd.heap.size ≤ w9.heap.size) := zH (Nat.le_trans HWs.out hb.size)
        replace HI := zH (HI.out.keep (keeps_of hb))
        replace HR2 := zH (HR2.out.below hb)
        replace HB2 := zH (Below.next HB2.out hb)
        replace HP := zH (HP.out.below hb)
        replace HZ := zH (HZ.out.below hb)
        have HJ := zH hR
        clear hb hR HX1
        unfold wpPlanR
        simp only [pickOps, opAt, pkO]
        repeat (go_big_quiet_step (fail))
        refine wpQuiet_nil ?_
        repeat (go_big_quiet_step (fail))
        refine wpQuiet_nil ?_
        obtain ⟨ho1, hn1'⟩ := cp_noEmp HPr.out.o2 HPr.out.w2
        obtain ⟨ho2, hn2'⟩ := cp_noEmp HPr.out.o1 HPr.out.w1
        rw [He1.out] at ho1
        rw [He2.out] at ho2
        have HO : Hid ((e1 = 0 ∨ e1 = 2) ∧ (e2 = 0 ∨ e2 = 2)) := zH ⟨ho1, ho2⟩
        have HNn : Hid (noEmp (cpRes r.2) ∧ noEmp (cpRes r.1)) := zH ⟨hn1', hn2'⟩
        clear ho1 ho2 hn1' hn2'
        go_wp2_with fail
        refine (bjoin1_any h1 k1 D1 l1 b1 (cpRes r.2) e1 h2 k2 D2 l2 b2 (cpRes r.1) e2 P Z _ HP.out HZ.out HI.out HJ.out HNn.out.1 HNn.out.2).mono ?_
        rintro e v1 ⟨s1, t1, E1, i1, j1, s2, t2, E2, i2, j2, rfl, hI, hJ, hu⟩
        go_wp2_with fail
        refine ⟨⟨fun _ => hu.below (Below.refl wd.heap.size _) HWs.out (fun k hk => by subst hk; exact HPl.out.1), trivial⟩, ?_⟩
        replace HR2 := zH (HR2.out.but hu HPl.out.2)
        replace HB2 := zH (hu.below HB2.out HB2.out.size (fun k hk => by subst hk; have h1 := HPl.out.1; have h2 := HBs.out; omega))
        obtain ⟨je, Hje⟩ : ∃ z, Hid (jE e1 e2 = z) := ⟨_, rfl⟩
        have Hno2 : Hid (oP rr = (jR e1 e2 (cpRes r.2), jR e1 e2 (cpRes r.1)) ∧ oE rr = je) := zH (by
         rw [← Hno.out, Hoq.out, Option.bind_some, ← Hje.out]
         have h := HO.out
         unfold notX jR jE
         rw [He1.out, He2.out]
         by_cases hall : e1 = 0 ∧ e2 = 0
         · rw [if_pos hall, if_pos hall, if_pos hall, if_pos hall.1, hall.2]
           exact ⟨rfl, rfl⟩
         · rw [if_neg hall, if_neg hall, if_neg hall]
           refine ⟨rfl, ?_⟩
           show (2 : Int) = _
           split <;> omega)
        have HNj : Hid (noEmp (jR e1 e2 (cpRes r.2)) ∧ noEmp (jR e1 e2 (cpRes r.1))) := zH (by
         unfold jR
         split
         · exact HNn.out
         · exact ⟨trivial, trivial⟩)
        have HA := zH hI
        have HA' := zH hJ
        rw [Hje.out]
        clear hu hI hJ HI HJ HP HZ
        unfold prC
        unfold wpPlanR
        simp only [pickOps, opAt, pkO]
        repeat (go_big_quiet_step (fail))
        refine wpQuiet_nil ?_
        repeat (go_big_quiet_step (fail))
        refine wpQuiet_nil ?_
        have zr := HR2.out.cell
        have zf := HR2.out.free
        unfold prC at zr
        have y6 := (put6_blk (x := s1) (f := t1) (A := E1) (n := i1) (c := j1) (x' := s2) (f' := t2) (A' := E2) (n' := i2) (c' := j2) HR2.out).cell
        unfold prC at y6
        have HBr := zH (put6_below (x := s1) (f := t1) (A := E1) (n := i1) (c := j1) (x' := s2) (f' := t2) (A' := E2) (n' := i2) (c' := j2) HB2.out HRl.out)
        have HA3 := zH (RgS.off2 (a := zeroR) HR2.out (RgS.zero' _) (put6_but (w := v1) (B := R) (x := s1) (f := t1) (A := E1) (n := i1) (c := j1) (x' := s2) (f' := t2) (A' := E2) (n' := i2) (c' := j2)) HNj.out.1 HA.out)
        have HA4 := zH (RgS.off2 (a := zeroR) HR2.out (RgS.zero' _) (put6_but (w := v1) (B := R) (x := s1) (f := t1) (A := E1) (n := i1) (c := j1) (x' := s2) (f' := t2) (A' := E2) (n' := i2) (c' := j2)) HNj.out.2 HA'.out)
        unfold put6 at y6 HBr HA3 HA4
        go_wp2_with fail
        refine ⟨⟨fun h => (h (by decide)).elim, trivial⟩, ?_⟩
        unfold wpPlanR
        simp only [pickOps, opAt, pkO]
        go_simp
        repeat (go_big_quiet_step (fail))
        refine wpQuiet_nil ?_
        repeat (go_big_quiet_step (fail))
        refine wpQuiet_nil ?_
        have HF1 := zH Hno2.out.1
        rw [show jR e1 e2 (cpRes r.2) = (oP rr).1 from by rw [HF1.out]] at HA3
        rw [show jR e1 e2 (cpRes r.1) = (oP rr).2 from by rw [HF1.out]] at HA4
        go_wp2
        exact bodyPost_ret (v := .tuple #[.agg #[.int .i64 s1, .bool t1, .slice E1 i1 j1, .int .i64 s2, .bool t2, .slice E2 i2 j2], .int .i64 je]) (by simp [results, Tryz.results78, go_sem, y6]) rfl ⟨s1, t1, E1, i1, j1, s2, t2, E2, i2, j2, by rw [Hno2.out.2]; rfl, HA3.out, HA4.out, HBr.out⟩
end Go.Proofs.YtnnmlhmffnfjfaaGreat
namespace Go.Proofs.YtnnmlhmffnfjfaaGreat
open Go.RowKit
open Pd
theorem colB_step {cs : List Int} {k : Nat} {x : Int} (h : cs[k]? = some x) : colB (cs.drop k) = (decide (3 ≤ x ∧ x ≤ 5) && colB (cs.drop (k + 1))) := by
 have hk : k < cs.length := (List.getElem?_eq_some_iff.1 h).1
 have he : cs[k] = x := (List.getElem?_eq_some_iff.1 h).2
 rw [List.drop_eq_getElem_cons hk, he]
 rfl
theorem colK_any (A : Option Addr) (n c : Nat) (cs : List Int) (w : World) (hs : ClS w A n cs) (hnm : n ≤ 9223372036854775807) :
 Calls Tryz.prog 128 #[.slice A n c] w fun e w' => e = .returned (.bool (colB cs)) ∧ w = w' := by
 have HS := zH hs
 have Hln := zH hs.len
 clear hs
 obtain ⟨rr, Hrr⟩ : ∃ z, Hid (colB (cs.drop 0) = z) := ⟨_, rfl⟩
 have hrr : colB cs = rr := Hrr.out
 rw [hrr]
 clear hrr
 go_enter Tryz.func128, Tryz.ntmps128
 go_wp2_with fail
 go_loop [7] (fun i => ∃ k : Nat, k ≤ n ∧ i = .int .i64 (k : Int) ∧ Hid (colB (cs.drop k) = rr)) (fun i => n - (intOf i).toNat)
 case atStart => exact ⟨0, by omega, rfl, Hrr⟩
 case round =>
  obtain ⟨k, hk, rfl, Hq⟩ := hrel
  clear Hrr
  by_cases hlt : k < n
  · obtain ⟨b, o, x, rfl, hx, hxc⟩ := HS.out.at hlt
    have d0 := hxc 0 _ rfl
    simp only [Nat.mul_one, Nat.add_zero] at d0
    have Hs := zH (colB_step hx)
    clear hx hxc
    by_cases hx3 : 3 ≤ x ∧ x ≤ 5
    · have Hn : Hid (colB (cs.drop (k + 1)) = rr) := zH (by rw [← Hq.out, Hs.out, decide_eq_true hx3]; rfl)
      have h : x = 3 ∨ x = 4 ∨ x = 5 := by omega
      clear hx3 Hs Hq
      rcases h with rfl | rfl | rfl
      all_goals
       go_wp2
       go_round
       case rel => exact ⟨k + 1, by omega, by go_num, Hn⟩
       case measure => simp [intOf]; omega
    · obtain rfl : rr = false := by rw [← Hq.out, Hs.out, decide_eq_false hx3]; rfl
      have g3 : (x != 3) = true := by simp; omega
      have g4 : (x != 4) = true := by simp; omega
      have g5 : (x != 5) = true := by simp; omega
      clear hx3 Hs Hq
      go_wp2
      go_ret
      exact ⟨rfl, rfl⟩
  · obtain rfl : rr = true := by
     rw [← Hq.out, List.drop_eq_nil_of_le (by rw [Hln.out]; omega)]
     rfl
    clear Hq
    go_wp2
    go_ret
    exact ⟨rfl, rfl⟩
theorem sm_lt {l : Nat} {b x : Int} {p : Pd} (h : smB l b p = some x) : 0 ≤ x ∧ x < b := by
 have hn := nodes_pos p
 unfold smB at h
 split at h
 · cases h
 · rename_i h1
   rw [smA_eq p (l + 1) (b - 1) (by omega) (by omega)] at h
   split at h
   · injection h with h
     omega
   · cases h
def SmRes (w : World) (B : Nat) (o : Option Int) (e : Ending) (w' : World) : Prop := ∃ b' : Int, e = .returned (.bool o.isSome) ∧ Blk w' B 3 #[.int .i64 b'] ∧ (∀ x, o = some x → b' = x) ∧ But (· = B) w w'
set_option maxHeartbeats 4000000 in
theorem small_any : ∀ (N : Nat) (p : Pd) (A : Option Addr) (n c : Nat) (l : Nat) (li b : Int) (B : Nat) (w : World), p.nodes ≤ N → PrdS w A n c p → Blk w B 3 #[.int .i64 b] → li = (l : Int) → l ≤ 9 → 0 ≤ b → b ≤ 24 →
 Calls Tryz.prog 129 #[.agg (pdV p.h A n c), .int .i64 li, .pointer (some ⟨B, 0, none⟩)] w fun e w' => SmRes w B (smB l b p) e w' := by
 intro N
 induction N with
 | zero => intro p A n c l li b B w hN; have := nodes_pos p; omega
 | succ N ih =>
   intro p A n c l li b B w hN hs hb hli hl h0 h24
   have IH := zH ih
   have HN := zH hN
   have HS := zH (hs.keep (keeps_alloc w (.cells (pdV p.h A n c) 64)))
   have HB := zH (hb.alloc (.cells (pdV p.h A n c) 64))
   have HU : Hid (But (· = B) w (w.alloc (.cells (pdV p.h A n c) 64))) := zH (But.of_below ((Below.refl _ _).alloc (Nat.le_refl _) _))
   have HX := zH (Blk.new w 64 (pdV p.h A n c))
   have Hne := zH (show B ≠ w.heap.size by have := hb.lt; omega)
   have Hli := zH hli
   clear ih hN hs hb hli
   unfold pdV at HX HS HB HU ⊢
   obtain ⟨rr, Hrr⟩ : ∃ z, Hid (smB l b p = z) := ⟨_, rfl⟩
   rw [Hrr.out]
   go_enter Tryz.func129, Tryz.ntmps129
   obtain ⟨X, HXe⟩ : ∃ z, Hid (w.heap.size = z) := ⟨_, rfl⟩
   rw [HXe.out] at HX Hne
   go_upto_region 1 with fail
   rw [HXe.out]
   generalize hW1 : w.alloc (.cells #[.int .i64 p.h.op, .int .i64 p.h.cm, .int .i64 p.h.l.k, .int .i64 p.h.l.ix, .int .i64 p.h.l.v.k, .int .i64 p.h.l.v.i, .string p.h.l.v.t, .int .i64 p.h.r.k, .int .i64 p.h.r.ix, .int .i64 p.h.r.v.k, .int .i64 p.h.r.v.i, .string p.h.r.v.t, .slice A n c] 64) = w1 at *
   clear hW1 HXe
   have z := HB.out.cell
   have zf := HB.out.free 0
   have HB2 : Hid (Blk (w1.setCell ⟨B, 0, none⟩ (.int .i64 (b - 1))) B 3 #[.int .i64 (b - 1)]) := zH (HB.out.set_ 0 (.int .i64 (b - 1)))
   have HU2 := zH (But.set (S := fun k => k = B) w1 (p := ⟨B, 0, none⟩) rfl (.int .i64 (b - 1)))
   have HX2 := zH (HX.out.but HU2.out (fun e => Hne.out e.symm))
   have HS2 := zH (HS.out.blk HB.out (by simp) HU2.out)
   replace HU := zH (HU.out.trans HU2.out)
   go_upto_region 2 with fail
   generalize hW2 : w1.setCell ⟨B, 0, none⟩ (.int .i64 (b - 1)) = w2 at *
   clear hW2 z zf HB HU2 HX HS
   have z := HB2.out.cell
   by_cases hbad : b - 1 < 0 ∨ 8 < l
   · obtain rfl : none = rr := by rw [← Hrr.out, smB, if_pos hbad]
     by_cases h1 : b - 1 < 0
     · have g1 : decide (b - 1 < 0) = true := decide_eq_true h1
       clear h1 hbad
       go_wp2
       go_ret
       exact ⟨_, rfl, HB2.out, fun x h => (by cases h), HU.out⟩
     · have g1 : decide (b - 1 < 0) = false := decide_eq_false h1
       have g2 : decide (8 < li) = true := decide_eq_true (by have := Hli.out; omega)
       clear h1 hbad
       go_wp2
       go_ret
       exact ⟨_, rfl, HB2.out, fun x h => (by cases h), HU.out⟩
   · have g1 : decide (b - 1 < 0) = false := decide_eq_false (fun h => hbad (.inl h))
     have g2 : decide (8 < li) = false := decide_eq_false (by have := Hli.out; omega)
     have hl8 : l ≤ 8 := by omega
     have H0 : Hid (smA (l + 1) (b - 1) (p.rest 0) = rr) := zH (by rw [rest_zero, ← Hrr.out, smB, if_neg hbad])
     have hb0 : 0 ≤ b - 1 := by omega
     have hlm : li + 1 ≤ 9 := by have := Hli.out; omega
     have hl0 : 0 ≤ li := by have := Hli.out; omega
     clear hbad Hrr
     have zx := HX2.out.cell
     go_wp2_with fail
     go_loopw [25] (fun i wr => ∃ (k : Nat) (bk : Int), k ≤ n ∧ i = .int .i64 (k : Int) ∧ 0 ≤ bk ∧ (k : Int) + bk ≤ 24 ∧ Hid (smA (l + 1) bk (p.rest k) = rr) ∧ Hid (Blk wr B 3 #[.int .i64 bk]) ∧ Hid (But (· = B) w2 wr)) (fun i _ => n - (intOf i).toNat)
     case atStart => exact ⟨0, b - 1, by omega, rfl, by omega, by omega, H0, HB2, zH (But.refl _ _)⟩
     case round =>
      obtain ⟨k, bk, hk, rfl, hbk0, hbk1, Hq, HBk, HUk⟩ := hrel
      clear z zx g1 g2 H0
      by_cases hlt : k < n
      · have HSk := zH (HS2.out.blk HB2.out (by simp) HUk.out)
        obtain ⟨b', o', q, A1, n1, c1, rfl, hq, d⟩ := HSk.out.at hlt
        have HSq := zH (d.s.keep (keeps_alloc wr (.cells #[.int .i64 q.h.op, .int .i64 q.h.cm, .int .i64 q.h.l.k, .int .i64 q.h.l.ix, .int .i64 q.h.l.v.k, .int .i64 q.h.l.v.i, .string q.h.l.v.t, .int .i64 q.h.r.k, .int .i64 q.h.r.ix, .int .i64 q.h.r.v.k, .int .i64 q.h.r.v.i, .string q.h.r.v.t, .slice A1 n1 c1] 64)))
        obtain ⟨d0, d1, d2, d3, d4, d5, d6, d7, d8, d9, d10, d11, d12, ds⟩ := d
        have Hqn := zH (at_nodes hq)
        have Hst := zH (sm_rest hq (l + 1) bk)
        have HBa := zH (HBk.out.alloc (.cells #[.int .i64 q.h.op, .int .i64 q.h.cm, .int .i64 q.h.l.k, .int .i64 q.h.l.ix, .int .i64 q.h.l.v.k, .int .i64 q.h.l.v.i, .string q.h.l.v.t, .int .i64 q.h.r.k, .int .i64 q.h.r.ix, .int .i64 q.h.r.v.k, .int .i64 q.h.r.v.i, .string q.h.r.v.t, .slice A1 n1 c1] 64))
        have HUa := zH (HUk.out.allocNew (.cells #[.int .i64 q.h.op, .int .i64 q.h.cm, .int .i64 q.h.l.k, .int .i64 q.h.l.ix, .int .i64 q.h.l.v.k, .int .i64 q.h.l.v.i, .string q.h.l.v.t, .int .i64 q.h.r.k, .int .i64 q.h.r.ix, .int .i64 q.h.r.v.k, .int .i64 q.h.r.v.i, .string q.h.r.v.t, .slice A1 n1 c1] 64))
        have HY := zH (Blk.new wr 64 (pdV q.h A1 n1 c1))
        unfold pdV at HY
        clear ds hq
        obtain ⟨Y, HYe⟩ : ∃ z, Hid (wr.heap.size = z) := ⟨_, rfl⟩
        rw [HYe.out] at HY
        go_upto_region 7 with fail
        rw [HYe.out]
        generalize hW3 : wr.alloc (.cells #[.int .i64 q.h.op, .int .i64 q.h.cm, .int .i64 q.h.l.k, .int .i64 q.h.l.ix, .int .i64 q.h.l.v.k, .int .i64 q.h.l.v.i, .string q.h.l.v.t, .int .i64 q.h.r.k, .int .i64 q.h.r.ix, .int .i64 q.h.r.v.k, .int .i64 q.h.r.v.i, .string q.h.r.v.t, .slice A1 n1 c1] 64) = w3 at *
        clear hW3 HYe d0 d1 d2 d3 d4 d5 d6 d7 d8 d9 d10 d11 d12 HSk
        have zy := HY.out.cell
        go_wp2_with fail
        refine (IH.out q A1 n1 c1 (l + 1) (li + 1) bk B _ (by have := Hqn.out; have := HN.out; omega) HSq.out HBa.out (by have := Hli.out; omega) (by omega) hbk0 (by omega)).mono ?_
        rintro e w4 ⟨b4, rfl, hb4, hx4, hu4⟩
        have HB4 := zH hb4
        have HX4 := zH hx4
        have HU4 := zH (HUa.out.trans hu4)
        clear hb4 hx4 hu4 zy
        obtain ⟨oq, Hoq⟩ : ∃ z, Hid (smB (l + 1) bk q = z) := ⟨_, rfl⟩
        rw [Hoq.out] at HX4 Hst ⊢
        cases oq with
        | none =>
          obtain rfl : none = rr := by rw [← Hq.out, Hst.out]
          go_wp2
          go_ret
          exact ⟨_, rfl, HB4.out, fun x h => (by cases h), HU.out.trans HU4.out⟩
        | some x =>
          obtain ⟨hx0, hx1⟩ := sm_lt Hoq.out
          obtain rfl : b4 = x := HX4.out x rfl
          go_wp2
          go_roundw
          case rel => exact ⟨k + 1, b4, by omega, by go_num, by omega, by omega, zH (by rw [← Hq.out, Hst.out]), HB4, HU4⟩
          case measure => simp [intOf]; omega
      · obtain rfl : some bk = rr := by
         rw [← Hq.out, rest_end (by rw [← HS2.out.len]; omega)]
         rfl
        go_wp2
        go_ret
        exact ⟨_, rfl, HBk.out, fun x h => (by injection h), HU.out.trans HUk.out⟩
end Go.Proofs.YtnnmlhmffnfjfaaGreat
