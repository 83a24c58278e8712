/-
  Texts: Events, Flat, GroupM, RegionT.
-/
import Derived.Test.YtnnmlhmffnfjfaaGreatB11
set_option linter.unusedVariables false
set_option maxRecDepth 100000
namespace Go.Proofs.YtnnmlhmffnfjfaaGreat
open Go.RowKit
open Rg
theorem info_ev : (Tryz.prog.info? 227).map (fun i => (i.zero, i.size, i.bytes)) = some (some (.agg #[.int .i64 0, .int .i64 0, .string ⟨#[]⟩, .int .i64 0, .int .i64 0, .bool false]), 6, 56) := by kernel_rfl
set_option maxRecDepth 100000 in
set_option maxHeartbeats 8000000 in
theorem events_any (a : Rg) (x : Int) (f : Bool) (A : Option Addr) (n c : Nat) (b : Rg) (y : Int) (g : Bool) (B : Option Addr) (m d : Nat) (w : World) (hA : RgS w x f A n c a) (hB : RgS w y g B m d b) (ha : a.fits = true) (hb : b.fits = true) (hna : n ≤ 64) (hnb : m ≤ 64) :
 Calls Tryz.prog 204 #[.agg #[.int .i64 x, .bool f, .slice A n c], .agg #[.int .i64 y, .bool g, .slice B m d]] w fun e w' => ∃ (qs : List Ev) (A' : Option Addr) (c' : Nat), e = .returned (.slice A' qs.length c') ∧ EvSorted a b qs ∧ Sl 6 Ev.cs w' A' qs.length qs ∧ qs.length ≤ 20000 ∧ Below w.heap.size w w' := by
 obtain ⟨i0, hi, hz0, hz1, hz2⟩ := info_parts info_ev
 have H0 := zH hA
 have H1 := zH hB
 have HF0 := zH ha
 have HF1 := zH hb
 have HW2 : Hid (Below w.heap.size w ((w.alloc (.cells #[.int .i64 x, .bool f, .slice A n c] 71)).alloc (.cells #[.int .i64 y, .bool g, .slice B m d] 71))) := zH (((Below.refl _ _).alloc (Nat.le_refl _) _).alloc (by simp) _)
 clear hA hB ha hb
 have ix0 : ∀ w : World, (Instr.index 261 (.agg #[.int .i64 x, .bool f, .slice A n c, .int .i64 y, .bool g, .slice B m d]) (.int .i64 0)).run Tryz.prog w = .ok (.agg #[.int .i64 x, .bool f, .slice A n c]) w := fun _ => by kernel_rfl
 have ix1 : ∀ w : World, (Instr.index 261 (.agg #[.int .i64 x, .bool f, .slice A n c, .int .i64 y, .bool g, .slice B m d]) (.int .i64 1)).run Tryz.prog w = .ok (.agg #[.int .i64 y, .bool g, .slice B m d]) w := fun _ => by kernel_rfl
 go_enter Tryz.func204, Tryz.ntmps204
 go_wp2
 go_loopw [5, 15] (fun v i wr => ∃ (m0 : Nat) (A0 : Option Addr) (c0 : Nat) (col0 : List Ev), v = .slice A0 m0 c0 ∧ wr.ownsRow w.heap.size 227 6 (.slice A0 m0 c0) m0 (col0.flatMap Ev.cs) ∧ col0.length = m0 ∧ Below w.heap.size w wr ∧ ((i = .int .i64 0 ∧ col0 = [] ∧ m0 = 0) ∨ (i = .int .i64 1 ∧ col0 = evR 0 0 a.parts ∧ m0 ≤ 8192) ∨ (i = .int .i64 2 ∧ col0 = evR 0 0 a.parts ++ evR 1 0 b.parts ∧ m0 ≤ 16384))) (fun _ i _ => 2 - (intOf i).toNat)
 case atStart => exact ⟨0, none, 0, [], rfl, ⟨by simp, .inl ⟨rfl, rfl⟩⟩, rfl, HW2.out, .inl ⟨rfl, rfl, rfl⟩⟩
 case round =>
  obtain ⟨m0, A0, c0, col0, rfl, ho0, hl0', hb0, hor⟩ := hrel
  have hl0 := zH hl0'
  clear hl0'
  rcases hor with ⟨rfl, hcol0, hmm⟩ | ⟨rfl, hcol0, hmm⟩ | ⟨rfl, hcol0, hmm⟩
  · have Hcol0 := zH hcol0
    have hm0 : m0 ≤ 0 * 8192 := by omega
    have hsz0 := hb0.size
    have HO1 := zH (ho0.alloc (.cells #[.int .i64 x, .bool f, .slice A n c] 71))
    have HB1 := zH (hb0.alloc hsz0 (.cells #[.int .i64 x, .bool f, .slice A n c] 71))
    clear hcol0 ho0 hb0
    go_wp2
    go_loopw [5, 22] (fun v i wr2 => ∃ (k m : Nat) (A' : Option Addr) (c' : Nat) (col : List Ev), k ≤ n ∧ i = .int .i64 (k : Int) ∧ v = .slice A' m c' ∧ Hid (col = col0 ++ evR 0 0 (a.parts.take k)) ∧ m ≤ 0 * 8192 + 128 * k ∧ wr2.ownsRow w.heap.size 227 6 (.slice A' m c') m (col.flatMap Ev.cs) ∧ Hid (col.length = m) ∧ Below w.heap.size w wr2) (fun _ i _ => n - (intOf i).toNat)
    case atStart => exact ⟨0, m0, A0, c0, col0, by omega, rfl, rfl, (by show _ = _; simp [evR]), by omega, HO1.out, hl0, HB1.out⟩
    case round =>
     obtain ⟨k, m, A', c', col, hk, rfl, rfl, Hcol, hm, hown, Hcl, hb⟩ := hrel
     obtain ⟨wo, rfl⟩ : ∃ wo : World, wo = wr := ⟨_, rfl⟩
     have HOwn := zH hown
     have hsz := hb.size
     clear hown
     by_cases hlt : k < n
     · obtain ⟨b1, o1, p, A1, n1, c1, x1, f1, A2, n2, c2, rfl, hp, hpt0, hpt⟩ := H0.out.at2 (keeps_of hb) hlt
       have hpf := (fits_iff a).1 HF0.out p (List.mem_of_getElem? hp)
       have Htk := zH (take_snoc' hp)
       have PV := zH hpt0.vs
       obtain ⟨p0, p1, p2, p3, pok, pvs, prg⟩ := hpt
       have hn1 : n1 ≤ 64 := by have := pvs.len; omega
       have Hn1 := zH pvs.len
       have Htl : Hid ((a.parts.take k).length = k) := by show _ = _; rw [List.length_take, len_parts]; have := H0.out.len; omega
       clear hp hpf pok pvs prg hpt0
       have HO2 := zH (HOwn.out.alloc (.cells #[.slice A1 n1 c1, .int .i64 x1, .bool f1, .slice A2 n2 c2] 141))
       have HB2 := zH (hb.alloc hsz (.cells #[.slice A1 n1 c1, .int .i64 x1, .bool f1, .slice A2 n2 c2] 141))
       go_wp2
       go_loopw [5, 30] (fun v i wr3 => ∃ (j m2 : Nat) (A'' : Option Addr) (c'' : Nat) (cl : List Ev), j ≤ n1 ∧ i = .int .i64 (j : Int) ∧ v = .slice A'' m2 c'' ∧ Hid (cl = col ++ evP 0 k (p.1.take j)) ∧ m2 ≤ m + 2 * j ∧ wr3.ownsRow w.heap.size 227 6 (.slice A'' m2 c'') m2 (cl.flatMap Ev.cs) ∧ Hid (cl.length = m2) ∧ Below w.heap.size w wr3) (fun _ i _ => n1 - (intOf i).toNat)
       case atStart => exact ⟨0, m, A', c', col, by omega, rfl, rfl, (by show _ = _; simp [evP]), by omega, HO2.out, Hcl, HB2.out⟩
       case round =>
        obtain ⟨j, m2, A'', c'', cl, hj, rfl, rfl, Hcl2, hm2, hown', hql, hb3⟩ := hrel
        by_cases hjl : j < n1
        · obtain ⟨b, o, u, rfl, hu, huc⟩ := (PV.out.keep (keeps_of hb3)).at hjl
          have Hts := zH (take_snoc' hu)
          obtain ⟨⟨fk, fi, ft⟩, ⟨tk, ti, tt⟩, xo⟩ := u
          obtain ⟨d0, d1, d2, d3, d4, d5, d6⟩ := IvAt.of huc
          dsimp only at d0 d1 d2 d3 d4 d5 d6
          clear hu huc
          have hsz3 := hb3.size
          go_wp2_with (first
           | (at_builtin; refine wpList_append_one (by rfl) (.tmp 34) (.tmp 40) _ (by rfl) w.heap.size 227 i0 _ 6 56 Tryz.underlying223 hi hz0 hz1 hz2 (by rfl) (by omega) (.slice A'' m2 c'') m2 _ (by rfl) _ _ (hown'.alloc _) (wr.heap.size + 1) (by simp) (by rfl) (by rfl) (one_ev ⟨⟨fk, fi, ft⟩, 0, (k : Int), true⟩) (by simp only [maxLen]; omega) (by omega) (by simp; omega) ?_; intro g cap w4 hown4 hg4 hB4 hat4 hlt4; have hbx := (Blk.grown (Blk.new wr _ _) hg4 (own_ne hown')).cell; have hsz4 := hB4.size; clear hg4)
           | (at_builtin; refine wpList_append_one (by rfl) (.tmp 45) (.tmp 51) _ (by rfl) w.heap.size 227 i0 _ 6 56 Tryz.underlying223 hi hz0 hz1 hz2 (by rfl) (by omega) (.slice (some ⟨g, 0, none⟩) (m2 + 1) cap) (m2 + 1) _ (by rfl) _ _ hown4 w4.heap.size (by rfl) (by rfl) (by rfl) (one_ev ⟨⟨tk, ti, tt⟩, 0, (k : Int), false⟩) (by simp only [maxLen]; omega) (by omega) (by simp at hsz4; omega) ?_; intro g5 cap5 w5 hown5 hg5 hB5 hat5 hlt5))
          · go_roundw
            case rel =>
             refine ⟨j + 1, m2 + 1 + 1, _, _, cl ++ [⟨⟨fk, fi, ft⟩, 0, (k : Int), true⟩, ⟨⟨tk, ti, tt⟩, 0, (k : Int), false⟩], by omega, by go_num, rfl, ?_, by omega, ?_, ?_, ?_⟩
             · show _ = _
               have hxo : xo = false := by simpa using ‹(!xo) = true›
               rw [Hts.out, evP_snoc, Hcl2.out, hxo]
               simp [evI]
             · simpa [List.flatMap_append, Ev.cs] using hown5
             · show _ = _
               have := hql.out
               simp; omega
             · exact ((hb3.alloc hb3.size _).trans hB4).trans hB5
            case measure => simp [intOf]; omega
          · go_roundw
            case rel =>
             refine ⟨j + 1, m2 + 1, _, _, cl ++ [⟨⟨fk, fi, ft⟩, 0, (k : Int), true⟩], by omega, by go_num, rfl, ?_, by omega, ?_, ?_, ?_⟩
             · show _ = _
               have hxo : xo = true := by simpa using ‹(!xo) = false›
               rw [Hts.out, evP_snoc, Hcl2.out, hxo]
               simp [evI]
             · simpa [List.flatMap_append, Ev.cs] using hown4
             · show _ = _
               have := hql.out
               simp; omega
             · exact (hb3.alloc hb3.size _).trans hB4
            case measure => simp [intOf]; omega
        · go_wp2
          go_roundw
          case rel =>
           refine ⟨k + 1, m2, A'', c'', cl, by omega, by go_num, rfl, ?_, by omega, hown', hql, hb3⟩
           show _ = _
           have e1 : p.1.take j = p.1 := List.take_of_length_le (by have := Hn1.out; omega)
           rw [Hcl2.out, e1, Htk.out, evR_snoc, Hcol.out, Htl.out]
           simp
          case measure => simp [intOf]; omega
     · go_wp2
       go_roundw
       case rel =>
        refine ⟨m, A', c', col, rfl, HOwn.out, Hcl.out, hb, .inr (.inl ⟨rfl, ?_, by omega⟩)⟩
        have h1 := Hcol.out
        rw [List.take_of_length_le (by rw [len_parts]; have := H0.out.len; omega), Hcol0.out] at h1
        simpa using h1
       case measure => simp [intOf]
  · have Hcol0 := zH hcol0
    have hm0 : m0 ≤ 1 * 8192 := by omega
    have hsz0 := hb0.size
    have HO1 := zH (ho0.alloc (.cells #[.int .i64 y, .bool g, .slice B m d] 71))
    have HB1 := zH (hb0.alloc hsz0 (.cells #[.int .i64 y, .bool g, .slice B m d] 71))
    clear hcol0 ho0 hb0
    go_wp2
    go_loopw [5, 22] (fun v i wr2 => ∃ (k mm : Nat) (A' : Option Addr) (c' : Nat) (col : List Ev), k ≤ m ∧ i = .int .i64 (k : Int) ∧ v = .slice A' mm c' ∧ Hid (col = col0 ++ evR 1 0 (b.parts.take k)) ∧ mm ≤ 1 * 8192 + 128 * k ∧ wr2.ownsRow w.heap.size 227 6 (.slice A' mm c') mm (col.flatMap Ev.cs) ∧ Hid (col.length = mm) ∧ Below w.heap.size w wr2) (fun _ i _ => m - (intOf i).toNat)
    case atStart => exact ⟨0, m0, A0, c0, col0, by omega, rfl, rfl, (by show _ = _; simp [evR]), by omega, HO1.out, hl0, HB1.out⟩
    case round =>
     obtain ⟨k, mm, A', c', col, hk, rfl, rfl, Hcol, hm, hown, Hcl, hb⟩ := hrel
     obtain ⟨wo, rfl⟩ : ∃ wo : World, wo = wr := ⟨_, rfl⟩
     have HOwn := zH hown
     have hsz := hb.size
     clear hown
     by_cases hlt : k < m
     · obtain ⟨b1, o1, p, A1, n1, c1, x1, f1, A2, n2, c2, rfl, hp, hpt0, hpt⟩ := H1.out.at2 (keeps_of hb) hlt
       have hpf := (fits_iff b).1 HF1.out p (List.mem_of_getElem? hp)
       have Htk := zH (take_snoc' hp)
       have PV := zH hpt0.vs
       obtain ⟨p0, p1, p2, p3, pok, pvs, prg⟩ := hpt
       have hn1 : n1 ≤ 64 := by have := pvs.len; omega
       have Hn1 := zH pvs.len
       have Htl : Hid ((b.parts.take k).length = k) := by show _ = _; rw [List.length_take, len_parts]; have := H1.out.len; omega
       clear hp hpf pok pvs prg hpt0
       have HO2 := zH (HOwn.out.alloc (.cells #[.slice A1 n1 c1, .int .i64 x1, .bool f1, .slice A2 n2 c2] 141))
       have HB2 := zH (hb.alloc hsz (.cells #[.slice A1 n1 c1, .int .i64 x1, .bool f1, .slice A2 n2 c2] 141))
       go_wp2
       go_loopw [5, 30] (fun v i wr3 => ∃ (j m2 : Nat) (A'' : Option Addr) (c'' : Nat) (cl : List Ev), j ≤ n1 ∧ i = .int .i64 (j : Int) ∧ v = .slice A'' m2 c'' ∧ Hid (cl = col ++ evP 1 k (p.1.take j)) ∧ m2 ≤ mm + 2 * j ∧ wr3.ownsRow w.heap.size 227 6 (.slice A'' m2 c'') m2 (cl.flatMap Ev.cs) ∧ Hid (cl.length = m2) ∧ Below w.heap.size w wr3) (fun _ i _ => n1 - (intOf i).toNat)
       case atStart => exact ⟨0, mm, A', c', col, by omega, rfl, rfl, (by show _ = _; simp [evP]), by omega, HO2.out, Hcl, HB2.out⟩
       case round =>
        obtain ⟨j, m2, A'', c'', cl, hj, rfl, rfl, Hcl2, hm2, hown', hql, hb3⟩ := hrel
        by_cases hjl : j < n1
        · obtain ⟨b, o, u, rfl, hu, huc⟩ := (PV.out.keep (keeps_of hb3)).at hjl
          have Hts := zH (take_snoc' hu)
          obtain ⟨⟨fk, fi, ft⟩, ⟨tk, ti, tt⟩, xo⟩ := u
          obtain ⟨d0, d1, d2, d3, d4, d5, d6⟩ := IvAt.of huc
          dsimp only at d0 d1 d2 d3 d4 d5 d6
          clear hu huc
          have hsz3 := hb3.size
          go_wp2_with (first
           | (at_builtin; refine wpList_append_one (by rfl) (.tmp 34) (.tmp 40) _ (by rfl) w.heap.size 227 i0 _ 6 56 Tryz.underlying223 hi hz0 hz1 hz2 (by rfl) (by omega) (.slice A'' m2 c'') m2 _ (by rfl) _ _ (hown'.alloc _) (wr.heap.size + 1) (by simp) (by rfl) (by rfl) (one_ev ⟨⟨fk, fi, ft⟩, 1, (k : Int), true⟩) (by simp only [maxLen]; omega) (by omega) (by simp; omega) ?_; intro g cap w4 hown4 hg4 hB4 hat4 hlt4; have hbx := (Blk.grown (Blk.new wr _ _) hg4 (own_ne hown')).cell; have hsz4 := hB4.size; clear hg4)
           | (at_builtin; refine wpList_append_one (by rfl) (.tmp 45) (.tmp 51) _ (by rfl) w.heap.size 227 i0 _ 6 56 Tryz.underlying223 hi hz0 hz1 hz2 (by rfl) (by omega) (.slice (some ⟨g, 0, none⟩) (m2 + 1) cap) (m2 + 1) _ (by rfl) _ _ hown4 w4.heap.size (by rfl) (by rfl) (by rfl) (one_ev ⟨⟨tk, ti, tt⟩, 1, (k : Int), false⟩) (by simp only [maxLen]; omega) (by omega) (by simp at hsz4; omega) ?_; intro g5 cap5 w5 hown5 hg5 hB5 hat5 hlt5))
          · go_roundw
            case rel =>
             refine ⟨j + 1, m2 + 1 + 1, _, _, cl ++ [⟨⟨fk, fi, ft⟩, 1, (k : Int), true⟩, ⟨⟨tk, ti, tt⟩, 1, (k : Int), false⟩], by omega, by go_num, rfl, ?_, by omega, ?_, ?_, ?_⟩
             · show _ = _
               have hxo : xo = false := by simpa using ‹(!xo) = true›
               rw [Hts.out, evP_snoc, Hcl2.out, hxo]
               simp [evI]
             · simpa [List.flatMap_append, Ev.cs] using hown5
             · show _ = _
               have := hql.out
               simp; omega
             · exact ((hb3.alloc hb3.size _).trans hB4).trans hB5
            case measure => simp [intOf]; omega
          · go_roundw
            case rel =>
             refine ⟨j + 1, m2 + 1, _, _, cl ++ [⟨⟨fk, fi, ft⟩, 1, (k : Int), true⟩], by omega, by go_num, rfl, ?_, by omega, ?_, ?_, ?_⟩
             · show _ = _
               have hxo : xo = true := by simpa using ‹(!xo) = false›
               rw [Hts.out, evP_snoc, Hcl2.out, hxo]
               simp [evI]
             · simpa [List.flatMap_append, Ev.cs] using hown4
             · show _ = _
               have := hql.out
               simp; omega
             · exact (hb3.alloc hb3.size _).trans hB4
            case measure => simp [intOf]; omega
        · go_wp2
          go_roundw
          case rel =>
           refine ⟨k + 1, m2, A'', c'', cl, by omega, by go_num, rfl, ?_, by omega, hown', hql, hb3⟩
           show _ = _
           have e1 : p.1.take j = p.1 := List.take_of_length_le (by have := Hn1.out; omega)
           rw [Hcl2.out, e1, Htk.out, evR_snoc, Hcol.out, Htl.out]
           simp
          case measure => simp [intOf]; omega
     · go_wp2
       go_roundw
       case rel =>
        refine ⟨mm, A', c', col, rfl, HOwn.out, Hcl.out, hb, .inr (.inr ⟨rfl, ?_, by omega⟩)⟩
        have h1 := Hcol.out
        rw [List.take_of_length_le (by rw [len_parts]; have := H1.out.len; omega), Hcol0.out] at h1
        exact h1
       case measure => simp [intOf]
  · have Hcol0 := zH hcol0
    have HO := zH ho0
    have HB := zH hb0
    clear hcol0 ho0 hb0
    rcases Nat.eq_zero_or_pos m0 with hm0 | hm0
    · subst hm0
      have hl := hl0.out
      obtain rfl : col0 = [] := List.eq_nil_of_length_eq_zero hl
      go_wp2_with fail
      refine (sortE_none A0 c0 _).mono ?_
      rintro e w2 ⟨rfl, rfl⟩
      go_wp2
      go_ret
      refine ⟨[], A0, c0, rfl, ⟨?_, List.Pairwise.nil⟩, Sl.nil, by simp, HB.out⟩
      have := Hcol0.out
      unfold evs
      rw [← this]
    · obtain ⟨G, cap, hv, hGb, hGl⟩ := HO.out.form hm0
      obtain ⟨rfl, rfl⟩ : A0 = some ⟨G, 0, none⟩ ∧ c0 = cap := by injection hv with h1 h2 h3; exact ⟨h1, h3⟩
      have hsl := Sl.of_own (cs := Ev.cs) Ev.cs_len hl0.out HO.out
      have HSl := zH hsl
      have HFz := zH (fun q => HO.out.frozenAt q)
      clear hsl hv
      go_wp2_with fail
      refine (sortE_any G 0 c0 m0 col0 _ HSl.out HFz.out hGl (by omega) hm0).mono ?_
      rintro e w2 ⟨rfl, qs, hq1, hq2, hq3, hq4⟩
      have hql : qs.length = m0 := by rw [hq1.length_eq]; exact hl0.out
      have HQ := zH (And.intro hq1 (And.intro hq2 hq3))
      have HB2 := zH (hq4.below HB.out HB.out.size (by rintro k rfl; exact hGb))
      clear hq1 hq2 hq3 hq4
      subst hql
      go_wp2
      go_ret
      refine ⟨qs, _, _, rfl, ⟨?_, HQ.out.2.1⟩, HQ.out.2.2, by omega, HB2.out⟩
      unfold evs
      rw [← Hcol0.out]
      exact HQ.out.1
end Go.Proofs.YtnnmlhmffnfjfaaGreat
namespace Go.Proofs.YtnnmlhmffnfjfaaGreat
open Go.RowKit
theorem flat_set {α : Type} {sz : Nat} {cs : α → List Value} (hcs : ∀ x, (cs x).length = sz) {x' : α} {u : Value} {j : Nat} : ∀ (l : List α) (i : Nat) (x : α), l[i]? = some x → j < sz → cs x' = (cs x).set j u → (l.flatMap cs).set (i * sz + j) u = (l.set i x').flatMap cs
 | [], i, x, h, _, _ => by simp at h
 | y :: l, 0, x, h, hj, he => by
   simp only [List.getElem?_cons_zero, Option.some.injEq] at h
   subst h
   rw [List.flatMap_cons, List.set_cons_zero, List.flatMap_cons, Nat.zero_mul, Nat.zero_add, List.set_append_left _ _ (by rw [hcs]; exact hj), he]
 | y :: l, i + 1, x, h, hj, he => by
   simp only [List.getElem?_cons_succ] at h
   have ih := flat_set hcs l i x h hj he
   rw [List.flatMap_cons, List.set_cons_succ, List.flatMap_cons, List.set_append_right _ _ (by rw [hcs, Nat.succ_mul]; omega), ← ih]
   congr 2
   rw [hcs, Nat.succ_mul]
   omega
end Go.Proofs.YtnnmlhmffnfjfaaGreat
namespace Go.Proofs.YtnnmlhmffnfjfaaGreat
open Go.RowKit
open Rg
def RgF (lo hi : Nat) (w : World) (x : Int) (f : Bool) (A : Option Addr) (n c : Nat) (r : Rg) : Prop :=
 ∀ w' : World, (∀ k, lo ≤ k → k < hi → w'.heap[k]? = w.heap[k]?) → RgS w' x f A n c r
theorem RgF.s {lo hi : Nat} {w : World} {x : Int} {f : Bool} {A : Option Addr} {n c : Nat} {r : Rg} (h : RgF lo hi w x f A n c r) : RgS w x f A n c r := h w fun _ _ _ => rfl
theorem RgF.keep {lo hi : Nat} {w w' : World} {x : Int} {f : Bool} {A : Option Addr} {n c : Nat} {r : Rg} (h : RgF lo hi w x f A n c r) (hk : ∀ k, lo ≤ k → k < hi → w'.heap[k]? = w.heap[k]?) : RgF lo hi w' x f A n c r :=
 fun w'' h2 => h w'' fun k h3 h4 => (h2 k h3 h4).trans (hk k h3 h4)
theorem RgF.wide {lo hi lo' hi' : Nat} {w : World} {x : Int} {f : Bool} {A : Option Addr} {n c : Nat} {r : Rg} (h : RgF lo hi w x f A n c r) (h1 : lo' ≤ lo) (h2 : hi ≤ hi') : RgF lo' hi' w x f A n c r :=
 fun w' h3 => h w' fun k h4 h5 => h3 k (by omega) (by omega)
theorem RgF.nil {lo hi : Nat} {w : World} (x : Int) (f : Bool) : RgF lo hi w x f none 0 0 (.nil x f) := fun _ _ => RgS.nil x f
structure PM where
 A1 : Option Addr
 n1 : Nat
 c1 : Nat
 vs : List Iv
 x : Int
 f : Bool
 A2 : Option Addr
 n2 : Nat
 c2 : Nat
 r : Rg
 lo : Nat
 hi : Nat
def PM.vv (m : PM) : Value := .slice m.A1 m.n1 m.c1
def PM.cs (m : PM) : List Value := [.slice m.A1 m.n1 m.c1, .int .i64 m.x, .bool m.f, .slice m.A2 m.n2 m.c2]
def PM.pr (m : PM) : List Iv × Rg := (m.vs, m.r)
theorem PM.cs_len (m : PM) : (PM.cs m).length = 4 := rfl
theorem one_pm (m : PM) : ∀ u ∈ PM.cs m, u.oneCell' = true := by simp [PM.cs, Value.oneCell']
structure PM.Ok (B : Nat) (w : World) (m : PM) : Prop where
 own : w.ownsRow B 187 7 m.vv m.n1 (m.vs.flatMap Iv.cs)
 len : m.vs.length = m.n1
 rg : RgF m.lo m.hi w m.x m.f m.A2 m.n2 m.c2 m.r
 lo : B ≤ m.lo
 hi : m.hi ≤ w.heap.size
structure PartsIn (B : Nat) (w : World) (A : Option Addr) (n c : Nat) (ms : List PM) : Prop where
 own : w.ownsRow B 141 4 (.slice A n c) n (ms.flatMap PM.cs)
 len : ms.length = n
 ok : ∀ m ∈ ms, m.Ok B w
 apart : ms.Pairwise (fun m m' => ∀ k, m.vv.ownBlock = some k → m'.vv.ownBlock ≠ some k)
 far : ∀ m ∈ ms, ∀ k, m.lo ≤ k → k < m.hi → (Value.slice A n c).ownBlock ≠ some k ∧ ∀ m' ∈ ms, m'.vv.ownBlock ≠ some k
theorem own_lt {w : World} {base : Nat} {e : TypeId} {size n : Nat} {v : Value} {xs : List Value} (h : w.ownsRow base e size v n xs) {k : Nat} (hk : v.ownBlock = some k) : base ≤ k ∧ k < w.heap.size ∧ ∃ cs, w.heap[k]? = some (.cells cs e (0, 0)) := by
 rcases h.2 with ⟨rfl, _⟩ | ⟨g, cap, cur, rfl, hg, hh, _⟩
 · simp [Value.ownBlock] at hk
 · simp only [Value.ownBlock, Option.some.injEq] at hk
   subst hk
   exact ⟨hg, Blk.lt (T := e) (cs := cur) hh, cur, hh⟩
theorem own_types {w : World} {b1 b2 : Nat} {e1 e2 : TypeId} {s1 s2 n1 n2 : Nat} {v1 v2 : Value} {x1 x2 : List Value} (h1 : w.ownsRow b1 e1 s1 v1 n1 x1) (h2 : w.ownsRow b2 e2 s2 v2 n2 x2) (hne : e1 ≠ e2) {k : Nat} (hk : v1.ownBlock = some k) : v2.ownBlock ≠ some k := fun hk2 => by
 obtain ⟨_, _, c1, a1⟩ := own_lt h1 hk
 obtain ⟨_, _, c2, a2⟩ := own_lt h2 hk2
 rw [a1] at a2
 injection a2 with a2
 injection a2 with _ a2
 exact hne a2
theorem own_but {w w' : World} {base : Nat} {e : TypeId} {size n : Nat} {v : Value} {xs : List Value} {S : Nat → Prop} (h : w.ownsRow base e size v n xs) (hb : But S w w') (hs : ∀ k, v.ownBlock = some k → ¬ S k) : w'.ownsRow base e size v n xs :=
 own_at h fun g _ hlt hg => hb.block g hlt (hs g hg)
theorem PM.Ok.but {B : Nat} {w w' : World} {m : PM} {S : Nat → Prop} (h : m.Ok B w) (hb : But S w w') (h1 : ∀ k, m.vv.ownBlock = some k → ¬ S k) (h2 : ∀ k, m.lo ≤ k → k < m.hi → ¬ S k) : m.Ok B w' :=
 ⟨own_but h.own hb h1, h.len, h.rg.keep fun k h3 h4 => hb.block k (Nat.lt_of_lt_of_le h4 h.hi) (h2 k h3 h4), h.lo, Nat.le_trans h.hi hb.size⟩
theorem PartsIn.but {B : Nat} {w w' : World} {A : Option Addr} {n c : Nat} {ms : List PM} {S : Nat → Prop} (h : PartsIn B w A n c ms) (hb : But S w w') (hS : ∀ k, S k → k < B) : PartsIn B w' A n c ms :=
 ⟨own_but h.own hb (fun k hk hs => by have := (own_lt h.own hk).1; have := hS k hs; omega), h.len,
  fun m hm => (h.ok m hm).but hb (fun k hk hs => by have := (own_lt (h.ok m hm).own hk).1; have := hS k hs; omega) (fun k hk _ hs => by have := (h.ok m hm).lo; have := hS k hs; omega), h.apart, h.far⟩
theorem PartsIn.below {B : Nat} {w w' : World} {A : Option Addr} {n c : Nat} {ms : List PM} (h : PartsIn B w A n c ms) (hb : Below w.heap.size w w') : PartsIn B w' A n c ms := h.but (S := fun _ => False) (But.of_below hb) (fun _ h => h.elim)
theorem PartsIn.add {B : Nat} {w w' : World} {A A' : Option Addr} {n c c' : Nat} {ms : List PM} (h : PartsIn B w A n c ms) {x : Int} {f : Bool} {A2 : Option Addr} {n2 c2 lo hi : Nat} {r : Rg}
 (hown : w'.ownsRow B 141 4 (.slice A' (n + 1) c') (n + 1) ((ms ++ [PM.mk none 0 0 [] x f A2 n2 c2 r lo hi]).flatMap PM.cs))
 (hb : But (fun k => (Value.slice A n c).ownBlock = some k ∨ k < B) w w') (hloc : ∀ k, (Value.slice A' (n + 1) c').ownBlock = some k → (Value.slice A n c).ownBlock = some k ∨ w.heap.size ≤ k)
 (hr : RgF lo hi w x f A2 n2 c2 r) (hlo : B ≤ lo) (hhi : hi ≤ w.heap.size) (hfar : ∀ k, lo ≤ k → k < hi → (Value.slice A n c).ownBlock ≠ some k ∧ ∀ m ∈ ms, m.vv.ownBlock ≠ some k) :
 PartsIn B w' A' (n + 1) c' (ms ++ [PM.mk none 0 0 [] x f A2 n2 c2 r lo hi]) := by
 have hnil : ∀ k : Nat, (PM.mk none 0 0 [] x f A2 n2 c2 r lo hi).vv.ownBlock ≠ some k := fun k hk => by simp [PM.vv, Value.ownBlock] at hk
 refine ⟨hown, by simp [h.len], fun m hm => ?_, ?_, fun m hm k hk1 hk2 => ?_⟩
 · rcases List.mem_append.1 hm with hm | hm
   · refine (h.ok m hm).but hb (fun k hk hs => ?_) (fun k hk1 hk2 hs => ?_)
     · rcases hs with hs | hs
       · exact own_types (h.ok m hm).own h.own (by decide) hk hs
       · have := (own_lt (h.ok m hm).own hk).1; omega
     · rcases hs with hs | hs
       · exact (h.far m hm k hk1 hk2).1 hs
       · have := (h.ok m hm).lo; omega
   · rw [List.mem_singleton] at hm
     subst hm
     refine ⟨⟨by simp, .inl ⟨rfl, rfl⟩⟩, rfl, hr.keep fun k hk1 hk2 => hb.block k (Nat.lt_of_lt_of_le hk2 hhi) fun hs => ?_, hlo, Nat.le_trans hhi hb.size⟩
     rcases hs with hs | hs
     · exact (hfar k hk1 hk2).1 hs
     · have hk1' : lo ≤ k := hk1
       omega
 · refine List.pairwise_append.2 ⟨h.apart, List.pairwise_singleton _ _, fun m _ m' hm' k _ => ?_⟩
   rw [List.mem_singleton] at hm'
   subst hm'
   exact hnil k
 · have key : k < w.heap.size ∧ (Value.slice A n c).ownBlock ≠ some k ∧ ∀ m' ∈ ms, m'.vv.ownBlock ≠ some k := by
    rcases List.mem_append.1 hm with hm | hm
    · exact ⟨Nat.lt_of_lt_of_le hk2 (h.ok m hm).hi, h.far m hm k hk1 hk2⟩
    · rw [List.mem_singleton] at hm
      subst hm
      exact ⟨Nat.lt_of_lt_of_le hk2 hhi, hfar k hk1 hk2⟩
   refine ⟨fun hs => ?_, fun m' hm' => ?_⟩
   · rcases hloc k hs with e | e
     · exact key.2.1 e
     · have := key.1; omega
   · rcases List.mem_append.1 hm' with hm' | hm'
     · exact key.2.2 m' hm'
     · rw [List.mem_singleton] at hm'
       subst hm'
       exact hnil k
theorem PartsIn.set {B : Nat} {w w' : World} {A : Option Addr} {n c j : Nat} {ms : List PM} (h : PartsIn B w A n c ms) {m : PM} (hm : ms[j]? = some m) {A1 : Option Addr} {n1 c1 : Nat} {vs : List Iv}
 (hown : w'.ownsRow B 141 4 (.slice A n c) n ((ms.set j { m with A1 := A1, n1 := n1, c1 := c1, vs := vs }).flatMap PM.cs))
 (hv : w'.ownsRow B 187 7 (.slice A1 n1 c1) n1 (vs.flatMap Iv.cs)) (hl : vs.length = n1)
 (hb : But (fun k => (Value.slice A n c).ownBlock = some k ∨ m.vv.ownBlock = some k) w w') (hloc : ∀ k, (Value.slice A1 n1 c1).ownBlock = some k → m.vv.ownBlock = some k ∨ w.heap.size ≤ k) :
 PartsIn B w' A n c (ms.set j { m with A1 := A1, n1 := n1, c1 := c1, vs := vs }) := by
 have hj := (List.getElem?_eq_some_iff.1 hm).1
 have hmm := List.mem_of_getElem? hm
 have hget : ∀ i, (ms.set j { m with A1 := A1, n1 := n1, c1 := c1, vs := vs })[i]? = if i = j then some { m with A1 := A1, n1 := n1, c1 := c1, vs := vs } else ms[i]? := fun i => by
  rw [List.getElem?_set]
  by_cases e : j = i
  · subst e; simp [hj]
  · rw [if_neg e, if_neg (Ne.symm e)]
 have hmem : ∀ m', m' ∈ ms.set j { m with A1 := A1, n1 := n1, c1 := c1, vs := vs } → m' = { m with A1 := A1, n1 := n1, c1 := c1, vs := vs } ∨ ∃ i, i ≠ j ∧ ms[i]? = some m' := fun m' hm' => by
  obtain ⟨i, hi⟩ := List.mem_iff_getElem?.1 hm'
  rw [hget] at hi
  split at hi
  · injection hi with hi; exact .inl hi.symm
  · exact .inr ⟨i, ‹_›, hi⟩
 have hap : ∀ (i : Nat) (m' : PM), i ≠ j → ms[i]? = some m' → ∀ k, m.vv.ownBlock = some k → m'.vv.ownBlock ≠ some k := fun i m' hij hi k hk hk' => by
  have a := List.getElem?_eq_some_iff.1 hi
  have b := List.getElem?_eq_some_iff.1 hm
  rcases Nat.lt_or_gt_of_ne hij with hl | hl
  · have := List.pairwise_iff_getElem.1 h.apart i j a.1 b.1 hl k
    rw [a.2, b.2] at this
    exact this hk' hk
  · have := List.pairwise_iff_getElem.1 h.apart j i b.1 a.1 hl k
    rw [a.2, b.2] at this
    exact this hk hk'
 have hnew : ∀ (i : Nat) (m' : PM), i ≠ j → ms[i]? = some m' → ∀ k, (Value.slice A1 n1 c1).ownBlock = some k → m'.vv.ownBlock ≠ some k := fun i m' hij hi k hk hk' => by
  rcases hloc k hk with e | e
  · exact hap i m' hij hi k e hk'
  · have := (own_lt (h.ok m' (List.mem_of_getElem? hi)).own hk').2.1; omega
 refine ⟨hown, by simp [h.len], fun m' hm' => ?_, ?_, fun m' hm' k hk1 hk2 => ?_⟩
 · rcases hmem m' hm' with rfl | ⟨i, hij, hi⟩
   · have ho := h.ok m hmm
     refine ⟨hv, hl, ho.rg.keep fun k hk1 hk2 => hb.block k (Nat.lt_of_lt_of_le hk2 ho.hi) fun hs => ?_, ho.lo, Nat.le_trans ho.hi hb.size⟩
     rcases hs with hs | hs
     · exact (h.far m hmm k hk1 hk2).1 hs
     · exact (h.far m hmm k hk1 hk2).2 m hmm hs
   · have hmi := List.mem_of_getElem? hi
     refine (h.ok m' hmi).but hb (fun k hk hs => ?_) (fun k hk1 hk2 hs => ?_)
     · rcases hs with hs | hs
       · exact own_types (h.ok m' hmi).own h.own (by decide) hk hs
       · exact hap i m' hij hi k hs hk
     · rcases hs with hs | hs
       · exact (h.far m' hmi k hk1 hk2).1 hs
       · exact (h.far m' hmi k hk1 hk2).2 m hmm hs
 · rw [List.pairwise_iff_getElem]
   intro i1 i2 h1 h2 hlt k hk hk'
   have g1 := hget i1
   have g2 := hget i2
   rw [List.getElem?_eq_getElem h1] at g1
   rw [List.getElem?_eq_getElem h2] at g2
   by_cases e1 : i1 = j
   · by_cases e2 : i2 = j
     · omega
     · rw [if_pos e1] at g1
       rw [if_neg e2] at g2
       injection g1 with g1
       rw [g1] at hk
       exact hnew i2 _ e2 g2.symm k hk hk'
   · rw [if_neg e1] at g1
     by_cases e2 : i2 = j
     · rw [if_pos e2] at g2
       injection g2 with g2
       rw [g2] at hk'
       exact hnew i1 _ e1 g1.symm k hk' hk
     · rw [if_neg e2] at g2
       have a := List.getElem?_eq_some_iff.1 g1.symm
       have b := List.getElem?_eq_some_iff.1 g2.symm
       have := List.pairwise_iff_getElem.1 h.apart i1 i2 a.1 b.1 hlt k
       rw [a.2, b.2] at this
       exact this hk hk'
 · have key : k < w.heap.size ∧ (Value.slice A n c).ownBlock ≠ some k ∧ ∀ m' ∈ ms, m'.vv.ownBlock ≠ some k := by
    rcases hmem m' hm' with rfl | ⟨i, hij, hi⟩
    · exact ⟨Nat.lt_of_lt_of_le hk2 (h.ok m hmm).hi, h.far m hmm k hk1 hk2⟩
    · exact ⟨Nat.lt_of_lt_of_le hk2 (h.ok m' (List.mem_of_getElem? hi)).hi, h.far m' (List.mem_of_getElem? hi) k hk1 hk2⟩
   refine ⟨key.2.1, fun m'' hm'' => ?_⟩
   rcases hmem m'' hm'' with rfl | ⟨i, hij, hi⟩
   · intro hs
     rcases hloc k hs with e | e
     · exact key.2.2 m hmm e
     · have := key.1; omega
   · exact key.2.2 m'' (List.mem_of_getElem? hi)
theorem PartsIn.region {B : Nat} {w : World} {A : Option Addr} {n c : Nat} {ms : List PM} (h : PartsIn B w A n c ms) (x : Int) : RgF B w.heap.size w x false A n c (mkR x false (ms.map PM.pr)) := by
 intro w' hw
 have hown : w'.ownsRow B 141 4 (.slice A n c) n (ms.flatMap PM.cs) := own_at h.own fun g h1 h2 _ => hw g h1 h2
 have hok : ∀ m ∈ ms, w'.ownsRow B 187 7 m.vv m.n1 (m.vs.flatMap Iv.cs) ∧ RgS w' m.x m.f m.A2 m.n2 m.c2 m.r := fun m hm => by
  have ho := h.ok m hm
  exact ⟨own_at ho.own fun g h1 h2 _ => hw g h1 h2, ho.rg w' fun k h1 h2 => hw k (Nat.le_trans ho.lo h1) (Nat.lt_of_lt_of_le h2 ho.hi)⟩
 refine ⟨w_mk _ _ _, f_mk _ _ _, own_okS hown, by rw [← len_parts, parts_mk, List.length_map, h.len], fun hn => ?_⟩
 obtain ⟨b, o, e, hc⟩ := (Sl.of_own PM.cs_len h.len hown).2 hn
 refine ⟨b, o, e, RgP.of fun k p hp => ?_⟩
 rw [parts_mk, List.getElem?_map, Option.map_eq_some_iff] at hp
 obtain ⟨m, hm, rfl⟩ := hp
 have hk := hok m (List.mem_of_getElem? hm)
 have h0 := hc k m hm
 exact ⟨m.A1, m.n1, m.c1, m.x, m.f, m.A2, m.n2, m.c2, ⟨h0 0 _ rfl, h0 1 _ rfl, h0 2 _ rfl, h0 3 _ rfl, own_okS hk.1, Sl.of_own Iv.cs_len (h.ok m (List.mem_of_getElem? hm)).len hk.1, hk.2⟩⟩
def txOf (l : List Int) : ByteArray := ⟨(l.map fun z => UInt8.ofNat z.toNat).toArray⟩
theorem txOf_size (l : List Int) : (txOf l).size = l.length := by simp [txOf, ByteArray.size]
theorem u8_nat {z : Int} (h : 0 ≤ z ∧ z ≤ 255) : ((UInt8.ofNat z.toNat).toNat : Int) = z := by
 rw [UInt8.toNat_ofNat']
 omega
theorem txOf_inj {l m : List Int} (hl : ∀ z ∈ l, 0 ≤ z ∧ z ≤ 255) (hm : ∀ z ∈ m, 0 ≤ z ∧ z ≤ 255) (h : txOf l = txOf m) : l = m := by
 have h1 : (l.map fun z => UInt8.ofNat z.toNat) = (m.map fun z => UInt8.ofNat z.toNat) := by
  have := congrArg (fun t : ByteArray => t.data.toList) h
  simpa [txOf] using this
 clear h
 induction l generalizing m with
 | nil => cases m with | nil => rfl | cons => simp at h1
 | cons x l ih =>
   cases m with
   | nil => simp at h1
   | cons y m =>
     simp only [List.map_cons, List.cons.injEq] at h1
     have e1 := u8_nat (hl x List.mem_cons_self)
     have e2 := u8_nat (hm y List.mem_cons_self)
     rw [h1.1, e2] at e1
     rw [ih (fun z hz => hl z (List.mem_cons_of_mem _ hz)) (fun z hz => hm z (List.mem_cons_of_mem _ hz)) h1.2, ← e1]
theorem own_bytes {w : World} {base g m c : Nat} {l : List Int} (h : w.ownsRow base 5 1 (.slice (some ⟨g, 0, none⟩) m c) m (l.flatMap u8v)) (hl : ∀ z ∈ l, 0 ≤ z ∧ z ≤ 255) (hm : l.length = m) :
 (convert 22 9 (.slice (some ⟨g, 0, none⟩) m c)).run Tryz.prog w = .ok (.string (txOf l)) w := by
 have := Lib.run_convert_whole (P := Tryz.prog) w 22 5 9 Tryz.underlying22 Tryz.underlying5 Tryz.underlying9 g 0 (txOf l) ?_ c
 · rw [txOf_size, hm] at this
   exact this
 · intro i hi
   rw [txOf_size] at hi
   have h1 := List.getElem?_eq_getElem hi
   have h2 := h.cells (g := g) rfl i (.int .u8 l[i]) (by have := flat_at u8v_len l i _ 0 (.int .u8 l[i]) h1 rfl; simpa using this)
   rw [add_at] at h2
   rw [h2]
   congr 2
   have h3 : (txOf l)[i]'(by rw [txOf_size]; exact hi) = UInt8.ofNat (l[i]).toNat := by
    show (txOf l).data[i]'(by have := txOf_size l; simp only [ByteArray.size] at this; omega) = _
    simp [txOf]
   rw [h3, u8_nat (hl _ (List.getElem_mem hi))]
theorem encV_byte {v : Vl} (h : okV v) : ∀ z ∈ encV v, 0 ≤ z ∧ z ≤ 255 := by
 have hn : ∀ k, ∀ z ∈ numBs v.i k, 0 ≤ z ∧ z ≤ 255 := fun k => by
  induction k with
  | zero => intro z hz; cases hz
  | succ k ih =>
    intro z hz
    rcases List.mem_append.1 hz with hz | hz
    · exact ih z hz
    · rw [List.mem_singleton] at hz
      subst hz
      unfold numB
      omega
 intro z hz
 simp only [encV, List.mem_append, List.mem_cons, List.not_mem_nil, or_false] at hz
 have h1 := h.1
 have h2 := h.2
 rcases hz with ((rfl | hz) | rfl) | hz
 · exact h1
 · exact hn 8 z hz
 · omega
 · unfold txB at hz
   obtain ⟨b, _, rfl⟩ := List.mem_map.1 hz
   have := UInt8.toNat_lt b
   omega
theorem encB_byte : ∀ {r : Rg}, EncOk r → r.size ≤ 64 → ∀ z ∈ encB r, 0 ≤ z ∧ z ≤ 255
 | .nil _ _, _, _, z, hz => by cases hz
 | .cons vs rest tail, ho, hs, z, hz => by
   simp only [Rg.size] at hs
   simp only [encB, List.mem_append, List.mem_cons, List.not_mem_nil, or_false, List.mem_flatMap] at hz
   have h1 := ho.1
   have h2 := len_le_size rest
   have h3 : ∀ f, 0 ≤ fbit f ∧ fbit f ≤ 255 := fun f => by cases f <;> simp [fbit]
   rcases hz with ((rfl | ⟨x, hx, hz⟩) | ((rfl | rfl) | hz)) | hz
   · omega
   · rcases List.mem_append.1 hz with hz | hz
     · exact encV_byte (ho.2.1 x hx).1 z hz
     · exact encV_byte (ho.2.1 x hx).2 z hz
   · exact h3 _
   · omega
   · exact encB_byte ho.2.2.1 (by omega) z hz
   · exact encB_byte ho.2.2.2 (by omega) z hz
theorem encR_byte {r : Rg} (ho : EncOk r) (hs : r.size ≤ 64) : ∀ z ∈ encR r, 0 ≤ z ∧ z ≤ 255 := fun z hz => by
 simp only [encR, List.mem_append, List.mem_cons, List.not_mem_nil, or_false] at hz
 have h2 := len_le_size r
 rcases hz with (rfl | rfl) | hz
 · cases r.f <;> simp [fbit]
 · omega
 · exact encB_byte ho hs z hz
def codeR (r : Rg) : ByteArray := txOf (encR r)
theorem codeR_inj {n : Nat} {a b : Rg} (ha : Form n a) (hb : Form n b) (wa : WfR a) (wb : WfR b) (ia : within a) (ib : within b) (h : codeR a = codeR b) : a = b :=
 encR_inj ha hb wa wb (txOf_inj (encR_byte (form_enc n a ha ia.2) ia.1) (encR_byte (form_enc n b hb ib.2) ib.1) h)
theorem codeR_len {n : Nat} {r : Rg} (h : Form n r) (i : within r) : (codeR r).size ≤ 640002 := by
 rw [codeR, txOf_size]
 have := encR_len (form_enc n r h i.2)
 have := i.1
 omega
theorem comb_wf (op : Bool → Bool → Bool) : ∀ (n : Nat) (a b : Rg), WfR a → WfR b → WfR (comb op n a b)
 | 0, _, _, _, _ => trivial
 | n + 1, a, b, ha, hb => by
   have hat : ∀ (r : Rg) (v : Vl), WfR r → WfR (r.at_ (n : Int) v) := fun r v hr => by
    rcases at_spec (n : Int) v r with ⟨p, hp, _, e⟩ | ⟨e, _⟩
    · rw [e]; exact (hr.mem hp).2
    · rw [e]; trivial
   have hz : rgV zeroV := ⟨by decide, by decide⟩
   have hpt : ∀ v ∈ ptsOf a b, rgV v := fun v hv => by
    obtain ⟨l, hl, hvl⟩ := ((ptsAll_spec (valsOf a ++ valsOf b)).2 v).1 hv
    have : ∀ r : Rg, WfR r → l ∈ valsOf r → rgV v := fun r hr hl => by
     obtain ⟨p, hp, rfl⟩ := List.mem_map.1 hl
     obtain ⟨x, hx, h⟩ := mem_ptsL.1 hvl
     have := (hr.mem hp).1 x hx
     rcases h with rfl | ⟨_, rfl⟩
     · exact this.1
     · exact this.2
    rcases List.mem_append.1 hl with hl | hl
    · exact this a ha hl
    · exact this b hb hl
   have hiv : ∀ P : List Vl, (∀ v ∈ P, rgV v) → ∀ x ∈ ivsOf P, rgV x.f ∧ rgV x.t := by
    intro P
    induction P using ivsOf.induct with
    | case1 => intro _ x hx; cases hx
    | case2 y => intro h x hx; simp only [ivsOf, List.mem_singleton] at hx; subst hx; exact ⟨h y (by simp), hz⟩
    | case3 y z P ih =>
      intro h x hx
      simp only [ivsOf, List.mem_cons] at hx
      rcases hx with rfl | hx
      · exact ⟨h y (by simp), h z (by simp)⟩
      · exact ih (fun v hv => h v (by simp [hv])) x hx
   refine WfR.of fun p hp => ?_
   obtain ⟨r, hm, rfl⟩ := List.mem_map.1 hp
   refine ⟨hiv _ fun v hv => hpt v ((chg_sub _ _ _).1 v hv), ?_⟩
   obtain ⟨h1, _⟩ := (uniq_mem r _).1 hm
   obtain ⟨q, _, rfl⟩ := List.mem_map.1 h1
   exact comb_wf op n _ _ (hat a q ha) (hat b q hb)
end Go.Proofs.YtnnmlhmffnfjfaaGreat
namespace Go.Proofs.YtnnmlhmffnfjfaaGreat
open Go.RowKit
inductive Plan where
 | last (qs : List Nat)
 | fin (qs : List Nat) (e : Nat)
 | one (qs : List Nat) (e : Nat) (t : Plan)
 | two (qs : List Nat) (e1 : Nat) (t1 : Plan) (e2 : Nat) (t2 : Plan)
def Plan.len : Plan → Nat
 | .last qs => qs.length
 | .fin qs _ => qs.length + 1
 | .one qs _ t => qs.length + (t.len + 1)
 | .two qs _ t1 _ _ => qs.length + (t1.len + 1)
def Plan.store : Plan → Nat → Nat
 | .last _, d => d
 | .fin _ e, _ => e
 | .one _ _ t, d => t.store d
 | .two _ _ t1 _ _, d => t1.store d
def finDep (fin : Nat) (ops : Array Oper) (i : Nat) : Bool := match ops[fin]? with
 | none => true
 | some o => o.after.any (fun e => Region.binds .any e && e.on == i)
theorem finDep_spec {fin : Nat} {ops : Array Oper} {i : Nat} (h : finDep fin ops i = true) : ∀ o, ops[fin]? = some o → ∃ e ∈ o.after, Region.binds .any e = true ∧ e.on = i := fun o ho => by
 unfold finDep at h
 rw [ho] at h
 simp only [Array.any_eq_true'] at h
 obtain ⟨e, he, h2⟩ := h
 simp only [Bool.and_eq_true, beq_iff_eq] at h2
 exact ⟨e, he, h2⟩
def checkU (fin : Nat) (ops : Array Oper) : List Nat → Array Bool → Option (Array Bool)
 | [], listed => some listed
 | i :: r, listed => if plainAt ops i && (Region.ready .any ops listed).contains i && Region.free .any ops listed i && finDep fin ops i then checkU fin ops r (listed.setIfInBounds i true) else none
section
variable {P : Program} {ops : Array Oper} {Q : Exit → Act → World → Prop} {md : Region.Mode} {S : Nat → Prop} {fin : Nat}
def wpAnyU (fin : Nat) (S : Nat → Prop) (P : Program) (md : Region.Mode) (ops : Array Oper) (Q : Exit → Act → World → Prop) : Nat → Array Bool → Act → World → Prop
 | 0, listed, a, w => Region.ready md ops listed = [] ∧ Q .normal a w
 | fuel + 1, listed, a, w =>
   (Region.ready md ops listed = [] → Q .normal a w) ∧
   ∀ i ∈ Region.ready md ops listed, wpOp P ops Q i (fun a' w' => (i ≠ fin → But S w w') ∧ wpAnyU fin S P md ops Q fuel (listed.setIfInBounds i true) a' w') a w
theorem wpAny_of_U : ∀ (fuel : Nat) (listed : Array Bool) (a : Act) (w : World), wpAnyU fin S P md ops Q fuel listed a w → wpAny P md ops Q fuel listed a w
 | 0, _, _, _, h => h
 | fuel + 1, _, _, _, h => ⟨h.1, fun i hi => wpOp_mono (fun a' w' h' => wpAny_of_U fuel _ a' w' h'.2) (h.2 i hi)⟩
theorem wpAnyU_first {i : Nat} {oi : Oper} {v : Value} (hi : ops[i]? = some oi) (hsel : ∀ (j : Nat) (o : Oper) cs b, ops[j]? = some o → o.op ≠ .select cs b)
 (hQ : ∀ c a w, Q (.panic c) (a.put oi.dst v) w → Q (.panic c) a w) (hfin : ∀ o, ops[fin]? = some o → ∃ e ∈ o.after, Region.binds md e = true ∧ e.on = i) :
 ∀ (fuel : Nat) (listed : Array Bool) (a : Act) (w : World),
   (∀ j oj, ops[j]? = some oj → j ≠ i → listed.getD j true = false → (∀ e ∈ oj.after, Region.binds md e = true → e.on ≠ i) → oi.apart ops oj = true) →
   i ∈ Region.ready md ops listed → YieldsIf P ops (fun W => But S w W) oi v a →
   wpAnyU fin S P md ops Q fuel (listed.setIfInBounds i true) (a.put oi.dst v) w → wpAnyU fin S P md ops Q (fuel + 1) listed a w := by
 intro fuel
 induction fuel with
 | zero =>
   intro listed a w _ hr hy H
   refine ⟨fun h => (by rw [h] at hr; cases hr), fun j hj => ?_⟩
   by_cases hji : j = i
   · subst hji; exact hy.wpOp hi (But.refl _ _) ⟨fun _ => But.refl _ _, H⟩
   · have := ready_mono hj hji
     rw [H.1] at this
     cases this
 | succ fuel ih =>
   intro listed a w hfree hr hy H
   refine ⟨fun h => (by rw [h] at hr; cases hr), fun j hj => ?_⟩
   by_cases hji : j = i
   · subst hji; exact hy.wpOp hi (But.refl _ _) ⟨fun _ => But.refl _ _, H⟩
   · have h1 := H.2 j (ready_mono hj hji)
     obtain ⟨hjun, oj, hoj, hall⟩ := mem_ready.1 hj
     have hnot : ∀ e ∈ oj.after, Region.binds md e = true → e.on ≠ i := fun e he hb heq => by
      have h1 := hall e he hb
      have h0 := (mem_ready.1 hr).1
      rw [heq] at h1
      rcases Nat.lt_or_ge i listed.size with h' | h'
      · simp [h'] at h0 h1; rw [h0] at h1; cases h1
      · simp [Array.getElem?_eq_none h'] at h1
     have h2 := wpOp_putIf hoj (hfree j oj hoj hji hjun hnot) (fun cs b => hsel i oi cs b hi) (fun cs b => hsel j oj cs b hoj) hQ hy h1
     have hfree' : ∀ k ok, ops[k]? = some ok → k ≠ i → (listed.setIfInBounds j true).getD k true = false →
      (∀ e ∈ ok.after, Region.binds md e = true → e.on ≠ i) → oi.apart ops ok = true := fun k ok hk hki hun hno => by
      refine hfree k ok hk hki ?_ hno
      by_cases hjk : j = k
      · subst hjk; exact hjun
      · rw [getD_set_ne true hjk] at hun; exact hun
     have hjf : j ≠ fin := fun e => by
      subst e
      obtain ⟨ed, he1, he2, he3⟩ := hfin oj hoj
      exact hnot ed he1 he2 he3
     refine wpOp_mono (fun a' w' h3 => ⟨fun _ => h3.2.1 hjf, ih (listed.setIfInBounds j true) a' w' hfree' (ready_mono hr (Ne.symm hji)) (YieldsIf.shrink (fun W hW => But.trans (h3.2.1 hjf) hW) h3.1) ?_⟩) h2
     rw [Array.setIfInBounds_comm _ _ hji]
     exact h3.2.2
theorem quiet_blockU (hns : Region.noSelect ops = true) (hQ : ∀ c a d v w, Q (.panic c) (Act.put a d v) w → Q (.panic c) a w) {K : Act → Prop} {w : World} {fuel : Nat} {l' : Array Bool}
 (hK : ∀ a, K a → wpAnyU fin S P .any ops Q fuel l' a w) :
 ∀ (qs : List Nat) (listed : Array Bool) (a : Act), checkU fin ops qs listed = some l' → wpQuiet P ops (clsS S w) K (pickOps ops qs) a → wpAnyU fin S P .any ops Q (qs.length + fuel) listed a w
 | [], listed, a, hc, h => by
   simp only [checkU, Option.some.injEq] at hc
   subst hc
   simp only [List.length_nil, Nat.zero_add]
   exact hK a h
 | i :: r, listed, a, hc, h => by
   unfold checkU at hc
   split at hc
   · rename_i hcond
     simp only [Bool.and_eq_true] at hcond
     obtain ⟨⟨⟨hp, hr⟩, hf⟩, hd⟩ := hcond
     cases hi : ops[i]? with
     | none => simp [plainAt, hi] at hp
     | some o =>
       simp only [plainAt, hi] at hp
       have hpick : pickOps ops (i :: r) = o :: pickOps ops r := by simp [pickOps, opAt, hi]
       rw [hpick] at h
       unfold wpQuiet at h
       have hlen : (i :: r).length + fuel = (r.length + fuel) + 1 := by simp; omega
       rw [hlen]
       by_cases hw : Region.wanted o (yielded ops a.tmps) = true
       · rw [if_pos hw] at h
         obtain ⟨v, h1, h2⟩ := h
         refine wpAnyU_first hi (Region.noSelect_spec hns) (fun c a w => hQ c a _ _ w) (finDep_spec hd) _ listed a w (Region.free_spec hi hf) (by simpa using hr) (v := v) (.inl ⟨hw, fun W hW => ?_⟩) (quiet_blockU hns hQ hK r _ _ hc h2)
         have h3 := h1 W (clsS_iff.2 hW)
         have hg := gives_plain o hp a.eval P W
         unfold Oper.quietAt at h3
         generalize (execOp a.eval o).run P W = res at *
         cases res with
         | ok n w' =>
           cases n <;> simp only [Oper.quietUpon] at h3 <;> simp only [gives] at hg
           obtain ⟨e1, e2⟩ := h3
           rw [e1, e2]
         | halt x w' => simp only [Oper.quietUpon] at h3
       · rw [if_neg hw] at h
         exact wpAnyU_first hi (Region.noSelect_spec hns) (fun c a w => hQ c a _ _ w) (finDep_spec hd) _ listed a w (Region.free_spec hi hf) (by simpa using hr) (v := undef) (.inr ⟨by simpa using hw, rfl⟩) (quiet_blockU hns hQ hK r _ _ hc h)
   · cases hc
def checkT (fin : Nat) (ops : Array Oper) : Plan → Array Bool → Bool
 | .last qs, listed => match checkU fin ops qs listed with
   | some l => (Region.ready .any ops l).isEmpty
   | none => false
 | .fin qs e, listed => match checkU fin ops qs listed with
   | some l => (Region.ready .any ops l == [e]) && (decide (e < ops.size) && (decide (e = fin) && (Region.ready .any ops (l.setIfInBounds e true)).isEmpty))
   | none => false
 | .one qs e t, listed => match checkU fin ops qs listed with
   | some l => (Region.ready .any ops l == [e]) && (decide (e < ops.size) && checkT fin ops t (l.setIfInBounds e true))
   | none => false
 | .two qs e1 t1 e2 t2, listed => match checkU fin ops qs listed with
   | some l => (Region.ready .any ops l == [e1, e2]) && (decide (e1 < ops.size) && (decide (e2 < ops.size) && (decide (t1.len = t2.len) && (checkT fin ops t1 (l.setIfInBounds e1 true) && checkT fin ops t2 (l.setIfInBounds e2 true)))))
   | none => false
def wpPlan (S : Nat → Prop) (P : Program) (ops : Array Oper) (Q : Exit → Act → World → Prop) : Plan → Act → World → Prop
 | .last qs, a, w => wpQuiet P ops (fun W => ∃ x : LaterS S w, W = afterS S w x) (fun a' => Q .normal a' w) (pickOps ops qs) a
 | .fin qs e, a, w => wpQuiet P ops (fun W => ∃ x : LaterS S w, W = afterS S w x) (fun a' => wpList P ops (Exit.then (fun a'' w' => Q .normal a'' w') Q) [opAt ops e] a' w) (pickOps ops qs) a
 | .one qs e t, a, w => wpQuiet P ops (fun W => ∃ x : LaterS S w, W = afterS S w x) (fun a' => wpList P ops (Exit.then (fun a'' w' => But S w w' ∧ wpPlan S P ops Q t a'' w') Q) [opAt ops e] a' w) (pickOps ops qs) a
 | .two qs e1 t1 e2 t2, a, w => wpQuiet P ops (fun W => ∃ x : LaterS S w, W = afterS S w x) (fun a' => wpList P ops (Exit.then (fun a'' w' => But S w w' ∧ wpPlan S P ops Q t1 a'' w') Q) [opAt ops e1] a' w ∧ wpList P ops (Exit.then (fun a'' w' => But S w w' ∧ wpPlan S P ops Q t2 a'' w') Q) [opAt ops e2] a' w) (pickOps ops qs) a
theorem at_of_lt {e : Nat} (h : e < ops.size) : ops[e]? = some (opAt ops e) := by
 unfold opAt
 rw [Array.getElem?_eq_getElem h]
 rfl
theorem plan_any (hns : Region.noSelect ops = true) (hQ : ∀ c a d v w, Q (.panic c) (Act.put a d v) w → Q (.panic c) a w) :
 ∀ (t : Plan) (listed : Array Bool) (a : Act) (w : World), checkT fin ops t listed = true → wpPlan S P ops Q t a w → wpAnyU fin S P .any ops Q t.len listed a w
 | .last qs, listed, a, w, hc, h => by
   unfold checkT at hc
   split at hc
   · rename_i l hl
     exact quiet_blockU hns hQ (fuel := 0) (fun a' h' => ⟨by simpa using hc, h'⟩) qs listed a hl h
   · cases hc
 | .fin qs e, listed, a, w, hc, h => by
   unfold checkT at hc
   split at hc
   · rename_i l hl
     simp only [Bool.and_eq_true, beq_iff_eq, decide_eq_true_eq] at hc
     refine quiet_blockU hns hQ (fuel := 0 + 1) (fun a' h' => ?_) qs listed a hl h
     refine ⟨fun h0 => (by rw [hc.1] at h0; cases h0), fun i hi => ?_⟩
     rw [hc.1] at hi
     have hie : i = e := by simpa using hi
     subst hie
     exact wpOp_mono (fun a'' w' h'' => ⟨fun hne => absurd hc.2.2.1 hne, by simpa using hc.2.2.2, h''⟩) (op_of_list (at_of_lt hc.2.1) h')
   · cases hc
 | .one qs e t, listed, a, w, hc, h => by
   unfold checkT at hc
   split at hc
   · rename_i l hl
     simp only [Bool.and_eq_true, beq_iff_eq, decide_eq_true_eq] at hc
     refine quiet_blockU hns hQ (fuel := t.len + 1) (fun a' h' => ?_) qs listed a hl h
     refine ⟨fun h0 => (by rw [hc.1] at h0; cases h0), fun i hi => ?_⟩
     rw [hc.1] at hi
     have hie : i = e := by simpa using hi
     subst hie
     exact wpOp_mono (fun a'' w' ⟨hb, h''⟩ => ⟨fun _ => hb, plan_any hns hQ t _ a'' w' hc.2.2 h''⟩) (op_of_list (at_of_lt hc.2.1) h')
   · cases hc
 | .two qs e1 t1 e2 t2, listed, a, w, hc, h => by
   unfold checkT at hc
   split at hc
   · rename_i l hl
     simp only [Bool.and_eq_true, beq_iff_eq, decide_eq_true_eq] at hc
     obtain ⟨c1, c2, c3, c4, c5, c6⟩ := hc
     refine quiet_blockU hns hQ (fuel := t1.len + 1) (fun a' h' => ?_) qs listed a hl h
     refine ⟨fun h0 => (by rw [c1] at h0; cases h0), fun i hi => ?_⟩
     rw [c1] at hi
     rcases List.mem_cons.1 hi with rfl | hi
     · exact wpOp_mono (fun a'' w' ⟨hb, h''⟩ => ⟨fun _ => hb, plan_any hns hQ t1 _ a'' w' c5 h''⟩) (op_of_list (at_of_lt c2) h'.1)
     · have hie : i = e2 := by simpa using hi
       subst hie
       exact wpOp_mono (fun a'' w' ⟨hb, h''⟩ => ⟨fun _ => hb, by rw [c4]; exact plan_any hns hQ t2 _ a'' w' c6 h''⟩) (op_of_list (at_of_lt c3) h'.2)
   · cases hc
theorem wp_region_plan {id : Nat} {a : Act} {w : World} {l : List Oper} (S : Nat → Prop) (t : Plan) (hm : P.follows .mixedOrders = true)
 (hc : (Region.noSelect l.toArray && (checkT (t.store l.toArray.size) l.toArray t (Array.replicate l.toArray.size false) && decide (t.len = l.toArray.size))) = true)
 (hQ : ∀ c a d v w, Q (.panic c) (Act.put a d v) w → Q (.panic c) a w)
 (h : wpPlan S P l.toArray Q t a w.drew) : (Code.region id l.toArray true).wp P Q a w := by
 simp only [Bool.and_eq_true, decide_eq_true_eq] at hc
 refine wp_region_any hm ?_
 have h1 := plan_any hc.1 hQ t _ a _ hc.2.1 h
 rw [hc.2.2] at h1
 exact wpAny_of_U _ _ _ _ h1
end
end Go.Proofs.YtnnmlhmffnfjfaaGreat
