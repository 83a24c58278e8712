/-
  Texts: Events, Flat.
-/
import Derived.Test.YtnocbigcdjlliaaGreatB16
set_option linter.unusedVariables false
/-
  The program's region function events: the list of events, sorted.
-/
namespace Go.Proofs.YtnocbigcdjlliaaGreat
open Go.RowKit
set_option maxRecDepth 100000
open Rg

theorem info_ev : (Tryz.prog.info? 131).map (fun i => (i.zero, i.size, i.bytes)) = some (some (.agg #[.int .i64 0, .int .i64 0, .string ⟨#[]⟩, .int .i64 0, .int .i64 0, .bool false]), 6, 56) := by kernel_rfl
set_option maxRecDepth 100000 in
set_option maxHeartbeats 8000000 in
theorem events_any (a : Rg) (x : Int) (f : Bool) (A : Option Addr) (n c : Nat) (b : Rg) (y : Int) (g : Bool) (B : Option Addr) (m d : Nat) (w : World) (hA : RgS w x f A n c a) (hB : RgS w y g B m d b) (ha : a.fits = true) (hb : b.fits = true) (hna : n ≤ 64) (hnb : m ≤ 64) :
    Calls Tryz.prog 128 #[.agg #[.int .i64 x, .bool f, .slice A n c], .agg #[.int .i64 y, .bool g, .slice B m d]] w fun e w' => ∃ (qs : List Ev) (A' : Option Addr) (c' : Nat), e = .returned (.slice A' qs.length c') ∧ EvSorted a b qs ∧ Sl 6 Ev.cs w' A' qs.length qs ∧ qs.length ≤ 20000 ∧ Below w.heap.size w w' := by
  obtain ⟨i0, hi, hz0, hz1, hz2⟩ := info_parts info_ev
  have H0 := Lib.hid hA
  have H1 := Lib.hid hB
  have HF0 := Lib.hid ha
  have HF1 := Lib.hid hb
  have HW2 : Hid (Below w.heap.size w ((w.alloc (.cells #[.int .i64 x, .bool f, .slice A n c] 28)).alloc (.cells #[.int .i64 y, .bool g, .slice B m d] 28))) := Lib.hid (((Below.refl _ _).alloc (Nat.le_refl _) _).alloc (by simp) _)
  clear hA hB ha hb
  have ix0 : ∀ w : World, (Instr.index 143 (.agg #[.int .i64 x, .bool f, .slice A n c, .int .i64 y, .bool g, .slice B m d]) (.int .i64 0)).run Tryz.prog w = .ok (.agg #[.int .i64 x, .bool f, .slice A n c]) w := fun _ => by kernel_rfl
  have ix1 : ∀ w : World, (Instr.index 143 (.agg #[.int .i64 x, .bool f, .slice A n c, .int .i64 y, .bool g, .slice B m d]) (.int .i64 1)).run Tryz.prog w = .ok (.agg #[.int .i64 y, .bool g, .slice B m d]) w := fun _ => by kernel_rfl
  go_enter Tryz.func128, Tryz.ntmps128
  go_wp2
  go_loopw [5, 15] (fun v i wr => ∃ (m0 : Nat) (A0 : Option Addr) (c0 : Nat) (col0 : List Ev), v = .slice A0 m0 c0 ∧ wr.ownsRow w.heap.size 131 6 (.slice A0 m0 c0) m0 (col0.flatMap Ev.cs) ∧ col0.length = m0 ∧ Below w.heap.size w wr ∧ ((i = .int .i64 0 ∧ col0 = [] ∧ m0 = 0) ∨ (i = .int .i64 1 ∧ col0 = evR 0 0 a.parts ∧ m0 ≤ 8192) ∨ (i = .int .i64 2 ∧ col0 = evR 0 0 a.parts ++ evR 1 0 b.parts ∧ m0 ≤ 16384))) (fun _ i _ => 2 - (intOf i).toNat)
  case atStart => exact ⟨0, none, 0, [], rfl, ⟨by simp, .inl ⟨rfl, rfl⟩⟩, rfl, HW2.out, .inl ⟨rfl, rfl, rfl⟩⟩
  case round =>
    obtain ⟨m0, A0, c0, col0, rfl, ho0, hl0', hb0, hor⟩ := hrel
    have hl0 := Lib.hid hl0'
    clear hl0'
    rcases hor with ⟨rfl, hcol0, hmm⟩ | ⟨rfl, hcol0, hmm⟩ | ⟨rfl, hcol0, hmm⟩
    · have Hcol0 := Lib.hid hcol0
      have hm0 : m0 ≤ 0 * 8192 := by omega
      have hsz0 := hb0.size
      have HO1 := Lib.hid (ho0.alloc (.cells #[.int .i64 x, .bool f, .slice A n c] 28))
      have HB1 := Lib.hid (hb0.alloc hsz0 (.cells #[.int .i64 x, .bool f, .slice A n c] 28))
      clear hcol0 ho0 hb0
      go_wp2
      go_loopw [5, 22] (fun v i wr2 => ∃ (k m : Nat) (A' : Option Addr) (c' : Nat) (col : List Ev), k ≤ n ∧ i = .int .i64 (k : Int) ∧ v = .slice A' m c' ∧ Hid (col = col0 ++ evR 0 0 (a.parts.take k)) ∧ m ≤ 0 * 8192 + 128 * k ∧ wr2.ownsRow w.heap.size 131 6 (.slice A' m c') m (col.flatMap Ev.cs) ∧ Hid (col.length = m) ∧ Below w.heap.size w wr2) (fun _ i _ => n - (intOf i).toNat)
      case atStart => exact ⟨0, m0, A0, c0, col0, by omega, rfl, rfl, (by show _ = _; simp [evR]), by omega, HO1.out, hl0, HB1.out⟩
      case round =>
        obtain ⟨k, m, A', c', col, hk, rfl, rfl, Hcol, hm, hown, Hcl, hb⟩ := hrel
        obtain ⟨wo, rfl⟩ : ∃ wo : World, wo = wr := ⟨_, rfl⟩
        have HOwn := Lib.hid hown
        have hsz := hb.size
        clear hown
        by_cases hlt : k < n
        · obtain ⟨b1, o1, p, A1, n1, c1, x1, f1, A2, n2, c2, rfl, hp, hpt0, hpt⟩ := H0.out.at2 (keeps_of hb) hlt
          have hpf := (fits_iff a).1 HF0.out p (List.mem_of_getElem? hp)
          have Htk := Lib.hid (take_snoc' hp)
          have PV := Lib.hid hpt0.vs
          obtain ⟨p0, p1, p2, p3, pok, pvs, prg⟩ := hpt
          have hn1 : n1 ≤ 64 := by have := pvs.len; omega
          have Hn1 := Lib.hid pvs.len
          have Htl : Hid ((a.parts.take k).length = k) := by show _ = _; rw [List.length_take, len_parts]; have := H0.out.len; omega
          clear hp hpf pok pvs prg hpt0
          have HO2 := Lib.hid (HOwn.out.alloc (.cells #[.slice A1 n1 c1, .int .i64 x1, .bool f1, .slice A2 n2 c2] 85))
          have HB2 := Lib.hid (hb.alloc hsz (.cells #[.slice A1 n1 c1, .int .i64 x1, .bool f1, .slice A2 n2 c2] 85))
          go_wp2
          go_loopw [5, 30] (fun v i wr3 => ∃ (j m2 : Nat) (A'' : Option Addr) (c'' : Nat) (cl : List Ev), j ≤ n1 ∧ i = .int .i64 (j : Int) ∧ v = .slice A'' m2 c'' ∧ Hid (cl = col ++ evP 0 k (p.1.take j)) ∧ m2 ≤ m + 2 * j ∧ wr3.ownsRow w.heap.size 131 6 (.slice A'' m2 c'') m2 (cl.flatMap Ev.cs) ∧ Hid (cl.length = m2) ∧ Below w.heap.size w wr3) (fun _ i _ => n1 - (intOf i).toNat)
          case atStart => exact ⟨0, m, A', c', col, by omega, rfl, rfl, (by show _ = _; simp [evP]), by omega, HO2.out, Hcl, HB2.out⟩
          case round =>
            obtain ⟨j, m2, A'', c'', cl, hj, rfl, rfl, Hcl2, hm2, hown', hql, hb3⟩ := hrel
            by_cases hjl : j < n1
            · obtain ⟨b, o, u, rfl, hu, huc⟩ := (PV.out.keep (keeps_of hb3)).at hjl
              have Hts := Lib.hid (take_snoc' hu)
              obtain ⟨⟨fk, fi, ft⟩, ⟨tk, ti, tt⟩, xo⟩ := u
              obtain ⟨d0, d1, d2, d3, d4, d5, d6⟩ := IvAt.of huc
              dsimp only at d0 d1 d2 d3 d4 d5 d6
              clear hu huc
              have hsz3 := hb3.size
              go_wp2_with (first
                | (at_builtin; refine wpList_append_one (by rfl) (.tmp 34) (.tmp 40) _ (by rfl) w.heap.size 131 i0 _ 6 56 Tryz.underlying127 hi hz0 hz1 hz2 (by rfl) (by omega) (.slice A'' m2 c'') m2 _ (by rfl) _ _ (hown'.alloc _) (wr.heap.size + 1) (by simp) (by rfl) (by rfl) (one_ev ⟨⟨fk, fi, ft⟩, 0, (k : Int), true⟩) (by simp only [maxLen]; omega) (by omega) (by simp; omega) ?_; intro g cap w4 hown4 hg4 hB4 hat4 hlt4; have hbx := (Blk.grown (Blk.new wr _ _) hg4 (own_ne hown')).cell; have hsz4 := hB4.size; clear hg4)
                | (at_builtin; refine wpList_append_one (by rfl) (.tmp 45) (.tmp 51) _ (by rfl) w.heap.size 131 i0 _ 6 56 Tryz.underlying127 hi hz0 hz1 hz2 (by rfl) (by omega) (.slice (some ⟨g, 0, none⟩) (m2 + 1) cap) (m2 + 1) _ (by rfl) _ _ hown4 w4.heap.size (by rfl) (by rfl) (by rfl) (one_ev ⟨⟨tk, ti, tt⟩, 0, (k : Int), false⟩) (by simp only [maxLen]; omega) (by omega) (by simp at hsz4; omega) ?_; intro g5 cap5 w5 hown5 hg5 hB5 hat5 hlt5))
              · go_roundw
                case rel =>
                  refine ⟨j + 1, m2 + 1 + 1, _, _, cl ++ [⟨⟨fk, fi, ft⟩, 0, (k : Int), true⟩, ⟨⟨tk, ti, tt⟩, 0, (k : Int), false⟩], by omega, by go_num, rfl, ?_, by omega, ?_, ?_, ?_⟩
                  · show _ = _
                    have hxo : xo = false := by simpa using ‹(!xo) = true›
                    rw [Hts.out, evP_snoc, Hcl2.out, hxo]
                    simp [evI]
                  · simpa [List.flatMap_append, Ev.cs] using hown5
                  · show _ = _
                    have := hql.out
                    simp; omega
                  · exact ((hb3.alloc hb3.size _).trans hB4).trans hB5
                case measure => simp [intOf]; omega
              · go_roundw
                case rel =>
                  refine ⟨j + 1, m2 + 1, _, _, cl ++ [⟨⟨fk, fi, ft⟩, 0, (k : Int), true⟩], by omega, by go_num, rfl, ?_, by omega, ?_, ?_, ?_⟩
                  · show _ = _
                    have hxo : xo = true := by simpa using ‹(!xo) = false›
                    rw [Hts.out, evP_snoc, Hcl2.out, hxo]
                    simp [evI]
                  · simpa [List.flatMap_append, Ev.cs] using hown4
                  · show _ = _
                    have := hql.out
                    simp; omega
                  · exact (hb3.alloc hb3.size _).trans hB4
                case measure => simp [intOf]; omega
            · go_wp2
              go_roundw
              case rel =>
                refine ⟨k + 1, m2, A'', c'', cl, by omega, by go_num, rfl, ?_, by omega, hown', hql, hb3⟩
                show _ = _
                have e1 : p.1.take j = p.1 := List.take_of_length_le (by have := Hn1.out; omega)
                rw [Hcl2.out, e1, Htk.out, evR_snoc, Hcol.out, Htl.out]
                simp
              case measure => simp [intOf]; omega
        · go_wp2
          go_roundw
          case rel =>
            refine ⟨m, A', c', col, rfl, HOwn.out, Hcl.out, hb, .inr (.inl ⟨rfl, ?_, by omega⟩)⟩
            have h1 := Hcol.out
            rw [List.take_of_length_le (by rw [len_parts]; have := H0.out.len; omega), Hcol0.out] at h1
            simpa using h1
          case measure => simp [intOf]
    · have Hcol0 := Lib.hid hcol0
      have hm0 : m0 ≤ 1 * 8192 := by omega
      have hsz0 := hb0.size
      have HO1 := Lib.hid (ho0.alloc (.cells #[.int .i64 y, .bool g, .slice B m d] 28))
      have HB1 := Lib.hid (hb0.alloc hsz0 (.cells #[.int .i64 y, .bool g, .slice B m d] 28))
      clear hcol0 ho0 hb0
      go_wp2
      go_loopw [5, 22] (fun v i wr2 => ∃ (k mm : Nat) (A' : Option Addr) (c' : Nat) (col : List Ev), k ≤ m ∧ i = .int .i64 (k : Int) ∧ v = .slice A' mm c' ∧ Hid (col = col0 ++ evR 1 0 (b.parts.take k)) ∧ mm ≤ 1 * 8192 + 128 * k ∧ wr2.ownsRow w.heap.size 131 6 (.slice A' mm c') mm (col.flatMap Ev.cs) ∧ Hid (col.length = mm) ∧ Below w.heap.size w wr2) (fun _ i _ => m - (intOf i).toNat)
      case atStart => exact ⟨0, m0, A0, c0, col0, by omega, rfl, rfl, (by show _ = _; simp [evR]), by omega, HO1.out, hl0, HB1.out⟩
      case round =>
        obtain ⟨k, mm, A', c', col, hk, rfl, rfl, Hcol, hm, hown, Hcl, hb⟩ := hrel
        obtain ⟨wo, rfl⟩ : ∃ wo : World, wo = wr := ⟨_, rfl⟩
        have HOwn := Lib.hid hown
        have hsz := hb.size
        clear hown
        by_cases hlt : k < m
        · obtain ⟨b1, o1, p, A1, n1, c1, x1, f1, A2, n2, c2, rfl, hp, hpt0, hpt⟩ := H1.out.at2 (keeps_of hb) hlt
          have hpf := (fits_iff b).1 HF1.out p (List.mem_of_getElem? hp)
          have Htk := Lib.hid (take_snoc' hp)
          have PV := Lib.hid hpt0.vs
          obtain ⟨p0, p1, p2, p3, pok, pvs, prg⟩ := hpt
          have hn1 : n1 ≤ 64 := by have := pvs.len; omega
          have Hn1 := Lib.hid pvs.len
          have Htl : Hid ((b.parts.take k).length = k) := by show _ = _; rw [List.length_take, len_parts]; have := H1.out.len; omega
          clear hp hpf pok pvs prg hpt0
          have HO2 := Lib.hid (HOwn.out.alloc (.cells #[.slice A1 n1 c1, .int .i64 x1, .bool f1, .slice A2 n2 c2] 85))
          have HB2 := Lib.hid (hb.alloc hsz (.cells #[.slice A1 n1 c1, .int .i64 x1, .bool f1, .slice A2 n2 c2] 85))
          go_wp2
          go_loopw [5, 30] (fun v i wr3 => ∃ (j m2 : Nat) (A'' : Option Addr) (c'' : Nat) (cl : List Ev), j ≤ n1 ∧ i = .int .i64 (j : Int) ∧ v = .slice A'' m2 c'' ∧ Hid (cl = col ++ evP 1 k (p.1.take j)) ∧ m2 ≤ mm + 2 * j ∧ wr3.ownsRow w.heap.size 131 6 (.slice A'' m2 c'') m2 (cl.flatMap Ev.cs) ∧ Hid (cl.length = m2) ∧ Below w.heap.size w wr3) (fun _ i _ => n1 - (intOf i).toNat)
          case atStart => exact ⟨0, mm, A', c', col, by omega, rfl, rfl, (by show _ = _; simp [evP]), by omega, HO2.out, Hcl, HB2.out⟩
          case round =>
            obtain ⟨j, m2, A'', c'', cl, hj, rfl, rfl, Hcl2, hm2, hown', hql, hb3⟩ := hrel
            by_cases hjl : j < n1
            · obtain ⟨b, o, u, rfl, hu, huc⟩ := (PV.out.keep (keeps_of hb3)).at hjl
              have Hts := Lib.hid (take_snoc' hu)
              obtain ⟨⟨fk, fi, ft⟩, ⟨tk, ti, tt⟩, xo⟩ := u
              obtain ⟨d0, d1, d2, d3, d4, d5, d6⟩ := IvAt.of huc
              dsimp only at d0 d1 d2 d3 d4 d5 d6
              clear hu huc
              have hsz3 := hb3.size
              go_wp2_with (first
                | (at_builtin; refine wpList_append_one (by rfl) (.tmp 34) (.tmp 40) _ (by rfl) w.heap.size 131 i0 _ 6 56 Tryz.underlying127 hi hz0 hz1 hz2 (by rfl) (by omega) (.slice A'' m2 c'') m2 _ (by rfl) _ _ (hown'.alloc _) (wr.heap.size + 1) (by simp) (by rfl) (by rfl) (one_ev ⟨⟨fk, fi, ft⟩, 1, (k : Int), true⟩) (by simp only [maxLen]; omega) (by omega) (by simp; omega) ?_; intro g cap w4 hown4 hg4 hB4 hat4 hlt4; have hbx := (Blk.grown (Blk.new wr _ _) hg4 (own_ne hown')).cell; have hsz4 := hB4.size; clear hg4)
                | (at_builtin; refine wpList_append_one (by rfl) (.tmp 45) (.tmp 51) _ (by rfl) w.heap.size 131 i0 _ 6 56 Tryz.underlying127 hi hz0 hz1 hz2 (by rfl) (by omega) (.slice (some ⟨g, 0, none⟩) (m2 + 1) cap) (m2 + 1) _ (by rfl) _ _ hown4 w4.heap.size (by rfl) (by rfl) (by rfl) (one_ev ⟨⟨tk, ti, tt⟩, 1, (k : Int), false⟩) (by simp only [maxLen]; omega) (by omega) (by simp at hsz4; omega) ?_; intro g5 cap5 w5 hown5 hg5 hB5 hat5 hlt5))
              · go_roundw
                case rel =>
                  refine ⟨j + 1, m2 + 1 + 1, _, _, cl ++ [⟨⟨fk, fi, ft⟩, 1, (k : Int), true⟩, ⟨⟨tk, ti, tt⟩, 1, (k : Int), false⟩], by omega, by go_num, rfl, ?_, by omega, ?_, ?_, ?_⟩
                  · show _ = _
                    have hxo : xo = false := by simpa using ‹(!xo) = true›
                    rw [Hts.out, evP_snoc, Hcl2.out, hxo]
                    simp [evI]
                  · simpa [List.flatMap_append, Ev.cs] using hown5
                  · show _ = _
                    have := hql.out
                    simp; omega
                  · exact ((hb3.alloc hb3.size _).trans hB4).trans hB5
                case measure => simp [intOf]; omega
              · go_roundw
                case rel =>
                  refine ⟨j + 1, m2 + 1, _, _, cl ++ [⟨⟨fk, fi, ft⟩, 1, (k : Int), true⟩], by omega, by go_num, rfl, ?_, by omega, ?_, ?_, ?_⟩
                  · show _ = _
                    have hxo : xo = true := by simpa using ‹(!xo) = false›
                    rw [Hts.out, evP_snoc, Hcl2.out, hxo]
                    simp [evI]
                  · simpa [List.flatMap_append, Ev.cs] using hown4
                  · show _ = _
                    have := hql.out
                    simp; omega
                  · exact (hb3.alloc hb3.size _).trans hB4
                case measure => simp [intOf]; omega
            · go_wp2
              go_roundw
              case rel =>
                refine ⟨k + 1, m2, A'', c'', cl, by omega, by go_num, rfl, ?_, by omega, hown', hql, hb3⟩
                show _ = _
                have e1 : p.1.take j = p.1 := List.take_of_length_le (by have := Hn1.out; omega)
                rw [Hcl2.out, e1, Htk.out, evR_snoc, Hcol.out, Htl.out]
                simp
              case measure => simp [intOf]; omega
        · go_wp2
          go_roundw
          case rel =>
            refine ⟨mm, A', c', col, rfl, HOwn.out, Hcl.out, hb, .inr (.inr ⟨rfl, ?_, by omega⟩)⟩
            have h1 := Hcol.out
            rw [List.take_of_length_le (by rw [len_parts]; have := H1.out.len; omega), Hcol0.out] at h1
            exact h1
          case measure => simp [intOf]
    · have Hcol0 := Lib.hid hcol0
      have HO := Lib.hid ho0
      have HB := Lib.hid hb0
      clear hcol0 ho0 hb0
      rcases Nat.eq_zero_or_pos m0 with hm0 | hm0
      · subst hm0
        have hl := hl0.out
        obtain rfl : col0 = [] := List.eq_nil_of_length_eq_zero hl
        go_wp2_with fail
        refine (sortE_none A0 c0 _).mono ?_
        rintro e w2 ⟨rfl, rfl⟩
        go_wp2
        go_ret
        refine ⟨[], A0, c0, rfl, ⟨?_, List.Pairwise.nil⟩, Sl.nil, by simp, HB.out⟩
        have := Hcol0.out
        unfold evs
        rw [← this]
      · obtain ⟨G, cap, hv, hGb, hGl⟩ := HO.out.form hm0
        obtain ⟨rfl, rfl⟩ : A0 = some ⟨G, 0, none⟩ ∧ c0 = cap := by injection hv with h1 h2 h3; exact ⟨h1, h3⟩
        have hsl := Sl.of_own (cs := Ev.cs) Ev.cs_len hl0.out HO.out
        have HSl := Lib.hid hsl
        have HFz := Lib.hid (fun q => HO.out.frozenAt q)
        clear hsl hv
        go_wp2_with fail
        refine (sortE_any G 0 c0 m0 col0 _ HSl.out HFz.out hGl (by omega) hm0).mono ?_
        rintro e w2 ⟨rfl, qs, hq1, hq2, hq3, hq4⟩
        have hql : qs.length = m0 := by rw [hq1.length_eq]; exact hl0.out
        have HQ := Lib.hid (And.intro hq1 (And.intro hq2 hq3))
        have HB2 := Lib.hid (hq4.below HB.out HB.out.size (by rintro k rfl; exact hGb))
        clear hq1 hq2 hq3 hq4
        subst hql
        go_wp2
        go_ret
        refine ⟨qs, _, _, rfl, ⟨?_, HQ.out.2.1⟩, HQ.out.2.2, by omega, HB2.out⟩
        unfold evs
        rw [← Hcol0.out]
        exact HQ.out.1
end Go.Proofs.YtnocbigcdjlliaaGreat

/-
  Plain: one cell of a row of structs changed. No program here.
-/
namespace Go.Proofs.YtnocbigcdjlliaaGreat
open Go.RowKit
set_option maxRecDepth 100000

theorem flat_set {α : Type} {sz : Nat} {cs : α → List Value} (hcs : ∀ x, (cs x).length = sz) {x' : α} {u : Value} {j : Nat} : ∀ (l : List α) (i : Nat) (x : α), l[i]? = some x → j < sz → cs x' = (cs x).set j u → (l.flatMap cs).set (i * sz + j) u = (l.set i x').flatMap cs
  | [], i, x, h, _, _ => by simp at h
  | y :: l, 0, x, h, hj, he => by
    simp only [List.getElem?_cons_zero, Option.some.injEq] at h
    subst h
    rw [List.flatMap_cons, List.set_cons_zero, List.flatMap_cons, Nat.zero_mul, Nat.zero_add, List.set_append_left _ _ (by rw [hcs]; exact hj), he]
  | y :: l, i + 1, x, h, hj, he => by
    simp only [List.getElem?_cons_succ] at h
    have ih := flat_set hcs l i x h hj he
    rw [List.flatMap_cons, List.set_cons_succ, List.flatMap_cons, List.set_append_right _ _ (by rw [hcs, Nat.succ_mul]; omega), ← ih]
    congr 2
    rw [hcs, Nat.succ_mul]
    omega
end Go.Proofs.YtnocbigcdjlliaaGreat
