import Derived.Test.YtnocbigcdjlliaaBut
namespace Go.Proofs.Ytnocbigcdjlliaa
open Go.RowKit
theorem info_iv : (Try.prog.info? 41).map (fun i => (i.zero, i.size, i.bytes)) = some (some (.agg #[.int .i64 0, .int .i64 0, .string ⟨#[]⟩, .int .i64 0, .int .i64 0, .string ⟨#[]⟩, .bool false]), 7, 72) := by kernel_rfl
def ptsL : List Iv → List Vl
  | [] => []
  | x :: r => if x.o then x.f :: ptsL r else x.f :: x.t :: ptsL r
theorem ptsL_snoc (l : List Iv) (x : Iv) : ptsL (l ++ [x]) = ptsL l ++ (if x.o then [x.f] else [x.f, x.t]) := by
  induction l with
  | nil => simp only [List.nil_append, ptsL]
  | cons y l ih =>
    simp only [List.cons_append, ptsL, ih]
    split <;> simp
theorem ptsL_len (l : List Iv) : (ptsL l).length ≤ 2 * l.length := by
  induction l with
  | nil => simp [ptsL]
  | cons y l ih =>
    simp only [ptsL]
    split <;> simp only [List.length_cons] <;> omega

set_option maxRecDepth 8000 in
set_option maxHeartbeats 1000000 in
theorem points_any (A : Option Addr) (n c : Nat) (l : List Iv) (w : World) (hn : n ≤ 64) (hs : IvS w A n l) :
    Calls Try.prog 54 #[.slice A n c] w fun e w' => ∃ (A' : Option Addr) (c' : Nat), e = .returned (.slice A' (ptsL l).length c') ∧ VlS w' A' (ptsL l).length (ptsL l) ∧ Below w.heap.size w w' := by
  have Hs := Lib.hid hs
  have hln := hs.len
  clear hs
  obtain ⟨i0, hi, hz0, hz1, hz2⟩ := info_parts info_vl
  go_enter Try.func54, Try.ntmps54
  go_wp2_with (at_make; refine wpList_make_own w rfl _ _ _ rfl w.heap.size 39 i0 _ 3 Try.underlying100 hi hz0 hz1 .i64 .i64 _ (2 * n) rfl rfl (by omega) (by rw [hz2]; omega) (by simp only [maxLen]; omega) (Nat.le_refl _) ?_; intro w1 hown hg)
  have hB1 : Below w.heap.size w w1 := (Below.refl _ _).grown hg (Nat.le_refl _) (by simp)
  clear hg
  go_loopw [3, 12] (fun v i wr => ∃ (k : Nat) (A' : Option Addr) (m c' : Nat) (q : List Vl), k ≤ n ∧ i = .int .i64 (k : Int) ∧ v = .slice A' m c' ∧ Hid (q = ptsL (l.take k)) ∧ m ≤ 2 * k ∧ wr.ownsRow w.heap.size 39 3 (.slice A' m c') m (q.flatMap Vl.cs) ∧ Hid (q.length = m) ∧ Below w.heap.size w wr) (fun _ i _ => n - (intOf i).toNat)
  case atStart => exact ⟨0, _, _, _, [], by omega, rfl, rfl, by simp [Hid, ptsL], by omega, hown, rfl, hB1⟩
  case round =>
    obtain ⟨k, A', m, c', q, hk, rfl, rfl, hq, hm, hown', hql, hb⟩ := hrel
    by_cases hlt : k < n
    · obtain ⟨b, o, x, rfl, hx, hc⟩ := (Hs.out.keep (keeps_of hb)).at hlt
      have Hq := Lib.hid (take_snoc' hx)
      obtain ⟨⟨fk, fi, ft⟩, ⟨tk, ti, tt⟩, xo⟩ := x
      obtain ⟨c0, c1, c2, c3, c4, c5, c6⟩ := IvAt.of hc
      dsimp only at c0 c1 c2 c3 c4 c5 c6
      clear hx hc
      have hsz := hb.size
      go_wp2_with (first
        | (at_builtin; refine wpList_append_one (by rfl) (.tmp 16) (.tmp 19) _ (by rfl) w.heap.size 39 i0 _ 3 32 Try.underlying100 hi hz0 hz1 hz2 (by rfl) (by omega) (.slice A' m c') m _ (by rfl) _ _ (hown'.alloc _) (wr.heap.size + 1) (by simp) (by rfl) (by rfl) (one_vl ⟨fk, fi, ft⟩) (by simp only [maxLen]; omega) (by omega) (by simp; omega) ?_; intro g cap w2 hown2 hg2 hB2 hat2 hlt2; have hbx := (Blk.grown (Blk.new wr _ _) hg2 (own_ne hown')).cell; have hsz2 := hB2.size)
        | (at_builtin; refine wpList_append_one (by rfl) (.tmp 24) (.tmp 27) _ (by rfl) w.heap.size 39 i0 _ 3 32 Try.underlying100 hi hz0 hz1 hz2 (by rfl) (by omega) (.slice (some ⟨g, 0, none⟩) (m + 1) cap) (m + 1) _ (by rfl) _ _ hown2 w2.heap.size (by rfl) (by rfl) (by rfl) (one_vl ⟨tk, ti, tt⟩) (by simp only [maxLen]; omega) (by omega) (by simp at hsz2; omega) ?_; intro g3 cap3 w3 hown3 hg3 hB3 hat3 hlt3))
      · go_roundw
        case rel =>
          refine ⟨k + 1, _, m + 1 + 1, _, q ++ [⟨fk, fi, ft⟩, ⟨tk, ti, tt⟩], by omega, by go_num, rfl, ?_, by omega, ?_, ?_, ?_⟩
          · show _ = _
            have hxo : xo = false := by simpa using ‹(!xo) = true›
            rw [Hq.out, ptsL_snoc, ← hq.out, if_neg (by simp [hxo])]
          · simpa [List.flatMap_append, Vl.cs] using hown3
          · show _ = _
            have := hql.out
            simp; omega
          · exact ((hb.alloc hb.size _).trans hB2).trans hB3
        case measure => simp [intOf]; omega
      · go_roundw
        case rel =>
          refine ⟨k + 1, _, m + 1, _, q ++ [⟨fk, fi, ft⟩], by omega, by go_num, rfl, ?_, by omega, ?_, ?_, ?_⟩
          · show _ = _
            have hxo : xo = true := by simpa using ‹(!xo) = false›
            rw [Hq.out, ptsL_snoc, ← hq.out, if_pos (by simp [hxo])]
          · simpa [List.flatMap_append, Vl.cs] using hown2
          · show _ = _
            have := hql.out
            simp; omega
          · exact (hb.alloc hb.size _).trans hB2
        case measure => simp [intOf]; omega
    · go_wp2
      go_ret
      obtain rfl : k = n := by omega
      have hq1 : q = ptsL l := by rw [hq.out, List.take_of_length_le (by omega)]
      subst hq1
      obtain rfl : (ptsL l).length = m := hql.out
      exact ⟨A', c', rfl, Sl.of_own Vl.cs_len rfl hown', hb⟩
end Go.Proofs.Ytnocbigcdjlliaa
