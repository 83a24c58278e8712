import Derived.Test.YtjlbnbljimmbeaaOwnI
namespace Go.Proofs.Ytjlbnbljimmbeaa
open Go.RowKit

set_option maxRecDepth 100000 in
set_option maxHeartbeats 8000000 in
theorem spoilt_any (g : Nat) (w : World) (hc : CaseAt w g) : Calls Try.prog 14 #[.pointer (some ⟨g, 0, none⟩)] w fun e w' => SomeAny w g e w' := by
  obtain ⟨i0, hi, hz0, hz1, hz2⟩ := info_parts info_iv
  go_enter Try.func14, Try.ntmps14
  go_wp2_with fail
  refine (cinterval_any g _ hc).mono ?_
  rintro e w1 ⟨l, A, c, hG, rfl, hS, hN, hP, hc1, hb1⟩
  have hl := hG.len
  have HS := Lib.hid hS
  have HN := Lib.hid hN
  have HP := Lib.hid hP
  clear hG hS hN hP
  by_cases h0 : l.length = 0
  · have g0 : ((l.length : Int) == 0) = true := by simp [List.eq_nil_of_length_eq_zero h0]
    clear h0
    go_wp2_with (at_builtin; refine wpList_append_sl (cs := Iv.cs) w1 (by rfl) _ (.tmp 6) _ (by rfl) w1.heap.size 26 i0 _ 7 72 Try.underlying22 hi hz0 hz1 hz2 (by rfl) (by omega) (.slice none 0 0) 0 [] (by rfl) ⟨by simp, .inl ⟨rfl, rfl⟩⟩ A l.length c l (by rfl) HS.out HN.out HP.out Iv.cs_len one_iv (by simp only [maxLen]; omega) (by omega) (Nat.le_refl _) ?_; intro A2 c2 w2 hown2 hg2 hB2 hat2 hnl2; simp only [Nat.zero_add, List.nil_append] at hown2)
    have hc2 := hc1.below hB2
    have hb2 : But (· = g) w w2 := hb1.trans (But.of_below hB2)
    clear HS HN HP hown2 hg2 hB2 hat2 hnl2
    go_wp2_with fail
    refine (any2_any g _ hc2).mono ?_
    rintro e w3 ⟨⟨⟨ak, ai, ab⟩, hav, har, rfl⟩, hc3, hb3⟩
    clear hav har
    go_wp2_with fail
    refine (any2_any g _ hc3).mono ?_
    rintro e w4 ⟨⟨⟨bk, bi, bt⟩, hav, har, rfl⟩, hc4, hb4⟩
    clear hav har
    go_wp2_with fail
    refine (bool_any g 2 _ hc4 (by omega) (by omega)).mono ?_
    rintro e w5 ⟨⟨q, rfl⟩, hc5, hb5⟩
    go_wp2
    go_ret
    have hA := (Below.refl w5.heap.size w5).alloc (Nat.le_refl _) (.cells #[.int .i64 ak, .int .i64 ai, .string ab, .int .i64 bk, .int .i64 bi, .string bt, .bool q] 26)
    exact ⟨[⟨⟨ak, ai, ab⟩, ⟨bk, bi, bt⟩, q⟩], _, _, by simp, rfl, iv_one (T := 26) (Blk.new w5 26 #[.int .i64 ak, .int .i64 ai, .string ab, .int .i64 bk, .int .i64 bi, .string bt, .bool q]), hc5.below hA, (((hb2.trans hb3).trans hb4).trans hb5).trans (But.of_below hA)⟩
  · have g0 : ((l.length : Int) == 0) = false := by simp; intro h; exact h0 (by rw [h]; rfl)
    go_wp2_with (at_builtin; refine wpList_append_sl (cs := Iv.cs) w1 (by rfl) _ (.tmp 6) _ (by rfl) w1.heap.size 26 i0 _ 7 72 Try.underlying22 hi hz0 hz1 hz2 (by rfl) (by omega) (.slice none 0 0) 0 [] (by rfl) ⟨by simp, .inl ⟨rfl, rfl⟩⟩ A l.length c l (by rfl) HS.out HN.out HP.out Iv.cs_len one_iv (by simp only [maxLen]; omega) (by omega) (Nat.le_refl _) ?_; intro A2 c2 w2 hown2 hg2 hB2 hat2 hnl2; simp only [Nat.zero_add, List.nil_append] at hown2)
    have hc2 := hc1.below hB2
    have hb2 : But (· = g) w w2 := hb1.trans (But.of_below hB2)
    have hsz2 := hB2.size
    have hsw : w.heap.size ≤ w1.heap.size := hb1.size
    have hglt : g < w1.heap.size := hc1.lt
    clear HS HN HP hg2 hB2 hat2 hnl2
    generalize hk : l.length = k at *
    obtain ⟨G, cap, hv, hGb, hGl⟩ := hown2.form (by omega)
    obtain ⟨rfl, rfl⟩ : A2 = some ⟨G, 0, none⟩ ∧ c2 = cap := by injection hv with h1 h2 h3; exact ⟨h1, h3⟩
    have HO2 : Hid (OwnI w2 w1.heap.size G k c2 l) := Lib.hid ⟨hown2, hk⟩
    clear hown2 hk hv
    have hGg : ¬ G = g := by omega
    go_wp2_with fail
    refine (int_any g (k : Int) _ hc2 (by omega) (by omega)).mono ?_
    rintro e w3 ⟨⟨z, hz1, hz2, rfl⟩, hc3, hb3⟩
    obtain ⟨i, rfl⟩ := Int.eq_ofNat_of_zero_le hz1
    have hik : i < k := by omega
    clear hz1 hz2
    go_wp2_with fail
    refine (int_any g 7 _ hc3 (by omega) (by omega)).mono ?_
    rintro e w4 ⟨⟨y, hy1, hy2, rfl⟩, hc4, hb4⟩
    have HO4 := Lib.hid ((HO2.out.but hb3 hGg).but hb4 hGg)
    have hb4' := (hb2.trans hb3).trans hb4
    clear HO2 hb2 hb3 hb4 hc2 hc3
    have hyy : y = 0 ∨ y = 1 ∨ y = 2 ∨ y = 3 ∨ y = 4 ∨ y = 5 ∨ y = 6 := by omega
    obtain ⟨b6, o6, x, hA6, hx6, hc6⟩ := HO4.out.sl.at hik
    obtain ⟨rfl, rfl⟩ : G = b6 ∧ 0 = o6 := by injection hA6 with h; injection h with h1 h2; exact ⟨h1, h2⟩
    have HX6 := Lib.hid hx6
    have HC6 := Lib.hid hc6
    clear hA6 hx6 hc6
    have hgG : ∀ b, b = G → g < b := fun b hb => by omega
    have hwG : w.heap.size ≤ G := by omega
    rcases hyy with rfl | rfl | rfl | rfl | rfl | rfl | rfl
    · go_wp2_with fail
      refine (any2_any g _ hc4).mono ?_
      rintro e w5 ⟨⟨⟨vk, vi, vt⟩, hav, har, rfl⟩, hc5, hb5⟩
      clear hav har
      have HO5 := Lib.hid (HO4.out.but hb5 hGg)
      obtain ⟨b7, o7, x7, hA7, hx7, hc7⟩ := HO5.out.sl.at hik
      obtain ⟨rfl, rfl⟩ : G = b7 ∧ 0 = o7 := by injection hA7 with h; injection h with h1 h2; exact ⟨h1, h2⟩
      obtain ⟨y0, y1, y2, y3, y4, y5, y6⟩ := IvAt.of hc7
      simp only [Nat.zero_add] at y0 y1 y2 y3 y4 y5 y6
      have hfz := fun q => HO5.out.1.frozenAt q
      have HX7 := Lib.hid hx7
      clear hx7 hc7 hA7
      go_wp2
      go_ret
      obtain ⟨l', ho⟩ := HO5.out.from_ HX7.out ⟨vk, vi, vt⟩
      have hp := put3 hc5 (hgG G rfl) (hb4'.trans hb5) hwG (i * 7) (i * 7 + 1) (i * 7 + 2) (.int .i64 vk) (.int .i64 vi) (.string vt)
      exact some_own ho (by omega) hp.1 hp.2
    · go_wp2_with fail
      refine (any2_any g _ hc4).mono ?_
      rintro e w5 ⟨⟨⟨vk, vi, vt⟩, hav, har, rfl⟩, hc5, hb5⟩
      clear hav har
      have HO5 := Lib.hid (HO4.out.but hb5 hGg)
      obtain ⟨b7, o7, x7, hA7, hx7, hc7⟩ := HO5.out.sl.at hik
      obtain ⟨rfl, rfl⟩ : G = b7 ∧ 0 = o7 := by injection hA7 with h; injection h with h1 h2; exact ⟨h1, h2⟩
      obtain ⟨y0, y1, y2, y3, y4, y5, y6⟩ := IvAt.of hc7
      simp only [Nat.zero_add] at y0 y1 y2 y3 y4 y5 y6
      have hfz := fun q => HO5.out.1.frozenAt q
      have HX7 := Lib.hid hx7
      clear hx7 hc7 hA7
      go_wp2
      go_ret
      obtain ⟨l', ho⟩ := HO5.out.to_ HX7.out ⟨vk, vi, vt⟩
      have hp := put3 hc5 (hgG G rfl) (hb4'.trans hb5) hwG (i * 7 + 3) (i * 7 + 4) (i * 7 + 5) (.int .i64 vk) (.int .i64 vi) (.string vt)
      exact some_own ho (by omega) hp.1 hp.2
    all_goals
      obtain ⟨y0, y1, y2, y3, y4, y5, y6⟩ := IvAt.of HC6.out
      simp only [Nat.zero_add] at y0 y1 y2 y3 y4 y5 y6
      have hfz := fun q => HO4.out.1.frozenAt q
    · go_wp2
      go_ret
      obtain ⟨l', ho⟩ := HO4.out.open_ HX6.out (!x.o)
      have hp := put1 hc4 (hgG G rfl) hb4' hwG (i * 7 + 6) (.bool (!x.o))
      exact some_own ho (by omega) hp.1 hp.2
    · clear hfz
      have HOW := HO4.out.1
      go_wp2_with (at_builtin; refine wpList_append_one2 (by rfl) (.tmp 60) (.tmp 65) _ (by rfl) w1.heap.size 26 i0 _ 7 72 Try.underlying22 hi hz0 hz1 hz2 (by rfl) (by omega) (.slice (some ⟨G, 0, none⟩) k c2) k _ (by rfl) _ _ HOW w4.heap.size (by rfl) (by rfl) (by rfl) (one_iv x) (by simp only [maxLen]; omega) (by omega) (by have := HOW.form (by omega); omega) ?_; intro g6 cap6 w6 hown6 hg6 hB6 hat6 hlt6)
      go_ret
      have ho : OwnI w6 w1.heap.size g6 (k + 1) cap6 (l ++ [x]) := ⟨by rw [List.flatMap_append]; simpa [Iv.cs] using hown6, by rw [List.length_append, HO4.out.2]; rfl⟩
      exact some_own ho (by omega) (hc4.belowB hB6 hglt) (hb4'.belowB hB6 hsw)
    · clear y0 y1 y2 y3 y4 y5 y6 HX6 HC6
      have hk4 : k = 1 ∨ k = 2 ∨ k = 3 ∨ k = 4 := by omega
      rcases hk4 with rfl | rfl | rfl | rfl
      · obtain ⟨b7, o7, xa, hA7, hxa, hca7⟩ := HO4.out.sl.at (show 0 < 1 by omega)
        obtain ⟨rfl, rfl⟩ : G = b7 ∧ 0 = o7 := by injection hA7 with h; injection h with h1 h2; exact ⟨h1, h2⟩
        obtain ⟨y0, y1, y2, y3, y4, y5, y6⟩ := IvAt.of hca7
        simp only [Nat.zero_add, Nat.zero_mul] at y0 y1 y2 y3 y4 y5 y6
        clear hxa hA7 hca7
        go_wp2
        go_region
        go_wp2
        go_ret
        obtain ⟨l1, ho1⟩ := HO4.out.whole (i := 0) (by omega) xa
        obtain ⟨l2, ho2⟩ := ho1.whole (i := 0) (by omega) xa
        have hp1 := put7 hc4 (hgG G rfl) hb4' hwG 0 xa
        have hp2 := put7 hp1.1 (hgG G rfl) hp1.2 hwG 0 xa
        exact some_own ho2.drew (by omega) (hp2.1.below (Below.refl _ _).drew) hp2.2.drew
      · obtain ⟨b7, o7, xa, hA7, hxa, hca7⟩ := HO4.out.sl.at (show 0 < 2 by omega)
        obtain ⟨rfl, rfl⟩ : G = b7 ∧ 0 = o7 := by injection hA7 with h; injection h with h1 h2; exact ⟨h1, h2⟩
        obtain ⟨y0, y1, y2, y3, y4, y5, y6⟩ := IvAt.of hca7
        simp only [Nat.zero_add, Nat.zero_mul] at y0 y1 y2 y3 y4 y5 y6
        clear hxa hA7 hca7
        obtain ⟨b8, o8, xb, hA8, hxb, hcb7⟩ := HO4.out.sl.at (show 1 < 2 by omega)
        obtain ⟨rfl, rfl⟩ : G = b8 ∧ 0 = o8 := by injection hA8 with h; injection h with h1 h2; exact ⟨h1, h2⟩
        obtain ⟨z0, z1, z2, z3, z4, z5, z6⟩ := IvAt.of hcb7
        simp only [Nat.zero_add, Nat.reduceMul, Nat.reduceAdd] at z0 z1 z2 z3 z4 z5 z6
        clear hxb hA8 hcb7
        go_wp2
        go_region
        go_wp2
        go_ret
        obtain ⟨l1, ho1⟩ := HO4.out.whole (i := 0) (by omega) xb
        obtain ⟨l2, ho2⟩ := ho1.whole (i := 1) (by omega) xa
        have hp1 := put7 hc4 (hgG G rfl) hb4' hwG 0 xb
        have hp2 := put7 hp1.1 (hgG G rfl) hp1.2 hwG 7 xa
        exact some_own ho2.drew (by omega) (hp2.1.below (Below.refl _ _).drew) hp2.2.drew
      · obtain ⟨b7, o7, xa, hA7, hxa, hca7⟩ := HO4.out.sl.at (show 0 < 3 by omega)
        obtain ⟨rfl, rfl⟩ : G = b7 ∧ 0 = o7 := by injection hA7 with h; injection h with h1 h2; exact ⟨h1, h2⟩
        obtain ⟨y0, y1, y2, y3, y4, y5, y6⟩ := IvAt.of hca7
        simp only [Nat.zero_add, Nat.zero_mul] at y0 y1 y2 y3 y4 y5 y6
        clear hxa hA7 hca7
        obtain ⟨b8, o8, xb, hA8, hxb, hcb7⟩ := HO4.out.sl.at (show 2 < 3 by omega)
        obtain ⟨rfl, rfl⟩ : G = b8 ∧ 0 = o8 := by injection hA8 with h; injection h with h1 h2; exact ⟨h1, h2⟩
        obtain ⟨z0, z1, z2, z3, z4, z5, z6⟩ := IvAt.of hcb7
        simp only [Nat.zero_add, Nat.reduceMul, Nat.reduceAdd] at z0 z1 z2 z3 z4 z5 z6
        clear hxb hA8 hcb7
        go_wp2
        go_region
        go_wp2
        go_ret
        obtain ⟨l1, ho1⟩ := HO4.out.whole (i := 0) (by omega) xb
        obtain ⟨l2, ho2⟩ := ho1.whole (i := 2) (by omega) xa
        have hp1 := put7 hc4 (hgG G rfl) hb4' hwG 0 xb
        have hp2 := put7 hp1.1 (hgG G rfl) hp1.2 hwG 14 xa
        exact some_own ho2.drew (by omega) (hp2.1.below (Below.refl _ _).drew) hp2.2.drew
      · obtain ⟨b7, o7, xa, hA7, hxa, hca7⟩ := HO4.out.sl.at (show 0 < 4 by omega)
        obtain ⟨rfl, rfl⟩ : G = b7 ∧ 0 = o7 := by injection hA7 with h; injection h with h1 h2; exact ⟨h1, h2⟩
        obtain ⟨y0, y1, y2, y3, y4, y5, y6⟩ := IvAt.of hca7
        simp only [Nat.zero_add, Nat.zero_mul] at y0 y1 y2 y3 y4 y5 y6
        clear hxa hA7 hca7
        obtain ⟨b8, o8, xb, hA8, hxb, hcb7⟩ := HO4.out.sl.at (show 3 < 4 by omega)
        obtain ⟨rfl, rfl⟩ : G = b8 ∧ 0 = o8 := by injection hA8 with h; injection h with h1 h2; exact ⟨h1, h2⟩
        obtain ⟨z0, z1, z2, z3, z4, z5, z6⟩ := IvAt.of hcb7
        simp only [Nat.zero_add, Nat.reduceMul, Nat.reduceAdd] at z0 z1 z2 z3 z4 z5 z6
        clear hxb hA8 hcb7
        go_wp2
        go_region
        go_wp2
        go_ret
        obtain ⟨l1, ho1⟩ := HO4.out.whole (i := 0) (by omega) xb
        obtain ⟨l2, ho2⟩ := ho1.whole (i := 3) (by omega) xa
        have hp1 := put7 hc4 (hgG G rfl) hb4' hwG 0 xb
        have hp2 := put7 hp1.1 (hgG G rfl) hp1.2 hwG 21 xa
        exact some_own ho2.drew (by omega) (hp2.1.below (Below.refl _ _).drew) hp2.2.drew
    · go_wp2
      go_ret
      obtain ⟨l', ho⟩ := HO4.out.num HX6.out (wrap64 (x.f.i + 1))
      have hp := put1 hc4 (hgG G rfl) hb4' hwG (i * 7 + 1) (.int .i64 (wrap64 (x.f.i + 1)))
      exact some_own ho (by omega) hp.1 hp.2
    · go_wp2
      go_ret
      obtain ⟨l', ho⟩ := HO4.out.kind HX6.out 0
      have hp := put1 hc4 (hgG G rfl) hb4' hwG (i * 7) (.int .i64 0)
      exact some_own ho (by omega) hp.1 hp.2
end Go.Proofs.Ytjlbnbljimmbeaa
