import Derived.Test.YtjlbnbljimmbeaaRCombine
namespace Go.Proofs.Ytjlbnbljimmbeaa
open Go.RowKit

set_option maxHeartbeats 1000000 in
theorem ordered_any (A : Option Addr) (n c : Nat) (l : List Iv) (w : World) (hn : n ≤ 1000000) (hs : IvS w A n l) :
    Calls Try.prog 54 #[.slice A n c] w fun e w' => e = .returned (.bool (ordFrom none l)) ∧ Below w.heap.size w w' := by
  have Hs := Lib.hid hs
  have hln := hs.len
  clear hs
  go_enter Try.func54, Try.ntmps54
  go_wp2
  go_loopw [7] (fun i wr => ∃ k : Nat, k ≤ n ∧ i = .int .i64 (k : Int) ∧ Hid (ordFrom none l = ordFrom (prevI l k) (l.drop k)) ∧ Below w.heap.size w wr) (fun i _ => n - (intOf i).toNat)
  case atStart => exact ⟨0, by omega, rfl, by simp [Hid, prevI], Below.refl _ _⟩
  case round =>
    obtain ⟨k, hk, rfl, hinv, hb⟩ := hrel
    by_cases hlt : k < n
    · have hS := Hs.out.keep (keeps_of hb)
      obtain ⟨b, o, x, rfl, hx, hc⟩ := hS.at hlt
      have hi := ord_step hx hinv.out
      obtain ⟨⟨fk, fi, ft⟩, ⟨tk, ti, tt⟩, xo⟩ := x
      obtain ⟨c0, c1, c2, c3, c4, c5, c6⟩ := IvAt.of hc
      dsimp only at c0 c1 c2 c3 c4 c5 c6
      rw [okI_eq] at hi
      obtain ⟨lst, Hl⟩ : ∃ lst, Hid (decide (k + 1 = l.length) = lst) := ⟨_, rfl⟩
      rw [Hl.out] at hi
      obtain ⟨pok, Hp⟩ : ∃ pok, Hid (prevOk (prevI l k) ⟨fk, fi, ft⟩ = pok) := ⟨_, rfl⟩
      rw [Hp.out] at hi
      have Hi := Lib.hid hi
      have HSS := Lib.hid hS
      clear hi hinv hc hx hS
      obtain ⟨v1, V1⟩ : ∃ v, Hid (validV ⟨fk, fi, ft⟩ = v) := ⟨_, rfl⟩
      go_wp2_with fail
      refine (rvalid_any ⟨fk, fi, ft⟩ _).mono ?_
      rintro e w1 ⟨rfl, hb1⟩
      rw [V1.out]
      have hB := Below.next (hb.alloc hb.size _) hb1
      have hKW := (keeps_alloc wr (.cells #[.int .i64 fk, .int .i64 fi, .string ft, .int .i64 tk, .int .i64 ti, .string tt, .bool xo] 26)).trans (keeps_of hb1)
      have hXX := (IvAt.new wr 26 ⟨⟨fk, fi, ft⟩, ⟨tk, ti, tt⟩, xo⟩).keep (keeps_of hb1)
      have HXX := Lib.hid hXX
      clear c0 c1 c2 c3 c4 c5 c6 hb1 hb
      cases v1
      · go_wp2
        go_ret
        exact ⟨ret_bool (by rw [Hi.out, V1.out]; simp), hB⟩
      · obtain ⟨e0, e1, e2, e3, e4, e5, e6⟩ := hXX
        dsimp only at e0 e1 e2 e3 e4 e5 e6
        simp only [Nat.zero_add] at e1 e2 e3 e4 e5 e6
        cases xo
        · obtain ⟨v2, V2⟩ : ∃ v, Hid (validV ⟨tk, ti, tt⟩ = v) := ⟨_, rfl⟩
          obtain ⟨v3, V3⟩ : ∃ v, Hid (cmpV ⟨fk, fi, ft⟩ ⟨tk, ti, tt⟩ = v) := ⟨_, rfl⟩
          go_wp2_with fail
          refine (rvalid_any ⟨tk, ti, tt⟩ _).mono ?_
          rintro e w2 ⟨rfl, hb2⟩
          rw [V2.out]
          replace hB := Below.next hB hb2
          have hK2 := bcell hb2
          cases v2
          · go_wp2
            go_ret
            exact ⟨ret_bool (by rw [Hi.out, V2.out]; simp), hB⟩
          · go_wp2_with fail
            refine (rcompare_any ⟨fk, fi, ft⟩ ⟨tk, ti, tt⟩ _).mono ?_
            rintro e w3 ⟨rfl, hb3⟩
            rw [V3.out]
            replace hB := Below.next hB hb3
            have hKK := (keeps_of hb2).trans (keeps_of hb3)
            replace hKW := hKW.trans hKK
            have hXX := HXX.out.keep hKK
            clear e0 e1 e2 e3 e4 e5 e6 hK2 hb2 hb3 hKK
            rcases Int.lt_or_le v3 0 with h3 | h3
            · have Hfin : Hid (ordFrom none l = (pok && ordFrom (prevI l (k + 1)) (l.drop (k + 1)))) := by
                show _ = _
                rw [Hi.out, V1.out, V2.out, V3.out]; simp [h3]
              go_wp2
              obtain ⟨e0, e1, e2, e3, e4, e5, e6⟩ := hXX
              dsimp only at e0 e1 e2 e3 e4 e5 e6
              simp only [Nat.zero_add] at e1 e2 e3 e4 e5 e6
              rcases Nat.eq_zero_or_pos k with hk0 | hk0
              · have g0 : decide (0 < k) = false := by simp [hk0]
                obtain rfl : pok = true := by rw [← Hp.out, hk0]; rfl
                have HK0 := Lib.hid hk0
                clear hk0
                have hca := @cell_after w3.drew
                refine wp_region_seg [([0, 1, 2, 3, 4, 5, 6, 7, 8, 9, 10], 11)] [12, 13] (by kernel_rfl) (by kernel_rfl) (fun _ _ d _ _ h => by cases d <;> exact h) ?_
                simp only [pickSegs, pickOps, opAt, List.map_cons, List.map_nil, List.getElem?_toArray, List.getElem?_cons_zero, List.getElem?_cons_succ, Option.getD_some]
                unfold wpBlocks
                repeat (go_big_quiet_step (fail))
                refine wpQuiet_nil ?_
                clear hca
                go_wp2
                refine ⟨Below.refl _ _, ?_⟩
                unfold wpBlocks
                repeat (go_big_quiet_step (fail))
                refine wpQuiet_nil ?_
                go_wp2
                go_roundw
                case rel => exact ⟨k + 1, by omega, by go_num, (by show _ = _; rw [Hfin.out]; simp), hB.drew⟩
                case measure => simp [intOf]; omega
              · have g0 : decide (0 < k) = true := by simp [hk0]
                obtain ⟨b', o', y, hA, hy, hd⟩ := HSS.out.at (show k - 1 < n by omega)
                obtain ⟨rfl, rfl⟩ : b = b' ∧ o = o' := by injection hA with h; injection h with h1 h2; exact ⟨h1, h2⟩
                obtain ⟨⟨pk, pi, pt⟩, ⟨qk, qi, qt⟩, yo⟩ := y
                obtain ⟨d3, d4, d5⟩ := (IvAt.of hd).to_.keep hKW
                dsimp only at d3 d4 d5
                obtain ⟨v, Hv⟩ : ∃ v, Hid (cmpV ⟨qk, qi, qt⟩ ⟨fk, fi, ft⟩ = v) := ⟨_, rfl⟩
                have Hpok : Hid (pok = decide (v < 0)) := by
                  show _ = _
                  rw [← Hp.out, ← Hv.out]
                  have : prevI l k = l[k - 1]? := by obtain ⟨j, rfl⟩ : ∃ j, k = j + 1 := ⟨k - 1, by omega⟩; rfl
                  rw [this, hy]; rfl
                clear hy hd hA
                have hca := @cell_after w3.drew
                refine wp_region_seg [([0, 1, 2, 3, 4, 5, 6, 7, 8, 9, 10], 11)] [12, 13] (by kernel_rfl) (by kernel_rfl) (fun _ _ d _ _ h => by cases d <;> exact h) ?_
                simp only [pickSegs, pickOps, opAt, List.map_cons, List.map_nil, List.getElem?_toArray, List.getElem?_cons_zero, List.getElem?_cons_succ, Option.getD_some]
                unfold wpBlocks
                repeat (go_big_quiet_step (fail))
                refine wpQuiet_nil ?_
                clear hca
                go_wp2_with (first | (go_at_call 49; refine (rcompare_any ⟨_, _, _⟩ ⟨_, _, _⟩ _).mono ?_; rintro e w9 ⟨rfl, hb9⟩; rw [Hv.out]))
                refine ⟨hb9, ?_⟩
                unfold wpBlocks
                repeat (go_big_quiet_step (fail))
                refine wpQuiet_nil ?_
                have hB9 := Below.next hB.drew hb9
                rcases Int.lt_or_le v 0 with hv | hv
                · go_wp2
                  go_roundw
                  case rel => exact ⟨k + 1, by omega, by go_num, (by show _ = _; rw [Hfin.out, Hpok.out]; simp [hv]), hB9⟩
                  case measure => simp [intOf]; omega
                · go_wp2
                  go_ret
                  exact ⟨ret_bool (by rw [Hfin.out, Hpok.out]; simp; intros; omega), hB9⟩
            · go_wp2
              go_ret
              exact ⟨ret_bool (by rw [Hi.out, V1.out, V2.out, V3.out]; simp; omega), hB⟩
        · by_cases hlast : k + 1 < n
          · go_wp2
            go_ret
            exact ⟨ret_bool (by rw [Hi.out, ← Hl.out]; simp; omega), hB⟩
          · obtain rfl : lst = true := by rw [← Hl.out]; simp; omega
            by_cases hz : tk = 0 ∧ ti = 0 ∧ tt.toList = []
            · obtain ⟨h1, h2, h3⟩ := hz
              have Hfin : Hid (ordFrom none l = (pok && ordFrom (prevI l (k + 1)) (l.drop (k + 1)))) := by
                show _ = _
                rw [Hi.out, V1.out]; simp [h1, h2, h3]
              subst h1 h2
              have H3 := Lib.hid h3
              have h3' : (!tt.toList.isEmpty) = false := by simp [h3]
              clear h3
              have hXX := HXX.out
              go_wp2
              clear e0 e1 e2 e3 e4 e5 e6
              obtain ⟨e0, e1, e2, e3, e4, e5, e6⟩ := hXX
              dsimp only at e0 e1 e2 e3 e4 e5 e6
              simp only [Nat.zero_add] at e1 e2 e3 e4 e5 e6
              rcases Nat.eq_zero_or_pos k with hk0 | hk0
              · have g0 : decide (0 < k) = false := by simp [hk0]
                obtain rfl : pok = true := by rw [← Hp.out, hk0]; rfl
                have HK0 := Lib.hid hk0
                clear hk0
                have hca := @cell_after w1.drew
                refine wp_region_seg [([0, 1, 2, 3, 4, 5, 6, 7, 8, 9, 10], 11)] [12, 13] (by kernel_rfl) (by kernel_rfl) (fun _ _ d _ _ h => by cases d <;> exact h) ?_
                simp only [pickSegs, pickOps, opAt, List.map_cons, List.map_nil, List.getElem?_toArray, List.getElem?_cons_zero, List.getElem?_cons_succ, Option.getD_some]
                unfold wpBlocks
                repeat (go_big_quiet_step (fail))
                refine wpQuiet_nil ?_
                clear hca
                go_wp2
                refine ⟨Below.refl _ _, ?_⟩
                unfold wpBlocks
                repeat (go_big_quiet_step (fail))
                refine wpQuiet_nil ?_
                go_wp2
                go_roundw
                case rel => exact ⟨k + 1, by omega, by go_num, (by show _ = _; rw [Hfin.out]; simp), hB.drew⟩
                case measure => simp [intOf]; omega
              · have g0 : decide (0 < k) = true := by simp [hk0]
                obtain ⟨b', o', y, hA, hy, hd⟩ := HSS.out.at (show k - 1 < n by omega)
                obtain ⟨rfl, rfl⟩ : b = b' ∧ o = o' := by injection hA with h; injection h with h1 h2; exact ⟨h1, h2⟩
                obtain ⟨⟨pk, pi, pt⟩, ⟨qk, qi, qt⟩, yo⟩ := y
                obtain ⟨d3, d4, d5⟩ := (IvAt.of hd).to_.keep hKW
                dsimp only at d3 d4 d5
                obtain ⟨v, Hv⟩ : ∃ v, Hid (cmpV ⟨qk, qi, qt⟩ ⟨fk, fi, ft⟩ = v) := ⟨_, rfl⟩
                have Hpok : Hid (pok = decide (v < 0)) := by
                  show _ = _
                  rw [← Hp.out, ← Hv.out]
                  have : prevI l k = l[k - 1]? := by obtain ⟨j, rfl⟩ : ∃ j, k = j + 1 := ⟨k - 1, by omega⟩; rfl
                  rw [this, hy]; rfl
                clear hy hd hA
                have hca := @cell_after w1.drew
                refine wp_region_seg [([0, 1, 2, 3, 4, 5, 6, 7, 8, 9, 10], 11)] [12, 13] (by kernel_rfl) (by kernel_rfl) (fun _ _ d _ _ h => by cases d <;> exact h) ?_
                simp only [pickSegs, pickOps, opAt, List.map_cons, List.map_nil, List.getElem?_toArray, List.getElem?_cons_zero, List.getElem?_cons_succ, Option.getD_some]
                unfold wpBlocks
                repeat (go_big_quiet_step (fail))
                refine wpQuiet_nil ?_
                clear hca
                go_wp2_with (first | (go_at_call 49; refine (rcompare_any ⟨_, _, _⟩ ⟨_, _, _⟩ _).mono ?_; rintro e w9 ⟨rfl, hb9⟩; rw [Hv.out]))
                refine ⟨hb9, ?_⟩
                unfold wpBlocks
                repeat (go_big_quiet_step (fail))
                refine wpQuiet_nil ?_
                have hB9 := Below.next hB.drew hb9
                rcases Int.lt_or_le v 0 with hv | hv
                · go_wp2
                  go_roundw
                  case rel => exact ⟨k + 1, by omega, by go_num, (by show _ = _; rw [Hfin.out, Hpok.out]; simp [hv]), hB9⟩
                  case measure => simp [intOf]; omega
                · go_wp2
                  go_ret
                  exact ⟨ret_bool (by rw [Hfin.out, Hpok.out]; simp; intros; omega), hB9⟩
            · have Hbad : Hid (ordFrom none l = false) := by
                show _ = _
                rw [Hi.out]
                simp
                grind
              have HZ := Lib.hid hz
              clear hz
              go_wp2
              all_goals
                first
                  | (go_ret; exact ⟨ret_bool (Hbad.out.symm), hB⟩)
                  | (exfalso; apply HZ.out; refine ⟨?_, ?_, ?_⟩ <;> first | rfl | assumption)
    · go_wp2
      go_ret
      exact ⟨ret_bool (by rw [hinv.out]; have hkl : k = l.length := (by have := Hs.out.len; omega); subst hkl; simp [ordFrom]), hb⟩
end Go.Proofs.Ytjlbnbljimmbeaa
