import Derived.Test.YtnocbigcdjlliaaValue
import Derived.Test.YtnocbigcdjlliaaMem
namespace Go.Proofs.Ytnocbigcdjlliaa
open Go.RowKit

set_option maxHeartbeats 1000000 in
theorem ivvalid_any (A : Option Addr) (n c : Nat) (l : List Iv) (w : World) (hn : n ≤ 64) (hs : IvS w A n l) :
    Calls Try.prog 10 #[.slice A n c] w fun e w' => e = .returned (.bool (ordFrom none l)) ∧ Below w.heap.size w w' := by
  have Hs := Lib.hid hs
  have hln := hs.len
  clear hs
  go_enter Try.func10, Try.ntmps10
  go_wp2
  go_loopw [10] (fun i wr => ∃ k : Nat, k ≤ n ∧ i = .int .i64 (k : Int) ∧ Hid (ordFrom none l = ordFrom (prevI l k) (l.drop k)) ∧ Below w.heap.size w wr) (fun i _ => n - (intOf i).toNat)
  case atStart => exact ⟨0, by omega, rfl, by simp [Hid, prevI], Below.refl _ _⟩
  case round =>
    obtain ⟨k, hk, rfl, hinv, hb⟩ := hrel
    by_cases hlt : k < n
    · have hS := Hs.out.keep (keeps_of hb)
      obtain ⟨b, o, x, rfl, hx, hc⟩ := hS.at hlt
      have hi := ord_step hx hinv.out
      obtain ⟨⟨fk, fi, ft⟩, ⟨tk, ti, tt⟩, xo⟩ := x
      obtain ⟨c0, c1, c2, c3, c4, c5, c6⟩ := IvAt.of hc
      dsimp only at c0 c1 c2 c3 c4 c5 c6
      rw [okI_eq] at hi
      obtain ⟨lst, Hl⟩ : ∃ lst, Hid (decide (k + 1 = l.length) = lst) := ⟨_, rfl⟩
      rw [Hl.out] at hi
      obtain ⟨pok, Hp⟩ : ∃ pok, Hid (prevOk (prevI l k) ⟨fk, fi, ft⟩ = pok) := ⟨_, rfl⟩
      rw [Hp.out] at hi
      have Hi := Lib.hid hi
      clear hi hinv hc hx
      go_wp2_with (first | (go_at_call 15; refine (valid_any ⟨_, _, _⟩ _).mono ?_; rintro e w1 ⟨rfl, hb1⟩))
      · go_ret
        refine ⟨ret_bool ?_, ?_⟩
        · rw [Hi.out]; simp_all
        · exact Below.next (hb.alloc hb.size _) hb1
      · have hK1 := keeps_of hb1
        obtain ⟨e0, e1, e2, e3, e4, e5, e6⟩ := (IvAt.new wr 41 ⟨⟨fk, fi, ft⟩, ⟨tk, ti, tt⟩, xo⟩).keep hK1
        dsimp only at e0 e1 e2 e3 e4 e5 e6
        simp only [Nat.zero_add] at e1 e2 e3 e4 e5 e6
        clear c0 c1 c2 c3 c4 c5 c6
        have hca := @cell_after w1
        refine wp_region_later (by kernel_rfl) (by kernel_rfl) ?_
        rcases Nat.eq_zero_or_pos k with hk0 | hk0
        · have g0 : decide (0 < k) = false := by simp [hk0]
          obtain rfl : pok = true := by rw [← Hp.out, hk0]; rfl
          clear hk0
          clear hS
          repeat (go_big_quiet_step (fail))
          refine wpQuiet_nil ?_
          intro w2 hb2
          have hB := Below.next (hb.alloc hb.size _) (Below.next hb1 hb2)
          have hX := (IvAt.new wr 41 ⟨⟨fk, fi, ft⟩, ⟨tk, ti, tt⟩, xo⟩).keep (hK1.trans (keeps_of hb2))
          clear hb1 e0 e1 e2 e3 e4 e5 e6 hca hK1 g0
          obtain ⟨e0, e1, e2, e3, e4, e5, e6⟩ := hX
          dsimp only at e0 e1 e2 e3 e4 e5 e6
          simp only [Nat.zero_add] at e1 e2 e3 e4 e5 e6
          go_wp2_with (first
             | (go_at_call 15; refine (valid_any ⟨_, _, _⟩ _).mono ?_; rintro e w3 ⟨rfl, hb3⟩; replace hB := Below.next hB hb3; have hk3 := bcell hb3)
             | (go_at_call 16; refine (compare_any ⟨_, _, _⟩ ⟨_, _, _⟩ _).mono ?_; rintro e w4 ⟨rfl, hb4⟩; replace hB := Below.next hB hb4))
          all_goals
            have hl := Hl.out
            have hi := Hi.out
            first
              | (go_ret
                 refine ⟨ret_bool ?_, hB⟩
                 rw [hi]
                 first | (simp [*]; done) | (simp [*]; intros; omega) | (obtain rfl : lst = false := (by rw [← hl]; simp; omega); simp [*]))
              | (go_roundw
                 case rel =>
                   refine ⟨k + 1, by omega, by go_num, ?_, hB⟩
                   show _ = _
                   rw [hi]
                   first | (simp_all; done) | (obtain rfl : lst = true := (by rw [← hl]; simp; omega); simp_all)
                 case measure => simp [intOf]; omega)
        · have g0 : decide (0 < k) = true := by simp [hk0]
          obtain ⟨b', o', y, hA, hy, hd⟩ := hS.at (show k - 1 < n by omega)
          obtain ⟨rfl, rfl⟩ : b = b' ∧ o = o' := by injection hA with h; injection h with h1 h2; exact ⟨h1, h2⟩
          obtain ⟨⟨pk, pi, pt⟩, ⟨qk, qi, qt⟩, yo⟩ := y
          obtain ⟨d3, d4, d5⟩ := (IvAt.of hd).to_.keep ((keeps_alloc _ _).trans hK1)
          dsimp only at d3 d4 d5
          obtain rfl : decide (cmpV ⟨qk, qi, qt⟩ ⟨fk, fi, ft⟩ < 0) = pok := by
            rw [← Hp.out]
            have : prevI l k = l[k - 1]? := by obtain ⟨j, rfl⟩ : ∃ j, k = j + 1 := ⟨k - 1, by omega⟩; rfl
            rw [this, hy]; rfl
          clear hy hd hA hS
          repeat (go_big_quiet_step (first | (go_at_call 16; exact later_of (compare_any ⟨_, _, _⟩ ⟨_, _, _⟩ _))))
          refine wpQuiet_nil ?_
          intro w2 hb2
          have hB := Below.next (hb.alloc hb.size _) (Below.next hb1 hb2)
          have hX := (IvAt.new wr 41 ⟨⟨fk, fi, ft⟩, ⟨tk, ti, tt⟩, xo⟩).keep (hK1.trans (keeps_of hb2))
          clear hb1 e0 e1 e2 e3 e4 e5 e6 hca hK1 g0 d3 d4 d5
          obtain ⟨e0, e1, e2, e3, e4, e5, e6⟩ := hX
          dsimp only at e0 e1 e2 e3 e4 e5 e6
          simp only [Nat.zero_add] at e1 e2 e3 e4 e5 e6
          go_wp2_with (first
             | (go_at_call 15; refine (valid_any ⟨_, _, _⟩ _).mono ?_; rintro e w3 ⟨rfl, hb3⟩; replace hB := Below.next hB hb3; have hk3 := bcell hb3)
             | (go_at_call 16; refine (compare_any ⟨_, _, _⟩ ⟨_, _, _⟩ _).mono ?_; rintro e w4 ⟨rfl, hb4⟩; replace hB := Below.next hB hb4))
          all_goals
            have hl := Hl.out
            have hi := Hi.out
            first
              | (go_ret
                 refine ⟨ret_bool ?_, hB⟩
                 rw [hi]
                 first | (simp [*]; done) | (simp [*]; intros; omega) | (obtain rfl : lst = false := (by rw [← hl]; simp; omega); simp [*]))
              | (go_roundw
                 case rel =>
                   refine ⟨k + 1, by omega, by go_num, ?_, hB⟩
                   show _ = _
                   rw [hi]
                   first | (simp_all; done) | (obtain rfl : lst = true := (by rw [← hl]; simp; omega); simp_all)
                 case measure => simp [intOf]; omega)
    · go_wp2
      go_ret
      exact ⟨ret_bool (by rw [hinv.out]; have hkl : k = l.length := (by have := Hs.out.len; omega); subst hkl; simp [ordFrom]), hb⟩
end Go.Proofs.Ytnocbigcdjlliaa
