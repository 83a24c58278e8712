import Derived.Test.YtjlbnbljimmbeaaBegun
namespace Go.Proofs.Ytjlbnbljimmbeaa
open Go.RowKit

def limA (k : Nat) : List Iv := (List.range k).map fun (i : Nat) => ⟨vn (4 * (i : Int)), vn (4 * (i : Int) + 1), false⟩
def limB (k : Nat) : List Iv := (List.range k).map fun (i : Nat) => ⟨vn (4 * (i : Int) + 2), vn (4 * (i : Int) + 3), false⟩
def limOk (k : Nat) : Bool := if 64 < 2 * k then decide (combineL opU (limA k) (limB k) = ([], 2)) else decide ((combineL opU (limA k) (limB k)).2 = 0 ∧ (combineL opU (limA k) (limB k)).1.length = 2 * k)
theorem lim_all : (List.range 10).all (fun d => limOk (28 + d)) = true := by decide +kernel
theorem lim_at {k : Nat} (h1 : 28 ≤ k) (h2 : k < 38) : limOk k = true := by
  have h := List.all_eq_true.1 lim_all (k - 28) (by simp; omega)
  rw [show 28 + (k - 28) = k by omega] at h
  exact h
theorem limA_succ (k : Nat) : limA (k + 1) = limA k ++ [⟨vn (4 * (k : Int)), vn (4 * (k : Int) + 1), false⟩] := by simp [limA, List.range_succ]
theorem limB_succ (k : Nat) : limB (k + 1) = limB k ++ [⟨vn (4 * (k : Int) + 2), vn (4 * (k : Int) + 3), false⟩] := by simp [limB, List.range_succ]
theorem limA_len (k : Nat) : (limA k).length = k := by simp [limA]
theorem limB_len (k : Nat) : (limB k).length = k := by simp [limB]

/-- two rows of the call's own that do not share a block -/
def Apart (v u : Value) : Prop := ∀ g, v.ownBlock = some g → u.ownBlock ≠ some g
theorem own_lt {w : World} {base : Nat} {e : TypeId} {size n : Nat} {v : Value} {xs : List Value} (h : w.ownsRow base e size v n xs) : ∀ k, v.ownBlock = some k → k < w.heap.size := by
  rcases h.2 with ⟨rfl, _⟩ | ⟨g, cap, cur, rfl, _, hh, _⟩
  · intro k hk; simp [Value.ownBlock] at hk
  · intro k hk
    simp only [Value.ownBlock, Option.some.injEq] at hk
    subst hk
    exact Blk.lt (T := e) (cs := cur) hh
theorem own_grown {w w' : World} {base : Nat} {e : TypeId} {size n : Nat} {v u : Value} {xs : List Value} (h : w.ownsRow base e size v n xs) (hg : w.grownBy w' u.ownBlock) (hd : Apart v u) : w'.ownsRow base e size v n xs :=
  own_at h fun g _ hlt hv => hg.block g hlt (fun e => hd g hv e.symm)

set_option maxHeartbeats 2000000 in
theorem limits_walk (a0 : Int) (h0 : 0 ≤ a0) (h1 : a0 ≤ 255) (w : World) :
    Calls Try.prog 3 #[.int .u8 a0] w fun e w' => e = .returned (.bool true) ∧ Below w.heap.size w w' := by
  obtain ⟨i0, hi, hz0, hz1, hz2⟩ := info_parts info_iv
  go_enter Try.func3, Try.ntmps3
  go_wp2
  obtain ⟨kk, hkk, hk1, hk2⟩ : ∃ kk : Nat, 28 + a0 % 10 = (kk : Int) ∧ 28 ≤ kk ∧ kk < 38 := ⟨(28 + a0 % 10).toNat, by omega, by omega, by omega⟩
  rw [hkk]
  have HK := Lib.hid hkk
  clear hkk
  go_loopw [3, 4, 6] (fun v u i wr => ∃ (k : Nat) (A B : Option Addr) (ca cb : Nat), k ≤ kk ∧ i = .int .i64 (k : Int) ∧ v = .slice A k ca ∧ u = .slice B k cb ∧ wr.ownsRow w.heap.size 26 7 (.slice A k ca) k ((limA k).flatMap Iv.cs) ∧ wr.ownsRow w.heap.size 26 7 (.slice B k cb) k ((limB k).flatMap Iv.cs) ∧ Apart (.slice A k ca) (.slice B k cb) ∧ Below w.heap.size w wr) (fun _ _ i _ => kk - (intOf i).toNat)
  case atStart => exact ⟨0, none, none, 0, 0, by omega, rfl, rfl, rfl, ⟨by simp [limA], .inl ⟨rfl, rfl⟩⟩, ⟨by simp [limB], .inl ⟨rfl, rfl⟩⟩, by intro g h; simp [Value.ownBlock] at h, Below.refl _ _⟩
  case round =>
    obtain ⟨k, A, B, ca, cb, hk, rfl, rfl, rfl, hoA, hoB, hap, hb⟩ := hrel
    have hsz := hb.size
    by_cases hlt : k < kk
    · go_wp2_with (first
        | (at_builtin; refine wpList_append_one (by rfl) (.tmp 18) (.tmp 27) _ (by rfl) w.heap.size 26 i0 _ 7 72 Try.underlying22 hi hz0 hz1 hz2 (by rfl) (by omega) (.slice A k ca) k _ (by rfl) _ _ hoA wr.heap.size (by rfl) (by rfl) (by rfl) (one_iv ⟨vn (4 * (k : Int)), vn (4 * (k : Int) + 1), false⟩) (by simp only [maxLen]; omega) (by omega) hsz ?_; intro g cap w2 hown2 hg2 hB2 hat2 hlt2; have hsz2 := hg2.size)
        | (at_builtin; refine wpList_append_one (by rfl) (.tmp 29) (.tmp 39) _ (by rfl) w.heap.size 26 i0 _ 7 72 Try.underlying22 hi hz0 hz1 hz2 (by rfl) (by omega) (.slice B k cb) k _ (by rfl) _ _ (own_grown hoB hg2 (fun g h1 h2 => hap g h2 h1)) w2.heap.size (by rfl) (by rfl) (by rfl) (one_iv ⟨vn (4 * (k : Int) + 2), vn (4 * (k : Int) + 3), false⟩) (by simp only [maxLen]; omega) (by omega) (by omega) ?_; intro g3 cap3 w3 hown3 hg3 hB3 hat3 hlt3))
      have hap2 : Apart (.slice (some ⟨g, 0, none⟩) (k + 1) cap) (.slice B k cb) := by
        intro q h1 h2
        simp only [Value.ownBlock, Option.some.injEq] at h1
        rcases hat2 with h3 | h3
        · exact hap q (by rw [h3, h1]) h2
        · have := own_lt hoB q h2
          omega
      go_roundw
      case rel =>
        refine ⟨k + 1, _, _, _, _, by omega, by go_num, rfl, rfl, ?_, ?_, ?_, (hb.trans hB2).trans hB3⟩
        · rw [limA_succ, List.flatMap_append]
          exact own_grown (by simpa [Iv.cs, vn] using hown2) hg3 hap2
        · rw [limB_succ, List.flatMap_append]
          simpa [Iv.cs, vn] using hown3
        · intro q h1 h2
          simp only [Value.ownBlock, Option.some.injEq] at h1 h2
          rcases hat3 with h3 | h3
          · exact hap2 q (by simp [Value.ownBlock, h1]) (by rw [h3, h2])
          · have := own_lt hown2 q (by simp [Value.ownBlock, h1])
            omega
      case measure => simp [intOf]; omega
    · obtain rfl : k = kk := by omega
      have hSA := Sl.of_own Iv.cs_len (limA_len k) hoA
      have hSB := Sl.of_own Iv.cs_len (limB_len k) hoB
      have hlim := lim_at hk1 hk2
      have HSA := Lib.hid hSA
      have HSB := Lib.hid hSB
      have HL := Lib.hid hlim
      clear hSA hSB hlim hoA hoB hap
      go_wp2_with fail
      refine (union_any A B k k ca cb (limA k) (limB k) _ HSA.out HSB.out).mono ?_
      rintro e w2 ⟨A2, c2, rfl, hS2, hb2⟩
      have hB2 := Below.next hb hb2
      clear hS2
      rcases Nat.lt_or_ge 64 (2 * k) with h64 | h64
      · have hr : combineL opU (limA k) (limB k) = ([], 2) := by have := HL.out; unfold limOk at this; rw [if_pos h64] at this; simpa using this
        rw [hr]
        dsimp only
        go_wp2_with (first | (go_at_call 11; refine (begun_any _).mono ?_; rintro e w3 ⟨rfl, hb3⟩))
        go_ret
        exact ⟨rfl, Below.next hB2 hb3⟩
      · have hr : (combineL opU (limA k) (limB k)).2 = 0 ∧ (combineL opU (limA k) (limB k)).1.length = 2 * k := by have := HL.out; unfold limOk at this; rw [if_neg (by omega)] at this; simpa using this
        rw [hr.1, hr.2]
        have g : (((2 * k : Nat) : Int) == 2 * (k : Int)) = true := by simp
        clear hr
        go_wp2_with (first | (go_at_call 11; refine (begun_any _).mono ?_; rintro e w3 ⟨rfl, hb3⟩))
        go_ret
        exact ⟨rfl, Below.next hB2 hb3⟩
end Go.Proofs.Ytjlbnbljimmbeaa
