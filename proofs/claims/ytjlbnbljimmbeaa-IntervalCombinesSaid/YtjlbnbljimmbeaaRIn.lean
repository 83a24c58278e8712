import Derived.Test.YtjlbnbljimmbeaaRPoints
namespace Go.Proofs.Ytjlbnbljimmbeaa
open Go.RowKit

set_option maxHeartbeats 1000000 in
theorem rin_any (A : Option Addr) (n c : Nat) (l : List Iv) (v : Vl) (w : World) (hs : IvS w A n l) (hn : n ≤ 1000000) :
    Calls Try.prog 57 #[.slice A n c, .agg #[.int .i64 v.k, .int .i64 v.i, .string v.t]] w fun e w' => e = .returned (.bool (inL l v)) ∧ Below w.heap.size w w' := by
  obtain ⟨vk, vi, vt⟩ := v
  have Hs := Lib.hid hs
  have Hln := Lib.hid hs.len
  clear hs
  generalize hr : inL l ⟨vk, vi, vt⟩ = r
  have Hi : Hid (inL (l.drop 0) ⟨vk, vi, vt⟩ = r) := by
    show _ = _
    simpa using hr
  clear hr
  have hx2 := Blk.new w 24 #[.int .i64 vk, .int .i64 vi, .string vt]
  have hB2 : Below w.heap.size w (w.alloc (.cells #[.int .i64 vk, .int .i64 vi, .string vt] 24)) := (Below.refl _ _).alloc (Nat.le_refl _) _
  have hSS := Lib.hid (Hs.out.keep (keeps_of hB2))
  go_enter Try.func57, Try.ntmps57
  go_wp2
  generalize w.alloc (.cells #[.int .i64 vk, .int .i64 vi, .string vt] 24) = w2 at *
  generalize hz : w.heap.size = z at *
  have Hz := Lib.hid hz
  clear hz
  go_loopw [9] (fun i wr => ∃ k : Nat, k ≤ n ∧ i = .int .i64 (k : Int) ∧ Hid (inL (l.drop k) ⟨vk, vi, vt⟩ = r) ∧ Below w2.heap.size w2 wr) (fun i _ => n - (intOf i).toNat)
  case atStart => exact ⟨0, by omega, rfl, Hi, Below.refl _ _⟩
  case round =>
    obtain ⟨k, hk, rfl, hinv, hb⟩ := hrel
    by_cases hlt : k < n
    · obtain ⟨b, o, x, rfl, hx, hc⟩ := (hSS.out.keep (keeps_of hb)).at hlt
      have Hst := Lib.hid (in_step hx hinv.out)
      obtain ⟨⟨fk, fi, ft⟩, ⟨tk, ti, tt⟩, xo⟩ := x
      obtain ⟨c0, c1, c2, c3, c4, c5, c6⟩ := IvAt.of hc
      dsimp only at c0 c1 c2 c3 c4 c5 c6
      clear hx hc
      have hx3 := hx2.below hb
      have hbox := hx3.alloc (.cells #[.int .i64 fk, .int .i64 fi, .string ft, .int .i64 tk, .int .i64 ti, .string tt, .bool xo] 26)
      have hboxc := hbox.cell
      obtain ⟨d1, D1⟩ : ∃ v, Hid (cmpV ⟨fk, fi, ft⟩ ⟨vk, vi, vt⟩ = v) := ⟨_, rfl⟩
      obtain ⟨d2, D2⟩ : ∃ v, Hid (cmpV ⟨vk, vi, vt⟩ ⟨tk, ti, tt⟩ = v) := ⟨_, rfl⟩
      go_wp2_with fail
      refine (rcompare_any ⟨fk, fi, ft⟩ ⟨vk, vi, vt⟩ _).mono ?_
      rintro e w3 ⟨rfl, hb3⟩
      rw [D1.out]
      have hB3 := Below.next (hb.alloc hb.size _) hb3
      have z1 := (hbox.below hb3).cell
      have z2 := ((Blk.new wr 26 #[.int .i64 fk, .int .i64 fi, .string ft, .int .i64 tk, .int .i64 ti, .string tt, .bool xo]).below hb3).cell
      clear hboxc
      by_cases g1 : d1 ≤ 0
      · cases xo
        · go_wp2_with fail
          refine (rcompare_any ⟨vk, vi, vt⟩ ⟨tk, ti, tt⟩ _).mono ?_
          rintro e w4 ⟨rfl, hb4⟩
          rw [D2.out]
          have hB4 := Below.next hB3 hb4
          rcases Int.lt_or_le d2 0 with g2 | g2
          · go_wp2
            go_ret
            exact ⟨ret_bool (by rw [Hst.out]; simp [inI, D1.out, D2.out, g1, g2]), by rw [← Hz.out] at hB2; exact Below.next hB2 hB4⟩
          · go_wp2
            go_roundw
            case rel => exact ⟨k + 1, by omega, by go_num, (by show _ = _; rw [Hst.out]; simp [inI, D1.out, D2.out, g1]; omega), hB4⟩
            case measure => simp [intOf]; omega
        · go_wp2
          go_ret
          exact ⟨ret_bool (by rw [Hst.out]; simp [inI, D1.out, g1]), by rw [← Hz.out] at hB2; exact Below.next hB2 hB3⟩
      · go_wp2
        go_roundw
        case rel => exact ⟨k + 1, by omega, by go_num, (by show _ = _; rw [Hst.out]; simp [inI, D1.out]; intros; omega), hB3⟩
        case measure => simp [intOf]; omega
    · go_wp2
      go_ret
      exact ⟨ret_bool (by rw [← hinv.out, List.drop_eq_nil_of_le (by have := Hln.out; omega)]; rfl), by rw [← Hz.out] at hB2; exact Below.next hB2 hb⟩

/-- the three operations of the reference -/
def opR (k : Int) : Bool → Bool → Bool := if k = 1 then opU else if k = 2 then opI else opM
theorem apply_any (k : Int) (x y : Bool) (w : World) : Calls Try.prog 67 #[.int .i64 k, .bool x, .bool y] w fun e w' => e = .returned (.bool (opR k x y)) ∧ w = w' := by
  by_cases h1 : k = 1
  · subst h1
    cases x <;> cases y <;>
    · go_enter Try.func67, Try.ntmps67
      go_wp2
      go_ret
      exact ⟨rfl, rfl⟩
  · by_cases h2 : k = 2
    · subst h2
      cases x <;> cases y <;>
      · go_enter Try.func67, Try.ntmps67
        go_wp2
        go_ret
        exact ⟨rfl, rfl⟩
    · have Hk : Hid (opR k = opM) := by
        show _ = _
        simp [opR, h1, h2]
      have g1 : (k == 1) = false := by simp [h1]
      have g2 : (k == 2) = false := by simp [h2]
      clear h1 h2
      generalize opR k = f at *
      cases x <;> cases y <;>
      · go_enter Try.func67, Try.ntmps67
        go_wp2
        go_ret
        exact ⟨ret_bool (by rw [Hk.out]; rfl), rfl⟩
end Go.Proofs.Ytjlbnbljimmbeaa
