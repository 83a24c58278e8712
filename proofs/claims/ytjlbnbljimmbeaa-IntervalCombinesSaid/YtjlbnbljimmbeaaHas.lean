import Derived.Test.YtjlbnbljimmbeaaIvOps
namespace Go.Proofs.Ytjlbnbljimmbeaa
open Go.RowKit

def inI (x : Iv) (v : Vl) : Bool := decide (cmpV x.f v ≤ 0) && (x.o || decide (cmpV v x.t < 0))
def inL (l : List Iv) (v : Vl) : Bool := l.any (inI · v)
def hasL (l : List Iv) (v : Vl) : Bool := validV v && validL l && inL l v
theorem in_step {l : List Iv} {k : Nat} {x : Iv} {v : Vl} {r : Bool} (hx : l[k]? = some x) (h : inL (l.drop k) v = r) : r = (inI x v || inL (l.drop (k + 1)) v) := by
  rw [← h, drop_at hx]
  simp [inL]

theorem num_any (i : Int) (w : World) : Calls Try.prog 47 #[.int .i64 i] w fun e w' => e = .returned (.agg #[.int .i64 4, .int .i64 i, .string ⟨#[]⟩]) ∧ Below w.heap.size w w' := by
  go_enter Try.func47, Try.ntmps47
  go_wp2
  refine bodyPost_ret (v := .agg #[.int .i64 4, .int .i64 i, .string ⟨#[]⟩]) (by simp [results, Try.results47, go_sem]) rfl ⟨rfl, ?_⟩
  repeat (first | exact Below.refl _ _ | refine Below.setCell ?_ (by simp) _ | refine Below.alloc ?_ (by simp) _)

set_option maxHeartbeats 1000000 in
theorem has_any (A : Option Addr) (n c : Nat) (l : List Iv) (v : Vl) (w : World) (hs : IvS w A n l) :
    Calls Try.prog 20 #[.slice A n c, .agg #[.int .i64 v.k, .int .i64 v.i, .string v.t]] w fun e w' => e = .returned (.bool (hasL l v)) ∧ Below w.heap.size w w' := by
  obtain ⟨vk, vi, vt⟩ := v
  have Hs := Lib.hid hs
  have Hln := Lib.hid hs.len
  clear hs
  obtain ⟨v1, H1⟩ : ∃ v, Hid (validV ⟨vk, vi, vt⟩ = v) := ⟨_, rfl⟩
  obtain ⟨v2, H2⟩ : ∃ v, Hid (validL l = v) := ⟨_, rfl⟩
  generalize hr : hasL l ⟨vk, vi, vt⟩ = r
  have Hr := Lib.hid hr
  clear hr
  go_enter Try.func20, Try.ntmps20
  go_wp2_with fail
  refine (valid_any ⟨vk, vi, vt⟩ _).mono ?_
  rintro e w1 ⟨rfl, hb1⟩
  rw [H1.out]
  have hx1 := (Blk.new w 24 #[.int .i64 vk, .int .i64 vi, .string vt]).below hb1
  have hB1 : Below w.heap.size w w1 := Below.next ((Below.refl _ _).alloc (Nat.le_refl _) _) hb1
  cases v1
  · go_wp2
    go_ret
    exact ⟨ret_bool (by rw [← Hr.out]; simp [hasL, H1.out]), hB1⟩
  · go_wp2_with fail
    refine (validL_any A n c l _ (Hs.out.keep (keeps_of hB1))).mono ?_
    rintro e w2 ⟨rfl, hb2⟩
    rw [H2.out]
    have hB2 := Below.next hB1 hb2
    have hx2 := hx1.below hb2
    cases v2
    · go_wp2
      go_ret
      exact ⟨ret_bool (by rw [← Hr.out]; simp [hasL, H2.out]), hB2⟩
    · have hn : n ≤ 64 := by have h := H2.out; have := Hln.out; simp [validL] at h; omega
      have Hi : Hid (inL (l.drop 0) ⟨vk, vi, vt⟩ = r) := by
        show _ = _
        rw [← Hr.out]; simp [hasL, H1.out, H2.out]
      have hSS := Lib.hid (Hs.out.keep (keeps_of hB2))
      clear hx1 hb1 hB1 hb2 Hr
      go_wp2
      go_loopw [17] (fun i wr => ∃ k : Nat, k ≤ n ∧ i = .int .i64 (k : Int) ∧ Hid (inL (l.drop k) ⟨vk, vi, vt⟩ = r) ∧ Below w2.heap.size w2 wr) (fun i _ => n - (intOf i).toNat)
      case atStart => exact ⟨0, by omega, rfl, Hi, Below.refl _ _⟩
      case round =>
        obtain ⟨k, hk, rfl, hinv, hb⟩ := hrel
        by_cases hlt : k < n
        · obtain ⟨b, o, x, rfl, hx, hc⟩ := (hSS.out.keep (keeps_of hb)).at hlt
          have Hst := Lib.hid (in_step hx hinv.out)
          obtain ⟨⟨fk, fi, ft⟩, ⟨tk, ti, tt⟩, xo⟩ := x
          obtain ⟨c0, c1, c2, c3, c4, c5, c6⟩ := IvAt.of hc
          dsimp only at c0 c1 c2 c3 c4 c5 c6
          clear hx hc
          have hx3 := hx2.below hb
          have hbox := hx3.alloc (.cells #[.int .i64 fk, .int .i64 fi, .string ft, .int .i64 tk, .int .i64 ti, .string tt, .bool xo] 26)
          have hboxc := hbox.cell
          obtain ⟨d1, D1⟩ : ∃ v, Hid (cmpV ⟨fk, fi, ft⟩ ⟨vk, vi, vt⟩ = v) := ⟨_, rfl⟩
          obtain ⟨d2, D2⟩ : ∃ v, Hid (cmpV ⟨vk, vi, vt⟩ ⟨tk, ti, tt⟩ = v) := ⟨_, rfl⟩
          go_wp2_with fail
          refine (compare_any ⟨fk, fi, ft⟩ ⟨vk, vi, vt⟩ _).mono ?_
          rintro e w3 ⟨rfl, hb3⟩
          rw [D1.out]
          have hB3 := Below.next (hb.alloc hb.size _) hb3
          have z1 := (hbox.below hb3).cell
          have z2 := ((Blk.new wr 26 #[.int .i64 fk, .int .i64 fi, .string ft, .int .i64 tk, .int .i64 ti, .string tt, .bool xo]).below hb3).cell
          clear hboxc
          by_cases g1 : d1 ≤ 0
          · cases xo
            · go_wp2_with fail
              refine (compare_any ⟨vk, vi, vt⟩ ⟨tk, ti, tt⟩ _).mono ?_
              rintro e w4 ⟨rfl, hb4⟩
              rw [D2.out]
              have hB4 := Below.next hB3 hb4
              rcases Int.lt_or_le d2 0 with g2 | g2
              · go_wp2
                go_ret
                exact ⟨ret_bool (by rw [Hst.out]; simp [inI, D1.out, D2.out, g1, g2]), Below.next hB2 hB4⟩
              · go_wp2
                go_roundw
                case rel => exact ⟨k + 1, by omega, by go_num, (by show _ = _; rw [Hst.out]; simp [inI, D1.out, D2.out, g1]; omega), hB4⟩
                case measure => simp [intOf]; omega
            · go_wp2
              go_ret
              exact ⟨ret_bool (by rw [Hst.out]; simp [inI, D1.out, g1]), Below.next hB2 hB3⟩
          · go_wp2
            go_roundw
            case rel => exact ⟨k + 1, by omega, by go_num, (by show _ = _; rw [Hst.out]; simp [inI, D1.out]; intros; omega), hB3⟩
            case measure => simp [intOf]; omega
        · go_wp2
          go_ret
          exact ⟨ret_bool (by rw [← hinv.out, List.drop_eq_nil_of_le (by have := Hln.out; omega)]; rfl), Below.next hB2 hb⟩

def leastV (l : List Iv) : Vl × Bool := if validL l then (match l with | [] => (zeroV, false) | x :: _ => (x.f, true)) else (zeroV, false)
set_option maxHeartbeats 1000000 in
theorem leastI_any (A : Option Addr) (n c : Nat) (l : List Iv) (w : World) (hs : IvS w A n l) (hnm : n ≤ 9223372036854775807) :
    Calls Try.prog 17 #[.slice A n c] w fun e w' => e = .returned (.tuple #[.agg #[.int .i64 (leastV l).1.k, .int .i64 (leastV l).1.i, .string (leastV l).1.t], .bool (leastV l).2]) ∧ Below w.heap.size w w' := by
  have Hs := Lib.hid hs
  have Hln := Lib.hid hs.len
  clear hs
  obtain ⟨v2, H2⟩ : ∃ v, Hid (validL l = v) := ⟨_, rfl⟩
  generalize hr : leastV l = r
  have Hr := Lib.hid hr
  clear hr
  rcases Nat.eq_zero_or_pos n with h0 | h0
  · have Hr0 : Hid (r = (zeroV, false)) := by
      show _ = _
      have : l = [] := List.eq_nil_of_length_eq_zero (by have := Hln.out; omega)
      rw [← Hr.out, this]
      simp [leastV]
    have g0 : ((n : Int) == 0) = true := by simp [h0]
    have H0 := Lib.hid h0
    clear h0
    go_enter Try.func17, Try.ntmps17
    go_wp2
    refine bodyPost_ret (v := .tuple #[.agg #[.int .i64 0, .int .i64 0, .string ⟨#[]⟩], .bool false]) (by simp [results, Try.results17, go_sem]) rfl ⟨by rw [Hr0.out]; rfl, ?_⟩
    repeat (first | exact Below.refl _ _ | refine Below.setCell ?_ (by simp) _ | refine Below.alloc ?_ (by simp) _)
  · have g0 : ((n : Int) == 0) = false := by simp; omega
    go_enter Try.func17, Try.ntmps17
    go_wp2_with fail
    have hB0 : Below w.heap.size w (w.alloc (.cells #[.int .i64 0, .int .i64 0, .string ⟨#[]⟩] 24)) := (Below.refl _ _).alloc (Nat.le_refl _) _
    refine (validL_any A n c l _ (Hs.out.keep (keeps_alloc _ _))).mono ?_
    rintro e w1 ⟨rfl, hb1⟩
    rw [H2.out]
    have hX := (Blk.new w 24 #[.int .i64 0, .int .i64 0, .string ⟨#[]⟩]).below hb1
    have hXc := hX.cell
    have hXf := hX.free
    have hB1 := Below.next hB0 hb1
    cases v2
    · have Hr0 : Hid (r = (zeroV, false)) := by
        show _ = _
        rw [← Hr.out]
        simp [leastV, H2.out]
      go_wp2
      refine bodyPost_ret (v := .tuple #[.agg #[.int .i64 0, .int .i64 0, .string ⟨#[]⟩], .bool false]) (by simp [results, Try.results17, go_sem, hXc]) rfl ⟨by rw [Hr0.out]; rfl, ?_⟩
      repeat (first | exact hB1 | refine Below.setCell ?_ (by simp) _)
    · obtain ⟨b, o, x, rfl, hx, hc⟩ := (Hs.out.keep (keeps_of hB1)).at h0
      have Hr0 : Hid (r = (x.f, true)) := by
        show _ = _
        rw [← Hr.out]
        cases l with
        | nil => simp at hx
        | cons y l => simp only [List.getElem?_cons_zero, Option.some.injEq] at hx; subst hx; simp [leastV, H2.out]
      obtain ⟨⟨fk, fi, ft⟩, ⟨tk, ti, tt⟩, xo⟩ := x
      obtain ⟨c0, c1, c2, c3, c4, c5, c6⟩ := IvAt.of hc
      dsimp only at c0 c1 c2 c3 c4 c5 c6
      simp only [Nat.zero_mul, Nat.add_zero] at c0 c1 c2
      clear c3 c4 c5 c6 hx hc
      go_wp2
      refine bodyPost_ret (v := .tuple #[.agg #[.int .i64 fk, .int .i64 fi, .string ft], .bool true]) (by simp [results, Try.results17, go_sem, hXc]) rfl ⟨by rw [Hr0.out], ?_⟩
      repeat (first | exact hB1 | refine Below.setCell ?_ (by simp) _)
end Go.Proofs.Ytjlbnbljimmbeaa
