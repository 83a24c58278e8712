import Derived.Test.YtjlbnbljimmbeaaNext
namespace Go.Proofs.Ytjlbnbljimmbeaa
open Go.RowKit

theorem Blk.newAt {w : World} {g : Nat} {T : TypeId} {cs : Array Value} (h : g = w.heap.size) : Blk (w.alloc (.cells cs T)) g T cs := by
  subst h
  exact Blk.new w T cs
def oneL (v : Vl) : List Iv × Int := if validV v then ([⟨v, (nextV v).1, !(nextV v).2⟩], 0) else ([], 10)
def kindL (k : Int) : List Iv × Int := if (firstV k).2 then ([⟨(firstV k).1, (firstV (wrap64 (k + 1))).1, !(firstV (wrap64 (k + 1))).2⟩], 0) else ([], 1)
set_option maxHeartbeats 1000000 in
theorem one_any (v : Vl) (w : World) : Calls Try.prog 38 #[.agg #[.int .i64 v.k, .int .i64 v.i, .string v.t]] w fun e w' => IvRes w (oneL v) e w' := by
  obtain ⟨fk, fi, ft⟩ := v
  obtain ⟨v1, H1⟩ : ∃ v, Hid (validV ⟨fk, fi, ft⟩ = v) := ⟨_, rfl⟩
  obtain ⟨⟨⟨nk, ni, nt⟩, nb⟩, Hn⟩ : ∃ q, Hid (nextV ⟨fk, fi, ft⟩ = q) := ⟨_, rfl⟩
  go_enter Try.func38, Try.ntmps38
  go_wp2_with fail
  refine (valid_any ⟨fk, fi, ft⟩ _).mono ?_
  rintro e w1 ⟨rfl, hb1⟩
  rw [H1.out]
  have y1 := ((Blk.new w 24 #[.int .i64 fk, .int .i64 fi, .string ft]).below hb1)
  have y1c := y1.cell
  have hB1 : Below w.heap.size w w1 := Below.next ((Below.refl _ _).alloc (Nat.le_refl _) _) hb1
  have hs1 := y1.lt
  cases v1
  · go_wp2
    go_ret2
    exact ivres_nil (by simp [oneL, H1.out]) hB1
  · go_wp2_with fail
    refine (next_any ⟨fk, fi, ft⟩ _).mono ?_
    rintro e w2 ⟨rfl, hb2⟩
    rw [Hn.out]
    have y2 := y1.below hb2
    have y2c := y2.cell
    have hB2 := Below.next hB1 hb2
    have hs2 := y2.lt
    clear y1c
    go_wp2
    go_ret2
    have hr : oneL ⟨fk, fi, ft⟩ = ([⟨⟨fk, fi, ft⟩, ⟨nk, ni, nt⟩, !nb⟩], 0) := by simp [oneL, H1.out, Hn.out]
    rw [hr]
    exact ⟨_, _, rfl, iv_one (T := 26) (x := ⟨⟨fk, fi, ft⟩, ⟨nk, ni, nt⟩, !nb⟩) (Blk.newAt (by simp)), (hB2.alloc hB2.size _).alloc (by have := hB2.size; simp; omega) _⟩
set_option maxHeartbeats 1000000 in
theorem rone_any (v : Vl) (w : World) : Calls Try.prog 39 #[.agg #[.int .i64 v.k, .int .i64 v.i, .string v.t]] w fun e w' => IvRes w (oneL v) e w' := by
  obtain ⟨fk, fi, ft⟩ := v
  obtain ⟨v1, H1⟩ : ∃ v, Hid (validV ⟨fk, fi, ft⟩ = v) := ⟨_, rfl⟩
  obtain ⟨⟨⟨nk, ni, nt⟩, nb⟩, Hn⟩ : ∃ q, Hid (nextV ⟨fk, fi, ft⟩ = q) := ⟨_, rfl⟩
  go_enter Try.func39, Try.ntmps39
  go_wp2_with fail
  refine (rvalid_any ⟨fk, fi, ft⟩ _).mono ?_
  rintro e w1 ⟨rfl, hb1⟩
  rw [H1.out]
  have y1 := ((Blk.new w 24 #[.int .i64 fk, .int .i64 fi, .string ft]).below hb1)
  have y1c := y1.cell
  have hB1 : Below w.heap.size w w1 := Below.next ((Below.refl _ _).alloc (Nat.le_refl _) _) hb1
  have hs1 := y1.lt
  cases v1
  · go_wp2
    go_ret2
    exact ivres_nil (by simp [oneL, H1.out]) hB1
  · go_wp2_with fail
    refine (rnext_any ⟨fk, fi, ft⟩ _).mono ?_
    rintro e w2 ⟨rfl, hb2⟩
    rw [Hn.out]
    have y2 := y1.below hb2
    have y2c := y2.cell
    have hB2 := Below.next hB1 hb2
    have hs2 := y2.lt
    clear y1c
    go_wp2
    go_ret2
    have hr : oneL ⟨fk, fi, ft⟩ = ([⟨⟨fk, fi, ft⟩, ⟨nk, ni, nt⟩, !nb⟩], 0) := by simp [oneL, H1.out, Hn.out]
    rw [hr]
    exact ⟨_, _, rfl, iv_one (T := 26) (x := ⟨⟨fk, fi, ft⟩, ⟨nk, ni, nt⟩, !nb⟩) (Blk.newAt (by simp)), (hB2.alloc hB2.size _).alloc (by have := hB2.size; simp; omega) _⟩
set_option maxHeartbeats 1000000 in
theorem ofkind_any (k : Int) (w : World) : Calls Try.prog 42 #[.int .i64 k] w fun e w' => IvRes w (kindL k) e w' := by
  obtain ⟨⟨⟨ak, ai, ab⟩, a1⟩, Ha⟩ : ∃ q, Hid (firstV k = q) := ⟨_, rfl⟩
  obtain ⟨⟨⟨nk, ni, nt⟩, nb⟩, Hn⟩ : ∃ q, Hid (firstV (wrap64 (k + 1)) = q) := ⟨_, rfl⟩
  go_enter Try.func42, Try.ntmps42
  go_wp2_with fail
  refine (first_any k _).mono ?_
  rintro e w1 ⟨rfl, hb1⟩
  rw [Ha.out]
  cases a1
  · go_wp2
    go_ret2
    exact ivres_nil (by simp [kindL, Ha.out]) (hb1.alloc hb1.size _)
  · go_wp2_with fail
    have hB1 := hb1.alloc hb1.size (.cells #[.int .i64 ak, .int .i64 ai, .string ab] 24)
    refine (first_any (wrap64 (k + 1)) _).mono ?_
    rintro e w2 ⟨rfl, hb2⟩
    rw [Hn.out]
    have y2 := (Blk.new w1 24 #[.int .i64 ak, .int .i64 ai, .string ab]).below hb2
    have y2c := y2.cell
    have hs2 := y2.lt
    have hB2 := Below.next hB1 hb2
    go_wp2
    go_ret2
    have hr : kindL k = ([⟨⟨ak, ai, ab⟩, ⟨nk, ni, nt⟩, !nb⟩], 0) := by simp [kindL, Ha.out, Hn.out]
    rw [hr]
    exact ⟨_, _, rfl, iv_one (T := 26) (x := ⟨⟨ak, ai, ab⟩, ⟨nk, ni, nt⟩, !nb⟩) (Blk.newAt (by simp)), (hB2.alloc hB2.size _).alloc (by have := hB2.size; simp; omega) _⟩
set_option maxHeartbeats 1000000 in
theorem rofkind_any (k : Int) (w : World) : Calls Try.prog 43 #[.int .i64 k] w fun e w' => IvRes w (kindL k) e w' := by
  obtain ⟨⟨⟨ak, ai, ab⟩, a1⟩, Ha⟩ : ∃ q, Hid (firstV k = q) := ⟨_, rfl⟩
  obtain ⟨⟨⟨nk, ni, nt⟩, nb⟩, Hn⟩ : ∃ q, Hid (firstV (wrap64 (k + 1)) = q) := ⟨_, rfl⟩
  go_enter Try.func43, Try.ntmps43
  go_wp2_with fail
  refine (rfirst_any k _).mono ?_
  rintro e w1 ⟨rfl, hb1⟩
  rw [Ha.out]
  cases a1
  · go_wp2
    go_ret2
    exact ivres_nil (by simp [kindL, Ha.out]) (hb1.alloc hb1.size _)
  · go_wp2_with fail
    have hB1 := hb1.alloc hb1.size (.cells #[.int .i64 ak, .int .i64 ai, .string ab] 24)
    refine (rfirst_any (wrap64 (k + 1)) _).mono ?_
    rintro e w2 ⟨rfl, hb2⟩
    rw [Hn.out]
    have y2 := (Blk.new w1 24 #[.int .i64 ak, .int .i64 ai, .string ab]).below hb2
    have y2c := y2.cell
    have hs2 := y2.lt
    have hB2 := Below.next hB1 hb2
    go_wp2
    go_ret2
    have hr : kindL k = ([⟨⟨ak, ai, ab⟩, ⟨nk, ni, nt⟩, !nb⟩], 0) := by simp [kindL, Ha.out, Hn.out]
    rw [hr]
    exact ⟨_, _, rfl, iv_one (T := 26) (x := ⟨⟨ak, ai, ab⟩, ⟨nk, ni, nt⟩, !nb⟩) (Blk.newAt (by simp)), (hB2.alloc hB2.size _).alloc (by have := hB2.size; simp; omega) _⟩
end Go.Proofs.Ytjlbnbljimmbeaa
