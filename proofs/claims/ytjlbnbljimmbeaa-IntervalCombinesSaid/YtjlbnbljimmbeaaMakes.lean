import Derived.Test.YtjlbnbljimmbeaaOne
import Derived.Test.YtjlbnbljimmbeaaBegun
import Derived.Test.YtjlbnbljimmbeaaCase
import Derived.Test.YtjlbnbljimmbeaaRegionS
namespace Go.Proofs.Ytjlbnbljimmbeaa
open Go.RowKit

theorem CaseAt.drew {w : World} {g : Nat} (h : CaseAt w g) : CaseAt w.drew g := h.below ((Below.refl _ _).drew)
theorem vl_two {w : World} {L : Nat} {T : TypeId} {x y : Vl} (h : Blk w L T #[.int .i64 x.k, .int .i64 x.i, .string x.t, .int .i64 y.k, .int .i64 y.i, .string y.t]) : VlS w (some ⟨L, 0, none⟩) 2 [x, y] := by
  refine ⟨rfl, fun _ => ⟨L, 0, rfl, ?_⟩⟩
  intro k z hz j u hu
  rcases k with _ | _ | k
  · simp at hz
    subst hz
    rcases j with _ | _ | _ | j <;> simp [Vl.cs] at hu <;> subst hu <;> exact h.cell _
  · simp at hz
    subst hz
    rcases j with _ | _ | _ | j <;> simp [Vl.cs] at hu <;> subst hu <;> exact h.cell _
  · simp at hz
theorem vl_three {w : World} {L : Nat} {T : TypeId} {x y z : Vl} (h : Blk w L T #[.int .i64 x.k, .int .i64 x.i, .string x.t, .int .i64 y.k, .int .i64 y.i, .string y.t, .int .i64 z.k, .int .i64 z.i, .string z.t]) : VlS w (some ⟨L, 0, none⟩) 3 [x, y, z] := by
  refine ⟨rfl, fun _ => ⟨L, 0, rfl, ?_⟩⟩
  intro k s hz j u hu
  rcases k with _ | _ | _ | k
  · simp at hz
    subst hz
    rcases j with _ | _ | _ | j <;> simp [Vl.cs] at hu <;> subst hu <;> exact h.cell _
  · simp at hz
    subst hz
    rcases j with _ | _ | _ | j <;> simp [Vl.cs] at hu <;> subst hu <;> exact h.cell _
  · simp at hz
    subst hz
    rcases j with _ | _ | _ | j <;> simp [Vl.cs] at hu <;> subst hu <;> exact h.cell _
  · simp at hz
theorem same_self {A B : Option Addr} {n m ca cb : Nat} {l : List Iv} {w : World} (hA : IvS w A n l) (hB : IvS w B m l) (hl : l.length ≤ 1000000) :
    Calls Try.prog 22 #[.slice A n ca, .slice B m cb] w fun e w' => e = .returned (.bool true) ∧ Below w.heap.size w w' := by
  have h1 := hA.len
  have h2 := hB.len
  refine (same_any A B n m ca cb l l w hA hB (by omega) (by omega)).mono fun e w' ⟨he, hb⟩ => ⟨?_, hb⟩
  rw [he]
  simp
theorem between_le (f t : Vl) : (betweenL f t).1.length ≤ 1000000 := by
  unfold betweenL
  repeat' split
  all_goals simp
theorem one_le (v : Vl) : (oneL v).1.length ≤ 1000000 := by
  unfold oneL
  repeat' split
  all_goals simp
theorem from_le (v : Vl) : (fromL v).1.length ≤ 1000000 := by
  unfold fromL
  repeat' split
  all_goals simp
theorem kind_le (k : Int) : (kindL k).1.length ≤ 1000000 := by
  unfold kindL
  repeat' split
  all_goals simp
set_option maxRecDepth 100000 in
set_option maxHeartbeats 4000000 in
theorem makes_walk (A : Option Addr) (n c : Nat) (zs : List Int) (v : Vl) (kd : Int) (w : World) (hs : Sl 1 u8c w A n zs) (hz : ∀ z ∈ zs, 0 ≤ z ∧ z ≤ 255) (hnil : A = none → n = 0 ∧ c = 0) (hsp : ∀ ad, A = some ad → ad.spot = none) (hnc : n ≤ c) (hcm : c ≤ 9223372036854775807) :
    Calls Try.prog 9 #[.slice A n c, .agg #[.int .i64 v.k, .int .i64 v.i, .string v.t], .int .i64 kd] w fun e w' => e = .returned (.bool true) ∧ Below w.heap.size w w' := by
  obtain ⟨vk, vi, vt⟩ := v
  have hK0 := keeps_alloc w (.cells #[.int .i64 vk, .int .i64 vi, .string vt] 24)
  have HS := Lib.hid (hs.keep hK0)
  have HZ := Lib.hid hz
  have HN := Lib.hid hnil
  have HP := Lib.hid hsp
  have HX := Lib.hid (Blk.new w 24 #[.int .i64 vk, .int .i64 vi, .string vt])
  have hB0 := (Below.refl w.heap.size w).alloc (Nat.le_refl _) (.cells #[.int .i64 vk, .int .i64 vi, .string vt] 24)
  clear hs hz hnil hsp hK0
  go_enter Try.func9, Try.ntmps9
  go_wp2_with fail
  refine (new_any A n c zs 90 _ HS.out HZ.out HN.out HP.out hnc hcm (by omega)).mono ?_
  rintro e w1 ⟨g, hg, rfl, hc1, hb1⟩
  have hX1 := HX.out.below hb1
  have hXc := hX1.cell
  have hgX : ¬ w.heap.size = g := by have := HX.out.lt; omega
  have hB1 : Below w.heap.size w w1 := Below.next hB0 hb1
  go_wp2_with fail
  have hca := @cell_afterS (fun k => k = g) w1.drew
  refine wp_region_segS (fun k => k = g) [([0, 1, 5], 2), ([], 3)] [4] (by kernel_rfl) (by kernel_rfl) (fun _ _ d _ _ h => by cases d <;> exact h) ?_
  simp only [pickSegs, pickOps, opAt, List.map_cons, List.map_nil, List.getElem?_toArray, List.getElem?_cons_zero, List.getElem?_cons_succ, Option.getD_some]
  unfold wpBlocksS
  repeat (go_big_quiet_step (fail))
  refine wpQuiet_nil ?_
  clear hca
  go_wp2_with fail
  refine (any_any g _ (hc1.drew)).mono ?_
  rintro e w2 ⟨⟨⟨ak, ai, ab⟩, hav, rfl⟩, hc2, hb2⟩
  have HAV := Lib.hid hav
  have hX2 := hX1.drew.but hb2 hgX
  have hB2 : Below w.heap.size w w2 := hb2.below hB1.drew (by have := hB1.size; simpa using this) (fun k hk => by have := HX.out.lt; subst hk; omega)
  clear hav
  go_wp2_with fail
  refine ⟨hb2, ?_⟩
  unfold wpBlocksS
  refine wpQuiet_nil ?_
  go_wp2_with fail
  refine ⟨But.alloc _ _, ?_⟩
  have hX3 := hX2.below ((Below.refl _ _).alloc (Nat.le_refl _) (.cells #[.int .i64 vk, .int .i64 vi, .string vt, .int .i64 ak, .int .i64 ai, .string ab] 24))
  have hc3 := hc2.below ((Below.refl _ _).alloc (Nat.le_refl _) (.cells #[.int .i64 vk, .int .i64 vi, .string vt, .int .i64 ak, .int .i64 ai, .string ab] 24))
  have hL3 := Blk.new w2 24 #[.int .i64 vk, .int .i64 vi, .string vt, .int .i64 ak, .int .i64 ai, .string ab]
  have hB3 := hB2.alloc hB2.size (.cells #[.int .i64 vk, .int .i64 vi, .string vt, .int .i64 ak, .int .i64 ai, .string ab] 24)
  have hgL : ¬ w2.heap.size = g := by have := hc2.lt; omega
  generalize (w2.alloc (.cells #[.int .i64 vk, .int .i64 vi, .string vt, .int .i64 ak, .int .i64 ai, .string ab] 24)) = W3 at *
  generalize w2.heap.size = L at *
  unfold wpBlocksS
  repeat (go_big_quiet_step (fail))
  refine wpQuiet_nil ?_
  have hV3 := Lib.hid (vl_two (x := ⟨vk, vi, vt⟩) (y := ⟨ak, ai, ab⟩) hL3)
  have Hk := Lib.hid hX3
  clear hX3 hL3 hXc hX1 hX2 hc1 hc2 hb1 hb2 hB0 hB1 hB2
  go_wp2_with fail
  go_loopw [35] (fun i wr => ∃ k : Nat, k ≤ 2 ∧ i = .int .i64 (k : Int) ∧ Blk wr w.heap.size 24 #[.int .i64 vk, .int .i64 vi, .string vt] ∧ CaseAt wr g ∧ VlS wr (some ⟨L, 0, none⟩) 2 [⟨vk, vi, vt⟩, ⟨ak, ai, ab⟩] ∧ Below w.heap.size w wr) (fun i _ => 2 - (intOf i).toNat)
  case atStart => exact ⟨0, by omega, rfl, Hk.out, hc3, hV3.out, hB3⟩
  case round =>
    obtain ⟨k, hk, rfl, hX, hc, hV, hB⟩ := hrel
    by_cases hlt : k < 2
    · obtain ⟨b1, o1, x, hbo, hx, hxc⟩ := hV.at hlt
      injection hbo with hbo
      injection hbo with h1 h2
      subst h1 h2
      obtain ⟨xk, xi, xt⟩ := x
      obtain ⟨c0, c1, c2⟩ := VlAt.of hxc
      simp only [Nat.zero_add] at c0 c1 c2
      have hVW := Lib.hid (hV.keep (keeps_alloc wr (.cells #[.int .i64 xk, .int .i64 xi, .string xt] 24)))
      have hA0 := (Below.refl wr.heap.size wr).alloc (Nat.le_refl _) (.cells #[.int .i64 xk, .int .i64 xi, .string xt] 24)
      have hX4 := hX.below hA0
      have hc4 := hc.below hA0
      have hP4 := Blk.new wr 24 #[.int .i64 xk, .int .i64 xi, .string xt]
      have hB4 := hB.alloc hB.size (.cells #[.int .i64 xk, .int .i64 xi, .string xt] 24)
      have hgP : ¬ wr.heap.size = g := by have := hc.lt; omega
      have hX4c := hX4.cell
      have hP4c := hP4.cell
      clear hx hxc hV hX hc
      go_wp2_with fail
      generalize (wr.alloc (.cells #[.int .i64 xk, .int .i64 xi, .string xt] 24)) = W4 at *
      generalize wr.heap.size = p at *
      have hca := @cell_afterS (fun k => k = g) W4.drew
      refine wp_region_segS (fun k => k = g) [([0, 1, 3, 6], 2), ([], 4)] [5] (by kernel_rfl) (by kernel_rfl) (fun _ _ d _ _ h => by cases d <;> exact h) ?_
      simp only [pickSegs, pickOps, opAt, List.map_cons, List.map_nil, List.getElem?_toArray, List.getElem?_cons_zero, List.getElem?_cons_succ, Option.getD_some]
      unfold wpBlocksS
      repeat (go_big_quiet_step (fail))
      refine wpQuiet_nil ?_
      clear hca
      go_wp2_with fail
      refine (any_any g _ (hc4.drew)).mono ?_
      rintro e w5 ⟨⟨⟨qk, qi, qt⟩, hqv, rfl⟩, hc5, hb5⟩
      have hX5 := hX4.drew.but hb5 hgX
      have hP5 := hP4.drew.but hb5 hgP
      have hV5 := (hVW.out.keep (w' := W4.drew) (keeps_of ((Below.refl _ _).drew))).but hb5 (fun _ b o e => by injection e with e; injection e with e1 e2; rw [← e1]; exact hgL)
      have hB5 : Below w.heap.size w w5 := hb5.below hB4.drew (by have := hB4.size; simpa using this) (fun k hk => by have := HX.out.lt; subst hk; omega)
      clear hqv
      go_wp2_with fail
      refine ⟨hb5, ?_⟩
      unfold wpBlocksS
      refine wpQuiet_nil ?_
      go_wp2_with fail
      refine ⟨But.alloc _ _, ?_⟩
      have hA5 := (Below.refl w5.heap.size w5).alloc (Nat.le_refl _) (.cells #[.int .i64 vk, .int .i64 vi, .string vt, .int .i64 qk, .int .i64 qi, .string qt, .int .i64 xk, .int .i64 xi, .string xt] 24)
      have HX6 := Lib.hid (hX5.below hA5)
      have hP6 := hP5.below hA5
      have HV6 := Lib.hid (hV5.keep (keeps_of hA5))
      have HC6 := Lib.hid (hc5.below hA5)
      have HM6 := Lib.hid (vl_three (x := ⟨vk, vi, vt⟩) (y := ⟨qk, qi, qt⟩) (z := ⟨xk, xi, xt⟩) (Blk.new w5 24 #[.int .i64 vk, .int .i64 vi, .string vt, .int .i64 qk, .int .i64 qi, .string qt, .int .i64 xk, .int .i64 xi, .string xt]))
      have hB6 := hB5.alloc hB5.size (.cells #[.int .i64 vk, .int .i64 vi, .string vt, .int .i64 qk, .int .i64 qi, .string qt, .int .i64 xk, .int .i64 xi, .string xt] 24)
      generalize (w5.alloc (.cells #[.int .i64 vk, .int .i64 vi, .string vt, .int .i64 qk, .int .i64 qi, .string qt, .int .i64 xk, .int .i64 xi, .string xt] 24)) = W6 at *
      generalize w5.heap.size = M at *
      unfold wpBlocksS
      repeat (go_big_quiet_step (fail))
      refine wpQuiet_nil ?_
      clear hX4 hc4 hP4 hB4 hX4c hP4c hc5 hb5 hX5 hP5 hV5 hB5 hA5 hVW hA0 c0 c1 c2
      go_wp2_with fail
      go_loopw [45] (fun i wq => ∃ m : Nat, m ≤ 3 ∧ i = .int .i64 (m : Int) ∧ Below W6.heap.size W6 wq) (fun i _ => 3 - (intOf i).toNat)
      case atStart => exact ⟨0, by omega, rfl, Below.refl _ _⟩
      case round =>
        obtain ⟨m, hm, rfl, hbq⟩ := hrel
        by_cases hlm : m < 3
        · obtain ⟨b2, o2, y, hbo, hy, hyc⟩ := (HM6.out.keep (keeps_of hbq)).at hlm
          injection hbo with hbo
          injection hbo with h1 h2
          subst h1 h2
          obtain ⟨yk, yi, yt⟩ := y
          obtain ⟨c0, c1, c2⟩ := VlAt.of hyc
          simp only [Nat.zero_add] at c0 c1 c2
          have hPq := hP6.below hbq
          have hA := (Below.refl wr.heap.size wr).alloc (Nat.le_refl _) (.cells #[.int .i64 yk, .int .i64 yi, .string yt] 24)
          have hP7 := hPq.below hA
          have hP7c := hP7.cell
          have hQ7 := Blk.new wr 24 #[.int .i64 yk, .int .i64 yi, .string yt]
          have hQ7c := hQ7.cell
          have hb7 := hbq.alloc hbq.size (.cells #[.int .i64 yk, .int .i64 yi, .string yt] 24)
          clear hy hyc
          go_wp2_with fail
          generalize (wr.alloc (.cells #[.int .i64 yk, .int .i64 yi, .string yt] 24)) = W7 at *
          generalize wr.heap.size = q7 at *
          clear c0 c1 c2 hPq hA hP7c hQ7c
          refine (between_any ⟨xk, xi, xt⟩ ⟨yk, yi, yt⟩ _).mono ?_
          rintro e w8 ⟨A8, c8, rfl, hS8, hb8⟩
          have hle := between_le ⟨xk, xi, xt⟩ ⟨yk, yi, yt⟩
          have hP8 := (hP7.below hb8).cell
          have hQ8 := (hQ7.below hb8).cell
          have HS8 := Lib.hid hS8
          obtain ⟨r, Hr⟩ : ∃ r, Hid (betweenL ⟨xk, xi, xt⟩ ⟨yk, yi, yt⟩ = r) := ⟨_, rfl⟩
          rw [Hr.out] at HS8 hle ⊢
          clear hS8
          go_wp2_with fail
          clear hP8 hQ8
          refine (rbetween_any ⟨xk, xi, xt⟩ ⟨yk, yi, yt⟩ _).mono ?_
          rintro e w9 ⟨A9, c9, rfl, hS9, hb9⟩
          have HS9 := Lib.hid hS9
          rw [Hr.out] at HS9 ⊢
          clear hS9
          go_wp2_with fail
          refine (same_self (HS8.out.keep (keeps_of hb9)) HS9.out hle).mono ?_
          rintro e w10 ⟨rfl, hb10⟩
          have hbz := Below.next (Below.next (Below.next hb7 hb8) hb9) hb10
          go_wp2_with fail
          go_roundw
          case rel => exact ⟨m + 1, by omega, by go_num, hbz⟩
          case measure => simp [intOf]; omega
        · obtain rfl : m = 3 := by omega
          have hPq := hP6.below hbq
          have hPqc := hPq.cell
          go_wp2_with fail
          clear hPqc
          refine (one_any ⟨xk, xi, xt⟩ _).mono ?_
          rintro e w8 ⟨A8, c8, rfl, hS8, hb8⟩
          have hle1 := one_le ⟨xk, xi, xt⟩
          have hP8 := hPq.below hb8
          have hPqc := hP8.cell
          have HS8 := Lib.hid hS8
          obtain ⟨r, Hr⟩ : ∃ r, Hid (oneL ⟨xk, xi, xt⟩ = r) := ⟨_, rfl⟩
          rw [Hr.out] at HS8 hle1 ⊢
          clear hS8
          go_wp2_with fail
          clear hPqc
          refine (rone_any ⟨xk, xi, xt⟩ _).mono ?_
          rintro e w9 ⟨A9, c9, rfl, hS9, hb9⟩
          have hP9 := hP8.below hb9
          have hPqc := hP9.cell
          have HS9 := Lib.hid hS9
          rw [Hr.out] at HS9 ⊢
          clear hS9
          go_wp2_with fail
          clear hPqc
          refine (from_any ⟨xk, xi, xt⟩ _).mono ?_
          rintro e wa ⟨Aa, ca, rfl, hSa, hba⟩
          have hle2 := from_le ⟨xk, xi, xt⟩
          have hPa := hP9.below hba
          have hPqc := hPa.cell
          have HSa := Lib.hid hSa
          obtain ⟨t, Ht⟩ : ∃ t, Hid (fromL ⟨xk, xi, xt⟩ = t) := ⟨_, rfl⟩
          rw [Ht.out] at HSa hle2 ⊢
          clear hSa
          go_wp2_with fail
          clear hPqc
          refine (rfrom_any ⟨xk, xi, xt⟩ _).mono ?_
          rintro e wb ⟨Ab, cb, rfl, hSb, hbb⟩
          have HSb := Lib.hid hSb
          rw [Ht.out] at HSb ⊢
          clear hSb
          have hbab := Below.next hba hbb
          go_wp2_with fail
          refine (same_self (HS8.out.keep (keeps_of (Below.next hb9 hbab))) (HS9.out.keep (keeps_of hbab)) hle1).mono ?_
          rintro e wc ⟨rfl, hbc⟩
          go_wp2_with fail
          refine (same_self (HSa.out.keep (keeps_of (Below.next hbb hbc))) (HSb.out.keep (keeps_of hbc)) hle2).mono ?_
          rintro e wd ⟨rfl, hbd⟩
          have hbz := Below.next (Below.next (Below.next (Below.next (Below.next hbq hb8) hb9) hbab) hbc) hbd
          go_wp2_with fail
          go_roundw
          case rel => exact ⟨k + 1, by omega, by go_num, HX6.out.below hbz, HC6.out.below hbz, HV6.out.keep (keeps_of hbz), Below.next hB6 hbz⟩
          case measure => simp [intOf]; omega
    · go_wp2_with fail
      refine (ofkind_any kd _).mono ?_
      rintro e w8 ⟨A8, c8, rfl, hS8, hb8⟩
      have hle1 := kind_le kd
      have HS8 := Lib.hid hS8
      obtain ⟨r, Hr⟩ : ∃ r, Hid (kindL kd = r) := ⟨_, rfl⟩
      rw [Hr.out] at HS8 hle1 ⊢
      clear hS8
      go_wp2_with fail
      refine (rofkind_any kd _).mono ?_
      rintro e w9 ⟨A9, c9, rfl, hS9, hb9⟩
      have HS9 := Lib.hid hS9
      rw [Hr.out] at HS9 ⊢
      clear hS9
      go_wp2_with fail
      refine (begun_any _).mono ?_
      rintro e wa ⟨rfl, hba⟩
      go_wp2_with fail
      refine (same_self (HS8.out.keep (keeps_of (Below.next hb9 hba))) (HS9.out.keep (keeps_of hba)) hle1).mono ?_
      rintro e wb ⟨rfl, hbb⟩
      go_wp2_with fail
      refine (all_any _).mono ?_
      rintro e wc ⟨Ac, cc, rfl, hSc, hbc⟩
      have HSc := Lib.hid hSc
      clear hSc
      go_wp2_with fail
      refine (rall_any _).mono ?_
      rintro e wd ⟨Ad, cd, rfl, hSd, hbd⟩
      have HSd := Lib.hid hSd
      clear hSd
      go_wp2_with fail
      refine (same_self (HSc.out.keep (keeps_of hbd)) HSd.out (by decide)).mono ?_
      rintro e we ⟨rfl, hbe⟩
      go_wp2
      go_ret
      exact ⟨rfl, Below.next (Below.next (Below.next (Below.next (Below.next (Below.next (Below.next hB hb8) hb9) hba) hbb) hbc) hbd) hbe⟩
end Go.Proofs.Ytjlbnbljimmbeaa
