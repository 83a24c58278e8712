import Derived.Test.YtemllddgefahfaaVBegun
import Derived.Test.YtemllddgefahfaaCase2
namespace Go.Proofs.Ytemllddgefahfaa
open Go.RowKit

theorem real_of {v : Vl} (h : validV v = true) : realV v = decide (3 ≤ v.k) := by simp [realV, h]
set_option maxRecDepth 100000 in
set_option maxHeartbeats 4000000 in
theorem judges_walk (A : Option Addr) (n c : Nat) (zs : List Int) (v : Vl) (w : World) (hs : Sl 1 u8c w A n zs) (hz : ∀ z ∈ zs, 0 ≤ z ∧ z ≤ 255) (hnil : A = none → n = 0 ∧ c = 0) (hsp : ∀ ad, A = some ad → ad.spot = none) (hnc : n ≤ c) (hcm : c ≤ 9223372036854775807) :
    Calls Try.prog 3 #[.slice A n c, .agg #[.int .i64 v.k, .int .i64 v.i, .string v.t]] w fun e w' => e = .returned (.bool true) ∧ Below w.heap.size w w' := by
  obtain ⟨vk, vi, vt⟩ := v
  have hK0 := keeps_alloc w (.cells #[.int .i64 vk, .int .i64 vi, .string vt] 24)
  have HS := Lib.hid (hs.keep hK0)
  have HZ := Lib.hid hz
  have HN := Lib.hid hnil
  have HP := Lib.hid hsp
  have HX := Lib.hid (Blk.new w 24 #[.int .i64 vk, .int .i64 vi, .string vt])
  have hB0 := (Below.refl w.heap.size w).alloc (Nat.le_refl _) (.cells #[.int .i64 vk, .int .i64 vi, .string vt] 24)
  clear hs hz hnil hsp hK0
  go_enter Try.func3, Try.ntmps3
  go_wp2_with fail
  refine (new_any A n c zs 90 _ HS.out HZ.out HN.out HP.out hnc hcm (by omega)).mono ?_
  rintro e w1 ⟨g, hg, rfl, hc1, hb1⟩
  have hX1 := HX.out.below hb1
  have hgX : ¬ w.heap.size = g := by have := HX.out.lt; omega
  have hwg : w.heap.size ≤ g := by simp at hg; omega
  have hB1 : Below w.heap.size w w1 := Below.next hB0 hb1
  clear HS HZ HN HP HX hB0 hb1
  go_wp2_with fail
  refine (any2_any g _ hc1).mono ?_
  rintro e w2 ⟨⟨⟨ak, ai, ab⟩, hav, har, rfl⟩, hc2, hb2⟩
  have HAV := Lib.hid hav
  have HAR := Lib.hid (real_of hav)
  replace hX1 := hX1.but hb2 hgX
  replace hB1 := hb2.below hB1 hB1.size (fun k hk => by subst hk; exact hwg)
  clear hav har hc1 hc2 hb2
  have hY := Blk.new w2 24 #[.int .i64 ak, .int .i64 ai, .string ab]
  have hA2 := (Below.refl w2.heap.size w2).alloc (Nat.le_refl _) (.cells #[.int .i64 ak, .int .i64 ai, .string ab] 24)
  replace hX1 := hX1.below hA2
  replace hB1 := Below.next hB1 hA2
  clear hA2
  go_wp2_with fail
  generalize (w2.alloc (.cells #[.int .i64 ak, .int .i64 ai, .string ab] 24)) = W at *
  generalize w2.heap.size = z at *
  refine wp_region_seg [([], 0), ([1, 2], 3), ([4, 5, 6, 8, 9, 10], 7), ([11, 12, 13, 14, 16], 15), ([], 17), ([18, 19, 20, 21, 23], 22), ([], 24)] [25, 26, 27] (by kernel_rfl) (by kernel_rfl) (fun _ _ d _ _ h => by cases d <;> exact h) ?_
  simp only [pickSegs, pickOps, opAt, List.map_cons, List.map_nil, List.getElem?_toArray, List.getElem?_cons_zero, List.getElem?_cons_succ, Option.getD_some]
  unfold wpBlocks
  refine wpQuiet_nil ?_
  have hU : Below W.heap.size W W.drew := (Below.refl _ _).drew
  go_wp2_with fail
  refine (vbegun_any _).mono ?_
  rintro e v1 ⟨rfl, hv⟩
  go_wp2_with fail
  refine ⟨hv, ?_⟩
  replace hU := Below.next hU hv
  clear hv
  have hXc := (hX1.below hU).cell
  have hYc := (hY.below hU).cell
  have hca := @cell_after v1
  unfold wpBlocks
  repeat (go_big_quiet_step (fail))
  refine wpQuiet_nil ?_
  clear hca hXc hYc
  go_wp2_with fail
  refine (valid_any ⟨ak, ai, ab⟩ _).mono ?_
  rintro e v2 ⟨rfl, hv⟩
  rw [HAV.out]
  go_wp2_with fail
  refine ⟨hv, ?_⟩
  replace hU := Below.next hU hv
  clear hv
  have hXc := (hX1.below hU).cell
  have hYc := (hY.below hU).cell
  have hca := @cell_after v2
  unfold wpBlocks
  repeat (go_big_quiet_step (fail))
  refine wpQuiet_nil ?_
  clear hca hXc hYc
  go_wp2_with fail
  refine (real_any ⟨ak, ai, ab⟩ _).mono ?_
  rintro e v3 ⟨rfl, hv⟩
  rw [HAR.out]
  go_wp2_with fail
  refine ⟨hv, ?_⟩
  replace hU := Below.next hU hv
  clear hv
  have hdd : (decide (3 ≤ ak) == decide (3 ≤ ak)) = true := by simp
  obtain ⟨q, Hq⟩ : ∃ q, Hid (validV ⟨vk, vi, vt⟩ = q) := ⟨_, rfl⟩
  obtain ⟨r, Hr⟩ : ∃ q, Hid (realV ⟨vk, vi, vt⟩ = q) := ⟨_, rfl⟩
  have hXc := (hX1.below hU).cell
  have hYc := (hY.below hU).cell
  have hca := @cell_after v3
  unfold wpBlocks
  repeat (go_big_quiet_step (fail))
  refine wpQuiet_nil ?_
  clear hca hXc hYc
  go_wp2_with fail
  refine (valid_any ⟨vk, vi, vt⟩ _).mono ?_
  rintro e v4 ⟨rfl, hv⟩
  rw [Hq.out]
  go_wp2_with fail
  refine ⟨hv, ?_⟩
  replace hU := Below.next hU hv
  clear hv
  have hXc := (hX1.below hU).cell
  have hYc := (hY.below hU).cell
  have hca := @cell_after v4
  unfold wpBlocks
  refine wpQuiet_nil ?_
  clear hca hXc hYc
  go_wp2_with fail
  refine (rvalid_any ⟨vk, vi, vt⟩ _).mono ?_
  rintro e v5 ⟨rfl, hv⟩
  rw [Hq.out]
  go_wp2_with fail
  refine ⟨hv, ?_⟩
  replace hU := Below.next hU hv
  clear hv
  have hqq : (q == q) = true := by simp
  have hXc := (hX1.below hU).cell
  have hYc := (hY.below hU).cell
  have hca := @cell_after v5
  unfold wpBlocks
  repeat (go_big_quiet_step (fail))
  refine wpQuiet_nil ?_
  clear hca hXc hYc
  go_wp2_with fail
  refine (real_any ⟨vk, vi, vt⟩ _).mono ?_
  rintro e v6 ⟨rfl, hv⟩
  rw [Hr.out]
  go_wp2_with fail
  refine ⟨hv, ?_⟩
  replace hU := Below.next hU hv
  clear hv
  have hXc := (hX1.below hU).cell
  have hYc := (hY.below hU).cell
  have hca := @cell_after v6
  unfold wpBlocks
  refine wpQuiet_nil ?_
  clear hca hXc hYc
  go_wp2_with fail
  refine (rreal_any ⟨vk, vi, vt⟩ _).mono ?_
  rintro e v7 ⟨rfl, hv⟩
  rw [Hr.out]
  go_wp2_with fail
  refine ⟨hv, ?_⟩
  replace hU := Below.next hU hv
  clear hv
  have hrr : (r == r) = true := by simp
  unfold wpBlocks
  repeat (go_big_quiet_step (fail))
  refine wpQuiet_nil ?_
  go_wp2
  go_ret
  exact ⟨rfl, Below.next hB1 hU⟩
end Go.Proofs.Ytemllddgefahfaa
