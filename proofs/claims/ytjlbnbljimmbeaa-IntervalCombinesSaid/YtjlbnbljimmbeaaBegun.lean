import Derived.Test.YtjlbnbljimmbeaaHas
namespace Go.Proofs.Ytjlbnbljimmbeaa
open Go.RowKit
def vn (i : Int) : Vl := ⟨4, i, ⟨#[]⟩⟩
theorem beg1 : betweenL ⟨4, 1, ⟨#[]⟩⟩ ⟨4, 3, ⟨#[]⟩⟩ = ([⟨vn 1, vn 3, false⟩], 0) := by decide +kernel
theorem beg2 : betweenL ⟨4, 3, ⟨#[]⟩⟩ ⟨4, 5, ⟨#[]⟩⟩ = ([⟨vn 3, vn 5, false⟩], 0) := by decide +kernel
theorem beg3 : combineL opU [⟨vn 1, vn 3, false⟩] [⟨vn 3, vn 5, false⟩] = ([⟨vn 1, vn 5, false⟩], 0) := by decide +kernel
theorem beg4 : validL [⟨vn 1, vn 5, false⟩] = true := by decide +kernel
theorem beg5 : hasL [⟨vn 1, vn 5, false⟩] ⟨4, 3, ⟨#[]⟩⟩ = true := by decide +kernel
set_option maxHeartbeats 2000000 in
theorem begun_any (w : World) : Calls Try.prog 11 #[] w fun e w' => e = .returned (.bool true) ∧ Below w.heap.size w w' := by
  go_enter Try.func11, Try.ntmps11
  go_wp2_with fail
  refine (num_any 1 _).mono ?_
  rintro e w1 ⟨rfl, hb1⟩
  go_wp2_with fail
  refine (num_any 3 _).mono ?_
  rintro e w2 ⟨rfl, hb2⟩
  go_wp2_with fail
  refine (between_any ⟨4, 1, ⟨#[]⟩⟩ ⟨4, 3, ⟨#[]⟩⟩ _).mono ?_
  rintro e w3 ⟨A3, c3, rfl, hS3, hb3⟩
  rw [beg1] at hS3
  rw [beg1]
  have HS3 := Lib.hid hS3
  clear hS3
  have hB3 := Below.next (Below.next hb1 hb2) hb3
  clear hb1 hb2 hb3
  dsimp only
  go_wp2_with fail
  refine (num_any 3 _).mono ?_
  rintro e w4 ⟨rfl, hb4⟩
  go_wp2_with fail
  refine (num_any 5 _).mono ?_
  rintro e w5 ⟨rfl, hb5⟩
  go_wp2_with fail
  refine (between_any ⟨4, 3, ⟨#[]⟩⟩ ⟨4, 5, ⟨#[]⟩⟩ _).mono ?_
  rintro e w6 ⟨A6, c6, rfl, hS6, hb6⟩
  rw [beg2] at hS6
  rw [beg2]
  have hB6 := Below.next (Below.next hb4 hb5) hb6
  have HS3' := Lib.hid (HS3.out.keep (keeps_of hB6))
  have HS6 := Lib.hid hS6
  clear hS6 HS3 hb4 hb5 hb6
  have hB := Below.next hB3 hB6
  clear hB3 hB6
  dsimp only
  go_wp2_with fail
  refine (union_any A3 A6 _ _ c3 c6 [⟨vn 1, vn 3, false⟩] [⟨vn 3, vn 5, false⟩] _ HS3'.out HS6.out).mono ?_
  rintro e w7 ⟨A7, c7, rfl, hS7, hb7⟩
  rw [beg3] at hS7
  rw [beg3]
  replace hB := Below.next hB hb7
  clear hb7 HS3' HS6
  dsimp only
  obtain ⟨b, o, x, rfl, hx, hc⟩ := hS7.at (k := 0) (by simp)
  simp only [List.getElem?_cons_zero, Option.some.injEq] at hx
  subst hx
  obtain ⟨c0, c1, c2, c3, c4, c5, c6⟩ := IvAt.of hc
  simp only [vn, Nat.zero_mul, Nat.add_zero] at c0 c1 c2 c3 c4 c5 c6
  have HS7 := Lib.hid hS7
  clear hc hS7
  go_wp2_with fail
  have hev1 := run_eqV 4 1 4 1 ⟨#[]⟩ ⟨#[]⟩
  have hev5 := run_eqV 4 5 4 5 ⟨#[]⟩ ⟨#[]⟩
  simp only [decide_true] at hev1 hev5
  refine wp_region_seg [([0, 1, 2, 3, 4, 5, 6, 7, 8, 9, 10, 11, 12, 13, 14, 15, 16, 17, 18, 19], 20), ([21, 22, 23, 24, 25, 26, 27], 28), ([29, 30, 31, 32], 33), ([34, 35, 36], 37), ([], 38), ([39, 40], 41)] [42, 43, 44, 45] (by kernel_rfl) (by kernel_rfl) (fun _ _ d _ _ h => by cases d <;> exact h) ?_
  simp only [pickSegs, pickOps, opAt, List.map_cons, List.map_nil, List.getElem?_toArray, List.getElem?_cons_zero, List.getElem?_cons_succ, Option.getD_some]
  have hca := @cell_after w7.drew
  have hU : Below w7.heap.size w7 w7.drew := (Below.refl _ _).drew
  unfold wpBlocks
  repeat (go_big_quiet_step (fail))
  refine wpQuiet_nil ?_
  go_wp2_with (first | (go_at_call 47; refine (num_any 1 _).mono ?_; rintro e v1 ⟨rfl, hv1⟩))
  refine ⟨hv1, ?_⟩
  replace hU := Below.next hU hv1
  clear hca
  have hk := bcell hU
  have hca := @cell_after v1
  unfold wpBlocks
  repeat (go_big_quiet_step (fail))
  refine wpQuiet_nil ?_
  clear hk
  go_wp2_with (first | (go_at_call 47; refine (num_any 5 _).mono ?_; rintro e v2 ⟨rfl, hv2⟩))
  refine ⟨hv2, ?_⟩
  replace hU := Below.next hU hv2
  clear hca
  have hk := bcell hU
  have hca := @cell_after v2
  unfold wpBlocks
  repeat (go_big_quiet_step (fail))
  refine wpQuiet_nil ?_
  clear hk
  go_wp2_with (first | (go_at_call 15; refine (validL_any _ _ _ [⟨vn 1, vn 5, false⟩] _ (HS7.out.keep (keeps_of hU))).mono ?_; rintro e v3 ⟨rfl, hv3⟩; rw [beg4]))
  refine ⟨hv3, ?_⟩
  replace hU := Below.next hU hv3
  clear hca
  have hk := bcell hU
  have hca := @cell_after v3
  unfold wpBlocks
  repeat (go_big_quiet_step (fail))
  refine wpQuiet_nil ?_
  clear hk
  go_wp2_with (first | (go_at_call 47; refine (num_any 3 _).mono ?_; rintro e v4 ⟨rfl, hv4⟩))
  refine ⟨hv4, ?_⟩
  replace hU := Below.next hU hv4
  clear hca
  have hk := bcell hU
  have hca := @cell_after v4
  unfold wpBlocks
  repeat (go_big_quiet_step (fail))
  refine wpQuiet_nil ?_
  clear hk
  go_wp2_with (first | (go_at_call 20; refine (has_any _ _ _ [⟨vn 1, vn 5, false⟩] ⟨4, 3, ⟨#[]⟩⟩ _ (HS7.out.keep (keeps_of hU))).mono ?_; rintro e v5 ⟨rfl, hv5⟩; rw [beg5]))
  refine ⟨hv5, ?_⟩
  replace hU := Below.next hU hv5
  clear hca
  have hk := bcell hU
  have hca := @cell_after v5
  unfold wpBlocks
  repeat (go_big_quiet_step (fail))
  refine wpQuiet_nil ?_
  clear hk
  go_wp2_with (first | (go_at_call 26; refine (all_any _).mono ?_; rintro e v6 ⟨A8, c8, rfl, hS8, hv6⟩; clear hS8))
  refine ⟨hv6, ?_⟩
  replace hU := Below.next hU hv6
  clear hca
  have hk := bcell hU
  have hca := @cell_after v6
  unfold wpBlocks
  repeat (go_big_quiet_step (fail))
  refine wpQuiet_nil ?_
  clear hk
  go_wp2
  go_ret
  exact ⟨rfl, Below.next hB hU⟩
end Go.Proofs.Ytjlbnbljimmbeaa
