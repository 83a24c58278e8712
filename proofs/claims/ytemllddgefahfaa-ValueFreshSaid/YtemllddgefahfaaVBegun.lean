/-
  Real of both sides; the sanity check of the value laws.
-/
import Derived.Test.YtemllddgefahfaaSetV
import Derived.Test.YtemllddgefahfaaNextM
namespace Go.Proofs.Ytemllddgefahfaa
open Go.RowKit

def realV (v : Vl) : Bool := validV v && decide (3 ≤ v.k)
set_option maxHeartbeats 400000 in
theorem real_any (v : Vl) (w : World) : Calls Try.prog 15 #[.agg #[.int .i64 v.k, .int .i64 v.i, .string v.t]] w fun e w' => e = .returned (.bool (realV v)) ∧ Below w.heap.size w w' := by
  obtain ⟨k, i, t⟩ := v
  obtain ⟨r, Hr⟩ : ∃ r, Hid (realV ⟨k, i, t⟩ = r) := ⟨_, rfl⟩
  rw [Hr.out]
  go_enter Try.func15, Try.ntmps15
  go_wp2_with fail
  refine (valid_any ⟨k, i, t⟩ _).mono ?_
  rintro e w1 ⟨rfl, hb1⟩
  have hX := ((Blk.new w 24 #[.int .i64 k, .int .i64 i, .string t]).below hb1).cell
  have hB1 : Below w.heap.size w w1 := Below.next ((Below.refl _ _).alloc (Nat.le_refl _) _) hb1
  obtain ⟨q, Hq⟩ : ∃ q, Hid (validV ⟨k, i, t⟩ = q) := ⟨_, rfl⟩
  rw [Hq.out]
  cases q
  · go_wp2
    go_ret
    exact ⟨ret_bool (by rw [← Hr.out]; simp [realV, Hq.out]), hB1⟩
  · have hk := valid_kind Hq.out
    have HK := Lib.hid hk
    clear hk
    by_cases h1 : k = 1
    · have g1 : (k != 1) = false := by simp [h1]
      have H1 := Lib.hid h1
      clear h1
      go_wp2
      go_ret
      exact ⟨ret_bool (by rw [← Hr.out]; simp [realV, H1.out]), hB1⟩
    · have g1 : (k != 1) = true := by simp [h1]
      have H1 := Lib.hid h1
      clear h1
      by_cases h2 : k = 2
      · have g2 : (k != 2) = false := by simp [h2]
        have H2 := Lib.hid h2
        clear h2
        go_wp2
        go_ret
        exact ⟨ret_bool (by rw [← Hr.out]; simp [realV, H2.out]), hB1⟩
      · have g2 : (k != 2) = true := by simp [h2]
        have H2 := Lib.hid h2
        clear h2
        go_wp2
        go_ret
        exact ⟨ret_bool (by rw [← Hr.out]; have h3 : 3 ≤ k := by have := HK.out; have := H1.out; have := H2.out; omega
                            simp [realV, Hq.out, h3]), hB1⟩
set_option maxHeartbeats 400000 in
theorem rreal_any (v : Vl) (w : World) : Calls Try.prog 17 #[.agg #[.int .i64 v.k, .int .i64 v.i, .string v.t]] w fun e w' => e = .returned (.bool (realV v)) ∧ Below w.heap.size w w' := by
  obtain ⟨k, i, t⟩ := v
  obtain ⟨r, Hr⟩ : ∃ r, Hid (realV ⟨k, i, t⟩ = r) := ⟨_, rfl⟩
  rw [Hr.out]
  go_enter Try.func17, Try.ntmps17
  go_wp2_with fail
  refine (rvalid_any ⟨k, i, t⟩ _).mono ?_
  rintro e w1 ⟨rfl, hb1⟩
  have hX := ((Blk.new w 24 #[.int .i64 k, .int .i64 i, .string t]).below hb1).cell
  have hB1 : Below w.heap.size w w1 := Below.next ((Below.refl _ _).alloc (Nat.le_refl _) _) hb1
  obtain ⟨q, Hq⟩ : ∃ q, Hid (validV ⟨k, i, t⟩ = q) := ⟨_, rfl⟩
  rw [Hq.out]
  cases q
  · go_wp2
    go_ret
    exact ⟨ret_bool (by rw [← Hr.out]; simp [realV, Hq.out]), hB1⟩
  · by_cases h1 : 3 ≤ k
    · go_wp2
      go_ret
      exact ⟨ret_bool (by rw [← Hr.out]; simp [realV, Hq.out, h1]), hB1⟩
    · go_wp2
      go_ret
      exact ⟨ret_bool (by rw [← Hr.out]; simp [realV, Hq.out, h1]), hB1⟩
theorem Blk.newAt {w : World} {g : Nat} {T : TypeId} {cs : Array Value} (h : g = w.heap.size) : Blk (w.alloc (.cells cs T)) g T cs := by
  subst h
  exact Blk.new _ _ _
theorem row_one {w : World} {g : Nat} {v : Vl} (h : Blk w g 24 #[.int .i64 v.k, .int .i64 v.i, .string v.t]) : RowOk w ((some ⟨g, 0, none⟩, 1, 1), [v]) := by
  refine ⟨⟨rfl, fun _ => ⟨g, 0, rfl, ?_⟩⟩, fun h => (by cases h), Nat.le_refl _, by simp⟩
  intro k x hx j u hu
  rcases k with _ | k
  · simp at hx
    subst hx
    rcases j with _ | _ | _ | j <;> simp [Vl.cs] at hu <;> subst hu <;> exact h.cell _
  · simp at hx
theorem rows_three {w : World} {g : Nat} {p q r : RowP} (h : Blk w g 38 #[.slice p.1.1 p.1.2.1 p.1.2.2, .slice q.1.1 q.1.2.1 q.1.2.2, .slice r.1.1 r.1.2.1 r.1.2.2]) (hp : RowOk w p) (hq : RowOk w q) (hr : RowOk w r) : RowsS w (some ⟨g, 0, none⟩) 3 [p, q, r] := by
  refine ⟨⟨rfl, fun _ => ⟨g, 0, rfl, ?_⟩⟩, fun x hx => ?_⟩
  · intro k x hx j u hu
    rcases j with _ | j
    · simp [rowc] at hu
      subst hu
      rcases k with _ | _ | _ | k <;> simp at hx
      all_goals (subst hx; exact h.cell _)
    · simp [rowc] at hu
  · simp at hx
    rcases hx with rfl | rfl | rfl
    · exact hp
    · exact hq
    · exact hr
def vnum (i : Int) : Vl := ⟨4, i, ⟨#[]⟩⟩
theorem beg_set : setL [[vnum 2], [vnum 1], [vnum 2]] = [[vnum 1], [vnum 2]] := by
  refine ascR_ext _ _ (setL_asc _) (by decide +kernel) fun r => ?_
  rw [setL_mem]
  simp only [List.mem_cons, List.not_mem_nil, or_false]
  constructor
  · rintro (h | h | h)
    · exact .inr h
    · exact .inl h
    · exact .inr h
  · rintro (h | h)
    · exact .inr (.inl h)
    · exact .inl h
theorem beg_next : nextV ⟨5, 0, ⟨#[97]⟩⟩ = (⟨5, 0, ⟨#[97, 0]⟩⟩, true) := by decide +kernel
theorem beg_valid : validV ⟨5, 0, ⟨#[97, 0]⟩⟩ = true := by decide +kernel
theorem beg_real : realV ⟨5, 0, ⟨#[97, 0]⟩⟩ = true := by decide +kernel
theorem beg_cmp : cmpR [vnum 1] [vnum 2] = -1 := by decide +kernel
theorem beg_rows (u : World) (z : Nat) (hz : u.heap.size = z) : RowsS ((((u.alloc (.cells #[.int .i64 4, .int .i64 2, .string ⟨#[]⟩] 24)).alloc (.cells #[.int .i64 4, .int .i64 1, .string ⟨#[]⟩] 24)).alloc (.cells #[.int .i64 4, .int .i64 2, .string ⟨#[]⟩] 24)).alloc (.cells #[.slice (some ⟨z, 0, none⟩) 1 1, .slice (some ⟨z + 1, 0, none⟩) 1 1, .slice (some ⟨z + 1 + 1, 0, none⟩) 1 1] 38)) (some ⟨z + 1 + 1 + 1, 0, none⟩) 3 [((some ⟨z, 0, none⟩, 1, 1), [vnum 2]), ((some ⟨z + 1, 0, none⟩, 1, 1), [vnum 1]), ((some ⟨z + 1 + 1, 0, none⟩, 1, 1), [vnum 2])] := by
  subst hz
  refine rows_three (Blk.newAt (by simp)) (row_one (v := vnum 2) ((((Blk.new _ _ _).alloc _).alloc _).alloc _)) (row_one (v := vnum 1) (((Blk.newAt (by simp)).alloc _).alloc _)) (row_one (v := vnum 2) ((Blk.newAt (by simp)).alloc _))
set_option maxRecDepth 100000 in
set_option maxHeartbeats 4000000 in
theorem vbegun_any (w : World) : Calls Try.prog 13 #[] w fun e w' => e = .returned (.bool true) ∧ Below w.heap.size w w' := by
  go_enter Try.func13, Try.ntmps13
  go_wp2_with fail
  refine (next_any ⟨5, 0, ⟨#[97]⟩⟩ _).mono ?_
  rintro e w1 ⟨rfl, hb1⟩
  rw [beg_next]
  dsimp only
  go_wp2_with fail
  have hX := (((((Blk.new w1 24 #[.int .i64 5, .int .i64 0, .string ⟨#[97, 0]⟩]).alloc (.cells #[.int .i64 4, .int .i64 2, .string ⟨#[]⟩] 24)).alloc (.cells #[.int .i64 4, .int .i64 1, .string ⟨#[]⟩] 24)).alloc (.cells #[.int .i64 4, .int .i64 2, .string ⟨#[]⟩] 24)).alloc (.cells #[.slice (some ⟨w1.heap.size + 1, 0, none⟩) 1 1, .slice (some ⟨w1.heap.size + 1 + 1, 0, none⟩) 1 1, .slice (some ⟨w1.heap.size + 1 + 1 + 1, 0, none⟩) 1 1] 38))
  have hR := beg_rows (w1.alloc (.cells #[.int .i64 5, .int .i64 0, .string ⟨#[97, 0]⟩] 24)) (w1.heap.size + 1) (by simp)
  have hB := (((((Below.refl w1.heap.size w1).alloc (Nat.le_refl _) (.cells #[.int .i64 5, .int .i64 0, .string ⟨#[97, 0]⟩] 24)).alloc (by simp) (.cells #[.int .i64 4, .int .i64 2, .string ⟨#[]⟩] 24)).alloc (by simp; omega) (.cells #[.int .i64 4, .int .i64 1, .string ⟨#[]⟩] 24)).alloc (by simp; omega) (.cells #[.int .i64 4, .int .i64 2, .string ⟨#[]⟩] 24)).alloc (by simp; omega) (.cells #[.slice (some ⟨w1.heap.size + 1, 0, none⟩) 1 1, .slice (some ⟨w1.heap.size + 1 + 1, 0, none⟩) 1 1, .slice (some ⟨w1.heap.size + 1 + 1 + 1, 0, none⟩) 1 1] 38)
  refine (setV_any (some ⟨w1.heap.size + 1 + 1 + 1 + 1, 0, none⟩) 3 3 _ _ hR (fun h => by cases h) (fun ad h => by injection h with h; rw [← h]) (by omega) (by simp)).mono ?_
  rintro e w2 hpost
  rw [show List.map (fun x : RowP => x.2) [((some ⟨w1.heap.size + 1, 0, none⟩, 1, 1), [vnum 2]), ((some ⟨w1.heap.size + 1 + 1, 0, none⟩, 1, 1), [vnum 1]), ((some ⟨w1.heap.size + 1 + 1 + 1, 0, none⟩, 1, 1), [vnum 2])] = [[vnum 2], [vnum 1], [vnum 2]] from rfl, beg_set] at hpost
  obtain ⟨qs, A', c', rfl, hq, hrs, hb2⟩ := hpost.rows
  match qs, hq with
  | [((h01, h02, h03), r0), ((h11, h12, h13), r1)], hq =>
    simp only [List.map_cons, List.map_nil, List.cons.injEq, and_true] at hq
    obtain ⟨rfl, rfl⟩ := hq
    obtain ⟨b, o, rfl, hcc⟩ := hrs.sl.2 (by decide)
    have d0 := hcc 0 _ rfl 0 _ rfl
    have d1 := hcc 1 _ rfl 0 _ rfl
    simp only [Nat.zero_mul, Nat.add_zero, Nat.one_mul] at d0 d1
    have HR0 := Lib.hid (hrs.ok ((h01, h02, h03), [vnum 1]) (by simp))
    have HR1 := Lib.hid (hrs.ok ((h11, h12, h13), [vnum 2]) (by simp))
    replace hX := hX.below hb2
    have hBB : Below w.heap.size w w2 := Below.next (Below.next hb1 hB) hb2
    clear hrs hcc hR hpost hb2 hB hb1
    generalize w1.heap.size = z at *
    go_wp2_with fail
    have hXc := hX.cell
    have hca := @cell_after w2.drew
    refine wp_region_seg [([0, 1, 2, 3, 4, 5, 6, 7], 8), ([9, 10, 11], 12), ([13, 14, 15, 16, 17, 18, 19, 20, 21, 22, 23, 24, 25], 26)] [27, 28, 29] (by kernel_rfl) (by kernel_rfl) (fun _ _ d _ _ h => by cases d <;> exact h) ?_
    simp only [pickSegs, pickOps, opAt, List.map_cons, List.map_nil, List.getElem?_toArray, List.getElem?_cons_zero, List.getElem?_cons_succ, Option.getD_some]
    unfold wpBlocks
    repeat (go_big_quiet_step (fail))
    refine wpQuiet_nil ?_
    have hU : Below w2.heap.size w2 w2.drew := (Below.refl _ _).drew
    clear hca hXc
    go_wp2_with fail
    refine (valid_any ⟨5, 0, ⟨#[97, 0]⟩⟩ _).mono ?_
    rintro e v1 ⟨rfl, hv1⟩
    rw [beg_valid]
    go_wp2_with fail
    refine ⟨hv1, ?_⟩
    replace hU := Below.next hU hv1
    have hXc := (hX.below hU).cell
    have hca := @cell_after v1
    unfold wpBlocks
    repeat (go_big_quiet_step (fail))
    refine wpQuiet_nil ?_
    clear hca hXc
    go_wp2_with fail
    refine (real_any ⟨5, 0, ⟨#[97, 0]⟩⟩ _).mono ?_
    rintro e v2 ⟨rfl, hv2⟩
    rw [beg_real]
    go_wp2_with fail
    refine ⟨hv2, ?_⟩
    replace hU := Below.next hU hv2
    have f0 := keep_cell (keeps_of hU) d0
    have f1 := keep_cell (keeps_of hU) d1
    have hca := @cell_after v2
    unfold wpBlocks
    repeat (go_big_quiet_step (fail))
    refine wpQuiet_nil ?_
    clear hca f0 f1
    go_wp2_with fail
    refine (comprowsL_any h01 h11 h02 h12 h03 h13 [vnum 1] [vnum 2] _ (HR0.out.rd.keep (keeps_of hU)) (HR1.out.rd.keep (keeps_of hU)) (Nat.le_trans HR0.out.le HR0.out.mx) (Nat.le_trans HR1.out.le HR1.out.mx)).mono ?_
    rintro e v3 ⟨rfl, hv3⟩
    rw [beg_cmp]
    go_wp2_with fail
    refine ⟨hv3.bel, ?_⟩
    replace hU := Below.next hU hv3.bel
    unfold wpBlocks
    repeat (go_big_quiet_step (fail))
    refine wpQuiet_nil ?_
    go_wp2
    go_ret
    exact ⟨rfl, Below.next hBB hU⟩
end Go.Proofs.Ytemllddgefahfaa
