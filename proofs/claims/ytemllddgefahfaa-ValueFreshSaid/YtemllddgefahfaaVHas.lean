import Derived.Test.YtemllddgefahfaaVRows
namespace Go.Proofs.Ytemllddgefahfaa
open Go.RowKit

theorem RowsS.get2 {w : World} {A : Option Addr} {n : Nat} {ps : List RowP} (h : RowsS w A n ps) {k : Nat} (hk : k < n) : ∃ (b o : Nat) (p : RowP), A = some ⟨b, o, none⟩ ∧ w.cell? ⟨b, o + k, none⟩ = some (.slice p.1.1 p.1.2.1 p.1.2.2) ∧ RowOk w p ∧ ps[k]? = some p := by
  obtain ⟨b, o, p, hA, hp, hc⟩ := h.sl.at hk
  have := hc 0 _ rfl
  rw [Nat.mul_one, Nat.add_zero] at this
  exact ⟨b, o, p, hA, this, h.ok p (List.mem_of_getElem? hp), hp⟩
theorem mem_step {ps : List RowP} {k : Nat} {q : RowP} {r : List Vl} (h : ps[k]? = some q) : decide (r ∈ (ps.drop k).map (·.2)) = (decide (cmpR q.2 r = 0) || decide (r ∈ (ps.drop (k + 1)).map (·.2))) := by
  rw [drop_at h, List.map_cons, Bool.eq_iff_iff]
  simp only [List.mem_cons, decide_eq_true_eq, Bool.or_eq_true, cmpR_zero]
  constructor
  · rintro (h | h)
    · exact .inl h.symm
    · exact .inr h
  · rintro (h | h)
    · exact .inl h.symm
    · exact .inr h
set_option maxHeartbeats 1000000 in
theorem vhas_any (A : Option Addr) (n c : Nat) (ps : List RowP) (p : RowP) (w : World) (hs : RowsS w A n ps) (hp : RowOk w p) (hn : n ≤ 1000000) :
    Calls Try.prog 31 #[.slice A n c, .slice p.1.1 p.1.2.1 p.1.2.2] w fun e w' => e = .returned (.bool (decide (p.2 ∈ ps.map (·.2)))) ∧ Below w.heap.size w w' := by
  have HS := Lib.hid hs
  have HP := Lib.hid hp
  have Hln := Lib.hid hs.sl.len
  clear hs hp
  obtain ⟨⟨p1, p2, p3⟩, pr⟩ := p
  dsimp only
  generalize hr : decide (pr ∈ ps.map (·.2)) = r
  have HR : Hid (decide (pr ∈ (ps.drop 0).map (·.2)) = r) := Lib.hid (by rw [List.drop_zero]; exact hr)
  clear hr
  go_enter Try.func31, Try.ntmps31
  go_wp2_with fail
  go_loopw [9] (fun i wr => ∃ k : Nat, k ≤ n ∧ i = .int .i64 (k : Int) ∧ Hid (decide (pr ∈ (ps.drop k).map (·.2)) = r) ∧ Below w.heap.size w wr) (fun i _ => n - (intOf i).toNat)
  case atStart => exact ⟨0, by omega, rfl, HR, Below.refl _ _⟩
  case round =>
    obtain ⟨k, hk, rfl, hinv, hb⟩ := hrel
    by_cases hlt : k < n
    · obtain ⟨b, o, q, hA, hcell, hqo, hqk⟩ := (HS.out.keep (keeps_of hb)).get2 hlt
      have Hst : Hid (r = (decide (cmpR q.2 pr = 0) || decide (pr ∈ (ps.drop (k + 1)).map (·.2)))) := Lib.hid (by rw [← hinv.out, mem_step hqk])
      have HQ := Lib.hid hqo
      clear hqo hqk
      subst hA
      obtain ⟨⟨q1, q2, q3⟩, qr⟩ := q
      dsimp only at hcell Hst
      go_wp2_with fail
      clear hcell
      refine (comp_rows ((q1, q2, q3), qr) ((p1, p2, p3), pr) _ HQ.out (HP.out.keep (keeps_of hb))).mono ?_
      rintro e w2 ⟨rfl, hb2⟩
      dsimp only
      generalize cmpR qr pr = z at *
      by_cases hz : z = 0
      · have g0 : (z == 0) = true := by simp [hz]
        have HZ := Lib.hid hz
        clear hz
        go_wp2
        go_ret
        exact ⟨ret_bool (by rw [Hst.out, HZ.out]; simp), Below.next hb hb2⟩
      · have g0 : (z == 0) = false := by simp [hz]
        have HZ := Lib.hid hz
        clear hz
        go_wp2_with fail
        go_roundw
        case rel => exact ⟨k + 1, by omega, by go_num, Lib.hid (by rw [Hst.out, decide_eq_false HZ.out]; simp), Below.next hb hb2⟩
        case measure => simp [intOf]; omega
    · go_wp2
      go_ret
      exact ⟨ret_bool (by rw [← hinv.out, List.drop_eq_nil_of_le (by have := Hln.out; omega)]; simp), hb⟩
set_option maxHeartbeats 1000000 in
theorem rvhas_any (A : Option Addr) (n c : Nat) (ps : List RowP) (p : RowP) (w : World) (hs : RowsS w A n ps) (hp : RowOk w p) (hn : n ≤ 1000000) :
    Calls Try.prog 32 #[.slice A n c, .slice p.1.1 p.1.2.1 p.1.2.2] w fun e w' => e = .returned (.bool (decide (p.2 ∈ ps.map (·.2)))) ∧ Below w.heap.size w w' := by
  have HS := Lib.hid hs
  have HP := Lib.hid hp
  have Hln := Lib.hid hs.sl.len
  clear hs hp
  obtain ⟨⟨p1, p2, p3⟩, pr⟩ := p
  dsimp only
  generalize hr : decide (pr ∈ ps.map (·.2)) = r
  have HR : Hid (decide (pr ∈ (ps.drop 0).map (·.2)) = r) := Lib.hid (by rw [List.drop_zero]; exact hr)
  clear hr
  go_enter Try.func32, Try.ntmps32
  go_wp2_with fail
  go_loopw [9] (fun i wr => ∃ k : Nat, k ≤ n ∧ i = .int .i64 (k : Int) ∧ Hid (decide (pr ∈ (ps.drop k).map (·.2)) = r) ∧ Below w.heap.size w wr) (fun i _ => n - (intOf i).toNat)
  case atStart => exact ⟨0, by omega, rfl, HR, Below.refl _ _⟩
  case round =>
    obtain ⟨k, hk, rfl, hinv, hb⟩ := hrel
    by_cases hlt : k < n
    · obtain ⟨b, o, q, hA, hcell, hqo, hqk⟩ := (HS.out.keep (keeps_of hb)).get2 hlt
      have Hst : Hid (r = (decide (cmpR q.2 pr = 0) || decide (pr ∈ (ps.drop (k + 1)).map (·.2)))) := Lib.hid (by rw [← hinv.out, mem_step hqk])
      have HQ := Lib.hid hqo
      clear hqo hqk
      subst hA
      obtain ⟨⟨q1, q2, q3⟩, qr⟩ := q
      dsimp only at hcell Hst
      go_wp2_with fail
      clear hcell
      refine (rcomp_rows ((q1, q2, q3), qr) ((p1, p2, p3), pr) _ HQ.out (HP.out.keep (keeps_of hb))).mono ?_
      rintro e w2 ⟨rfl, hb2⟩
      dsimp only
      generalize cmpR qr pr = z at *
      by_cases hz : z = 0
      · have g0 : (z == 0) = true := by simp [hz]
        have HZ := Lib.hid hz
        clear hz
        go_wp2
        go_ret
        exact ⟨ret_bool (by rw [Hst.out, HZ.out]; simp), Below.next hb hb2⟩
      · have g0 : (z == 0) = false := by simp [hz]
        have HZ := Lib.hid hz
        clear hz
        go_wp2_with fail
        go_roundw
        case rel => exact ⟨k + 1, by omega, by go_num, Lib.hid (by rw [Hst.out, decide_eq_false HZ.out]; simp), Below.next hb hb2⟩
        case measure => simp [intOf]; omega
    · go_wp2
      go_ret
      exact ⟨ret_bool (by rw [← hinv.out, List.drop_eq_nil_of_le (by have := Hln.out; omega)]; simp), hb⟩
theorem same_step {ps qs : List RowP} {k : Nat} {p q : RowP} (h : ps[k]? = some p) (h2 : qs[k]? = some q) : decide ((ps.drop k).map (·.2) = (qs.drop k).map (·.2)) = (decide (cmpR p.2 q.2 = 0) && decide ((ps.drop (k + 1)).map (·.2) = (qs.drop (k + 1)).map (·.2))) := by
  rw [drop_at h, drop_at h2, List.map_cons, List.map_cons, Bool.eq_iff_iff]
  simp only [List.cons.injEq, decide_eq_true_eq, Bool.and_eq_true, cmpR_zero]
set_option maxHeartbeats 2000000 in
theorem rsame_any (A B : Option Addr) (n m c cb : Nat) (ps qs : List RowP) (w : World) (hs : RowsS w A n ps) (ht : RowsS w B m qs) (hn : n ≤ 1000000) (hm : m ≤ 1000000) :
    Calls Try.prog 29 #[.slice A n c, .slice B m cb] w fun e w' => e = .returned (.bool (decide (ps.map (·.2) = qs.map (·.2)))) ∧ Below w.heap.size w w' := by
  have HS := Lib.hid hs
  have HT := Lib.hid ht
  have Hln := Lib.hid hs.sl.len
  have Hlm := Lib.hid ht.sl.len
  clear hs ht
  by_cases hnm : n = m
  · subst hnm
    generalize hr : decide (ps.map (·.2) = qs.map (·.2)) = r
    have HR : Hid (decide ((ps.drop 0).map (·.2) = (qs.drop 0).map (·.2)) = r) := Lib.hid (by rw [List.drop_zero, List.drop_zero]; exact hr)
    clear hr
    go_enter Try.func29, Try.ntmps29
    go_wp2_with fail
    go_loopw [13] (fun i wr => ∃ k : Nat, k ≤ n ∧ i = .int .i64 (k : Int) ∧ Hid (decide ((ps.drop k).map (·.2) = (qs.drop k).map (·.2)) = r) ∧ Below w.heap.size w wr) (fun i _ => n - (intOf i).toNat)
    case atStart => exact ⟨0, by omega, rfl, HR, Below.refl _ _⟩
    case round =>
      obtain ⟨k, hk, rfl, hinv, hb⟩ := hrel
      by_cases hlt : k < n
      · obtain ⟨b, o, p, hA, hcell, hpo, hpk⟩ := (HS.out.keep (keeps_of hb)).get2 hlt
        obtain ⟨b', o', q, hA', hcell', hqo, hqk⟩ := (HT.out.keep (keeps_of hb)).get2 hlt
        have Hst : Hid (r = (decide (cmpR p.2 q.2 = 0) && decide ((ps.drop (k + 1)).map (·.2) = (qs.drop (k + 1)).map (·.2)))) := Lib.hid (by rw [← hinv.out, same_step hpk hqk])
        have HP := Lib.hid hpo
        have HQ := Lib.hid hqo
        clear hqo hqk hpo hpk
        subst hA hA'
        obtain ⟨⟨q1, q2, q3⟩, qr⟩ := q
        obtain ⟨⟨p1, p2, p3⟩, pr⟩ := p
        dsimp only at hcell hcell' Hst
        go_wp2_with fail
        have hca := @cell_after wr.drew
        refine wp_region_seg [([0, 1, 2, 3, 4, 5, 6, 7], 8)] [9] (by kernel_rfl) (by kernel_rfl) (fun _ _ d _ _ h => by cases d <;> exact h) ?_
        simp only [pickSegs, pickOps, opAt, List.map_cons, List.map_nil, List.getElem?_toArray, List.getElem?_cons_zero, List.getElem?_cons_succ, Option.getD_some]
        unfold wpBlocks
        repeat (go_big_quiet_step (fail))
        refine wpQuiet_nil ?_
        clear hca hcell hcell'
        have hD : Below wr.heap.size wr wr.drew := (Below.refl _ _).drew
        go_wp2_with fail
        refine (rcomp_rows ((p1, p2, p3), pr) ((q1, q2, q3), qr) _ (HP.out.keep (keeps_of hD)) (HQ.out.keep (keeps_of hD))).mono ?_
        rintro e w2 ⟨rfl, hb2⟩
        dsimp only
        go_wp2_with fail
        refine ⟨hb2, ?_⟩
        have hbz := Below.next (Below.next hb hD) hb2
        generalize cmpR pr qr = z at *
        by_cases hz : z = 0
        · have g0 : (z != 0) = false := by simp [hz]
          have HZ := Lib.hid hz
          clear hz
          unfold wpBlocks
          repeat (go_big_quiet_step (fail))
          refine wpQuiet_nil ?_
          go_wp2_with fail
          go_roundw
          case rel => exact ⟨k + 1, by omega, by go_num, Lib.hid (by rw [Hst.out, HZ.out]; simp), hbz⟩
          case measure => simp [intOf]; omega
        · have g0 : (z != 0) = true := by simp [hz]
          have HZ := Lib.hid hz
          clear hz
          unfold wpBlocks
          repeat (go_big_quiet_step (fail))
          refine wpQuiet_nil ?_
          go_wp2
          go_ret
          exact ⟨ret_bool (by rw [Hst.out, decide_eq_false HZ.out]; simp), hbz⟩
      · go_wp2
        go_ret
        have h1 : ps.drop k = [] := List.drop_eq_nil_of_le (by have := Hln.out; omega)
        have h2 : qs.drop k = [] := List.drop_eq_nil_of_le (by have := Hlm.out; omega)
        exact ⟨ret_bool (by rw [← hinv.out, h1, h2]; simp), hb⟩
  · have hr : decide (ps.map (·.2) = qs.map (·.2)) = false := by
      simp only [decide_eq_false_iff_not]
      intro h
      have h1 := congrArg List.length h
      simp only [List.length_map] at h1
      have := Hln.out
      have := Hlm.out
      omega
    rw [hr]
    have g1 : ((n : Int) != (m : Int)) = true := by simp; omega
    clear hr
    go_enter Try.func29, Try.ntmps29
    go_wp2
    go_ret
    exact ⟨rfl, Below.refl _ _⟩
end Go.Proofs.Ytemllddgefahfaa
