import Derived.Test.YtemllddgefahfaaVSets
namespace Go.Proofs.Ytemllddgefahfaa
open Go.RowKit

theorem ret_sl {A : Option Addr} {n m c : Nat} (h : n = m) : Ending.returned (.slice A n c) = .returned (.slice A m c) := by rw [h]
/-- what copies returns: rows of the call's own, the same contents in reverse order -/
def CopiesPost (w : World) (R : List (List Vl)) (e : Ending) (w' : World) : Prop :=
  ∃ (qs : List RowP) (A' : Option Addr) (c' : Nat), e = .returned (.slice A' R.length c') ∧ qs.map (·.2) = R ∧ w'.ownsRow w.heap.size 38 1 (.slice A' R.length c') R.length (qs.flatMap rowc) ∧ (∀ q ∈ qs, OwnRow w' w.heap.size q) ∧ Below w.heap.size w w'
def CpRel (w : World) (ps : List RowP) (n : Nat) (x i : Value) (wr : World) : Prop := ∃ (k : Nat) (qs : List RowP) (A : Option Addr) (c : Nat), k ≤ n ∧ i = .int .i64 ((k : Int) - 1) ∧ x = .slice A qs.length c ∧ qs.length + k = n ∧ qs.map (·.2) = ((ps.drop k).map (·.2)).reverse ∧ wr.ownsRow w.heap.size 38 1 (.slice A qs.length c) qs.length (qs.flatMap rowc) ∧ (∀ q ∈ qs, OwnRow wr w.heap.size q) ∧ Below w.heap.size w wr
set_option maxRecDepth 100000 in
set_option maxHeartbeats 4000000 in
theorem copies_any (A : Option Addr) (n c : Nat) (ps : List RowP) (w : World) (hs : RowsS w A n ps) (hn : n ≤ 1000000) (hsm : ∀ p ∈ ps, p.1.2.1 ≤ 4398046511104) :
    Calls Try.prog 28 #[.slice A n c] w fun e w' => CopiesPost w (ps.map (·.2)).reverse e w' := by
  obtain ⟨i0, hi, hz0, hz1, hz2⟩ := info_parts info_row
  have HS := Lib.hid hs
  have HSM := Lib.hid hsm
  have Hln := Lib.hid hs.sl.len
  clear hs hsm
  go_enter Try.func28, Try.ntmps28
  go_wp2_with fail
  go_loopw [3, 4] (fun x i wr => CpRel w ps n x i wr) (fun _ i _ => (intOf i + 1).toNat)
  case atStart => exact ⟨n, [], none, 0, Nat.le_refl _, rfl, rfl, by simp, by rw [List.drop_eq_nil_of_le (by have := Hln.out; omega)]; rfl, ⟨by simp, .inl ⟨rfl, rfl⟩⟩, fun q hq => (by cases hq), Below.refl _ _⟩
  case round =>
    obtain ⟨k, qs, A2, c2, hk, rfl, rfl, hl, hmap, hown, hq, hb⟩ := hrel
    have HO := Lib.hid hown
    have HQ := Lib.hid hq
    have HM := Lib.hid hmap
    have HL := Lib.hid hl
    have hql : qs.length ≤ n := by omega
    clear hown hq hmap hl
    by_cases hlt : 0 < k
    · obtain ⟨k', rfl⟩ : ∃ k', k = k' + 1 := ⟨k - 1, by omega⟩
      rw [show (((k' + 1 : Nat) : Int) - 1) = (k' : Int) by omega]
      obtain ⟨b, o, p, hA, hcell, hpo, hpk⟩ := (HS.out.keep (keeps_of hb)).get2 (show k' < n by omega)
      have HPK := Lib.hid hpk
      have HPO := Lib.hid hpo
      have hps := HSM.out p (List.mem_of_getElem? hpk)
      clear hpk hpo
      subst hA
      obtain ⟨⟨p1, p2, p3⟩, pr⟩ := p
      dsimp only at hcell hps
      go_wp2_with fail
      clear hcell
      refine (copy_any ((p1, p2, p3), pr) _ HPO.out hps).mono ?_
      rintro e w3 ⟨A3, c3, rfl, hown3, hb3⟩
      have hO3 := own_at HO.out (fun g _ hl _ => hb3.block g hl)
      have hsz3 : w.heap.size ≤ w3.heap.size := Nat.le_trans hb.size hb3.size
      have HN3 : Hid (OwnRow w3 w.heap.size ((A3, p2, c3), pr)) := Lib.hid ⟨own_weaken hown3 hb.size, (HPO.out).rd.len⟩
      go_wp2_with (at_builtin; refine wpList_append_one2 (by rfl) (.tmp 12) (.tmp 18) _ (by rfl) w.heap.size 38 i0 _ 1 24 Try.underlying39 hi hz0 hz1 hz2 (by rfl) (by omega) (.slice A2 qs.length c2) qs.length _ (by rfl) w3 _ hO3 w3.heap.size (by rfl) (by rfl) (by rfl) (one_row ((A3, p2, c3), [])) (by simp only [maxLen]; omega) (by omega) hsz3 ?_; intro g6 cap6 w6 hown6 hg6 hB6 hat6 hlt6)
      go_roundw
      case rel =>
        refine ⟨k', qs ++ [((A3, p2, c3), pr)], some ⟨g6, 0, none⟩, cap6, by omega, rfl, by simp, by have := HL.out; simp; omega, ?_, ?_, ?_, (hb.trans (hb3.mono hb.size)).trans hB6⟩
        · rw [List.map_append, HM.out, drop_at HPK.out]
          simp
        · rw [List.flatMap_append]; simpa [rowc] using hown6
        · intro q hq
          have ho4 := hO3.alloc (.cells #[.slice A3 p2 c3] 38)
          rw [List.mem_append, List.mem_singleton] at hq
          rcases hq with hq | rfl
          · exact (((HQ.out q hq).below hb3).below ((Below.refl _ _).alloc (Nat.le_refl _) _)).grown ho4 hg6
          · exact (HN3.out.below ((Below.refl _ _).alloc (Nat.le_refl _) _)).grown ho4 hg6
      case measure => simp [intOf]
    · obtain rfl : k = 0 := by omega
      go_wp2
      go_ret
      have hm := HM.out
      rw [List.drop_zero] at hm
      have hlen : ((ps.map (·.2)).reverse).length = qs.length := by rw [← hm, List.length_map]
      exact ⟨qs, A2, c2, ret_sl hlen.symm, hm, by rw [hlen]; exact HO.out, HQ.out, hb⟩
end Go.Proofs.Ytemllddgefahfaa
