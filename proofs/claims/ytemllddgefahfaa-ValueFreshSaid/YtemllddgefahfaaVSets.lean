import Derived.Test.YtemllddgefahfaaVHas
namespace Go.Proofs.Ytemllddgefahfaa
open Go.RowKit

theorem own_forms2 {w : World} {base : Nat} {e : TypeId} {size n : Nat} {A : Option Addr} {c : Nat} {xs : List Value} (h : w.ownsRow base e size (.slice A n c) n xs) : n ≤ c ∧ c ≤ 9223372036854775807 := by
  rcases h.2 with ⟨hv, hn⟩ | ⟨g, cap, cur, hv, _, _, hnc, hm, _⟩
  · injection hv with h1 h2 h3
    omega
  · injection hv with h1 h2 h3
    simp only [maxLen] at hm
    omega
/-- the rows that a law of relations looks at: the first of the given ones, and drawn ones -/
def LawRows (w : World) (g : Nat) (raw : List RowP) (v : Value) (w' : World) : Prop := ∃ (l : List RowP) (A : Option Addr) (c : Nat), v = .slice A l.length c ∧ l.length ≤ 14 ∧ RowsS w' A l.length l ∧ (A = none → l.length = 0 ∧ c = 0) ∧ (∀ ad, A = some ad → ad.spot = none) ∧ l.length ≤ c ∧ c ≤ 9223372036854775807 ∧ (∀ p ∈ l, p.1.2.1 ≤ 4398046511104) ∧ Below w.heap.size w w'
set_option maxRecDepth 100000 in
set_option maxHeartbeats 8000000 in
theorem sets_walk (A : Option Addr) (n c : Nat) (zs : List Int) (B : Option Addr) (m cb : Nat) (raw : List RowP) (pr : RowP) (w : World) (hs : Sl 1 u8c w A n zs) (hz : ∀ z ∈ zs, 0 ≤ z ∧ z ≤ 255) (hnil : A = none → n = 0 ∧ c = 0) (hsp : ∀ ad, A = some ad → ad.spot = none) (hnc : n ≤ c) (hcm : c ≤ 9223372036854775807)
    (hr : RowsS w B m raw) (hbn : B = none → m = 0 ∧ cb = 0) (hmc : m ≤ cb) (hcb : cb ≤ 9223372036854775807) (hsm : ∀ p ∈ raw, p.1.2.1 ≤ 4398046511104) (hpr : RowOk w pr) :
    Calls Try.prog 10 #[.slice A n c, .slice B m cb, .slice pr.1.1 pr.1.2.1 pr.1.2.2] w fun e w' => e = .returned (.bool true) ∧ Below w.heap.size w w' := by
  obtain ⟨i0, hi, hz0, hz1, hz2⟩ := info_parts info_row
  have HS := Lib.hid hs
  have HR := Lib.hid hr
  have HZ := Lib.hid hz
  have HN := Lib.hid hnil
  have HP := Lib.hid hsp
  have HBN := Lib.hid hbn
  have HSM := Lib.hid hsm
  have HPR := Lib.hid hpr
  clear hs hz hnil hsp hr hbn hsm hpr
  obtain ⟨⟨r1, r2, r3⟩, rr⟩ := pr
  dsimp only
  go_enter Try.func10, Try.ntmps10
  go_wp2_with fail
  refine (new_any A n c zs 90 _ HS.out HZ.out HN.out HP.out hnc hcm (by omega)).mono ?_
  rintro e w1 ⟨g, hwg, rfl, hc1, hb1⟩
  clear HS HZ HN HP
  have hgl := hc1.lt
  have key : ∃ M : Nat, M ≤ 8 ∧ M ≤ m ∧ min (m : Int) 8 = (M : Int) := ⟨min m 8, by omega, by omega, by omega⟩
  obtain ⟨M, hM8, hMm, hMe⟩ := key
  have HRM := Lib.hid ((HR.out.sl.keep (keeps_of hb1)).take M hMm)
  have HBM : Hid (B = none → M = 0 ∧ cb = 0) := Lib.hid (fun h => ⟨by have := (HBN.out h).1; omega, (HBN.out h).2⟩)
  go_wp2_with (at_builtin; refine wpList_append_sf (cs := rowc) w1 (by rfl) _ (.tmp 17) _ (by rfl) w1.heap.size 38 i0 _ 1 24 Try.underlying39 hi hz0 hz1 hz2 (by rfl) (by omega) (.slice none 0 0) 0 [] (by rfl) ⟨by simp, .inl ⟨rfl, rfl⟩⟩ B M cb (raw.take M) (by rfl) HRM.out HBM.out (fun _ => rfl) one_row (by simp only [maxLen]; omega) (by omega) (Nat.le_refl _) ?_; intro A3 c3 w3 hown3 hg3 hB3 hat3 hn3; simp only [Nat.zero_add, List.nil_append] at hown3)
  have hc3 := case_belowB hc1 hB3 hgl
  have hBw3 : Below w.heap.size w w3 := hb1.trans (hB3.mono hb1.size)
  clear HRM HBM hMe hg3 hat3 hn3 hc1
  refine (rows_any g _ hc3).mono ?_
  rintro e w4 ⟨qs, A4, c4, rfl, hq6, hown4, hqs, hc4, hb4⟩
  have hO4 := own_but hown3 hb4 hgl
  have hBw4 : Below w.heap.size w w4 := hb4.below hBw3 hBw3.size (fun k hk => by subst hk; exact hwg)
  have hsz4 : w1.heap.size ≤ w4.heap.size := Nat.le_trans hB3.size hb4.size
  have hf4 := own_forms hown4
  have HSL := Lib.hid (Sl.of_own (cs := rowc) (fun _ => rfl) rfl hown4)
  have HN4 := Lib.hid hf4.1
  have HQS := Lib.hid hqs
  clear hown3 hown4 hqs hc3 hc4 hf4
  go_wp2_with (at_builtin; refine wpList_append_sf (cs := rowc) w4 (by rfl) (.tmp 18) (.tmp 20) _ (by rfl) w1.heap.size 38 i0 _ 1 24 Try.underlying39 hi hz0 hz1 hz2 (by rfl) (by omega) (.slice A3 M c3) M (raw.take M) (by rfl) hO4 A4 qs.length c4 qs (by rfl) HSL.out HN4.out (fun _ => rfl) one_row (by simp only [maxLen]; omega) (by omega) hsz4 ?_; intro A5 c5 w5 hown5 hg5 hB5 hat5 hn5)
  have hBw5 : Below w.heap.size w w5 := hBw4.trans (hB5.mono hb1.size)
  have hll : (raw.take M ++ qs).length = M + qs.length := by rw [List.length_append, List.length_take, HR.out.sl.len]; omega
  have hf5 := own_forms hown5
  have hf6 := own_forms2 hown5
  have hRS : RowsS w5 A5 (M + qs.length) (raw.take M ++ qs) := by
    refine ⟨Sl.of_own (cs := rowc) (fun _ => rfl) hll hown5, fun p hp => ?_⟩
    rw [List.mem_append] at hp
    rcases hp with hp | hp
    · exact (HR.out.ok p (List.mem_of_mem_take hp)).keep (keeps_of hBw5)
    · exact ((HQS.out p hp).1.grown hO4 hg5).ok
  have hsml : ∀ p ∈ raw.take M ++ qs, p.1.2.1 ≤ 4398046511104 := by
    intro p hp
    rw [List.mem_append] at hp
    rcases hp with hp | hp
    · exact HSM.out p (List.mem_of_mem_take hp)
    · have := (HQS.out p hp).2; omega
  have hNle : M + qs.length ≤ 14 := by omega
  have HRS := Lib.hid hRS
  have HSML := Lib.hid hsml
  have HF5 := Lib.hid hf5
  replace HPR := Lib.hid (HPR.out.keep (keeps_of hBw5))
  clear hRS hsml hf5 hown5 hg5 hB5 hat5 hn5 hO4 HSL HN4 HQS HR HSM HBN hll hBw3 hBw4 hsz4 hB3 hb4 hb1 hq6
  generalize raw.take M ++ qs = l at *
  try rw [show ((M : Int) + (qs.length : Int)) = ((M + qs.length : Nat) : Int) by simp]
  generalize M + qs.length = N at *
  refine (setV_any A5 N c5 l _ HRS.out HF5.out.1 HF5.out.2.1 (by omega) HSML.out).mono ?_
  rintro e w6 hpost
  obtain ⟨ss, A6, c6, rfl, hss, hRS6, hb6⟩ := hpost.rows
  clear hpost
  have hRl : (setL (l.map (·.2))).length ≤ 14 := by
    have h1 := setL_len (l.map (·.2))
    have h2 := HRS.out.sl.len
    rw [List.length_map] at h1
    omega
  have HRS6 := Lib.hid hRS6
  have HSS := Lib.hid hss
  replace HRS := Lib.hid (HRS.out.keep (keeps_of hb6))
  replace HPR := Lib.hid (HPR.out.keep (keeps_of hb6))
  replace hBw5 := Below.next hBw5 hb6
  clear hRS6 hss hb6
  go_wp2_with fail
  refine (rset_any A5 N c5 l _ HRS.out HF5.out.1 HF5.out.2.1 hf6.1 hf6.2 (by omega) HSML.out).mono ?_
  rintro e w7 hpost
  rw [setR_eq] at hpost
  obtain ⟨ts, A7, c7, rfl, hts, hRS7, hb7⟩ := hpost.rows
  clear hpost
  have HRS7 := Lib.hid hRS7
  have HTS := Lib.hid hts
  replace HRS := Lib.hid (HRS.out.keep (keeps_of hb7))
  replace HRS6 := Lib.hid (HRS6.out.keep (keeps_of hb7))
  replace HPR := Lib.hid (HPR.out.keep (keeps_of hb7))
  replace hBw5 := Below.next hBw5 hb7
  clear hRS7 hts hb7
  go_wp2_with fail
  refine (rsame_any A6 A7 _ _ c6 c7 ss ts _ HRS6.out HRS7.out (by omega) (by omega)).mono ?_
  rintro e w8 ⟨rfl, hb⟩
  rw [show decide (ss.map (·.2) = ts.map (·.2)) = true from decide_eq_true (by rw [HSS.out, HTS.out])]
  replace HRS := Lib.hid (HRS.out.keep (keeps_of hb))
  replace HRS6 := Lib.hid (HRS6.out.keep (keeps_of hb))
  replace HPR := Lib.hid (HPR.out.keep (keeps_of hb))
  replace hBw5 := Below.next hBw5 hb
  clear hb HRS7 HTS
  go_wp2_with fail
  refine (vhas_any A5 N c5 l ((r1, r2, r3), rr) _ HRS.out HPR.out (by omega)).mono ?_
  rintro e w9 ⟨rfl, hb⟩
  obtain ⟨u, Hu⟩ : ∃ u, Hid (decide (rr ∈ l.map (·.2)) = u) := ⟨_, rfl⟩
  dsimp only
  rw [Hu.out]
  replace HRS := Lib.hid (HRS.out.keep (keeps_of hb))
  replace HRS6 := Lib.hid (HRS6.out.keep (keeps_of hb))
  replace HPR := Lib.hid (HPR.out.keep (keeps_of hb))
  replace hBw5 := Below.next hBw5 hb
  clear hb
  go_wp2_with fail
  refine (rvhas_any A5 N c5 l ((r1, r2, r3), rr) _ HRS.out HPR.out (by omega)).mono ?_
  rintro e wa ⟨rfl, hb⟩
  dsimp only
  rw [Hu.out]
  replace HRS := Lib.hid (HRS.out.keep (keeps_of hb))
  replace HRS6 := Lib.hid (HRS6.out.keep (keeps_of hb))
  replace HPR := Lib.hid (HPR.out.keep (keeps_of hb))
  replace hBw5 := Below.next hBw5 hb
  clear hb
  have huu : (u != u) = false := by simp
  have hu2 : (u == u) = true := by simp
  have HUS : Hid (decide (rr ∈ ss.map (·.2)) = u) := Lib.hid (by rw [HSS.out, ← Hu.out, decide_eq_decide]; exact setL_mem _ _)
  go_wp2_with fail
  go_loopw [40] (fun i wr => ∃ k : Nat, k ≤ N ∧ i = .int .i64 (k : Int) ∧ Below wa.heap.size wa wr) (fun i _ => N - (intOf i).toNat)
  case atStart => exact ⟨0, by omega, rfl, Below.refl _ _⟩
  case round =>
    obtain ⟨k, hk, rfl, hbk⟩ := hrel
    by_cases hlt : k < N
    · obtain ⟨b, o, p, hA, hcell, hpo, hpk⟩ := (HRS.out.keep (keeps_of hbk)).get2 hlt
      have HM : Hid (p.2 ∈ l.map (·.2)) := Lib.hid (List.mem_map.2 ⟨p, List.mem_of_getElem? hpk, rfl⟩)
      have HPo := Lib.hid hpo
      clear hpo hpk
      subst hA
      obtain ⟨⟨p1, p2, p3⟩, pr⟩ := p
      dsimp only at hcell HM
      go_wp2_with fail
      clear hcell
      refine (vhas_any A6 _ c6 ss ((p1, p2, p3), pr) _ (HRS6.out.keep (keeps_of hbk)) HPo.out (by omega)).mono ?_
      rintro e wb ⟨rfl, hb⟩
      dsimp only
      rw [show decide (pr ∈ ss.map (·.2)) = true from decide_eq_true (by rw [HSS.out]; exact (setL_mem _ _).2 HM.out)]
      replace HPo := Lib.hid (HPo.out.keep (keeps_of hb))
      replace hbk := Below.next hbk hb
      clear hb
      go_wp2_with fail
      refine (vhas_any (some ⟨b, o, none⟩) N c5 l ((p1, p2, p3), pr) _ (HRS.out.keep (keeps_of hbk)) HPo.out (by omega)).mono ?_
      rintro e wc ⟨rfl, hb⟩
      dsimp only
      rw [show decide (pr ∈ l.map (·.2)) = true from decide_eq_true HM.out]
      replace hbk := Below.next hbk hb
      clear hb
      go_wp2_with fail
      go_roundw
      case rel => exact ⟨k + 1, by omega, by go_num, hbk⟩
      case measure => simp [intOf]; omega
    · go_wp2_with fail
      refine (vbegun_any _).mono ?_
      rintro e wb ⟨rfl, hb⟩
      replace hbk := Below.next hbk hb
      clear hb
      go_wp2_with fail
      refine (vhas_any A6 _ c6 ss ((r1, r2, r3), rr) _ (HRS6.out.keep (keeps_of hbk)) (HPR.out.keep (keeps_of hbk)) (by omega)).mono ?_
      rintro e wc ⟨rfl, hb⟩
      dsimp only
      rw [HUS.out]
      replace hbk := Below.next hbk hb
      clear hb
      go_wp2_with fail
      refine (vhas_any A5 N c5 l ((r1, r2, r3), rr) _ (HRS.out.keep (keeps_of hbk)) (HPR.out.keep (keeps_of hbk)) (by omega)).mono ?_
      rintro e wd ⟨rfl, hb⟩
      dsimp only
      rw [Hu.out]
      go_wp2
      go_ret
      exact ⟨rfl, Below.next (Below.next hBw5 hbk) hb⟩
end Go.Proofs.Ytemllddgefahfaa
