import Derived.Test.YtemllddgefahfaaCopies
namespace Go.Proofs.Ytemllddgefahfaa
open Go.RowKit

theorem SetPost.rows2 {w w' : World} {R : List (List Vl)} {e : Ending} (h : SetPost w R e w') : ∃ (qs : List RowP) (A' : Option Addr) (c' : Nat), e = .returned (.slice A' R.length c') ∧ qs.map (·.2) = R ∧ RowsS w' A' R.length qs ∧ Below w.heap.size w w' ∧ (A' = none → R.length = 0 ∧ c' = 0) ∧ (∀ ad, A' = some ad → ad.spot = none) := by
  obtain ⟨qs, A', c', h1, h2, h3, h4, h5⟩ := h
  have hf := own_forms h3
  exact ⟨qs, A', c', h1, h2, ⟨Sl.of_own (cs := rowc) (fun _ => rfl) (by rw [← h2]; simp) h3, fun q hq => (h4 q hq).ok⟩, h5, hf.1, hf.2.1⟩
theorem rows_small {w : World} {A : Option Addr} {n : Nat} {l : List RowP} (h : RowsS w A n l) (hs : ∀ p ∈ l, p.1.2.1 ≤ 4398046511104) : ∀ r ∈ l.map (·.2), r.length ≤ 4398046511104 := by
  intro r hr
  rw [List.mem_map] at hr
  obtain ⟨p, hp, rfl⟩ := hr
  rw [(h.ok p hp).rd.len]
  exact hs p hp
theorem small_rows {w : World} {A : Option Addr} {n : Nat} {l : List RowP} (h : RowsS w A n l) (hs : ∀ r ∈ l.map (·.2), r.length ≤ 4398046511104) : ∀ p ∈ l, p.1.2.1 ≤ 4398046511104 := by
  intro p hp
  rw [← (h.ok p hp).rd.len]
  exact hs p.2 (List.mem_map.2 ⟨p, hp, rfl⟩)
theorem setL_same {a b : List (List Vl)} (h : ∀ r, r ∈ a ↔ r ∈ b) : setL a = setL b := ascR_ext _ _ (setL_asc a) (setL_asc b) (fun r => by rw [setL_mem, setL_mem]; exact h r)
set_option maxRecDepth 100000 in
set_option maxHeartbeats 8000000 in
theorem orders_walk (A : Option Addr) (n c : Nat) (zs : List Int) (B : Option Addr) (m cb : Nat) (raw : List RowP) (w : World) (hs : Sl 1 u8c w A n zs) (hz : ∀ z ∈ zs, 0 ≤ z ∧ z ≤ 255) (hnil : A = none → n = 0 ∧ c = 0) (hsp : ∀ ad, A = some ad → ad.spot = none) (hnc : n ≤ c) (hcm : c ≤ 9223372036854775807)
    (hr : RowsS w B m raw) (hbn : B = none → m = 0 ∧ cb = 0) (hmc : m ≤ cb) (hcb : cb ≤ 9223372036854775807) (hsm : ∀ p ∈ raw, p.1.2.1 ≤ 4398046511104) :
    Calls Try.prog 8 #[.slice A n c, .slice B m cb] w fun e w' => e = .returned (.bool true) ∧ Below w.heap.size w w' := by
  obtain ⟨i0, hi, hz0, hz1, hz2⟩ := info_parts info_row
  have HS := Lib.hid hs
  have HR := Lib.hid hr
  have HZ := Lib.hid hz
  have HN := Lib.hid hnil
  have HP := Lib.hid hsp
  have HBN := Lib.hid hbn
  have HSM := Lib.hid hsm
  clear hs hz hnil hsp hr hbn hsm
  go_enter Try.func8, Try.ntmps8
  go_wp2_with fail
  refine (new_any A n c zs 90 _ HS.out HZ.out HN.out HP.out hnc hcm (by omega)).mono ?_
  rintro e w1 ⟨g, hwg, rfl, hc1, hb1⟩
  clear HS HZ HN HP
  have hgl := hc1.lt
  have key : ∃ M : Nat, M ≤ 8 ∧ M ≤ m ∧ min (m : Int) 8 = (M : Int) := ⟨min m 8, by omega, by omega, by omega⟩
  obtain ⟨M, hM8, hMm, hMe⟩ := key
  have HRM := Lib.hid ((HR.out.sl.keep (keeps_of hb1)).take M hMm)
  have HBM : Hid (B = none → M = 0 ∧ cb = 0) := Lib.hid (fun h => ⟨by have := (HBN.out h).1; omega, (HBN.out h).2⟩)
  go_wp2_with (at_builtin; refine wpList_append_sf (cs := rowc) w1 (by rfl) _ (.tmp 14) _ (by rfl) w1.heap.size 38 i0 _ 1 24 Try.underlying39 hi hz0 hz1 hz2 (by rfl) (by omega) (.slice none 0 0) 0 [] (by rfl) ⟨by simp, .inl ⟨rfl, rfl⟩⟩ B M cb (raw.take M) (by rfl) HRM.out HBM.out (fun _ => rfl) one_row (by simp only [maxLen]; omega) (by omega) (Nat.le_refl _) ?_; intro A3 c3 w3 hown3 hg3 hB3 hat3 hn3; simp only [Nat.zero_add, List.nil_append] at hown3)
  have hc3 := case_belowB hc1 hB3 hgl
  have hBw3 : Below w.heap.size w w3 := hb1.trans (hB3.mono hb1.size)
  clear HRM HBM hMe hg3 hat3 hn3 hc1
  refine (rows_any g _ hc3).mono ?_
  rintro e w4 ⟨qs, A4, c4, rfl, hq6, hown4, hqs, hc4, hb4⟩
  have hO4 := own_but hown3 hb4 hgl
  have hBw4 : Below w.heap.size w w4 := hb4.below hBw3 hBw3.size (fun k hk => by subst hk; exact hwg)
  have hsz4 : w1.heap.size ≤ w4.heap.size := Nat.le_trans hB3.size hb4.size
  have hf4 := own_forms hown4
  have HSL := Lib.hid (Sl.of_own (cs := rowc) (fun _ => rfl) rfl hown4)
  have HN4 := Lib.hid hf4.1
  have HQS := Lib.hid hqs
  clear hown3 hown4 hqs hc3 hc4 hf4
  go_wp2_with (at_builtin; refine wpList_append_sf (cs := rowc) w4 (by rfl) (.tmp 15) (.tmp 17) _ (by rfl) w1.heap.size 38 i0 _ 1 24 Try.underlying39 hi hz0 hz1 hz2 (by rfl) (by omega) (.slice A3 M c3) M (raw.take M) (by rfl) hO4 A4 qs.length c4 qs (by rfl) HSL.out HN4.out (fun _ => rfl) one_row (by simp only [maxLen]; omega) (by omega) hsz4 ?_; intro A5 c5 w5 hown5 hg5 hB5 hat5 hn5)
  have hBw5 : Below w.heap.size w w5 := hBw4.trans (hB5.mono hb1.size)
  have hll : (raw.take M ++ qs).length = M + qs.length := by rw [List.length_append, List.length_take, HR.out.sl.len]; omega
  have hf5 := own_forms hown5
  have hf6 := own_forms2 hown5
  have hRS : RowsS w5 A5 (M + qs.length) (raw.take M ++ qs) := by
    refine ⟨Sl.of_own (cs := rowc) (fun _ => rfl) hll hown5, fun p hp => ?_⟩
    rw [List.mem_append] at hp
    rcases hp with hp | hp
    · exact (HR.out.ok p (List.mem_of_mem_take hp)).keep (keeps_of hBw5)
    · exact ((HQS.out p hp).1.grown hO4 hg5).ok
  have hsml : ∀ p ∈ raw.take M ++ qs, p.1.2.1 ≤ 4398046511104 := by
    intro p hp
    rw [List.mem_append] at hp
    rcases hp with hp | hp
    · exact HSM.out p (List.mem_of_mem_take hp)
    · have := (HQS.out p hp).2; omega
  have hNle : M + qs.length ≤ 14 := by omega
  have HRS := Lib.hid hRS
  have HSML := Lib.hid hsml
  have HF5 := Lib.hid hf5
  clear hRS hsml hf5 hown5 hg5 hB5 hat5 hn5 hO4 HSL HN4 HQS HR HSM HBN hll hBw3 hBw4 hsz4 hB3 hb4 hb1 hq6
  generalize raw.take M ++ qs = l at *
  try rw [show ((M : Int) + (qs.length : Int)) = ((M + qs.length : Nat) : Int) by simp]
  generalize M + qs.length = N at *
  have HLN : Hid (∀ r ∈ l.map (·.2), r.length ≤ 4398046511104) := Lib.hid (rows_small HRS.out HSML.out)
  refine (setV_any A5 N c5 l _ HRS.out HF5.out.1 HF5.out.2.1 (by omega) HSML.out).mono ?_
  rintro e w6 hpost
  obtain ⟨ss, A6, c6, rfl, hss, hRS6, hb6, hn6, hp6⟩ := SetPost.rows2 hpost
  clear hpost
  have hRl : (setL (l.map (·.2))).length ≤ 14 := by
    have h1 := setL_len (l.map (·.2))
    have h2 := HRS.out.sl.len
    rw [List.length_map] at h1
    omega
  have HRS6 := Lib.hid hRS6
  have HSS := Lib.hid hss
  have HN6 := Lib.hid hn6
  have HP6 := Lib.hid hp6
  have HSM6 : Hid (∀ p ∈ ss, p.1.2.1 ≤ 4398046511104) := Lib.hid (small_rows hRS6 (fun r hr => HLN.out r (setL_sub _ r (by rw [← hss]; exact hr))))
  replace HRS := Lib.hid (HRS.out.keep (keeps_of hb6))
  replace hBw5 := Below.next hBw5 hb6
  clear hRS6 hss hb6 hn6 hp6
  go_wp2_with fail
  refine (copies_any A5 N c5 l _ HRS.out (by omega) HSML.out).mono ?_
  rintro e w7 ⟨qc, A7, c7, rfl, hqc, hown7, hoq7, hb7⟩
  have hbs7 := hBw5.size
  have HRS0 := HRS
  have HRS60 := HRS6
  have hBw50 := hBw5
  replace HRS := Lib.hid (HRS.out.keep (keeps_of hb7))
  replace HRS6 := Lib.hid (HRS6.out.keep (keeps_of hb7))
  replace hBw5 := Below.next hBw5 hb7
  have hlen7 : (l.map (·.2)).reverse.length = N := by rw [List.length_reverse, List.length_map, HRS.out.sl.len]
  rw [hlen7] at hown7 ⊢
  have HQC := Lib.hid hqc
  have HOQ := Lib.hid hoq7
  have HBS := Lib.hid hb7
  clear hqc hoq7 hlen7
  have hsz7 : w6.heap.size ≤ w7.heap.size := hb7.size
  go_wp2_with (at_builtin; refine wpList_append_sf (cs := rowc) w7 (by rfl) (.tmp 22) (.tmp 23) _ (by rfl) w6.heap.size 38 i0 _ 1 24 Try.underlying39 hi hz0 hz1 hz2 (by rfl) (by omega) (.slice A7 N c7) N qc (by rfl) hown7 A5 N c5 l (by rfl) HRS.out.sl HF5.out.1 (fun _ => rfl) one_row (by simp only [maxLen]; omega) (by omega) hsz7 ?_; intro A8 c8 w8 hown8 hg8 hB8 hat8 hn8)
  have hqlen : qc.length = N := by
    have := congrArg List.length HQC.out
    rw [List.length_map, List.length_reverse, List.length_map, HRS.out.sl.len] at this
    exact this
  have hf8 := own_forms hown8
  have hB8' : Below w6.heap.size w6 w8 := hb7.trans hB8
  have hRS8 : RowsS w8 A8 (N + N) (qc ++ l) := by
    refine ⟨Sl.of_own (cs := rowc) (fun _ => rfl) (by rw [List.length_append, hqlen, HRS.out.sl.len]) hown8, fun p hp => ?_⟩
    rw [List.mem_append] at hp
    rcases hp with hp | hp
    · exact ((HOQ.out p hp).grown hown7 hg8).ok
    · exact (HRS0.out.ok p hp).keep (keeps_of hB8')
  replace HRS6 := Lib.hid (HRS60.out.keep (keeps_of hB8'))
  replace hBw5 := Below.next hBw50 hB8'
  have HRS8 := Lib.hid hRS8
  have HF8 := Lib.hid hf8
  have HM8 : Hid ((qc ++ l).map (·.2) = (l.map (·.2)).reverse ++ l.map (·.2)) := Lib.hid (by rw [List.map_append, HQC.out])
  have HSM8 : Hid (∀ p ∈ qc ++ l, p.1.2.1 ≤ 4398046511104) := Lib.hid (small_rows hRS8 (fun r hr => HLN.out r (by rw [HM8.out, List.mem_append, List.mem_reverse] at hr; exact hr.elim id id)))
  have HE8 : Hid (setL ((qc ++ l).map (·.2)) = setL (l.map (·.2))) := Lib.hid (setL_same (fun r => by rw [HM8.out, List.mem_append, List.mem_reverse]; exact or_self_iff))
  clear hRS8 hf8 hown8 hg8 hB8 hat8 hn8 HQC HOQ HRS HRS0 HRS60 hBw50 hB8' hown7 hsz7 hqlen HM8 HBS hb7 hbs7
  generalize qc ++ l = tw at *
  try rw [show ((N : Int) + (N : Int)) = ((N + N : Nat) : Int) by simp]
  obtain ⟨N2, hN2⟩ : ∃ N2, N + N = N2 := ⟨_, rfl⟩
  rw [hN2] at HRS8 HF8 ⊢
  go_wp2_with fail
  refine (vbegun_any _).mono ?_
  rintro e w9 ⟨rfl, hb⟩
  replace HRS8 := Lib.hid (HRS8.out.keep (keeps_of hb))
  replace HRS6 := Lib.hid (HRS6.out.keep (keeps_of hb))
  replace hBw5 := Below.next hBw5 hb
  clear hb
  go_wp2_with fail
  refine (setV_any A8 N2 c8 tw _ HRS8.out HF8.out.1 HF8.out.2.1 (by omega) HSM8.out).mono ?_
  rintro e wa hpost
  rw [HE8.out] at hpost
  obtain ⟨ts, Aa, ca, rfl, hts, hRSa, hb⟩ := hpost.rows
  clear hpost HRS8 HF8 HSM8 HE8
  have HRSa := Lib.hid hRSa
  have HTS := Lib.hid hts
  replace HRS6 := Lib.hid (HRS6.out.keep (keeps_of hb))
  replace hBw5 := Below.next hBw5 hb
  clear hb hRSa hts
  go_wp2_with fail
  refine (rsame_any Aa A6 _ _ ca c6 ts ss _ HRSa.out HRS6.out (by omega) (by omega)).mono ?_
  rintro e wb ⟨rfl, hb⟩
  rw [show decide (ts.map (·.2) = ss.map (·.2)) = true from decide_eq_true (by rw [HSS.out, HTS.out])]
  replace HRS6 := Lib.hid (HRS6.out.keep (keeps_of hb))
  replace hBw5 := Below.next hBw5 hb
  clear hb HRSa HTS
  go_wp2_with fail
  refine (copies_any A6 _ c6 ss _ HRS6.out (by omega) HSM6.out).mono ?_
  rintro e wc hcp
  obtain ⟨qs2, Ac, cc, rfl, hqs2, hRSc, hb, hnc, hpc⟩ := SetPost.rows2 (show SetPost _ _ _ _ from hcp)
  clear hcp
  have HRSc := Lib.hid hRSc
  have HQS2 := Lib.hid hqs2
  have HNc := Lib.hid hnc
  have HPc := Lib.hid hpc
  have HRE : Hid (∀ r, r ∈ qs2.map (·.2) ↔ r ∈ ss.map (·.2)) := Lib.hid (fun r => by rw [hqs2, List.mem_reverse])
  have HSMc : Hid (∀ p ∈ qs2, p.1.2.1 ≤ 4398046511104) := Lib.hid (small_rows hRSc (fun r hr => HLN.out r (setL_sub _ r (by rw [← HSS.out]; exact (HRE.out r).1 hr))))
  have hlc : (ss.map (·.2)).reverse.length ≤ 14 := by rw [List.length_reverse, HSS.out]; exact hRl
  generalize (ss.map (·.2)).reverse.length = nc at *
  replace HRS6 := Lib.hid (HRS6.out.keep (keeps_of hb))
  replace hBw5 := Below.next hBw5 hb
  clear hb hRSc hqs2 hnc hpc HQS2
  go_wp2_with fail
  refine (setV_any Ac nc cc qs2 _ HRSc.out HNc.out HPc.out (by omega) HSMc.out).mono ?_
  rintro e wd hpost
  rw [setL_same HRE.out] at hpost
  rw [HSS.out, setL_own (setL_asc _)] at hpost
  obtain ⟨ts, Aa, ca, rfl, hts, hRSa, hb⟩ := hpost.rows
  clear hpost HRSc HNc HPc HSMc HRE
  have HRSa := Lib.hid hRSa
  have HTS := Lib.hid hts
  replace HRS6 := Lib.hid (HRS6.out.keep (keeps_of hb))
  replace hBw5 := Below.next hBw5 hb
  clear hb hRSa hts
  go_wp2_with fail
  refine (rsame_any Aa A6 _ _ ca c6 ts ss _ HRSa.out HRS6.out (by omega) (by omega)).mono ?_
  rintro e we ⟨rfl, hb⟩
  rw [show decide (ts.map (·.2) = ss.map (·.2)) = true from decide_eq_true (by rw [HSS.out, HTS.out])]
  replace HRS6 := Lib.hid (HRS6.out.keep (keeps_of hb))
  replace hBw5 := Below.next hBw5 hb
  clear hb HRSa HTS
  go_wp2_with fail
  refine (setV_any A6 _ c6 ss _ HRS6.out HN6.out HP6.out (by omega) HSM6.out).mono ?_
  rintro e wf hpost
  rw [HSS.out, setL_own (setL_asc _)] at hpost
  obtain ⟨ts, Aa, ca, rfl, hts, hRSa, hb⟩ := hpost.rows
  clear hpost
  have HRSa := Lib.hid hRSa
  have HTS := Lib.hid hts
  replace HRS6 := Lib.hid (HRS6.out.keep (keeps_of hb))
  replace hBw5 := Below.next hBw5 hb
  clear hb hRSa hts
  go_wp2_with fail
  refine (rsame_any Aa A6 _ _ ca c6 ts ss _ HRSa.out HRS6.out (by omega) (by omega)).mono ?_
  rintro e wg ⟨rfl, hb⟩
  rw [show decide (ts.map (·.2) = ss.map (·.2)) = true from decide_eq_true (by rw [HSS.out, HTS.out])]
  go_wp2
  go_ret
  exact ⟨rfl, Below.next hBw5 hb⟩
end Go.Proofs.Ytemllddgefahfaa
