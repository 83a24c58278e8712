import Derived.Test.YtemllddgefahfaaCells
namespace Go.Proofs.Ytemllddgefahfaa
open Go.RowKit

theorem rows_two {w : World} {g : Nat} {p q : RowP} (h : Blk w g 38 #[.slice p.1.1 p.1.2.1 p.1.2.2, .slice q.1.1 q.1.2.1 q.1.2.2]) : Sl 1 rowc w (some ⟨g, 0, none⟩) 2 [p, q] := by
  refine ⟨rfl, fun _ => ⟨g, 0, rfl, ?_⟩⟩
  intro k x hx j u hu
  rcases j with _ | j
  · simp [rowc] at hu
    subst hu
    rcases k with _ | _ | k <;> simp at hx
    all_goals (subst hx; exact h.cell _)
  · simp [rowc] at hu
theorem RowsS.get {w : World} {A : Option Addr} {n : Nat} {ps : List RowP} (h : RowsS w A n ps) {k : Nat} (hk : k < n) : ∃ (b o : Nat) (p : RowP), A = some ⟨b, o, none⟩ ∧ w.cell? ⟨b, o + k, none⟩ = some (.slice p.1.1 p.1.2.1 p.1.2.2) ∧ RowOk w p := by
  obtain ⟨b, o, p, hA, hp, hc⟩ := h.sl.at hk
  have := hc 0 _ rfl
  rw [Nat.mul_one, Nat.add_zero] at this
  exact ⟨b, o, p, hA, this, h.ok p (List.mem_of_getElem? hp)⟩
theorem RowOk.lenle {w : World} {p : RowP} (h : RowOk w p) : p.1.2.1 ≤ 9223372036854775807 := Nat.le_trans h.le h.mx
theorem comp_rows (p q : RowP) (w : World) (hp : RowOk w p) (hq : RowOk w q) : Calls Try.prog 25 #[.slice p.1.1 p.1.2.1 p.1.2.2, .slice q.1.1 q.1.2.1 q.1.2.2] w fun e w' => e = .returned (.int .i64 (cmpR p.2 q.2)) ∧ Below w.heap.size w w' :=
  (comprowsL_any p.1.1 q.1.1 p.1.2.1 q.1.2.1 p.1.2.2 q.1.2.2 p.2 q.2 w hp.rd hq.rd hp.lenle hq.lenle).mono fun _ _ ⟨he, hl⟩ => ⟨he, hl.bel⟩
theorem rcomp_rows (p q : RowP) (w : World) (hp : RowOk w p) (hq : RowOk w q) : Calls Try.prog 26 #[.slice p.1.1 p.1.2.1 p.1.2.2, .slice q.1.1 q.1.2.1 q.1.2.2] w fun e w' => e = .returned (.int .i64 (cmpR p.2 q.2)) ∧ Below w.heap.size w w' :=
  rcomprows_any p.1.1 q.1.1 p.1.2.1 q.1.2.1 p.1.2.2 q.1.2.2 p.2 q.2 w hp.rd hq.rd hp.lenle hq.lenle
set_option maxRecDepth 100000 in
set_option maxHeartbeats 8000000 in
theorem vrows_walk (A : Option Addr) (n c : Nat) (zs : List Int) (pa pb : RowP) (w : World) (hs : Sl 1 u8c w A n zs) (hz : ∀ z ∈ zs, 0 ≤ z ∧ z ≤ 255) (hnil : A = none → n = 0 ∧ c = 0) (hsp : ∀ ad, A = some ad → ad.spot = none) (hnc : n ≤ c) (hcm : c ≤ 9223372036854775807) (hpa : RowOk w pa) (hpb : RowOk w pb) :
    Calls Try.prog 7 #[.slice A n c, .slice pa.1.1 pa.1.2.1 pa.1.2.2, .slice pb.1.1 pb.1.2.1 pb.1.2.2] w fun e w' => e = .returned (.bool true) ∧ Below w.heap.size w w' := by
  obtain ⟨i0, hi, hz0, hz1, hz2⟩ := info_parts info_row
  have HPA := Lib.hid hpa
  have HPB := Lib.hid hpb
  have HS := Lib.hid hs
  have HZ := Lib.hid hz
  have HN := Lib.hid hnil
  have HP := Lib.hid hsp
  clear hs hz hnil hsp hpa hpb
  obtain ⟨⟨a1, a2, a3⟩, ar⟩ := pa
  obtain ⟨⟨b1, b2, b3⟩, br⟩ := pb
  dsimp only
  go_enter Try.func7, Try.ntmps7
  go_wp2_with fail
  refine (new_any A n c zs 90 _ HS.out HZ.out HN.out HP.out hnc hcm (by omega)).mono ?_
  rintro e w1 ⟨g, hwg, rfl, hc1, hb1⟩
  clear HS HZ HN HP
  go_wp2_with fail
  refine (rows_any g _ hc1).mono ?_
  rintro e w2 ⟨qs, A2, c2, rfl, hq6, hown, hqs, hc2, hb2⟩
  have hB2 : Below w.heap.size w w2 := hb2.below hb1 hb1.size (fun k hk => by subst hk; exact hwg)
  have HO := hown.alloc (.cells #[.slice a1 a2 a3, .slice b1 b2 b3] 38)
  have HSL := Lib.hid (rows_two (p := ((a1, a2, a3), ar)) (q := ((b1, b2, b3), br)) (Blk.new w2 38 #[.slice a1 a2 a3, .slice b1 b2 b3]))
  have hA2 := (Below.refl w2.heap.size w2).alloc (Nat.le_refl _) (.cells #[.slice a1 a2 a3, .slice b1 b2 b3] 38)
  have HQS := Lib.hid (fun q (hq : q ∈ qs) => (hqs q hq).1.below hA2)
  have hsz : w1.heap.size ≤ (w2.alloc (.cells #[.slice a1 a2 a3, .slice b1 b2 b3] 38)).heap.size := Nat.le_trans hb2.size (by simp)
  clear hown hqs hc1 hc2 hb2
  go_wp2_with (at_builtin; refine wpList_append_sf (cs := rowc) (w2.alloc (.cells #[.slice a1 a2 a3, .slice b1 b2 b3] 38)) (by rfl) (.tmp 19) (.tmp 22) _ (by rfl) w1.heap.size 38 i0 _ 1 24 Try.underlying39 hi hz0 hz1 hz2 (by rfl) (by omega) (.slice A2 qs.length c2) qs.length qs (by rfl) HO (some ⟨w2.heap.size, 0, none⟩) 2 2 [((a1, a2, a3), ar), ((b1, b2, b3), br)] (by rfl) HSL.out (fun h => by cases h) (fun _ => rfl) one_row (by simp only [maxLen]; omega) (by omega) hsz ?_; intro A3 c3 w3 hown3 hg3 hB3 hat3 hn3)
  have hB3' : Below w.heap.size w w3 := (Below.next hB2 hA2).trans (hB3.mono hb1.size)
  have hRS : RowsS w3 A3 (qs.length + 2) (qs ++ [((a1, a2, a3), ar), ((b1, b2, b3), br)]) := by
    refine ⟨Sl.of_own (cs := rowc) (fun _ => rfl) (by simp) hown3, fun p hp => ?_⟩
    rw [List.mem_append] at hp
    rcases hp with hp | hp
    · exact ((HQS.out p hp).grown HO hg3).ok
    · simp only [List.mem_cons, List.not_mem_nil, or_false] at hp
      rcases hp with rfl | rfl
      · exact HPA.out.keep (keeps_of hB3')
      · exact HPB.out.keep (keeps_of hB3')
  have HRS := Lib.hid hRS
  have hN : qs.length + 2 ≤ 8 := by omega
  clear hRS hown3 hg3 hB3 hat3 hn3 HO HSL HQS HPA HPB hA2 hB2 hb1 hsz hq6
  generalize qs ++ [((a1, a2, a3), ar), ((b1, b2, b3), br)] = l at *
  rw [show ((qs.length : Int) + 2) = ((qs.length + 2 : Nat) : Int) by simp]
  generalize qs.length + 2 = N at *
  go_loopw [26] (fun i wr => ∃ k : Nat, k ≤ N ∧ i = .int .i64 (k : Int) ∧ Below w3.heap.size w3 wr) (fun i _ => N - (intOf i).toNat)
  case atStart => exact ⟨0, by omega, rfl, Below.refl _ _⟩
  case round =>
    obtain ⟨k, hk, rfl, hbk⟩ := hrel
    by_cases hlt : k < N
    · obtain ⟨bb, oo, p, hAe, hcell, hpo⟩ := (HRS.out.keep (keeps_of hbk)).get hlt
      have HPo := Lib.hid hpo
      clear hpo
      subst hAe
      obtain ⟨⟨p1, p2, p3⟩, pr⟩ := p
      dsimp only at hcell
      go_wp2_with fail
      clear hcell
      generalize wr = W4 at *
      go_loopw [32] (fun i wq => ∃ j : Nat, j ≤ N ∧ i = .int .i64 (j : Int) ∧ Below W4.heap.size W4 wq) (fun i _ => N - (intOf i).toNat)
      case atStart => exact ⟨0, by omega, rfl, Below.refl _ _⟩
      case round =>
        obtain ⟨j, hj, rfl, hbj⟩ := hrel
        by_cases hlj : j < N
        · obtain ⟨bb', oo', q, hAe, hcell, hqo⟩ := (HRS.out.keep (keeps_of (Below.next hbk hbj))).get hlj
          injection hAe with hAe
          injection hAe with e1 e2
          subst e1 e2
          have HQo := Lib.hid hqo
          have HP5 := Lib.hid (HPo.out.keep (keeps_of hbj))
          clear hqo
          obtain ⟨⟨q1, q2, q3⟩, qr⟩ := q
          dsimp only at hcell
          go_wp2_with fail
          clear hcell
          refine (comp_rows ((p1, p2, p3), pr) ((q1, q2, q3), qr) _ HP5.out HQo.out).mono ?_
          rintro e w6 ⟨rfl, hb⟩
          dsimp only
          replace HP5 := Lib.hid (HP5.out.keep (keeps_of hb))
          replace HQo := Lib.hid (HQo.out.keep (keeps_of hb))
          replace hbj := Below.next hbj hb
          clear hb
          have HA := Lib.hid (cmpR_anti pr qr)
          rcases cmpR_range pr qr with hr | hr | hr
          · have HC := Lib.hid hr
            have HC2 : Hid (cmpR qr pr = 1) := Lib.hid (by have := HA.out; omega)
            rw [hr]
            clear hr HA
            go_wp2_with fail
            refine (rcomp_rows ((p1, p2, p3), pr) ((q1, q2, q3), qr) _ HP5.out HQo.out).mono ?_
            rintro e w7 ⟨rfl, hb⟩
            dsimp only
            rw [HC.out]
            replace HP5 := Lib.hid (HP5.out.keep (keeps_of hb))
            replace HQo := Lib.hid (HQo.out.keep (keeps_of hb))
            replace hbj := Below.next hbj hb
            clear hb
            go_wp2_with fail
            refine (comp_rows ((q1, q2, q3), qr) ((p1, p2, p3), pr) _ HQo.out HP5.out).mono ?_
            rintro e w8 ⟨rfl, hb⟩
            dsimp only
            rw [HC2.out]
            replace HP5 := Lib.hid (HP5.out.keep (keeps_of hb))
            replace HQo := Lib.hid (HQo.out.keep (keeps_of hb))
            replace hbj := Below.next hbj hb
            clear hb
            go_wp2_with fail
            go_loopw [54] (fun i wq => ∃ m : Nat, m ≤ N ∧ i = .int .i64 (m : Int) ∧ Below w8.heap.size w8 wq) (fun i _ => N - (intOf i).toNat)
            case atStart => exact ⟨0, by omega, rfl, Below.refl _ _⟩
            case round =>
              obtain ⟨m, hm, rfl, hbm⟩ := hrel
              by_cases hlm : m < N
              · obtain ⟨bb', oo', r, hAe, hcell, hro⟩ := (HRS.out.keep (keeps_of (Below.next (Below.next hbk hbj) hbm))).get hlm
                injection hAe with hAe
                injection hAe with e1 e2
                subst e1 e2
                have HRo := Lib.hid hro
                have HP9 := Lib.hid (HP5.out.keep (keeps_of hbm))
                have HQ9 := Lib.hid (HQo.out.keep (keeps_of hbm))
                clear hro
                obtain ⟨⟨r1, r2, r3⟩, rr⟩ := r
                dsimp only at hcell
                go_wp2_with fail
                clear hcell
                refine (comp_rows ((q1, q2, q3), qr) ((r1, r2, r3), rr) _ HQ9.out HRo.out).mono ?_
                rintro e w9 ⟨rfl, hb⟩
                dsimp only
                replace HP9 := Lib.hid (HP9.out.keep (keeps_of hb))
                replace HRo := Lib.hid (HRo.out.keep (keeps_of hb))
                replace hbm := Below.next hbm hb
                clear hb
                have HT : Hid (cmpR qr rr ≤ 0 → cmpR pr rr ≤ 0) := Lib.hid (fun h => cmpR_trans pr qr rr (by rw [HC.out]; omega) h)
                generalize cmpR qr rr = d at *
                by_cases hd : d ≤ 0
                · go_wp2_with fail
                  refine (comp_rows ((p1, p2, p3), pr) ((r1, r2, r3), rr) _ HP9.out HRo.out).mono ?_
                  rintro e w10 ⟨rfl, hb⟩
                  dsimp only
                  replace hbm := Below.next hbm hb
                  clear hb
                  have he := HT.out hd
                  clear HT
                  generalize cmpR pr rr = d2 at *
                  go_wp2_with fail
                  go_roundw
                  case rel => exact ⟨m + 1, by omega, by go_num, hbm⟩
                  case measure => simp [intOf]; omega
                · go_wp2_with fail
                  go_roundw
                  case rel => exact ⟨m + 1, by omega, by go_num, hbm⟩
                  case measure => simp [intOf]; omega
              · obtain rfl : m = N := by omega
                go_wp2_with fail
                go_roundw
                case rel => exact ⟨j + 1, by omega, by go_num, Below.next hbj hbm⟩
                case measure => simp [intOf]; omega
          · have HC := Lib.hid hr
            have HC2 : Hid (cmpR qr pr = 0) := Lib.hid (by have := HA.out; omega)
            rw [hr]
            clear hr HA
            go_wp2_with fail
            refine (rcomp_rows ((p1, p2, p3), pr) ((q1, q2, q3), qr) _ HP5.out HQo.out).mono ?_
            rintro e w7 ⟨rfl, hb⟩
            dsimp only
            rw [HC.out]
            replace HP5 := Lib.hid (HP5.out.keep (keeps_of hb))
            replace HQo := Lib.hid (HQo.out.keep (keeps_of hb))
            replace hbj := Below.next hbj hb
            clear hb
            go_wp2_with fail
            refine (comp_rows ((q1, q2, q3), qr) ((p1, p2, p3), pr) _ HQo.out HP5.out).mono ?_
            rintro e w8 ⟨rfl, hb⟩
            dsimp only
            rw [HC2.out]
            replace HP5 := Lib.hid (HP5.out.keep (keeps_of hb))
            replace HQo := Lib.hid (HQo.out.keep (keeps_of hb))
            replace hbj := Below.next hbj hb
            clear hb
            go_wp2_with fail
            go_loopw [54] (fun i wq => ∃ m : Nat, m ≤ N ∧ i = .int .i64 (m : Int) ∧ Below w8.heap.size w8 wq) (fun i _ => N - (intOf i).toNat)
            case atStart => exact ⟨0, by omega, rfl, Below.refl _ _⟩
            case round =>
              obtain ⟨m, hm, rfl, hbm⟩ := hrel
              by_cases hlm : m < N
              · obtain ⟨bb', oo', r, hAe, hcell, hro⟩ := (HRS.out.keep (keeps_of (Below.next (Below.next hbk hbj) hbm))).get hlm
                injection hAe with hAe
                injection hAe with e1 e2
                subst e1 e2
                have HRo := Lib.hid hro
                have HP9 := Lib.hid (HP5.out.keep (keeps_of hbm))
                have HQ9 := Lib.hid (HQo.out.keep (keeps_of hbm))
                clear hro
                obtain ⟨⟨r1, r2, r3⟩, rr⟩ := r
                dsimp only at hcell
                go_wp2_with fail
                clear hcell
                refine (comp_rows ((q1, q2, q3), qr) ((r1, r2, r3), rr) _ HQ9.out HRo.out).mono ?_
                rintro e w9 ⟨rfl, hb⟩
                dsimp only
                replace HP9 := Lib.hid (HP9.out.keep (keeps_of hb))
                replace HRo := Lib.hid (HRo.out.keep (keeps_of hb))
                replace hbm := Below.next hbm hb
                clear hb
                have HT : Hid (cmpR qr rr ≤ 0 → cmpR pr rr ≤ 0) := Lib.hid (fun h => cmpR_trans pr qr rr (by rw [HC.out]; omega) h)
                generalize cmpR qr rr = d at *
                by_cases hd : d ≤ 0
                · go_wp2_with fail
                  refine (comp_rows ((p1, p2, p3), pr) ((r1, r2, r3), rr) _ HP9.out HRo.out).mono ?_
                  rintro e w10 ⟨rfl, hb⟩
                  dsimp only
                  replace hbm := Below.next hbm hb
                  clear hb
                  have he := HT.out hd
                  clear HT
                  generalize cmpR pr rr = d2 at *
                  go_wp2_with fail
                  go_roundw
                  case rel => exact ⟨m + 1, by omega, by go_num, hbm⟩
                  case measure => simp [intOf]; omega
                · go_wp2_with fail
                  go_roundw
                  case rel => exact ⟨m + 1, by omega, by go_num, hbm⟩
                  case measure => simp [intOf]; omega
              · obtain rfl : m = N := by omega
                go_wp2_with fail
                go_roundw
                case rel => exact ⟨j + 1, by omega, by go_num, Below.next hbj hbm⟩
                case measure => simp [intOf]; omega
          · have HC := Lib.hid hr
            have HC2 : Hid (cmpR qr pr = -1) := Lib.hid (by have := HA.out; omega)
            rw [hr]
            clear hr HA
            go_wp2_with fail
            refine (rcomp_rows ((p1, p2, p3), pr) ((q1, q2, q3), qr) _ HP5.out HQo.out).mono ?_
            rintro e w7 ⟨rfl, hb⟩
            dsimp only
            rw [HC.out]
            replace HP5 := Lib.hid (HP5.out.keep (keeps_of hb))
            replace HQo := Lib.hid (HQo.out.keep (keeps_of hb))
            replace hbj := Below.next hbj hb
            clear hb
            go_wp2_with fail
            refine (comp_rows ((q1, q2, q3), qr) ((p1, p2, p3), pr) _ HQo.out HP5.out).mono ?_
            rintro e w8 ⟨rfl, hb⟩
            dsimp only
            rw [HC2.out]
            replace HP5 := Lib.hid (HP5.out.keep (keeps_of hb))
            replace HQo := Lib.hid (HQo.out.keep (keeps_of hb))
            replace hbj := Below.next hbj hb
            clear hb
            go_wp2_with fail
            go_loopw [54] (fun i wq => ∃ m : Nat, m ≤ N ∧ i = .int .i64 (m : Int) ∧ Below w8.heap.size w8 wq) (fun i _ => N - (intOf i).toNat)
            case atStart => exact ⟨0, by omega, rfl, Below.refl _ _⟩
            case round =>
              obtain ⟨m, hm, rfl, hbm⟩ := hrel
              by_cases hlm : m < N
              · obtain ⟨bb', oo', r, hAe, hcell, hro⟩ := (HRS.out.keep (keeps_of (Below.next (Below.next hbk hbj) hbm))).get hlm
                injection hAe with hAe
                injection hAe with e1 e2
                subst e1 e2
                have HRo := Lib.hid hro
                have HP9 := Lib.hid (HP5.out.keep (keeps_of hbm))
                have HQ9 := Lib.hid (HQo.out.keep (keeps_of hbm))
                clear hro
                obtain ⟨⟨r1, r2, r3⟩, rr⟩ := r
                dsimp only at hcell
                go_wp2_with fail
                go_roundw
                case rel => exact ⟨m + 1, by omega, by go_num, hbm⟩
                case measure => simp [intOf]; omega
              · obtain rfl : m = N := by omega
                go_wp2_with fail
                go_roundw
                case rel => exact ⟨j + 1, by omega, by go_num, Below.next hbj hbm⟩
                case measure => simp [intOf]; omega
        · obtain rfl : j = N := by omega
          go_wp2_with fail
          go_roundw
          case rel => exact ⟨k + 1, by omega, by go_num, Below.next hbk hbj⟩
          case measure => simp [intOf]; omega
    · go_wp2_with fail
      refine (vbegun_any _).mono ?_
      rintro e w4 ⟨rfl, hb4⟩
      go_wp2
      go_ret
      exact ⟨rfl, Below.next (Below.next hB3' hbk) hb4⟩
end Go.Proofs.Ytemllddgefahfaa
