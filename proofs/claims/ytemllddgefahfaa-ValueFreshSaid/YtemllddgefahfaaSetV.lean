/-
  value.Set: the rows sorted, each once.
-/
import Derived.Test.YtemllddgefahfaaSortV
import Derived.Test.YtemllddgefahfaaSetR
namespace Go.Proofs.Ytemllddgefahfaa
open Go.RowKit Go.Shelf

theorem clone_any (A : Option Addr) (n c : Nat) (ps : List RowP) (w : World) (hs : Sl 1 rowc w A n ps) (hnil : A = none → n = 0 ∧ c = 0) (hsp : ∀ ad, A = some ad → ad.spot = none) (hn : n ≤ 1000000) :
    Calls Try.prog 42 #[.slice A n c] w fun e w' => ∃ (A1 : Option Addr) (c1 : Nat), e = .returned (.slice A1 n c1) ∧ w'.ownsRow w.heap.size 38 1 (.slice A1 n c1) n (ps.flatMap rowc) ∧ Below w.heap.size w w' := by
  obtain ⟨i0, hi, hz0, hz1, hz2⟩ := info_parts info_row
  have hlen := hs.len
  cases A with
  | none =>
    obtain ⟨rfl, rfl⟩ := hnil rfl
    obtain rfl : ps = [] := List.eq_nil_of_length_eq_zero hlen
    have hcon := AnyE.slices_Clone_nil Try.cloneL 0 0 w
    change Calls Try.prog 42 _ _ _ at hcon
    exact hcon.mono fun e w' ⟨he, hw⟩ => ⟨none, 0, he, ⟨by simp, .inl ⟨rfl, rfl⟩⟩, by rw [hw]; exact Below.refl _ _⟩
  | some ad =>
    obtain ⟨b, o, sp⟩ := ad
    obtain rfl : sp = none := hsp _ rfl
    have hc : ∀ j u, (ps.flatMap rowc)[j]? = some u → w.cell? ⟨b, o + j, none⟩ = some u := by
      intro j u hu
      obtain ⟨x, hx, hxu⟩ := flat_get (sz := 1) (cs := rowc) (fun _ => rfl) (by omega) ps j u hu
      have hjn : 0 < n := by have := (List.getElem?_eq_some_iff.1 hx).1; omega
      obtain ⟨b', o', hA, hcc⟩ := hs.2 hjn
      injection hA with hA
      injection hA with e1 e2
      subst e1 e2
      have := hcc _ x hx _ u hxu
      simpa [Nat.mod_one] using this
    have hcon := AnyE.slices_Clone Try.cloneL i0 (.slice none 0 0) 1 24 hi hz0 hz1 hz2 (by rfl) (by omega) Try.sizeOf38 b o n c (ps.flatMap rowc) w (by rw [flat_len (sz := 1) (fun _ => rfl), hlen]) (by simp only [maxLen]; omega) (by omega) hc (fun u hu => by
      rw [List.mem_flatMap] at hu
      obtain ⟨p, _, hu⟩ := hu
      exact one_row p u hu)
    change Calls Try.prog 42 _ _ _ at hcon
    refine hcon.mono fun e w' ⟨v', he, ho, hne, hb⟩ => ?_
    change w'.ownsRow w.heap.size 38 1 v' n _ at ho
    rcases ho.2 with ⟨hv, hn0⟩ | ⟨g, cap, cur, hv, _⟩
    · exact absurd hv hne
    · rw [hv] at ho he
      exact ⟨_, _, he, ho, hb⟩
theorem sort0_any (p : Option Addr) (cap : Nat) (w : World) :
    Calls Try.prog 43 #[.slice p 0 cap, .func (.func 25) #[] #[]] w fun e w' => e = .returned (.tuple #[]) ∧ w' = w := by
  have hcon := AnyF.slices_SortFunc_none Try.sortZ p cap (.func (.func 25) #[] #[]) w
  exact hcon
/-- what a sort leaves of a row of the call's own -/
def Sorted2 (w0 w : World) (A : Option Addr) (n : Nat) (ps : List RowP) (w' : World) : Prop := ∃ qs : List RowP, qs.Perm ps ∧ upR (qs.map (·.2)) ∧ RowsS w' A n qs ∧ Below w0.heap.size w0 w'
theorem sortany2 (A : Option Addr) (n c : Nat) (ps : List RowP) (w0 w : World) (hown : w.ownsRow w0.heap.size 38 1 (.slice A n c) n (ps.flatMap rowc)) (hlen : ps.length = n) (hok : ∀ p ∈ ps, RowOk w0 p) (hb : Below w0.heap.size w0 w) (hn : n ≤ 1000000) :
    Calls Try.prog 43 #[.slice A n c, .func (.func 25) #[] #[]] w fun e w' => e = .returned (.tuple #[]) ∧ Sorted2 w0 w A n ps w' := by
  rcases Nat.eq_zero_or_pos n with h0 | h0
  · subst h0
    obtain rfl : ps = [] := List.eq_nil_of_length_eq_zero hlen
    exact (sort0_any A c w).mono fun e w' ⟨he, hw⟩ => ⟨he, [], List.Perm.refl _, List.Pairwise.nil, ⟨Sl.nil, fun p hp => by cases hp⟩, by rw [hw]; exact hb⟩
  · obtain ⟨g, cap, hv, hgb, hgl⟩ := hown.form h0
    obtain ⟨rfl, rfl⟩ : A = some ⟨g, 0, none⟩ ∧ c = cap := by injection hv with h1 h2 h3; exact ⟨h1, h3⟩
    have hfar : ∀ p ∈ ps, RowFar w g p := fun p hp => ⟨(hok p hp).keep (keeps_of hb), fun hpn b o e => by
      have := (hok p hp).rd.lt Vl.cs_len (by omega) hpn b o e
      omega⟩
    refine (sort_any g 0 c n ps w h0 (Sl.of_own (cs := rowc) (fun _ => rfl) hlen hown) (fun j => hown.frozenAt j) hfar hgl hn).mono fun e w' ⟨he, qs, h1, h2, h3, h4⟩ => ⟨he, qs, h1, h2, h3, ?_⟩
    exact h4.below hb hb.size (fun k hk => by subst hk; exact hgb)
theorem dedup_setL {qs ps : List RowP} (h1 : qs.Perm ps) (h2 : upR (qs.map (·.2))) : dedup [] (qs.map (·.2)) = setL (ps.map (·.2)) := by
  have hd := dedup_asc (qs.map (·.2)) [] List.Pairwise.nil h2 (fun x h => by cases h)
  refine ascR_ext _ _ hd.1 (setL_asc _) fun r => ?_
  rw [setL_mem]
  have hm : r ∈ qs.map (·.2) ↔ r ∈ ps.map (·.2) := (h1.map (·.2)).mem_iff
  constructor
  · intro h
    rcases dedup_sub _ _ r h with h | h
    · cases h
    · exact hm.1 h
  · intro h
    exact hd.2 r (.inr (hm.2 h))
theorem own_empty (w : World) {e : TypeId} {size base : Nat} (hb : base ≤ w.heap.size) : (w.alloc (.cells #[] e)).ownsRow base e size (.slice (some ⟨w.heap.size, 0, none⟩) 0 0) 0 [] :=
  ⟨by simp, .inr ⟨w.heap.size, 0, #[], rfl, hb, heap_alloc_new w _, Nat.le_refl _, by simp [maxLen], by simp, by simp⟩⟩
/-- where the walk over the sorted rows stands -/
structure VState (w0 : World) (R : List (List Vl)) (sp : List RowP) (k : Nat) (qs : List RowP) (Ao : Option Addr) (no co : Nat) (w1 wr : World) : Prop where
  own : wr.ownsRow w1.heap.size 38 1 (.slice Ao no co) no (qs.flatMap rowc)
  len : qs.length = no
  kle : no ≤ k
  rows : ∀ q ∈ qs, OwnRow wr w1.heap.size q
  run : dedup (qs.map (·.2)) ((sp.drop k).map (·.2)) = R
  last : 0 < k → (qs.map (·.2)).getLast? = (sp[k - 1]?).map (·.2)
  bel : Below w1.heap.size w1 wr
def VRel (w0 : World) (R : List (List Vl)) (sp : List RowP) (n : Nat) (w1 : World) (x i : Value) (wr : World) : Prop :=
  ∃ (k : Nat) (qs : List RowP) (Ao : Option Addr) (no co : Nat), k ≤ n ∧ i = .int .i64 (k : Int) ∧ x = .slice Ao no co ∧ VState w0 R sp k qs Ao no co w1 wr
set_option maxRecDepth 100000 in
set_option maxHeartbeats 4000000 in
theorem setV_any (A : Option Addr) (n c : Nat) (ps : List RowP) (w : World) (hs : RowsS w A n ps) (hnil : A = none → n = 0 ∧ c = 0) (hsp : ∀ ad, A = some ad → ad.spot = none) (hn : n ≤ 1000000) (hsm : ∀ p ∈ ps, p.1.2.1 ≤ 4398046511104) :
    Calls Try.prog 27 #[.slice A n c] w fun e w' => SetPost w (setL (ps.map (·.2))) e w' := by
  obtain ⟨i0, hi, hz0, hz1, hz2⟩ := info_parts info_row
  obtain ⟨j0, hj, hy0, hy1, hy2⟩ := info_parts info_vl
  have HS := Lib.hid hs
  have HN := Lib.hid hnil
  have HP := Lib.hid hsp
  have Hln := Lib.hid hs.sl.len
  have Hsm := Lib.hid hsm
  clear hs hnil hsp hsm
  generalize hR : setL (ps.map (·.2)) = R
  have HR := Lib.hid hR
  clear hR
  go_enter Try.func27, Try.ntmps27
  go_wp2_with fail
  refine (clone_any A n c ps _ HS.out.sl HN.out HP.out hn).mono ?_
  rintro e w1 ⟨A1, c1, rfl, hown1, hb1⟩
  have HO1 := Lib.hid hown1
  clear hown1
  go_wp2_with fail
  refine (sortany2 A1 n c1 ps w w1 HO1.out Hln.out HS.out.ok hb1 hn).mono ?_
  rintro e w2 ⟨rfl, sp, hperm, hup, hss, hb2⟩
  have HSS := Lib.hid hss
  have Hrun : Hid (dedup [] (sp.map (·.2)) = R) := Lib.hid (by rw [dedup_setL hperm hup, HR.out])
  have Hsmp : Hid (∀ p ∈ sp, p.1.2.1 ≤ 4398046511104) := Lib.hid (fun p hp => Hsm.out p (hperm.mem_iff.1 hp))
  clear hss HO1 HS HN HP Hln hup hperm HR Hsm hb1
  go_wp2_with fail
  go_loopw [4, 13] (fun x i wr => VRel w R sp n w2 x i wr) (fun _ i _ => n - (intOf i).toNat)
  case atStart => exact ⟨0, [], none, 0, 0, by omega, rfl, rfl, ⟨⟨by simp, .inl ⟨rfl, rfl⟩⟩, rfl, by omega, by simp, by simpa using Hrun.out, fun h => absurd h (by omega), Below.refl _ _⟩⟩
  case round =>
    obtain ⟨k, qs, Ao, no, co, hk, rfl, rfl, hT⟩ := hrel
    have HT := Lib.hid hT
    have hno : no ≤ k := hT.kle
    clear hT
    by_cases hlt : k < n
    · have hkr := keeps_of HT.out.bel
      obtain ⟨b, o, p, hAp, hp, hpc⟩ := HSS.out.sl.at hlt
      subst hAp
      have e1 := keep_cell hkr (hpc 0 _ rfl)
      simp only [Nat.mul_one, Nat.add_zero] at e1
      have hpm : p ∈ sp := List.mem_of_getElem? hp
      have hpo := (HSS.out.ok p hpm).keep hkr
      have hps := Hsmp.out p hpm
      have Hst : Hid (R = if keepR (qs.map (·.2)) p.2 then dedup (qs.map (·.2) ++ [p.2]) ((sp.drop (k + 1)).map (·.2)) else dedup (qs.map (·.2)) ((sp.drop (k + 1)).map (·.2))) := Lib.hid (by
        rw [← HT.out.run, drop_at hp]; rfl)
      have HPP := Lib.hid hp
      obtain ⟨⟨p1, p2, p3⟩, pr⟩ := p
      dsimp only [rowc] at e1 hps Hst
      have HPO := Lib.hid hpo
      clear hp hpc hpm hpo
      have hwz := HT.out.bel.size
      rcases Nat.eq_zero_or_pos k with h0 | h0
      · have g0 : ((k : Int) == 0) = true := by simp [h0]
        have H0 := Lib.hid h0
        clear h0 hkr
        have HKT : Hid (keepR (qs.map (·.2)) pr = true) := Lib.hid (by
          obtain rfl : qs = [] := List.eq_nil_of_length_eq_zero (by have := HT.out.len; have := H0.out; omega)
          rfl)
        go_wp2_with (first
          | (at_builtin; refine wpList_append_sf (cs := Vl.cs) (wr.alloc (.cells #[] 24)) (by rfl) (.tmp 31) (.tmp 32) _ (by rfl) wr.heap.size 24 j0 _ 3 32 Try.underlying38 hj hy0 hy1 hy2 (by rfl) (by omega) (.slice (some ⟨wr.heap.size, 0, none⟩) 0 0) 0 [] (by rfl) (own_empty wr (Nat.le_refl _)) p1 p2 p3 pr (by rfl) (HPO.out.rd.keep (keeps_alloc _ _)) HPO.out.nl Vl.cs_len one_vl (by simp only [maxLen]; omega) (by omega) (by simp) ?_; intro A3 c3 w3 hown3 hg3 hB3 hat3 hn3; simp only [Nat.zero_add, List.nil_append] at hown3; have hb3 : Below wr.heap.size wr w3 := ((Below.refl _ _).alloc (Nat.le_refl _) _).trans hB3; have hO3 := own_at HT.out.own (fun g _ hl _ => hb3.block g hl); have hsz3 : w2.heap.size ≤ w3.heap.size := Nat.le_trans HT.out.bel.size hb3.size)
          | (at_builtin; refine wpList_append_one2 (by rfl) (.tmp 30) (.tmp 34) _ (by rfl) w2.heap.size 38 i0 _ 1 24 Try.underlying39 hi hz0 hz1 hz2 (by rfl) (by omega) (.slice Ao no co) no _ (by rfl) w3 _ hO3 w3.heap.size (by rfl) (by rfl) (by rfl) (one_row ((A3, p2, c3), [])) (by simp only [maxLen]; omega) (by omega) hsz3 ?_; intro g6 cap6 w6 hown6 hg6 hB6 hat6 hlt6))
        have HN3 : Hid (OwnRow w3 w2.heap.size ((A3, p2, c3), pr)) := Lib.hid ⟨own_weaken hown3 HT.out.bel.size, (HPO.out).rd.len⟩
        go_roundw
        case rel =>
          refine ⟨k + 1, qs ++ [((A3, p2, c3), pr)], _, no + 1, cap6, by omega, by go_num, rfl, ⟨?_, by simp [HT.out.len], by omega, ?_, ?_, ?_, (HT.out.bel.trans (hb3.mono HT.out.bel.size)).trans hB6⟩⟩
          · rw [List.flatMap_append]; simpa [rowc] using hown6
          · intro q hq
            have ho4 := hO3.alloc (.cells #[.slice A3 p2 c3] 38)
            rw [List.mem_append, List.mem_singleton] at hq
            rcases hq with hq | rfl
            · exact ((((HT.out.rows) q hq).below hb3).below ((Below.refl _ _).alloc (Nat.le_refl _) _)).grown ho4 hg6
            · exact (HN3.out.below ((Below.refl _ _).alloc (Nat.le_refl _) _)).grown ho4 hg6
          · have := Hst.out
            rw [if_pos HKT.out] at this
            rw [this]; simp
          · intro _
            rw [Nat.add_sub_cancel, HPP.out]
            simp
        case measure => simp [intOf]; omega
      · have g0 : ((k : Int) == 0) = false := by simp; omega
        have hk1 : (1 : Int) ≤ (k : Int) := by omega
        obtain ⟨b', o', q, hAq, hq, hqc⟩ := HSS.out.sl.at (show k - 1 < n by omega)
        injection hAq with hAq
        injection hAq with e3 e4
        subst e3 e4
        have e2 := keep_cell hkr (hqc 0 _ rfl)
        simp only [Nat.mul_one, Nat.add_zero] at e2
        have hqo := (HSS.out.ok q (List.mem_of_getElem? hq)).keep hkr
        have HKL : Hid (keepR (qs.map (·.2)) pr = decide (cmpR q.2 pr ≠ 0)) := Lib.hid (by
          unfold keepR
          rw [HT.out.last h0, hq]
          rfl)
        have HQQ := Lib.hid hq
        obtain ⟨⟨q1, q2, q3⟩, qr⟩ := q
        dsimp only [rowc] at e2 HKL
        have HQO := Lib.hid hqo
        clear hq hqc hqo hkr
        have H0 := Lib.hid h0
        clear h0
        go_wp2_with fail
        refine (comprowsL_any q1 p1 q2 p2 q3 p3 qr pr _ HQO.out.rd HPO.out.rd (Nat.le_trans HQO.out.le HQO.out.mx) (Nat.le_trans HPO.out.le HPO.out.mx)).mono ?_
        rintro e w4 ⟨rfl, hL4⟩
        have hb4 := hL4.bel
        clear hL4 e1 e2
        have hT4 : VState w R sp k qs Ao no co w2 w4 := ⟨own_at HT.out.own (fun g _ hl _ => hb4.block g hl), HT.out.len, HT.out.kle, fun q hq => (HT.out.rows q hq).below hb4, HT.out.run, HT.out.last, Below.next HT.out.bel hb4⟩
        replace HT := Lib.hid hT4
        replace HPO := Lib.hid (HPO.out.keep (keeps_of hb4))
        clear hT4 hb4 hwz
        obtain ⟨z, Hz⟩ : ∃ z, Hid (cmpR qr pr = z) := ⟨_, rfl⟩
        rw [Hz.out] at HKL ⊢
        by_cases hz : z = 0
        · have g1 : (z != 0) = false := by simp [hz]
          have HKT : Hid (keepR (qs.map (·.2)) pr = false) := Lib.hid (by rw [HKL.out]; simp [hz])
          have HEQ : Hid (qr = pr) := Lib.hid ((cmpR_zero _ _).1 (by rw [Hz.out, hz]))
          clear hz
          go_wp2_with fail
          go_roundw
          case rel =>
            refine ⟨k + 1, qs, Ao, no, co, by omega, by go_num, rfl, ⟨HT.out.own, HT.out.len, by omega, HT.out.rows, ?_, ?_, HT.out.bel⟩⟩
            · have := Hst.out
              rw [if_neg (by rw [HKT.out]; simp)] at this
              rw [this]
            · intro _
              rw [HT.out.last H0.out, HQQ.out, Nat.add_sub_cancel, HPP.out]
              simp [HEQ.out]
          case measure => simp [intOf]; omega
        · have g1 : (z != 0) = true := by simp [hz]
          have HKT : Hid (keepR (qs.map (·.2)) pr = true) := Lib.hid (by rw [HKL.out]; simp [hz])
          clear hz
          go_wp2_with (first
            | (at_builtin; refine wpList_append_sf (cs := Vl.cs) (w4.alloc (.cells #[] 24)) (by rfl) (.tmp 31) (.tmp 32) _ (by rfl) w4.heap.size 24 j0 _ 3 32 Try.underlying38 hj hy0 hy1 hy2 (by rfl) (by omega) (.slice (some ⟨w4.heap.size, 0, none⟩) 0 0) 0 [] (by rfl) (own_empty w4 (Nat.le_refl _)) p1 p2 p3 pr (by rfl) (HPO.out.rd.keep (keeps_alloc _ _)) HPO.out.nl Vl.cs_len one_vl (by simp only [maxLen]; omega) (by omega) (by simp) ?_; intro A3 c3 w3 hown3 hg3 hB3 hat3 hn3; simp only [Nat.zero_add, List.nil_append] at hown3; have hb3 : Below w4.heap.size w4 w3 := ((Below.refl _ _).alloc (Nat.le_refl _) _).trans hB3; have hO3 := own_at HT.out.own (fun g _ hl _ => hb3.block g hl); have hsz3 : w2.heap.size ≤ w3.heap.size := Nat.le_trans HT.out.bel.size hb3.size)
            | (at_builtin; refine wpList_append_one2 (by rfl) (.tmp 30) (.tmp 34) _ (by rfl) w2.heap.size 38 i0 _ 1 24 Try.underlying39 hi hz0 hz1 hz2 (by rfl) (by omega) (.slice Ao no co) no _ (by rfl) w3 _ hO3 w3.heap.size (by rfl) (by rfl) (by rfl) (one_row ((A3, p2, c3), [])) (by simp only [maxLen]; omega) (by omega) hsz3 ?_; intro g6 cap6 w6 hown6 hg6 hB6 hat6 hlt6))
          have HN3 : Hid (OwnRow w3 w2.heap.size ((A3, p2, c3), pr)) := Lib.hid ⟨own_weaken hown3 HT.out.bel.size, (HPO.out).rd.len⟩
          go_roundw
          case rel =>
            refine ⟨k + 1, qs ++ [((A3, p2, c3), pr)], _, no + 1, cap6, by omega, by go_num, rfl, ⟨?_, by simp [HT.out.len], by omega, ?_, ?_, ?_, (HT.out.bel.trans (hb3.mono HT.out.bel.size)).trans hB6⟩⟩
            · rw [List.flatMap_append]; simpa [rowc] using hown6
            · intro q hq
              have ho4 := hO3.alloc (.cells #[.slice A3 p2 c3] 38)
              rw [List.mem_append, List.mem_singleton] at hq
              rcases hq with hq | rfl
              · exact ((((HT.out.rows) q hq).below hb3).below ((Below.refl _ _).alloc (Nat.le_refl _) _)).grown ho4 hg6
              · exact (HN3.out.below ((Below.refl _ _).alloc (Nat.le_refl _) _)).grown ho4 hg6
            · have := Hst.out
              rw [if_pos HKT.out] at this
              rw [this]; simp
            · intro _
              rw [Nat.add_sub_cancel, HPP.out]
              simp
          case measure => simp [intOf]; omega
    · obtain rfl : k = n := by omega
      go_wp2
      go_ret
      have hT := HT.out
      have hrun := hT.run
      rw [List.drop_eq_nil_of_le (by have := HSS.out.sl.len; omega)] at hrun
      have hq : qs.map (·.2) = R := hrun
      obtain rfl : R.length = no := by rw [← hq, List.length_map, hT.len]
      exact ⟨qs, Ao, co, rfl, hq, own_weaken hT.own hb2.size, fun q hq => ⟨own_weaken (hT.rows q hq).1 hb2.size, (hT.rows q hq).2⟩, Below.next hb2 hT.bel⟩
end Go.Proofs.Ytemllddgefahfaa
