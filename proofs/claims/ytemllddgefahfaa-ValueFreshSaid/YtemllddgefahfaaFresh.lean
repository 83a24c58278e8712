import Derived.Test.YtemllddgefahfaaOrders
namespace Go.Proofs.Ytemllddgefahfaa
open Go.RowKit

/-- a row of the call's own, whatever it holds -/
def Wr (w : World) (base : Nat) (q : RowP) : Prop := ∃ xs, w.ownsRow base 24 3 (.slice q.1.1 q.1.2.1 q.1.2.2) q.1.2.1 xs
theorem Wr.stored {w : World} {base : Nat} {q : RowP} (h : Wr w base q) (G j : Nat) (u : Value) : Wr (w.setCell ⟨G, j, none⟩ u) base q := by
  obtain ⟨xs, hx⟩ := h
  by_cases hG : (Value.slice q.1.1 q.1.2.1 q.1.2.2).ownBlock = some G
  · obtain ⟨⟨A, n, c⟩, r⟩ := q
    dsimp only at *
    rcases hx.2 with ⟨hv, _⟩ | ⟨g, cap, cur, hv, _⟩
    · rw [hv] at hG; simp [Value.ownBlock] at hG
    · injection hv with h1 h2 h3
      subst h1 h3
      simp only [Value.ownBlock, Option.some.injEq] at hG
      subst hG
      exact ⟨_, (hx.stored j u).1⟩
  · exact ⟨xs, own_at hx (fun g _ _ hg => Below.heap_setCell w ⟨G, j, none⟩ u g (fun e => hG (by rw [hg, e])))⟩
theorem head_stored {w : World} {base : Nat} {q : RowP} (h : Wr w base q) {G : Nat} (hq : q.1.1 = some ⟨G, 0, none⟩) {base2 : Nat} {v : Value} {n size : Nat} {xs : List Value} (ho : w.ownsRow base2 38 size v n xs) (j : Nat) (u : Value) : (w.setCell ⟨G, j, none⟩ u).ownsRow base2 38 size v n xs := by
  refine own_at ho (fun g _ _ hg => Below.heap_setCell w ⟨G, j, none⟩ u g (fun e => ?_))
  subst e
  obtain ⟨ys, hx⟩ := h
  rcases hx.2 with ⟨hv, _⟩ | ⟨g1, cap1, cur1, hv, _, hh1, _⟩
  · injection hv with h1 _ _; rw [hq] at h1; cases h1
  · injection hv with h1 _ _
    rw [hq] at h1
    injection h1 with h1
    injection h1 with h1
    rcases ho.2 with ⟨hv2, _⟩ | ⟨g2, cap2, cur2, hv2, _, hh2, _⟩
    · rw [hv2] at hg; simp [Value.ownBlock] at hg
    · rw [hv2] at hg
      simp only [Value.ownBlock, Option.some.injEq] at hg
      rw [hg, h1, hh1] at hh2
      injection hh2 with hh2
      injection hh2 with _ ht
      exact absurd ht (by decide)
theorem Wr.cells {w : World} {base G n c : Nat} {r : List Vl} (h : Wr w base ((some ⟨G, 0, none⟩, n, c), r)) {j : Nat} (hj : j < n * 3) : ∃ u, w.cell? ⟨G, j, none⟩ = some u := by
  obtain ⟨xs, hx⟩ := h
  have hl : j < xs.length := by rw [hx.1]; exact hj
  have := hx.cells (g := G) rfl j xs[j] (List.getElem?_eq_getElem hl)
  rw [add_at, Nat.zero_add] at this
  exact ⟨_, this⟩
theorem Wr.addr {w : World} {base n c : Nat} {A : Option Addr} {r : List Vl} (h : Wr w base ((A, n, c), r)) (hn : 0 < n) : ∃ G, A = some ⟨G, 0, none⟩ ∧ base ≤ G ∧ G < w.heap.size ∧ ∀ q, w.frozen? ⟨G, q, none⟩ = false := by
  obtain ⟨xs, hx⟩ := h
  obtain ⟨G, cap, hv, hb, hl⟩ := hx.form hn
  injection hv with h1 h2 h3
  subst h1 h3
  exact ⟨G, rfl, hb, hl, fun q => World.ownsRow.frozenAt hx q⟩
theorem vl_one {w : World} {g : Nat} {T : TypeId} {x : Vl} (h : Blk w g T #[.int .i64 x.k, .int .i64 x.i, .string x.t]) : VlS w (some ⟨g, 0, none⟩) 1 [x] := by
  refine ⟨rfl, fun _ => ⟨g, 0, rfl, ?_⟩⟩
  intro k y hy j u hu
  rcases k with _ | k <;> simp at hy
  subst hy
  rcases j with _ | _ | _ | j <;> simp [Vl.cs] at hu
  all_goals (subst hu; exact h.cell _)
theorem rows_one {w : World} {g : Nat} {p : RowP} (h : Blk w g 38 #[.slice p.1.1 p.1.2.1 p.1.2.2]) : Sl 1 rowc w (some ⟨g, 0, none⟩) 1 [p] := by
  refine ⟨rfl, fun _ => ⟨g, 0, rfl, ?_⟩⟩
  intro k x hx j u hu
  rcases k with _ | k <;> simp at hx
  subst hx
  rcases j with _ | j <;> simp [rowc] at hu
  subst hu
  exact h.cell _
structure FrInv (base top : Nat) (w7 : World) (A : Option Addr) (n c : Nat) (ss : List RowP) (wr : World) : Prop where
  but : But (fun b => base ≤ b ∧ b < top) w7 wr
  head : wr.ownsRow base 38 1 (.slice A n c) n (ss.flatMap rowc)
  rows : ∀ q ∈ ss, Wr wr base q
theorem FrInv.stored {base top : Nat} {w7 : World} {A : Option Addr} {n c : Nat} {ss : List RowP} {wr : World} (h : FrInv base top w7 A n c ss wr) {G : Nat} {q : RowP} (hq : q ∈ ss) (hG : q.1.1 = some ⟨G, 0, none⟩) (h1 : base ≤ G) (h2 : G < top) (j : Nat) (u : Value) : FrInv base top w7 A n c ss (wr.setCell ⟨G, j, none⟩ u) :=
  ⟨h.but.trans (But.set _ (p := ⟨G, j, none⟩) ⟨h1, h2⟩ u), head_stored (h.rows q hq) hG h.head j u, fun p hp => (h.rows p hp).stored G j u⟩
set_option maxRecDepth 100000 in
set_option maxHeartbeats 8000000 in
theorem fresh_walk (A : Option Addr) (n c : Nat) (zs : List Int) (w : World) (hs : Sl 1 u8c w A n zs) (hz : ∀ z ∈ zs, 0 ≤ z ∧ z ≤ 255) (hnil : A = none → n = 0 ∧ c = 0) (hsp : ∀ ad, A = some ad → ad.spot = none) (hnc : n ≤ c) (hcm : c ≤ 9223372036854775807) :
    Calls Try.prog 9 #[.slice A n c] w fun e w' => e = .returned (.bool true) ∧ Below w.heap.size w w' := by
  obtain ⟨i0, hi, hz0, hz1, hz2⟩ := info_parts info_row
  have HS := Lib.hid hs
  have HZ := Lib.hid hz
  have HN := Lib.hid hnil
  have HP := Lib.hid hsp
  clear hs hz hnil hsp
  go_enter Try.func9, Try.ntmps9
  go_wp2_with fail
  refine (new_any A n c zs 90 _ HS.out HZ.out HN.out HP.out hnc hcm (by omega)).mono ?_
  rintro e w1 ⟨g, hwg, rfl, hc1, hb1⟩
  clear HS HZ HN HP
  go_wp2_with fail
  refine (rows_any g _ hc1).mono ?_
  rintro e w2 ⟨qs, A2, c2, rfl, hq6, hown, hqs, hc2, hb2⟩
  have hB2 : Below w.heap.size w w2 := hb2.below hb1 hb1.size (fun k hk => by subst hk; exact hwg)
  let X := w2.alloc (.cells #[.int .i64 4, .int .i64 7, .string ⟨#[]⟩] 24)
  let Y := X.alloc (.cells #[.slice (some ⟨w2.heap.size, 0, none⟩) 1 1] 38)
  have hX := (Below.refl w2.heap.size w2).alloc (Nat.le_refl _) (.cells #[.int .i64 4, .int .i64 7, .string ⟨#[]⟩] 24)
  have hA2 : Below w2.heap.size w2 Y := hX.alloc hX.size (.cells #[.slice (some ⟨w2.heap.size, 0, none⟩) 1 1] 38)
  have HO : Y.ownsRow w1.heap.size 38 1 (.slice A2 qs.length c2) qs.length (qs.flatMap rowc) := (hown.alloc _).alloc _
  have hXs : X.heap.size = w2.heap.size + 1 := by simp [X]
  let p0 : RowP := ((some ⟨w2.heap.size, 0, none⟩, 1, 1), [⟨4, 7, ⟨#[]⟩⟩])
  have HSL : Hid (Sl 1 rowc Y (some ⟨w2.heap.size + 1, 0, none⟩) 1 [p0]) := Lib.hid (by rw [← hXs]; exact rows_one (p := p0) (Blk.new X 38 #[.slice (some ⟨w2.heap.size, 0, none⟩) 1 1]))
  have HP0 : Hid (RowOk Y p0) := Lib.hid ⟨vl_one (T := 24) (x := ⟨4, 7, ⟨#[]⟩⟩) ((Blk.new w2 24 #[.int .i64 4, .int .i64 7, .string ⟨#[]⟩]).alloc _), (fun h => by cases h), Nat.le_refl _, by show 1 ≤ 9223372036854775807; omega⟩
  have HQS := Lib.hid (fun q (hq : q ∈ qs) => (hqs q hq).1.below hA2)
  have HQ10 := Lib.hid (fun q (hq : q ∈ qs) => (hqs q hq).2)
  have hsz : w1.heap.size ≤ Y.heap.size := Nat.le_trans hb2.size hA2.size
  have hYe : Y = (w2.alloc (.cells #[.int .i64 4, .int .i64 7, .string ⟨#[]⟩] 24)).alloc (.cells #[.slice (some ⟨w2.heap.size, 0, none⟩) 1 1] 38) := rfl
  clear hown hqs hc1 hc2 hb2 hX
  go_wp2_with (at_builtin; refine wpList_append_sf (cs := rowc) Y (by rfl) (.tmp 11) (.tmp 14) _ (by rfl) w1.heap.size 38 i0 _ 1 24 Try.underlying39 hi hz0 hz1 hz2 (by rfl) (by omega) (.slice A2 qs.length c2) qs.length qs (by rfl) HO (some ⟨w2.heap.size + 1, 0, none⟩) 1 1 [p0] (by rfl) HSL.out (fun h => by cases h) (fun _ => rfl) one_row (by simp only [maxLen]; omega) (by omega) hsz ?_; intro A3 c3 w3 hown3 hg3 hB3 hat3 hn3)
  have hB3' : Below w.heap.size w w3 := (Below.next hB2 hA2).trans (hB3.mono hb1.size)
  have hf3 := own_forms hown3
  have hRS : RowsS w3 A3 (qs.length + 1) (qs ++ [p0]) := by
    refine ⟨Sl.of_own (cs := rowc) (fun _ => rfl) (by simp) hown3, fun p hp => ?_⟩
    rw [List.mem_append] at hp
    rcases hp with hp | hp
    · exact ((HQS.out p hp).grown HO hg3).ok
    · simp only [List.mem_cons, List.not_mem_nil, or_false] at hp
      subst hp
      refine ⟨?_, HP0.out.nl, HP0.out.le, HP0.out.mx⟩
      refine (vl_one (T := 24) (x := ⟨4, 7, ⟨#[]⟩⟩) ?_)
      have hb0 : Blk Y w2.heap.size 24 #[.int .i64 4, .int .i64 7, .string ⟨#[]⟩] := (Blk.new w2 24 #[.int .i64 4, .int .i64 7, .string ⟨#[]⟩]).alloc _
      refine (hg3.block _ hb0.lt (fun e => ?_)).trans hb0
      rcases HO.2 with ⟨hv2, _⟩ | ⟨g2, cap2, cur2, hv2, _, hh2, _⟩
      · rw [hv2] at e; simp [Value.ownBlock] at e
      · rw [hv2] at e
        simp only [Value.ownBlock, Option.some.injEq] at e
        rw [← e] at hh2
        have hh3 := hb0.symm.trans hh2
        injection hh3 with hh3
        injection hh3 with _ ht
        exact absurd ht (by decide)
  have hsml : ∀ p ∈ qs ++ [p0], p.1.2.1 ≤ 4398046511104 := by
    intro p hp
    rw [List.mem_append] at hp
    rcases hp with hp | hp
    · have := HQ10.out p hp; omega
    · simp only [List.mem_cons, List.not_mem_nil, or_false] at hp
      subst hp
      show 1 ≤ 4398046511104
      omega
  have HRS := Lib.hid hRS
  have HSML := Lib.hid hsml
  have HF3 := Lib.hid hf3
  have hN : qs.length + 1 ≤ 7 := by omega
  clear hRS hsml hf3 hown3 hg3 hB3 hat3 hn3 HO HSL HQS HP0 HQ10 hA2 hB2 hb1 hsz hq6 hYe hXs
  generalize qs ++ [p0] = l at *
  generalize qs.length + 1 = N at *
  clear p0 Y X
  have HLN : Hid (∀ r ∈ l.map (·.2), r.length ≤ 4398046511104) := Lib.hid (rows_small HRS.out HSML.out)
  refine (copies_any A3 N c3 l _ HRS.out (by omega) HSML.out).mono ?_
  rintro e w4 hcp
  obtain ⟨q4, A4, c4, rfl, hq4, hRS4, hb⟩ := SetPost.rows (show SetPost _ _ _ _ from hcp)
  clear hcp
  have hlN : (l.map (·.2)).length = N := by rw [List.length_map, HRS.out.sl.len]
  have hN4 : (l.map (·.2)).reverse.length = N := by rw [List.length_reverse, hlN]
  rw [hN4] at hRS4 ⊢
  have HRS4 := Lib.hid hRS4
  have HQ4 := Lib.hid hq4
  have HSM4 : Hid (∀ p ∈ q4, p.1.2.1 ≤ 4398046511104) := Lib.hid (small_rows hRS4 (fun r hr => HLN.out r (by rw [hq4, List.mem_reverse] at hr; exact hr)))
  replace HRS := Lib.hid (HRS.out.keep (keeps_of hb))
  replace hB3' := Below.next hB3' hb
  clear hb hRS4 hq4 hN4
  go_wp2_with fail
  refine (copies_any A4 N c4 q4 _ HRS4.out (by omega) HSM4.out).mono ?_
  rintro e w5 hcp
  rw [HQ4.out, List.reverse_reverse] at hcp
  obtain ⟨qw, A5, c5, rfl, hqw, hRS5, hb⟩ := SetPost.rows (show SetPost _ _ _ _ from hcp)
  clear hcp
  rw [hlN] at hRS5 ⊢
  have HRS5 := Lib.hid hRS5
  have HQW := Lib.hid hqw
  replace HRS := Lib.hid (HRS.out.keep (keeps_of hb))
  replace hB3' := Below.next hB3' hb
  clear hb hRS5 hqw HRS4 HQ4 HSM4
  go_wp2_with fail
  refine (setV_any A3 N c3 l _ HRS.out HF3.out.1 HF3.out.2.1 (by omega) HSML.out).mono ?_
  rintro e w6 ⟨ss, A6, c6, rfl, hss, hown6, hoq6, hb6⟩
  have hR : RowsS w6 A6 (setL (l.map (·.2))).length ss := ⟨Sl.of_own (cs := rowc) (fun _ => rfl) (by rw [← hss]; simp) hown6, fun q hq => (hoq6 q hq).ok⟩
  have hRl : (setL (l.map (·.2))).length ≤ 7 := by
    have h1 := setL_len (l.map (·.2))
    omega
  have HSS := Lib.hid hss
  have hsl : ss.length = (setL (l.map (·.2))).length := by rw [← hss]; simp
  obtain ⟨M, hM⟩ : ∃ M, (setL (l.map (·.2))).length = M := ⟨_, rfl⟩
  rw [hM] at hR hown6 hRl hsl ⊢
  have HRS6 := Lib.hid hR
  have HO6 := Lib.hid hown6
  have HOQ := Lib.hid hoq6
  have HB6 := Lib.hid hb6
  have HSM6 : Hid (∀ p ∈ ss, p.1.2.1 ≤ 4398046511104) := Lib.hid (small_rows hR (fun r hr => HLN.out r (setL_sub _ r (by rw [← hss]; exact hr))))
  have hbs6 := hb6.size
  clear hss hown6 hoq6 hb6 hR
  go_wp2_with fail
  refine (copies_any A6 M c6 ss _ HRS6.out (by omega) HSM6.out).mono ?_
  rintro e w7 hcp
  obtain ⟨q7, A7, c7, rfl, hq7, hRS7, hb7⟩ := SetPost.rows (show SetPost _ _ _ _ from hcp)
  clear hcp
  have hN7 : (ss.map (·.2)).reverse.length = M := by rw [List.length_reverse, List.length_map, hsl]
  rw [hN7] at hRS7 ⊢
  have HRS7 := Lib.hid hRS7
  have HQ7 := Lib.hid hq7
  have HSM7 : Hid (∀ p ∈ q7, p.1.2.1 ≤ 4398046511104) := Lib.hid (small_rows hRS7 (fun r hr => HLN.out r (setL_sub _ r (by rw [← HSS.out]; rw [hq7, List.mem_reverse] at hr; exact hr))))
  have HB7 := Lib.hid hb7
  clear hRS7 hq7 hN7
  go_wp2_with fail
  refine (copies_any A7 M c7 q7 _ HRS7.out (by omega) HSM7.out).mono ?_
  rintro e w8 ⟨qn, A8, c8, he8, hqn, hown8, hoq8, hb8⟩
  rw [HQ7.out, List.reverse_reverse] at he8 hqn hown8
  rw [List.length_map, hsl] at he8 hown8
  subst he8
  have HB8 : Hid (Below w6.heap.size w6 w8) := Lib.hid (Below.next HB7.out hb8)
  have htop : w6.heap.size ≤ w7.heap.size := HB7.out.size
  have HQN := Lib.hid hqn
  have HO8 := Lib.hid hown8
  have HOQ8 := Lib.hid hoq8
  clear HRS7 HQ7 HSM7 HB7 hqn hown8 hoq8 hb7 hb8
  have HI : Hid (FrInv w5.heap.size w6.heap.size w8 A6 M c6 ss w8) := Lib.hid ⟨But.refl _ _, own_at HO6.out (fun g _ hl _ => HB8.out.block g hl), fun q hq => ⟨_, own_at (HOQ.out q hq).1 (fun g _ hl _ => HB8.out.block g hl)⟩⟩
  have HGT : Hid (∀ q ∈ ss, ∀ G, q.1.1 = some ⟨G, 0, none⟩ → G < w6.heap.size) := Lib.hid (fun q hq G hG => ((HOQ.out q hq).1.lt G (by rw [hG]; rfl)).2)
  clear HO6 HOQ HRS6
  go_wp2_with fail
  go_loopw [26] (fun i wr => ∃ k : Nat, k ≤ M ∧ i = .int .i64 (k : Int) ∧ FrInv w5.heap.size w6.heap.size w8 A6 M c6 ss wr) (fun i _ => M - (intOf i).toNat)
  case atStart => exact ⟨0, by omega, rfl, HI.out⟩
  case round =>
    obtain ⟨k, hk, rfl, hinv⟩ := hrel
    clear HI
    by_cases hlt : k < M
    · obtain ⟨b, o, p, hA, hpk, hcs⟩ := (Sl.of_own (cs := rowc) (fun _ => rfl) hsl hinv.head).at hlt
      have hcell := hcs 0 _ rfl
      rw [Nat.mul_one, Nat.add_zero] at hcell
      have hpm : Hid (p ∈ ss) := Lib.hid (List.mem_of_getElem? hpk)
      have hp2 := HSM6.out p hpm.out
      have HPK := Lib.hid hpk
      have HINV := Lib.hid hinv
      clear hcs hpk hinv
      subst hA
      obtain ⟨⟨p1, p2, p3⟩, pr⟩ := p
      dsimp only at hcell hp2
      go_wp2_with fail
      clear hcell
      go_loopw [34] (fun i wr => ∃ j : Nat, j ≤ p2 ∧ i = .int .i64 (j : Int) ∧ FrInv w5.heap.size w6.heap.size w8 (some ⟨b, o, none⟩) M c6 ss wr) (fun i _ => p2 - (intOf i).toNat)
      case atStart => exact ⟨0, by omega, rfl, HINV.out⟩
      case round =>
        obtain ⟨j, hj, rfl, hinv2⟩ := hrel
        by_cases hlj : j < p2
        · obtain ⟨b', o', p', hA', hpk', hcs⟩ := (Sl.of_own (cs := rowc) (fun _ => rfl) hsl hinv2.head).at hlt
          obtain ⟨rfl, rfl⟩ : b = b' ∧ o = o' := by injection hA' with h; injection h with h1 h2; exact ⟨h1, h2⟩
          have hpe := HPK.out.symm.trans hpk'
          injection hpe with hpe
          subst hpe
          have hcell := hcs 0 _ rfl
          rw [Nat.mul_one, Nat.add_zero] at hcell
          dsimp only at hcell
          have hwr := hinv2.rows _ hpm.out
          obtain ⟨G, rfl, hGb, hGl, hfz⟩ := hwr.addr (by omega)
          obtain ⟨u0, hu0⟩ := hwr.cells (show j * 3 < p2 * 3 by omega)
          obtain ⟨u1, hu1⟩ := hwr.cells (show j * 3 + 1 < p2 * 3 by omega)
          obtain ⟨u2, hu2⟩ := hwr.cells (show j * 3 + 2 < p2 * 3 by omega)
          have hGt := HGT.out _ hpm.out G rfl
          have HI2 := Lib.hid hinv2
          clear hcs hA' hpk' hwr hinv2
          go_wp2_with fail
          go_roundw
          case rel => exact ⟨j + 1, by omega, by go_num, ((HI2.out.stored hpm.out rfl hGb hGt _ _).stored hpm.out rfl hGb hGt _ _).stored hpm.out rfl hGb hGt _ _⟩
          case measure => simp [intOf]; omega
        · go_wp2_with fail
          go_roundw
          case rel => exact ⟨k + 1, by omega, by go_num, hinv2⟩
          case measure => simp [intOf]; omega
    · have hlw : w5.heap.size ≤ w8.heap.size := Nat.le_trans hbs6 HB8.out.size
      have hbl : Below w5.heap.size w5 wr := hinv.but.below (HB6.out.trans (HB8.out.mono hbs6)) hlw (fun k h => h.1)
      have hRN : RowsS wr A8 M qn := by
        refine ⟨Sl.of_own (cs := rowc) (fun _ => rfl) (by rw [← List.length_map (f := (·.2)), HQN.out, List.length_map, hsl]) (own_at HO8.out (fun g hg hl _ => hinv.but.block g hl (by omega))), fun q hq => OwnRow.ok (base := w7.heap.size) ⟨own_at (HOQ8.out q hq).1 (fun g hg hl _ => hinv.but.block g hl (by omega)), (HOQ8.out q hq).2⟩⟩
      have HRN := Lib.hid hRN
      replace HRS := Lib.hid (HRS.out.keep (keeps_of hbl))
      replace HRS5 := Lib.hid (HRS5.out.keep (keeps_of hbl))
      replace hB3' := Below.next hB3' hbl
      clear hRN hbl hinv HB6 HB8 HO8 HOQ8 hlw
      go_wp2_with fail
      refine (vbegun_any _).mono ?_
      rintro e wb ⟨rfl, hb⟩
      replace HRS := Lib.hid (HRS.out.keep (keeps_of hb))
      replace HRS5 := Lib.hid (HRS5.out.keep (keeps_of hb))
      replace HRN := Lib.hid (HRN.out.keep (keeps_of hb))
      replace hB3' := Below.next hB3' hb
      clear hb
      go_wp2_with fail
      refine (rsame_any A3 A5 N N c3 c5 l qw _ HRS.out HRS5.out (by omega) (by omega)).mono ?_
      rintro e wc ⟨rfl, hb⟩
      rw [show decide (l.map (·.2) = qw.map (·.2)) = true from decide_eq_true (by rw [HQW.out])]
      replace HRS := Lib.hid (HRS.out.keep (keeps_of hb))
      replace HRN := Lib.hid (HRN.out.keep (keeps_of hb))
      replace hB3' := Below.next hB3' hb
      clear hb HRS5
      go_wp2_with fail
      refine (setV_any A3 N c3 l _ HRS.out HF3.out.1 HF3.out.2.1 (by omega) HSML.out).mono ?_
      rintro e wd hpost
      obtain ⟨ts, Aa, ca, rfl, hts, hRSa, hb⟩ := hpost.rows
      clear hpost
      rw [hM] at hRSa ⊢
      have HRSa := Lib.hid hRSa
      have HTS := Lib.hid hts
      replace HRN := Lib.hid (HRN.out.keep (keeps_of hb))
      replace hB3' := Below.next hB3' hb
      clear hb hRSa hts
      go_wp2_with fail
      refine (rsame_any Aa A8 M M ca c8 ts qn _ HRSa.out HRN.out (by omega) (by omega)).mono ?_
      rintro e we ⟨rfl, hb⟩
      rw [show decide (ts.map (·.2) = qn.map (·.2)) = true from decide_eq_true (by rw [HQN.out, HTS.out, HSS.out])]
      go_wp2
      go_ret
      exact ⟨rfl, Below.next hB3' hb⟩
end Go.Proofs.Ytemllddgefahfaa
