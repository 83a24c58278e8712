/-
  Texts: FComb.
-/
import Derived.Test.YtmnmckblmoalkaaGreatB31
set_option linter.unusedVariables false
/-
  The reference's Combine of regions.
-/
namespace Go.Proofs.YtmnmckblmoalkaaGreat
open Go.RowKit
set_option maxRecDepth 100000
open Rg

set_option maxHeartbeats 8000000 in
theorem fcomb_succ (N : Nat) (k : Int) (ih : FCombC N k) (hN : N + 1 ≤ 12) : FCombC (N + 1) k := by
  intro a b xa fa Aa na ca xb fb Ab nb cb w hA hB fA fB iA iB
  have hxa : xa = ((N + 1 : Nat) : Int) := by rw [← hA.hw]; exact fA.1
  have hxb : xb = ((N + 1 : Nat) : Int) := by rw [← hB.hw]; exact fB.1
  have g1 : (xa == 0) = false := by simp; omega
  have hna : na ≤ 64 := by rw [hA.len]; exact Nat.le_trans (len_le_size a) iA.1
  have hnb : nb ≤ 64 := by rw [hB.len]; exact Nat.le_trans (len_le_size b) iB.1
  have hxa12 : 0 ≤ xa ∧ xa ≤ 12 := by omega
  have hxb12 : 0 ≤ xb ∧ xb ≤ 12 := by omega
  obtain ⟨il, hil, hl0, hl1, hl2⟩ := info_parts info_lst
  obtain ⟨im, him, hm0, hm1, hm2⟩ := info_parts info_made
  obtain ⟨ip, hip, hp0, hp1, hp2⟩ := info_parts info_pt
  have HA := Lib.hid hA
  have HB := Lib.hid hB
  have HIH := Lib.hid ih
  have HF := Lib.hid (And.intro fA (And.intro fB (And.intro iA iB)))
  have HX := Lib.hid (And.intro hxa hxb)
  obtain ⟨rr, Hrr⟩ : ∃ r, Hid (comb (opR k) (N + 1) a b = r) := ⟨_, rfl⟩
  rw [Hrr.out]
  obtain ⟨W3, HW3⟩ : ∃ W : World, Hid (((w.alloc (.cells #[.int .i64 xa, .bool fa, .slice Aa na ca] 27)).alloc (.cells #[.int .i64 xb, .bool fb, .slice Ab nb cb] 27)).alloc (.cells #[.int .i64 0, .bool false, .slice none 0 0] 27) = W) := ⟨_, rfl⟩
  have HC : Hid (Blk W3 w.heap.size 27 #[.int .i64 xa, .bool fa, .slice Aa na ca] ∧ Blk W3 (w.heap.size + 1) 27 #[.int .i64 xb, .bool fb, .slice Ab nb cb] ∧ Blk W3 (w.heap.size + 2) 27 #[.int .i64 0, .bool false, .slice none 0 0]) := by
    rw [← HW3.out]
    exact Lib.hid ⟨((Blk.step rfl).alloc _).alloc _, (Blk.step (by simp)).alloc _, Blk.step (by simp)⟩
  have hs3 : W3.heap.size = w.heap.size + 3 := by rw [← HW3.out]; simp
  have HB0 : Hid (Below w.heap.size w W3) := by
    rw [← HW3.out]
    exact Lib.hid ((((Below.refl _ _).alloc (Nat.le_refl _) _).alloc (by simp) _).alloc (by simp; omega) _)
  clear hA hB ih fA fB iA iB hxa hxb
  go_enter Tryz.func149, Tryz.ntmps149
  go_wp2_with fail
  rw [HW3.out]
  -- the lists of a
  go_loopw [7, 32] (fun v i wr => ∃ (t : Nat) (A' : Option Addr) (c' : Nat) (qs : List LstP), t ≤ na ∧ i = .int .i64 (t : Int) ∧ v = .slice A' t c' ∧ wr.ownsRow W3.heap.size 72 1 (.slice A' t c') t (qs.flatMap lstc) ∧ Hid (qs.map (·.2) = (valsOf a).take t ∧ ∀ q ∈ qs, LstOk W3 q) ∧ Below W3.heap.size W3 wr) (fun _ i _ => na - (intOf i).toNat)
  case atStart => exact ⟨0, none, 0, [], by omega, rfl, rfl, ⟨by simp, .inl ⟨rfl, rfl⟩⟩, Lib.hid ⟨by simp, by simp⟩, Below.refl _ _⟩
  case round =>
    obtain ⟨t, A', c', qs, ht, rfl, rfl, hown, HQ, hb0⟩ := hrel
    have hb := Below.next HB0.out hb0
    by_cases hlt : t < na
    · obtain ⟨b1, o1, p, A1, n1, c1, px, pf, A2, n2, c2, rfl, hp, hpt⟩ := (HA.out.keep (keeps_of hb)).at hlt
      obtain ⟨b1', o1', p', A1', n1', c1', px', pf', A2', n2', c2', e', hp', hpt'⟩ := (HA.out.keep (keeps_of HB0.out)).at hlt
      rw [hp] at hp'
      injection hp' with hp'
      subst hp'
      injection e' with e'
      injection e' with e1 e2
      subst e1 e2
      have q0 := keep_cell (keeps_of hb0) hpt'.c0
      rw [hpt.c0] at q0
      injection q0 with q0
      injection q0 with q1 q2 q3
      subst q1 q2 q3
      have hn1 : n1 ≤ 64 := by rw [← hpt.vs.len]; exact (fits_mem HF.out.2.2.1.2 (List.mem_of_getElem? hp)).1
      have HQ2 : Hid ((qs ++ [((A1, n1, c1), p.1)]).map (·.2) = (valsOf a).take (t + 1) ∧ ∀ q ∈ qs ++ [((A1, n1, c1), p.1)], LstOk W3 q) := by
        refine Lib.hid ⟨?_, fun q hq => ?_⟩
        · rw [List.map_append, HQ.out.1, take_snoc' (x := p.1) (by unfold valsOf; rw [List.getElem?_map, hp]; rfl)]
          rfl
        · rcases List.mem_append.1 hq with hq | hq
          · exact HQ.out.2 q hq
          · rw [List.mem_singleton.1 hq]
            exact ⟨hpt'.vs, hn1⟩
      have z1 := (HC.out.1.below hb0).cell
      obtain ⟨d0, _, _, _, _, _, _⟩ := hpt
      have HOW := Lib.hid hown
      have hsz := hb0.size
      clear hpt' hp hown hb
      go_wp2_with (at_builtin; refine wpList_append_one2 (by rfl) (.tmp 35) (.tmp 42) _ (by rfl) W3.heap.size 72 il _ 1 24 Tryz.underlying71 hil hl0 hl1 hl2 (by rfl) (by omega) (.slice A' t c') t _ (by rfl) wr #[.slice A1 n1 c1] HOW.out wr.heap.size (by rfl) (by rfl) (by rfl) (one_lst ((A1, n1, c1), p.1)) (by simp only [maxLen]; omega) (by omega) hsz ?_; intro g6 cap6 w6 hown6 hg6 hB6 hat6 hlt6)
      go_roundw
      case rel =>
        refine ⟨t + 1, _, cap6, _, by omega, by go_num, rfl, ?_, HQ2, hb0.trans hB6⟩
        rw [List.flatMap_append]
        simpa [lstc] using hown6
      case measure => simp [intOf]; omega
    · obtain rfl : t = na := by omega
      have Hqa : Hid (qs.map (·.2) = valsOf a ∧ ∀ q ∈ qs, LstOk W3 q) := by
        refine Lib.hid ⟨?_, HQ.out.2⟩
        rw [HQ.out.1, List.take_of_length_le]
        unfold valsOf
        rw [List.length_map, len_parts, HA.out.len]
        exact Nat.le_refl _
      have HOW := Lib.hid hown
      have HBW := Lib.hid hb0
      have hszw := hb0.size
      have z2 := (HC.out.2.1.below hb0).cell
      clear hown hb hb0 HQ hlt
      go_wp2_with fail
      clear z2
      -- the lists of b
      go_loopw [7, 48] (fun v i wr' => ∃ (u : Nat) (A' : Option Addr) (c' : Nat) (qs : List LstP), u ≤ nb ∧ i = .int .i64 (u : Int) ∧ v = .slice A' (t + u) c' ∧ wr'.ownsRow W3.heap.size 72 1 (.slice A' (t + u) c') (t + u) (qs.flatMap lstc) ∧ Hid (qs.map (·.2) = valsOf a ++ (valsOf b).take u ∧ ∀ q ∈ qs, LstOk W3 q) ∧ Below W3.heap.size W3 wr') (fun _ i _ => nb - (intOf i).toNat)
      case atStart => exact ⟨0, A', c', qs, by omega, rfl, rfl, HOW.out, Lib.hid ⟨by rw [Hqa.out.1]; simp, Hqa.out.2⟩, HBW.out⟩
      case round =>
        clear HOW HBW Hqa hszw
        obtain ⟨u, A', c', qs, hu, rfl, rfl, hown, HQ, hb0⟩ := hrel
        have hb := Below.next HB0.out hb0
        by_cases hlt : u < nb
        · obtain ⟨b1, o1, p, A1, n1, c1, px, pf, A2, n2, c2, rfl, hp, hpt⟩ := (HB.out.keep (keeps_of hb)).at hlt
          obtain ⟨b1', o1', p', A1', n1', c1', px', pf', A2', n2', c2', e', hp', hpt'⟩ := (HB.out.keep (keeps_of HB0.out)).at hlt
          rw [hp] at hp'
          injection hp' with hp'
          subst hp'
          injection e' with e'
          injection e' with e1 e2
          subst e1 e2
          have q0 := keep_cell (keeps_of hb0) hpt'.c0
          rw [hpt.c0] at q0
          injection q0 with q0
          injection q0 with q1 q2 q3
          subst q1 q2 q3
          have hn1 : n1 ≤ 64 := by rw [← hpt.vs.len]; exact (fits_mem HF.out.2.2.2.2 (List.mem_of_getElem? hp)).1
          have HQ2 : Hid ((qs ++ [((A1, n1, c1), p.1)]).map (·.2) = valsOf a ++ (valsOf b).take (u + 1) ∧ ∀ q ∈ qs ++ [((A1, n1, c1), p.1)], LstOk W3 q) := by
            refine Lib.hid ⟨?_, fun q hq => ?_⟩
            · rw [List.map_append, HQ.out.1, take_snoc' (x := p.1) (by unfold valsOf; rw [List.getElem?_map, hp]; rfl), List.append_assoc]
              rfl
            · rcases List.mem_append.1 hq with hq | hq
              · exact HQ.out.2 q hq
              · rw [List.mem_singleton.1 hq]
                exact ⟨hpt'.vs, hn1⟩
          have z1 := (HC.out.2.1.below hb0).cell
          obtain ⟨d0, _, _, _, _, _, _⟩ := hpt
          have HOW := Lib.hid hown
          have hsz := hb0.size
          clear hpt' hp hown hb
          go_wp2_with (at_builtin; refine wpList_append_one2 (by rfl) (.tmp 51) (.tmp 58) _ (by rfl) W3.heap.size 72 il _ 1 24 Tryz.underlying71 hil hl0 hl1 hl2 (by rfl) (by omega) (.slice A' (t + u) c') (t + u) _ (by rfl) wr #[.slice A1 n1 c1] HOW.out wr.heap.size (by rfl) (by rfl) (by rfl) (one_lst ((A1, n1, c1), p.1)) (by simp only [maxLen]; omega) (by omega) hsz ?_; intro g6 cap6 w6 hown6 hg6 hB6 hat6 hlt6)
          go_roundw
          case rel =>
            refine ⟨u + 1, _, cap6, _, by omega, by go_num, rfl, ?_, HQ2, hb0.trans hB6⟩
            rw [← Nat.add_assoc, List.flatMap_append]
            simpa [lstc] using hown6
          case measure => simp [intOf]; omega
        · obtain rfl : u = nb := by omega
          have hql : qs.length = t + u := by
            have h1 := hown.1
            rw [flat_len lstc_len] at h1
            omega
          have HLs : Hid (LstsS wr A' (t + u) qs) := Lib.hid ⟨Sl.of_own lstc_len hql hown, fun q hq => (HQ.out.2 q hq).keep (keeps_of hb0)⟩
          have Hpp : Hid (qs.map (·.2) = valsOf a ++ valsOf b) := by
            show _ = _
            rw [HQ.out.1, List.take_of_length_le]
            unfold valsOf
            rw [List.length_map, len_parts, HB.out.len]
            exact Nat.le_refl _
          have HBW := Lib.hid hb0
          clear hown hb hb0 HQ hlt hql
          go_wp2_with fail
          refine (rpoints_any A' (t + u) c' qs _ HLs.out (by omega)).mono ?_
          rintro e w5 ⟨Ap, cp, P, hP, rfl, hPS, hb5⟩
          rw [Hpp.out] at hP
          obtain rfl := pts_setL hP
          have hPl := pts_len HF.out.2.2.1 HF.out.2.2.2
          obtain ⟨hasc, hval, _, _⟩ := pts_of HF.out.1 HF.out.2.1
          have HASC := Lib.hid hasc
          have HRR : Hid (rr = mkR xa false (partsAt (fun p => comb (opR k) N (a.at_ (N : Int) p) (b.at_ (N : Int) p)) (ptsOf a b))) := by
            show _ = _
            rw [← Hrr.out, HX.out.1]
            rfl
          obtain ⟨P, HP⟩ : ∃ P, Hid (ptsOf a b = P) := ⟨_, rfl⟩
          rw [HP.out] at hPl HASC HRR hPS ⊢
          have HB5 := Lib.hid (Below.next HBW.out hb5)
          have HB05 := Lib.hid (Below.next HB0.out (Below.next HBW.out hb5))
          have HPS := Lib.hid hPS
          have hs5 : W3.heap.size ≤ w5.heap.size := HB5.out.size
          have z1 := (HC.out.1.below HB5.out).cell
          clear hP hPS hb5 hasc hval HLs HBW Hpp
          go_wp2_with fail
          -- the state
          have HS0 : Hid (FS0 ⟨N, k, a, b, xa, fa, Aa, t, ca, xb, fb, Ab, u, cb, Ap, P, w5.heap.size, w⟩ (w5.alloc (.cells #[.int .i64 xa, .bool false, .slice none 0 0] 27))) := by
            have hbb := (HB05.out.alloc HB05.out.size (.cells #[.int .i64 xa, .bool false, .slice none 0 0] 27))
            refine Lib.hid ⟨⟨by show w.heap.size + 3 ≤ w5.heap.size; omega, by show w5.heap.size + 1 ≤ _; rw [World.size_alloc]; exact Nat.le_refl _⟩, hbb, (HC.out.1.below HB5.out).alloc _, (HC.out.2.1.below HB5.out).alloc _, (HC.out.2.2.below HB5.out).alloc _,
              ((HA.out.keep (keeps_of HB05.out)).f0 (Nat.le_refl _)).keep (fun q _ hq => Below.heap_alloc _ _ _ hq), ((HB.out.keep (keeps_of HB05.out)).f0 (Nat.le_refl _)).keep (fun q _ hq => Below.heap_alloc _ _ _ hq), HPS.out.keep (keeps_alloc _ _), fun hn b o hA => HPS.out.lt Vl.cs_len (by omega) hn b o hA⟩
          have HBO : Hid (Blk (w5.alloc (.cells #[.int .i64 xa, .bool false, .slice none 0 0] 27)) w5.heap.size 27 #[.int .i64 xa, .bool false, .slice none 0 0]) := Lib.hid (Blk.new _ _ _)
          clear z1
          go_loopw [12, 68] (fun v i wr => ∃ (q nk : Nat) (Ak : Option Addr) (ck : Nat), q ≤ P.length ∧ i = .int .i64 (q : Int) ∧ v = .slice Ak nk ck ∧ nk ≤ q ∧ Hid (∃ (A : Option Addr) (n c : Nat) (ms : List PM) (ks : List KM), FR ⟨N, k, a, b, xa, fa, Aa, t, ca, xb, fb, Ab, u, cb, Ap, P, w5.heap.size, w⟩ q Ak nk ck wr A n c ms ks)) (fun _ i _ => P.length - (intOf i).toNat)
          case atStart =>
            refine ⟨0, 0, none, 0, by omega, rfl, rfl, by omega, Lib.hid ⟨none, 0, 0, [], [], HS0.out, HBO.out, ⟨⟨⟨by simp, .inl ⟨rfl, rfl⟩⟩, rfl, (fun m hm => by cases hm), List.Pairwise.nil, (fun m hm => by cases hm)⟩, ⟨by simp, .inl ⟨rfl, rfl⟩⟩, rfl, (fun m hm => by cases hm), (fun m hm => by cases hm), (fun m hm => by cases hm)⟩, rfl, (fun m hm => by cases hm), by omega⟩⟩
          case round =>
            clear HS0 HBO HPS HB5 HB05
            obtain ⟨q, nk, Ak, ck, hq, rfl, rfl, hnk, HR⟩ := hrel
            by_cases hlt : q < P.length
            · obtain ⟨A, n, c, ms, ks, hR⟩ := HR.out
              clear HR
              obtain ⟨bp, op, p, hAp, hp, hpc⟩ := hR.s0.pts.at hlt
              obtain rfl : Ap = some ⟨bp, op, none⟩ := hAp
              have hpc : ∀ (j : Nat) (u : Value), (Vl.cs p)[j]? = some u → wr.cell? ⟨bp, op + q * 3 + j, none⟩ = some u := hpc
              have HPq : Hid (P[q]? = some p) := hp
              obtain ⟨vk, vi, vt⟩ := p
              obtain ⟨d0, d1, d2⟩ := VlAt.of hpc
              dsimp only at d0 d1 d2
              have hba : Below wr.heap.size wr (wr.alloc (.cells #[.int .i64 vk, .int .i64 vi, .string vt] 49)) := (Below.refl _ _).alloc (Nat.le_refl _) _
              have HR := Lib.hid hR
              have HPB : Hid (Blk (wr.alloc (.cells #[.int .i64 vk, .int .i64 vi, .string vt] 49)) wr.heap.size 49 #[.int .i64 vk, .int .i64 vi, .string vt]) := Lib.hid (Blk.new _ _ _)
              have hwO : w5.heap.size + 1 ≤ wr.heap.size := hR.s0.hs.2
              clear hp hpc hR
              go_upto_region 20 with fail
              have HS1 : Hid (FS0 _ _) := Lib.hid (HR.out.s0.below hba)
              have HB1 := Lib.hid hba
              generalize hW1 : wr.alloc (.cells #[.int .i64 vk, .int .i64 vi, .string vt] 49) = W1 at *
              clear hW1 hba d0 d1 d2
              have z1 := HS1.out.ba.drew.cell
              have z2 := HS1.out.bb.drew.cell
              have z3 := HPB.out.drew.cell
              dsimp only at z1 z2
              have hca := @cell_after W1.drew
              obtain ⟨ia, Hia⟩ : ∃ z, Hid (idxP a.parts ⟨vk, vi, vt⟩ = z) := ⟨_, rfl⟩
              obtain ⟨ib, Hib⟩ : ∃ z, Hid (idxP b.parts ⟨vk, vi, vt⟩ = z) := ⟨_, rfl⟩
              refine wp_region_seg [([0, 1, 3, 4], 2), ([], 5)] [6, 7] (by kernel_rfl) (by kernel_rfl) (fun _ _ d _ _ h => by cases d <;> exact h) ?_
              simp only [pickSegs, pickOps, opAt, List.map_cons, List.map_nil, List.getElem?_toArray, List.getElem?_cons_zero, List.getElem?_cons_succ, Option.getD_some]
              unfold wpBlocks
              repeat (go_big_quiet_step (fail))
              refine wpQuiet_nil ?_
              clear hca z1 z2 z3
              go_wp2_with (first | (go_at_call 169; refine (fat_any a xa fa Aa t ca ⟨vk, vi, vt⟩ _ (HS1.out.ra.s.keep (keeps_of (Below.refl W1.heap.size W1).drew)) (sm_within HF.out.2.2.1)).mono ?_; rintro e w2 ⟨rfl, hb2⟩; rw [Hia.out]))
              refine ⟨hb2, ?_⟩
              have HB12 := Lib.hid (Below.next (Below.refl W1.heap.size W1).drew hb2)
              clear hb2
              unfold wpBlocks
              refine wpQuiet_nil ?_
              go_wp2_with (first | (go_at_call 169; refine (fat_any b xb fb Ab u cb ⟨vk, vi, vt⟩ _ (HS1.out.rb.s.keep (keeps_of HB12.out)) (sm_within HF.out.2.2.2)).mono ?_; rintro e w3 ⟨rfl, hb3⟩; rw [Hib.out]))
              refine ⟨hb3, ?_⟩
              have HBr3 := Lib.hid (Below.next HB1.out (Below.next HB12.out hb3))
              clear hb3
              unfold wpBlocks
              repeat (go_big_quiet_step (fail))
              refine wpQuiet_nil ?_
              have HS3 : Hid (FS0 _ _) := Lib.hid (HR.out.s0.below HBr3.out)
              have HO3 : Hid (Blk _ _ _ _) := Lib.hid (HR.out.bo.below HBr3.out)
              have HF3 : Hid (FSt _ _ _ _ _ _ _ _ _ _) := Lib.hid (HR.out.st.below HBr3.out)
              have hs3 := HBr3.out.size
              have hiaR : -1 ≤ ia ∧ ia < (t : Int) := by
                have h1 := idx_range a.parts ⟨vk, vi, vt⟩
                rw [Hia.out, len_parts] at h1
                have h2 := HA.out.len
                omega
              have hibR : -1 ≤ ib ∧ ib < (u : Int) := by
                have h1 := idx_range b.parts ⟨vk, vi, vt⟩
                rw [Hib.out, len_parts] at h1
                have h2 := HB.out.len
                omega
              have HRA : Hid (restR a ia = a.at_ (N : Int) ⟨vk, vi, vt⟩) := by show _ = _; rw [← Hia.out]; exact rest_at HF.out.1.1 _
              have HRB : Hid (restR b ib = b.at_ (N : Int) ⟨vk, vi, vt⟩) := by show _ = _; rw [← Hib.out]; exact rest_at HF.out.2.1.1 _
              obtain ⟨ro, Hro⟩ : ∃ z, Hid (FC.at_ ⟨N, k, a, b, xa, fa, Aa, t, ca, xb, fb, Ab, u, cb, some ⟨bp, op, none⟩, P, w5.heap.size, w⟩ ⟨vk, vi, vt⟩ = z) := ⟨_, rfl⟩
              clear HS1 HB1 HB12 HPB HBr3
              go_upto_block 6 with fail
              go_cut [17] (fun s w4 => w4 = w3 ∧ ∃ j : Nat, j ≤ nk ∧ s = .int .i64 (j : Int) ∧ ∀ m, ks[j]? = some m → m.i = ia ∧ m.k = ib)
              case first =>
                go_wp2_with fail
                go_loopw [17] (fun s w4 => w4 = w3 ∧ ∃ j : Nat, j ≤ nk ∧ s = .int .i64 (j : Int)) (fun s _ => nk - (intOf s).toNat)
                case atStart => exact ⟨rfl, 0, by omega, rfl⟩
                case round =>
                  obtain ⟨rfl, j, hj, rfl⟩ := hrel
                  by_cases hjn : j < nk
                  · obtain ⟨bk, ok, m, hAk, hm, hmc⟩ := (Sl.of_own KM.cs_len HF3.out.klen HF3.out.kown).at hjn
                    have e0 := hmc 0 _ rfl
                    have e1 := hmc 1 _ rfl
                    have HM := Lib.hid hm
                    obtain ⟨mi, mk, mx, mf, mA, mn, mc, mr, mlo, mhi⟩ := m
                    dsimp only [KM.cs] at e0 e1
                    simp only [Nat.add_zero] at e0
                    obtain rfl : Ak = some ⟨bk, ok, none⟩ := hAk
                    clear hm hmc
                    by_cases h1 : mi = ia
                    · have g3 : (mi != ia) = false := by simp [h1]
                      by_cases h2 : mk = ib
                      · have g4 : (mk != ib) = false := by simp [h2]
                        have HH := Lib.hid (And.intro h1 h2)
                        clear h1 h2
                        go_wp2_with fail
                        go_meet
                        case rel =>
                          refine ⟨rfl, j, hj, rfl, fun m hm => ?_⟩
                          rw [HM.out] at hm
                          injection hm with hm
                          subst hm
                          exact HH.out
                      · have g4 : (mk != ib) = true := by simp [h2]
                        clear h1 h2
                        go_wp2_with fail
                        go_roundw
                        case rel => exact ⟨by trivial, j + 1, by omega, by go_num⟩
                        case measure => simp [intOf]; omega
                    · have g3 : (mi != ia) = true := by simp [h1]
                      clear h1
                      go_wp2_with fail
                      go_roundw
                      case rel => exact ⟨by trivial, j + 1, by omega, by go_num⟩
                      case measure => simp [intOf]; omega
                  · obtain rfl : j = nk := by omega
                    go_wp2_with fail
                    go_meet
                    case rel =>
                      refine ⟨rfl, j, hj, rfl, fun m hm => ?_⟩
                      have h1 := (List.getElem?_eq_some_iff.1 hm).1
                      have h2 := HF3.out.klen
                      omega
              case rest =>
                obtain ⟨hw, j, hj, rfl, hjm⟩ := hcut
                obtain rfl : w3 = wc := hw.symm
                clear hw
                have HJ := Lib.hid hjm
                clear hjm
                go_upto_if 106 with fail
                go_cut [12] (fun s w5' => ∃ (Ak' : Option Addr) (nk' ck' : Nat) (ks' : List KM) (m : KM), s = .slice Ak' nk' ck' ∧ nk' ≤ q + 1 ∧ FS0 ⟨N, k, a, b, xa, fa, Aa, t, ca, xb, fb, Ab, u, cb, some ⟨bp, op, none⟩, P, w5.heap.size, w⟩ w5' ∧ Blk w5' w5.heap.size 27 #[.int .i64 xa, .bool false, .slice A n c] ∧ FSt (w5.heap.size + 1) w5' A n c ms Ak' nk' ck' ks' ∧ (∀ m ∈ ks', m.r = comb (opR k) N (restR a m.i) (restR b m.k)) ∧ ks'[j]? = some m ∧ m.r = ro ∧ wr.heap.size ≤ w5'.heap.size)
                case first =>
                  by_cases hjn : j < nk
                  · have g3 : ((j : Int) == (nk : Int)) = false := by simp; omega
                    obtain ⟨m, hm⟩ : ∃ m, ks[j]? = some m := ⟨_, List.getElem?_eq_getElem (by rw [HF3.out.klen]; exact hjn)⟩
                    have Hm : Hid (ks[j]? = some m ∧ m.r = ro) := by
                      refine Lib.hid ⟨hm, ?_⟩
                      obtain ⟨e1, e2⟩ := HJ.out m hm
                      rw [HR.out.kn m (List.mem_of_getElem? hm), e1, e2, ← Hro.out]
                      dsimp only
                      rw [HRA.out, HRB.out]
                      rfl
                    clear hm
                    go_wp2_with fail
                    go_meet
                    case rel => exact ⟨Ak, nk, ck, ks, m, rfl, by omega, HS3.out, HO3.out, HF3.out, HR.out.kn, Hm.out.1, Hm.out.2, hs3⟩
                  · obtain rfl : j = nk := by omega
                    have g3 : ((j : Int) == (j : Int)) = true := by simp
                    have HKl : Hid (∀ z, (Value.slice Ak j ck).ownBlock = some z → w5.heap.size + 1 ≤ z ∧ z < w3.heap.size) := Lib.hid (fun z hz => ⟨(own_lt HF3.out.kown hz).1, (own_lt HF3.out.kown hz).2.1⟩)
                    have HPl : Hid (∀ z, (Value.slice A n c).ownBlock = some z → z < w3.heap.size) := Lib.hid (fun z hz => (own_lt HF3.out.pt.own hz).2.1)
                    have HVl : Hid (∀ m ∈ ms, ∀ z, m.vv.ownBlock = some z → z < w3.heap.size) := Lib.hid (fun m hm z hz => (own_lt (HF3.out.pt.ok m hm).own hz).2.1)
                    obtain ⟨S, HS⟩ : ∃ S : Nat → Prop, Hid ((fun z => (Value.slice Ak j ck).ownBlock = some z) = S) := ⟨_, rfl⟩
                    have HSl : Hid (∀ z, S z → w5.heap.size + 1 ≤ z ∧ z < w3.heap.size) := by rw [← HS.out]; exact HKl
                    have hwO3 : w.heap.size + 3 ≤ w5.heap.size := HS3.out.hs.1
                    go_upto_region 25 with fail
                    refine wp_region_plan S (.one [0, 1, 2, 3, 4, 5, 7, 8] 6 (.one [] 9 (.one [] 10 (.one [11] 12 (.one [] 13 (.last [14])))))) (by kernel_rfl) (by kernel_rfl) (fun _ _ d _ _ h => by cases d <;> exact h) ?_
                    have qA : ∀ (y : LaterS S w3.drew) z, (afterS S w3.drew y).cell? ⟨w.heap.size, z, none⟩ = (#[.int .i64 xa, .bool fa, .slice Aa t ca] : Array Value)[z]? := fun y z => (HS3.out.ba.drew.but y.but (fun h => by have := HSl.out _ h; dsimp only at this; omega)).cell z
                    have qB : ∀ (y : LaterS S w3.drew) z, (afterS S w3.drew y).cell? ⟨w.heap.size + 1, z, none⟩ = (#[.int .i64 xb, .bool fb, .slice Ab u cb] : Array Value)[z]? := fun y z => (HS3.out.bb.drew.but y.but (fun h => by have := HSl.out _ h; dsimp only at this; omega)).cell z
                    have hb33 : Below w3.heap.size w3 w3.drew := (Below.refl _ _).drew
                    have HB33 := Lib.hid hb33
                    generalize hW : w3.drew = w3d at *
                    clear hW hb33
                    unfold wpPlan
                    simp only [pickOps, opAt, List.map_cons, List.map_nil, List.getElem?_toArray, List.getElem?_cons_zero, List.getElem?_cons_succ, Option.getD_some]
                    repeat (go_big_quiet_step (fail))
                    refine wpQuiet_nil ?_
                    clear qA qB
                    go_wp2_with (first | (go_at_call 170; refine (frest_any a xa fa Aa t ca ia _ (HS3.out.ra.s.keep (keeps_of HB33.out)) hiaR.2 hiaR.1 hxa12).mono ?_; rintro e w6 ⟨x6, f6, A6, n6, c6, rfl, hR6, hb6⟩; rw [HRA.out] at hR6))
                    refine ⟨But.of_below hb6, ?_⟩
                    have HR6 := Lib.hid hR6
                    have HB6 := Lib.hid (Below.next HB33.out hb6)
                    clear hR6 hb6
                    unfold wpPlan
                    simp only [pickOps, opAt, List.map_nil, List.getElem?_toArray, List.getElem?_cons_zero, List.getElem?_cons_succ, Option.getD_some]
                    refine wpQuiet_nil ?_
                    go_wp2_with (first | (go_at_call 170; refine (frest_any b xb fb Ab u cb ib _ (HS3.out.rb.s.keep (keeps_of HB6.out)) hibR.2 hibR.1 hxb12).mono ?_; rintro e w7 ⟨x7, f7, A7, n7, c7, rfl, hR7, hb7⟩; rw [HRB.out] at hR7))
                    refine ⟨But.of_below hb7, ?_⟩
                    have HR7 := Lib.hid hR7
                    have HB7 := Lib.hid (Below.next HB6.out hb7)
                    have HR67 := Lib.hid (HR6.out.keep (keeps_of hb7))
                    clear hR7 hb7 HR6
                    unfold wpPlan
                    simp only [pickOps, opAt, List.map_nil, List.getElem?_toArray, List.getElem?_cons_zero, List.getElem?_cons_succ, Option.getD_some]
                    refine wpQuiet_nil ?_
                    go_wp2_with (first | (go_at_call 149; refine (HIH.out (a.at_ (N : Int) ⟨vk, vi, vt⟩) (b.at_ (N : Int) ⟨vk, vi, vt⟩) x6 f6 A6 n6 c6 x7 f7 A7 n7 c7 _ HR67.out HR7.out (HF.out.1.at_ _) (HF.out.2.1.at_ _) (within_at HF.out.2.2.1 _) (within_at HF.out.2.2.2 _)).mono ?_; rintro e w8 ⟨x8, f8, A8, n8, c8, rfl, hF8, hb8⟩))
                    refine ⟨But.of_below hb8, ?_⟩
                    have hro : comb (opR k) N (a.at_ (N : Int) ⟨vk, vi, vt⟩) (b.at_ (N : Int) ⟨vk, vi, vt⟩) = ro := Hro.out
                    rw [hro] at hF8
                    have HF8 := Lib.hid hF8
                    have HB8 := Lib.hid (Below.next HB7.out hb8)
                    have hs7 : w3.heap.size ≤ w7.heap.size := HB7.out.size
                    have hs8 : w3.heap.size ≤ w8.heap.size := HB8.out.size
                    have HST8 := Lib.hid (HF3.out.below HB8.out)
                    clear hF8 hb8 hro HR67 HR7
                    unfold wpPlan
                    simp only [pickOps, opAt, List.map_cons, List.map_nil, List.getElem?_toArray, List.getElem?_cons_zero, List.getElem?_cons_succ, Option.getD_some]
                    repeat (go_big_quiet_step (fail))
                    refine wpQuiet_nil ?_
                    go_wp2_with fail
                    refine ⟨But.alloc _ _, ?_⟩
                    unfold wpPlan
                    simp only [pickOps, opAt, List.map_nil, List.getElem?_toArray, List.getElem?_cons_zero, List.getElem?_cons_succ, Option.getD_some]
                    refine wpQuiet_nil ?_
                    go_wp2_with (at_builtin; refine wpList_append_one2 (by rfl) (.tmp 107) (.tmp 119) _ (by rfl) (w5.heap.size + 1) 177 im _ 5 56 Tryz.underlying174 him hm0 hm1 hm2 (by rfl) (by omega) (.slice Ak j ck) j _ (by rfl) w8 #[.int .i64 ia, .int .i64 ib, .int .i64 x8, .bool f8, .slice A8 n8 c8] HST8.out.kown w8.heap.size (by rfl) (by rfl) (by rfl) (one_km (KM.mk ia ib x8 f8 A8 n8 c8 ro w7.heap.size w8.heap.size)) (by simp only [maxLen]; omega) (by omega) (by omega) ?_; intro g9 cap9 w9 hown9 hg9 hB9 hat9 hlt9)
                    have hbu9 : But S (w8.alloc (.cells #[.int .i64 ia, .int .i64 ib, .int .i64 x8, .bool f8, .slice A8 n8 c8] 177)) w9 := But.of_grown hg9 (fun z hz => by rw [← HS.out]; exact hz)
                    refine ⟨hbu9, ?_⟩
                    have HBU9 : Hid (But S w8 w9) := Lib.hid ((But.alloc _ _).trans hbu9)
                    have HOWN9 := Lib.hid hown9
                    have HAT9 := Lib.hid hat9
                    have hs9 : w8.heap.size ≤ w9.heap.size := HBU9.out.size
                    have HS9 : Hid (FS0 _ w9) := Lib.hid ((HS3.out.below HB8.out).but HBU9.out (fun z hz => by have := HSl.out z hz; dsimp only; omega))
                    have HO9 : Hid (Blk w9 _ _ _) := Lib.hid ((HO3.out.below HB8.out).but HBU9.out (fun hz => by have := HSl.out _ hz; omega))
                    have HF9 : Hid (FSt (w5.heap.size + 1) w9 A n c ms (some ⟨g9, 0, none⟩) (j + 1) cap9 (ks ++ [KM.mk ia ib x8 f8 A8 n8 c8 ro w7.heap.size w8.heap.size])) := by
                      refine Lib.hid (HST8.out.known ?_ (HBU9.out.wide (fun z hz => by rw [← HS.out] at hz; exact hz)) (fun z hz => ?_) HF8.out (by omega) (Nat.le_refl _) (fun z h1 h2 => ?_))
                      · rw [List.flatMap_append]
                        simpa [KM.cs] using HOWN9.out
                      · simp only [Value.ownBlock, Option.some.injEq] at hz
                        subst hz
                        rcases HAT9.out with e | e
                        · exact .inl e
                        · exact .inr (by omega)
                      · exact ⟨fun hz => by have := HKl.out z hz; omega, fun hz => by have := HPl.out z hz; omega, fun m hm hz => by have := HVl.out m hm z hz; omega⟩
                    have hkl : ks.length = j := HF3.out.klen
                    have HKL := Lib.hid hkl
                    clear hown9 hg9 hB9 hat9 hbu9 HST8 HOWN9 HAT9 HB33 HB6 HB7 hkl
                    unfold wpPlan
                    simp only [pickOps, opAt, List.map_cons, List.map_nil, List.getElem?_toArray, List.getElem?_cons_zero, List.getElem?_cons_succ, Option.getD_some]
                    repeat (go_big_quiet_step (fail))
                    refine wpQuiet_nil ?_
                    go_wp2_with fail
                    go_meet
                    case rel =>
                      refine ⟨some ⟨g9, 0, none⟩, j + 1, cap9, ks ++ [KM.mk ia ib x8 f8 A8 n8 c8 ro w7.heap.size w8.heap.size], KM.mk ia ib x8 f8 A8 n8 c8 ro w7.heap.size w8.heap.size, rfl, by omega, HS9.out, HO9.out, HF9.out, fun m hm => ?_, ?_, rfl, by omega⟩
                      · rcases List.mem_append.1 hm with hm | hm
                        · exact HR.out.kn m hm
                        · rw [List.mem_singleton.1 hm]
                          dsimp only
                          rw [HRA.out, HRB.out]
                          exact Hro.out.symm
                      · rw [List.getElem?_append_right (by rw [HKL.out]; exact Nat.le_refl _), HKL.out, Nat.sub_self]
                        rfl
                case rest =>
                  obtain ⟨Ak', nk', ck', ks', m, rfl, hnk', hs0, hbo, hst, hkn, hm, hmr, hsz⟩ := hcut
                  have hjn : j < nk' := by rw [← hst.klen]; exact (List.getElem?_eq_some_iff.1 hm).1
                  obtain ⟨bk, ok, m', hAk, hm', hmc⟩ := (Sl.of_own KM.cs_len hst.klen hst.kown).at hjn
                  rw [hm] at hm'
                  injection hm' with hm'
                  subst hm'
                  obtain rfl : Ak' = some ⟨bk, ok, none⟩ := hAk
                  have HKR := Lib.hid (hst.krg m (List.mem_of_getElem? hm)).1
                  obtain ⟨mi, mk, mx, mf, mA, mn, mc, mr, mlo, mhi⟩ := m
                  obtain rfl : mr = ro := hmr
                  dsimp only at HKR
                  have e2 := hmc 2 _ rfl
                  have e3 := hmc 3 _ rfl
                  have e4 := hmc 4 _ rfl
                  have HS4 := Lib.hid hs0
                  have HO4 := Lib.hid hbo
                  have HF4 := Lib.hid hst
                  have HKN := Lib.hid hkn
                  have HSM : Hid (∀ m ∈ ms, Sm m.r ∧ m.vs.length ≤ q) := Lib.hid (parts_sm HR.out.pr (fun p => comb_sm _ _ _ _ (within_at HF.out.2.2.1 p) (within_at HF.out.2.2.2 p)))
                  have HSr : Hid (Sm mr) := Lib.hid (by rw [← Hro.out]; exact comb_sm _ _ _ _ (within_at HF.out.2.2.1 _) (within_at HF.out.2.2.2 _))
                  have HPR : Hid (ms.map PM.pr = partsTo (FC.at_ ⟨N, k, a, b, xa, fa, Aa, t, ca, xb, fb, Ab, u, cb, some ⟨bp, op, none⟩, P, w5.heap.size, w⟩) P q ∧ n ≤ q) := Lib.hid ⟨HR.out.pr, HR.out.le⟩
                  have hnq : n ≤ q := HR.out.le
                  clear hs0 hbo hst hkn hm hmc HS3 HO3 HF3 HR HJ hs3 HRA HRB Hia Hib hiaR hibR
                  go_wp2_with fail
                  have hba : Below wc.heap.size wc (wc.alloc (.cells #[.int .i64 mx, .bool mf, .slice mA mn mc] 27)) := (Below.refl _ _).alloc (Nat.le_refl _) _
                  refine (fnone_any mx mf mA mn mc mr _ (HKR.out.s.keep (keeps_of hba))).mono ?_
                  rintro e w6 ⟨rfl, hb6⟩
                  have hbc6 := Below.next hba hb6
                  have HRB6 := Lib.hid ((Blk.new wc 27 #[.int .i64 mx, .bool mf, .slice mA mn mc]).below hb6)
                  have HS6 : Hid (FS0 _ w6) := Lib.hid (HS4.out.below hbc6)
                  have HO6 : Hid (Blk w6 _ _ _) := Lib.hid (HO4.out.below hbc6)
                  have HF6 : Hid (FSt _ w6 _ _ _ _ _ _ _ _) := Lib.hid (HF4.out.below hbc6)
                  have HR6 : Hid (RgS w6 mx mf mA mn mc mr) := Lib.hid (HKR.out.s.keep (keeps_of hbc6))
                  have hs6 := hbc6.size
                  obtain ⟨RB, HRBl⟩ : ∃ z, Hid (wc.heap.size = z) := ⟨_, rfl⟩
                  rw [HRBl.out] at HRB6
                  obtain ⟨v, Hv⟩ : ∃ z, Hid (mr.nix = z) := ⟨_, rfl⟩
                  rw [Hv.out]
                  clear e2 e3 e4 hba hb6 hbc6 HS4 HO4 HF4 HKR
                  cases v
                  rotate_left
                  · go_wp2_with fail
                    go_roundw
                    case rel =>
                      refine ⟨q + 1, nk', some ⟨bk, ok, none⟩, ck', by omega, by go_num, rfl, hnk', Lib.hid ⟨A, n, c, ms, ks', HS6.out, HO6.out, HF6.out, ?_, HKN.out, by omega⟩⟩
                      rw [HPR.out.1]
                      exact (partsTo_nix HPq.out (by rw [Hro.out]; exact Hv.out)).symm
                    case measure => simp [intOf]; omega
                  · have HRBl' := HRBl
                    go_upto_block 8 with fail
                    rw [HRBl.out]
                    go_cut [17] (fun s w7 => Below w6.heap.size w6 w7 ∧ ∃ j2 : Nat, j2 ≤ n ∧ s = .int .i64 (j2 : Int) ∧ (∀ m ∈ ms.take j2, m.r ≠ mr) ∧ ∀ m, ms[j2]? = some m → m.r = mr)
                    case first =>
                      go_wp2_with fail
                      go_loopw [17] (fun s w7 => Below w6.heap.size w6 w7 ∧ ∃ j2 : Nat, j2 ≤ n ∧ s = .int .i64 (j2 : Int) ∧ Hid (∀ m ∈ ms.take j2, m.r ≠ mr)) (fun s _ => n - (intOf s).toNat)
                      case atStart => exact ⟨Below.refl _ _, 0, by omega, rfl, Lib.hid (by simp)⟩
                      case round =>
                        obtain ⟨hb7, j2, hj2, rfl, HNO⟩ := hrel
                        have zO := (HO6.out.below hb7).drew.cell
                        have zR := (HRB6.out.below hb7).drew.cell
                        have HB7 : Hid (Below w6.heap.size w6 wr.drew) := Lib.hid hb7.drew
                        have hnc := (own_okS HF6.out.pt.own).1
                        clear hb7
                        by_cases hjn2 : j2 < n
                        · obtain ⟨b4, o4, m2, hA4, hm2, hmc2⟩ := ((Sl.of_own PM.cs_len HF6.out.pt.len HF6.out.pt.own).keep (keeps_of HB7.out)).at hjn2
                          have HM2 := Lib.hid hm2
                          have HPM := Lib.hid (HF6.out.pt.ok m2 (List.mem_of_getElem? hm2)).rg
                          have HSM2 := Lib.hid (HSM.out m2 (List.mem_of_getElem? hm2)).1
                          obtain ⟨m2A, m2n, m2c, m2v, m2x, m2f, m2A2, m2n2, m2c2, m2r, m2lo, m2hi⟩ := m2
                          have e1 := hmc2 1 _ rfl
                          have e2 := hmc2 2 _ rfl
                          have e3 := hmc2 3 _ rfl
                          dsimp only at HPM HSM2
                          obtain rfl : A = some ⟨b4, o4, none⟩ := hA4
                          have g5 : decide ((j2 : Int) < (n : Int)) = true := by simp; omega
                          have hca := @cell_after wr.drew
                          obtain ⟨v2, Hv2⟩ : ∃ z, Hid (decide (m2r = mr) = z) := ⟨_, rfl⟩
                          clear hm2 hmc2
                          go_wp2
                          refine wp_region_seg [([0, 1, 2, 3, 4, 5, 6, 7, 8, 9, 10, 11, 12], 13)] [14, 15] (by kernel_rfl) (by kernel_rfl) (fun _ _ d _ _ h => by cases d <;> exact h) ?_
                          simp only [pickSegs, pickOps, opAt, List.map_cons, List.map_nil, List.getElem?_toArray, List.getElem?_cons_zero, List.getElem?_cons_succ, Option.getD_some]
                          unfold wpBlocks
                          repeat (go_big_quiet_step (fail))
                          refine wpQuiet_nil ?_
                          clear hca zO zR e1 e2 e3
                          go_wp2_with (first | (go_at_call 25; refine (fsame_any m2r m2x m2f m2A2 m2n2 m2c2 mx mf mA mn mc mr _ (HPM.out.s.keep (keeps_of HB7.out)) (HR6.out.keep (keeps_of HB7.out)) HSM2.out HSr.out).mono ?_; rintro e w8 ⟨rfl, hb8⟩; rw [Hv2.out]))
                          refine ⟨hb8, ?_⟩
                          have HB8 := Lib.hid (Below.next HB7.out hb8)
                          clear hb8
                          unfold wpBlocks
                          cases v2
                          · repeat (go_big_quiet_step (fail))
                            refine wpQuiet_nil ?_
                            go_wp2_with fail
                            go_roundw
                            case rel =>
                              refine ⟨HB8.out, j2 + 1, by omega, by go_num, Lib.hid fun m hm => ?_⟩
                              rw [take_snoc' HM2.out] at hm
                              rcases List.mem_append.1 hm with hm | hm
                              · exact HNO.out m hm
                              · rw [List.mem_singleton.1 hm]
                                have := Hv2.out
                                simpa using this
                            case measure => simp [intOf]; omega
                          · repeat (go_big_quiet_step (fail))
                            refine wpQuiet_nil ?_
                            go_wp2_with fail
                            go_meet
                            case rel =>
                              refine ⟨HB8.out, j2, hj2, rfl, HNO.out, fun m hm => ?_⟩
                              rw [HM2.out] at hm
                              injection hm with hm
                              rw [← hm]
                              have := Hv2.out
                              simpa using this
                        · obtain rfl : j2 = n := by omega
                          have g5 : decide ((j2 : Int) < (j2 : Int)) = false := by simp
                          have hca := @cell_after wr.drew
                          go_wp2
                          refine wp_region_seg [([0, 1, 2, 3, 4, 5, 6, 7, 8, 9, 10, 11, 12], 13)] [14, 15] (by kernel_rfl) (by kernel_rfl) (fun _ _ d _ _ h => by cases d <;> exact h) ?_
                          simp only [pickSegs, pickOps, opAt, List.map_cons, List.map_nil, List.getElem?_toArray, List.getElem?_cons_zero, List.getElem?_cons_succ, Option.getD_some]
                          unfold wpBlocks
                          repeat (go_big_quiet_step (fail))
                          refine wpQuiet_nil ?_
                          clear hca zO zR
                          go_wp2_with fail
                          refine ⟨Below.refl _ _, ?_⟩
                          unfold wpBlocks
                          repeat (go_big_quiet_step (fail))
                          refine wpQuiet_nil ?_
                          go_wp2_with fail
                          go_meet
                          case rel =>
                            refine ⟨HB7.out, j2, hj2, rfl, HNO.out, fun m hm => ?_⟩
                            have h1 := (List.getElem?_eq_some_iff.1 hm).1
                            have h2 := HF6.out.pt.len
                            omega
                    case rest =>
                      obtain ⟨hb7, j2, hj2, rfl, hno, hyes⟩ := hcut
                      obtain ⟨w7, hw7⟩ : ∃ z, z = wc := ⟨_, rfl⟩
                      subst hw7
                      have HNO := Lib.hid (And.intro hno hyes)
                      have HS7 : Hid (FS0 _ _) := Lib.hid (HS6.out.below hb7)
                      have HO7 : Hid (Blk _ _ _ _) := Lib.hid (HO6.out.below hb7)
                      have HF7 : Hid (FSt _ _ _ _ _ _ _ _ _ _) := Lib.hid (HF6.out.below hb7)
                      have HR7 := Lib.hid (HR6.out.keep (keeps_of hb7))
                      have HRB7 := Lib.hid (HRB6.out.below hb7)
                      have hs7 := hb7.size
                      clear hno hyes hb7 HS6 HO6 HF6 HR6 HRB6
                      have HRO : Hid (j2 < n → mr ∈ (partsTo (FC.at_ ⟨N, k, a, b, xa, fa, Aa, t, ca, xb, fb, Ab, u, cb, some ⟨bp, op, none⟩, P, w5.heap.size, w⟩) P q).map (·.2)) := Lib.hid fun h => by
                        have h1 : ms[j2]? = some (ms[j2]'(by rw [HF7.out.pt.len]; exact h)) := List.getElem?_eq_getElem _
                        have h2 := HNO.out.2 _ h1
                        rw [← HPR.out.1, prs_r, ← h2]
                        exact List.mem_map.2 ⟨_, List.mem_of_getElem? h1, rfl⟩
                      have HRN : Hid (j2 = n → mr ∉ (partsTo (FC.at_ ⟨N, k, a, b, xa, fa, Aa, t, ca, xb, fb, Ab, u, cb, some ⟨bp, op, none⟩, P, w5.heap.size, w⟩) P q).map (·.2)) := Lib.hid fun h hm => by
                        rw [← HPR.out.1, prs_r] at hm
                        obtain ⟨m, hm, e⟩ := List.mem_map.1 hm
                        refine HNO.out.1 m ?_ e
                        rw [h, List.take_of_length_le (by rw [HF7.out.pt.len]; exact Nat.le_refl _)]
                        exact hm
                      have zo0 := HO7.out.cell
                      go_upto_if 150 with fail
                      clear zo0
                      go_cut [] (fun w8 => ∃ (A' : Option Addr) (n' c' : Nat) (ms' : List PM) (m : PM), FS0 ⟨N, k, a, b, xa, fa, Aa, t, ca, xb, fb, Ab, u, cb, some ⟨bp, op, none⟩, P, w5.heap.size, w⟩ w8 ∧ Blk w8 w5.heap.size 27 #[.int .i64 xa, .bool false, .slice A' n' c'] ∧ FSt (w5.heap.size + 1) w8 A' n' c' ms' (some ⟨bk, ok, none⟩) nk' ck' ks' ∧ ms'.map PM.pr = roomP (partsTo (FC.at_ ⟨N, k, a, b, xa, fa, Aa, t, ca, xb, fb, Ab, u, cb, some ⟨bp, op, none⟩, P, w5.heap.size, w⟩) P q) mr ∧ ms'[j2]? = some m ∧ m.r = mr ∧ n' ≤ q + 1)
                      case first =>
                        by_cases hjn2 : j2 < n
                        · have g5 : ((j2 : Int) == (n : Int)) = false := by simp; omega
                          obtain ⟨m, hm⟩ : ∃ m, ms[j2]? = some m := ⟨_, List.getElem?_eq_getElem (by rw [HF7.out.pt.len]; exact hjn2)⟩
                          have HMM := Lib.hid (And.intro hm (HNO.out.2 m hm))
                          have HIN := Lib.hid (HRO.out hjn2)
                          clear hm
                          go_wp2_with fail
                          go_meet
                          case rel =>
                            refine ⟨A, n, c, ms, m, HS7.out, HO7.out, HF7.out, ?_, HMM.out.1, HMM.out.2, by omega⟩
                            rw [roomP_of Hv.out, if_pos HIN.out]
                            exact HPR.out.1
                        · obtain rfl : j2 = n := by omega
                          have g5 : ((j2 : Int) == (j2 : Int)) = true := by simp
                          have HNI := Lib.hid (HRN.out rfl)
                          have HKl : Hid (∀ z, (Value.slice (some ⟨bk, ok, none⟩) nk' ck').ownBlock = some z → z < w7.heap.size) := Lib.hid (fun z hz => (own_lt HF7.out.kown hz).2.1)
                          have HPl : Hid (∀ z, (Value.slice A j2 c).ownBlock = some z → w5.heap.size + 1 ≤ z ∧ z < w7.heap.size) := Lib.hid (fun z hz => ⟨(own_lt HF7.out.pt.own hz).1, (own_lt HF7.out.pt.own hz).2.1⟩)
                          have HVl : Hid (∀ m ∈ ms, ∀ z, m.vv.ownBlock = some z → z < w7.heap.size) := Lib.hid (fun m hm z hz => (own_lt (HF7.out.pt.ok m hm).own hz).2.1)
                          obtain ⟨S, HS⟩ : ∃ S : Nat → Prop, Hid ((fun z => (Value.slice A j2 c).ownBlock = some z) = S) := ⟨_, rfl⟩
                          have HSl : Hid (∀ z, S z → w5.heap.size + 1 ≤ z ∧ z < w7.heap.size) := by rw [← HS.out]; exact HPl
                          have hSR : ¬ S RB := by
                            rw [← HS.out]
                            intro hz
                            obtain ⟨_, _, cs, h1⟩ := own_lt HF7.out.pt.own hz
                            have h2 := HRB7.out
                            unfold Blk at h2
                            rw [h1] at h2
                            injection h2 with h2
                            injection h2 with _ h2
                            exact absurd h2 (by decide)
                          go_upto_region 32 with fail
                          refine wp_region_plan S (.one [0, 1, 2] 3 (.one [4] 5 (.one [] 6 (.fin [7] 8)))) (by kernel_rfl) (by kernel_rfl) (fun _ _ d _ _ h => by cases d <;> exact h) ?_
                          have qO : ∀ (y : LaterS S w7.drew) z, (afterS S w7.drew y).cell? ⟨w5.heap.size, z, none⟩ = (#[.int .i64 xa, .bool false, .slice A j2 c] : Array Value)[z]? := fun y z => (HO7.out.drew.but y.but (fun h => by have := HSl.out _ h; omega)).cell z
                          have qR : ∀ (y : LaterS S w7.drew) z, (afterS S w7.drew y).cell? ⟨RB, z, none⟩ = (#[.int .i64 mx, .bool mf, .slice mA mn mc] : Array Value)[z]? := fun y z => (HRB7.out.drew.but y.but hSR).cell z
                          have hb77 : Below w7.heap.size w7 w7.drew := (Below.refl _ _).drew
                          have HB77 := Lib.hid hb77
                          generalize hW : w7.drew = w7d at *
                          clear hW hb77 hSR
                          unfold wpPlan
                          simp only [pickOps, opAt, List.map_cons, List.map_nil, List.getElem?_toArray, List.getElem?_cons_zero, List.getElem?_cons_succ, Option.getD_some]
                          repeat (go_big_quiet_step (fail))
                          refine wpQuiet_nil ?_
                          clear qO qR
                          go_wp2_with (first | (go_at_call 171; refine (fcopy_any mr mx mf mA mn mc _ (HR7.out.keep (keeps_of HB77.out)) HSr.out).mono ?_; rintro e w8 ⟨x8, f8, A8, n8, c8, rfl, hF8, hb8⟩))
                          refine ⟨But.of_below hb8, ?_⟩
                          have HF8 := Lib.hid hF8
                          have HB8 := Lib.hid (Below.next HB77.out hb8)
                          have hs7d : w7.heap.size ≤ w7d.heap.size := HB77.out.size
                          have hs8 : w7d.heap.size ≤ w8.heap.size := hb8.size
                          have HST8 := Lib.hid (HF7.out.below HB8.out)
                          have HO8 : Hid (Blk w8 _ _ _) := Lib.hid (HO7.out.below HB8.out)
                          have hwO7 : w5.heap.size + 1 ≤ w7.heap.size := HS7.out.hs.2
                          clear hF8 hb8
                          unfold wpPlan
                          simp only [pickOps, opAt, List.map_cons, List.map_nil, List.getElem?_toArray, List.getElem?_cons_zero, List.getElem?_cons_succ, Option.getD_some]
                          repeat (go_big_quiet_step (fail))
                          refine wpQuiet_nil ?_
                          go_wp2_with fail
                          refine ⟨But.alloc _ _, ?_⟩
                          unfold wpPlan
                          simp only [pickOps, opAt, List.map_nil, List.getElem?_toArray, List.getElem?_cons_zero, List.getElem?_cons_succ, Option.getD_some]
                          refine wpQuiet_nil ?_
                          go_wp2_with (at_builtin; refine wpList_append_one2 (by rfl) (.tmp 152) (.tmp 156) _ (by rfl) (w5.heap.size + 1) 86 ip _ 4 64 Tryz.underlying25 hip hp0 hp1 hp2 (by rfl) (by omega) (.slice A j2 c) j2 _ (by rfl) w8 #[.slice none 0 0, .int .i64 x8, .bool f8, .slice A8 n8 c8] HST8.out.pt.own w8.heap.size (by rfl) (by rfl) (by rfl) (one_pm (PM.mk none 0 0 [] x8 f8 A8 n8 c8 mr w7d.heap.size w8.heap.size)) (by simp only [maxLen]; omega) (by omega) (by omega) ?_; intro g9 cap9 w9 hown9 hg9 hB9 hat9 hlt9)
                          have hbu9 : But S (w8.alloc (.cells #[.slice none 0 0, .int .i64 x8, .bool f8, .slice A8 n8 c8] 86)) w9 := But.of_grown hg9 (fun z hz => by rw [← HS.out]; exact hz)
                          refine ⟨hbu9, ?_⟩
                          have HBU9 : Hid (But S w8 w9) := Lib.hid ((But.alloc _ _).trans hbu9)
                          have HOWN9 := Lib.hid hown9
                          have HAT9 := Lib.hid hat9
                          have HO9 : Hid (Blk w9 w5.heap.size 27 #[.int .i64 xa, .bool false, .slice A j2 c]) := Lib.hid (HO8.out.but HBU9.out (fun hz => by have := HSl.out _ hz; omega))
                          have hs9 : w8.heap.size ≤ w9.heap.size := HBU9.out.size
                          clear hown9 hg9 hB9 hat9 hbu9 HO8
                          unfold wpPlan
                          simp only [pickOps, opAt, List.map_cons, List.map_nil, List.getElem?_toArray, List.getElem?_cons_zero, List.getElem?_cons_succ, Option.getD_some]
                          have hoc := HO9.out.cell
                          have hof := HO9.out.free
                          repeat (go_big_quiet_step (fail))
                          refine wpQuiet_nil ?_
                          go_wp2_with fail
                          go_meet
                          case rel =>
                            have hbz : But (fun z => z = w5.heap.size) w9 (w9.setCell ⟨w5.heap.size, 2, none⟩ (.slice (some ⟨g9, 0, none⟩) (j2 + 1) cap9)) := But.set (S := fun z => z = w5.heap.size) _ (p := ⟨w5.heap.size, 2, none⟩) rfl _
                            have hsz10 : (w9.setCell ⟨w5.heap.size, 2, none⟩ (.slice (some ⟨g9, 0, none⟩) (j2 + 1) cap9)).heap.size = w9.heap.size := by simp [World.setCell]
                            have HOW10 := own_but HOWN9.out hbz (fun z hz hs => by have := (own_lt HOWN9.out hz).1; omega)
                            have hb810 : But (fun z => (Value.slice A j2 c).ownBlock = some z ∨ z < w5.heap.size + 1) w8 (w9.setCell ⟨w5.heap.size, 2, none⟩ (.slice (some ⟨g9, 0, none⟩) (j2 + 1) cap9)) :=
                              (HBU9.out.wide (fun z hz => .inl (by rw [← HS.out] at hz; exact hz))).trans (hbz.wide (fun z hz => .inr (by omega)))
                            have hloc : ∀ z, (Value.slice (some ⟨g9, 0, none⟩) (j2 + 1) cap9).ownBlock = some z → (Value.slice A j2 c).ownBlock = some z ∨ w8.heap.size ≤ z := fun z hz => by
                              simp only [Value.ownBlock, Option.some.injEq] at hz
                              subst hz
                              rcases HAT9.out with e | e
                              · exact .inl e
                              · exact .inr (by omega)
                            have hPT := HST8.out.pt.add (x := x8) (f := f8) (A2 := A8) (n2 := n8) (c2 := c8) (lo := w7d.heap.size) (hi := w8.heap.size) (r := mr) (by rw [List.flatMap_append]; simpa [PM.cs] using HOW10) hb810 hloc HF8.out (by omega) (Nat.le_refl _) (fun z h1 h2 => ⟨fun hz => by have := HPl.out z hz; omega, fun m hm hz => by have := HVl.out m hm z hz; omega⟩)
                            refine ⟨some ⟨g9, 0, none⟩, j2 + 1, cap9, ms ++ [PM.mk none 0 0 [] x8 f8 A8 n8 c8 mr w7d.heap.size w8.heap.size], PM.mk none 0 0 [] x8 f8 A8 n8 c8 mr w7d.heap.size w8.heap.size, ?_, HO9.out.set_ 2 _, ?_, ?_, ?_, rfl, by omega⟩
                            · exact ((HS7.out.below HB8.out).but HBU9.out (fun z hz => by have := HSl.out z hz; dsimp only; omega)).but hbz (fun z hz => by dsimp only; omega)
                            · refine HST8.out.step hPT (hb810.wide (fun z hz => ?_)) hloc (fun m' hm' z hz => ?_) (fun m' hm' => ?_)
                              · rcases hz with hz | hz
                                · exact .inl hz
                                · exact .inr (.inr hz)
                              · rcases List.mem_append.1 hm' with hm' | hm'
                                · exact .inl ⟨m', hm', hz⟩
                                · rw [List.mem_singleton] at hm'
                                  subst hm'
                                  simp [PM.vv, Value.ownBlock] at hz
                              · rcases List.mem_append.1 hm' with hm' | hm'
                                · exact .inl ⟨m', hm', rfl, rfl⟩
                                · rw [List.mem_singleton] at hm'
                                  subst hm'
                                  exact .inr fun z h1 h2 hz => by
                                    have := HKl.out z hz
                                    dsimp only at h1
                                    omega
                            · rw [roomP_of Hv.out, if_neg HNI.out, List.map_append, HPR.out.1]
                              rfl
                            · have hl : ms.length = j2 := HF7.out.pt.len
                              rw [List.getElem?_append_right (by omega), hl, Nat.sub_self]
                              rfl
                      case rest =>
                        obtain ⟨A', n', c', ms', m, hs0, hbo, hst, hpr, hm, hmr, hn'⟩ := hcut
                        have HS8 := Lib.hid hs0
                        have HO8 := Lib.hid hbo
                        have HF8 := Lib.hid hst
                        have HPR8 := Lib.hid hpr
                        have HM := Lib.hid (And.intro hm hmr)
                        have hjn2 : j2 < n' := by rw [← hst.pt.len]; exact (List.getElem?_eq_some_iff.1 hm).1
                        obtain ⟨gq, capq, hvq, hgq, hgl⟩ := hst.pt.own.form (by omega)
                        obtain ⟨rfl, rfl⟩ : A' = some ⟨gq, 0, none⟩ ∧ c' = capq := by injection hvq with h1 h2 h3; exact ⟨h1, h3⟩
                        obtain ⟨b4, o4, m2, hA4, hm2, hmc2⟩ := (Sl.of_own PM.cs_len hst.pt.len hst.pt.own).at hjn2
                        rw [hm] at hm2
                        injection hm2 with hm2
                        subst hm2
                        obtain ⟨rfl, rfl⟩ : gq = b4 ∧ 0 = o4 := by injection hA4 with h; injection h with h1 h2; exact ⟨h1, h2⟩
                        have e0 := hmc2 0 _ rfl
                        simp only [Nat.zero_add, Nat.add_zero] at e0
                        have HMO := Lib.hid (hst.pt.ok m (List.mem_of_getElem? hm))
                        have hvl : m.vs.length ≤ q := room_vs hpr m (List.mem_of_getElem? hm)
                        have HML := Lib.hid (HMO.out.len)
                        obtain ⟨mA1, HmA⟩ : ∃ z, Hid (m.A1 = z) := ⟨_, rfl⟩
                        obtain ⟨mn1, Hmn⟩ : ∃ z, Hid (m.n1 = z) := ⟨_, rfl⟩
                        obtain ⟨mc1, Hmc⟩ : ∃ z, Hid (m.c1 = z) := ⟨_, rfl⟩
                        rw [HmA.out, Hmn.out, Hmc.out] at e0
                        have hmn1 : mn1 ≤ q := by rw [← Hmn.out, ← HMO.out.len]; exact hvl
                        have HOWv : Hid (wc.ownsRow (w5.heap.size + 1) 90 7 (.slice mA1 mn1 mc1) mn1 (m.vs.flatMap Iv.cs)) := by
                          have := HMO.out.own
                          unfold PM.vv at this
                          rw [HmA.out, Hmn.out, Hmc.out] at this
                          exact Lib.hid this
                        have hnc := (own_okS hst.pt.own).1
                        have hwO8 : w5.heap.size + 1 ≤ wc.heap.size := hs0.hs.2
                        clear hs0 hbo hst hpr hm hmr hvq hA4 hmc2 hvl HS7 HO7 HF7 HR7 HRB7 HNO HRO HRN hs7
                        obtain ⟨S, HS⟩ : ∃ S : Nat → Prop, Hid ((fun z => (Value.slice mA1 mn1 mc1).ownBlock = some z) = S) := ⟨_, rfl⟩
                        have HSl : Hid (∀ z, S z → w5.heap.size + 1 ≤ z ∧ z < wc.heap.size) := by rw [← HS.out]; exact Lib.hid (fun z hz => ⟨(own_lt HOWv.out hz).1, (own_lt HOWv.out hz).2.1⟩)
                        have hSq : ¬ S gq := by
                          rw [← HS.out]
                          intro hz
                          exact own_types HOWv.out HF8.out.pt.own (by decide) hz rfl
                        have hlt0 := cell_lt (w := wc) (a := ⟨gq, j2 * 4, none⟩) (by rw [e0]; rfl)
                        go_upto_region 33 with fail
                        refine wp_region_plan S (.one [0, 1, 2, 3, 4, 5, 6, 7, 8, 9, 10] 11 (.one [] 12 (.one [] 13 (.fin [] 14)))) (by kernel_rfl) (by kernel_rfl) (fun _ _ d _ _ h => by cases d <;> exact h) ?_
                        have qO : ∀ (y : LaterS S wc.drew) z, (afterS S wc.drew y).cell? ⟨w5.heap.size, z, none⟩ = (#[.int .i64 xa, .bool false, .slice (some ⟨gq, 0, none⟩) n' c'] : Array Value)[z]? := fun y z => (HO8.out.drew.but y.but (fun h => by have := HSl.out _ h; omega)).cell z
                        have qe : ∀ (y : LaterS S wc.drew), (afterS S wc.drew y).cell? ⟨gq, j2 * 4, none⟩ = some (.slice mA1 mn1 mc1) := fun y => by
                          rw [World.cell?_of_block (w := wc.drew) (y.but.block gq hlt0 hSq)]
                          exact e0
                        have HOWd : Hid (wc.drew.ownsRow (w5.heap.size + 1) 90 7 (.slice mA1 mn1 mc1) mn1 (m.vs.flatMap Iv.cs)) := Lib.hid HOWv.out.drew
                        have hbdd : Below wc.heap.size wc wc.drew := (Below.refl _ _).drew
                        have HPTd : Hid (VlS wc.drew (some ⟨bp, op, none⟩) P.length P) := Lib.hid (HS8.out.pts.keep (keeps_of hbdd))
                        have HBdd := Lib.hid hbdd
                        have hsd : w5.heap.size + 1 ≤ wc.drew.heap.size := hwO8
                        have hsdd : wc.drew.heap.size = wc.heap.size := rfl
                        have HSDD := Lib.hid hsdd
                        generalize hW : wc.drew = wd at *
                        clear hW hbdd hsdd
                        unfold wpPlan
                        simp only [pickOps, opAt, List.map_cons, List.map_nil, List.getElem?_toArray, List.getElem?_cons_zero, List.getElem?_cons_succ, Option.getD_some]
                        repeat (go_big_quiet_step (fail))
                        refine wpQuiet_nil ?_
                        clear qO qe
                        go_wp2_with (first | (go_at_call 146; refine (join2_any mA1 mn1 mc1 (w5.heap.size + 1) m.vs (some ⟨bp, op, none⟩) P.length cp P q _ HOWd.out (by rw [HML.out]; exact Hmn.out) HPTd.out hlt (by omega) (by omega) hsd).mono ?_; rintro e w9 ⟨A9, c9, rfl, hown9, hbl9, hbu9, hloc9⟩))
                        rw [HS.out] at hbu9
                        refine ⟨hbu9, ?_⟩
                        have HOWN9 := Lib.hid hown9
                        have HLOC9 := Lib.hid hloc9
                        have HBU9 : Hid (But S wc w9) := Lib.hid ((But.of_below HBdd.out).trans hbu9)
                        have hs9 := HBU9.out.size
                        have HPO9 : Hid (w9.ownsRow (w5.heap.size + 1) 86 4 (.slice (some ⟨gq, 0, none⟩) n' c') n' (ms'.flatMap PM.cs)) := Lib.hid (own_but HF8.out.pt.own HBU9.out (fun z hz hs => by
                          have : z = gq := by simp only [Value.ownBlock, Option.some.injEq] at hz; exact hz.symm
                          rw [this] at hs
                          exact hSq hs))
                        have e9 : w9.cell? ⟨gq, j2 * 4, none⟩ = some (.slice mA1 mn1 mc1) := by
                          rw [World.cell?_of_block (w := wc) (HBU9.out.block gq hlt0 hSq)]
                          exact e0
                        have hfz := fun z => HPO9.out.frozenAt z
                        obtain ⟨R9, HR9⟩ : ∃ z, Hid (joinL m.vs (segI P q) = z) := ⟨_, rfl⟩
                        rw [HR9.out] at HOWN9 HLOC9 ⊢
                        clear hown9 hbl9 hbu9 hloc9 HOWd HPTd e0
                        unfold wpPlan
                        simp only [pickOps, opAt, List.map_nil, List.getElem?_toArray, List.getElem?_cons_zero, List.getElem?_cons_succ, Option.getD_some]
                        refine wpQuiet_nil ?_
                        go_wp2_with fail
                        refine ⟨But.refl _ _, ?_⟩
                        unfold wpPlan
                        simp only [pickOps, opAt, List.map_nil, List.getElem?_toArray, List.getElem?_cons_zero, List.getElem?_cons_succ, Option.getD_some]
                        refine wpQuiet_nil ?_
                        go_wp2_with fail
                        refine ⟨But.refl _ _, ?_⟩
                        unfold wpPlan
                        simp only [pickOps, opAt, List.map_nil, List.getElem?_toArray, List.getElem?_cons_zero, List.getElem?_cons_succ, Option.getD_some]
                        refine wpQuiet_nil ?_
                        go_wp2_with fail
                        go_roundw
                        case rel =>
                          have hbz : But (fun z => z = gq) w9 (w9.setCell ⟨gq, j2 * 4, none⟩ (.slice A9 R9.length c9)) := But.set (S := fun z => z = gq) _ (p := ⟨gq, j2 * 4, none⟩) rfl _
                          have hbA : But (fun z => (Value.slice (some ⟨gq, 0, none⟩) n' c').ownBlock = some z ∨ m.vv.ownBlock = some z) wc (w9.setCell ⟨gq, j2 * 4, none⟩ (.slice A9 R9.length c9)) :=
                            (HBU9.out.wide (fun z hz => .inr (by unfold PM.vv; rw [HmA.out, Hmn.out, Hmc.out]; rw [← HS.out] at hz; exact hz))).trans (hbz.wide (fun z hz => .inl (by rw [hz]; rfl)))
                          have hge : ∀ z, ((Value.slice (some ⟨gq, 0, none⟩) n' c').ownBlock = some z ∨ m.vv.ownBlock = some z) → w5.heap.size + 1 ≤ z := fun z hz => by
                            rcases hz with hz | hz
                            · exact (own_lt HF8.out.pt.own hz).1
                            · exact (own_lt HMO.out.own hz).1
                          have hlocv : ∀ z, (Value.slice A9 R9.length c9).ownBlock = some z → m.vv.ownBlock = some z ∨ wc.heap.size ≤ z := fun z hz => by
                            rcases HLOC9.out z hz with h | h
                            · left
                              unfold PM.vv
                              rw [HmA.out, Hmn.out, Hmc.out]
                              exact h
                            · right
                              have := HSDD.out
                              omega
                          have hPT := HF8.out.pt.set HM.out.1 (A1 := A9) (n1 := R9.length) (c1 := c9) (vs := R9) (by
                              rw [← flat_set PM.cs_len (u := .slice A9 R9.length c9) (j := 0) ms' j2 m HM.out.1 (by omega) rfl]
                              exact (HPO9.out.stored _ _).1)
                            (own_but HOWN9.out hbz (fun z hz e => own_types HOWN9.out HPO9.out (by decide) hz (by rw [e]; rfl))) rfl hbA hlocv
                          have hro : FC.at_ ⟨N, k, a, b, xa, fa, Aa, t, ca, xb, fb, Ab, u, cb, some ⟨bp, op, none⟩, P, w5.heap.size, w⟩ ⟨vk, vi, vt⟩ = mr := Hro.out
                          refine ⟨q + 1, nk', some ⟨bk, ok, none⟩, ck', by omega, by go_num, rfl, hnk', Lib.hid ⟨some ⟨gq, 0, none⟩, n', c', ms'.set j2 { m with A1 := A9, n1 := R9.length, c1 := c9, vs := R9 }, ks', HS8.out.but hbA (fun z hz => by have := hge z hz; dsimp only; omega), HO8.out.but hbA (fun hz => by have := hge _ hz; omega), ?_, ?_, HKN.out, by omega⟩⟩
                          · refine HF8.out.step hPT (hbA.wide (fun z hz => ?_)) (fun z hz => .inl hz) (fun m' hm' z hz => ?_) (fun m' hm' => ?_)
                            · rcases hz with hz | hz
                              · exact .inl hz
                              · exact .inr (.inl ⟨m, List.mem_of_getElem? HM.out.1, hz⟩)
                            · rcases List.mem_or_eq_of_mem_set hm' with h | h
                              · exact .inl ⟨m', h, hz⟩
                              · subst h
                                rcases hlocv z hz with e | e
                                · exact .inl ⟨m, List.mem_of_getElem? HM.out.1, e⟩
                                · exact .inr e
                            · rcases List.mem_or_eq_of_mem_set hm' with h | h
                              · exact .inl ⟨m', h, rfl, rfl⟩
                              · subst h
                                exact .inl ⟨m, List.mem_of_getElem? HM.out.1, rfl, rfl⟩
                          · have hju : (resU (FC.at_ ⟨N, k, a, b, xa, fa, Aa, t, ca, xb, fb, Ab, u, cb, some ⟨bp, op, none⟩, P, w5.heap.size, w⟩) (P.take (q + 1)))[j2]? = some mr := by
                              have h1 := roomTo (ro := FC.at_ ⟨N, k, a, b, xa, fa, Aa, t, ca, xb, fb, Ab, u, cb, some ⟨bp, op, none⟩, P, w5.heap.size, w⟩) HPq.out (by rw [hro]; exact Hv.out)
                              rw [hro, ← HPR8.out] at h1
                              have h2 : (ms'.map PM.pr)[j2]? = some m.pr := by rw [List.getElem?_map, HM.out.1]; rfl
                              rw [h1, List.getElem?_map, Option.map_eq_some_iff] at h2
                              obtain ⟨r, hr, e⟩ := h2
                              have e2 : r = m.r := congrArg Prod.snd e
                              rw [hr, e2, HM.out.2]
                            rw [partsTo_step (ro := FC.at_ ⟨N, k, a, b, xa, fa, Aa, t, ca, xb, fb, Ab, u, cb, some ⟨bp, op, none⟩, P, w5.heap.size, w⟩) HPq.out (by rw [hro]; exact Hv.out) (by rw [hro]; exact hju), hro, ← HPR8.out]
                            rw [← HR9.out]
                            exact set_modify (f := fun z => (joinL z.1 (segI P q), z.2)) HM.out.1 rfl
                        case measure => simp [intOf]; omega
            · obtain rfl : q = P.length := by omega
              obtain ⟨A, n, c, ms, ks, hR⟩ := HR.out
              have hbo : Blk wr w5.heap.size 27 #[.int .i64 xa, .bool false, .slice A n c] := hR.bo
              have hbr : Blk wr (w.heap.size + 2) 27 #[.int .i64 0, .bool false, .slice none 0 0] := hR.s0.br
              have hHO : w.heap.size + 3 ≤ w5.heap.size := hR.s0.hs.1
              have hrr : mkR xa false (ms.map PM.pr) = rr := by
                rw [hR.pr, HRR.out]
                congr 1
                exact partsTo_full HASC.out _
              have HFR : Hid (RgF (w5.heap.size + 1) wr.heap.size wr xa false A n c rr) := by rw [← hrr]; exact Lib.hid (hR.st.pt.region2 xa false)
              have zr := hbr.cell
              have zo := hbo.cell
              have hy3 := (put3R_blk (a' := .int .i64 xa) (b' := .bool false) (c' := .slice A n c) hbr).cell
              have hy1 := (hbr.set_ 0 (.int .i64 xa)).cell
              have hy2 := ((hbr.set_ 0 (.int .i64 xa)).set_ 1 (.bool false)).cell
              obtain ⟨ff1, ff2, ff3⟩ := put3R_free hbr (.int .i64 xa) (.bool false)
              have HBf : Hid (Below w.heap.size w _) := Lib.hid (put3R_below hR.s0.bel (show w.heap.size ≤ w.heap.size + 2 by omega) (.int .i64 xa) (.bool false) (.slice A n c))
              have HFr : Hid (RgF w.heap.size (put3R wr (w.heap.size + 2) (.int .i64 xa) (.bool false) (.slice A n c)).heap.size (put3R wr (w.heap.size + 2) (.int .i64 xa) (.bool false) (.slice A n c)) xa false A n c rr) :=
                Lib.hid ((HFR.out.keep fun z h1 h2 => (put3R_but wr (w.heap.size + 2) _ _ _).block z h2 (by omega)).wide (by omega) (by rw [put3R_size]; exact Nat.le_refl _))
              unfold put3R at hy3
              clear hrr hbr hbo hR HR
              go_wp2
              exact bodyPost_ret (v := .agg #[.int .i64 xa, .bool false, .slice A n c]) (by simp [results, Tryz.results149, go_sem, hy3]) rfl ⟨xa, false, A, n, c, rfl, HFr.out, HBf.out⟩
theorem fcomb_any (k : Int) : ∀ N, N ≤ 12 → FCombC N k
  | 0, _ => fcomb_zero k
  | N + 1, h => fcomb_succ N k (fcomb_any k N (by omega)) h
end Go.Proofs.YtmnmckblmoalkaaGreat
