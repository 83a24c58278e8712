import Derived.Test.YtemllddgefahfaaVBegun
import Derived.Test.YtemllddgefahfaaCase2
namespace Go.Proofs.Ytemllddgefahfaa
open Go.RowKit

theorem vl_three {w : World} {L : Nat} {T : TypeId} {x y z : Vl} (h : Blk w L T #[.int .i64 x.k, .int .i64 x.i, .string x.t, .int .i64 y.k, .int .i64 y.i, .string y.t, .int .i64 z.k, .int .i64 z.i, .string z.t]) : VlS w (some ⟨L, 0, none⟩) 3 [x, y, z] := by
  refine ⟨rfl, fun _ => ⟨L, 0, rfl, ?_⟩⟩
  intro k s hz j u hu
  rcases k with _ | _ | _ | k
  · simp at hz
    subst hz
    rcases j with _ | _ | _ | j <;> simp [Vl.cs] at hu <;> subst hu <;> exact h.cell _
  · simp at hz
    subst hz
    rcases j with _ | _ | _ | j <;> simp [Vl.cs] at hu <;> subst hu <;> exact h.cell _
  · simp at hz
    subst hz
    rcases j with _ | _ | _ | j <;> simp [Vl.cs] at hu <;> subst hu <;> exact h.cell _
  · simp at hz
theorem run_neqV_self (xk xi : Int) (xt : ByteArray) (w : World) : (binOp .neq 24 (.agg #[.int .i64 xk, .int .i64 xi, .string xt]) (.agg #[.int .i64 xk, .int .i64 xi, .string xt])).run Try.prog w = .ok (.bool false) w := by
  have h1 : (xk == xk) = true := by simp
  have h2 : (xi == xi) = true := by simp
  have h3 : (xt.toList == xt.toList) = true := by simp
  simp [go_sem, h1, h2, h3]
theorem CaseAt.drew {w : World} {g : Nat} (h : CaseAt w g) : CaseAt w.drew g := h.below ((Below.refl _ _).drew)
theorem next_valid {v : Vl} (h : (nextV v).2 = true) : validV v = true := by
  cases hv : validV v
  · unfold nextV at h
    rw [hv] at h
    simp at h
  · rfl
theorem lt_eq {a b : Vl} (h : cmpV a b < 0) : cmpV a b = -1 := by have := cmpV_range a b; omega
/-- what stays in the loop: the case, the list of values, all else -/
def NRel (w : World) (g L : Nat) (l : List Vl) (i : Value) (wr : World) : Prop := ∃ k : Nat, k ≤ 3 ∧ i = .int .i64 (k : Int) ∧ CaseAt wr g ∧ VlS wr (some ⟨L, 0, none⟩) 3 l ∧ Below w.heap.size w wr
set_option maxRecDepth 100000 in
set_option maxHeartbeats 4000000 in
theorem nexts_walk (A : Option Addr) (n c : Nat) (zs : List Int) (v : Vl) (w : World) (hs : Sl 1 u8c w A n zs) (hz : ∀ z ∈ zs, 0 ≤ z ∧ z ≤ 255) (hnil : A = none → n = 0 ∧ c = 0) (hsp : ∀ ad, A = some ad → ad.spot = none) (hnc : n ≤ c) (hcm : c ≤ 9223372036854775807) (hvr : rngV v) :
    Calls Try.prog 5 #[.slice A n c, .agg #[.int .i64 v.k, .int .i64 v.i, .string v.t]] w fun e w' => e = .returned (.bool true) ∧ Below w.heap.size w w' := by
  obtain ⟨vk, vi, vt⟩ := v
  have hK0 := keeps_alloc w (.cells #[.int .i64 vk, .int .i64 vi, .string vt] 24)
  have HS := Lib.hid (hs.keep hK0)
  have HZ := Lib.hid hz
  have HN := Lib.hid hnil
  have HP := Lib.hid hsp
  have HVR := Lib.hid hvr
  have HX := Lib.hid (Blk.new w 24 #[.int .i64 vk, .int .i64 vi, .string vt])
  have hB0 := (Below.refl w.heap.size w).alloc (Nat.le_refl _) (.cells #[.int .i64 vk, .int .i64 vi, .string vt] 24)
  clear hs hz hnil hsp hK0 hvr
  go_enter Try.func5, Try.ntmps5
  go_wp2_with fail
  refine (new_any A n c zs 90 _ HS.out HZ.out HN.out HP.out hnc hcm (by omega)).mono ?_
  rintro e w1 ⟨g, hg, rfl, hc1, hb1⟩
  have hX1 := HX.out.below hb1
  have hgX : ¬ w.heap.size = g := by have := HX.out.lt; omega
  have hwg : w.heap.size ≤ g := by simp at hg; omega
  have hB1 : Below w.heap.size w w1 := Below.next hB0 hb1
  clear HS HZ HN HP HX hB0 hb1
  have hXc := hX1.cell
  go_wp2_with fail
  have hca := @cell_afterS (fun k => k = g) w1.drew
  refine wp_region_segS (fun k => k = g) [([0, 1, 3, 7], 2), ([], 4), ([], 5)] [6] (by kernel_rfl) (by kernel_rfl) (fun _ _ d _ _ h => by cases d <;> exact h) ?_
  simp only [pickSegs, pickOps, opAt, List.map_cons, List.map_nil, List.getElem?_toArray, List.getElem?_cons_zero, List.getElem?_cons_succ, Option.getD_some]
  unfold wpBlocksS
  repeat (go_big_quiet_step (fail))
  refine wpQuiet_nil ?_
  clear hca hXc hX1
  replace hc1 := hc1.drew
  replace hB1 := hB1.drew
  go_wp2_with fail
  refine (any2_any g _ hc1).mono ?_
  rintro e w2 ⟨⟨⟨ak, ai, ab⟩, hav, har, rfl⟩, hc2, hb2⟩
  have HAR := Lib.hid har
  replace hB1 := hb2.below hB1 hB1.size (fun k hk => by subst hk; exact hwg)
  clear hav har hc1
  go_wp2_with fail
  refine ⟨hb2, ?_⟩
  clear hb2
  unfold wpBlocksS
  refine wpQuiet_nil ?_
  go_wp2_with fail
  refine (any2_any g _ hc2).mono ?_
  rintro e w3 ⟨⟨⟨bk, bi, bb⟩, hav, har, rfl⟩, hc3, hb3⟩
  have HBR := Lib.hid har
  replace hB1 := hb3.below hB1 hB1.size (fun k hk => by subst hk; exact hwg)
  clear hav har hc2
  go_wp2_with fail
  refine ⟨hb3, ?_⟩
  clear hb3
  unfold wpBlocksS
  refine wpQuiet_nil ?_
  go_wp2_with fail
  refine ⟨But.alloc _ _, ?_⟩
  have hA3 := (Below.refl w3.heap.size w3).alloc (Nat.le_refl _) (.cells #[.int .i64 vk, .int .i64 vi, .string vt, .int .i64 ak, .int .i64 ai, .string ab, .int .i64 bk, .int .i64 bi, .string bb] 24)
  have HL := Lib.hid (vl_three (x := ⟨vk, vi, vt⟩) (y := ⟨ak, ai, ab⟩) (z := ⟨bk, bi, bb⟩) (Blk.new w3 24 #[.int .i64 vk, .int .i64 vi, .string vt, .int .i64 ak, .int .i64 ai, .string ab, .int .i64 bk, .int .i64 bi, .string bb]))
  have hgL : ¬ w3.heap.size = g := by have := hc3.lt; omega
  replace hc3 := hc3.below hA3
  replace hB1 := Below.next hB1 hA3
  clear hA3
  generalize (w3.alloc (.cells #[.int .i64 vk, .int .i64 vi, .string vt, .int .i64 ak, .int .i64 ai, .string ab, .int .i64 bk, .int .i64 bi, .string bb] 24)) = W3 at *
  generalize w3.heap.size = L at *
  unfold wpBlocksS
  repeat (go_big_quiet_step (fail))
  refine wpQuiet_nil ?_
  have HRNG : Hid (∀ x ∈ [(⟨vk, vi, vt⟩ : Vl), ⟨ak, ai, ab⟩, ⟨bk, bi, bb⟩], rngV x) := Lib.hid (by
    intro x hx
    simp only [List.mem_cons, List.not_mem_nil, or_false] at hx
    rcases hx with rfl | rfl | rfl
    · exact HVR.out
    · exact HAR.out
    · exact HBR.out)
  clear HVR HAR HBR
  generalize [(⟨vk, vi, vt⟩ : Vl), ⟨ak, ai, ab⟩, ⟨bk, bi, bb⟩] = l at *
  go_wp2_with fail
  go_loopw [22] (fun i wr => NRel w g L l i wr) (fun i _ => 3 - (intOf i).toNat)
  case atStart => exact ⟨0, by omega, rfl, hc3, HL.out, hB1⟩
  case round =>
    obtain ⟨k, hk, rfl, hc, hVL, hB⟩ := hrel
    have HV := Lib.hid hVL
    clear hVL HL hc3 hB1
    by_cases hlt : k < 3
    · obtain ⟨b1, o1, x, hbo, hx, hxc⟩ := HV.out.at hlt
      injection hbo with hbo
      injection hbo with h1 h2
      subst h1 h2
      have HXR := Lib.hid (HRNG.out x (List.mem_of_getElem? hx))
      obtain ⟨xk, xi, xt⟩ := x
      obtain ⟨c0, c1, c2⟩ := VlAt.of hxc
      simp only [Nat.zero_add] at c0 c1 c2
      clear hx hxc
      have hP := Blk.new wr 24 #[.int .i64 xk, .int .i64 xi, .string xt]
      have hA := (Below.refl wr.heap.size wr).alloc (Nat.le_refl _) (.cells #[.int .i64 xk, .int .i64 xi, .string xt] 24)
      have hclt := hc.lt
      replace hc := hc.below hA
      replace HV := Lib.hid (HV.out.keep (keeps_of hA))
      replace hB := Below.next hB hA
      clear hA
      have hpg : ¬ wr.heap.size = g := by have := hclt; omega
      go_wp2_with fail
      generalize (wr.alloc (.cells #[.int .i64 xk, .int .i64 xi, .string xt] 24)) = W4 at *
      generalize wr.heap.size = p at *
      clear c0 c1 c2
      obtain ⟨⟨⟨nk, ni, nt⟩, ok⟩, Hr⟩ : ∃ r, Hid (nextV ⟨xk, xi, xt⟩ = r) := ⟨_, rfl⟩
      refine (next_any ⟨xk, xi, xt⟩ _).mono ?_
      rintro e w5 ⟨rfl, hb⟩
      rw [Hr.out]
      dsimp only
      replace hP := hP.below hb
      have hclt := hc.lt
      replace hc := hc.below hb
      replace HV := Lib.hid (HV.out.keep (keeps_of hb))
      replace hB := Below.next hB hb
      clear hb
      have hQ := Blk.new w5 24 #[.int .i64 nk, .int .i64 ni, .string nt]
      have hA := (Below.refl w5.heap.size w5).alloc (Nat.le_refl _) (.cells #[.int .i64 nk, .int .i64 ni, .string nt] 24)
      replace hP := hP.below hA
      have hclt := hc.lt
      replace hc := hc.below hA
      replace HV := Lib.hid (HV.out.keep (keeps_of hA))
      replace hB := Below.next hB hA
      clear hA
      have hqg : ¬ w5.heap.size = g := by have := hclt; omega
      have y1 := hP.cell
      go_wp2_with fail
      clear y1
      generalize (w5.alloc (.cells #[.int .i64 nk, .int .i64 ni, .string nt] 24)) = W5 at *
      generalize w5.heap.size = q at *
      refine (rnext_any ⟨xk, xi, xt⟩ _).mono ?_
      rintro e w6 ⟨rfl, hb⟩
      rw [Hr.out]
      dsimp only
      replace hP := hP.below hb
      replace hQ := hQ.below hb
      have hclt := hc.lt
      replace hc := hc.below hb
      replace HV := Lib.hid (HV.out.keep (keeps_of hb))
      replace hB := Below.next hB hb
      clear hb
      have hR := Blk.new w6 24 #[.int .i64 nk, .int .i64 ni, .string nt]
      have hA := (Below.refl w6.heap.size w6).alloc (Nat.le_refl _) (.cells #[.int .i64 nk, .int .i64 ni, .string nt] 24)
      replace hP := hP.below hA
      replace hQ := hQ.below hA
      have hclt := hc.lt
      replace hc := hc.below hA
      replace HV := Lib.hid (HV.out.keep (keeps_of hA))
      replace hB := Below.next hB hA
      clear hA
      have y2 := hQ.cell
      have y3 := hR.cell
      have hne := run_neqV_self nk ni nt
      have hoo : (ok != ok) = false := by simp
      cases ok
      · go_wp2_with fail
        go_roundw
        case rel => exact ⟨k + 1, by omega, by go_num, hc, HV.out, hB⟩
        case measure => simp [intOf]; omega
      · go_wp2_with fail
        clear y2 y3 hne hoo hR
        generalize (w6.alloc (.cells #[.int .i64 nk, .int .i64 ni, .string nt] 24)) = W6 at *
        generalize w6.heap.size = z6 at *
        have hval : validV ⟨xk, xi, xt⟩ = true := next_valid (by rw [Hr.out])
        have HG := Lib.hid ((nextV_good hval HXR.out).1 (by rw [Hr.out]))
        rw [Hr.out] at HG
        dsimp only at HG
        clear hval
        refine (any2_any g _ hc).mono ?_
        rintro e w7 ⟨⟨⟨ek, ei, et⟩, hev, her, rfl⟩, hc7, hb7⟩
        have HE := Lib.hid (And.intro hev her)
        replace hP := hP.but hb7 hpg
        replace hQ := hQ.but hb7 hqg
        replace HV := Lib.hid (HV.out.but hb7 (fun _ b o e => by injection e with e; injection e with e1 e2; rw [← e1]; exact hgL))
        replace hB := hb7.below hB hB.size (fun k hk => by subst hk; exact hwg)
        replace hc := hc7
        clear hev her hb7 hc7
        have hE := Blk.new w7 24 #[.int .i64 ek, .int .i64 ei, .string et]
        have hA := (Below.refl w7.heap.size w7).alloc (Nat.le_refl _) (.cells #[.int .i64 ek, .int .i64 ei, .string et] 24)
        replace hP := hP.below hA
        replace hQ := hQ.below hA
        have hclt := hc.lt
        replace hc := hc.below hA
        replace HV := Lib.hid (HV.out.keep (keeps_of hA))
        replace hB := Below.next hB hA
        clear hA
        have y2 := hQ.cell
        go_wp2_with fail
        clear y2
        generalize (w7.alloc (.cells #[.int .i64 ek, .int .i64 ei, .string et] 24)) = W7 at *
        generalize w7.heap.size = z7 at *
        refine (valid_any ⟨nk, ni, nt⟩ _).mono ?_
        rintro e w8 ⟨rfl, hb⟩
        rw [HG.out.1]
        replace hP := hP.below hb
        replace hQ := hQ.below hb
        replace hE := hE.below hb
        have hclt := hc.lt
        replace hc := hc.below hb
        replace HV := Lib.hid (HV.out.keep (keeps_of hb))
        replace hB := Below.next hB hb
        clear hb
        have y1 := hP.cell
        have y2 := hQ.cell
        go_wp2_with fail
        clear y1 y2
        refine (compare_any ⟨xk, xi, xt⟩ ⟨nk, ni, nt⟩ _).mono ?_
        rintro e w9 ⟨rfl, hb⟩
        rw [lt_eq HG.out.2.2.1]
        replace hP := hP.below hb
        replace hQ := hQ.below hb
        replace hE := hE.below hb
        have hclt := hc.lt
        replace hc := hc.below hb
        replace HV := Lib.hid (HV.out.keep (keeps_of hb))
        replace hB := Below.next hB hb
        clear hb
        have y1 := hP.cell
        have y3 := hE.cell
        go_wp2_with fail
        clear y1 y3
        refine (compare_any ⟨xk, xi, xt⟩ ⟨ek, ei, et⟩ _).mono ?_
        rintro e w10 ⟨rfl, hb⟩
        replace hP := hP.below hb
        replace hQ := hQ.below hb
        replace hE := hE.below hb
        have hclt := hc.lt
        replace hc := hc.below hb
        replace HV := Lib.hid (HV.out.keep (keeps_of hb))
        replace hB := Below.next hB hb
        clear hb
        have HC : Hid (cmpV ⟨xk, xi, xt⟩ ⟨ek, ei, et⟩ < 0 → ¬ cmpV ⟨ek, ei, et⟩ ⟨nk, ni, nt⟩ < 0) := Lib.hid (fun h => by
          have h1 := HG.out.2.2.2 _ HE.out.1 HE.out.2 h
          have h2 := cmpV_anti ⟨nk, ni, nt⟩ ⟨ek, ei, et⟩
          omega)
        clear HG HE
        generalize cmpV ⟨xk, xi, xt⟩ ⟨ek, ei, et⟩ = r1 at *
        by_cases hr1 : r1 < 0
        · have y2 := hQ.cell
          have y3 := hE.cell
          go_wp2_with fail
          clear y2 y3
          refine (compare_any ⟨ek, ei, et⟩ ⟨nk, ni, nt⟩ _).mono ?_
          rintro e w11 ⟨rfl, hb⟩
          have hclt := hc.lt
          replace hc := hc.below hb
          replace HV := Lib.hid (HV.out.keep (keeps_of hb))
          replace hB := Below.next hB hb
          clear hb
          have hr2 := HC.out hr1
          clear HC
          generalize cmpV ⟨ek, ei, et⟩ ⟨nk, ni, nt⟩ = r2 at *
          go_wp2_with fail
          go_roundw
          case rel => exact ⟨k + 1, by omega, by go_num, hc, HV.out, hB⟩
          case measure => simp [intOf]; omega
        · go_wp2_with fail
          go_roundw
          case rel => exact ⟨k + 1, by omega, by go_num, hc, HV.out, hB⟩
          case measure => simp [intOf]; omega
    · go_wp2_with fail
      refine (vbegun_any _).mono ?_
      rintro e w4 ⟨rfl, hb4⟩
      go_wp2
      go_ret
      exact ⟨rfl, Below.next hB hb4⟩
end Go.Proofs.Ytemllddgefahfaa
