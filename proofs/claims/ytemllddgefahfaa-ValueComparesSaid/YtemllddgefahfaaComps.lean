import Derived.Test.YtemllddgefahfaaVBegun
import Derived.Test.YtemllddgefahfaaCase2
namespace Go.Proofs.Ytemllddgefahfaa
open Go.RowKit

theorem vl_five {w : World} {L : Nat} {T : TypeId} {a b x y z : Vl} (h : Blk w L T #[.int .i64 a.k, .int .i64 a.i, .string a.t, .int .i64 b.k, .int .i64 b.i, .string b.t, .int .i64 x.k, .int .i64 x.i, .string x.t, .int .i64 y.k, .int .i64 y.i, .string y.t, .int .i64 z.k, .int .i64 z.i, .string z.t]) : VlS w (some ⟨L, 0, none⟩) 5 [a, b, x, y, z] := by
  refine ⟨rfl, fun _ => ⟨L, 0, rfl, ?_⟩⟩
  intro k s hz j u hu
  rcases k with _ | _ | _ | _ | _ | k <;> simp at hz
  all_goals
    subst hz
    rcases j with _ | _ | _ | j <;> simp [Vl.cs] at hu <;> subst hu <;> exact h.cell _
theorem case_drew {w : World} {g : Nat} (h : CaseAt w g) : CaseAt w.drew g := h.below ((Below.refl _ _).drew)
set_option maxRecDepth 100000 in
set_option maxHeartbeats 8000000 in
theorem compares_walk (A : Option Addr) (n c : Nat) (zs : List Int) (va vb vx : Vl) (w : World) (hs : Sl 1 u8c w A n zs) (hz : ∀ z ∈ zs, 0 ≤ z ∧ z ≤ 255) (hnil : A = none → n = 0 ∧ c = 0) (hsp : ∀ ad, A = some ad → ad.spot = none) (hnc : n ≤ c) (hcm : c ≤ 9223372036854775807) :
    Calls Try.prog 4 #[.slice A n c, .agg #[.int .i64 va.k, .int .i64 va.i, .string va.t], .agg #[.int .i64 vb.k, .int .i64 vb.i, .string vb.t], .agg #[.int .i64 vx.k, .int .i64 vx.i, .string vx.t]] w fun e w' => e = .returned (.bool true) ∧ Below w.heap.size w w' := by
  obtain ⟨ak, ai, at_⟩ := va
  obtain ⟨bk, bi, bt⟩ := vb
  obtain ⟨xk, xi, xt⟩ := vx
  have hB0 := (((Below.refl w.heap.size w).alloc (Nat.le_refl _) (.cells #[.int .i64 ak, .int .i64 ai, .string at_] 24)).alloc (by simp) (.cells #[.int .i64 bk, .int .i64 bi, .string bt] 24)).alloc (by simp; omega) (.cells #[.int .i64 xk, .int .i64 xi, .string xt] 24)
  have HS := Lib.hid (hs.keep (keeps_of hB0))
  have HZ := Lib.hid hz
  have HN := Lib.hid hnil
  have HP := Lib.hid hsp
  have hXa := ((Blk.new w 24 #[.int .i64 ak, .int .i64 ai, .string at_]).alloc (.cells #[.int .i64 bk, .int .i64 bi, .string bt] 24)).alloc (.cells #[.int .i64 xk, .int .i64 xi, .string xt] 24)
  have hXb := (Blk.new (w.alloc (.cells #[.int .i64 ak, .int .i64 ai, .string at_] 24)) 24 #[.int .i64 bk, .int .i64 bi, .string bt]).alloc (.cells #[.int .i64 xk, .int .i64 xi, .string xt] 24)
  have hXx := Blk.new ((w.alloc (.cells #[.int .i64 ak, .int .i64 ai, .string at_] 24)).alloc (.cells #[.int .i64 bk, .int .i64 bi, .string bt] 24)) 24 #[.int .i64 xk, .int .i64 xi, .string xt]
  simp only [World.size_alloc] at hXb hXx
  clear hs hz hnil hsp
  go_enter Try.func4, Try.ntmps4
  go_wp2_with fail
  refine (new_any A n c zs 90 _ HS.out HZ.out HN.out HP.out hnc hcm (by omega)).mono ?_
  rintro e w1 ⟨g, hg, rfl, hc1, hb1⟩
  have hgl : w.heap.size + 3 ≤ g := by simp at hg; omega
  replace hXa := hXa.below hb1
  replace hXb := hXb.below hb1
  replace hXx := hXx.below hb1
  have hB1 : Below w.heap.size w w1 := Below.next hB0 hb1
  have hga : ¬ w.heap.size = g := by omega
  have hgb : ¬ w.heap.size + 1 = g := by omega
  have hgx : ¬ w.heap.size + 1 + 1 = g := by omega
  have hwg : w.heap.size ≤ g := by omega
  clear HS HZ HN HP hB0 hb1 hg
  have ya := hXa.cell
  have yb := hXb.cell
  have yx := hXx.cell
  go_wp2_with fail
  have hca := @cell_afterS (fun k => k = g) w1.drew
  refine wp_region_segS (fun k => k = g) [([0, 1, 2, 3, 5], 4), ([], 6), ([], 7)] [8] (by kernel_rfl) (by kernel_rfl) (fun _ _ d _ _ h => by cases d <;> exact h) ?_
  simp only [pickSegs, pickOps, opAt, List.map_cons, List.map_nil, List.getElem?_toArray, List.getElem?_cons_zero, List.getElem?_cons_succ, Option.getD_some]
  unfold wpBlocksS
  repeat (go_big_quiet_step (fail))
  refine wpQuiet_nil ?_
  clear hca ya yb yx hXa hXb hXx
  replace hc1 := case_drew hc1
  replace hB1 := hB1.drew
  go_wp2_with fail
  refine (any2_any g _ hc1).mono ?_
  rintro e w2 ⟨⟨⟨yk, yi, yt⟩, hav, har, rfl⟩, hc2, hb2⟩
  replace hB1 := hb2.below hB1 hB1.size (fun k hk => by subst hk; exact hwg)
  clear hav har hc1
  go_wp2_with fail
  refine ⟨hb2, ?_⟩
  clear hb2
  unfold wpBlocksS
  refine wpQuiet_nil ?_
  go_wp2_with fail
  refine (any2_any g _ hc2).mono ?_
  rintro e w3 ⟨⟨⟨zk, zi, zt⟩, hav, har, rfl⟩, hc3, hb3⟩
  replace hB1 := hb3.below hB1 hB1.size (fun k hk => by subst hk; exact hwg)
  clear hav har hc2 hc3
  go_wp2_with fail
  refine ⟨hb3, ?_⟩
  clear hb3
  unfold wpBlocksS
  refine wpQuiet_nil ?_
  go_wp2_with fail
  refine ⟨But.alloc _ _, ?_⟩
  have hA3 := (Below.refl w3.heap.size w3).alloc (Nat.le_refl _) (.cells #[.int .i64 ak, .int .i64 ai, .string at_, .int .i64 bk, .int .i64 bi, .string bt, .int .i64 xk, .int .i64 xi, .string xt, .int .i64 yk, .int .i64 yi, .string yt, .int .i64 zk, .int .i64 zi, .string zt] 24)
  have HL := Lib.hid (vl_five (a := ⟨ak, ai, at_⟩) (b := ⟨bk, bi, bt⟩) (x := ⟨xk, xi, xt⟩) (y := ⟨yk, yi, yt⟩) (z := ⟨zk, zi, zt⟩) (Blk.new w3 24 #[.int .i64 ak, .int .i64 ai, .string at_, .int .i64 bk, .int .i64 bi, .string bt, .int .i64 xk, .int .i64 xi, .string xt, .int .i64 yk, .int .i64 yi, .string yt, .int .i64 zk, .int .i64 zi, .string zt]))
  replace hB1 := Below.next hB1 hA3
  clear hA3
  generalize (w3.alloc (.cells #[.int .i64 ak, .int .i64 ai, .string at_, .int .i64 bk, .int .i64 bi, .string bt, .int .i64 xk, .int .i64 xi, .string xt, .int .i64 yk, .int .i64 yi, .string yt, .int .i64 zk, .int .i64 zi, .string zt] 24)) = W3 at *
  generalize w3.heap.size = L at *
  unfold wpBlocksS
  repeat (go_big_quiet_step (fail))
  refine wpQuiet_nil ?_
  generalize [(⟨ak, ai, at_⟩ : Vl), ⟨bk, bi, bt⟩, ⟨xk, xi, xt⟩, ⟨yk, yi, yt⟩, ⟨zk, zi, zt⟩] = l at *
  go_wp2_with fail
  go_loopw [30] (fun i wr => ∃ k : Nat, k ≤ 5 ∧ i = .int .i64 (k : Int) ∧ Below W3.heap.size W3 wr) (fun i _ => 5 - (intOf i).toNat)
  case atStart => exact ⟨0, by omega, rfl, Below.refl _ _⟩
  case round =>
    obtain ⟨k, hk, rfl, hbk⟩ := hrel
    by_cases hlt : k < 5
    · obtain ⟨b1, o1, p, hbo, hx, hxc⟩ := (HL.out.keep (keeps_of hbk)).at hlt
      injection hbo with hbo
      injection hbo with h1 h2
      subst h1 h2
      obtain ⟨pk, pi, pt⟩ := p
      obtain ⟨c0, c1, c2⟩ := VlAt.of hxc
      simp only [Nat.zero_add] at c0 c1 c2
      clear hx hxc
      have hP := Blk.new wr 24 #[.int .i64 pk, .int .i64 pi, .string pt]
      replace hbk := hbk.alloc hbk.size (.cells #[.int .i64 pk, .int .i64 pi, .string pt] 24)
      go_wp2_with fail
      generalize (wr.alloc (.cells #[.int .i64 pk, .int .i64 pi, .string pt] 24)) = W4 at *
      generalize wr.heap.size = zp at *
      clear c0 c1 c2
      go_loopw [36] (fun i wq => ∃ j : Nat, j ≤ 5 ∧ i = .int .i64 (j : Int) ∧ Below W4.heap.size W4 wq) (fun i _ => 5 - (intOf i).toNat)
      case atStart => exact ⟨0, by omega, rfl, Below.refl _ _⟩
      case round =>
        obtain ⟨j, hj, rfl, hbj⟩ := hrel
        by_cases hlj : j < 5
        · obtain ⟨b2, o2, q, hbo, hy, hyc⟩ := (HL.out.keep (keeps_of (Below.next hbk hbj))).at hlj
          injection hbo with hbo
          injection hbo with h1 h2
          subst h1 h2
          obtain ⟨qk, qi, qt⟩ := q
          obtain ⟨c0, c1, c2⟩ := VlAt.of hyc
          simp only [Nat.zero_add] at c0 c1 c2
          clear hy hyc
          have hQ := Blk.new wr 24 #[.int .i64 qk, .int .i64 qi, .string qt]
          have hP5 := (hP.below hbj).alloc (.cells #[.int .i64 qk, .int .i64 qi, .string qt] 24)
          replace hbj := hbj.alloc hbj.size (.cells #[.int .i64 qk, .int .i64 qi, .string qt] 24)
          have y1 := hP5.cell
          have y2 := hQ.cell
          go_wp2_with fail
          clear y1 y2
          generalize (wr.alloc (.cells #[.int .i64 qk, .int .i64 qi, .string qt] 24)) = W5 at *
          generalize wr.heap.size = zq at *
          clear c0 c1 c2
          have hev := run_eqV pk pi qk qi pt qt
          have H0 := Lib.hid (cmpV_zero ⟨pk, pi, pt⟩ ⟨qk, qi, qt⟩)
          have HA := Lib.hid (cmpV_anti ⟨pk, pi, pt⟩ ⟨qk, qi, qt⟩)
          refine (compare_any ⟨pk, pi, pt⟩ ⟨qk, qi, qt⟩ _).mono ?_
          rintro e w6 ⟨rfl, hb⟩
          replace hP5 := hP5.below hb
          replace hQ := hQ.below hb
          replace hbj := Below.next hbj hb
          clear hb
          rcases cmpV_range ⟨pk, pi, pt⟩ ⟨qk, qi, qt⟩ with hr | hr | hr
          · have HC := Lib.hid hr
            have HC2 : Hid (cmpV ⟨qk, qi, qt⟩ ⟨pk, pi, pt⟩ = 1) := Lib.hid (by have := HA.out; omega)
            have hdd : decide ((⟨pk, pi, pt⟩ : Vl) = ⟨qk, qi, qt⟩) = false := by
              exact decide_eq_false (fun h => by have := H0.out.2 h; omega)
            rw [hdd] at hev
            rw [hr]
            clear hr hdd HA H0
            have y1 := hP5.cell
            have y2 := hQ.cell
            go_wp2_with fail
            clear y1 y2
            refine (rcompare_any ⟨pk, pi, pt⟩ ⟨qk, qi, qt⟩ _).mono ?_
            rintro e w7 ⟨rfl, hb⟩
            rw [HC.out]
            replace hP5 := hP5.below hb
            replace hQ := hQ.below hb
            replace hbj := Below.next hbj hb
            clear hb
            have y1 := hP5.cell
            have y2 := hQ.cell
            go_wp2_with fail
            clear y1 y2
            refine (compare_any ⟨qk, qi, qt⟩ ⟨pk, pi, pt⟩ _).mono ?_
            rintro e w8 ⟨rfl, hb⟩
            rw [HC2.out]
            replace hP5 := hP5.below hb
            replace hQ := hQ.below hb
            replace hbj := Below.next hbj hb
            clear hb
            have y1 := hP5.cell
            have y2 := hQ.cell
            go_wp2_with fail
            clear y1 y2 hev
            go_loopw [66] (fun i wq => ∃ m : Nat, m ≤ 5 ∧ i = .int .i64 (m : Int) ∧ Below w8.heap.size w8 wq) (fun i _ => 5 - (intOf i).toNat)
            case atStart => exact ⟨0, by omega, rfl, Below.refl _ _⟩
            case round =>
              obtain ⟨m, hm, rfl, hbm⟩ := hrel
              by_cases hlm : m < 5
              · obtain ⟨b3, o3, r, hbo, hy, hyc⟩ := (HL.out.keep (keeps_of (Below.next (Below.next hbk hbj) hbm))).at hlm
                injection hbo with hbo
                injection hbo with h1 h2
                subst h1 h2
                obtain ⟨rk, ri, rt⟩ := r
                obtain ⟨c0, c1, c2⟩ := VlAt.of hyc
                simp only [Nat.zero_add] at c0 c1 c2
                clear hy hyc
                have hR := Blk.new wr 24 #[.int .i64 rk, .int .i64 ri, .string rt]
                have hP9 := (hP5.below hbm).alloc (.cells #[.int .i64 rk, .int .i64 ri, .string rt] 24)
                have hQ9 := (hQ.below hbm).alloc (.cells #[.int .i64 rk, .int .i64 ri, .string rt] 24)
                replace hbm := hbm.alloc hbm.size (.cells #[.int .i64 rk, .int .i64 ri, .string rt] 24)
                have y1 := hP9.cell
                have y2 := hQ9.cell
                have y3 := hR.cell
                go_wp2_with fail
                clear y1 y2 y3 c0 c1 c2
                generalize (wr.alloc (.cells #[.int .i64 rk, .int .i64 ri, .string rt] 24)) = W9 at *
                generalize wr.heap.size = zr at *
                refine (compare_any ⟨qk, qi, qt⟩ ⟨rk, ri, rt⟩ _).mono ?_
                rintro e w9 ⟨rfl, hb⟩
                replace hP9 := hP9.below hb
                replace hR := hR.below hb
                replace hbm := Below.next hbm hb
                clear hb
                have HT : Hid (cmpV ⟨qk, qi, qt⟩ ⟨rk, ri, rt⟩ ≤ 0 → cmpV ⟨pk, pi, pt⟩ ⟨rk, ri, rt⟩ ≤ 0) := Lib.hid (fun h => cmpV_trans (b := ⟨qk, qi, qt⟩) (by rw [HC.out]; omega) h)
                generalize cmpV ⟨qk, qi, qt⟩ ⟨rk, ri, rt⟩ = d at *
                by_cases hd : d ≤ 0
                · have y1 := hP9.cell
                  have y3 := hR.cell
                  go_wp2_with fail
                  clear y1 y3
                  refine (compare_any ⟨pk, pi, pt⟩ ⟨rk, ri, rt⟩ _).mono ?_
                  rintro e w10 ⟨rfl, hb⟩
                  replace hbm := Below.next hbm hb
                  clear hb
                  have he := HT.out hd
                  clear HT
                  generalize cmpV ⟨pk, pi, pt⟩ ⟨rk, ri, rt⟩ = d2 at *
                  go_wp2_with fail
                  go_roundw
                  case rel => exact ⟨m + 1, by omega, by go_num, hbm⟩
                  case measure => simp [intOf]; omega
                · go_wp2_with fail
                  go_roundw
                  case rel => exact ⟨m + 1, by omega, by go_num, hbm⟩
                  case measure => simp [intOf]; omega
              · obtain rfl : m = 5 := by omega
                go_wp2_with fail
                go_roundw
                case rel => exact ⟨j + 1, by omega, by go_num, Below.next hbj hbm⟩
                case measure => simp [intOf]; omega
          · have HC := Lib.hid hr
            have HC2 : Hid (cmpV ⟨qk, qi, qt⟩ ⟨pk, pi, pt⟩ = 0) := Lib.hid (by have := HA.out; omega)
            have hdd : decide ((⟨pk, pi, pt⟩ : Vl) = ⟨qk, qi, qt⟩) = true := by
              exact decide_eq_true (H0.out.1 hr)
            rw [hdd] at hev
            rw [hr]
            clear hr hdd HA H0
            have y1 := hP5.cell
            have y2 := hQ.cell
            go_wp2_with fail
            clear y1 y2
            refine (rcompare_any ⟨pk, pi, pt⟩ ⟨qk, qi, qt⟩ _).mono ?_
            rintro e w7 ⟨rfl, hb⟩
            rw [HC.out]
            replace hP5 := hP5.below hb
            replace hQ := hQ.below hb
            replace hbj := Below.next hbj hb
            clear hb
            have y1 := hP5.cell
            have y2 := hQ.cell
            go_wp2_with fail
            clear y1 y2
            refine (compare_any ⟨qk, qi, qt⟩ ⟨pk, pi, pt⟩ _).mono ?_
            rintro e w8 ⟨rfl, hb⟩
            rw [HC2.out]
            replace hP5 := hP5.below hb
            replace hQ := hQ.below hb
            replace hbj := Below.next hbj hb
            clear hb
            have y1 := hP5.cell
            have y2 := hQ.cell
            go_wp2_with fail
            clear y1 y2 hev
            go_loopw [66] (fun i wq => ∃ m : Nat, m ≤ 5 ∧ i = .int .i64 (m : Int) ∧ Below w8.heap.size w8 wq) (fun i _ => 5 - (intOf i).toNat)
            case atStart => exact ⟨0, by omega, rfl, Below.refl _ _⟩
            case round =>
              obtain ⟨m, hm, rfl, hbm⟩ := hrel
              by_cases hlm : m < 5
              · obtain ⟨b3, o3, r, hbo, hy, hyc⟩ := (HL.out.keep (keeps_of (Below.next (Below.next hbk hbj) hbm))).at hlm
                injection hbo with hbo
                injection hbo with h1 h2
                subst h1 h2
                obtain ⟨rk, ri, rt⟩ := r
                obtain ⟨c0, c1, c2⟩ := VlAt.of hyc
                simp only [Nat.zero_add] at c0 c1 c2
                clear hy hyc
                have hR := Blk.new wr 24 #[.int .i64 rk, .int .i64 ri, .string rt]
                have hP9 := (hP5.below hbm).alloc (.cells #[.int .i64 rk, .int .i64 ri, .string rt] 24)
                have hQ9 := (hQ.below hbm).alloc (.cells #[.int .i64 rk, .int .i64 ri, .string rt] 24)
                replace hbm := hbm.alloc hbm.size (.cells #[.int .i64 rk, .int .i64 ri, .string rt] 24)
                have y1 := hP9.cell
                have y2 := hQ9.cell
                have y3 := hR.cell
                go_wp2_with fail
                clear y1 y2 y3 c0 c1 c2
                generalize (wr.alloc (.cells #[.int .i64 rk, .int .i64 ri, .string rt] 24)) = W9 at *
                generalize wr.heap.size = zr at *
                refine (compare_any ⟨qk, qi, qt⟩ ⟨rk, ri, rt⟩ _).mono ?_
                rintro e w9 ⟨rfl, hb⟩
                replace hP9 := hP9.below hb
                replace hR := hR.below hb
                replace hbm := Below.next hbm hb
                clear hb
                have HT : Hid (cmpV ⟨qk, qi, qt⟩ ⟨rk, ri, rt⟩ ≤ 0 → cmpV ⟨pk, pi, pt⟩ ⟨rk, ri, rt⟩ ≤ 0) := Lib.hid (fun h => cmpV_trans (b := ⟨qk, qi, qt⟩) (by rw [HC.out]; omega) h)
                generalize cmpV ⟨qk, qi, qt⟩ ⟨rk, ri, rt⟩ = d at *
                by_cases hd : d ≤ 0
                · have y1 := hP9.cell
                  have y3 := hR.cell
                  go_wp2_with fail
                  clear y1 y3
                  refine (compare_any ⟨pk, pi, pt⟩ ⟨rk, ri, rt⟩ _).mono ?_
                  rintro e w10 ⟨rfl, hb⟩
                  replace hbm := Below.next hbm hb
                  clear hb
                  have he := HT.out hd
                  clear HT
                  generalize cmpV ⟨pk, pi, pt⟩ ⟨rk, ri, rt⟩ = d2 at *
                  go_wp2_with fail
                  go_roundw
                  case rel => exact ⟨m + 1, by omega, by go_num, hbm⟩
                  case measure => simp [intOf]; omega
                · go_wp2_with fail
                  go_roundw
                  case rel => exact ⟨m + 1, by omega, by go_num, hbm⟩
                  case measure => simp [intOf]; omega
              · obtain rfl : m = 5 := by omega
                go_wp2_with fail
                go_roundw
                case rel => exact ⟨j + 1, by omega, by go_num, Below.next hbj hbm⟩
                case measure => simp [intOf]; omega
          · have HC := Lib.hid hr
            have HC2 : Hid (cmpV ⟨qk, qi, qt⟩ ⟨pk, pi, pt⟩ = -1) := Lib.hid (by have := HA.out; omega)
            have hdd : decide ((⟨pk, pi, pt⟩ : Vl) = ⟨qk, qi, qt⟩) = false := by
              exact decide_eq_false (fun h => by have := H0.out.2 h; omega)
            rw [hdd] at hev
            rw [hr]
            clear hr hdd HA H0
            have y1 := hP5.cell
            have y2 := hQ.cell
            go_wp2_with fail
            clear y1 y2
            refine (rcompare_any ⟨pk, pi, pt⟩ ⟨qk, qi, qt⟩ _).mono ?_
            rintro e w7 ⟨rfl, hb⟩
            rw [HC.out]
            replace hP5 := hP5.below hb
            replace hQ := hQ.below hb
            replace hbj := Below.next hbj hb
            clear hb
            have y1 := hP5.cell
            have y2 := hQ.cell
            go_wp2_with fail
            clear y1 y2
            refine (compare_any ⟨qk, qi, qt⟩ ⟨pk, pi, pt⟩ _).mono ?_
            rintro e w8 ⟨rfl, hb⟩
            rw [HC2.out]
            replace hP5 := hP5.below hb
            replace hQ := hQ.below hb
            replace hbj := Below.next hbj hb
            clear hb
            have y1 := hP5.cell
            have y2 := hQ.cell
            go_wp2_with fail
            clear y1 y2 hev
            go_loopw [66] (fun i wq => ∃ m : Nat, m ≤ 5 ∧ i = .int .i64 (m : Int) ∧ Below w8.heap.size w8 wq) (fun i _ => 5 - (intOf i).toNat)
            case atStart => exact ⟨0, by omega, rfl, Below.refl _ _⟩
            case round =>
              obtain ⟨m, hm, rfl, hbm⟩ := hrel
              by_cases hlm : m < 5
              · obtain ⟨b3, o3, r, hbo, hy, hyc⟩ := (HL.out.keep (keeps_of (Below.next (Below.next hbk hbj) hbm))).at hlm
                injection hbo with hbo
                injection hbo with h1 h2
                subst h1 h2
                obtain ⟨rk, ri, rt⟩ := r
                obtain ⟨c0, c1, c2⟩ := VlAt.of hyc
                simp only [Nat.zero_add] at c0 c1 c2
                clear hy hyc
                have hR := Blk.new wr 24 #[.int .i64 rk, .int .i64 ri, .string rt]
                have hP9 := (hP5.below hbm).alloc (.cells #[.int .i64 rk, .int .i64 ri, .string rt] 24)
                have hQ9 := (hQ.below hbm).alloc (.cells #[.int .i64 rk, .int .i64 ri, .string rt] 24)
                replace hbm := hbm.alloc hbm.size (.cells #[.int .i64 rk, .int .i64 ri, .string rt] 24)
                have y1 := hP9.cell
                have y2 := hQ9.cell
                have y3 := hR.cell
                go_wp2_with fail
                go_roundw
                case rel => exact ⟨m + 1, by omega, by go_num, hbm⟩
                case measure => simp [intOf]; omega
              · obtain rfl : m = 5 := by omega
                go_wp2_with fail
                go_roundw
                case rel => exact ⟨j + 1, by omega, by go_num, Below.next hbj hbm⟩
                case measure => simp [intOf]; omega
        · obtain rfl : j = 5 := by omega
          go_wp2_with fail
          go_roundw
          case rel => exact ⟨k + 1, by omega, by go_num, Below.next hbk hbj⟩
          case measure => simp [intOf]; omega
    · go_wp2_with fail
      refine (vbegun_any _).mono ?_
      rintro e w4 ⟨rfl, hb4⟩
      go_wp2
      go_ret
      exact ⟨rfl, Below.next (Below.next hB1 hbk) hb4⟩
end Go.Proofs.Ytemllddgefahfaa
