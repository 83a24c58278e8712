/-
  The walk of the law RegionForms.
-/
import Derived.Test.YtnocbigcdjlliaaGreatB48
import Derived.Test.YtnocbigcdjlliaaGreatB49
set_option linter.unusedVariables false
namespace Go.Proofs.YtnocbigcdjlliaaGreat
open Go.RowKit
set_option maxRecDepth 100000
open Rg

theorem vls_case {w w' : World} {g : Nat} {B : Option Addr} {m : Nat} {l : List Vl} (h : VlS w B m l) (hc : CaseAt w g) (hb : But (· = g) w w') : VlS w' B m l := by
  refine ⟨h.1, fun hn => ?_⟩
  obtain ⟨b, o, e, hcl⟩ := h.2 hn
  have hne : ¬ b = g := by
    intro he
    subst he
    obtain ⟨A2, n2, c2, k2, zs, hB, _⟩ := hc.ex
    have hl : 0 < l.length := by rw [h.1]; exact hn
    have h2 := hcl 0 l[0] (List.getElem?_eq_getElem hl) 2 (.string l[0].t) rfl
    rw [hB.cell] at h2
    rcases o with _ | o <;> simp at h2
  refine ⟨b, o, e, fun k x hx j u hu => ?_⟩
  have h1 := hcl k x hx j u hu
  rw [World.cell?_of_block (w := w) (hb.block b (cell_lt (w := w) (by rw [h1]; rfl)) hne)]
  exact h1
theorem lstP_len : ∀ (d : Nat) (q : Rg), FormF d q → (lstP q).length ≤ d
  | _, .nil _ _, _ => Nat.zero_le _
  | 0, .cons vs rest tail, h => by have := h.1.2; simp [parts] at this
  | d + 1, .cons vs rest tail, h => by
    have h1 := (fits_valid h (p := (vs, rest)) (by simp [parts])).2.2
    have := lstP_len d rest h1
    simp only [lstP, List.length_cons]
    omega
theorem lstR_len (r : Rg) : (lstR r).length ≤ 12 := by
  unfold lstR
  split
  · rename_i h
    unfold lstB at h
    rw [Bool.and_eq_true] at h
    have hok := okB_true.1 h.1
    have := lstP_len _ r hok.2.2.2
    have := hok.2.1
    omega
  · simp
/-- the regions that are looked at -/
structure FmS (w : World) (g Va GA : Nat) (xa : Int) (fa : Bool) (Aa : Option Addr) (na ca : Nat) (ra : Rg) (xs : Int) (fs : Bool) (As : Option Addr) (ns cs : Nat) (rs : Rg) (xw : Int) (fw : Bool) (Aw : Option Addr) (nw cw : Nat) (wr : World) : Prop where
  a : BxR wr Va xa fa Aa na ca ra
  arr : Blk wr GA 28 #[.int .i64 xa, .bool fa, .slice Aa na ca, .int .i64 xs, .bool fs, .slice As ns cs, .int .i64 xw, .bool fw, .slice Aw nw cw]
  ss : RgS wr xs fs As ns cs rs
  sw : WfR rs
  cas : CaseAt wr g
  bel : Below w.heap.size w wr
  hg : w.heap.size ≤ g
section
variable {w wr w' : World} {g Va GA : Nat} {xa : Int} {fa : Bool} {Aa : Option Addr} {na ca : Nat} {ra : Rg} {xs : Int} {fs : Bool} {As : Option Addr} {ns cs : Nat} {rs : Rg} {xw : Int} {fw : Bool} {Aw : Option Addr} {nw cw : Nat} {rw_ : Rg}
theorem FmS.case (h : FmS w g Va GA xa fa Aa na ca ra xs fs As ns cs rs xw fw Aw nw cw wr) (hc : CaseAt w' g) (hb : But (· = g) wr w') : FmS w g Va GA xa fa Aa na ca ra xs fs As ns cs rs xw fw Aw nw cw w' :=
  ⟨h.a.case h.cas hb, h.arr.but hb (h.cas.ne h.arr (by decide)), h.ss.case h.cas hb, h.sw, hc, hb.below h.bel h.bel.size (fun k hk => by subst hk; exact h.hg), h.hg⟩
theorem FmS.below (h : FmS w g Va GA xa fa Aa na ca ra xs fs As ns cs rs xw fw Aw nw cw wr) (hb : Below wr.heap.size wr w') : FmS w g Va GA xa fa Aa na ca ra xs fs As ns cs rs xw fw Aw nw cw w' := h.case (h.cas.below hb) (But.of_below hb)
theorem FmS.at (h : FmS w g Va GA xa fa Aa na ca ra xs fs As ns cs rs xw fw Aw nw cw wr) (hR : RgS w xw fw Aw nw cw rw_) (hW : WfR rw_) {k : Nat} (hk : k < 3) : ∃ (x : Int) (f : Bool) (A : Option Addr) (n c : Nat) (r : Rg), wr.cell? ⟨GA, k * 3, none⟩ = some (.int .i64 x) ∧ wr.cell? ⟨GA, k * 3 + 1, none⟩ = some (.bool f) ∧ wr.cell? ⟨GA, k * 3 + 2, none⟩ = some (.slice A n c) ∧ RgS wr x f A n c r ∧ WfR r := by
  have hc := h.arr.cell
  match k, hk with
  | 0, _ => exact ⟨xa, fa, Aa, na, ca, ra, by simpa using hc 0, by simpa using hc 1, by simpa using hc 2, h.a.s, h.a.wf⟩
  | 1, _ => exact ⟨xs, fs, As, ns, cs, rs, by simpa using hc 3, by simpa using hc 4, by simpa using hc 5, h.ss, h.sw⟩
  | 2, _ => exact ⟨xw, fw, Aw, nw, cw, rw_, by simpa using hc 6, by simpa using hc 7, by simpa using hc 8, hR.keep (keeps_of h.bel), hW⟩
end
/-- the rows that are asked about -/
structure Row3 (GB : Nat) (A0 : Option Addr) (n0 c0 : Nat) (l0 : List Vl) (A1 : Option Addr) (n1 c1 : Nat) (l1 : List Vl) (A2 : Option Addr) (n2 c2 : Nat) (l2 : List Vl) (wr : World) : Prop where
  arr : Blk wr GB 46 #[.slice A0 n0 c0, .slice A1 n1 c1, .slice A2 n2 c2]
  s0 : VlS wr A0 n0 l0
  s1 : VlS wr A1 n1 l1
  s2 : VlS wr A2 n2 l2
  b0 : n0 ≤ c0 ∧ n0 ≤ 9223372036854775807
  b1 : n1 ≤ c1 ∧ n1 ≤ 9223372036854775807
  b2 : n2 ≤ c2 ∧ n2 ≤ 9223372036854775807
theorem Row3.below {GB : Nat} {A0 : Option Addr} {n0 c0 : Nat} {l0 : List Vl} {A1 : Option Addr} {n1 c1 : Nat} {l1 : List Vl} {A2 : Option Addr} {n2 c2 : Nat} {l2 : List Vl} {wr w' : World} (h : Row3 GB A0 n0 c0 l0 A1 n1 c1 l1 A2 n2 c2 l2 wr) (hb : Below wr.heap.size wr w') : Row3 GB A0 n0 c0 l0 A1 n1 c1 l1 A2 n2 c2 l2 w' :=
  ⟨h.arr.below hb, h.s0.keep (keeps_of hb), h.s1.keep (keeps_of hb), h.s2.keep (keeps_of hb), h.b0, h.b1, h.b2⟩
theorem Row3.at {GB : Nat} {A0 : Option Addr} {n0 c0 : Nat} {l0 : List Vl} {A1 : Option Addr} {n1 c1 : Nat} {l1 : List Vl} {A2 : Option Addr} {n2 c2 : Nat} {l2 : List Vl} {wr : World} (h : Row3 GB A0 n0 c0 l0 A1 n1 c1 l1 A2 n2 c2 l2 wr) {j : Nat} (hj : j < 3) :
    ∃ (B : Option Addr) (m c : Nat) (l : List Vl), wr.cell? ⟨GB, j, none⟩ = some (.slice B m c) ∧ VlS wr B m l ∧ m ≤ c ∧ m ≤ 9223372036854775807 := by
  have hc := h.arr.cell
  match j, hj with
  | 0, _ => exact ⟨A0, n0, c0, l0, by simpa using hc 0, h.s0, h.b0⟩
  | 1, _ => exact ⟨A1, n1, c1, l1, by simpa using hc 1, h.s1, h.b1⟩
  | 2, _ => exact ⟨A2, n2, c2, l2, by simpa using hc 2, h.s2, h.b2⟩

set_option maxHeartbeats 32000000 in
theorem forms4_walk (A : Option Addr) (n c : Nat) (zs : List Int) (w : World) (hs : Sl 1 u8c w A n zs) (hz : ∀ z ∈ zs, 0 ≤ z ∧ z ≤ 255) (hnil : A = none → n = 0 ∧ c = 0) (hsp : ∀ ad, A = some ad → ad.spot = none) (hnc : n ≤ c) (hcm : c ≤ 9223372036854775807) (xw : Int) (fw : Bool) (Aw : Option Addr) (nw cw : Nat) (rw_ : Rg) (hR : RgS w xw fw Aw nw cw rw_) (hWf : WfR rw_) (Br : Option Addr) (mr cr : Nat) (lr : List Vl) (hV : VlS w Br mr lr) (hmr : mr ≤ cr) (hcr : cr ≤ 9223372036854775807) :
    Calls Tryz.prog 7 #[.slice A n c, .agg #[.int .i64 xw, .bool fw, .slice Aw nw cw], .slice Br mr cr] w fun e w' => e = .returned (.bool true) ∧ Below w.heap.size w w' := by
  have hba : Below w.heap.size w (w.alloc (.cells #[.int .i64 xw, .bool fw, .slice Aw nw cw] 28)) := (Below.refl _ _).alloc (Nat.le_refl _) _
  have HB0 := Lib.hid hba
  have HS := Lib.hid (hs.keep (keeps_of hba))
  have HZ := Lib.hid hz
  have HN := Lib.hid hnil
  have HP := Lib.hid hsp
  have HR0 := Lib.hid (And.intro hR hWf)
  have HV0 := Lib.hid (And.intro hV (And.intro hmr hcr))
  have HW0 : Hid (Blk (w.alloc (.cells #[.int .i64 xw, .bool fw, .slice Aw nw cw] 28)) w.heap.size 28 #[.int .i64 xw, .bool fw, .slice Aw nw cw]) := Lib.hid (Blk.new _ _ _)
  have Hsz := Lib.hid (World.size_alloc w (.cells #[.int .i64 xw, .bool fw, .slice Aw nw cw] 28))
  clear hs hz hnil hsp hR hWf hba hV hmr hcr
  go_enter Tryz.func7, Tryz.ntmps7
  go_upto_region 1 with fail
  generalize hWW : w.alloc (.cells #[.int .i64 xw, .bool fw, .slice Aw nw cw] 28) = W0 at *
  clear hWW
  go_wp2_with fail
  refine (new_any A n c zs 120 _ HS.out HZ.out HN.out HP.out hnc hcm (by omega)).mono ?_
  rintro e w0 ⟨g, hg, rfl, hc, hb0⟩
  have HW1 := Lib.hid (HW0.out.below hb0)
  have hB := Below.next HB0.out hb0
  have hgw : w.heap.size ≤ g := by have := Hsz.out; omega
  clear HS HZ HN HP HW0 HB0 hb0
  go_wp2_with fail
  refine (int_any g 4 _ hc (by omega) (by omega)).mono ?_
  rintro e w1 ⟨⟨y, hy1, hy2, rfl⟩, hc1, hb1⟩
  replace HW1 := Lib.hid (HW1.out.but hb1 (hc.ne HW1.out (by decide)))
  replace hB := hb1.below hB hB.size (fun k hk => by subst hk; exact hgw)
  replace hc := hc1
  clear hb1
  obtain ⟨wd, rfl⟩ := Int.eq_ofNat_of_zero_le hy1
  go_wp2_with fail
  refine (cregion_any g wd (by omega) _ hc).mono ?_
  rintro e w2 ⟨xa, fa, Aa, na, ca, ra, rfl, hSa, hOa, hWa, hFa, hc2, hb2⟩
  replace HW1 := Lib.hid (HW1.out.but hb2 (hc.ne HW1.out (by decide)))
  replace hB := hb2.below hB hB.size (fun k hk => by subst hk; exact hgw)
  replace hc := hc2
  clear hy1 hy2
  have hal : Below w2.heap.size w2 (w2.alloc (.cells #[.int .i64 xa, .bool fa, .slice Aa na ca] 28)) := (Below.refl _ _).alloc (Nat.le_refl _) _
  have HA : Hid (BxR (w2.alloc (.cells #[.int .i64 xa, .bool fa, .slice Aa na ca] 28)) w2.heap.size xa fa Aa na ca ra) := Lib.hid ⟨Blk.new _ _ _, hSa.keep (keeps_of hal), hFa⟩
  have HOa := Lib.hid hOa
  replace HW1 := Lib.hid (HW1.out.below hal)
  have HC := Lib.hid (hc.below hal)
  have HB := Lib.hid (Below.next hB hal)
  clear hb2 hSa hOa hWa hFa hc2 hB hc
  obtain ⟨Va, HVa⟩ : ∃ z, Hid (w2.heap.size = z) := ⟨_, rfl⟩
  rw [HVa.out] at HA
  go_upto_region 3 with fail
  rw [HVa.out]
  generalize hWW : w2.alloc (.cells #[.int .i64 xa, .bool fa, .slice Aa na ca] 28) = w3 at *
  clear hWW hal HVa
  refine wp_region_planR [] (onlyG g) (anyW) (onlyG_trans g) (anyW_trans) (.one [0, 1, 2, 4, 7] [] 3 (.one [] [] 5 (.last [6] []))) (by kernel_rfl) (by kernel_rfl) (fun _ _ d _ _ h => by cases d <;> exact h) ?_
  have hbd : Below w3.heap.size w3 w3.drew := (Below.refl _ _).drew
  replace HA := Lib.hid (HA.out.below hbd)
  replace HW1 := Lib.hid (HW1.out.below hbd)
  replace HC := Lib.hid (HC.out.below hbd)
  replace HB := Lib.hid (Below.next HB.out hbd)
  generalize hW4 : w3.drew = w4 at *
  clear hW4 hbd
  have qa : ∀ (y : LaterR (onlyG g) w4) z, (afterR (onlyG g) w4 y).cell? ⟨Va, z, none⟩ = (#[.int .i64 xa, .bool fa, .slice Aa na ca] : Array Value)[z]? := fun y z => y.cell (HA.out.b.cell z) (fun W h => (HA.out.b.but h (HC.out.ne HA.out.b (by decide))).cell z)
  have qw : ∀ (y : LaterR (onlyG g) w4) z, (afterR (onlyG g) w4 y).cell? ⟨w.heap.size, z, none⟩ = (#[.int .i64 xw, .bool fw, .slice Aw nw cw] : Array Value)[z]? := fun y z => y.cell (HW1.out.cell z) (fun W h => (HW1.out.but h (HC.out.ne HW1.out (by decide))).cell z)
  unfold wpPlanR
  simp only [pickOps, opAt, List.map_cons, List.map_nil, List.getElem?_toArray, List.getElem?_cons_zero, List.getElem?_cons_succ, Option.getD_some]
  repeat (go_big_quiet_step (fail))
  refine wpQuiet_nil ?_
  repeat (go_big_quiet_step (fail))
  refine wpQuiet_nil ?_
  clear qa qw
  go_wp2_with fail
  refine (spoilt4_any g ra.w.toNat ra xa fa Aa na ca _ (by have := HOa.out.2.1; omega) (ok_form HOa.out).1 (ok_form HOa.out).2 HA.out.wf HC.out HA.out.s).mono ?_
  rintro e w5 ⟨xs, fs, As, ns, cs, rs, rfl, hSs, hFs, hc5, hb5⟩
  have HA5 := Lib.hid (HA.out.case HC.out hb5)
  have HB5 := Lib.hid (hb5.below HB.out HB.out.size (fun k hk => by subst hk; exact hgw))
  have HC5 := Lib.hid hc5
  have HSs := Lib.hid (And.intro hSs.s hFs)
  go_wp2_with fail
  refine ⟨⟨fun _ => hb5, trivial⟩, ?_⟩
  clear HA HW1 HC HB hSs hFs hc5 hb5 HOa
  unfold wpPlanR
  simp only [pickOps, opAt, List.map_nil, List.getElem?_toArray, List.getElem?_cons_zero, List.getElem?_cons_succ, Option.getD_some]
  repeat (go_big_quiet_step (fail))
  refine wpQuiet_nil ?_
  repeat (go_big_quiet_step (fail))
  refine wpQuiet_nil ?_
  go_wp2_with fail
  refine ⟨⟨fun _ => But.alloc _ _, trivial⟩, ?_⟩
  have hal : Below w5.heap.size w5 (w5.alloc (.cells #[.int .i64 xa, .bool fa, .slice Aa na ca, .int .i64 xs, .bool fs, .slice As ns cs, .int .i64 xw, .bool fw, .slice Aw nw cw] 28)) := (Below.refl _ _).alloc (Nat.le_refl _) _
  have HQ : Hid (FmS w g Va w5.heap.size xa fa Aa na ca ra xs fs As ns cs rs xw fw Aw nw cw (w5.alloc (.cells #[.int .i64 xa, .bool fa, .slice Aa na ca, .int .i64 xs, .bool fs, .slice As ns cs, .int .i64 xw, .bool fw, .slice Aw nw cw] 28))) := Lib.hid ⟨HA5.out.below hal, Blk.new _ _ _, HSs.out.1.keep (keeps_of hal), HSs.out.2, HC5.out.below hal, Below.next HB5.out hal, hgw⟩
  obtain ⟨GA, HGA⟩ : ∃ z, Hid (w5.heap.size = z) := ⟨_, rfl⟩
  rw [HGA.out] at HQ ⊢
  generalize hWW : w5.alloc (.cells #[.int .i64 xa, .bool fa, .slice Aa na ca, .int .i64 xs, .bool fs, .slice As ns cs, .int .i64 xw, .bool fw, .slice Aw nw cw] 28) = w6 at *
  clear hWW hal HA5 HB5 HC5 HSs HGA
  unfold wpPlanR
  simp only [pickOps, opAt, List.map_cons, List.map_nil, List.getElem?_toArray, List.getElem?_cons_zero, List.getElem?_cons_succ, Option.getD_some]
  repeat (go_big_quiet_step (fail))
  refine wpQuiet_nil ?_
  repeat (go_big_quiet_step (fail))
  refine wpQuiet_nil ?_
  go_wp2_with fail
  go_loopw [30] (fun i wr => ∃ k : Nat, k ≤ 3 ∧ i = .int .i64 (k : Int) ∧ Hid (FmS w g Va GA xa fa Aa na ca ra xs fs As ns cs rs xw fw Aw nw cw wr)) (fun i _ => 3 - (intOf i).toNat)
  case atStart => exact ⟨0, by omega, rfl, HQ⟩
  case round =>
    clear HQ
    obtain ⟨k, hk, rfl, HQ⟩ := hrel
    by_cases hk3 : k < 3
    · obtain ⟨x1, f1, A1, n1, c1, r1, d0, d1, d2, hS1, hW1⟩ := HQ.out.at HR0.out.1 HR0.out.2 hk3
      have hal : Below wr.heap.size wr (wr.alloc (.cells #[.int .i64 x1, .bool f1, .slice A1 n1 c1] 28)) := (Below.refl _ _).alloc (Nat.le_refl _) _
      have HX : Hid (BxR (wr.alloc (.cells #[.int .i64 x1, .bool f1, .slice A1 n1 c1] 28)) wr.heap.size x1 f1 A1 n1 c1 r1) := Lib.hid ⟨Blk.new _ _ _, hS1.keep (keeps_of hal), hW1⟩
      replace HQ := Lib.hid (HQ.out.below hal)
      obtain ⟨V1, HV1⟩ : ∃ z, Hid (wr.heap.size = z) := ⟨_, rfl⟩
      rw [HV1.out] at HX
      clear hS1 hW1
      go_upto_region 6 with fail
      rw [HV1.out]
      generalize hWW : wr.alloc (.cells #[.int .i64 x1, .bool f1, .slice A1 n1 c1] 28) = w7 at *
      clear hWW hal HV1 d0 d1 d2
      obtain ⟨vo, Hvo⟩ : ∃ z, Hid (okB r1 = z) := ⟨_, rfl⟩
      obtain ⟨vz, Hvz⟩ : ∃ z, Hid (sizeB r1 = z) := ⟨_, rfl⟩
      obtain ⟨ve, Hve⟩ : ∃ z, Hid (eqB r1 ra = z) := ⟨_, rfl⟩
      refine wp_region_planR [] (moreW) (anyW) (moreW_trans) (anyW_trans) (.one [0, 2] [] 1 (.one [] [] 3 (.one [4, 5, 6, 8] [] 7 (.one [] [] 9 (.one [10, 11, 12, 13, 14, 16, 17] [] 15 (.one [] [] 18 (.last [19, 20] []))))))) (by kernel_rfl) (by kernel_rfl) (fun _ _ d _ _ h => by cases d <;> exact h) ?_
      have hbd : Below w7.heap.size w7 w7.drew := (Below.refl _ _).drew
      replace HX := Lib.hid (HX.out.below hbd)
      replace HQ := Lib.hid (HQ.out.below hbd)
      generalize hWd : w7.drew = w8 at *
      clear hWd hbd
      have qx : ∀ (y : LaterR moreW w8) z, (afterR moreW w8 y).cell? ⟨V1, z, none⟩ = (#[.int .i64 x1, .bool f1, .slice A1 n1 c1] : Array Value)[z]? := fun y z => y.cell (HX.out.b.cell z) (fun W h => (HX.out.b.below h).cell z)
      unfold wpPlanR
      simp only [pickOps, opAt, List.map_cons, List.map_nil, List.getElem?_toArray, List.getElem?_cons_zero, List.getElem?_cons_succ, Option.getD_some]
      repeat (go_big_quiet_step (fail))
      refine wpQuiet_nil ?_
      repeat (go_big_quiet_step (fail))
      refine wpQuiet_nil ?_
      clear qx
      go_wp2_with fail
      refine (rvalidR_any r1 x1 f1 A1 n1 c1 _ HX.out.s).mono ?_
      rintro e w11 ⟨rfl, hb⟩
      rw [Hvo.out]
      go_wp2_with fail
      refine ⟨⟨fun _ => hb, trivial⟩, ?_⟩
      replace HX := Lib.hid (HX.out.below hb)
      replace HQ := Lib.hid (HQ.out.below hb)
      clear hb
      unfold wpPlanR
      simp only [pickOps, opAt, List.map_nil, List.getElem?_toArray, List.getElem?_cons_zero, List.getElem?_cons_succ, Option.getD_some]
      repeat (go_big_quiet_step (fail))
      refine wpQuiet_nil ?_
      repeat (go_big_quiet_step (fail))
      refine wpQuiet_nil ?_
      go_wp2_with fail
      refine (fvalid_any r1 x1 f1 A1 n1 c1 _ HX.out.s).mono ?_
      rintro e w12 ⟨rfl, hb⟩
      rw [Hvo.out]
      go_wp2_with fail
      refine ⟨⟨fun _ => hb, trivial⟩, ?_⟩
      replace HX := Lib.hid (HX.out.below hb)
      replace HQ := Lib.hid (HQ.out.below hb)
      clear hb
      have qx : ∀ (y : LaterR moreW w12) z, (afterR moreW w12 y).cell? ⟨V1, z, none⟩ = (#[.int .i64 x1, .bool f1, .slice A1 n1 c1] : Array Value)[z]? := fun y z => y.cell (HX.out.b.cell z) (fun W h => (HX.out.b.below h).cell z)
      unfold wpPlanR
      simp only [pickOps, opAt, List.map_cons, List.map_nil, List.getElem?_toArray, List.getElem?_cons_zero, List.getElem?_cons_succ, Option.getD_some]
      repeat (go_big_quiet_step (fail))
      refine wpQuiet_nil ?_
      repeat (go_big_quiet_step (fail))
      refine wpQuiet_nil ?_
      clear qx
      go_wp2_with fail
      refine (sizeR_any r1 x1 f1 A1 n1 c1 _ HX.out.s).mono ?_
      rintro e w13 ⟨rfl, hb⟩
      rw [show (if okB r1 = true then (r1.size : Int) else 0) = vz from Hvz.out]
      go_wp2_with fail
      refine ⟨⟨fun _ => hb, trivial⟩, ?_⟩
      replace HX := Lib.hid (HX.out.below hb)
      replace HQ := Lib.hid (HQ.out.below hb)
      clear hb
      unfold wpPlanR
      simp only [pickOps, opAt, List.map_nil, List.getElem?_toArray, List.getElem?_cons_zero, List.getElem?_cons_succ, Option.getD_some]
      repeat (go_big_quiet_step (fail))
      refine wpQuiet_nil ?_
      repeat (go_big_quiet_step (fail))
      refine wpQuiet_nil ?_
      go_wp2_with fail
      refine (fsize_any r1 x1 f1 A1 n1 c1 _ HX.out.s).mono ?_
      rintro e w14 ⟨rfl, hb⟩
      rw [Hvz.out]
      go_wp2_with fail
      refine ⟨⟨fun _ => hb, trivial⟩, ?_⟩
      replace HX := Lib.hid (HX.out.below hb)
      replace HQ := Lib.hid (HQ.out.below hb)
      clear hb
      have qx : ∀ (y : LaterR moreW w14) z, (afterR moreW w14 y).cell? ⟨V1, z, none⟩ = (#[.int .i64 x1, .bool f1, .slice A1 n1 c1] : Array Value)[z]? := fun y z => y.cell (HX.out.b.cell z) (fun W h => (HX.out.b.below h).cell z)
      have qa : ∀ (y : LaterR moreW w14) z, (afterR moreW w14 y).cell? ⟨Va, z, none⟩ = (#[.int .i64 xa, .bool fa, .slice Aa na ca] : Array Value)[z]? := fun y z => y.cell (HQ.out.a.b.cell z) (fun W h => (HQ.out.a.b.below h).cell z)
      unfold wpPlanR
      simp only [pickOps, opAt, List.map_cons, List.map_nil, List.getElem?_toArray, List.getElem?_cons_zero, List.getElem?_cons_succ, Option.getD_some]
      repeat (go_big_quiet_step (fail))
      refine wpQuiet_nil ?_
      repeat (go_big_quiet_step (fail))
      refine wpQuiet_nil ?_
      clear qx qa
      go_wp2_with fail
      refine (gequal_any r1 x1 f1 A1 n1 c1 ra xa fa Aa na ca _ HX.out.s HQ.out.a.s).mono ?_
      rintro e w15 ⟨rfl, hb⟩
      rw [Hve.out]
      go_wp2_with fail
      refine ⟨⟨fun _ => hb, trivial⟩, ?_⟩
      replace HX := Lib.hid (HX.out.below hb)
      replace HQ := Lib.hid (HQ.out.below hb)
      clear hb
      unfold wpPlanR
      simp only [pickOps, opAt, List.map_nil, List.getElem?_toArray, List.getElem?_cons_zero, List.getElem?_cons_succ, Option.getD_some]
      repeat (go_big_quiet_step (fail))
      refine wpQuiet_nil ?_
      repeat (go_big_quiet_step (fail))
      refine wpQuiet_nil ?_
      go_wp2_with fail
      refine (fequal_any r1 x1 f1 A1 n1 c1 ra xa fa Aa na ca _ HX.out.s HQ.out.a.s).mono ?_
      rintro e w16 ⟨rfl, hb⟩
      rw [Hve.out]
      go_wp2_with fail
      refine ⟨⟨fun _ => hb, trivial⟩, ?_⟩
      replace HX := Lib.hid (HX.out.below hb)
      replace HQ := Lib.hid (HQ.out.below hb)
      clear hb
      unfold wpPlanR
      simp only [pickOps, opAt, List.map_cons, List.map_nil, List.getElem?_toArray, List.getElem?_cons_zero, List.getElem?_cons_succ, Option.getD_some]
      repeat (go_big_quiet_step (fail))
      refine wpQuiet_nil ?_
      repeat (go_big_quiet_step (fail))
      refine wpQuiet_nil ?_
      clear Hvo Hvz Hve
      obtain ⟨vb, Hvb⟩ : ∃ z, Hid (lstB r1 = z) := ⟨_, rfl⟩
      have zx := HX.out.b.cell
      go_wp2_with fail
      refine (gleast_any r1 x1 f1 A1 n1 c1 _ HX.out.s).mono ?_
      rintro e w17 ⟨AL, nL, cL, rfl, hVL, hcL, hb⟩
      rw [Hvb.out]
      replace HX := Lib.hid (HX.out.below hb)
      replace HQ := Lib.hid (HQ.out.below hb)
      have HVL := Lib.hid hVL
      have hL12 : nL ≤ 12 := by rw [← hVL.1]; exact lstR_len r1
      have HcL := Lib.hid hcL
      clear hb zx hVL hcL
      have zx := HX.out.b.cell
      go_wp2_with fail
      refine (fleast_any r1 x1 f1 A1 n1 c1 _ HX.out.s).mono ?_
      rintro e w18 ⟨AM, nM, cM, rfl, hVM, _, hb⟩
      rw [Hvb.out]
      replace HX := Lib.hid (HX.out.below hb)
      replace HQ := Lib.hid (HQ.out.below hb)
      replace HVL := Lib.hid (HVL.out.keep (keeps_of hb))
      have HVM := Lib.hid hVM
      have hM12 : nM ≤ 12 := by rw [← hVM.1]; exact lstR_len r1
      clear hb zx hVM
      go_wp2_with fail
      refine (rcomprows_any AL AM nL nM cL cM (lstR r1) (lstR r1) _ HVL.out HVM.out (by omega) (by omega)).mono ?_
      rintro e w19 ⟨rfl, hb⟩
      rw [cmpR_self]
      replace HX := Lib.hid (HX.out.below hb)
      replace HQ := Lib.hid (HQ.out.below hb)
      replace HVL := Lib.hid (HVL.out.keep (keeps_of hb))
      clear hb HVM hM12
      obtain ⟨q, hq5, hq⟩ : ∃ q : Nat, q ≤ 5 ∧ max (0 : Int) (min x1 5) = (q : Int) := ⟨(max (0 : Int) (min x1 5)).toNat, by omega, by omega⟩
      have zx := HX.out.b.cell
      go_wp2_with fail
      refine (gcells_any g q (by omega) _ HQ.out.cas).mono ?_
      rintro e w20 ⟨BC, mC, cC, lC, rfl, hml, hmw, hval, hown, hrow, hc1, hb1⟩
      replace HX := Lib.hid (HX.out.case HQ.out.cas hb1)
      replace HVL := Lib.hid (vls_case HVL.out HQ.out.cas hb1)
      replace HQ := Lib.hid (HQ.out.case hc1 hb1)
      have HRC := Lib.hid (And.intro hrow (And.intro (own_okS hown).1 (show mC ≤ 5 by omega)))
      clear zx hval hown hrow hc1 hb1 hml hmw hq hq5
      have hal : Below w20.heap.size w20 (w20.alloc (.cells #[.slice Br mr cr, .slice AL nL cL, .slice BC mC cC] 46)) := (Below.refl _ _).alloc (Nat.le_refl _) _
      replace HX := Lib.hid (HX.out.below hal)
      replace HQ := Lib.hid (HQ.out.below hal)
      have HG : Hid (Row3 w20.heap.size Br mr cr lr AL nL cL (lstR r1) BC mC cC lC (w20.alloc (.cells #[.slice Br mr cr, .slice AL nL cL, .slice BC mC cC] 46))) := Lib.hid ⟨Blk.new _ _ _, HV0.out.1.keep (keeps_of HQ.out.bel), HVL.out.keep (keeps_of hal), HRC.out.1.keep (keeps_of hal), ⟨HV0.out.2.1, Nat.le_trans HV0.out.2.1 HV0.out.2.2⟩, ⟨HcL.out, by omega⟩, ⟨HRC.out.2.1, by have := HRC.out.2.2; omega⟩⟩
      obtain ⟨GB, HGB⟩ : ∃ z, Hid (w20.heap.size = z) := ⟨_, rfl⟩
      rw [HGB.out] at HG
      go_upto_region 13 with fail
      rw [HGB.out]
      generalize hWW : w20.alloc (.cells #[.slice Br mr cr, .slice AL nL cL, .slice BC mC cC] 46) = w21 at *
      clear hWW hal HGB HVL HRC HcL hL12
      go_wp2_with fail
      go_loopw [84] (fun i wr => ∃ j : Nat, j ≤ 3 ∧ i = .int .i64 (j : Int) ∧ Hid (Below w21.heap.size w21 wr)) (fun i _ => 3 - (intOf i).toNat)
      case atStart => exact ⟨0, by omega, rfl, Lib.hid (Below.refl _ _)⟩
      case round =>
        obtain ⟨j, hj, rfl, HL⟩ := hrel
        by_cases hj3 : j < 3
        · obtain ⟨Bu, mu, cu, lu, d0, hVu, hmu, hmx⟩ := (HG.out.below HL.out).at hj3
          have HU := Lib.hid (And.intro hmu hmx)
          have HVu := Lib.hid hVu
          have HX2 := Lib.hid (HX.out.below HL.out)
          clear hVu hmu hmx
          go_upto_region 15 with fail
          clear d0
          obtain ⟨vh, Hvh⟩ : ∃ z, Hid (hasR r1 lu = z) := ⟨_, rfl⟩
          refine wp_region_planR [] (moreW) (anyW) (moreW_trans) (anyW_trans) (.one [0, 1, 3, 4] [] 2 (.one [] [] 5 (.last [6] []))) (by kernel_rfl) (by kernel_rfl) (fun _ _ d _ _ h => by cases d <;> exact h) ?_
          have hbd : Below wr.heap.size wr wr.drew := (Below.refl _ _).drew
          replace HX2 := Lib.hid (HX2.out.below hbd)
          replace HVu := Lib.hid (HVu.out.keep (keeps_of hbd))
          replace HL := Lib.hid (Below.next HL.out hbd)
          generalize hWd : wr.drew = w22 at *
          clear hWd hbd
          have qx : ∀ (y : LaterR moreW w22) z, (afterR moreW w22 y).cell? ⟨V1, z, none⟩ = (#[.int .i64 x1, .bool f1, .slice A1 n1 c1] : Array Value)[z]? := fun y z => y.cell (HX2.out.b.cell z) (fun W h => (HX2.out.b.below h).cell z)
          unfold wpPlanR
          simp only [pickOps, opAt, List.map_cons, List.map_nil, List.getElem?_toArray, List.getElem?_cons_zero, List.getElem?_cons_succ, Option.getD_some]
          repeat (go_big_quiet_step (fail))
          refine wpQuiet_nil ?_
          repeat (go_big_quiet_step (fail))
          refine wpQuiet_nil ?_
          clear qx
          go_wp2_with fail
          refine (ghas_any r1 x1 f1 A1 n1 c1 lu Bu mu cu _ HX2.out.s HVu.out).mono ?_
          rintro e w23 ⟨rfl, hb⟩
          rw [Hvh.out]
          go_wp2_with fail
          refine ⟨⟨fun _ => hb, trivial⟩, ?_⟩
          replace HX2 := Lib.hid (HX2.out.below hb)
          replace HVu := Lib.hid (HVu.out.keep (keeps_of hb))
          replace HL := Lib.hid (Below.next HL.out hb)
          clear hb
          unfold wpPlanR
          simp only [pickOps, opAt, List.map_nil, List.getElem?_toArray, List.getElem?_cons_zero, List.getElem?_cons_succ, Option.getD_some]
          repeat (go_big_quiet_step (fail))
          refine wpQuiet_nil ?_
          repeat (go_big_quiet_step (fail))
          refine wpQuiet_nil ?_
          go_wp2_with fail
          refine (fhas_any r1 x1 f1 A1 n1 c1 lu Bu mu cu _ HX2.out.s HVu.out HU.out.1 HU.out.2).mono ?_
          rintro e w24 ⟨rfl, hb⟩
          rw [Hvh.out]
          go_wp2_with fail
          refine ⟨⟨fun _ => hb, trivial⟩, ?_⟩
          replace HL := Lib.hid (Below.next HL.out hb)
          clear hb HX2 HVu
          unfold wpPlanR
          simp only [pickOps, opAt, List.map_cons, List.map_nil, List.getElem?_toArray, List.getElem?_cons_zero, List.getElem?_cons_succ, Option.getD_some]
          repeat (go_big_quiet_step (fail))
          refine wpQuiet_nil ?_
          repeat (go_big_quiet_step (fail))
          refine wpQuiet_nil ?_
          go_wp2
          go_roundw
          case rel => exact ⟨j + 1, by omega, by go_num, HL⟩
          case measure => simp [intOf]; omega
        · obtain rfl : j = 3 := by omega
          go_wp2
          go_roundw
          case rel => exact ⟨k + 1, by omega, by go_num, Lib.hid (HQ.out.below HL.out)⟩
          case measure => simp [intOf]; omega
    · obtain rfl : k = 3 := by omega
      have hB := HQ.out.bel
      go_wp2_with fail
      refine (begun4_any _).mono ?_
      rintro e w99 ⟨rfl, hb99⟩
      replace hB := Below.next hB hb99
      clear hb99
      go_wp2
      go_ret
      exact ⟨rfl, hB⟩
end Go.Proofs.YtnocbigcdjlliaaGreat
