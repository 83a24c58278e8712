/-
  The walk of the law IntegrityFinds.
-/
import Derived.Test.YtponkkljlbifmaaGreatH38
import Derived.Test.YtponkkljlbifmaaGreatH42
import Derived.Test.YtponkkljlbifmaaGreatH43
set_option linter.unusedVariables false
namespace Go.Proofs.YtponkkljlbifmaaGreat
open Go.RowKit
set_option maxRecDepth 100000
open Pd

/-- what the law holds: the schema and the three states -/
structure FnI (X1 : Nat) (ver : Int) (sb m b m1 cb1 n2 c2 Z : Nat) (B1 A2 : Option Addr) (tbs : List Tb) (ls ls1 lr : List TlP) (wr : World) : Prop where
  z : Blk wr X1 30 #[.int .i64 ver, .slice (some ⟨sb, 0, none⟩) m 4]
  sc : ScS wr (some ⟨sb, 0, none⟩) m tbs
  y : Blk wr Z 25 #[.slice (some ⟨b, 0, none⟩) m m, .slice B1 m1 cb1, .slice A2 n2 c2]
  s0 : StS wr (some ⟨b, 0, none⟩) m ls
  s1 : StS wr B1 m1 ls1
  s2 : StS wr A2 n2 lr
section
variable {X1 : Nat} {ver : Int} {sb m b m1 cb1 n2 c2 Z : Nat} {B1 A2 : Option Addr} {tbs : List Tb} {ls ls1 lr : List TlP} {wr w' : World}
theorem FnI.below (h : FnI X1 ver sb m b m1 cb1 n2 c2 Z B1 A2 tbs ls ls1 lr wr) (hb : Below wr.heap.size wr w') : FnI X1 ver sb m b m1 cb1 n2 c2 Z B1 A2 tbs ls ls1 lr w' :=
  ⟨h.z.below hb, h.sc.keep (keeps_of hb), h.y.below hb, h.s0.keep (keeps_of hb), h.s1.keep (keeps_of hb), h.s2.keep (keeps_of hb)⟩
theorem FnI.at (h : FnI X1 ver sb m b m1 cb1 n2 c2 Z B1 A2 tbs ls ls1 lr wr) {k : Nat} (hk : k < 3) (h0 : m ≤ 4000000 ∧ cntS (stR ls) ≤ 4611686018427387904) (h1 : m1 ≤ 4000000 ∧ cntS (stR ls1) ≤ 4611686018427387904) (h2 : n2 ≤ 4000000 ∧ cntS (stR lr) ≤ 4611686018427387904) : ∃ (B : Option Addr) (n c : Nat) (l : List TlP), wr.cell? ⟨Z, k, none⟩ = some (.slice B n c) ∧ StS wr B n l ∧ n ≤ 4000000 ∧ cntS (stR l) ≤ 4611686018427387904 := by
  rcases k with _ | _ | _ | k
  · exact ⟨_, _, _, _, h.y.cell 0, h.s0, h0.1, h0.2⟩
  · exact ⟨_, _, _, _, h.y.cell 1, h.s1, h1.1, h1.2⟩
  · exact ⟨_, _, _, _, h.y.cell 2, h.s2, h2.1, h2.2⟩
  · omega
end
set_option maxRecDepth 100000 in
set_option maxHeartbeats 4000000 in
theorem finds9_walk (A : Option Addr) (n c : Nat) (zs : List Int) (w : World) (hs : Sl 1 u8c w A n zs) (hz : ∀ z ∈ zs, 0 ≤ z ∧ z ≤ 255) (hnil : A = none → n = 0 ∧ c = 0) (hsp : ∀ ad, A = some ad → ad.spot = none) (hnc : n ≤ c) (hcm : c ≤ 9223372036854775807) (A2 : Option Addr) (n2 c2 : Nat) (lr : List TlP) (hst2 : StS w A2 n2 lr) (hn2 : n2 ≤ 4000000) (hct2 : cntS (stR lr) ≤ 4611686018427387904) :
    Calls Tryz.prog 3 #[.slice A n c, .agg #[.slice A2 n2 c2]] w fun e w' => e = .returned (.bool true) ∧ Below w.heap.size w w' := by
  have HBr : Hid (Below w.heap.size w (w.alloc (.cells #[.slice A2 n2 c2] 25))) := Lib.hid ((Below.refl _ _).alloc (Nat.le_refl _) _)
  have HS := Lib.hid (hs.keep (keeps_of HBr.out))
  have HZ := Lib.hid hz
  have HN := Lib.hid hnil
  have HP := Lib.hid hsp
  have HR2 := Lib.hid (hst2.keep (keeps_of HBr.out))
  have HXr := Lib.hid (Blk.new w 25 #[.slice A2 n2 c2])
  clear hs hz hnil hsp hst2
  go_enter Tryz.func3, Tryz.ntmps3
  go_upto_region 1 with fail
  obtain ⟨X0, HX0⟩ : ∃ z, Hid (w.heap.size = z) := ⟨_, Lib.hid rfl⟩
  rw [HX0.out] at HXr
  rw [HX0.out]
  obtain ⟨wi, HWI⟩ : ∃ z, Hid (w.alloc (.cells #[.slice A2 n2 c2] 25) = z) := ⟨_, Lib.hid rfl⟩
  rw [HWI.out] at HBr HS HR2 HXr ⊢
  clear HWI
  go_wp2_with fail
  refine (new_any A n c zs 160 _ HS.out HZ.out HN.out HP.out hnc hcm (by omega)).mono ?_
  rintro e w0 ⟨g, hg, rfl, hc, hB0⟩
  have HC := Lib.hid hc
  have HB := Lib.hid hB0
  have HG := Lib.hid hg
  clear HS HZ HN HP hc hB0 hg hnc hcm
  go_wp2_with fail
  refine (cschema_any g _ HC.out).mono ?_
  rintro e w1 ⟨ver, sb, m, tbs, rfl, hsc, hgs, hm2, hm4, hc1, hb1⟩
  have HB1 := Lib.hid (hb1.below HB.out HB.out.size (fun k hk => by subst hk; exact HG.out))
  have HGS := Lib.hid hgs
  have HC1 := Lib.hid (hc1.below ((Below.refl w1.heap.size w1).alloc (Nat.le_refl _) (.cells #[.int .i64 ver, .slice (some ⟨sb, 0, none⟩) m 4] 30)))
  have hal : Below w1.heap.size w1 (w1.alloc (.cells #[.int .i64 ver, .slice (some ⟨sb, 0, none⟩) m 4] 30)) := (Below.refl _ _).alloc (Nat.le_refl _) _
  have HSC : Hid (ScN g (w1.alloc (.cells #[.int .i64 ver, .slice (some ⟨sb, 0, none⟩) m 4] 30)) (some ⟨sb, 0, none⟩) m tbs) := Lib.hid (fun w' hw => hsc w' ((But.ofB hal).trans hw))
  have HZ := Lib.hid (Blk.new w1 30 #[.int .i64 ver, .slice (some ⟨sb, 0, none⟩) m 4])
  have HB2 := Lib.hid (Below.next HB1.out hal)
  obtain ⟨X1, HX1⟩ : ∃ z, Hid (w1.heap.size = z) := ⟨_, Lib.hid rfl⟩
  have HgX : Hid (X1 ≠ g) := Lib.hid (by have := hc1.lt; have := HX1.out; omega)
  rw [HX1.out] at HZ
  clear hsc hgs hc1 hb1 hal HC HB HB1
  go_upto_region 3 with fail
  rw [HX1.out]
  generalize w1.alloc (.cells #[.int .i64 ver, .slice (some ⟨sb, 0, none⟩) m 4] 30) = w2 at *
  clear HX1
  have z := HZ.out.cell
  go_wp2_with fail
  refine (cstate_any g ver (some ⟨sb, 0, none⟩) m 4 tbs _ HC1.out HSC.out HGS.out).mono ?_
  rintro e w3 ⟨b, ls, rfl, hbb, hst, htb, hct, hc3, hb3⟩
  have hal : Below w3.heap.size w3 (w3.alloc (.cells #[.slice (some ⟨b, 0, none⟩) m m] 25)) := (Below.refl _ _).alloc (Nat.le_refl _) _
  have HXn := Lib.hid (Blk.new w3 25 #[.slice (some ⟨b, 0, none⟩) m m])
  have hgw : g < w2.heap.size := HC1.out.lt
  have HSt : Hid (StP (fun k => k = g ∨ k = b ∨ k < w2.heap.size) (w3.alloc (.cells #[.slice (some ⟨b, 0, none⟩) m m] 25)) b m ls []) := Lib.hid (hst.below hal)
  have HC3 := Lib.hid (hc3.below hal)
  have HB3 : Hid (But (· = g) w2 (w3.alloc (.cells #[.slice (some ⟨b, 0, none⟩) m m] 25))) := Lib.hid (hb3.trans (But.ofB hal))
  have HZ3 := Lib.hid ((HZ.out.but hb3 HgX.out).below hal)
  obtain ⟨X2, HX2⟩ : ∃ z, Hid (w3.heap.size = z) := ⟨_, Lib.hid rfl⟩
  have HgX2 : Hid (X2 ≠ g ∧ b ≠ g) := Lib.hid (by have := hc3.lt; have := HX2.out; exact ⟨by omega, by omega⟩)
  rw [HX2.out] at HXn
  have HO : Hid (OkS tbs (stR ls)) := Lib.hid ⟨by have h1 := (HSC.out _ (But.refl _ _)).len; have h2 := hst.len; unfold stR; rw [List.length_map, h2, h1], htb, by omega⟩
  have hct : cntS (stR ls) ≤ 16 := by omega
  have H8 : Hid (∀ l ∈ stR ls, ∀ r ∈ l, 1 ≤ r.length ∧ r.length ≤ 8) := Lib.hid (fun l hl r hr => by
    obtain ⟨i, hi⟩ := List.mem_iff_getElem?.1 hl
    refine ⟨?_, HO.out.row8' HGS.out hi r hr⟩
    have hk : i < tbs.length := by rw [← HO.out.ln]; exact (List.getElem?_eq_some_iff.1 hi).1
    have h1 := fits_ne (by have h := HGS.out.tb _ (List.getElem_mem hk); have := h.k1; have := h.k2; omega) (rowsB_fit _ none (tabsB_at _ _ _ _ l HO.out.tb (List.getElem?_eq_getElem hk) hi) r hr)
    omega)
  have HM : Hid (m ≤ 4) := Lib.hid hm4
  have hm0 : 0 < m := by omega
  clear hbb hst htb hc3 hb3 hm4 HC1 HZ z hal
  go_upto_region 4 with fail
  rw [HX2.out]
  generalize w3.alloc (.cells #[.slice (some ⟨b, 0, none⟩) m m] 25) = w4 at *
  clear HX2
  have HB4 : Hid (Below wi.heap.size wi w4) := Lib.hid (HB3.out.below HB2.out HB2.out.size (fun k hk => by subst hk; exact HG.out))
  have HSC4 : Hid (ScN g w4 (some ⟨sb, 0, none⟩) m tbs) := Lib.hid (fun w' hw => HSC.out w' (HB3.out.trans hw))
  have HgX0 : Hid (X0 ≠ g) := Lib.hid (by have h1 := HXr.out.lt; have h2 := HG.out; omega)
  have HX4 : Hid (Blk w4.drew X2 25 #[.slice (some ⟨b, 0, none⟩) m m]) := Lib.hid HXn.out
  have HXr4 : Hid (Blk w4.drew X0 25 #[.slice A2 n2 c2]) := Lib.hid (HXr.out.below HB4.out.drew)
  have HC4 : Hid (CaseAt w4.drew g) := Lib.hid (HC3.out.below (Below.refl _ _).drew)
  have HSt4 : Hid (StP (fun k => k = g ∨ k = b ∨ k < w2.heap.size) w4.drew b m ls []) := Lib.hid (HSt.out.below (Below.refl _ _).drew)
  have HZ4 : Hid (Blk w4.drew X1 30 #[.int .i64 ver, .slice (some ⟨sb, 0, none⟩) m 4]) := Lib.hid HZ3.out
  have HSC5 : Hid (ScN g w4.drew (some ⟨sb, 0, none⟩) m tbs) := Lib.hid (fun w' hw => HSC4.out w' ((But.ofB (Below.refl _ _).drew).trans hw))
  have HB5 : Hid (Below wi.heap.size wi w4.drew) := Lib.hid HB4.out.drew
  clear HXn HC3 HSt HZ3 HSC4 HB3 HB4 HSC
  generalize hWn : w4.drew = Wn at *
  have q2 : ∀ (x : LaterS (fun k => k = g) Wn) j, (afterS (fun k => k = g) Wn x).cell? ⟨X2, j, none⟩ = (#[.slice (some ⟨b, 0, none⟩) m m] : Array Value)[j]? := fun x j => (HX4.out.but x.but HgX2.out.1).cell j
  have q0 : ∀ (x : LaterS (fun k => k = g) Wn) j, (afterS (fun k => k = g) Wn x).cell? ⟨X0, j, none⟩ = (#[.slice A2 n2 c2] : Array Value)[j]? := fun x j => (HXr4.out.but x.but HgX0.out).cell j
  refine wp_region_segS (fun k => k = g) [([0, 1, 2, 4, 7], 3), ([], 5)] [6] (by kernel_rfl) (by kernel_rfl) (fun _ _ d _ _ h => by cases d <;> exact h) ?_
  rw [hWn]
  clear hWn
  simp only [pickSegs, pickOps, opAt, List.map_cons, List.map_nil, List.getElem?_toArray, List.getElem?_cons_zero, List.getElem?_cons_succ, Option.getD_some]
  unfold wpBlocksS
  repeat (go_big_quiet_step (fail))
  refine wpQuiet_nil ?_
  clear q0 q2
  go_wp2_with fail
  refine (cspoil_any g (some ⟨b, 0, none⟩) m m ls _ HC4.out HSt4.out.st hm0 (by have := HM.out; omega) (by omega) H8.out).mono ?_
  rintro e w5 ⟨B1, m1, cb1, ls1, rfl, hst1, hm1, hct1, hc5, hb5⟩
  have HI5 : Hid (Blk w5 X1 30 #[.int .i64 ver, .slice (some ⟨sb, 0, none⟩) m 4] ∧ ScS w5 (some ⟨sb, 0, none⟩) m tbs ∧ StS w5 (some ⟨b, 0, none⟩) m ls ∧ StS w5 B1 m1 ls1 ∧ Below wi.heap.size wi w5) := Lib.hid
    ⟨HZ4.out.but hb5 HgX.out, HSC5.out _ hb5, (HSt4.out.but hb5 (fun k hk => .inl hk) HgX2.out.2).st, hst1, hb5.below HB5.out HB5.out.size (fun k hk => by subst hk; exact HG.out)⟩
  have hb1 : m1 ≤ 4000000 ∧ cntS (stR ls1) ≤ 4611686018427387904 := by have := HM.out; omega
  have hb0 : m ≤ 4000000 ∧ cntS (stR ls) ≤ 4611686018427387904 := by have := HM.out; omega
  clear hst1 hm1 hct1 hc5 HX4 HXr4 HC4 HSt4 HZ4 HSC5 HB5
  go_wp2_with fail
  refine ⟨hb5, ?_⟩
  unfold wpBlocksS
  refine wpQuiet_nil ?_
  clear hb5
  go_wp2_with fail
  refine ⟨But.alloc _ _, ?_⟩
  unfold wpBlocksS
  repeat (go_big_quiet_step (fail))
  refine wpQuiet_nil ?_
  have hal : Below w5.heap.size w5 (w5.alloc (.cells #[.slice (some ⟨b, 0, none⟩) m m, .slice B1 m1 cb1, .slice A2 n2 c2] 25)) := (Below.refl _ _).alloc (Nat.le_refl _) _
  have HZn := Lib.hid (Blk.new w5 25 #[.slice (some ⟨b, 0, none⟩) m m, .slice B1 m1 cb1, .slice A2 n2 c2])
  obtain ⟨Z, HZz⟩ : ∃ z, Hid (w5.heap.size = z) := ⟨_, Lib.hid rfl⟩
  rw [HZz.out] at HZn
  have HBw : Hid (Below wi.heap.size wi (w5.alloc (.cells #[.slice (some ⟨b, 0, none⟩) m m, .slice B1 m1 cb1, .slice A2 n2 c2] 25))) := Lib.hid (Below.next HI5.out.2.2.2.2 hal)
  have HI : Hid (FnI X1 ver sb m b m1 cb1 n2 c2 Z B1 A2 tbs ls ls1 lr (w5.alloc (.cells #[.slice (some ⟨b, 0, none⟩) m m, .slice B1 m1 cb1, .slice A2 n2 c2] 25))) := Lib.hid
    ⟨HI5.out.1.below hal, HI5.out.2.1.keep (keeps_of hal), HZn.out, HI5.out.2.2.1.keep (keeps_of hal), HI5.out.2.2.2.1.keep (keeps_of hal), HR2.out.keep (keeps_of HBw.out)⟩
  clear hal HZn HI5
  rw [HZz.out]
  generalize w5.alloc (.cells #[.slice (some ⟨b, 0, none⟩) m m, .slice B1 m1 cb1, .slice A2 n2 c2] 25) = w6 at *
  clear HZz
  go_wp2_with fail
  go_loopw [28] (fun i wr => ∃ k : Nat, k ≤ 3 ∧ i = .int .i64 (k : Int) ∧ Hid (FnI X1 ver sb m b m1 cb1 n2 c2 Z B1 A2 tbs ls ls1 lr wr) ∧ Hid (Below wi.heap.size wi wr)) (fun i _ => 3 - (intOf i).toNat)
  case atStart => exact ⟨0, by omega, rfl, HI, HBw⟩
  case round =>
    clear HI HBw
    obtain ⟨k, hk, rfl, HI, HBw⟩ := hrel
    by_cases hk3 : k < 3
    · obtain ⟨Bk, nk, ck, lk, c0, hstk, hnk, hctk⟩ := HI.out.at hk3 hb0 hb1 ⟨hn2, hct2⟩
      have hal : Below wr.heap.size wr (wr.alloc (.cells #[.slice Bk nk ck] 25)) := (Below.refl _ _).alloc (Nat.le_refl _) _
      have HX := Lib.hid (Blk.new wr 25 #[.slice Bk nk ck])
      have HI2 := Lib.hid (HI.out.below hal)
      have HS2 := Lib.hid (hstk.keep (keeps_of hal))
      have HB2 := Lib.hid (Below.next HBw.out hal)
      have hnk2 : nk ≤ 9223372036854775807 := by omega
      obtain ⟨Y, HYY⟩ : ∃ z, Hid (wr.heap.size = z) := ⟨_, Lib.hid rfl⟩
      rw [HYY.out] at HX
      clear hstk hal HI HBw
      go_upto_region 7 with fail
      rw [HYY.out]
      clear c0 HYY
      generalize wr.alloc (.cells #[.slice Bk nk ck] 25) = wy at *
      have z := HI2.out.z.cell
      have zy := HX.out.cell
      go_wp2_with fail
      refine (violL_any ver (some ⟨sb, 0, none⟩) m 4 tbs Bk nk ck lk _ HI2.out.sc HGS.out HS2.out hctk hnk).mono ?_
      rintro e w8 ⟨h8, hb8⟩
      have HI8 := Lib.hid (HI2.out.below hb8)
      have HX8 := Lib.hid (HX.out.below hb8)
      have HS8 := Lib.hid (HS2.out.keep (keeps_of hb8))
      have HB8 := Lib.hid (Below.next HB2.out hb8)
      clear z zy
      have z := HI8.out.z.cell
      have zy := HX8.out.cell
      rcases h8 with ⟨h0, V, vn, vc, xs, rfl, hvn, hxs⟩ | ⟨h0, rfl⟩
      · have HV := Lib.hid hvn.s
        have HXS := Lib.hid hxs
        have hvb : vn ≤ 4096 := by
          have h1 : (allV tbs (stR lk)).length ≤ 8 * cntS (stR lk) := vTabs_len _ _ _ HGS.out.tb
          have h2 := (chkS_zero h0).1
          rw [← hxs, List.length_map, hvn.sl.len] at h1
          omega
        clear hb8 hvn hxs HI2 HX HS2 HB2
        go_wp2_with fail
        refine (rviol_any ver (some ⟨sb, 0, none⟩) m 4 tbs Bk nk ck lk _ HI8.out.sc HGS.out HS8.out hnk2).mono ?_
        rintro e w9 ⟨h9, hb9⟩
        rcases h9 with ⟨_, U, un, uc, ys, rfl, hun, hys⟩ | ⟨h9, _⟩
        rotate_left
        · exact absurd h0 h9
        have HU := Lib.hid hun.s
        have HV9 := Lib.hid (HV.out.keep (keeps_of hb9))
        have HI9 := Lib.hid (HI8.out.below hb9)
        have HB9 := Lib.hid (Below.next HB8.out hb9)
        have HEQ : Hid (xs.map (·.v) = ys.map (·.v)) := Lib.hid (by rw [HXS.out, hys])
        clear hb9 hun hys HI8 HX8 HS8 HB8 HV HXS h0 z zy
        go_wp2_with fail
        refine (rsame9_any V vn vc xs U un uc ys _ HV9.out HU.out (by omega)).mono ?_
        rintro e w13 ⟨rfl, hb13⟩
        rw [decide_eq_true HEQ.out]
        have HI13 := Lib.hid (HI9.out.below hb13)
        have HB13 := Lib.hid (Below.next HB9.out hb13)
        clear hb13 HI9 HB9 HV9 HU HEQ
        go_wp2
        go_roundw
        case rel => exact ⟨k + 1, by omega, by go_num, HI13, HB13⟩
        case measure => simp [intOf]; omega
      · clear hb8 HI2 HX HS2 HB2
        go_wp2_with fail
        refine (rviol_any ver (some ⟨sb, 0, none⟩) m 4 tbs Bk nk ck lk _ HI8.out.sc HGS.out HS8.out hnk2).mono ?_
        rintro e w9 ⟨h9, hb9⟩
        rcases h9 with ⟨h9, _⟩ | ⟨_, rfl⟩
        · exact absurd h9 h0
        have HI9 := Lib.hid (HI8.out.below hb9)
        have HB9 := Lib.hid (Below.next HB8.out hb9)
        obtain ⟨ee, hee⟩ : ∃ z, chkS tbs (stR lk) = z := ⟨_, rfl⟩
        have ge : (ee != ee) = false := by simp
        rw [hee]
        clear hb9 HI8 HX8 HS8 HB8 h0 z zy hee
        go_wp2_with fail
        refine (rsame9_any none 0 0 [] none 0 0 [] _ ⟨Sl.nil, fun x hx => by cases hx⟩ ⟨Sl.nil, fun x hx => by cases hx⟩ (by omega)).mono ?_
        rintro e w13 ⟨rfl, hb13⟩
        rw [decide_eq_true (show ([] : List VoE).map (·.v) = ([] : List VoE).map (·.v) from rfl)]
        have HI13 := Lib.hid (HI9.out.below hb13)
        have HB13 := Lib.hid (Below.next HB9.out hb13)
        clear hb13 HI9 HB9
        go_wp2
        go_roundw
        case rel => exact ⟨k + 1, by omega, by go_num, HI13, HB13⟩
        case measure => simp [intOf]; omega
    · obtain rfl : k = 3 := by omega
      go_wp2_with fail
      refine (begun9_any _).mono ?_
      rintro e w13 ⟨rfl, hb13⟩
      have HE : Hid (Below w.heap.size w w13) := Lib.hid (HBr.out.trans ((Below.next HBw.out hb13).mono HBr.out.size))
      clear hb13
      go_wp2
      go_ret
      exact ⟨rfl, HE.out⟩
end Go.Proofs.YtponkkljlbifmaaGreat
