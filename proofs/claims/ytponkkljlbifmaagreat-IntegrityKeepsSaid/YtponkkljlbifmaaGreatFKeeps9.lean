/-
  The walk of the law IntegrityKeeps.
-/
import Derived.Test.YtponkkljlbifmaaGreatF44
set_option linter.unusedVariables false
namespace Go.Proofs.YtponkkljlbifmaaGreat
open Go.RowKit
set_option maxRecDepth 100000
open Pd

theorem chkS_okS9 {tbs : List Tb} {st : List (List Rw)} (h : OkS tbs st) : chkS tbs st = 0 := chkS_of2 h.ct h.ln h.tb
/-- what Apply and Recheck answer -/
theorem rec_keeps {ver : Int} {tbs : List Tb} {st st' : List (List Rw)} {cs : List Ch} (hg : GoodS ver tbs) (h0 : OkS tbs st) (hno : allV tbs st = []) (h : appS tbs cs st = (0, st')) (_hct : cntS st' ≤ 512) : (applyS tbs st cs).1 = 0 ∧ (applyS tbs st cs).2 = st' ∧ (recS tbs st cs).1 = 0 ∧ (recS tbs st cs).2 = allV tbs st' := by
  have ha : applyS tbs st cs = (0, st') := by unfold applyS; rw [if_neg (by rw [chkS_okS9 h0]; decide), h]
  unfold recS
  rw [ha, if_neg (fun h => h rfl)]
  exact ⟨rfl, rfl, rfl, keeps_plain hg h0 hno h⟩
/-- what the law holds once the changes are made -/
structure KpI (X1 X2 : Nat) (ver : Int) (sb m b : Nat) (O : Option Addr) (cn : Nat) (tbs : List Tb) (ls : List TlP) (es : List ChE) (wr : World) : Prop where
  z : Blk wr X1 30 #[.int .i64 ver, .slice (some ⟨sb, 0, none⟩) m 4]
  y : Blk wr X2 25 #[.slice (some ⟨b, 0, none⟩) m m]
  sc : ScS wr (some ⟨sb, 0, none⟩) m tbs
  st : StS wr (some ⟨b, 0, none⟩) m ls
  ch : ChsS wr O cn es
theorem KpI.below {X1 X2 : Nat} {ver : Int} {sb m b : Nat} {O : Option Addr} {cn : Nat} {tbs : List Tb} {ls : List TlP} {es : List ChE} {wr w' : World} (h : KpI X1 X2 ver sb m b O cn tbs ls es wr) (hb : Below wr.heap.size wr w') : KpI X1 X2 ver sb m b O cn tbs ls es w' :=
  ⟨h.z.below hb, h.y.below hb, h.sc.keep (keeps_of hb), h.st.keep (keeps_of hb), h.ch.keep (keeps_of hb)⟩
set_option maxRecDepth 100000 in
set_option maxHeartbeats 4000000 in
theorem keeps9_walk (A : Option Addr) (n c : Nat) (zs : List Int) (w : World) (hs : Sl 1 u8c w A n zs) (hz : ∀ z ∈ zs, 0 ≤ z ∧ z ≤ 255) (hnil : A = none → n = 0 ∧ c = 0) (hsp : ∀ ad, A = some ad → ad.spot = none) (hnc : n ≤ c) (hcm : c ≤ 9223372036854775807) :
    Calls Tryz.prog 5 #[.slice A n c] w fun e w' => e = .returned (.bool true) ∧ Below w.heap.size w w' := by
  have HS := Lib.hid hs
  have HZ := Lib.hid hz
  have HN := Lib.hid hnil
  have HP := Lib.hid hsp
  clear hs hz hnil hsp
  go_enter Tryz.func5, Tryz.ntmps5
  go_wp2_with fail
  refine (new_any A n c zs 200 _ HS.out HZ.out HN.out HP.out hnc hcm (by omega)).mono ?_
  rintro e w0 ⟨g, hg, rfl, hc, hB0⟩
  have HC := Lib.hid hc
  have HB := Lib.hid hB0
  have HG := Lib.hid hg
  clear HS HZ HN HP hc hB0 hg hnc hcm
  go_wp2_with fail
  refine (cschema_any g _ HC.out).mono ?_
  rintro e w1 ⟨ver, sb, m, tbs, rfl, hsc, hgs, hm2, hm4, hc1, hb1⟩
  have HB1 := Lib.hid (hb1.below HB.out HB.out.size (fun k hk => by subst hk; exact HG.out))
  have HGS := Lib.hid hgs
  have HC1 := Lib.hid (hc1.below ((Below.refl w1.heap.size w1).alloc (Nat.le_refl _) (.cells #[.int .i64 ver, .slice (some ⟨sb, 0, none⟩) m 4] 30)))
  have hal : Below w1.heap.size w1 (w1.alloc (.cells #[.int .i64 ver, .slice (some ⟨sb, 0, none⟩) m 4] 30)) := (Below.refl _ _).alloc (Nat.le_refl _) _
  have HSC : Hid (ScN g (w1.alloc (.cells #[.int .i64 ver, .slice (some ⟨sb, 0, none⟩) m 4] 30)) (some ⟨sb, 0, none⟩) m tbs) := Lib.hid (fun w' hw => hsc w' ((But.ofB hal).trans hw))
  have HZ := Lib.hid (Blk.new w1 30 #[.int .i64 ver, .slice (some ⟨sb, 0, none⟩) m 4])
  have HB2 := Lib.hid (Below.next HB1.out hal)
  obtain ⟨X1, HX1⟩ : ∃ z, Hid (w1.heap.size = z) := ⟨_, Lib.hid rfl⟩
  have HgX : Hid (X1 ≠ g) := Lib.hid (by have := hc1.lt; have := HX1.out; omega)
  rw [HX1.out] at HZ
  clear hsc hgs hc1 hb1 hal HC HB HB1
  go_upto_region 3 with fail
  rw [HX1.out]
  generalize w1.alloc (.cells #[.int .i64 ver, .slice (some ⟨sb, 0, none⟩) m 4] 30) = w2 at *
  clear HX1
  have z := HZ.out.cell
  go_wp2_with fail
  refine (ccons_any g ver (some ⟨sb, 0, none⟩) m 4 tbs _ HC1.out HSC.out HGS.out hm4).mono ?_
  rintro e w3 ⟨b, ls, rfl, hbb, hst, htb, hct, hno, hc3, hb3⟩
  have HNO := Lib.hid hno
  have hal : Below w3.heap.size w3 (w3.alloc (.cells #[.slice (some ⟨b, 0, none⟩) m m] 25)) := (Below.refl _ _).alloc (Nat.le_refl _) _
  have HXn := Lib.hid (Blk.new w3 25 #[.slice (some ⟨b, 0, none⟩) m m])
  have hgw : g < w2.heap.size := HC1.out.lt
  have HSt : Hid (StP (fun k => k = g ∨ k = b ∨ k < w2.heap.size) (w3.alloc (.cells #[.slice (some ⟨b, 0, none⟩) m m] 25)) b m ls []) := Lib.hid (hst.below hal)
  have HC3 := Lib.hid (hc3.below hal)
  have HB3 : Hid (But (· = g) w2 (w3.alloc (.cells #[.slice (some ⟨b, 0, none⟩) m m] 25))) := Lib.hid (hb3.trans (But.ofB hal))
  have HZ3 := Lib.hid ((HZ.out.but hb3 HgX.out).below hal)
  obtain ⟨X2, HX2⟩ : ∃ z, Hid (w3.heap.size = z) := ⟨_, Lib.hid rfl⟩
  have HgX2 : Hid (X2 ≠ g ∧ b ≠ g) := Lib.hid (by have := hc3.lt; have := HX2.out; exact ⟨by omega, by omega⟩)
  rw [HX2.out] at HXn
  have HO : Hid (OkS tbs (stR ls)) := Lib.hid ⟨by have h1 := (HSC.out _ (But.refl _ _)).len; have h2 := hst.len; unfold stR; rw [List.length_map, h2, h1], htb, by omega⟩
  have hcn : cntS (stR ls) ≤ 100 := by omega
  have HM : Hid (m ≤ 4) := Lib.hid hm4
  clear hbb hst htb hct hno hc3 hb3 hm4 HC1 HZ z hal
  go_upto_region 4 with fail
  rw [HX2.out]
  generalize w3.alloc (.cells #[.slice (some ⟨b, 0, none⟩) m m] 25) = w4 at *
  clear HX2
  have z := HZ3.out.cell
  have zx := HXn.out.cell
  have HSC4 : Hid (ScN g w4 (some ⟨sb, 0, none⟩) m tbs) := Lib.hid (fun w' hw => HSC.out w' (HB3.out.trans hw))
  go_wp2_with fail
  refine (cchanges_any g ver (some ⟨sb, 0, none⟩) m 4 tbs (some ⟨b, 0, none⟩) m ls _ HC3.out HSC4.out HGS.out HSt.out.st HO.out hcn (by omega)).mono ?_
  rintro e w5 ⟨O, cn, oc, b2, cb, es, ls2, rfl, hch, hs2, hcn6, hap, hok2, hct2, hc5, hb5⟩
  have hal : Below w5.heap.size w5 (w5.alloc (.cells #[.slice (some ⟨b2, 0, none⟩) m cb] 25)) := (Below.refl _ _).alloc (Nat.le_refl _) _
  have HXn2 := Lib.hid (Blk.new w5 25 #[.slice (some ⟨b2, 0, none⟩) m cb])
  have HW : Hid (Below w.heap.size w (w5.alloc (.cells #[.slice (some ⟨b2, 0, none⟩) m cb] 25))) := Lib.hid (((HB3.out.trans (hb5.trans (But.ofB hal)))).below HB2.out HB2.out.size (fun k hk => by subst hk; exact HG.out))
  obtain ⟨X3, HX3⟩ : ∃ z, Hid (w5.heap.size = z) := ⟨_, Lib.hid rfl⟩
  rw [HX3.out] at HXn2
  have HI : Hid (KpI X1 X2 ver sb m b O cn tbs ls es (w5.alloc (.cells #[.slice (some ⟨b2, 0, none⟩) m cb] 25))) := Lib.hid
    ⟨(HZ3.out.but hb5 HgX.out).below hal, (HXn.out.but hb5 HgX2.out.1).below hal, (HSC4.out _ hb5).keep (keeps_of hal), (HSt.out.but hb5 (fun k hk => .inl hk) HgX2.out.2).st.keep (keeps_of hal), hch.keep (keeps_of hal)⟩
  have HR := Lib.hid (rec_keeps HGS.out HO.out HNO.out hap hok2.ct)
  have HK2 := Lib.hid (chkS_okS9 hok2)
  have HK1 := Lib.hid (chkS_okS9 HO.out)
  have hmm : m ≤ 1000000 := by have := HM.out; omega
  have hct3 : cntS (stR ls2) ≤ 512 := hok2.ct
  clear hch hs2 hap hok2 hct2 hc5 hb5 hal HXn2 HZ3 HXn HSC4 HSt HSC HB3 HB2 HC3 z zx HO HG HgX HgX2 HM
  go_upto_region 5 with fail
  rw [HX3.out]
  generalize w5.alloc (.cells #[.slice (some ⟨b2, 0, none⟩) m cb] 25) = w6 at *
  clear HX3
  have z := HI.out.z.cell
  have zy := HI.out.y.cell
  go_wp2_with fail
  refine (viol_any ver (some ⟨sb, 0, none⟩) m 4 tbs (some ⟨b, 0, none⟩) m m ls _ HI.out.sc HGS.out HI.out.st (by omega) hmm).mono ?_
  rintro e w7 ⟨h7, hb7⟩
  rcases h7 with ⟨_, V0, v0, vc0, xs0, rfl, hv0, hxs0⟩ | ⟨h7, _⟩
  rotate_left
  · exact absurd HK1.out h7
  obtain rfl : v0 = 0 := by
    rw [HNO.out] at hxs0
    have h1 := congrArg List.length hxs0
    rw [List.length_map, hv0.sl.len] at h1
    exact h1
  have HI7 := Lib.hid (HI.out.below hb7)
  have HW7 := Lib.hid (Below.next HW.out hb7)
  clear hb7 hv0 hxs0 HI HW z zy
  have z := HI7.out.z.cell
  have zy := HI7.out.y.cell
  go_wp2_with fail
  refine (tapply_any ver (some ⟨sb, 0, none⟩) m 4 tbs (some ⟨b, 0, none⟩) m m ls O cn oc es _ HI7.out.sc HGS.out HI7.out.st (by omega) hmm HI7.out.ch (by omega)).mono ?_
  rintro e w8 ⟨⟨_, b3, ls3, rfl, hst3, hls3, _⟩ | ⟨h8, _⟩, hb8⟩
  rotate_left
  · exact absurd HR.out.1 h8
  rw [HR.out.2.1] at hls3
  have HI8 := Lib.hid (HI7.out.below hb8)
  have HL3 := Lib.hid hls3
  have hal : Below w8.heap.size w8 (w8.alloc (.cells #[.slice (some ⟨b3, 0, none⟩) m m] 25)) := (Below.refl _ _).alloc (Nat.le_refl _) _
  have HI9 := Lib.hid (HI8.out.below hal)
  have HT9 := Lib.hid (hst3.keep (keeps_of hal))
  have HX9 := Lib.hid (Blk.new w8 25 #[.slice (some ⟨b3, 0, none⟩) m m])
  have HW9 := Lib.hid (Below.next (Below.next HW7.out hb8) hal)
  obtain ⟨X4, HX4⟩ : ∃ z, Hid (w8.heap.size = z) := ⟨_, Lib.hid rfl⟩
  rw [HX4.out] at HX9
  clear hb8 hst3 hls3 hal HI7 HI8 HW7 z zy
  go_upto_region 7 with fail
  rw [HX4.out]
  generalize w8.alloc (.cells #[.slice (some ⟨b3, 0, none⟩) m m] 25) = w9 at *
  clear HX4
  have z := HI9.out.z.cell
  have zy := HI9.out.y.cell
  go_wp2_with fail
  refine (recheck_any ver (some ⟨sb, 0, none⟩) m 4 tbs (some ⟨b, 0, none⟩) m m ls O cn oc es _ HI9.out.sc HGS.out HI9.out.st (by omega) hmm HI9.out.ch (by omega)).mono ?_
  rintro e w10 ⟨h10, hb10⟩
  rcases h10 with ⟨_, V, vn, vc, xs, rfl, hvn, hxs⟩ | ⟨h10, _⟩
  rotate_left
  · exact absurd HR.out.2.2.1 h10
  rw [HR.out.2.2.2] at hxs
  have HI10 := Lib.hid (HI9.out.below hb10)
  have HT10 := Lib.hid (HT9.out.keep (keeps_of hb10))
  have HX10 := Lib.hid (HX9.out.below hb10)
  have HW10 := Lib.hid (Below.next HW9.out hb10)
  have HV := Lib.hid hvn.s
  have HXS := Lib.hid hxs
  have hvb : vn ≤ 4096 := by
    have h1 : (allV tbs (stR ls2)).length ≤ 8 * cntS (stR ls2) := vTabs_len _ _ _ HGS.out.tb
    rw [← hxs, List.length_map, hvn.sl.len] at h1
    omega
  have hc3 : cntS (stR ls3) ≤ 512 := by rw [HL3.out]; exact hct3
  clear hb10 hvn hxs HI9 HT9 HX9 HW9 z zy
  have z := HI10.out.z.cell
  have zx := HX10.out.cell
  go_wp2_with fail
  refine (viol_any ver (some ⟨sb, 0, none⟩) m 4 tbs (some ⟨b3, 0, none⟩) m m ls3 _ HI10.out.sc HGS.out HT10.out (by omega) hmm).mono ?_
  rintro e w11 ⟨h11, hb11⟩
  rcases h11 with ⟨_, U, un, uc, ys, rfl, hun, hys⟩ | ⟨h11, _⟩
  rotate_left
  · exact absurd HK2.out (by rw [← HL3.out]; exact h11)
  have HU := Lib.hid hun.s
  have HV11 := Lib.hid (HV.out.keep (keeps_of hb11))
  have HW11 := Lib.hid (Below.next HW10.out hb11)
  have HEQ : Hid (xs.map (·.v) = ys.map (·.v)) := Lib.hid (by rw [HXS.out, hys, HL3.out])
  clear hb11 hun hys HI10 HT10 HX10 HW10 HV HXS z zx
  go_wp2_with fail
  refine (begun9_any _).mono ?_
  rintro e w12 ⟨rfl, hb12⟩
  have HU12 := Lib.hid (HU.out.keep (keeps_of hb12))
  have HV12 := Lib.hid (HV11.out.keep (keeps_of hb12))
  have HW12 := Lib.hid (Below.next HW11.out hb12)
  clear hb12 HU HV11 HW11
  go_wp2_with fail
  refine (rsame9_any V vn vc xs U un uc ys _ HV12.out HU12.out (by omega)).mono ?_
  rintro e w13 ⟨rfl, hb13⟩
  rw [decide_eq_true HEQ.out]
  have HE := Lib.hid (Below.next HW12.out hb13)
  clear hb13
  go_wp2
  go_ret
  exact ⟨rfl, HE.out⟩
end Go.Proofs.YtponkkljlbifmaaGreat
