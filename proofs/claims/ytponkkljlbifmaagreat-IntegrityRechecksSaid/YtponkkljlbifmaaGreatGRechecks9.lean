/-
  The walk of the law IntegrityRechecks.
-/
import Derived.Test.YtponkkljlbifmaaGreatG46
import Derived.Test.YtponkkljlbifmaaGreatG47
set_option linter.unusedVariables false
namespace Go.Proofs.YtponkkljlbifmaaGreat
open Go.RowKit
set_option maxRecDepth 100000
open Pd

/-- what has three cells does not lie in the block of the case -/
theorem sl3_ne {α : Type} {cs : α → List Value} {w : World} {A : Option Addr} {n g : Nat} {l : List α} (hlen : ∀ x, (cs x).length = 3) (h : Sl 3 cs w A n l) (hc : CaseAt w g) (hn : 0 < n) : ∀ b o, A = some ⟨b, o, none⟩ → ¬ b = g := by
  intro b o hA e
  subst e
  obtain ⟨A', n', c', k', zs, hB, _⟩ := hc.ex
  obtain ⟨b', o', x, hA', hx, hcell⟩ := h.at hn
  rw [hA] at hA'
  injection hA' with hA'
  injection hA' with h1 h2
  subst h1 h2
  obtain ⟨u, hu⟩ : ∃ u, (cs x)[2]? = some u := ⟨_, List.getElem?_eq_getElem (by rw [hlen]; omega)⟩
  have h3 := hcell 2 u hu
  rw [hB.cell] at h3
  have : (#[Value.slice A' n' c', .int .i64 (k' : Int)] : Array Value)[o + 0 * 3 + 2]? = none := by
    rw [Array.getElem?_eq_none]
    simp
  rw [this] at h3
  cases h3
theorem RowOk.offCase {w w' : World} {g : Nat} {p : RowP} (h : RowOk w p) (hc : CaseAt w g) (hb : But (· = g) w w') : RowOk w' p :=
  ⟨h.rd.but hb (fun hn b o e => sl3_ne (fun _ => rfl) h.rd hc hn b o e), h.nl, h.le, h.mx⟩
theorem ChsS.offCase {w w' : World} {g : Nat} {A : Option Addr} {n : Nat} {es : List ChE} (h : ChsS w A n es) (hc : CaseAt w g) (hb : But (· = g) w w') : ChsS w' A n es :=
  ⟨h.sl.but hb (fun hn b o e => sl3_ne ChE.cs_len h.sl hc hn b o e), fun e he => ⟨(h.ok e he).o.offCase hc hb, (h.ok e he).n.offCase hc hb⟩⟩
theorem ChsS.take {w : World} {A : Option Addr} {n q : Nat} {es : List ChE} (h : ChsS w A n es) (hq : q ≤ n) : ChsS w A q (es.take q) := by
  refine ⟨⟨by rw [List.length_take, h.sl.len]; omega, fun hn => ?_⟩, fun e he => h.ok e (List.mem_of_mem_take he)⟩
  obtain ⟨b, o, e, hc⟩ := h.sl.2 (by omega)
  refine ⟨b, o, e, fun k x hx j u hu => hc k x ?_ j u hu⟩
  rw [List.getElem?_take] at hx
  split at hx
  · exact hx
  · cases hx
theorem rec_len {ver : Int} {tbs : List Tb} {st : List (List Rw)} {cs : List Ch} (hg : GoodS ver tbs) (h0 : (recS tbs st cs).1 = 0) : (recS tbs st cs).2.length ≤ 4096 := by
  unfold recS at h0 ⊢
  by_cases ha : (applyS tbs st cs).1 = 0
  · rw [if_neg (by rw [ha]; simp)]
    have h1 := vTabs_len (wr := memK tbs Ch.n cs) (rm := memK tbs Ch.o cs) (gt := gtS tbs (applyS tbs st cs).2) tbs (applyS tbs st cs).2 0 hg.tb
    have h2 := (applyS_ok ha).ct
    show (vTabs _ _ _ 0 tbs (applyS tbs st cs).2).length ≤ 4096
    omega
  · rw [if_pos ha]
    exact Nat.zero_le _
/-- what the law holds -/
structure KrI (X1 X2 : Nat) (ver : Int) (sb m b : Nat) (O : Option Addr) (cn : Nat) (tbs : List Tb) (ls : List TlP) (es : List ChE) (wr : World) : Prop where
  z : Blk wr X1 30 #[.int .i64 ver, .slice (some ⟨sb, 0, none⟩) m 4]
  y : Blk wr X2 25 #[.slice (some ⟨b, 0, none⟩) m m]
  sc : ScS wr (some ⟨sb, 0, none⟩) m tbs
  st : StS wr (some ⟨b, 0, none⟩) m ls
  ch : ChsS wr O cn es
theorem KrI.below {X1 X2 : Nat} {ver : Int} {sb m b : Nat} {O : Option Addr} {cn : Nat} {tbs : List Tb} {ls : List TlP} {es : List ChE} {wr w' : World} (h : KrI X1 X2 ver sb m b O cn tbs ls es wr) (hb : Below wr.heap.size wr w') : KrI X1 X2 ver sb m b O cn tbs ls es w' :=
  ⟨h.z.below hb, h.y.below hb, h.sc.keep (keeps_of hb), h.st.keep (keeps_of hb), h.ch.keep (keeps_of hb)⟩
set_option maxRecDepth 100000 in
set_option maxHeartbeats 4000000 in
theorem rechecks9_walk (A : Option Addr) (n c : Nat) (zs : List Int) (w : World) (hs : Sl 1 u8c w A n zs) (hz : ∀ z ∈ zs, 0 ≤ z ∧ z ≤ 255) (hnil : A = none → n = 0 ∧ c = 0) (hsp : ∀ ad, A = some ad → ad.spot = none) (hnc : n ≤ c) (hcm : c ≤ 9223372036854775807) (A2 : Option Addr) (n2 c2 : Nat) (es2 : List ChE) (hch2 : ChsS w A2 n2 es2) (hnil2 : A2 = none → n2 = 0 ∧ c2 = 0) (hnc2 : n2 ≤ c2) (hcm2 : c2 ≤ 9223372036854775807) :
    Calls Tryz.prog 4 #[.slice A n c, .slice A2 n2 c2] w fun e w' => e = .returned (.bool true) ∧ Below w.heap.size w w' := by
  have HS := Lib.hid hs
  have HZ := Lib.hid hz
  have HN := Lib.hid hnil
  have HP := Lib.hid hsp
  have HC2 := Lib.hid hch2
  have HN2 := Lib.hid hnil2
  clear hs hz hnil hsp hch2 hnil2
  go_enter Tryz.func4, Tryz.ntmps4
  go_wp2_with fail
  refine (new_any A n c zs 200 _ HS.out HZ.out HN.out HP.out hnc hcm (by omega)).mono ?_
  rintro e w0 ⟨g, hg, rfl, hc, hB0⟩
  have HC := Lib.hid hc
  have HB := Lib.hid hB0
  have HG := Lib.hid hg
  clear HS HZ HN HP hc hB0 hg hnc hcm
  go_wp2_with fail
  refine (cschema_any g _ HC.out).mono ?_
  rintro e w1 ⟨ver, sb, m, tbs, rfl, hsc, hgs, hm2, hm4, hc1, hb1⟩
  have HB1 := Lib.hid (hb1.below HB.out HB.out.size (fun k hk => by subst hk; exact HG.out))
  have HGS := Lib.hid hgs
  have HC1 := Lib.hid (hc1.below ((Below.refl w1.heap.size w1).alloc (Nat.le_refl _) (.cells #[.int .i64 ver, .slice (some ⟨sb, 0, none⟩) m 4] 30)))
  have hal : Below w1.heap.size w1 (w1.alloc (.cells #[.int .i64 ver, .slice (some ⟨sb, 0, none⟩) m 4] 30)) := (Below.refl _ _).alloc (Nat.le_refl _) _
  have HSC : Hid (ScN g (w1.alloc (.cells #[.int .i64 ver, .slice (some ⟨sb, 0, none⟩) m 4] 30)) (some ⟨sb, 0, none⟩) m tbs) := Lib.hid (fun w' hw => hsc w' ((But.ofB hal).trans hw))
  have HZ := Lib.hid (Blk.new w1 30 #[.int .i64 ver, .slice (some ⟨sb, 0, none⟩) m 4])
  have HB2 := Lib.hid (Below.next HB1.out hal)
  obtain ⟨X1, HX1⟩ : ∃ z, Hid (w1.heap.size = z) := ⟨_, Lib.hid rfl⟩
  have HgX : Hid (X1 ≠ g) := Lib.hid (by have := hc1.lt; have := HX1.out; omega)
  rw [HX1.out] at HZ
  clear hsc hgs hc1 hb1 hal HC HB HB1
  go_upto_region 3 with fail
  rw [HX1.out]
  generalize w1.alloc (.cells #[.int .i64 ver, .slice (some ⟨sb, 0, none⟩) m 4] 30) = w2 at *
  clear HX1
  have z := HZ.out.cell
  go_wp2_with fail
  refine (cstate_any g ver (some ⟨sb, 0, none⟩) m 4 tbs _ HC1.out HSC.out HGS.out).mono ?_
  rintro e w3 ⟨b, ls, rfl, hbb, hst, htb, hct, hc3, hb3⟩
  have hal : Below w3.heap.size w3 (w3.alloc (.cells #[.slice (some ⟨b, 0, none⟩) m m] 25)) := (Below.refl _ _).alloc (Nat.le_refl _) _
  have HXn := Lib.hid (Blk.new w3 25 #[.slice (some ⟨b, 0, none⟩) m m])
  have hgw : g < w2.heap.size := HC1.out.lt
  have HSt : Hid (StP (fun k => k = g ∨ k = b ∨ k < w2.heap.size) (w3.alloc (.cells #[.slice (some ⟨b, 0, none⟩) m m] 25)) b m ls []) := Lib.hid (hst.below hal)
  have HC3 := Lib.hid (hc3.below hal)
  have HB3 : Hid (But (· = g) w2 (w3.alloc (.cells #[.slice (some ⟨b, 0, none⟩) m m] 25))) := Lib.hid (hb3.trans (But.ofB hal))
  have HZ3 := Lib.hid ((HZ.out.but hb3 HgX.out).below hal)
  obtain ⟨X2, HX2⟩ : ∃ z, Hid (w3.heap.size = z) := ⟨_, Lib.hid rfl⟩
  have HgX2 : Hid (X2 ≠ g ∧ b ≠ g) := Lib.hid (by have := hc3.lt; have := HX2.out; exact ⟨by omega, by omega⟩)
  rw [HX2.out] at HXn
  have HO : Hid (OkS tbs (stR ls)) := Lib.hid ⟨by have h1 := (HSC.out _ (But.refl _ _)).len; have h2 := hst.len; unfold stR; rw [List.length_map, h2, h1], htb, by omega⟩
  have hcn : cntS (stR ls) ≤ 100 := by omega
  have HM : Hid (m ≤ 4) := Lib.hid hm4
  clear hbb hst htb hct hc3 hb3 hm4 HC1 HZ z hal
  go_upto_region 4 with fail
  rw [HX2.out]
  generalize w3.alloc (.cells #[.slice (some ⟨b, 0, none⟩) m m] 25) = w4 at *
  clear HX2
  have z := HZ3.out.cell
  have zx := HXn.out.cell
  have HSC4 : Hid (ScN g w4 (some ⟨sb, 0, none⟩) m tbs) := Lib.hid (fun w' hw => HSC.out w' (HB3.out.trans hw))
  go_wp2_with fail
  refine (cchanges_any g ver (some ⟨sb, 0, none⟩) m 4 tbs (some ⟨b, 0, none⟩) m ls _ HC3.out HSC4.out HGS.out HSt.out.st HO.out hcn (by omega)).mono ?_
  rintro e w5 ⟨O, cn, oc, b2, cb, es, ls2, rfl, hch, hs2, hcn6, hap, hok2, hct2, hc5, hb5⟩
  have hal : Below w5.heap.size w5 (w5.alloc (.cells #[.slice (some ⟨b2, 0, none⟩) m cb] 25)) := (Below.refl _ _).alloc (Nat.le_refl _) _
  have HB5 : Hid (But (· = g) w4 (w5.alloc (.cells #[.slice (some ⟨b2, 0, none⟩) m cb] 25))) := Lib.hid (hb5.trans (But.ofB hal))
  have HC5 := Lib.hid (hc5.below hal)
  have HCH5 := Lib.hid (hch.keep (keeps_of hal))
  have hmm : m ≤ 1000000 := by have := HM.out; omega
  clear hch hs2 hap hok2 hct2 hc5 hb5 hal HC3 z zx
  go_upto_region 5 with fail
  generalize w5.alloc (.cells #[.slice (some ⟨b2, 0, none⟩) m cb] 25) = w6 at *
  go_wp2_with fail
  refine (bool_any g 4 _ HC5.out (by omega) (by omega)).mono ?_
  rintro e w7 ⟨⟨b7, rfl⟩, hc7, hb7⟩
  have HB7 : Hid (But (· = g) w4 w7) := Lib.hid (HB5.out.trans hb7)
  have HW7 : Hid (Below w.heap.size w w7) := Lib.hid ((HB3.out.trans HB7.out).below HB2.out HB2.out.size (fun k hk => by subst hk; exact HG.out))
  have HI0 : Hid (∀ (O : Option Addr) (cn : Nat) (es : List ChE), ChsS w7 O cn es → KrI X1 X2 ver sb m b O cn tbs ls es w7) := Lib.hid (fun O cn es h =>
    ⟨HZ3.out.but HB7.out HgX.out, HXn.out.but HB7.out HgX2.out.1, HSC4.out _ HB7.out, (HSt.out.but HB7.out (fun k hk => .inl hk) HgX2.out.2).st, h⟩)
  have HCH7 := Lib.hid (HCH5.out.offCase HC5.out hb7)
  have HC27 := Lib.hid (HC2.out.keep (keeps_of HW7.out))
  clear hc7 hb7 HB7 HB5 HC5 HCH5 HC2 HZ3 HXn HSC4 HSt HSC HB3 HB2 HO HG HgX HgX2 HM
  cases b7
  · have HI := Lib.hid (HI0.out O cn es HCH7.out)
    clear HI0 HCH7 HC27 HN2
    have z := HI.out.z.cell
    have zy := HI.out.y.cell
    go_wp2_with fail
    refine (recheck_any ver (some ⟨sb, 0, none⟩) m 4 tbs (some ⟨b, 0, none⟩) m m ls O cn oc (es) _ HI.out.sc HGS.out HI.out.st (by omega) hmm HI.out.ch (by omega)).mono ?_
    rintro e w8 ⟨h8, hb8⟩
    have HI8 := Lib.hid (HI.out.below hb8)
    have HW8 := Lib.hid (Below.next HW7.out hb8)
    clear z zy
    have z := HI8.out.z.cell
    have zy := HI8.out.y.cell
    rcases h8 with ⟨h0, V, vn, vc, xs, rfl, hvn, hxs⟩ | ⟨h0, rfl⟩
    · have HV := Lib.hid hvn.s
      have HXS := Lib.hid hxs
      have hvb : vn ≤ 4096 := by
        have h1 := rec_len (cs := (es).map (·.c)) HGS.out h0
        rw [← hxs, List.length_map, hvn.sl.len] at h1
        exact h1
      clear hb8 hvn hxs HI HW7
      go_wp2_with fail
      refine (rrecheck_any ver (some ⟨sb, 0, none⟩) m 4 tbs (some ⟨b, 0, none⟩) m m ls O cn oc (es) _ HI8.out.sc HGS.out (by omega) HI8.out.st (by omega) HI8.out.ch (by omega)).mono ?_
      rintro e w9 ⟨h9, hb9⟩
      rcases h9 with ⟨_, U, un, uc, ys, rfl, hun, hys⟩ | ⟨h9, _⟩
      rotate_left
      · exact absurd h0 h9
      have HU := Lib.hid hun.s
      have HV9 := Lib.hid (HV.out.keep (keeps_of hb9))
      have HW9 := Lib.hid (Below.next HW8.out hb9)
      have HEQ : Hid (xs.map (·.v) = ys.map (·.v)) := Lib.hid (by rw [HXS.out, hys])
      clear hb9 hun hys HI8 HW8 HV HXS h0 z zy
      go_wp2_with fail
      refine (begun9_any _).mono ?_
      rintro e w12 ⟨rfl, hb12⟩
      have HU12 := Lib.hid (HU.out.keep (keeps_of hb12))
      have HV12 := Lib.hid (HV9.out.keep (keeps_of hb12))
      have HW12 := Lib.hid (Below.next HW9.out hb12)
      clear hb12 HU HV9 HW9
      go_wp2_with fail
      refine (rsame9_any V vn vc xs U un uc ys _ HV12.out HU12.out (by omega)).mono ?_
      rintro e w13 ⟨rfl, hb13⟩
      rw [decide_eq_true HEQ.out]
      have HE := Lib.hid (Below.next HW12.out hb13)
      clear hb13
      go_wp2
      go_ret
      exact ⟨rfl, HE.out⟩
    · clear hb8 HI HW7
      go_wp2_with fail
      refine (rrecheck_any ver (some ⟨sb, 0, none⟩) m 4 tbs (some ⟨b, 0, none⟩) m m ls O cn oc (es) _ HI8.out.sc HGS.out (by omega) HI8.out.st (by omega) HI8.out.ch (by omega)).mono ?_
      rintro e w9 ⟨h9, hb9⟩
      rcases h9 with ⟨h9, _⟩ | ⟨_, rfl⟩
      · exact absurd h9 h0
      have HW9 := Lib.hid (Below.next HW8.out hb9)
      obtain ⟨ee, hee⟩ : ∃ z, (recS tbs (stR ls) ((es).map (·.c))).1 = z := ⟨_, rfl⟩
      have ge : (ee == ee) = true := by simp
      rw [hee]
      clear hb9 HI8 HW8 h0 z zy hee
      go_wp2_with fail
      refine (begun9_any _).mono ?_
      rintro e w12 ⟨rfl, hb12⟩
      have HW12 := Lib.hid (Below.next HW9.out hb12)
      clear hb12 HW9
      go_wp2_with fail
      refine (rsame9_any none 0 0 [] none 0 0 [] _ ⟨Sl.nil, fun x hx => by cases hx⟩ ⟨Sl.nil, fun x hx => by cases hx⟩ (by omega)).mono ?_
      rintro e w13 ⟨rfl, hb13⟩
      rw [decide_eq_true (show ([] : List VoE).map (·.v) = ([] : List VoE).map (·.v) from rfl)]
      have HE := Lib.hid (Below.next HW12.out hb13)
      clear hb13
      go_wp2
      go_ret
      exact ⟨rfl, HE.out⟩
  · cases A2 with
    | none =>
      obtain ⟨rfl, rfl⟩ := HN2.out rfl
      obtain ⟨es3, hes3⟩ : ∃ z : List ChE, ChsS w7 none 0 z := ⟨[], ⟨Sl.nil, fun e he => by cases he⟩⟩
      have HI := Lib.hid (HI0.out none 0 es3 hes3)
      clear HI0 HCH7 HC27 HN2 hes3
      have z := HI.out.z.cell
      have zy := HI.out.y.cell
      go_wp2_with fail
      refine (recheck_any ver (some ⟨sb, 0, none⟩) m 4 tbs (some ⟨b, 0, none⟩) m m ls none 0 0 (es3) _ HI.out.sc HGS.out HI.out.st (by omega) hmm HI.out.ch (by omega)).mono ?_
      rintro e w8 ⟨h8, hb8⟩
      have HI8 := Lib.hid (HI.out.below hb8)
      have HW8 := Lib.hid (Below.next HW7.out hb8)
      clear z zy
      have z := HI8.out.z.cell
      have zy := HI8.out.y.cell
      rcases h8 with ⟨h0, V, vn, vc, xs, rfl, hvn, hxs⟩ | ⟨h0, rfl⟩
      · have HV := Lib.hid hvn.s
        have HXS := Lib.hid hxs
        have hvb : vn ≤ 4096 := by
          have h1 := rec_len (cs := (es3).map (·.c)) HGS.out h0
          rw [← hxs, List.length_map, hvn.sl.len] at h1
          exact h1
        clear hb8 hvn hxs HI HW7
        go_wp2_with fail
        refine (rrecheck_any ver (some ⟨sb, 0, none⟩) m 4 tbs (some ⟨b, 0, none⟩) m m ls none 0 0 (es3) _ HI8.out.sc HGS.out (by omega) HI8.out.st (by omega) HI8.out.ch (by omega)).mono ?_
        rintro e w9 ⟨h9, hb9⟩
        rcases h9 with ⟨_, U, un, uc, ys, rfl, hun, hys⟩ | ⟨h9, _⟩
        rotate_left
        · exact absurd h0 h9
        have HU := Lib.hid hun.s
        have HV9 := Lib.hid (HV.out.keep (keeps_of hb9))
        have HW9 := Lib.hid (Below.next HW8.out hb9)
        have HEQ : Hid (xs.map (·.v) = ys.map (·.v)) := Lib.hid (by rw [HXS.out, hys])
        clear hb9 hun hys HI8 HW8 HV HXS h0 z zy
        go_wp2_with fail
        refine (begun9_any _).mono ?_
        rintro e w12 ⟨rfl, hb12⟩
        have HU12 := Lib.hid (HU.out.keep (keeps_of hb12))
        have HV12 := Lib.hid (HV9.out.keep (keeps_of hb12))
        have HW12 := Lib.hid (Below.next HW9.out hb12)
        clear hb12 HU HV9 HW9
        go_wp2_with fail
        refine (rsame9_any V vn vc xs U un uc ys _ HV12.out HU12.out (by omega)).mono ?_
        rintro e w13 ⟨rfl, hb13⟩
        rw [decide_eq_true HEQ.out]
        have HE := Lib.hid (Below.next HW12.out hb13)
        clear hb13
        go_wp2
        go_ret
        exact ⟨rfl, HE.out⟩
      · clear hb8 HI HW7
        go_wp2_with fail
        refine (rrecheck_any ver (some ⟨sb, 0, none⟩) m 4 tbs (some ⟨b, 0, none⟩) m m ls none 0 0 (es3) _ HI8.out.sc HGS.out (by omega) HI8.out.st (by omega) HI8.out.ch (by omega)).mono ?_
        rintro e w9 ⟨h9, hb9⟩
        rcases h9 with ⟨h9, _⟩ | ⟨_, rfl⟩
        · exact absurd h9 h0
        have HW9 := Lib.hid (Below.next HW8.out hb9)
        obtain ⟨ee, hee⟩ : ∃ z, (recS tbs (stR ls) ((es3).map (·.c))).1 = z := ⟨_, rfl⟩
        have ge : (ee == ee) = true := by simp
        rw [hee]
        clear hb9 HI8 HW8 h0 z zy hee
        go_wp2_with fail
        refine (begun9_any _).mono ?_
        rintro e w12 ⟨rfl, hb12⟩
        have HW12 := Lib.hid (Below.next HW9.out hb12)
        clear hb12 HW9
        go_wp2_with fail
        refine (rsame9_any none 0 0 [] none 0 0 [] _ ⟨Sl.nil, fun x hx => by cases hx⟩ ⟨Sl.nil, fun x hx => by cases hx⟩ (by omega)).mono ?_
        rintro e w13 ⟨rfl, hb13⟩
        rw [decide_eq_true (show ([] : List VoE).map (·.v) = ([] : List VoE).map (·.v) from rfl)]
        have HE := Lib.hid (Below.next HW12.out hb13)
        clear hb13
        go_wp2
        go_ret
        exact ⟨rfl, HE.out⟩
    | some ad =>
      obtain ⟨q, hq⟩ : ∃ q, min n2 4 = q := ⟨_, rfl⟩
      have hmin : min (n2 : Int) 4 = (q : Int) := by omega
      have hq4 : q ≤ 4 := by omega
      have hqn : q ≤ n2 := by omega
      have hqc : q ≤ c2 := by omega
      obtain ⟨es3, hes3⟩ : ∃ z : List ChE, ChsS w7 (some ad) q z := ⟨_, HC27.out.take hqn⟩
      have HI := Lib.hid (HI0.out (some ad) q es3 hes3)
      clear HI0 HCH7 HC27 HN2 hq hes3
      have z := HI.out.z.cell
      have zy := HI.out.y.cell
      go_wp2_with fail
      refine (recheck_any ver (some ⟨sb, 0, none⟩) m 4 tbs (some ⟨b, 0, none⟩) m m ls (some ad) q c2 (es3) _ HI.out.sc HGS.out HI.out.st (by omega) hmm HI.out.ch (by omega)).mono ?_
      rintro e w8 ⟨h8, hb8⟩
      have HI8 := Lib.hid (HI.out.below hb8)
      have HW8 := Lib.hid (Below.next HW7.out hb8)
      clear z zy
      have z := HI8.out.z.cell
      have zy := HI8.out.y.cell
      rcases h8 with ⟨h0, V, vn, vc, xs, rfl, hvn, hxs⟩ | ⟨h0, rfl⟩
      · have HV := Lib.hid hvn.s
        have HXS := Lib.hid hxs
        have hvb : vn ≤ 4096 := by
          have h1 := rec_len (cs := (es3).map (·.c)) HGS.out h0
          rw [← hxs, List.length_map, hvn.sl.len] at h1
          exact h1
        clear hb8 hvn hxs HI HW7
        go_wp2_with fail
        refine (rrecheck_any ver (some ⟨sb, 0, none⟩) m 4 tbs (some ⟨b, 0, none⟩) m m ls (some ad) q c2 (es3) _ HI8.out.sc HGS.out (by omega) HI8.out.st (by omega) HI8.out.ch (by omega)).mono ?_
        rintro e w9 ⟨h9, hb9⟩
        rcases h9 with ⟨_, U, un, uc, ys, rfl, hun, hys⟩ | ⟨h9, _⟩
        rotate_left
        · exact absurd h0 h9
        have HU := Lib.hid hun.s
        have HV9 := Lib.hid (HV.out.keep (keeps_of hb9))
        have HW9 := Lib.hid (Below.next HW8.out hb9)
        have HEQ : Hid (xs.map (·.v) = ys.map (·.v)) := Lib.hid (by rw [HXS.out, hys])
        clear hb9 hun hys HI8 HW8 HV HXS h0 z zy
        go_wp2_with fail
        refine (begun9_any _).mono ?_
        rintro e w12 ⟨rfl, hb12⟩
        have HU12 := Lib.hid (HU.out.keep (keeps_of hb12))
        have HV12 := Lib.hid (HV9.out.keep (keeps_of hb12))
        have HW12 := Lib.hid (Below.next HW9.out hb12)
        clear hb12 HU HV9 HW9
        go_wp2_with fail
        refine (rsame9_any V vn vc xs U un uc ys _ HV12.out HU12.out (by omega)).mono ?_
        rintro e w13 ⟨rfl, hb13⟩
        rw [decide_eq_true HEQ.out]
        have HE := Lib.hid (Below.next HW12.out hb13)
        clear hb13
        go_wp2
        go_ret
        exact ⟨rfl, HE.out⟩
      · clear hb8 HI HW7
        go_wp2_with fail
        refine (rrecheck_any ver (some ⟨sb, 0, none⟩) m 4 tbs (some ⟨b, 0, none⟩) m m ls (some ad) q c2 (es3) _ HI8.out.sc HGS.out (by omega) HI8.out.st (by omega) HI8.out.ch (by omega)).mono ?_
        rintro e w9 ⟨h9, hb9⟩
        rcases h9 with ⟨h9, _⟩ | ⟨_, rfl⟩
        · exact absurd h9 h0
        have HW9 := Lib.hid (Below.next HW8.out hb9)
        obtain ⟨ee, hee⟩ : ∃ z, (recS tbs (stR ls) ((es3).map (·.c))).1 = z := ⟨_, rfl⟩
        have ge : (ee == ee) = true := by simp
        rw [hee]
        clear hb9 HI8 HW8 h0 z zy hee
        go_wp2_with fail
        refine (begun9_any _).mono ?_
        rintro e w12 ⟨rfl, hb12⟩
        have HW12 := Lib.hid (Below.next HW9.out hb12)
        clear hb12 HW9
        go_wp2_with fail
        refine (rsame9_any none 0 0 [] none 0 0 [] _ ⟨Sl.nil, fun x hx => by cases hx⟩ ⟨Sl.nil, fun x hx => by cases hx⟩ (by omega)).mono ?_
        rintro e w13 ⟨rfl, hb13⟩
        rw [decide_eq_true (show ([] : List VoE).map (·.v) = ([] : List VoE).map (·.v) from rfl)]
        have HE := Lib.hid (Below.next HW12.out hb13)
        clear hb13
        go_wp2
        go_ret
        exact ⟨rfl, HE.out⟩
end Go.Proofs.YtponkkljlbifmaaGreat
