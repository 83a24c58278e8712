/-
  The walk of the law IntegrityPart.
-/
import Derived.Test.YtnnmlhmffnfjfaaGreatE39
import Derived.Test.YtnnmlhmffnfjfaaGreatE40
set_option linter.unusedVariables false
namespace Go.Proofs.YtnnmlhmffnfjfaaGreat
open Go.RowKit
set_option maxRecDepth 100000
open Pd

section
variable {hit : Bool} {wr rm rm' gt : Int → Rw → Bool} {t : Int} {key r : Rw} {T : Tb}
theorem vRefs_sub : ∀ (l : List Rf) (i : Int) (v : Vo), v ∈ vRefs hit rm gt t key r i l → v ∈ vRefs true rm' gt t key r i l
  | [], _, _, h => h
  | x :: l, i, v, h => by
    simp only [vRefs, List.mem_append] at h ⊢
    rcases h with h | h
    · left
      split at h
      · rename_i hh
        simp only [Bool.and_eq_true] at hh
        simpa [hh.2] using h
      · cases h
    · exact .inr (vRefs_sub l (i + 1) v h)
theorem vChks_sub : ∀ (l : List Pd) (i : Int) (v : Vo), v ∈ vChks hit t key r i l → v ∈ vChks true t key r i l
  | [], _, _, h => h
  | x :: l, i, v, h => by
    simp only [vChks, List.mem_append] at h ⊢
    rcases h with h | h
    · left
      split at h
      · rename_i hh
        simp only [Bool.and_eq_true] at hh
        simpa [hh.2] using h
      · cases h
    · exact .inr (vChks_sub l (i + 1) v h)
theorem vRows_sub : ∀ (l : List Rw) (v : Vo), v ∈ vRows wr rm gt t T l → v ∈ vRows (fun _ _ => true) rm' gt t T l
  | [], _, h => h
  | x :: l, v, h => by
    simp only [vRows, vRow, List.mem_append] at h ⊢
    rcases h with (h | h) | h
    · exact .inl (.inl (vRefs_sub _ _ _ h))
    · exact .inl (.inr (vChks_sub _ _ _ h))
    · exact .inr (vRows_sub l v h)
end
theorem vTabs_sub {wr rm rm' gt : Int → Rw → Bool} : ∀ (ts : List Tb) (ls : List (List Rw)) (t : Int) (v : Vo), v ∈ vTabs wr rm gt t ts ls → v ∈ vTabs (fun _ _ => true) rm' gt t ts ls
  | [], _, _, _, h => by simp [vTabs] at h
  | _ :: _, [], _, _, h => by simp [vTabs] at h
  | T :: ts, l :: ls, t, v, h => by
    simp only [vTabs, List.mem_append] at h ⊢
    rcases h with h | h
    · exact .inl (vRows_sub _ _ h)
    · exact .inr (vTabs_sub ts ls (t + 1) v h)
theorem chkS_okS {tbs : List Tb} {st : List (List Rw)} (h : OkS tbs st) : chkS tbs st = 0 := by
  unfold chkS
  have h1 := h.ct
  have h2 := h.ln
  rw [if_neg (by omega), if_neg (by omega), if_pos h.tb]
/-- what Recheck finds is among the violations of the state after -/
theorem rec_sub {ver : Int} {tbs : List Tb} {st st' : List (List Rw)} {cs : List Ch} (hg : GoodS ver tbs) (h0 : OkS tbs st) (h : appS tbs cs st = (0, st')) (hct : cntS st' ≤ 512) : (recS tbs st cs).1 = 0 ∧ (∀ v ∈ (recS tbs st cs).2, v ∈ allV tbs st') ∧ (recS tbs st cs).2.length ≤ 4096 := by
  have ha : applyS tbs st cs = (0, st') := by unfold applyS; rw [if_neg (by rw [chkS_okS h0]; decide), h]
  unfold recS
  rw [ha, if_neg (fun h => h rfl)]
  exact ⟨rfl, fun v hv => vTabs_sub _ _ _ _ hv, Nat.le_trans (vTabs_len _ _ _ hg.tb) (by show 8 * cntS st' ≤ 4096; omega)⟩
theorem vos_one {w : World} {b : Nat} {x : VoE} (h : Blk w b 55 x.cs.toArray) (ho : RowOk w x.p) : VosS w (some ⟨b, 0, none⟩) 1 [x] := by
  refine ⟨⟨rfl, fun _ => ⟨b, 0, rfl, fun k y hy j u hu => ?_⟩⟩, fun y hy => by rw [List.mem_singleton.1 hy]; exact ho⟩
  cases k with
  | zero =>
    injection hy with hy
    subst hy
    rw [show 0 + 0 * 4 + j = j by omega, h.cell j]
    simpa using hu
  | succ k => simp at hy
/-- what the law holds once the changes are made -/
structure PtI (X1 X2 X3 : Nat) (ver : Int) (sb m b b2 cb : Nat) (O : Option Addr) (cn : Nat) (tbs : List Tb) (ls ls2 : List TlP) (es : List ChE) (wr : World) : Prop where
  z : Blk wr X1 30 #[.int .i64 ver, .slice (some ⟨sb, 0, none⟩) m 4]
  y : Blk wr X2 25 #[.slice (some ⟨b, 0, none⟩) m m]
  x : Blk wr X3 25 #[.slice (some ⟨b2, 0, none⟩) m cb]
  sc : ScS wr (some ⟨sb, 0, none⟩) m tbs
  st : StS wr (some ⟨b, 0, none⟩) m ls
  s2 : StS wr (some ⟨b2, 0, none⟩) m ls2
  ch : ChsS wr O cn es
theorem PtI.below {X1 X2 X3 : Nat} {ver : Int} {sb m b b2 cb : Nat} {O : Option Addr} {cn : Nat} {tbs : List Tb} {ls ls2 : List TlP} {es : List ChE} {wr w' : World} (h : PtI X1 X2 X3 ver sb m b b2 cb O cn tbs ls ls2 es wr) (hb : Below wr.heap.size wr w') : PtI X1 X2 X3 ver sb m b b2 cb O cn tbs ls ls2 es w' :=
  ⟨h.z.below hb, h.y.below hb, h.x.below hb, h.sc.keep (keeps_of hb), h.st.keep (keeps_of hb), h.s2.keep (keeps_of hb), h.ch.keep (keeps_of hb)⟩
set_option maxRecDepth 100000 in
set_option maxHeartbeats 4000000 in
theorem part9_walk (A : Option Addr) (n c : Nat) (zs : List Int) (w : World) (hs : Sl 1 u8c w A n zs) (hz : ∀ z ∈ zs, 0 ≤ z ∧ z ≤ 255) (hnil : A = none → n = 0 ∧ c = 0) (hsp : ∀ ad, A = some ad → ad.spot = none) (hnc : n ≤ c) (hcm : c ≤ 9223372036854775807) :
    Calls Tryz.prog 6 #[.slice A n c] w fun e w' => e = .returned (.bool true) ∧ Below w.heap.size w w' := by
  have HS := Lib.hid hs
  have HZ := Lib.hid hz
  have HN := Lib.hid hnil
  have HP := Lib.hid hsp
  clear hs hz hnil hsp
  go_enter Tryz.func6, Tryz.ntmps6
  go_wp2_with fail
  refine (new_any A n c zs 200 _ HS.out HZ.out HN.out HP.out hnc hcm (by omega)).mono ?_
  rintro e w0 ⟨g, hg, rfl, hc, hB0⟩
  have HC := Lib.hid hc
  have HB := Lib.hid hB0
  have HG := Lib.hid hg
  clear HS HZ HN HP hc hB0 hg hnc hcm
  go_wp2_with fail
  refine (cschema_any g _ HC.out).mono ?_
  rintro e w1 ⟨ver, sb, m, tbs, rfl, hsc, hgs, hm2, hm4, hc1, hb1⟩
  have HB1 := Lib.hid (hb1.below HB.out HB.out.size (fun k hk => by subst hk; exact HG.out))
  have HGS := Lib.hid hgs
  have HC1 := Lib.hid (hc1.below ((Below.refl w1.heap.size w1).alloc (Nat.le_refl _) (.cells #[.int .i64 ver, .slice (some ⟨sb, 0, none⟩) m 4] 30)))
  have hal : Below w1.heap.size w1 (w1.alloc (.cells #[.int .i64 ver, .slice (some ⟨sb, 0, none⟩) m 4] 30)) := (Below.refl _ _).alloc (Nat.le_refl _) _
  have HSC : Hid (ScN g (w1.alloc (.cells #[.int .i64 ver, .slice (some ⟨sb, 0, none⟩) m 4] 30)) (some ⟨sb, 0, none⟩) m tbs) := Lib.hid (fun w' hw => hsc w' ((But.ofB hal).trans hw))
  have HZ := Lib.hid (Blk.new w1 30 #[.int .i64 ver, .slice (some ⟨sb, 0, none⟩) m 4])
  have HB2 := Lib.hid (Below.next HB1.out hal)
  obtain ⟨X1, HX1⟩ : ∃ z, Hid (w1.heap.size = z) := ⟨_, Lib.hid rfl⟩
  have HgX : Hid (X1 ≠ g) := Lib.hid (by have := hc1.lt; have := HX1.out; omega)
  rw [HX1.out] at HZ
  clear hsc hgs hc1 hb1 hal HC HB HB1
  go_upto_region 3 with fail
  rw [HX1.out]
  generalize w1.alloc (.cells #[.int .i64 ver, .slice (some ⟨sb, 0, none⟩) m 4] 30) = w2 at *
  clear HX1
  have z := HZ.out.cell
  go_wp2_with fail
  refine (cstate_any g ver (some ⟨sb, 0, none⟩) m 4 tbs _ HC1.out HSC.out HGS.out).mono ?_
  rintro e w3 ⟨b, ls, rfl, hbb, hst, htb, hct, hc3, hb3⟩
  have hal : Below w3.heap.size w3 (w3.alloc (.cells #[.slice (some ⟨b, 0, none⟩) m m] 25)) := (Below.refl _ _).alloc (Nat.le_refl _) _
  have HXn := Lib.hid (Blk.new w3 25 #[.slice (some ⟨b, 0, none⟩) m m])
  have hgw : g < w2.heap.size := HC1.out.lt
  have HSt : Hid (StP (fun k => k = g ∨ k = b) (w3.alloc (.cells #[.slice (some ⟨b, 0, none⟩) m m] 25)) b m ls []) := Lib.hid (hst.below hal)
  have HC3 := Lib.hid (hc3.below hal)
  have HB3 : Hid (But (· = g) w2 (w3.alloc (.cells #[.slice (some ⟨b, 0, none⟩) m m] 25))) := Lib.hid (hb3.trans (But.ofB hal))
  have HZ3 := Lib.hid ((HZ.out.but hb3 HgX.out).below hal)
  obtain ⟨X2, HX2⟩ : ∃ z, Hid (w3.heap.size = z) := ⟨_, Lib.hid rfl⟩
  have HgX2 : Hid (X2 ≠ g ∧ b ≠ g) := Lib.hid (by have := hc3.lt; have := HX2.out; exact ⟨by omega, by omega⟩)
  rw [HX2.out] at HXn
  have HO : Hid (OkS tbs (stR ls)) := Lib.hid ⟨by have h1 := (HSC.out _ (But.refl _ _)).len; have h2 := hst.len; unfold stR; rw [List.length_map, h2, h1], htb, by omega⟩
  have hcn : cntS (stR ls) ≤ 100 := by omega
  have HM : Hid (m ≤ 4) := Lib.hid hm4
  clear hbb hst htb hct hc3 hb3 hm4 HC1 HZ z hal
  go_upto_region 4 with fail
  rw [HX2.out]
  generalize w3.alloc (.cells #[.slice (some ⟨b, 0, none⟩) m m] 25) = w4 at *
  clear HX2
  have z := HZ3.out.cell
  have zx := HXn.out.cell
  have HSC4 : Hid (ScN g w4 (some ⟨sb, 0, none⟩) m tbs) := Lib.hid (fun w' hw => HSC.out w' (HB3.out.trans hw))
  go_wp2_with fail
  refine (cchanges_any g ver (some ⟨sb, 0, none⟩) m 4 tbs (some ⟨b, 0, none⟩) m ls _ HC3.out HSC4.out HGS.out HSt.out.st HO.out hcn (by omega)).mono ?_
  rintro e w5 ⟨O, cn, oc, b2, cb, es, ls2, rfl, hch, hs2, hcn6, hap, hok2, hct2, hc5, hb5⟩
  have hal : Below w5.heap.size w5 (w5.alloc (.cells #[.slice (some ⟨b2, 0, none⟩) m cb] 25)) := (Below.refl _ _).alloc (Nat.le_refl _) _
  have HXn2 := Lib.hid (Blk.new w5 25 #[.slice (some ⟨b2, 0, none⟩) m cb])
  have HW : Hid (Below w.heap.size w (w5.alloc (.cells #[.slice (some ⟨b2, 0, none⟩) m cb] 25))) := Lib.hid (((HB3.out.trans (hb5.trans (But.ofB hal)))).below HB2.out HB2.out.size (fun k hk => by subst hk; exact HG.out))
  obtain ⟨X3, HX3⟩ : ∃ z, Hid (w5.heap.size = z) := ⟨_, Lib.hid rfl⟩
  rw [HX3.out] at HXn2
  have HI : Hid (PtI X1 X2 X3 ver sb m b b2 cb O cn tbs ls ls2 es (w5.alloc (.cells #[.slice (some ⟨b2, 0, none⟩) m cb] 25))) := Lib.hid
    ⟨(HZ3.out.but hb5 HgX.out).below hal, (HXn.out.but hb5 HgX2.out.1).below hal, HXn2.out, (HSC4.out _ hb5).keep (keeps_of hal), (HSt.out.but hb5 (fun k hk => .inl hk) HgX2.out.2).st.keep (keeps_of hal), hs2.keep (keeps_of hal), hch.keep (keeps_of hal)⟩
  have HR := Lib.hid (rec_sub HGS.out HO.out hap hok2.ct)
  have HK2 := Lib.hid (chkS_okS hok2)
  have hmm : m ≤ 1000000 := by have := HM.out; omega
  have hct3 : cntS (stR ls2) ≤ 512 := hok2.ct
  clear hch hs2 hap hok2 hct2 hc5 hb5 hal HXn2 HZ3 HXn HSC4 HSt HSC HB3 HB2 HC3 z zx HO HG HgX HgX2 HM
  go_upto_region 5 with fail
  rw [HX3.out]
  generalize w5.alloc (.cells #[.slice (some ⟨b2, 0, none⟩) m cb] 25) = w6 at *
  clear HX3
  have z := HI.out.z.cell
  have zy := HI.out.y.cell
  go_wp2_with fail
  refine (recheck_any ver (some ⟨sb, 0, none⟩) m 4 tbs (some ⟨b, 0, none⟩) m m ls O cn oc es _ HI.out.sc HGS.out HI.out.st (by omega) hmm HI.out.ch (by omega)).mono ?_
  rintro e w7 ⟨h7, hb7⟩
  rcases h7 with ⟨_, V, vn, vc, xs, rfl, hvn, hxs⟩ | ⟨h7, _⟩
  rotate_left
  · exact absurd HR.out.1 h7
  have HI7 := Lib.hid (HI.out.below hb7)
  have HV := Lib.hid hvn.s
  have HW7 := Lib.hid (Below.next HW.out hb7)
  have HXA : Hid (∀ x ∈ xs, x.v ∈ allV tbs (stR ls2)) := Lib.hid (fun x hx => HR.out.2.1 _ (by rw [← hxs]; exact List.mem_map_of_mem hx))
  have hvb : vn ≤ 4096 := by have h1 := HR.out.2.2; rw [← hxs, List.length_map, hvn.sl.len] at h1; exact h1
  clear hb7 hvn hxs HI HW HR z zy
  have z := HI7.out.z.cell
  have zx := HI7.out.x.cell
  go_wp2_with fail
  refine (viol_any ver (some ⟨sb, 0, none⟩) m 4 tbs (some ⟨b2, 0, none⟩) m cb ls2 _ HI7.out.sc HGS.out HI7.out.s2 (by omega) hmm).mono ?_
  rintro e w8 ⟨h8, hb8⟩
  rcases h8 with ⟨_, U, un, uc, ys, rfl, hun, hys⟩ | ⟨h8, _⟩
  rotate_left
  · exact absurd HK2.out h8
  have HU := Lib.hid hun.s
  have hub : un ≤ 4096 := by
    have h1 : (allV tbs (stR ls2)).length ≤ 8 * cntS (stR ls2) := vTabs_len _ _ _ HGS.out.tb
    rw [← hys, List.length_map, hun.sl.len] at h1
    omega
  have HV8 := Lib.hid (HV.out.keep (keeps_of hb8))
  have HW8 := Lib.hid (Below.next HW7.out hb8)
  have HYA : Hid (∀ x ∈ xs, x.v ∈ ys.map (·.v)) := Lib.hid (fun x hx => by rw [hys]; exact HXA.out x hx)
  clear hb8 hun hys HI7 HV HW7 HXA HK2 z zx HGS
  go_wp2_with fail
  go_loopw [52] (fun i wr => ∃ k : Nat, k ≤ vn ∧ i = .int .i64 (k : Int) ∧ Hid (VosS wr V vn xs) ∧ Hid (VosS wr U un ys) ∧ Hid (Below w.heap.size w wr)) (fun i _ => vn - (intOf i).toNat)
  case atStart => exact ⟨0, by omega, rfl, HV8, HU, HW8⟩
  case round =>
    clear HV8 HU HW8
    obtain ⟨k, hk, rfl, HV, HU, HW⟩ := hrel
    by_cases hkn : k < vn
    · obtain ⟨b3, o3, ⟨⟨xk, xt, xkey, xi⟩, XA, xn, xc⟩, rfl, hx, hxo, c0, c1, c2, c3⟩ := HV.out.at hkn
      dsimp only at c0 c1 c2 c3
      obtain ⟨p, hp, hpe⟩ : ∃ p, p < un ∧ (ys.map (·.v))[p]? = some (⟨xk, xt, xkey, xi⟩ : Vo) := by
        obtain ⟨p, hp⟩ := List.mem_iff_getElem?.1 (HYA.out _ (List.mem_of_getElem? hx))
        refine ⟨p, ?_, hp⟩
        have h1 := (List.getElem?_eq_some_iff.1 hp).1
        rw [List.length_map, HU.out.sl.len] at h1
        exact h1
      have Hpe := Lib.hid hpe
      have hal : Below wr.heap.size wr (wr.alloc (.cells #[.int .i64 xk, .int .i64 xt, .slice XA xn xc, .int .i64 xi] 55)) := (Below.refl _ _).alloc (Nat.le_refl _) _
      have HX := Lib.hid (Blk.new wr 55 #[.int .i64 xk, .int .i64 xt, .slice XA xn xc, .int .i64 xi])
      have HXo := Lib.hid (hxo.keep (keeps_of hal))
      have HV2 := Lib.hid (HV.out.keep (keeps_of hal))
      have HU2 := Lib.hid (HU.out.keep (keeps_of hal))
      have HW2 := Lib.hid (Below.next HW.out hal)
      obtain ⟨hb, Hhb⟩ : ∃ z, Hid (wr.heap.size = z) := ⟨_, Lib.hid rfl⟩
      rw [Hhb.out] at HX
      clear hpe hal hx hxo HV HU HW
      go_upto_region 12 with fail
      rw [Hhb.out]
      clear c0 c1 c2 c3
      generalize wr.alloc (.cells #[.int .i64 xk, .int .i64 xt, .slice XA xn xc, .int .i64 xi] 55) = w9 at *
      clear Hhb
      go_wp2_with fail
      go_loopw [14, 58] (fun f i wq => ∃ (j : Nat) (bb : Bool), j ≤ un ∧ i = .int .i64 (j : Int) ∧ f = .bool bb ∧ (bb = true ∨ j ≤ p) ∧ Hid (Blk wq hb 55 #[.int .i64 xk, .int .i64 xt, .slice XA xn xc, .int .i64 xi]) ∧ Hid (RowOk wq ((XA, xn, xc), xkey)) ∧ Hid (VosS wq (some ⟨b3, o3, none⟩) vn xs) ∧ Hid (VosS wq U un ys) ∧ Hid (Below w.heap.size w wq)) (fun _ i _ => un - (intOf i).toNat)
      case atStart => exact ⟨0, false, by omega, rfl, rfl, .inr (by omega), HX, HXo, HV2, HU2, HW2⟩
      case round =>
        clear HX HXo HV2 HU2 HW2
        obtain ⟨j, bb, hj, rfl, rfl, hbb, HX, HXo, HV, HU, HW⟩ := hrel
        by_cases hjn : j < un
        · obtain ⟨b4, o4, ⟨⟨yk, yt, ykey, yi⟩, YA, yn, yc⟩, rfl, hy, hyo, d0, d1, d2, d3⟩ := HU.out.at hjn
          dsimp only at d0 d1 d2 d3
          have Hy : Hid ((ys.map (·.v))[j]? = some (⟨yk, yt, ykey, yi⟩ : Vo)) := Lib.hid (by rw [List.getElem?_map, hy]; rfl)
          have hal : Below wr.heap.size wr (wr.alloc (.cells #[.int .i64 yk, .int .i64 yt, .slice YA yn yc, .int .i64 yi] 55)) := (Below.refl _ _).alloc (Nat.le_refl _) _
          have HY := Lib.hid (Blk.new wr 55 #[.int .i64 yk, .int .i64 yt, .slice YA yn yc, .int .i64 yi])
          have HYo := Lib.hid (hyo.keep (keeps_of hal))
          have HX2 := Lib.hid (HX.out.below hal)
          have HXo2 := Lib.hid (HXo.out.keep (keeps_of hal))
          have HV2 := Lib.hid (HV.out.keep (keeps_of hal))
          have HU2 := Lib.hid (HU.out.keep (keeps_of hal))
          have HW2 := Lib.hid (Below.next HW.out hal)
          obtain ⟨yb, Hyb⟩ : ∃ z, Hid (wr.heap.size = z) := ⟨_, Lib.hid rfl⟩
          rw [Hyb.out] at HY
          clear hal hy hyo HV HU HW HX HXo
          go_upto_region 16 with fail
          rw [Hyb.out]
          clear d0 d1 d2 d3
          generalize wr.alloc (.cells #[.int .i64 yk, .int .i64 yt, .slice YA yn yc, .int .i64 yi] 55) = w10 at *
          clear Hyb
          cases bb
          · have hjp : j ≤ p := hbb.resolve_left (by decide)
            have zx := HX2.out.cell
            have zy := HY.out.cell
            have hal1 : Below w10.heap.size w10 (w10.alloc (.cells #[.int .i64 xk, .int .i64 xt, .slice XA xn xc, .int .i64 xi] 55)) := (Below.refl _ _).alloc (Nat.le_refl _) _
            have zz := (HY.out.below hal1).cell
            go_wp2_with fail
            have hal2 : Below (w10.alloc (.cells #[.int .i64 xk, .int .i64 xt, .slice XA xn xc, .int .i64 xi] 55)).heap.size (w10.alloc (.cells #[.int .i64 xk, .int .i64 xt, .slice XA xn xc, .int .i64 xi] 55)) ((w10.alloc (.cells #[.int .i64 xk, .int .i64 xt, .slice XA xn xc, .int .i64 xi] 55)).alloc (.cells #[.int .i64 yk, .int .i64 yt, .slice YA yn yc, .int .i64 yi] 55)) := (Below.refl _ _).alloc (Nat.le_refl _) _
            have HS1 := Lib.hid ((vos_one (x := ⟨⟨xk, xt, xkey, xi⟩, XA, xn, xc⟩) (Blk.new w10 55 #[.int .i64 xk, .int .i64 xt, .slice XA xn xc, .int .i64 xi]) (HXo2.out.keep (keeps_of hal1))).keep (keeps_of hal2))
            have HS2 := Lib.hid (vos_one (x := ⟨⟨yk, yt, ykey, yi⟩, YA, yn, yc⟩) (Blk.new (w10.alloc (.cells #[.int .i64 xk, .int .i64 xt, .slice XA xn xc, .int .i64 xi] 55)) 55 #[.int .i64 yk, .int .i64 yt, .slice YA yn yc, .int .i64 yi]) ((HYo.out.keep (keeps_of hal1)).keep (keeps_of hal2)))
            rw [World.size_alloc] at HS2
            have hal3 := Below.next ((Below.refl w10.heap.size w10).trans (hal1.mono (Nat.le_refl _))) hal2
            have HX3 := Lib.hid (HX2.out.below hal3)
            have HXo3 := Lib.hid (HXo2.out.keep (keeps_of hal3))
            have HV3 := Lib.hid (HV2.out.keep (keeps_of hal3))
            have HU3 := Lib.hid (HU2.out.keep (keeps_of hal3))
            have HW3 := Lib.hid (Below.next HW2.out hal3)
            clear hal1 hal2 hal3 zx zy zz HX2 HXo2 HV2 HU2 HW2 HY HYo
            refine (rsame9_any (some ⟨w10.heap.size, 0, none⟩) 1 1 [⟨⟨xk, xt, xkey, xi⟩, XA, xn, xc⟩] (some ⟨w10.heap.size + 1, 0, none⟩) 1 1 [⟨⟨yk, yt, ykey, yi⟩, YA, yn, yc⟩] _ HS1.out HS2.out (by omega)).mono ?_
            rintro e w11 ⟨rfl, hb11⟩
            have HX4 := Lib.hid (HX3.out.below hb11)
            have HXo4 := Lib.hid (HXo3.out.keep (keeps_of hb11))
            have HV4 := Lib.hid (HV3.out.keep (keeps_of hb11))
            have HU4 := Lib.hid (HU3.out.keep (keeps_of hb11))
            have HW4 := Lib.hid (Below.next HW3.out hb11)
            obtain ⟨qq, hqq⟩ : ∃ z, decide (([⟨⟨xk, xt, xkey, xi⟩, XA, xn, xc⟩] : List VoE).map (·.v) = ([⟨⟨yk, yt, ykey, yi⟩, YA, yn, yc⟩] : List VoE).map (·.v)) = z := ⟨_, rfl⟩
            rw [hqq]
            have hnx : qq = true ∨ j + 1 ≤ p := by
              by_cases hjp2 : j = p
              · left
                subst hjp2
                have h1 := Hy.out
                rw [Hpe.out] at h1
                injection h1 with h1
                rw [← hqq, decide_eq_true_eq]
                show [(⟨xk, xt, xkey, xi⟩ : Vo)] = [⟨yk, yt, ykey, yi⟩]
                rw [h1]
              · exact .inr (by omega)
            clear hb11 hqq HX3 HXo3 HV3 HU3 HW3 HS1 HS2 hjp hbb
            go_wp2
            go_roundw
            case rel => exact ⟨j + 1, qq, by omega, by go_num, rfl, hnx, HX4, HXo4, HV4, HU4, HW4⟩
            case measure => simp [intOf]; omega
          · go_wp2
            go_roundw
            case rel => exact ⟨j + 1, true, by omega, by go_num, rfl, .inl rfl, HX2, HXo2, HV2, HU2, HW2⟩
            case measure => simp [intOf]; omega
        · have hbt : bb = true := hbb.resolve_right (by omega)
          subst hbt
          go_wp2
          go_roundw
          case rel => exact ⟨k + 1, by omega, by go_num, HV, HU, HW⟩
          case measure => simp [intOf]; omega
    · obtain rfl : k = vn := by omega
      go_wp2_with fail
      refine (begun9_any _).mono ?_
      rintro e w9 ⟨rfl, hb9⟩
      have HE := Lib.hid (Below.next HW.out hb9)
      clear hb9
      go_wp2
      go_ret
      exact ⟨rfl, HE.out⟩
end Go.Proofs.YtnnmlhmffnfjfaaGreat
