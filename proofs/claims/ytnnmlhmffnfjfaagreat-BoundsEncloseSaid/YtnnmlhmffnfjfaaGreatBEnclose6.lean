/-
 The walk of the law BoundsEnclose.
-/
import Derived.Test.YtnnmlhmffnfjfaaGreatB30
namespace Go.Proofs.YtnnmlhmffnfjfaaGreat
open Go.RowKit
set_option maxRecDepth 100000
open Rg Pd
set_option linter.unusedVariables false
set_option maxRecDepth 100000 in
set_option maxHeartbeats 16000000 in
theorem enclose6_walk (A : Option Addr) (n c : Nat) (zs : List Int) (w : World) (hs : Sl 1 u8c w A n zs) (hz : ∀ z ∈ zs, 0 ≤ z ∧ z ≤ 255) (hnil : A = none → n = 0 ∧ c = 0) (hsp : ∀ ad, A = some ad → ad.spot = none) (hnc : n ≤ c) (hcm : c ≤ 9223372036854775807) :
 Calls Tryz.prog 9 #[.slice A n c] w fun e w' => e = .returned (.bool true) ∧ Below w.heap.size w w' := by
 have HS := zH hs
 have HZ := zH hz
 have HN := zH hnil
 have HP := zH hsp
 clear hs hz hnil hsp
 go_enter Tryz.func9, Tryz.ntmps9
 go_wp2_with fail
 refine (new_any A n c zs 160 _ HS.out HZ.out HN.out HP.out hnc hcm (by omega)).mono ?_
 rintro e w0 ⟨g, hg, rfl, hc, hB0⟩
 have HC := zH hc
 have HB := zH hB0
 have HG := zH hg
 clear HS HZ HN HP hc hB0 hg hnc hcm
 go_wp2_with fail
 refine (kinds6_any 0 g 4 (by omega) _ HC.out).mono ?_
 rintro e w1 ⟨Ac, nc, cc, cols, rfl, hncc, hL, hcb, hn4, hc1, hb1⟩
 replace HB := zH (hb1.below HB.out HB.out.size (fun k hk => by subst hk; exact HG.out))
 replace HC := zH hc1
 have HL := zH hL
 have HCB := zH (And.intro hcb hncc)
 clear hc1 hb1 hL hcb hncc
 go_wp2_with fail
 refine (predicate_any cols 3 (by omega) 0 g Ac nc cc 3 _ rfl HC.out HL.out (by omega) HCB.out.1).mono ?_
 rintro e u1 ⟨p, Ap, np, cp, rfl, hP, hv, hwf, hcu, hbu, hku⟩
 have hP := hP.mono (L' := fun b => g < b) (fun b hl _ => by have := HC.out.lt; omega)
 replace HB := zH (hbu.below HB.out HB.out.size (fun k hk => by subst hk; exact HG.out))
 replace HL := zH (HL.out.case hbu)
 replace HC := zH hcu
 have HPp := zH hP
 have HWp := zH (And.intro hv hwf)
 clear hcu hbu hP hv hwf hku
 unfold pdV
 have HVp := zH (Blk.new (u1) 64 #[.int .i64 p.h.op, .int .i64 p.h.cm, .int .i64 p.h.l.k, .int .i64 p.h.l.ix, .int .i64 p.h.l.v.k, .int .i64 p.h.l.v.i, .string p.h.l.v.t, .int .i64 p.h.r.k, .int .i64 p.h.r.ix, .int .i64 p.h.r.v.k, .int .i64 p.h.r.v.i, .string p.h.r.v.t, .slice Ap np cp])
 obtain ⟨Vp, HXp⟩ : ∃ z, Hid (u1.heap.size = z) := ⟨_, rfl⟩
 have HGp : Hid (g < Vp) := zH (by have := HXp.out; have := HC.out.lt; omega)
 rw [HXp.out] at HVp
 have hal : Below (u1).heap.size (u1) ((u1).alloc (.cells #[.int .i64 p.h.op, .int .i64 p.h.cm, .int .i64 p.h.l.k, .int .i64 p.h.l.ix, .int .i64 p.h.l.v.k, .int .i64 p.h.l.v.i, .string p.h.l.v.t, .int .i64 p.h.r.k, .int .i64 p.h.r.ix, .int .i64 p.h.r.v.k, .int .i64 p.h.r.v.i, .string p.h.r.v.t, .slice Ap np cp] 64)) := (Below.refl _ _).alloc (Nat.le_refl _) _
 replace HB := zH (Below.next HB.out hal)
 replace HL := zH (HL.out.below hal)
 replace HPp := zH (HPp.out.below hal)
 replace HC := zH (HC.out.below hal)
 clear hal
 go_upto_region 4 with fail
 rw [HXp.out]
 generalize hWW : (u1).alloc (.cells #[.int .i64 p.h.op, .int .i64 p.h.cm, .int .i64 p.h.l.k, .int .i64 p.h.l.ix, .int .i64 p.h.l.v.k, .int .i64 p.h.l.v.i, .string p.h.l.v.t, .int .i64 p.h.r.k, .int .i64 p.h.r.ix, .int .i64 p.h.r.v.k, .int .i64 p.h.r.v.i, .string p.h.r.v.t, .slice Ap np cp] 64) = WW2 at *
 clear hWW
 clear HXp
 have zp := HVp.out.cell
 go_wp2_with fail
 refine (bregions_any cols (p) Ap np cp Ac nc cc _ HPp.out.s HL.out.sl (by omega) (HWp.out.2)).mono ?_
 rintro e u3 ⟨xa, fa, Aa, na, ca, xb, fb, Ab, nb, cb, rfl, hSa, hSb, hbu⟩
 clear zp
 obtain ⟨er, Her⟩ : ∃ z, Hid (bdE cols (p) = z) := ⟨_, rfl⟩
 rw [Her.out]
 obtain ⟨ra, Hra⟩ : ∃ z, Hid ((bdR cols (p)).1 = z) := ⟨_, rfl⟩
 obtain ⟨rb, Hrb⟩ : ∃ z, Hid ((bdR cols (p)).2 = z) := ⟨_, rfl⟩
 rw [Hra.out] at hSa
 rw [Hrb.out] at hSb
 replace HB := zH (Below.next HB.out hbu)
 replace HL := zH (HL.out.below hbu)
 replace HPp := zH (HPp.out.below hbu)
 replace HVp := zH (HVp.out.below hbu)
 replace HC := zH (HC.out.below hbu)
 have HSa := zH hSa
 have HSb := zH hSb
 clear hSa hSb hbu
 have HVa := zH (Blk.new (u3) 71 #[.int .i64 xa, .bool fa, .slice Aa na ca])
 obtain ⟨Va, HXa⟩ : ∃ z, Hid (u3.heap.size = z) := ⟨_, rfl⟩
 rw [HXa.out] at HVa
 have hal : Below (u3).heap.size (u3) ((u3).alloc (.cells #[.int .i64 xa, .bool fa, .slice Aa na ca] 71)) := (Below.refl _ _).alloc (Nat.le_refl _) _
 replace HB := zH (Below.next HB.out hal)
 replace HL := zH (HL.out.below hal)
 replace HPp := zH (HPp.out.below hal)
 replace HVp := zH (HVp.out.below hal)
 replace HSa := zH (HSa.out.keep (keeps_of hal))
 replace HSb := zH (HSb.out.keep (keeps_of hal))
 replace HC := zH (HC.out.below hal)
 clear hal
 have HVb := zH (Blk.new ((u3).alloc (.cells #[.int .i64 xa, .bool fa, .slice Aa na ca] 71)) 71 #[.int .i64 xb, .bool fb, .slice Ab nb cb])
 obtain ⟨Vb, HXb⟩ : ∃ z, Hid (Va + 1 = z) := ⟨_, rfl⟩
 rw [World.size_alloc, HXa.out, HXb.out] at HVb
 have hal : Below ((u3).alloc (.cells #[.int .i64 xa, .bool fa, .slice Aa na ca] 71)).heap.size ((u3).alloc (.cells #[.int .i64 xa, .bool fa, .slice Aa na ca] 71)) (((u3).alloc (.cells #[.int .i64 xa, .bool fa, .slice Aa na ca] 71)).alloc (.cells #[.int .i64 xb, .bool fb, .slice Ab nb cb] 71)) := (Below.refl _ _).alloc (Nat.le_refl _) _
 replace HB := zH (Below.next HB.out hal)
 replace HL := zH (HL.out.below hal)
 replace HPp := zH (HPp.out.below hal)
 replace HVp := zH (HVp.out.below hal)
 replace HSa := zH (HSa.out.keep (keeps_of hal))
 replace HSb := zH (HSb.out.keep (keeps_of hal))
 replace HVa := zH (HVa.out.below hal)
 replace HC := zH (HC.out.below hal)
 clear hal
 go_upto_region 5 with fail
 rw [HXa.out]
 rw [HXb.out]
 generalize hWW : ((u3).alloc (.cells #[.int .i64 xa, .bool fa, .slice Aa na ca] 71)).alloc (.cells #[.int .i64 xb, .bool fb, .slice Ab nb cb] 71) = WW4 at *
 clear hWW
 clear HXa
 clear HXb
 by_cases h0 : er = 0
 rotate_left
 · have h2 := bdE_02 HCB.out.1 HWp.out.1
   rw [Her.out] at h2
   obtain rfl : er = 2 := by omega
   clear h0 h2
   go_wp2_with fail
   refine (begun6_any _).mono ?_
   rintro e u5 ⟨rfl, hbu⟩
   replace HB := zH (Below.next HB.out hbu)
   clear hbu
   go_wp2
   go_ret
   exact ⟨rfl, HB.out⟩
 subst h0
 have HEn : Hid (∀ u, typedR cols u → (hasR ra u = true → holdsB u [] p = true) ∧ (holdsB u [] p = true → hasR rb u = true)) := zH (by
  intro u hu
  rw [← Hra.out, ← Hrb.out]
  exact enclose_plain HWp.out.2 Her.out hu)
 have hnd : p.nodes ≤ 24 := (checkE_ok (bd_ok Her.out).2.1).2.2.1
 go_wp2_with fail
 go_loopw [9] (fun i wr => ∃ k : Nat, k ≤ 6 ∧ i = .int .i64 (k : Int) ∧ Hid (CaseAt wr g) ∧ Hid (Below w.heap.size w wr) ∧ Hid (ClJ 0 g wr Ac nc cols) ∧ Hid (PrdL (fun b => g < b) wr Ap np cp p) ∧ Hid (Blk wr Vp 64 #[.int .i64 p.h.op, .int .i64 p.h.cm, .int .i64 p.h.l.k, .int .i64 p.h.l.ix, .int .i64 p.h.l.v.k, .int .i64 p.h.l.v.i, .string p.h.l.v.t, .int .i64 p.h.r.k, .int .i64 p.h.r.ix, .int .i64 p.h.r.v.k, .int .i64 p.h.r.v.i, .string p.h.r.v.t, .slice Ap np cp]) ∧ Hid (RgS wr xa fa Aa na ca ra) ∧ Hid (RgS wr xb fb Ab nb cb rb) ∧ Hid (Blk wr Va 71 #[.int .i64 xa, .bool fa, .slice Aa na ca]) ∧ Hid (Blk wr Vb 71 #[.int .i64 xb, .bool fb, .slice Ab nb cb])) (fun i _ => 6 - (intOf i).toNat)
 case atStart => exact ⟨0, by omega, rfl, HC, HB, HL, HPp, HVp, HSa, HSb, HVa, HVb⟩
 case round =>
  clear HC HB HL HPp HVp HSa HSb HVa HVb
  obtain ⟨k, hk, rfl, HC, HB, HL, HPp, HVp, HSa, HSb, HVa, HVb⟩ := hrel
  by_cases hlt : k < 6
  rotate_left
  · obtain rfl : 6 = k := by omega
    go_wp2_with fail
    refine (begun6_any _).mono ?_
    rintro e u6 ⟨rfl, hbu⟩
    replace HB := zH (Below.next HB.out hbu)
    replace HL := zH (HL.out.below hbu)
    replace HPp := zH (HPp.out.below hbu)
    replace HVp := zH (HVp.out.below hbu)
    replace HSa := zH (HSa.out.keep (keeps_of hbu))
    replace HSb := zH (HSb.out.keep (keeps_of hbu))
    replace HVa := zH (HVa.out.below hbu)
    replace HVb := zH (HVb.out.below hbu)
    replace HC := zH (HC.out.below hbu)
    clear hbu
    go_wp2
    go_ret
    exact ⟨rfl, HB.out⟩
  go_wp2_with fail
  refine (row6_any 0 g cols Ac nc cc _ HC.out HL.out (by omega) HCB.out.1).mono ?_
  rintro e w8 ⟨Ar, nr, cr, u, rfl, hty, hV, hc8, hb8⟩
  replace HB := zH (hb8.below HB.out HB.out.size (fun k hk => by subst hk; exact HG.out))
  replace HL := zH (HL.out.case hb8)
  replace HPp := zH (HPp.out.but hb8 (fun b hl _ e => by have hl : g < b := hl; omega))
  replace HVp := zH (HVp.out.but hb8 (HC.out.ne HVp.out (by decide)))
  replace HSa := zH (HSa.out.case HC.out hb8)
  replace HSb := zH (HSb.out.case HC.out hb8)
  replace HVa := zH (HVa.out.but hb8 (HC.out.ne HVa.out (by decide)))
  replace HVb := zH (HVb.out.but hb8 (HC.out.ne HVb.out (by decide)))
  replace HC := zH hc8
  have HU := zH hV
  have HT := zH (HEn.out u hty)
  clear hc8 hb8 hV hty
  have zp := HVp.out.cell
  go_wp2_with fail
  refine (holds_any u [] p.nodes p Ap np cp Ar nr cr none 0 0 _ (Nat.le_refl _) (by omega) HPp.out.s HU.out Sl.nil).mono ?_
  rintro e u7 ⟨rfl, hbu⟩
  clear zp
  replace HB := zH (Below.next HB.out hbu)
  replace HL := zH (HL.out.below hbu)
  replace HPp := zH (HPp.out.below hbu)
  replace HVp := zH (HVp.out.below hbu)
  replace HSa := zH (HSa.out.keep (keeps_of hbu))
  replace HSb := zH (HSb.out.keep (keeps_of hbu))
  replace HVa := zH (HVa.out.below hbu)
  replace HVb := zH (HVb.out.below hbu)
  replace HU := zH (HU.out.keep (keeps_of hbu))
  replace HC := zH (HC.out.below hbu)
  clear hbu
  obtain ⟨x, Hx⟩ : ∃ z, Hid (holdsB u [] p = z) := ⟨_, rfl⟩
  rw [Hx.out]
  rw [Hx.out] at HT
  go_upto_region 12 with fail
  have za := HVa.out.cell
  go_wp2_with fail
  refine (ghas_any ra xa fa Aa na ca u Ar nr cr _ HSa.out HU.out).mono ?_
  rintro e u8 ⟨rfl, hbu⟩
  clear za
  replace HB := zH (Below.next HB.out hbu)
  replace HL := zH (HL.out.below hbu)
  replace HPp := zH (HPp.out.below hbu)
  replace HVp := zH (HVp.out.below hbu)
  replace HSa := zH (HSa.out.keep (keeps_of hbu))
  replace HSb := zH (HSb.out.keep (keeps_of hbu))
  replace HVa := zH (HVa.out.below hbu)
  replace HVb := zH (HVb.out.below hbu)
  replace HU := zH (HU.out.keep (keeps_of hbu))
  replace HC := zH (HC.out.below hbu)
  clear hbu
  obtain ⟨h1, Hh⟩ : ∃ z, Hid (hasR ra u = z) := ⟨_, rfl⟩
  rw [Hh.out]
  rw [Hh.out] at HT
  cases x
  · obtain rfl : false = h1 := by
     cases h1
     · rfl
     · exact absurd (HT.out.1 rfl) (by decide)
    go_wp2
    go_roundw
    case rel => exact ⟨k + 1, by omega, by go_num, HC, HB, HL, HPp, HVp, HSa, HSb, HVa, HVb⟩
    case measure => simp [intOf]; omega
  · have HT2 := zH (HT.out.2 rfl)
    cases h1
    all_goals
     have zb := HVb.out.cell
     go_wp2_with fail
     refine (ghas_any rb xb fb Ab nb cb u Ar nr cr _ HSb.out HU.out).mono ?_
     rintro e u9 ⟨rfl, hbu⟩
     rw [HT2.out]
     clear zb
     replace HB := zH (Below.next HB.out hbu)
     replace HL := zH (HL.out.below hbu)
     replace HPp := zH (HPp.out.below hbu)
     replace HVp := zH (HVp.out.below hbu)
     replace HSa := zH (HSa.out.keep (keeps_of hbu))
     replace HSb := zH (HSb.out.keep (keeps_of hbu))
     replace HVa := zH (HVa.out.below hbu)
     replace HVb := zH (HVb.out.below hbu)
     replace HU := zH (HU.out.keep (keeps_of hbu))
     replace HC := zH (HC.out.below hbu)
     clear hbu
     go_wp2
     go_roundw
     case rel => exact ⟨k + 1, by omega, by go_num, HC, HB, HL, HPp, HVp, HSa, HSb, HVa, HVb⟩
     case measure => simp [intOf]; omega
end Go.Proofs.YtnnmlhmffnfjfaaGreat
