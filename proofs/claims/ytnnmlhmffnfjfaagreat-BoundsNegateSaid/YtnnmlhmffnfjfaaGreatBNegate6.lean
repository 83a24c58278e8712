/-
 The walk of the law BoundsNegate.
-/
import Derived.Test.YtnnmlhmffnfjfaaGreatB30
namespace Go.Proofs.YtnnmlhmffnfjfaaGreat
open Go.RowKit
set_option maxRecDepth 100000
open Rg Pd
set_option linter.unusedVariables false
set_option maxRecDepth 100000 in
set_option maxHeartbeats 16000000 in
theorem negate6_walk (A : Option Addr) (n c : Nat) (zs : List Int) (w : World) (hs : Sl 1 u8c w A n zs) (hz : ∀ z ∈ zs, 0 ≤ z ∧ z ≤ 255) (hnil : A = none → n = 0 ∧ c = 0) (hsp : ∀ ad, A = some ad → ad.spot = none) (hnc : n ≤ c) (hcm : c ≤ 9223372036854775807) :
 Calls Tryz.prog 10 #[.slice A n c] w fun e w' => e = .returned (.bool true) ∧ Below w.heap.size w w' := by
 have HS := zH hs
 have HZ := zH hz
 have HN := zH hnil
 have HP := zH hsp
 clear hs hz hnil hsp
 go_enter Tryz.func10, Tryz.ntmps10
 go_wp2_with fail
 refine (new_any A n c zs 160 _ HS.out HZ.out HN.out HP.out hnc hcm (by omega)).mono ?_
 rintro e w0 ⟨g, hg, rfl, hc, hB0⟩
 have HC := zH hc
 have HB := zH hB0
 have HG := zH hg
 clear HS HZ HN HP hc hB0 hg hnc hcm
 go_wp2_with fail
 refine (kinds6_any 0 g 4 (by omega) _ HC.out).mono ?_
 rintro e w1 ⟨Ac, nc, cc, cols, rfl, hncc, hL, hcb, hn4, hc1, hb1⟩
 replace HB := zH (hb1.below HB.out HB.out.size (fun k hk => by subst hk; exact HG.out))
 replace HC := zH hc1
 have HL := zH hL
 have HCB := zH (And.intro hcb hncc)
 clear hc1 hb1 hL hcb hncc
 go_wp2_with fail
 refine (predicate_any cols 2 (by omega) 0 g Ac nc cc 2 _ rfl HC.out HL.out (by omega) HCB.out.1).mono ?_
 rintro e u1 ⟨p, Ap, np, cp, rfl, hP, hv, hwf, hcu, hbu, hku⟩
 have hP := hP.mono (L' := fun b => g < b) (fun b hl _ => by have := HC.out.lt; omega)
 replace HB := zH (hbu.below HB.out HB.out.size (fun k hk => by subst hk; exact HG.out))
 replace HL := zH (HL.out.case hbu)
 replace HC := zH hcu
 have HPp := zH hP
 have HWp := zH (And.intro hv hwf)
 clear hcu hbu hP hv hwf hku
 unfold pdV
 have HVp := zH (Blk.new (u1) 64 #[.int .i64 p.h.op, .int .i64 p.h.cm, .int .i64 p.h.l.k, .int .i64 p.h.l.ix, .int .i64 p.h.l.v.k, .int .i64 p.h.l.v.i, .string p.h.l.v.t, .int .i64 p.h.r.k, .int .i64 p.h.r.ix, .int .i64 p.h.r.v.k, .int .i64 p.h.r.v.i, .string p.h.r.v.t, .slice Ap np cp])
 obtain ⟨Vp, HXp⟩ : ∃ z, Hid (u1.heap.size = z) := ⟨_, rfl⟩
 have HGp : Hid (g < Vp) := zH (by have := HXp.out; have := HC.out.lt; omega)
 rw [HXp.out] at HVp
 have hal : Below (u1).heap.size (u1) ((u1).alloc (.cells #[.int .i64 p.h.op, .int .i64 p.h.cm, .int .i64 p.h.l.k, .int .i64 p.h.l.ix, .int .i64 p.h.l.v.k, .int .i64 p.h.l.v.i, .string p.h.l.v.t, .int .i64 p.h.r.k, .int .i64 p.h.r.ix, .int .i64 p.h.r.v.k, .int .i64 p.h.r.v.i, .string p.h.r.v.t, .slice Ap np cp] 64)) := (Below.refl _ _).alloc (Nat.le_refl _) _
 replace HB := zH (Below.next HB.out hal)
 replace HL := zH (HL.out.below hal)
 replace HPp := zH (HPp.out.below hal)
 replace HC := zH (HC.out.below hal)
 clear hal
 go_upto_region 4 with fail
 rw [HXp.out]
 generalize hWW : (u1).alloc (.cells #[.int .i64 p.h.op, .int .i64 p.h.cm, .int .i64 p.h.l.k, .int .i64 p.h.l.ix, .int .i64 p.h.l.v.k, .int .i64 p.h.l.v.i, .string p.h.l.v.t, .int .i64 p.h.r.k, .int .i64 p.h.r.ix, .int .i64 p.h.r.v.k, .int .i64 p.h.r.v.i, .string p.h.r.v.t, .slice Ap np cp] 64) = WW2 at *
 clear hWW
 clear HXp
 have zp := HVp.out.cell
 go_wp2_with fail
 refine (bregions_any cols (p) Ap np cp Ac nc cc _ HPp.out.s HL.out.sl (by omega) (HWp.out.2)).mono ?_
 rintro e u3 ⟨xa, fa, Aa, na, ca, xb, fb, Ab, nb, cb, rfl, hSa, hSb, hbu⟩
 clear zp
 obtain ⟨er, Her⟩ : ∃ z, Hid (bdE cols (p) = z) := ⟨_, rfl⟩
 rw [Her.out]
 obtain ⟨ra, Hra⟩ : ∃ z, Hid ((bdR cols (p)).1 = z) := ⟨_, rfl⟩
 obtain ⟨rb, Hrb⟩ : ∃ z, Hid ((bdR cols (p)).2 = z) := ⟨_, rfl⟩
 rw [Hra.out] at hSa
 rw [Hrb.out] at hSb
 replace HB := zH (Below.next HB.out hbu)
 replace HL := zH (HL.out.below hbu)
 replace HPp := zH (HPp.out.below hbu)
 replace HVp := zH (HVp.out.below hbu)
 replace HC := zH (HC.out.below hbu)
 have HSa := zH hSa
 have HSb := zH hSb
 clear hSa hSb hbu
 have HVa := zH (Blk.new (u3) 71 #[.int .i64 xa, .bool fa, .slice Aa na ca])
 obtain ⟨Va, HXa⟩ : ∃ z, Hid (u3.heap.size = z) := ⟨_, rfl⟩
 rw [HXa.out] at HVa
 have hal : Below (u3).heap.size (u3) ((u3).alloc (.cells #[.int .i64 xa, .bool fa, .slice Aa na ca] 71)) := (Below.refl _ _).alloc (Nat.le_refl _) _
 replace HB := zH (Below.next HB.out hal)
 replace HL := zH (HL.out.below hal)
 replace HPp := zH (HPp.out.below hal)
 replace HVp := zH (HVp.out.below hal)
 replace HSa := zH (HSa.out.keep (keeps_of hal))
 replace HSb := zH (HSb.out.keep (keeps_of hal))
 replace HC := zH (HC.out.below hal)
 clear hal
 have HVb := zH (Blk.new ((u3).alloc (.cells #[.int .i64 xa, .bool fa, .slice Aa na ca] 71)) 71 #[.int .i64 xb, .bool fb, .slice Ab nb cb])
 obtain ⟨Vb, HXb⟩ : ∃ z, Hid (Va + 1 = z) := ⟨_, rfl⟩
 rw [World.size_alloc, HXa.out, HXb.out] at HVb
 have hal : Below ((u3).alloc (.cells #[.int .i64 xa, .bool fa, .slice Aa na ca] 71)).heap.size ((u3).alloc (.cells #[.int .i64 xa, .bool fa, .slice Aa na ca] 71)) (((u3).alloc (.cells #[.int .i64 xa, .bool fa, .slice Aa na ca] 71)).alloc (.cells #[.int .i64 xb, .bool fb, .slice Ab nb cb] 71)) := (Below.refl _ _).alloc (Nat.le_refl _) _
 replace HB := zH (Below.next HB.out hal)
 replace HL := zH (HL.out.below hal)
 replace HPp := zH (HPp.out.below hal)
 replace HVp := zH (HVp.out.below hal)
 replace HSa := zH (HSa.out.keep (keeps_of hal))
 replace HSb := zH (HSb.out.keep (keeps_of hal))
 replace HVa := zH (HVa.out.below hal)
 replace HC := zH (HC.out.below hal)
 clear hal
 go_upto_region 5 with fail
 rw [HXa.out]
 rw [HXb.out]
 generalize hWW : ((u3).alloc (.cells #[.int .i64 xa, .bool fa, .slice Aa na ca] 71)).alloc (.cells #[.int .i64 xb, .bool fb, .slice Ab nb cb] 71) = WW4 at *
 clear hWW
 clear HXa
 clear HXb
 clear HC
 by_cases h0 : er = 0
 rotate_left
 · have h2 := bdE_02 HCB.out.1 HWp.out.1
   rw [Her.out] at h2
   obtain rfl : er = 2 := by omega
   clear h0 h2
   go_wp2_with fail
   refine (begun6_any _).mono ?_
   rintro e u5 ⟨rfl, hbu⟩
   replace HB := zH (Below.next HB.out hbu)
   clear hbu
   go_wp2
   go_ret
   exact ⟨rfl, HB.out⟩
 subst h0
 have HNg := zH (negate_plain HWp.out.2 Her.out)
 have HF := zH (bd_big HWp.out.2 Her.out).pr
 rw [Hra.out, Hrb.out] at HNg
 have HWF : Hid (WfR ra ∧ WfR rb) := zH ⟨by rw [← Hra.out]; exact HF.out.f1, by rw [← Hrb.out]; exact HF.out.f2⟩
 have HK2 := zH (cp_02 HF.out.o1 HF.out.w1)
 have HK3 := zH (cp_02 HF.out.o2 HF.out.w2)
 rw [Hra.out] at HK2
 rw [Hrb.out] at HK3
 clear HF
 have hPN : PrdL (fun b => g < b) (WW4.alloc (.cells #[.int .i64 p.h.op, .int .i64 p.h.cm, .int .i64 p.h.l.k, .int .i64 p.h.l.ix, .int .i64 p.h.l.v.k, .int .i64 p.h.l.v.i, .string p.h.l.v.t, .int .i64 p.h.r.k, .int .i64 p.h.r.ix, .int .i64 p.h.r.v.k, .int .i64 p.h.r.v.i, .string p.h.r.v.t, .slice Ap np cp] 64)) (some ⟨WW4.heap.size, 0, none⟩) 1 1 (Pd.cons p (.nil (plainN 6))) :=
  pdl_blk (es := [⟨p, Ap, np, cp⟩]) (plainN 6) (Blk.new _ _ _) rfl rfl (by have := HGp.out; have := HVp.out.lt; omega) (fun e he => by
   rw [List.mem_singleton.1 he]
   exact HPp.out.below ((Below.refl _ _).alloc (Nat.le_refl _) _))
 have HPn := zH hPN
 clear hPN
 obtain ⟨Vs, HXs⟩ : ∃ z, Hid (WW4.heap.size = z) := ⟨_, rfl⟩
 rw [HXs.out] at HPn
 have zp := HVp.out.cell
 have hal : Below (WW4).heap.size (WW4) ((WW4).alloc (.cells #[.int .i64 p.h.op, .int .i64 p.h.cm, .int .i64 p.h.l.k, .int .i64 p.h.l.ix, .int .i64 p.h.l.v.k, .int .i64 p.h.l.v.i, .string p.h.l.v.t, .int .i64 p.h.r.k, .int .i64 p.h.r.ix, .int .i64 p.h.r.v.k, .int .i64 p.h.r.v.i, .string p.h.r.v.t, .slice Ap np cp] 64)) := (Below.refl _ _).alloc (Nat.le_refl _) _
 replace HB := zH (Below.next HB.out hal)
 replace HL := zH (HL.out.below hal)
 replace HPp := zH (HPp.out.below hal)
 replace HVp := zH (HVp.out.below hal)
 replace HSa := zH (HSa.out.keep (keeps_of hal))
 replace HSb := zH (HSb.out.keep (keeps_of hal))
 replace HVa := zH (HVa.out.below hal)
 replace HVb := zH (HVb.out.below hal)
 clear hal
 have HVn := zH (Blk.new ((WW4).alloc (.cells #[.int .i64 p.h.op, .int .i64 p.h.cm, .int .i64 p.h.l.k, .int .i64 p.h.l.ix, .int .i64 p.h.l.v.k, .int .i64 p.h.l.v.i, .string p.h.l.v.t, .int .i64 p.h.r.k, .int .i64 p.h.r.ix, .int .i64 p.h.r.v.k, .int .i64 p.h.r.v.i, .string p.h.r.v.t, .slice Ap np cp] 64)) 64 #[.int .i64 6, .int .i64 0, .int .i64 0, .int .i64 0, .int .i64 0, .int .i64 0, .string ⟨#[]⟩, .int .i64 0, .int .i64 0, .int .i64 0, .int .i64 0, .string ⟨#[]⟩, .slice (some ⟨Vs, 0, none⟩) 1 1])
 obtain ⟨Vn, HXn⟩ : ∃ z, Hid (Vs + 1 = z) := ⟨_, rfl⟩
 rw [World.size_alloc, HXs.out, HXn.out] at HVn
 have hal : Below ((WW4).alloc (.cells #[.int .i64 p.h.op, .int .i64 p.h.cm, .int .i64 p.h.l.k, .int .i64 p.h.l.ix, .int .i64 p.h.l.v.k, .int .i64 p.h.l.v.i, .string p.h.l.v.t, .int .i64 p.h.r.k, .int .i64 p.h.r.ix, .int .i64 p.h.r.v.k, .int .i64 p.h.r.v.i, .string p.h.r.v.t, .slice Ap np cp] 64)).heap.size ((WW4).alloc (.cells #[.int .i64 p.h.op, .int .i64 p.h.cm, .int .i64 p.h.l.k, .int .i64 p.h.l.ix, .int .i64 p.h.l.v.k, .int .i64 p.h.l.v.i, .string p.h.l.v.t, .int .i64 p.h.r.k, .int .i64 p.h.r.ix, .int .i64 p.h.r.v.k, .int .i64 p.h.r.v.i, .string p.h.r.v.t, .slice Ap np cp] 64)) (((WW4).alloc (.cells #[.int .i64 p.h.op, .int .i64 p.h.cm, .int .i64 p.h.l.k, .int .i64 p.h.l.ix, .int .i64 p.h.l.v.k, .int .i64 p.h.l.v.i, .string p.h.l.v.t, .int .i64 p.h.r.k, .int .i64 p.h.r.ix, .int .i64 p.h.r.v.k, .int .i64 p.h.r.v.i, .string p.h.r.v.t, .slice Ap np cp] 64)).alloc (.cells #[.int .i64 6, .int .i64 0, .int .i64 0, .int .i64 0, .int .i64 0, .int .i64 0, .string ⟨#[]⟩, .int .i64 0, .int .i64 0, .int .i64 0, .int .i64 0, .string ⟨#[]⟩, .slice (some ⟨Vs, 0, none⟩) 1 1] 64)) := (Below.refl _ _).alloc (Nat.le_refl _) _
 replace HB := zH (Below.next HB.out hal)
 replace HL := zH (HL.out.below hal)
 replace HPp := zH (HPp.out.below hal)
 replace HVp := zH (HVp.out.below hal)
 replace HSa := zH (HSa.out.keep (keeps_of hal))
 replace HSb := zH (HSb.out.keep (keeps_of hal))
 replace HVa := zH (HVa.out.below hal)
 replace HVb := zH (HVb.out.below hal)
 replace HPn := zH (HPn.out.below hal)
 clear hal
 go_upto_region 8 with fail
 clear zp
 rw [HXs.out, HXn.out]
 generalize hWW : ((WW4).alloc (.cells #[.int .i64 p.h.op, .int .i64 p.h.cm, .int .i64 p.h.l.k, .int .i64 p.h.l.ix, .int .i64 p.h.l.v.k, .int .i64 p.h.l.v.i, .string p.h.l.v.t, .int .i64 p.h.r.k, .int .i64 p.h.r.ix, .int .i64 p.h.r.v.k, .int .i64 p.h.r.v.i, .string p.h.r.v.t, .slice Ap np cp] 64)).alloc (.cells #[.int .i64 6, .int .i64 0, .int .i64 0, .int .i64 0, .int .i64 0, .int .i64 0, .string ⟨#[]⟩, .int .i64 0, .int .i64 0, .int .i64 0, .int .i64 0, .string ⟨#[]⟩, .slice (some ⟨Vs, 0, none⟩) 1 1] 64) = WWn at *
 clear hWW HXs HXn
 have zn := HVn.out.cell
 go_wp2_with fail
 refine (bregions_any cols (Pd.cons p (.nil (plainN 6))) (some ⟨Vs, 0, none⟩) 1 1 Ac nc cc _ HPn.out.s HL.out.sl (by omega) (⟨ok_zero 6, HWp.out.2.1, HWp.out.2.2, trivial⟩)).mono ?_
 rintro e u6 ⟨xx, fx, Ax, nx, cx, xy, fy, Ay, ny, cy, rfl, hSa, hSb, hbu⟩
 clear zn
 obtain ⟨ef, Hef⟩ : ∃ z, Hid (bdE cols (Pd.cons p (.nil (plainN 6))) = z) := ⟨_, rfl⟩
 rw [Hef.out]
 obtain ⟨rx, Hrx⟩ : ∃ z, Hid ((bdR cols (Pd.cons p (.nil (plainN 6)))).1 = z) := ⟨_, rfl⟩
 obtain ⟨ry, Hry⟩ : ∃ z, Hid ((bdR cols (Pd.cons p (.nil (plainN 6)))).2 = z) := ⟨_, rfl⟩
 rw [Hrx.out] at hSa
 rw [Hry.out] at hSb
 replace HB := zH (Below.next HB.out hbu)
 replace HL := zH (HL.out.below hbu)
 replace HPp := zH (HPp.out.below hbu)
 replace HVp := zH (HVp.out.below hbu)
 replace HSa := zH (HSa.out.keep (keeps_of hbu))
 replace HSb := zH (HSb.out.keep (keeps_of hbu))
 replace HVa := zH (HVa.out.below hbu)
 replace HVb := zH (HVb.out.below hbu)
 replace HPn := zH (HPn.out.below hbu)
 replace HVn := zH (HVn.out.below hbu)
 have HSx := zH hSa
 have HSy := zH hSb
 clear hSa hSb hbu
 have HVx := zH (Blk.new (u6) 71 #[.int .i64 xx, .bool fx, .slice Ax nx cx])
 obtain ⟨Vx, HXx⟩ : ∃ z, Hid (u6.heap.size = z) := ⟨_, rfl⟩
 rw [HXx.out] at HVx
 have hal : Below (u6).heap.size (u6) ((u6).alloc (.cells #[.int .i64 xx, .bool fx, .slice Ax nx cx] 71)) := (Below.refl _ _).alloc (Nat.le_refl _) _
 replace HB := zH (Below.next HB.out hal)
 replace HL := zH (HL.out.below hal)
 replace HPp := zH (HPp.out.below hal)
 replace HVp := zH (HVp.out.below hal)
 replace HSa := zH (HSa.out.keep (keeps_of hal))
 replace HSb := zH (HSb.out.keep (keeps_of hal))
 replace HVa := zH (HVa.out.below hal)
 replace HVb := zH (HVb.out.below hal)
 replace HPn := zH (HPn.out.below hal)
 replace HVn := zH (HVn.out.below hal)
 replace HSx := zH (HSx.out.keep (keeps_of hal))
 replace HSy := zH (HSy.out.keep (keeps_of hal))
 clear hal
 have HVy := zH (Blk.new ((u6).alloc (.cells #[.int .i64 xx, .bool fx, .slice Ax nx cx] 71)) 71 #[.int .i64 xy, .bool fy, .slice Ay ny cy])
 obtain ⟨Vy, HXy⟩ : ∃ z, Hid (Vx + 1 = z) := ⟨_, rfl⟩
 rw [World.size_alloc, HXx.out, HXy.out] at HVy
 have hal : Below ((u6).alloc (.cells #[.int .i64 xx, .bool fx, .slice Ax nx cx] 71)).heap.size ((u6).alloc (.cells #[.int .i64 xx, .bool fx, .slice Ax nx cx] 71)) (((u6).alloc (.cells #[.int .i64 xx, .bool fx, .slice Ax nx cx] 71)).alloc (.cells #[.int .i64 xy, .bool fy, .slice Ay ny cy] 71)) := (Below.refl _ _).alloc (Nat.le_refl _) _
 replace HB := zH (Below.next HB.out hal)
 replace HL := zH (HL.out.below hal)
 replace HPp := zH (HPp.out.below hal)
 replace HVp := zH (HVp.out.below hal)
 replace HSa := zH (HSa.out.keep (keeps_of hal))
 replace HSb := zH (HSb.out.keep (keeps_of hal))
 replace HVa := zH (HVa.out.below hal)
 replace HVb := zH (HVb.out.below hal)
 replace HPn := zH (HPn.out.below hal)
 replace HVn := zH (HVn.out.below hal)
 replace HSx := zH (HSx.out.keep (keeps_of hal))
 replace HSy := zH (HSy.out.keep (keeps_of hal))
 replace HVx := zH (HVx.out.below hal)
 clear hal
 go_upto_region 9 with fail
 rw [HXx.out]
 rw [HXy.out]
 generalize hWW : ((u6).alloc (.cells #[.int .i64 xx, .bool fx, .slice Ax nx cx] 71)).alloc (.cells #[.int .i64 xy, .bool fy, .slice Ay ny cy] 71) = WW7 at *
 clear hWW
 clear HXx
 clear HXy
 have zb := HVb.out.cell
 go_wp2_with fail
 refine (gcomplement_any rb xb fb Ab nb cb _ HSb.out HWF.out.2).mono ?_
 rintro e u8 ⟨xu, fu, Au, nu, cu, rfl, hSa, hbu⟩
 clear zb
 obtain ⟨eg, Heg⟩ : ∃ z, Hid (cpErr rb = z) := ⟨_, rfl⟩
 rw [Heg.out]
 obtain ⟨ru, Hru⟩ : ∃ z, Hid (cpRes rb = z) := ⟨_, rfl⟩
 rw [Hru.out] at hSa
 replace HB := zH (Below.next HB.out hbu)
 replace HL := zH (HL.out.below hbu)
 replace HPp := zH (HPp.out.below hbu)
 replace HVp := zH (HVp.out.below hbu)
 replace HSa := zH (HSa.out.keep (keeps_of hbu))
 replace HSb := zH (HSb.out.keep (keeps_of hbu))
 replace HVa := zH (HVa.out.below hbu)
 replace HVb := zH (HVb.out.below hbu)
 replace HPn := zH (HPn.out.below hbu)
 replace HVn := zH (HVn.out.below hbu)
 replace HSx := zH (HSx.out.keep (keeps_of hbu))
 replace HSy := zH (HSy.out.keep (keeps_of hbu))
 replace HVx := zH (HVx.out.below hbu)
 replace HVy := zH (HVy.out.below hbu)
 have HSu := zH hSa
 clear hSa hbu
 have HVu := zH (Blk.new (u8) 71 #[.int .i64 xu, .bool fu, .slice Au nu cu])
 obtain ⟨Vu, HXu⟩ : ∃ z, Hid (u8.heap.size = z) := ⟨_, rfl⟩
 rw [HXu.out] at HVu
 have hal : Below (u8).heap.size (u8) ((u8).alloc (.cells #[.int .i64 xu, .bool fu, .slice Au nu cu] 71)) := (Below.refl _ _).alloc (Nat.le_refl _) _
 replace HB := zH (Below.next HB.out hal)
 replace HL := zH (HL.out.below hal)
 replace HPp := zH (HPp.out.below hal)
 replace HVp := zH (HVp.out.below hal)
 replace HSa := zH (HSa.out.keep (keeps_of hal))
 replace HSb := zH (HSb.out.keep (keeps_of hal))
 replace HVa := zH (HVa.out.below hal)
 replace HVb := zH (HVb.out.below hal)
 replace HPn := zH (HPn.out.below hal)
 replace HVn := zH (HVn.out.below hal)
 replace HSx := zH (HSx.out.keep (keeps_of hal))
 replace HSy := zH (HSy.out.keep (keeps_of hal))
 replace HVx := zH (HVx.out.below hal)
 replace HVy := zH (HVy.out.below hal)
 replace HSu := zH (HSu.out.keep (keeps_of hal))
 clear hal
 go_upto_region 10 with fail
 rw [HXu.out]
 generalize hWW : (u8).alloc (.cells #[.int .i64 xu, .bool fu, .slice Au nu cu] 71) = WW9 at *
 clear hWW
 clear HXu
 have za := HVa.out.cell
 go_wp2_with fail
 refine (gcomplement_any ra xa fa Aa na ca _ HSa.out HWF.out.1).mono ?_
 rintro e u10 ⟨xv, fv, Av, nv, cv, rfl, hSa, hbu⟩
 clear za
 obtain ⟨eh, Heh⟩ : ∃ z, Hid (cpErr ra = z) := ⟨_, rfl⟩
 rw [Heh.out]
 obtain ⟨rv, Hrv⟩ : ∃ z, Hid (cpRes ra = z) := ⟨_, rfl⟩
 rw [Hrv.out] at hSa
 replace HB := zH (Below.next HB.out hbu)
 replace HL := zH (HL.out.below hbu)
 replace HPp := zH (HPp.out.below hbu)
 replace HVp := zH (HVp.out.below hbu)
 replace HSa := zH (HSa.out.keep (keeps_of hbu))
 replace HSb := zH (HSb.out.keep (keeps_of hbu))
 replace HVa := zH (HVa.out.below hbu)
 replace HVb := zH (HVb.out.below hbu)
 replace HPn := zH (HPn.out.below hbu)
 replace HVn := zH (HVn.out.below hbu)
 replace HSx := zH (HSx.out.keep (keeps_of hbu))
 replace HSy := zH (HSy.out.keep (keeps_of hbu))
 replace HVx := zH (HVx.out.below hbu)
 replace HVy := zH (HVy.out.below hbu)
 replace HSu := zH (HSu.out.keep (keeps_of hbu))
 replace HVu := zH (HVu.out.below hbu)
 have HSv := zH hSa
 clear hSa hbu
 have HVv := zH (Blk.new (u10) 71 #[.int .i64 xv, .bool fv, .slice Av nv cv])
 obtain ⟨Vv, HXv⟩ : ∃ z, Hid (u10.heap.size = z) := ⟨_, rfl⟩
 rw [HXv.out] at HVv
 have hal : Below (u10).heap.size (u10) ((u10).alloc (.cells #[.int .i64 xv, .bool fv, .slice Av nv cv] 71)) := (Below.refl _ _).alloc (Nat.le_refl _) _
 replace HB := zH (Below.next HB.out hal)
 replace HL := zH (HL.out.below hal)
 replace HPp := zH (HPp.out.below hal)
 replace HVp := zH (HVp.out.below hal)
 replace HSa := zH (HSa.out.keep (keeps_of hal))
 replace HSb := zH (HSb.out.keep (keeps_of hal))
 replace HVa := zH (HVa.out.below hal)
 replace HVb := zH (HVb.out.below hal)
 replace HPn := zH (HPn.out.below hal)
 replace HVn := zH (HVn.out.below hal)
 replace HSx := zH (HSx.out.keep (keeps_of hal))
 replace HSy := zH (HSy.out.keep (keeps_of hal))
 replace HVx := zH (HVx.out.below hal)
 replace HVy := zH (HVy.out.below hal)
 replace HSu := zH (HSu.out.keep (keeps_of hal))
 replace HVu := zH (HVu.out.below hal)
 replace HSv := zH (HSv.out.keep (keeps_of hal))
 clear hal
 go_upto_region 11 with fail
 rw [HXv.out]
 generalize hWW : (u10).alloc (.cells #[.int .i64 xv, .bool fv, .slice Av nv cv] 71) = WW11 at *
 clear hWW
 clear HXv
 rw [Heg.out, Heh.out, Hef.out] at HNg
 rw [Heh.out] at HK2
 rw [Heg.out] at HK3
 by_cases h0 : ef = 0
 rotate_left
 · obtain ⟨rfl, hx⟩ := HNg.out.1 h0
   have HQ := zH hx
   clear h0 hx HNg
   rcases HK3.out with rfl | rfl
   rotate_left
   · skip
     go_wp2_with fail
     refine (begun6_any _).mono ?_
     rintro e u12 ⟨rfl, hbu⟩
     replace HB := zH (Below.next HB.out hbu)
     replace HL := zH (HL.out.below hbu)
     replace HPp := zH (HPp.out.below hbu)
     replace HVp := zH (HVp.out.below hbu)
     replace HSa := zH (HSa.out.keep (keeps_of hbu))
     replace HSb := zH (HSb.out.keep (keeps_of hbu))
     replace HVa := zH (HVa.out.below hbu)
     replace HVb := zH (HVb.out.below hbu)
     replace HPn := zH (HPn.out.below hbu)
     replace HVn := zH (HVn.out.below hbu)
     replace HSx := zH (HSx.out.keep (keeps_of hbu))
     replace HSy := zH (HSy.out.keep (keeps_of hbu))
     replace HVx := zH (HVx.out.below hbu)
     replace HVy := zH (HVy.out.below hbu)
     replace HSu := zH (HSu.out.keep (keeps_of hbu))
     replace HVu := zH (HVu.out.below hbu)
     replace HSv := zH (HSv.out.keep (keeps_of hbu))
     replace HVv := zH (HVv.out.below hbu)
     clear hbu
     go_wp2
     go_ret
     exact ⟨rfl, HB.out⟩
   rcases HK2.out with rfl | rfl
   rotate_left
   · skip
     go_wp2_with fail
     refine (begun6_any _).mono ?_
     rintro e u13 ⟨rfl, hbu⟩
     replace HB := zH (Below.next HB.out hbu)
     replace HL := zH (HL.out.below hbu)
     replace HPp := zH (HPp.out.below hbu)
     replace HVp := zH (HVp.out.below hbu)
     replace HSa := zH (HSa.out.keep (keeps_of hbu))
     replace HSb := zH (HSb.out.keep (keeps_of hbu))
     replace HVa := zH (HVa.out.below hbu)
     replace HVb := zH (HVb.out.below hbu)
     replace HPn := zH (HPn.out.below hbu)
     replace HVn := zH (HVn.out.below hbu)
     replace HSx := zH (HSx.out.keep (keeps_of hbu))
     replace HSy := zH (HSy.out.keep (keeps_of hbu))
     replace HVx := zH (HVx.out.below hbu)
     replace HVy := zH (HVy.out.below hbu)
     replace HSu := zH (HSu.out.keep (keeps_of hbu))
     replace HVu := zH (HVu.out.below hbu)
     replace HSv := zH (HSv.out.keep (keeps_of hbu))
     replace HVv := zH (HVv.out.below hbu)
     clear hbu
     go_wp2
     go_ret
     exact ⟨rfl, HB.out⟩
   have HQ2 : Hid (checkE cols [] (Pd.cons p (.nil (plainN 6))) = 2) := zH (by have := HQ.out; omega)
   clear HQ HK2 HK3
   go_wp2_with fail
   refine (begun6_any _).mono ?_
   rintro e u14 ⟨rfl, hbu⟩
   replace HB := zH (Below.next HB.out hbu)
   replace HL := zH (HL.out.below hbu)
   replace HPp := zH (HPp.out.below hbu)
   replace HVp := zH (HVp.out.below hbu)
   replace HSa := zH (HSa.out.keep (keeps_of hbu))
   replace HSb := zH (HSb.out.keep (keeps_of hbu))
   replace HVa := zH (HVa.out.below hbu)
   replace HVb := zH (HVb.out.below hbu)
   replace HPn := zH (HPn.out.below hbu)
   replace HVn := zH (HVn.out.below hbu)
   replace HSx := zH (HSx.out.keep (keeps_of hbu))
   replace HSy := zH (HSy.out.keep (keeps_of hbu))
   replace HVx := zH (HVx.out.below hbu)
   replace HVy := zH (HVy.out.below hbu)
   replace HSu := zH (HSu.out.keep (keeps_of hbu))
   replace HVu := zH (HVu.out.below hbu)
   replace HSv := zH (HSv.out.keep (keeps_of hbu))
   replace HVv := zH (HVv.out.below hbu)
   clear hbu
   have zn := HVn.out.cell
   go_wp2_with fail
   refine (rpcheck_any cols [] (Pd.cons p (.nil (plainN 6))) (some ⟨Vs, 0, none⟩) 1 1 Ac nc cc none 0 0 _ HPn.out.s HL.out.sl Sl.nil (by omega) (by omega)).mono ?_
   rintro e u15 ⟨rfl, hbu⟩
   rw [HQ2.out]
   clear zn
   replace HB := zH (Below.next HB.out hbu)
   replace HL := zH (HL.out.below hbu)
   replace HPp := zH (HPp.out.below hbu)
   replace HVp := zH (HVp.out.below hbu)
   replace HSa := zH (HSa.out.keep (keeps_of hbu))
   replace HSb := zH (HSb.out.keep (keeps_of hbu))
   replace HVa := zH (HVa.out.below hbu)
   replace HVb := zH (HVb.out.below hbu)
   replace HPn := zH (HPn.out.below hbu)
   replace HVn := zH (HVn.out.below hbu)
   replace HSx := zH (HSx.out.keep (keeps_of hbu))
   replace HSy := zH (HSy.out.keep (keeps_of hbu))
   replace HVx := zH (HVx.out.below hbu)
   replace HVy := zH (HVy.out.below hbu)
   replace HSu := zH (HSu.out.keep (keeps_of hbu))
   replace HVu := zH (HVu.out.below hbu)
   replace HSv := zH (HSv.out.keep (keeps_of hbu))
   replace HVv := zH (HVv.out.below hbu)
   clear hbu
   go_wp2
   go_ret
   exact ⟨rfl, HB.out⟩
 subst h0
 obtain ⟨rfl, rfl, h3, h4, h5⟩ := HNg.out.2 rfl
 obtain rfl : rx = ru := by rw [← Hrx.out, h3, ← Hru.out]
 obtain rfl : ry = rv := by rw [← Hry.out, h3, ← Hrv.out]
 rw [Hru.out] at h4
 rw [Hrv.out] at h5
 have HE4 := zH h4
 have HE5 := zH h5
 clear h3 h4 h5 HNg HK2 HK3
 go_wp2_with fail
 refine (begun6_any _).mono ?_
 rintro e u16 ⟨rfl, hbu⟩
 replace HB := zH (Below.next HB.out hbu)
 replace HL := zH (HL.out.below hbu)
 replace HPp := zH (HPp.out.below hbu)
 replace HVp := zH (HVp.out.below hbu)
 replace HSa := zH (HSa.out.keep (keeps_of hbu))
 replace HSb := zH (HSb.out.keep (keeps_of hbu))
 replace HVa := zH (HVa.out.below hbu)
 replace HVb := zH (HVb.out.below hbu)
 replace HPn := zH (HPn.out.below hbu)
 replace HVn := zH (HVn.out.below hbu)
 replace HSx := zH (HSx.out.keep (keeps_of hbu))
 replace HSy := zH (HSy.out.keep (keeps_of hbu))
 replace HVx := zH (HVx.out.below hbu)
 replace HVy := zH (HVy.out.below hbu)
 replace HSu := zH (HSu.out.keep (keeps_of hbu))
 replace HVu := zH (HVu.out.below hbu)
 replace HSv := zH (HSv.out.keep (keeps_of hbu))
 replace HVv := zH (HVv.out.below hbu)
 clear hbu
 have zx := HVx.out.cell
 have zu := HVu.out.cell
 go_wp2_with fail
 refine (gequal_any rx xx fx Ax nx cx rx xu fu Au nu cu _ HSx.out HSu.out).mono ?_
 rintro e u17 ⟨rfl, hbu⟩
 rw [HE4.out]
 clear zx zu
 replace HB := zH (Below.next HB.out hbu)
 replace HL := zH (HL.out.below hbu)
 replace HPp := zH (HPp.out.below hbu)
 replace HVp := zH (HVp.out.below hbu)
 replace HSa := zH (HSa.out.keep (keeps_of hbu))
 replace HSb := zH (HSb.out.keep (keeps_of hbu))
 replace HVa := zH (HVa.out.below hbu)
 replace HVb := zH (HVb.out.below hbu)
 replace HPn := zH (HPn.out.below hbu)
 replace HVn := zH (HVn.out.below hbu)
 replace HSx := zH (HSx.out.keep (keeps_of hbu))
 replace HSy := zH (HSy.out.keep (keeps_of hbu))
 replace HVx := zH (HVx.out.below hbu)
 replace HVy := zH (HVy.out.below hbu)
 replace HSu := zH (HSu.out.keep (keeps_of hbu))
 replace HVu := zH (HVu.out.below hbu)
 replace HSv := zH (HSv.out.keep (keeps_of hbu))
 replace HVv := zH (HVv.out.below hbu)
 clear hbu
 have zy := HVy.out.cell
 have zv := HVv.out.cell
 go_wp2_with fail
 refine (gequal_any ry xy fy Ay ny cy ry xv fv Av nv cv _ HSy.out HSv.out).mono ?_
 rintro e u18 ⟨rfl, hbu⟩
 rw [HE5.out]
 clear zy zv
 replace HB := zH (Below.next HB.out hbu)
 replace HL := zH (HL.out.below hbu)
 replace HPp := zH (HPp.out.below hbu)
 replace HVp := zH (HVp.out.below hbu)
 replace HSa := zH (HSa.out.keep (keeps_of hbu))
 replace HSb := zH (HSb.out.keep (keeps_of hbu))
 replace HVa := zH (HVa.out.below hbu)
 replace HVb := zH (HVb.out.below hbu)
 replace HPn := zH (HPn.out.below hbu)
 replace HVn := zH (HVn.out.below hbu)
 replace HSx := zH (HSx.out.keep (keeps_of hbu))
 replace HSy := zH (HSy.out.keep (keeps_of hbu))
 replace HVx := zH (HVx.out.below hbu)
 replace HVy := zH (HVy.out.below hbu)
 replace HSu := zH (HSu.out.keep (keeps_of hbu))
 replace HVu := zH (HVu.out.below hbu)
 replace HSv := zH (HSv.out.keep (keeps_of hbu))
 replace HVv := zH (HVv.out.below hbu)
 clear hbu
 go_wp2
 go_ret
 exact ⟨rfl, HB.out⟩
end Go.Proofs.YtnnmlhmffnfjfaaGreat
