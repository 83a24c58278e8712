/-
 The walk of the law BoundsJoins.
-/
import Derived.Test.YtnnmlhmffnfjfaaGreatB30
namespace Go.Proofs.YtnnmlhmffnfjfaaGreat
open Go.RowKit
set_option maxRecDepth 100000
open Rg Pd
set_option linter.unusedVariables false
set_option maxRecDepth 100000 in
set_option maxHeartbeats 16000000 in
theorem joins6_walk (A : Option Addr) (n c : Nat) (zs : List Int) (w : World) (hs : Sl 1 u8c w A n zs) (hz : ∀ z ∈ zs, 0 ≤ z ∧ z ≤ 255) (hnil : A = none → n = 0 ∧ c = 0) (hsp : ∀ ad, A = some ad → ad.spot = none) (hnc : n ≤ c) (hcm : c ≤ 9223372036854775807) :
 Calls Tryz.prog 11 #[.slice A n c] w fun e w' => e = .returned (.bool true) ∧ Below w.heap.size w w' := by
 have HS := zH hs
 have HZ := zH hz
 have HN := zH hnil
 have HP := zH hsp
 clear hs hz hnil hsp
 go_enter Tryz.func11, Tryz.ntmps11
 go_wp2_with fail
 refine (new_any A n c zs 160 _ HS.out HZ.out HN.out HP.out hnc hcm (by omega)).mono ?_
 rintro e w0 ⟨g, hg, rfl, hc, hB0⟩
 have HC := zH hc
 have HB := zH hB0
 have HG := zH hg
 clear HS HZ HN HP hc hB0 hg hnc hcm
 go_wp2_with fail
 refine (kinds6_any 0 g 4 (by omega) _ HC.out).mono ?_
 rintro e w1 ⟨Ac, nc, cc, cols, rfl, hncc, hL, hcb, hn4, hc1, hb1⟩
 replace HB := zH (hb1.below HB.out HB.out.size (fun k hk => by subst hk; exact HG.out))
 replace HC := zH hc1
 have HL := zH hL
 have HCB := zH (And.intro hcb hncc)
 clear hc1 hb1 hL hcb hncc
 go_wp2_with fail
 refine (predicate_any cols 1 (by omega) 0 g Ac nc cc 1 _ rfl HC.out HL.out (by omega) HCB.out.1).mono ?_
 rintro e u1 ⟨p, Ap, np, cp, rfl, hP, hv, hwf, hcu, hbu, hku⟩
 have hP := hP.mono (L' := fun b => g < b) (fun b hl _ => by have := HC.out.lt; omega)
 replace HB := zH (hbu.below HB.out HB.out.size (fun k hk => by subst hk; exact HG.out))
 replace HL := zH (HL.out.case hbu)
 replace HC := zH hcu
 have HPp := zH hP
 have HWp := zH (And.intro hv hwf)
 clear hcu hbu hP hv hwf hku
 go_wp2_with fail
 refine (predicate_any cols 1 (by omega) 0 g Ac nc cc 1 _ rfl HC.out HL.out (by omega) HCB.out.1).mono ?_
 rintro e u2 ⟨q, Aq, nq, cq, rfl, hP, hv, hwf, hcu, hbu, hku⟩
 have hP := hP.mono (L' := fun b => g < b) (fun b hl _ => by have := HC.out.lt; omega)
 replace HB := zH (hbu.below HB.out HB.out.size (fun k hk => by subst hk; exact HG.out))
 replace HL := zH (HL.out.case hbu)
 replace HPp := zH (HPp.out.but hbu (fun b hl _ e => by have hl : g < b := hl; omega))
 replace HC := zH hcu
 have HPq := zH hP
 have HWq := zH (And.intro hv hwf)
 clear hcu hbu hP hv hwf hku
 unfold pdV
 have HVp := zH (Blk.new (u2) 64 #[.int .i64 p.h.op, .int .i64 p.h.cm, .int .i64 p.h.l.k, .int .i64 p.h.l.ix, .int .i64 p.h.l.v.k, .int .i64 p.h.l.v.i, .string p.h.l.v.t, .int .i64 p.h.r.k, .int .i64 p.h.r.ix, .int .i64 p.h.r.v.k, .int .i64 p.h.r.v.i, .string p.h.r.v.t, .slice Ap np cp])
 obtain ⟨Vp, HXp⟩ : ∃ z, Hid (u2.heap.size = z) := ⟨_, rfl⟩
 have HGp : Hid (g < Vp) := zH (by have := HXp.out; have := HC.out.lt; omega)
 rw [HXp.out] at HVp
 have hal : Below (u2).heap.size (u2) ((u2).alloc (.cells #[.int .i64 p.h.op, .int .i64 p.h.cm, .int .i64 p.h.l.k, .int .i64 p.h.l.ix, .int .i64 p.h.l.v.k, .int .i64 p.h.l.v.i, .string p.h.l.v.t, .int .i64 p.h.r.k, .int .i64 p.h.r.ix, .int .i64 p.h.r.v.k, .int .i64 p.h.r.v.i, .string p.h.r.v.t, .slice Ap np cp] 64)) := (Below.refl _ _).alloc (Nat.le_refl _) _
 replace HB := zH (Below.next HB.out hal)
 replace HL := zH (HL.out.below hal)
 replace HPp := zH (HPp.out.below hal)
 replace HPq := zH (HPq.out.below hal)
 replace HC := zH (HC.out.below hal)
 clear hal
 have HVq := zH (Blk.new ((u2).alloc (.cells #[.int .i64 p.h.op, .int .i64 p.h.cm, .int .i64 p.h.l.k, .int .i64 p.h.l.ix, .int .i64 p.h.l.v.k, .int .i64 p.h.l.v.i, .string p.h.l.v.t, .int .i64 p.h.r.k, .int .i64 p.h.r.ix, .int .i64 p.h.r.v.k, .int .i64 p.h.r.v.i, .string p.h.r.v.t, .slice Ap np cp] 64)) 64 #[.int .i64 q.h.op, .int .i64 q.h.cm, .int .i64 q.h.l.k, .int .i64 q.h.l.ix, .int .i64 q.h.l.v.k, .int .i64 q.h.l.v.i, .string q.h.l.v.t, .int .i64 q.h.r.k, .int .i64 q.h.r.ix, .int .i64 q.h.r.v.k, .int .i64 q.h.r.v.i, .string q.h.r.v.t, .slice Aq nq cq])
 obtain ⟨Vq, HXq⟩ : ∃ z, Hid (Vp + 1 = z) := ⟨_, rfl⟩
 rw [World.size_alloc, HXp.out, HXq.out] at HVq
 have hal : Below ((u2).alloc (.cells #[.int .i64 p.h.op, .int .i64 p.h.cm, .int .i64 p.h.l.k, .int .i64 p.h.l.ix, .int .i64 p.h.l.v.k, .int .i64 p.h.l.v.i, .string p.h.l.v.t, .int .i64 p.h.r.k, .int .i64 p.h.r.ix, .int .i64 p.h.r.v.k, .int .i64 p.h.r.v.i, .string p.h.r.v.t, .slice Ap np cp] 64)).heap.size ((u2).alloc (.cells #[.int .i64 p.h.op, .int .i64 p.h.cm, .int .i64 p.h.l.k, .int .i64 p.h.l.ix, .int .i64 p.h.l.v.k, .int .i64 p.h.l.v.i, .string p.h.l.v.t, .int .i64 p.h.r.k, .int .i64 p.h.r.ix, .int .i64 p.h.r.v.k, .int .i64 p.h.r.v.i, .string p.h.r.v.t, .slice Ap np cp] 64)) (((u2).alloc (.cells #[.int .i64 p.h.op, .int .i64 p.h.cm, .int .i64 p.h.l.k, .int .i64 p.h.l.ix, .int .i64 p.h.l.v.k, .int .i64 p.h.l.v.i, .string p.h.l.v.t, .int .i64 p.h.r.k, .int .i64 p.h.r.ix, .int .i64 p.h.r.v.k, .int .i64 p.h.r.v.i, .string p.h.r.v.t, .slice Ap np cp] 64)).alloc (.cells #[.int .i64 q.h.op, .int .i64 q.h.cm, .int .i64 q.h.l.k, .int .i64 q.h.l.ix, .int .i64 q.h.l.v.k, .int .i64 q.h.l.v.i, .string q.h.l.v.t, .int .i64 q.h.r.k, .int .i64 q.h.r.ix, .int .i64 q.h.r.v.k, .int .i64 q.h.r.v.i, .string q.h.r.v.t, .slice Aq nq cq] 64)) := (Below.refl _ _).alloc (Nat.le_refl _) _
 replace HB := zH (Below.next HB.out hal)
 replace HL := zH (HL.out.below hal)
 replace HPp := zH (HPp.out.below hal)
 replace HPq := zH (HPq.out.below hal)
 replace HVp := zH (HVp.out.below hal)
 replace HC := zH (HC.out.below hal)
 clear hal
 go_upto_region 4 with fail
 rw [HXp.out]
 rw [HXq.out]
 generalize hWW : ((u2).alloc (.cells #[.int .i64 p.h.op, .int .i64 p.h.cm, .int .i64 p.h.l.k, .int .i64 p.h.l.ix, .int .i64 p.h.l.v.k, .int .i64 p.h.l.v.i, .string p.h.l.v.t, .int .i64 p.h.r.k, .int .i64 p.h.r.ix, .int .i64 p.h.r.v.k, .int .i64 p.h.r.v.i, .string p.h.r.v.t, .slice Ap np cp] 64)).alloc (.cells #[.int .i64 q.h.op, .int .i64 q.h.cm, .int .i64 q.h.l.k, .int .i64 q.h.l.ix, .int .i64 q.h.l.v.k, .int .i64 q.h.l.v.i, .string q.h.l.v.t, .int .i64 q.h.r.k, .int .i64 q.h.r.ix, .int .i64 q.h.r.v.k, .int .i64 q.h.r.v.i, .string q.h.r.v.t, .slice Aq nq cq] 64) = WW3 at *
 clear hWW
 clear HXp
 clear HXq
 clear HC
 have zp := HVp.out.cell
 go_wp2_with fail
 refine (bregions_any cols (p) Ap np cp Ac nc cc _ HPp.out.s HL.out.sl (by omega) (HWp.out.2)).mono ?_
 rintro e u4 ⟨xa, fa, Aa, na, ca, xb, fb, Ab, nb, cb, rfl, hSa, hSb, hbu⟩
 clear zp
 obtain ⟨er, Her⟩ : ∃ z, Hid (bdE cols (p) = z) := ⟨_, rfl⟩
 rw [Her.out]
 obtain ⟨ra, Hra⟩ : ∃ z, Hid ((bdR cols (p)).1 = z) := ⟨_, rfl⟩
 obtain ⟨rb, Hrb⟩ : ∃ z, Hid ((bdR cols (p)).2 = z) := ⟨_, rfl⟩
 rw [Hra.out] at hSa
 rw [Hrb.out] at hSb
 replace HB := zH (Below.next HB.out hbu)
 replace HL := zH (HL.out.below hbu)
 replace HPp := zH (HPp.out.below hbu)
 replace HPq := zH (HPq.out.below hbu)
 replace HVp := zH (HVp.out.below hbu)
 replace HVq := zH (HVq.out.below hbu)
 have HSa := zH hSa
 have HSb := zH hSb
 clear hSa hSb hbu
 have HVa := zH (Blk.new (u4) 71 #[.int .i64 xa, .bool fa, .slice Aa na ca])
 obtain ⟨Va, HXa⟩ : ∃ z, Hid (u4.heap.size = z) := ⟨_, rfl⟩
 rw [HXa.out] at HVa
 have hal : Below (u4).heap.size (u4) ((u4).alloc (.cells #[.int .i64 xa, .bool fa, .slice Aa na ca] 71)) := (Below.refl _ _).alloc (Nat.le_refl _) _
 replace HB := zH (Below.next HB.out hal)
 replace HL := zH (HL.out.below hal)
 replace HPp := zH (HPp.out.below hal)
 replace HPq := zH (HPq.out.below hal)
 replace HVp := zH (HVp.out.below hal)
 replace HVq := zH (HVq.out.below hal)
 replace HSa := zH (HSa.out.keep (keeps_of hal))
 replace HSb := zH (HSb.out.keep (keeps_of hal))
 clear hal
 have HVb := zH (Blk.new ((u4).alloc (.cells #[.int .i64 xa, .bool fa, .slice Aa na ca] 71)) 71 #[.int .i64 xb, .bool fb, .slice Ab nb cb])
 obtain ⟨Vb, HXb⟩ : ∃ z, Hid (Va + 1 = z) := ⟨_, rfl⟩
 rw [World.size_alloc, HXa.out, HXb.out] at HVb
 have hal : Below ((u4).alloc (.cells #[.int .i64 xa, .bool fa, .slice Aa na ca] 71)).heap.size ((u4).alloc (.cells #[.int .i64 xa, .bool fa, .slice Aa na ca] 71)) (((u4).alloc (.cells #[.int .i64 xa, .bool fa, .slice Aa na ca] 71)).alloc (.cells #[.int .i64 xb, .bool fb, .slice Ab nb cb] 71)) := (Below.refl _ _).alloc (Nat.le_refl _) _
 replace HB := zH (Below.next HB.out hal)
 replace HL := zH (HL.out.below hal)
 replace HPp := zH (HPp.out.below hal)
 replace HPq := zH (HPq.out.below hal)
 replace HVp := zH (HVp.out.below hal)
 replace HVq := zH (HVq.out.below hal)
 replace HSa := zH (HSa.out.keep (keeps_of hal))
 replace HSb := zH (HSb.out.keep (keeps_of hal))
 replace HVa := zH (HVa.out.below hal)
 clear hal
 go_upto_region 5 with fail
 rw [HXa.out]
 rw [HXb.out]
 generalize hWW : ((u4).alloc (.cells #[.int .i64 xa, .bool fa, .slice Aa na ca] 71)).alloc (.cells #[.int .i64 xb, .bool fb, .slice Ab nb cb] 71) = WW5 at *
 clear hWW
 clear HXa
 clear HXb
 have zq := HVq.out.cell
 go_wp2_with fail
 refine (bregions_any cols (q) Aq nq cq Ac nc cc _ HPq.out.s HL.out.sl (by omega) (HWq.out.2)).mono ?_
 rintro e u6 ⟨xx, fx, Ax, nx, cx, xy, fy, Ay, ny, cy, rfl, hSa, hSb, hbu⟩
 clear zq
 obtain ⟨ef, Hef⟩ : ∃ z, Hid (bdE cols (q) = z) := ⟨_, rfl⟩
 rw [Hef.out]
 obtain ⟨rx, Hrx⟩ : ∃ z, Hid ((bdR cols (q)).1 = z) := ⟨_, rfl⟩
 obtain ⟨ry, Hry⟩ : ∃ z, Hid ((bdR cols (q)).2 = z) := ⟨_, rfl⟩
 rw [Hrx.out] at hSa
 rw [Hry.out] at hSb
 replace HB := zH (Below.next HB.out hbu)
 replace HL := zH (HL.out.below hbu)
 replace HPp := zH (HPp.out.below hbu)
 replace HPq := zH (HPq.out.below hbu)
 replace HVp := zH (HVp.out.below hbu)
 replace HVq := zH (HVq.out.below hbu)
 replace HSa := zH (HSa.out.keep (keeps_of hbu))
 replace HSb := zH (HSb.out.keep (keeps_of hbu))
 replace HVa := zH (HVa.out.below hbu)
 replace HVb := zH (HVb.out.below hbu)
 have HSx := zH hSa
 have HSy := zH hSb
 clear hSa hSb hbu
 have HVx := zH (Blk.new (u6) 71 #[.int .i64 xx, .bool fx, .slice Ax nx cx])
 obtain ⟨Vx, HXx⟩ : ∃ z, Hid (u6.heap.size = z) := ⟨_, rfl⟩
 rw [HXx.out] at HVx
 have hal : Below (u6).heap.size (u6) ((u6).alloc (.cells #[.int .i64 xx, .bool fx, .slice Ax nx cx] 71)) := (Below.refl _ _).alloc (Nat.le_refl _) _
 replace HB := zH (Below.next HB.out hal)
 replace HL := zH (HL.out.below hal)
 replace HPp := zH (HPp.out.below hal)
 replace HPq := zH (HPq.out.below hal)
 replace HVp := zH (HVp.out.below hal)
 replace HVq := zH (HVq.out.below hal)
 replace HSa := zH (HSa.out.keep (keeps_of hal))
 replace HSb := zH (HSb.out.keep (keeps_of hal))
 replace HVa := zH (HVa.out.below hal)
 replace HVb := zH (HVb.out.below hal)
 replace HSx := zH (HSx.out.keep (keeps_of hal))
 replace HSy := zH (HSy.out.keep (keeps_of hal))
 clear hal
 have HVy := zH (Blk.new ((u6).alloc (.cells #[.int .i64 xx, .bool fx, .slice Ax nx cx] 71)) 71 #[.int .i64 xy, .bool fy, .slice Ay ny cy])
 obtain ⟨Vy, HXy⟩ : ∃ z, Hid (Vx + 1 = z) := ⟨_, rfl⟩
 rw [World.size_alloc, HXx.out, HXy.out] at HVy
 have hal : Below ((u6).alloc (.cells #[.int .i64 xx, .bool fx, .slice Ax nx cx] 71)).heap.size ((u6).alloc (.cells #[.int .i64 xx, .bool fx, .slice Ax nx cx] 71)) (((u6).alloc (.cells #[.int .i64 xx, .bool fx, .slice Ax nx cx] 71)).alloc (.cells #[.int .i64 xy, .bool fy, .slice Ay ny cy] 71)) := (Below.refl _ _).alloc (Nat.le_refl _) _
 replace HB := zH (Below.next HB.out hal)
 replace HL := zH (HL.out.below hal)
 replace HPp := zH (HPp.out.below hal)
 replace HPq := zH (HPq.out.below hal)
 replace HVp := zH (HVp.out.below hal)
 replace HVq := zH (HVq.out.below hal)
 replace HSa := zH (HSa.out.keep (keeps_of hal))
 replace HSb := zH (HSb.out.keep (keeps_of hal))
 replace HVa := zH (HVa.out.below hal)
 replace HVb := zH (HVb.out.below hal)
 replace HSx := zH (HSx.out.keep (keeps_of hal))
 replace HSy := zH (HSy.out.keep (keeps_of hal))
 replace HVx := zH (HVx.out.below hal)
 clear hal
 go_upto_region 6 with fail
 rw [HXx.out]
 rw [HXy.out]
 generalize hWW : ((u6).alloc (.cells #[.int .i64 xx, .bool fx, .slice Ax nx cx] 71)).alloc (.cells #[.int .i64 xy, .bool fy, .slice Ay ny cy] 71) = WW7 at *
 clear hWW
 clear HXx
 clear HXy
 have HPj : Hid (PrdL (fun b => g < b) (WW7.alloc (.cells #[.int .i64 p.h.op, .int .i64 p.h.cm, .int .i64 p.h.l.k, .int .i64 p.h.l.ix, .int .i64 p.h.l.v.k, .int .i64 p.h.l.v.i, .string p.h.l.v.t, .int .i64 p.h.r.k, .int .i64 p.h.r.ix, .int .i64 p.h.r.v.k, .int .i64 p.h.r.v.i, .string p.h.r.v.t, .slice Ap np cp, .int .i64 q.h.op, .int .i64 q.h.cm, .int .i64 q.h.l.k, .int .i64 q.h.l.ix, .int .i64 q.h.l.v.k, .int .i64 q.h.l.v.i, .string q.h.l.v.t, .int .i64 q.h.r.k, .int .i64 q.h.r.ix, .int .i64 q.h.r.v.k, .int .i64 q.h.r.v.i, .string q.h.r.v.t, .slice Aq nq cq] 64)) (some ⟨WW7.heap.size, 0, none⟩) 2 2 (Pd.cons p (Pd.cons q (.nil (plainN 4))))) := zH (pdl_blk (es := [⟨p, Ap, np, cp⟩, ⟨q, Aq, nq, cq⟩]) (plainN 4) (Blk.new _ _ _) rfl rfl (by have := HGp.out; have := HVp.out.lt; omega) (fun e he => by
  rcases List.mem_cons.1 he with rfl | he
  · exact HPp.out.below ((Below.refl _ _).alloc (Nat.le_refl _) _)
  · rw [List.mem_singleton] at he
    subst he
    exact HPq.out.below ((Below.refl _ _).alloc (Nat.le_refl _) _)))
 have zp := HVp.out.cell
 have zq := HVq.out.cell
 have hal : Below (WW7).heap.size (WW7) ((WW7).alloc (.cells #[.int .i64 p.h.op, .int .i64 p.h.cm, .int .i64 p.h.l.k, .int .i64 p.h.l.ix, .int .i64 p.h.l.v.k, .int .i64 p.h.l.v.i, .string p.h.l.v.t, .int .i64 p.h.r.k, .int .i64 p.h.r.ix, .int .i64 p.h.r.v.k, .int .i64 p.h.r.v.i, .string p.h.r.v.t, .slice Ap np cp, .int .i64 q.h.op, .int .i64 q.h.cm, .int .i64 q.h.l.k, .int .i64 q.h.l.ix, .int .i64 q.h.l.v.k, .int .i64 q.h.l.v.i, .string q.h.l.v.t, .int .i64 q.h.r.k, .int .i64 q.h.r.ix, .int .i64 q.h.r.v.k, .int .i64 q.h.r.v.i, .string q.h.r.v.t, .slice Aq nq cq] 64)) := (Below.refl _ _).alloc (Nat.le_refl _) _
 replace HB := zH (Below.next HB.out hal)
 replace HL := zH (HL.out.below hal)
 replace HPp := zH (HPp.out.below hal)
 replace HPq := zH (HPq.out.below hal)
 replace HVp := zH (HVp.out.below hal)
 replace HVq := zH (HVq.out.below hal)
 replace HSa := zH (HSa.out.keep (keeps_of hal))
 replace HSb := zH (HSb.out.keep (keeps_of hal))
 replace HVa := zH (HVa.out.below hal)
 replace HVb := zH (HVb.out.below hal)
 replace HSx := zH (HSx.out.keep (keeps_of hal))
 replace HSy := zH (HSy.out.keep (keeps_of hal))
 replace HVx := zH (HVx.out.below hal)
 replace HVy := zH (HVy.out.below hal)
 clear hal
 have HVaAnd := zH (valid_many (cols := cols) (op := 4) (by omega) (l := [p, q]) (fun z hz => by
  rcases List.mem_cons.1 hz with rfl | hz
  · exact HWp.out
  · rw [List.mem_singleton] at hz
    subst hz
    exact HWq.out))
 go_wp2_with fail
 refine (bregions_any cols (Pd.cons p (Pd.cons q (.nil (plainN 4)))) (some ⟨WW7.heap.size, 0, none⟩) 2 2 Ac nc cc _ HPj.out.s HL.out.sl (by omega) (HVaAnd.out.2)).mono ?_
 rintro e u8 ⟨xu, fu, Au, nu, cu, xv, fv, Av, nv, cv, rfl, hSa, hSb, hbu⟩
 obtain ⟨eg, Heg⟩ : ∃ z, Hid (bdE cols (Pd.cons p (Pd.cons q (.nil (plainN 4)))) = z) := ⟨_, rfl⟩
 rw [Heg.out]
 obtain ⟨ru, Hru⟩ : ∃ z, Hid ((bdR cols (Pd.cons p (Pd.cons q (.nil (plainN 4))))).1 = z) := ⟨_, rfl⟩
 obtain ⟨rv, Hrv⟩ : ∃ z, Hid ((bdR cols (Pd.cons p (Pd.cons q (.nil (plainN 4))))).2 = z) := ⟨_, rfl⟩
 rw [Hru.out] at hSa
 rw [Hrv.out] at hSb
 replace HB := zH (Below.next HB.out hbu)
 replace HL := zH (HL.out.below hbu)
 replace HPp := zH (HPp.out.below hbu)
 replace HPq := zH (HPq.out.below hbu)
 replace HVp := zH (HVp.out.below hbu)
 replace HVq := zH (HVq.out.below hbu)
 replace HSa := zH (HSa.out.keep (keeps_of hbu))
 replace HSb := zH (HSb.out.keep (keeps_of hbu))
 replace HVa := zH (HVa.out.below hbu)
 replace HVb := zH (HVb.out.below hbu)
 replace HSx := zH (HSx.out.keep (keeps_of hbu))
 replace HSy := zH (HSy.out.keep (keeps_of hbu))
 replace HVx := zH (HVx.out.below hbu)
 replace HVy := zH (HVy.out.below hbu)
 have HSu := zH hSa
 have HSv := zH hSb
 clear hSa hSb hbu
 clear zp zq
 clear HPj
 have HVu := zH (Blk.new (u8) 71 #[.int .i64 xu, .bool fu, .slice Au nu cu])
 obtain ⟨Vu, HXu⟩ : ∃ z, Hid (u8.heap.size = z) := ⟨_, rfl⟩
 rw [HXu.out] at HVu
 have hal : Below (u8).heap.size (u8) ((u8).alloc (.cells #[.int .i64 xu, .bool fu, .slice Au nu cu] 71)) := (Below.refl _ _).alloc (Nat.le_refl _) _
 replace HB := zH (Below.next HB.out hal)
 replace HL := zH (HL.out.below hal)
 replace HPp := zH (HPp.out.below hal)
 replace HPq := zH (HPq.out.below hal)
 replace HVp := zH (HVp.out.below hal)
 replace HVq := zH (HVq.out.below hal)
 replace HSa := zH (HSa.out.keep (keeps_of hal))
 replace HSb := zH (HSb.out.keep (keeps_of hal))
 replace HVa := zH (HVa.out.below hal)
 replace HVb := zH (HVb.out.below hal)
 replace HSx := zH (HSx.out.keep (keeps_of hal))
 replace HSy := zH (HSy.out.keep (keeps_of hal))
 replace HVx := zH (HVx.out.below hal)
 replace HVy := zH (HVy.out.below hal)
 replace HSu := zH (HSu.out.keep (keeps_of hal))
 replace HSv := zH (HSv.out.keep (keeps_of hal))
 clear hal
 have HVv := zH (Blk.new ((u8).alloc (.cells #[.int .i64 xu, .bool fu, .slice Au nu cu] 71)) 71 #[.int .i64 xv, .bool fv, .slice Av nv cv])
 obtain ⟨Vv, HXv⟩ : ∃ z, Hid (Vu + 1 = z) := ⟨_, rfl⟩
 rw [World.size_alloc, HXu.out, HXv.out] at HVv
 have hal : Below ((u8).alloc (.cells #[.int .i64 xu, .bool fu, .slice Au nu cu] 71)).heap.size ((u8).alloc (.cells #[.int .i64 xu, .bool fu, .slice Au nu cu] 71)) (((u8).alloc (.cells #[.int .i64 xu, .bool fu, .slice Au nu cu] 71)).alloc (.cells #[.int .i64 xv, .bool fv, .slice Av nv cv] 71)) := (Below.refl _ _).alloc (Nat.le_refl _) _
 replace HB := zH (Below.next HB.out hal)
 replace HL := zH (HL.out.below hal)
 replace HPp := zH (HPp.out.below hal)
 replace HPq := zH (HPq.out.below hal)
 replace HVp := zH (HVp.out.below hal)
 replace HVq := zH (HVq.out.below hal)
 replace HSa := zH (HSa.out.keep (keeps_of hal))
 replace HSb := zH (HSb.out.keep (keeps_of hal))
 replace HVa := zH (HVa.out.below hal)
 replace HVb := zH (HVb.out.below hal)
 replace HSx := zH (HSx.out.keep (keeps_of hal))
 replace HSy := zH (HSy.out.keep (keeps_of hal))
 replace HVx := zH (HVx.out.below hal)
 replace HVy := zH (HVy.out.below hal)
 replace HSu := zH (HSu.out.keep (keeps_of hal))
 replace HSv := zH (HSv.out.keep (keeps_of hal))
 replace HVu := zH (HVu.out.below hal)
 clear hal
 go_upto_region 7 with fail
 rw [HXu.out]
 rw [HXv.out]
 generalize hWW : ((u8).alloc (.cells #[.int .i64 xu, .bool fu, .slice Au nu cu] 71)).alloc (.cells #[.int .i64 xv, .bool fv, .slice Av nv cv] 71) = WW9 at *
 clear hWW
 clear HXu
 clear HXv
 have HPj : Hid (PrdL (fun b => g < b) (WW9.alloc (.cells #[.int .i64 p.h.op, .int .i64 p.h.cm, .int .i64 p.h.l.k, .int .i64 p.h.l.ix, .int .i64 p.h.l.v.k, .int .i64 p.h.l.v.i, .string p.h.l.v.t, .int .i64 p.h.r.k, .int .i64 p.h.r.ix, .int .i64 p.h.r.v.k, .int .i64 p.h.r.v.i, .string p.h.r.v.t, .slice Ap np cp, .int .i64 q.h.op, .int .i64 q.h.cm, .int .i64 q.h.l.k, .int .i64 q.h.l.ix, .int .i64 q.h.l.v.k, .int .i64 q.h.l.v.i, .string q.h.l.v.t, .int .i64 q.h.r.k, .int .i64 q.h.r.ix, .int .i64 q.h.r.v.k, .int .i64 q.h.r.v.i, .string q.h.r.v.t, .slice Aq nq cq] 64)) (some ⟨WW9.heap.size, 0, none⟩) 2 2 (Pd.cons p (Pd.cons q (.nil (plainN 5))))) := zH (pdl_blk (es := [⟨p, Ap, np, cp⟩, ⟨q, Aq, nq, cq⟩]) (plainN 5) (Blk.new _ _ _) rfl rfl (by have := HGp.out; have := HVp.out.lt; omega) (fun e he => by
  rcases List.mem_cons.1 he with rfl | he
  · exact HPp.out.below ((Below.refl _ _).alloc (Nat.le_refl _) _)
  · rw [List.mem_singleton] at he
    subst he
    exact HPq.out.below ((Below.refl _ _).alloc (Nat.le_refl _) _)))
 have zp := HVp.out.cell
 have zq := HVq.out.cell
 have hal : Below (WW9).heap.size (WW9) ((WW9).alloc (.cells #[.int .i64 p.h.op, .int .i64 p.h.cm, .int .i64 p.h.l.k, .int .i64 p.h.l.ix, .int .i64 p.h.l.v.k, .int .i64 p.h.l.v.i, .string p.h.l.v.t, .int .i64 p.h.r.k, .int .i64 p.h.r.ix, .int .i64 p.h.r.v.k, .int .i64 p.h.r.v.i, .string p.h.r.v.t, .slice Ap np cp, .int .i64 q.h.op, .int .i64 q.h.cm, .int .i64 q.h.l.k, .int .i64 q.h.l.ix, .int .i64 q.h.l.v.k, .int .i64 q.h.l.v.i, .string q.h.l.v.t, .int .i64 q.h.r.k, .int .i64 q.h.r.ix, .int .i64 q.h.r.v.k, .int .i64 q.h.r.v.i, .string q.h.r.v.t, .slice Aq nq cq] 64)) := (Below.refl _ _).alloc (Nat.le_refl _) _
 replace HB := zH (Below.next HB.out hal)
 replace HL := zH (HL.out.below hal)
 replace HPp := zH (HPp.out.below hal)
 replace HPq := zH (HPq.out.below hal)
 replace HVp := zH (HVp.out.below hal)
 replace HVq := zH (HVq.out.below hal)
 replace HSa := zH (HSa.out.keep (keeps_of hal))
 replace HSb := zH (HSb.out.keep (keeps_of hal))
 replace HVa := zH (HVa.out.below hal)
 replace HVb := zH (HVb.out.below hal)
 replace HSx := zH (HSx.out.keep (keeps_of hal))
 replace HSy := zH (HSy.out.keep (keeps_of hal))
 replace HVx := zH (HVx.out.below hal)
 replace HVy := zH (HVy.out.below hal)
 replace HSu := zH (HSu.out.keep (keeps_of hal))
 replace HSv := zH (HSv.out.keep (keeps_of hal))
 replace HVu := zH (HVu.out.below hal)
 replace HVv := zH (HVv.out.below hal)
 clear hal
 have HVaOr := zH (valid_many (cols := cols) (op := 5) (by omega) (l := [p, q]) (fun z hz => by
  rcases List.mem_cons.1 hz with rfl | hz
  · exact HWp.out
  · rw [List.mem_singleton] at hz
    subst hz
    exact HWq.out))
 go_wp2_with fail
 refine (bregions_any cols (Pd.cons p (Pd.cons q (.nil (plainN 5)))) (some ⟨WW9.heap.size, 0, none⟩) 2 2 Ac nc cc _ HPj.out.s HL.out.sl (by omega) (HVaOr.out.2)).mono ?_
 rintro e u10 ⟨xm, fm, Am, nm, cm, xo, fo, Ao, no, co, rfl, hSa, hSb, hbu⟩
 obtain ⟨eh, Heh⟩ : ∃ z, Hid (bdE cols (Pd.cons p (Pd.cons q (.nil (plainN 5)))) = z) := ⟨_, rfl⟩
 rw [Heh.out]
 obtain ⟨rm, Hrm⟩ : ∃ z, Hid ((bdR cols (Pd.cons p (Pd.cons q (.nil (plainN 5))))).1 = z) := ⟨_, rfl⟩
 obtain ⟨ro, Hro⟩ : ∃ z, Hid ((bdR cols (Pd.cons p (Pd.cons q (.nil (plainN 5))))).2 = z) := ⟨_, rfl⟩
 rw [Hrm.out] at hSa
 rw [Hro.out] at hSb
 replace HB := zH (Below.next HB.out hbu)
 replace HL := zH (HL.out.below hbu)
 replace HPp := zH (HPp.out.below hbu)
 replace HPq := zH (HPq.out.below hbu)
 replace HVp := zH (HVp.out.below hbu)
 replace HVq := zH (HVq.out.below hbu)
 replace HSa := zH (HSa.out.keep (keeps_of hbu))
 replace HSb := zH (HSb.out.keep (keeps_of hbu))
 replace HVa := zH (HVa.out.below hbu)
 replace HVb := zH (HVb.out.below hbu)
 replace HSx := zH (HSx.out.keep (keeps_of hbu))
 replace HSy := zH (HSy.out.keep (keeps_of hbu))
 replace HVx := zH (HVx.out.below hbu)
 replace HVy := zH (HVy.out.below hbu)
 replace HSu := zH (HSu.out.keep (keeps_of hbu))
 replace HSv := zH (HSv.out.keep (keeps_of hbu))
 replace HVu := zH (HVu.out.below hbu)
 replace HVv := zH (HVv.out.below hbu)
 have HSm := zH hSa
 have HSo := zH hSb
 clear hSa hSb hbu
 clear zp zq
 clear HPj
 have HVm := zH (Blk.new (u10) 71 #[.int .i64 xm, .bool fm, .slice Am nm cm])
 obtain ⟨Vm, HXm⟩ : ∃ z, Hid (u10.heap.size = z) := ⟨_, rfl⟩
 rw [HXm.out] at HVm
 have hal : Below (u10).heap.size (u10) ((u10).alloc (.cells #[.int .i64 xm, .bool fm, .slice Am nm cm] 71)) := (Below.refl _ _).alloc (Nat.le_refl _) _
 replace HB := zH (Below.next HB.out hal)
 replace HL := zH (HL.out.below hal)
 replace HPp := zH (HPp.out.below hal)
 replace HPq := zH (HPq.out.below hal)
 replace HVp := zH (HVp.out.below hal)
 replace HVq := zH (HVq.out.below hal)
 replace HSa := zH (HSa.out.keep (keeps_of hal))
 replace HSb := zH (HSb.out.keep (keeps_of hal))
 replace HVa := zH (HVa.out.below hal)
 replace HVb := zH (HVb.out.below hal)
 replace HSx := zH (HSx.out.keep (keeps_of hal))
 replace HSy := zH (HSy.out.keep (keeps_of hal))
 replace HVx := zH (HVx.out.below hal)
 replace HVy := zH (HVy.out.below hal)
 replace HSu := zH (HSu.out.keep (keeps_of hal))
 replace HSv := zH (HSv.out.keep (keeps_of hal))
 replace HVu := zH (HVu.out.below hal)
 replace HVv := zH (HVv.out.below hal)
 replace HSm := zH (HSm.out.keep (keeps_of hal))
 replace HSo := zH (HSo.out.keep (keeps_of hal))
 clear hal
 have HVo := zH (Blk.new ((u10).alloc (.cells #[.int .i64 xm, .bool fm, .slice Am nm cm] 71)) 71 #[.int .i64 xo, .bool fo, .slice Ao no co])
 obtain ⟨Vo, HXo⟩ : ∃ z, Hid (Vm + 1 = z) := ⟨_, rfl⟩
 rw [World.size_alloc, HXm.out, HXo.out] at HVo
 have hal : Below ((u10).alloc (.cells #[.int .i64 xm, .bool fm, .slice Am nm cm] 71)).heap.size ((u10).alloc (.cells #[.int .i64 xm, .bool fm, .slice Am nm cm] 71)) (((u10).alloc (.cells #[.int .i64 xm, .bool fm, .slice Am nm cm] 71)).alloc (.cells #[.int .i64 xo, .bool fo, .slice Ao no co] 71)) := (Below.refl _ _).alloc (Nat.le_refl _) _
 replace HB := zH (Below.next HB.out hal)
 replace HL := zH (HL.out.below hal)
 replace HPp := zH (HPp.out.below hal)
 replace HPq := zH (HPq.out.below hal)
 replace HVp := zH (HVp.out.below hal)
 replace HVq := zH (HVq.out.below hal)
 replace HSa := zH (HSa.out.keep (keeps_of hal))
 replace HSb := zH (HSb.out.keep (keeps_of hal))
 replace HVa := zH (HVa.out.below hal)
 replace HVb := zH (HVb.out.below hal)
 replace HSx := zH (HSx.out.keep (keeps_of hal))
 replace HSy := zH (HSy.out.keep (keeps_of hal))
 replace HVx := zH (HVx.out.below hal)
 replace HVy := zH (HVy.out.below hal)
 replace HSu := zH (HSu.out.keep (keeps_of hal))
 replace HSv := zH (HSv.out.keep (keeps_of hal))
 replace HVu := zH (HVu.out.below hal)
 replace HVv := zH (HVv.out.below hal)
 replace HSm := zH (HSm.out.keep (keeps_of hal))
 replace HSo := zH (HSo.out.keep (keeps_of hal))
 replace HVm := zH (HVm.out.below hal)
 clear hal
 go_upto_region 8 with fail
 rw [HXm.out]
 rw [HXo.out]
 generalize hWW : ((u10).alloc (.cells #[.int .i64 xm, .bool fm, .slice Am nm cm] 71)).alloc (.cells #[.int .i64 xo, .bool fo, .slice Ao no co] 71) = WW11 at *
 clear hWW
 clear HXm
 clear HXo
 clear HL HPp HPq HVp HVq
 have h2 : er = 0 ∨ er = 2 := by
  rw [← Her.out]
  exact bdE_02 HCB.out.1 HWp.out.1
 rcases h2 with rfl | rfl
 rotate_left
 · skip
   go_wp2_with fail
   refine (begun6_any _).mono ?_
   rintro e u12 ⟨rfl, hbu⟩
   replace HB := zH (Below.next HB.out hbu)
   clear hbu
   go_wp2
   go_ret
   exact ⟨rfl, HB.out⟩
 have h2 : ef = 0 ∨ ef = 2 := by
  rw [← Hef.out]
  exact bdE_02 HCB.out.1 HWq.out.1
 rcases h2 with rfl | rfl
 rotate_left
 · skip
   go_wp2_with fail
   refine (begun6_any _).mono ?_
   rintro e u13 ⟨rfl, hbu⟩
   replace HB := zH (Below.next HB.out hbu)
   clear hbu
   go_wp2
   go_ret
   exact ⟨rfl, HB.out⟩
 have h2 : eg = 0 ∨ eg = 2 := by
  rw [← Heg.out]
  exact bdE_02 HCB.out.1 HVaAnd.out.1
 rcases h2 with rfl | rfl
 rotate_left
 · skip
   go_wp2_with fail
   refine (begun6_any _).mono ?_
   rintro e u14 ⟨rfl, hbu⟩
   replace HB := zH (Below.next HB.out hbu)
   clear hbu
   go_wp2
   go_ret
   exact ⟨rfl, HB.out⟩
 have h2 : eh = 0 ∨ eh = 2 := by
  rw [← Heh.out]
  exact bdE_02 HCB.out.1 HVaOr.out.1
 rcases h2 with rfl | rfl
 rotate_left
 · skip
   go_wp2_with fail
   refine (begun6_any _).mono ?_
   rintro e u15 ⟨rfl, hbu⟩
   replace HB := zH (Below.next HB.out hbu)
   clear hbu
   go_wp2
   go_ret
   exact ⟨rfl, HB.out⟩
 have HJ := zH (joins_plain HWp.out.2 HWq.out.2 Her.out Hef.out)
 have HFp := (bd_big HWp.out.2 Her.out).pr
 have HFq := (bd_big HWq.out.2 Hef.out).pr
 have HWF : Hid ((WfR ra ∧ WfR rb) ∧ (WfR rx ∧ WfR ry)) := zH ⟨⟨by rw [← Hra.out]; exact HFp.f1, by rw [← Hrb.out]; exact HFp.f2⟩, by rw [← Hrx.out]; exact HFq.f1, by rw [← Hry.out]; exact HFq.f2⟩
 clear HFp HFq
 obtain ⟨ja, j1, j2⟩ := HJ.out.1 Heg.out
 obtain ⟨jb, j3, j4⟩ := HJ.out.2 Heh.out
 simp only [Hra.out, Hrx.out, Hrb.out, Hry.out] at ja j1 j2 jb j3 j4
 have Hu : Hid (opRes opIr ra rx = ru) := zH (by rw [← Hru.out]; exact (congrArg Prod.fst ja).symm)
 have Hv : Hid (opRes opIr rb ry = rv) := zH (by rw [← Hrv.out]; exact (congrArg Prod.snd ja).symm)
 have Hm : Hid (opRes opUr ra rx = rm) := zH (by rw [← Hrm.out]; exact (congrArg Prod.fst jb).symm)
 have Ho : Hid (opRes opUr rb ry = ro) := zH (by rw [← Hro.out]; exact (congrArg Prod.snd jb).symm)
 rw [Hu.out] at j1
 rw [Hv.out] at j2
 rw [Hm.out] at j3
 rw [Ho.out] at j4
 have K1 := zH j1
 have K2 := zH j2
 have K3 := zH j3
 have K4 := zH j4
 clear HJ ja jb j1 j2 j3 j4
 go_upto_region 10 with fail
 have za := HVa.out.cell
 have zx := HVx.out.cell
 go_wp2_with fail
 refine (gintersect_any ra xa fa Aa na ca rx xx fx Ax nx cx _ HSa.out HSx.out HWF.out.1.1 HWF.out.2.1).mono ?_
 rintro e u16 ⟨xi, fi, Ai, ni, ci, rfl, hSa, hbu⟩
 clear za zx
 obtain ⟨e1, He1⟩ : ∃ z, Hid (opErr opIr ra rx = z) := ⟨_, rfl⟩
 rw [He1.out]
 obtain ⟨ri, Hri⟩ : ∃ z, Hid (opRes opIr ra rx = z) := ⟨_, rfl⟩
 rw [Hri.out] at hSa
 replace HB := zH (Below.next HB.out hbu)
 replace HSa := zH (HSa.out.keep (keeps_of hbu))
 replace HSb := zH (HSb.out.keep (keeps_of hbu))
 replace HVa := zH (HVa.out.below hbu)
 replace HVb := zH (HVb.out.below hbu)
 replace HSx := zH (HSx.out.keep (keeps_of hbu))
 replace HSy := zH (HSy.out.keep (keeps_of hbu))
 replace HVx := zH (HVx.out.below hbu)
 replace HVy := zH (HVy.out.below hbu)
 replace HSu := zH (HSu.out.keep (keeps_of hbu))
 replace HSv := zH (HSv.out.keep (keeps_of hbu))
 replace HVu := zH (HVu.out.below hbu)
 replace HVv := zH (HVv.out.below hbu)
 replace HSm := zH (HSm.out.keep (keeps_of hbu))
 replace HSo := zH (HSo.out.keep (keeps_of hbu))
 replace HVm := zH (HVm.out.below hbu)
 replace HVo := zH (HVo.out.below hbu)
 have HSi := zH hSa
 clear hSa hbu
 have HVi := zH (Blk.new (u16) 71 #[.int .i64 xi, .bool fi, .slice Ai ni ci])
 obtain ⟨Vi, HXi⟩ : ∃ z, Hid (u16.heap.size = z) := ⟨_, rfl⟩
 rw [HXi.out] at HVi
 have hal : Below (u16).heap.size (u16) ((u16).alloc (.cells #[.int .i64 xi, .bool fi, .slice Ai ni ci] 71)) := (Below.refl _ _).alloc (Nat.le_refl _) _
 replace HB := zH (Below.next HB.out hal)
 replace HSa := zH (HSa.out.keep (keeps_of hal))
 replace HSb := zH (HSb.out.keep (keeps_of hal))
 replace HVa := zH (HVa.out.below hal)
 replace HVb := zH (HVb.out.below hal)
 replace HSx := zH (HSx.out.keep (keeps_of hal))
 replace HSy := zH (HSy.out.keep (keeps_of hal))
 replace HVx := zH (HVx.out.below hal)
 replace HVy := zH (HVy.out.below hal)
 replace HSu := zH (HSu.out.keep (keeps_of hal))
 replace HSv := zH (HSv.out.keep (keeps_of hal))
 replace HVu := zH (HVu.out.below hal)
 replace HVv := zH (HVv.out.below hal)
 replace HSm := zH (HSm.out.keep (keeps_of hal))
 replace HSo := zH (HSo.out.keep (keeps_of hal))
 replace HVm := zH (HVm.out.below hal)
 replace HVo := zH (HVo.out.below hal)
 replace HSi := zH (HSi.out.keep (keeps_of hal))
 clear hal
 go_upto_region 11 with fail
 rw [HXi.out]
 generalize hWW : (u16).alloc (.cells #[.int .i64 xi, .bool fi, .slice Ai ni ci] 71) = WW17 at *
 clear hWW
 clear HXi
 have HEi : Hid (ri = ru) := zH (Hri.out.symm.trans Hu.out)
 have zb := HVb.out.cell
 have zy := HVy.out.cell
 go_wp2_with fail
 refine (gintersect_any rb xb fb Ab nb cb ry xy fy Ay ny cy _ HSb.out HSy.out HWF.out.1.2 HWF.out.2.2).mono ?_
 rintro e u18 ⟨xs, fs, As, ns, cs, rfl, hSa, hbu⟩
 clear zb zy
 obtain ⟨e2, He2⟩ : ∃ z, Hid (opErr opIr rb ry = z) := ⟨_, rfl⟩
 rw [He2.out]
 obtain ⟨rs, Hrs⟩ : ∃ z, Hid (opRes opIr rb ry = z) := ⟨_, rfl⟩
 rw [Hrs.out] at hSa
 replace HB := zH (Below.next HB.out hbu)
 replace HSa := zH (HSa.out.keep (keeps_of hbu))
 replace HSb := zH (HSb.out.keep (keeps_of hbu))
 replace HVa := zH (HVa.out.below hbu)
 replace HVb := zH (HVb.out.below hbu)
 replace HSx := zH (HSx.out.keep (keeps_of hbu))
 replace HSy := zH (HSy.out.keep (keeps_of hbu))
 replace HVx := zH (HVx.out.below hbu)
 replace HVy := zH (HVy.out.below hbu)
 replace HSu := zH (HSu.out.keep (keeps_of hbu))
 replace HSv := zH (HSv.out.keep (keeps_of hbu))
 replace HVu := zH (HVu.out.below hbu)
 replace HVv := zH (HVv.out.below hbu)
 replace HSm := zH (HSm.out.keep (keeps_of hbu))
 replace HSo := zH (HSo.out.keep (keeps_of hbu))
 replace HVm := zH (HVm.out.below hbu)
 replace HVo := zH (HVo.out.below hbu)
 replace HSi := zH (HSi.out.keep (keeps_of hbu))
 replace HVi := zH (HVi.out.below hbu)
 have HSs := zH hSa
 clear hSa hbu
 have HVs := zH (Blk.new (u18) 71 #[.int .i64 xs, .bool fs, .slice As ns cs])
 obtain ⟨Vs, HXs⟩ : ∃ z, Hid (u18.heap.size = z) := ⟨_, rfl⟩
 rw [HXs.out] at HVs
 have hal : Below (u18).heap.size (u18) ((u18).alloc (.cells #[.int .i64 xs, .bool fs, .slice As ns cs] 71)) := (Below.refl _ _).alloc (Nat.le_refl _) _
 replace HB := zH (Below.next HB.out hal)
 replace HSa := zH (HSa.out.keep (keeps_of hal))
 replace HSb := zH (HSb.out.keep (keeps_of hal))
 replace HVa := zH (HVa.out.below hal)
 replace HVb := zH (HVb.out.below hal)
 replace HSx := zH (HSx.out.keep (keeps_of hal))
 replace HSy := zH (HSy.out.keep (keeps_of hal))
 replace HVx := zH (HVx.out.below hal)
 replace HVy := zH (HVy.out.below hal)
 replace HSu := zH (HSu.out.keep (keeps_of hal))
 replace HSv := zH (HSv.out.keep (keeps_of hal))
 replace HVu := zH (HVu.out.below hal)
 replace HVv := zH (HVv.out.below hal)
 replace HSm := zH (HSm.out.keep (keeps_of hal))
 replace HSo := zH (HSo.out.keep (keeps_of hal))
 replace HVm := zH (HVm.out.below hal)
 replace HVo := zH (HVo.out.below hal)
 replace HSi := zH (HSi.out.keep (keeps_of hal))
 replace HVi := zH (HVi.out.below hal)
 replace HSs := zH (HSs.out.keep (keeps_of hal))
 clear hal
 go_upto_region 12 with fail
 rw [HXs.out]
 generalize hWW : (u18).alloc (.cells #[.int .i64 xs, .bool fs, .slice As ns cs] 71) = WW19 at *
 clear hWW
 clear HXs
 have HEs : Hid (rs = rv) := zH (Hrs.out.symm.trans Hv.out)
 have za := HVa.out.cell
 have zx := HVx.out.cell
 go_wp2_with fail
 refine (gunion_any ra xa fa Aa na ca rx xx fx Ax nx cx _ HSa.out HSx.out HWF.out.1.1 HWF.out.2.1).mono ?_
 rintro e u20 ⟨xt, ft, At, nt, ct, rfl, hSa, hbu⟩
 clear za zx
 obtain ⟨e3, He3⟩ : ∃ z, Hid (opErr opUr ra rx = z) := ⟨_, rfl⟩
 rw [He3.out]
 obtain ⟨rt, Hrt⟩ : ∃ z, Hid (opRes opUr ra rx = z) := ⟨_, rfl⟩
 rw [Hrt.out] at hSa
 replace HB := zH (Below.next HB.out hbu)
 replace HSa := zH (HSa.out.keep (keeps_of hbu))
 replace HSb := zH (HSb.out.keep (keeps_of hbu))
 replace HVa := zH (HVa.out.below hbu)
 replace HVb := zH (HVb.out.below hbu)
 replace HSx := zH (HSx.out.keep (keeps_of hbu))
 replace HSy := zH (HSy.out.keep (keeps_of hbu))
 replace HVx := zH (HVx.out.below hbu)
 replace HVy := zH (HVy.out.below hbu)
 replace HSu := zH (HSu.out.keep (keeps_of hbu))
 replace HSv := zH (HSv.out.keep (keeps_of hbu))
 replace HVu := zH (HVu.out.below hbu)
 replace HVv := zH (HVv.out.below hbu)
 replace HSm := zH (HSm.out.keep (keeps_of hbu))
 replace HSo := zH (HSo.out.keep (keeps_of hbu))
 replace HVm := zH (HVm.out.below hbu)
 replace HVo := zH (HVo.out.below hbu)
 replace HSi := zH (HSi.out.keep (keeps_of hbu))
 replace HVi := zH (HVi.out.below hbu)
 replace HSs := zH (HSs.out.keep (keeps_of hbu))
 replace HVs := zH (HVs.out.below hbu)
 have HSt := zH hSa
 clear hSa hbu
 have HVt := zH (Blk.new (u20) 71 #[.int .i64 xt, .bool ft, .slice At nt ct])
 obtain ⟨Vt, HXt⟩ : ∃ z, Hid (u20.heap.size = z) := ⟨_, rfl⟩
 rw [HXt.out] at HVt
 have hal : Below (u20).heap.size (u20) ((u20).alloc (.cells #[.int .i64 xt, .bool ft, .slice At nt ct] 71)) := (Below.refl _ _).alloc (Nat.le_refl _) _
 replace HB := zH (Below.next HB.out hal)
 replace HSa := zH (HSa.out.keep (keeps_of hal))
 replace HSb := zH (HSb.out.keep (keeps_of hal))
 replace HVa := zH (HVa.out.below hal)
 replace HVb := zH (HVb.out.below hal)
 replace HSx := zH (HSx.out.keep (keeps_of hal))
 replace HSy := zH (HSy.out.keep (keeps_of hal))
 replace HVx := zH (HVx.out.below hal)
 replace HVy := zH (HVy.out.below hal)
 replace HSu := zH (HSu.out.keep (keeps_of hal))
 replace HSv := zH (HSv.out.keep (keeps_of hal))
 replace HVu := zH (HVu.out.below hal)
 replace HVv := zH (HVv.out.below hal)
 replace HSm := zH (HSm.out.keep (keeps_of hal))
 replace HSo := zH (HSo.out.keep (keeps_of hal))
 replace HVm := zH (HVm.out.below hal)
 replace HVo := zH (HVo.out.below hal)
 replace HSi := zH (HSi.out.keep (keeps_of hal))
 replace HVi := zH (HVi.out.below hal)
 replace HSs := zH (HSs.out.keep (keeps_of hal))
 replace HVs := zH (HVs.out.below hal)
 replace HSt := zH (HSt.out.keep (keeps_of hal))
 clear hal
 go_upto_region 13 with fail
 rw [HXt.out]
 generalize hWW : (u20).alloc (.cells #[.int .i64 xt, .bool ft, .slice At nt ct] 71) = WW21 at *
 clear hWW
 clear HXt
 have HEt : Hid (rt = rm) := zH (Hrt.out.symm.trans Hm.out)
 clear HSa HSx HVa HVx
 have zb := HVb.out.cell
 have zy := HVy.out.cell
 go_wp2_with fail
 refine (gunion_any rb xb fb Ab nb cb ry xy fy Ay ny cy _ HSb.out HSy.out HWF.out.1.2 HWF.out.2.2).mono ?_
 rintro e u22 ⟨xk, fk, Ak, nk, ck, rfl, hSa, hbu⟩
 clear zb zy
 obtain ⟨e4, He4⟩ : ∃ z, Hid (opErr opUr rb ry = z) := ⟨_, rfl⟩
 rw [He4.out]
 obtain ⟨rk, Hrk⟩ : ∃ z, Hid (opRes opUr rb ry = z) := ⟨_, rfl⟩
 rw [Hrk.out] at hSa
 replace HB := zH (Below.next HB.out hbu)
 replace HSb := zH (HSb.out.keep (keeps_of hbu))
 replace HVb := zH (HVb.out.below hbu)
 replace HSy := zH (HSy.out.keep (keeps_of hbu))
 replace HVy := zH (HVy.out.below hbu)
 replace HSu := zH (HSu.out.keep (keeps_of hbu))
 replace HSv := zH (HSv.out.keep (keeps_of hbu))
 replace HVu := zH (HVu.out.below hbu)
 replace HVv := zH (HVv.out.below hbu)
 replace HSm := zH (HSm.out.keep (keeps_of hbu))
 replace HSo := zH (HSo.out.keep (keeps_of hbu))
 replace HVm := zH (HVm.out.below hbu)
 replace HVo := zH (HVo.out.below hbu)
 replace HSi := zH (HSi.out.keep (keeps_of hbu))
 replace HVi := zH (HVi.out.below hbu)
 replace HSs := zH (HSs.out.keep (keeps_of hbu))
 replace HVs := zH (HVs.out.below hbu)
 replace HSt := zH (HSt.out.keep (keeps_of hbu))
 replace HVt := zH (HVt.out.below hbu)
 have HSk := zH hSa
 clear hSa hbu
 have HVk := zH (Blk.new (u22) 71 #[.int .i64 xk, .bool fk, .slice Ak nk ck])
 obtain ⟨Vk, HXk⟩ : ∃ z, Hid (u22.heap.size = z) := ⟨_, rfl⟩
 rw [HXk.out] at HVk
 have hal : Below (u22).heap.size (u22) ((u22).alloc (.cells #[.int .i64 xk, .bool fk, .slice Ak nk ck] 71)) := (Below.refl _ _).alloc (Nat.le_refl _) _
 replace HB := zH (Below.next HB.out hal)
 replace HSb := zH (HSb.out.keep (keeps_of hal))
 replace HVb := zH (HVb.out.below hal)
 replace HSy := zH (HSy.out.keep (keeps_of hal))
 replace HVy := zH (HVy.out.below hal)
 replace HSu := zH (HSu.out.keep (keeps_of hal))
 replace HSv := zH (HSv.out.keep (keeps_of hal))
 replace HVu := zH (HVu.out.below hal)
 replace HVv := zH (HVv.out.below hal)
 replace HSm := zH (HSm.out.keep (keeps_of hal))
 replace HSo := zH (HSo.out.keep (keeps_of hal))
 replace HVm := zH (HVm.out.below hal)
 replace HVo := zH (HVo.out.below hal)
 replace HSi := zH (HSi.out.keep (keeps_of hal))
 replace HVi := zH (HVi.out.below hal)
 replace HSs := zH (HSs.out.keep (keeps_of hal))
 replace HVs := zH (HVs.out.below hal)
 replace HSt := zH (HSt.out.keep (keeps_of hal))
 replace HVt := zH (HVt.out.below hal)
 replace HSk := zH (HSk.out.keep (keeps_of hal))
 clear hal
 go_upto_region 14 with fail
 rw [HXk.out]
 generalize hWW : (u22).alloc (.cells #[.int .i64 xk, .bool fk, .slice Ak nk ck] 71) = WW23 at *
 clear hWW
 clear HXk
 have HEk : Hid (rk = ro) := zH (Hrk.out.symm.trans Ho.out)
 clear HSb HSy HVb HVy
 go_wp2_with fail
 refine (begun6_any _).mono ?_
 rintro e u24 ⟨rfl, hbu⟩
 replace HB := zH (Below.next HB.out hbu)
 replace HSu := zH (HSu.out.keep (keeps_of hbu))
 replace HSv := zH (HSv.out.keep (keeps_of hbu))
 replace HVu := zH (HVu.out.below hbu)
 replace HVv := zH (HVv.out.below hbu)
 replace HSm := zH (HSm.out.keep (keeps_of hbu))
 replace HSo := zH (HSo.out.keep (keeps_of hbu))
 replace HVm := zH (HVm.out.below hbu)
 replace HVo := zH (HVo.out.below hbu)
 replace HSi := zH (HSi.out.keep (keeps_of hbu))
 replace HVi := zH (HVi.out.below hbu)
 replace HSs := zH (HSs.out.keep (keeps_of hbu))
 replace HVs := zH (HVs.out.below hbu)
 replace HSt := zH (HSt.out.keep (keeps_of hbu))
 replace HVt := zH (HVt.out.below hbu)
 replace HSk := zH (HSk.out.keep (keeps_of hbu))
 replace HVk := zH (HVk.out.below hbu)
 clear hbu
 have zu := HVu.out.cell
 have zi := HVi.out.cell
 go_wp2_with fail
 refine (gequal_any ru xu fu Au nu cu ri xi fi Ai ni ci _ HSu.out HSi.out).mono ?_
 rintro e u25 ⟨rfl, hbu⟩
 rw [HEi.out, K1.out]
 clear zu zi
 replace HB := zH (Below.next HB.out hbu)
 replace HSu := zH (HSu.out.keep (keeps_of hbu))
 replace HSv := zH (HSv.out.keep (keeps_of hbu))
 replace HVu := zH (HVu.out.below hbu)
 replace HVv := zH (HVv.out.below hbu)
 replace HSm := zH (HSm.out.keep (keeps_of hbu))
 replace HSo := zH (HSo.out.keep (keeps_of hbu))
 replace HVm := zH (HVm.out.below hbu)
 replace HVo := zH (HVo.out.below hbu)
 replace HSi := zH (HSi.out.keep (keeps_of hbu))
 replace HVi := zH (HVi.out.below hbu)
 replace HSs := zH (HSs.out.keep (keeps_of hbu))
 replace HVs := zH (HVs.out.below hbu)
 replace HSt := zH (HSt.out.keep (keeps_of hbu))
 replace HVt := zH (HVt.out.below hbu)
 replace HSk := zH (HSk.out.keep (keeps_of hbu))
 replace HVk := zH (HVk.out.below hbu)
 clear hbu
 clear HSu HSi HVu HVi
 have zv := HVv.out.cell
 have zs := HVs.out.cell
 go_wp2_with fail
 refine (gequal_any rv xv fv Av nv cv rs xs fs As ns cs _ HSv.out HSs.out).mono ?_
 rintro e u26 ⟨rfl, hbu⟩
 rw [HEs.out, K2.out]
 clear zv zs
 replace HB := zH (Below.next HB.out hbu)
 replace HSv := zH (HSv.out.keep (keeps_of hbu))
 replace HVv := zH (HVv.out.below hbu)
 replace HSm := zH (HSm.out.keep (keeps_of hbu))
 replace HSo := zH (HSo.out.keep (keeps_of hbu))
 replace HVm := zH (HVm.out.below hbu)
 replace HVo := zH (HVo.out.below hbu)
 replace HSs := zH (HSs.out.keep (keeps_of hbu))
 replace HVs := zH (HVs.out.below hbu)
 replace HSt := zH (HSt.out.keep (keeps_of hbu))
 replace HVt := zH (HVt.out.below hbu)
 replace HSk := zH (HSk.out.keep (keeps_of hbu))
 replace HVk := zH (HVk.out.below hbu)
 clear hbu
 clear HSv HSs HVv HVs
 have zm := HVm.out.cell
 have zt := HVt.out.cell
 go_wp2_with fail
 refine (gequal_any rm xm fm Am nm cm rt xt ft At nt ct _ HSm.out HSt.out).mono ?_
 rintro e u27 ⟨rfl, hbu⟩
 rw [HEt.out, K3.out]
 clear zm zt
 replace HB := zH (Below.next HB.out hbu)
 replace HSm := zH (HSm.out.keep (keeps_of hbu))
 replace HSo := zH (HSo.out.keep (keeps_of hbu))
 replace HVm := zH (HVm.out.below hbu)
 replace HVo := zH (HVo.out.below hbu)
 replace HSt := zH (HSt.out.keep (keeps_of hbu))
 replace HVt := zH (HVt.out.below hbu)
 replace HSk := zH (HSk.out.keep (keeps_of hbu))
 replace HVk := zH (HVk.out.below hbu)
 clear hbu
 clear HSm HSt HVm HVt
 have zo := HVo.out.cell
 have zk := HVk.out.cell
 go_wp2_with fail
 refine (gequal_any ro xo fo Ao no co rk xk fk Ak nk ck _ HSo.out HSk.out).mono ?_
 rintro e u28 ⟨rfl, hbu⟩
 rw [HEk.out, K4.out]
 clear zo zk
 replace HB := zH (Below.next HB.out hbu)
 replace HSo := zH (HSo.out.keep (keeps_of hbu))
 replace HVo := zH (HVo.out.below hbu)
 replace HSk := zH (HSk.out.keep (keeps_of hbu))
 replace HVk := zH (HVk.out.below hbu)
 clear hbu
 clear HSo HSk HVo HVk
 go_wp2
 go_ret
 exact ⟨rfl, HB.out⟩
end Go.Proofs.YtnnmlhmffnfjfaaGreat
