/-
  Texts: PdC, BdReg, PdL, BdBeg, BdCr, Pj4.
-/
import Derived.Test.YtnnmlhmffnfjfaaGreatB26
set_option linter.unusedVariables false
set_option maxRecDepth 100000
namespace Go.Proofs.YtnnmlhmffnfjfaaGreat
open Go.RowKit
open Pd
set_option maxHeartbeats 8000000 in
theorem pcheck_any (cols ps : List Int) (p : Pd) (A : Option Addr) (n c : Nat) (Ac : Option Addr) (nc cc : Nat) (Ap : Option Addr) (np cp : Nat) (w : World) (hs : PrdS w A n c p) (hc : ClS w Ac nc cols) (hp : ClS w Ap np ps) (hnc : nc ≤ 9223372036854775807) (hnp : np ≤ 9223372036854775807) :
 Calls Tryz.prog 77 #[.slice Ac nc cc, .slice Ap np cp, .agg (pdV p.h A n c)] w fun e w' => e = .returned (.int .i64 (checkE cols ps p)) ∧ Below w.heap.size w w' := by
 obtain ⟨er, Her⟩ : ∃ z, Hid (checkE cols ps p = z) := ⟨_, rfl⟩
 rw [Her.out]
 unfold pdV
 have HS := zH (hs.keep (keeps_alloc w (.cells #[.int .i64 p.h.op, .int .i64 p.h.cm, .int .i64 p.h.l.k, .int .i64 p.h.l.ix, .int .i64 p.h.l.v.k, .int .i64 p.h.l.v.i, .string p.h.l.v.t, .int .i64 p.h.r.k, .int .i64 p.h.r.ix, .int .i64 p.h.r.v.k, .int .i64 p.h.r.v.i, .string p.h.r.v.t, .slice A n c] 64)))
 have HC := zH (hc.keep (keeps_alloc w (.cells #[.int .i64 p.h.op, .int .i64 p.h.cm, .int .i64 p.h.l.k, .int .i64 p.h.l.ix, .int .i64 p.h.l.v.k, .int .i64 p.h.l.v.i, .string p.h.l.v.t, .int .i64 p.h.r.k, .int .i64 p.h.r.ix, .int .i64 p.h.r.v.k, .int .i64 p.h.r.v.i, .string p.h.r.v.t, .slice A n c] 64)))
 have HP := zH (hp.keep (keeps_alloc w (.cells #[.int .i64 p.h.op, .int .i64 p.h.cm, .int .i64 p.h.l.k, .int .i64 p.h.l.ix, .int .i64 p.h.l.v.k, .int .i64 p.h.l.v.i, .string p.h.l.v.t, .int .i64 p.h.r.k, .int .i64 p.h.r.ix, .int .i64 p.h.r.v.k, .int .i64 p.h.r.v.i, .string p.h.r.v.t, .slice A n c] 64)))
 have HX := zH (Blk.new w 64 #[.int .i64 p.h.op, .int .i64 p.h.cm, .int .i64 p.h.l.k, .int .i64 p.h.l.ix, .int .i64 p.h.l.v.k, .int .i64 p.h.l.v.i, .string p.h.l.v.t, .int .i64 p.h.r.k, .int .i64 p.h.r.ix, .int .i64 p.h.r.v.k, .int .i64 p.h.r.v.i, .string p.h.r.v.t, .slice A n c])
 have HB := zH ((Below.refl w.heap.size w).alloc (Nat.le_refl _) (.cells #[.int .i64 p.h.op, .int .i64 p.h.cm, .int .i64 p.h.l.k, .int .i64 p.h.l.ix, .int .i64 p.h.l.v.k, .int .i64 p.h.l.v.i, .string p.h.l.v.t, .int .i64 p.h.r.k, .int .i64 p.h.r.ix, .int .i64 p.h.r.v.k, .int .i64 p.h.r.v.i, .string p.h.r.v.t, .slice A n c] 64))
 clear hs hc hp
 go_enter Tryz.func77, Tryz.ntmps77
 go_upto_region 1 with fail
 obtain ⟨X, HXe⟩ : ∃ z, Hid (w.heap.size = z) := ⟨_, rfl⟩
 rw [HXe.out] at HX
 rw [HXe.out]
 generalize hW : w.alloc (.cells #[.int .i64 p.h.op, .int .i64 p.h.cm, .int .i64 p.h.l.k, .int .i64 p.h.l.ix, .int .i64 p.h.l.v.k, .int .i64 p.h.l.v.i, .string p.h.l.v.t, .int .i64 p.h.r.k, .int .i64 p.h.r.ix, .int .i64 p.h.r.v.k, .int .i64 p.h.r.v.i, .string p.h.r.v.t, .slice A n c] 64) = w1 at *
 clear hW
 go_wp2_with fail
 refine (colK_any Ac nc cc cols _ HC.out hnc).mono ?_
 rintro e w2 ⟨rfl, rfl⟩
 obtain ⟨b1, H1⟩ : ∃ z, Hid (colB cols = z) := ⟨_, rfl⟩
 rw [H1.out]
 cases b1
 · obtain rfl : 1 = er := by rw [← Her.out, checkE, H1.out]; rfl
   go_wp2
   go_ret
   exact ⟨rfl, HB.out⟩
 · go_wp2_with fail
   refine (colK_any Ap np cp ps _ HP.out hnp).mono ?_
   rintro e w2 ⟨rfl, rfl⟩
   obtain ⟨b2, H2⟩ : ∃ z, Hid (colB ps = z) := ⟨_, rfl⟩
   rw [H2.out]
   cases b2
   · obtain rfl : 1 = er := by rw [← Her.out, checkE, H1.out, H2.out]; rfl
     go_wp2
     go_ret
     exact ⟨rfl, HB.out⟩
   · have Hs : Hid ((if p.nodes ≤ 24 ∧ p.depth ≤ 8 then (if validB cols ps p = true then 0 else 50) else 2) = er) := zH (by rw [← Her.out, checkE, H1.out, H2.out]; rfl)
     clear Her H1 H2
     have HS2 := zH (HS.out.keep (keeps_alloc w1 (.cells #[.int .i64 24] 3)))
     have HX2 := zH (HX.out.alloc (.cells #[.int .i64 24] 3))
     have HU := zH ((Below.refl w1.heap.size w1).alloc (Nat.le_refl _) (.cells #[.int .i64 24] 3))
     have HG := zH (Blk.new w1 3 #[.int .i64 24])
     obtain ⟨G, HGe⟩ : ∃ z, Hid (w1.heap.size = z) := ⟨_, rfl⟩
     rw [HGe.out] at HG
     have Hle : Hid (w1.heap.size = G) := zH HGe.out
     go_upto_region 4 with fail
     rw [HGe.out]
     generalize hW : w1.alloc (.cells #[.int .i64 24] 3) = w2 at *
     clear hW HGe
     have zx := HX2.out.cell
     go_wp2_with fail
     refine (small_any p.nodes p A n c 1 1 24 G _ (Nat.le_refl _) HS2.out HG.out rfl (by omega) (by omega) (by omega)).mono ?_
     rintro e w3 ⟨b', rfl, hb3, hx3, hu3⟩
     rw [smB_eq p]
     have HU3 := zH (hu3.below HU.out HU.out.size (fun k hk => by have := Hle.out; omega))
     have HS3 := zH (HS.out.keep (keeps_of HU3.out))
     have HX3 := zH (HX.out.below HU3.out)
     have HB3 := zH (Below.next HB.out HU3.out)
     have HC3 := zH (HC.out.keep (keeps_of HU3.out))
     have HP3 := zH (HP.out.keep (keeps_of HU3.out))
     clear zx hb3 hx3 hu3 HS2 HX2 HG HU HS HX HB HC HP HU3
     by_cases hsm : p.nodes ≤ 24 ∧ p.depth ≤ 8
     · have Hn := zH hsm.1
       rw [if_pos hsm] at Hs
       rw [decide_eq_true hsm]
       clear hsm
       have zx := HX3.out.cell
       go_wp2_with fail
       refine (pvalid_any cols ps p.nodes p A n c Ac nc cc Ap np cp _ (Nat.le_refl _) (by have := Hn.out; omega) HS3.out HC3.out HP3.out).mono ?_
       rintro e w4 ⟨rfl, hb4⟩
       have HB4 := zH (Below.next HB3.out hb4)
       obtain ⟨v, Hv⟩ : ∃ z, Hid (validB cols ps p = z) := ⟨_, rfl⟩
       rw [Hv.out] at Hs ⊢
       clear hb4 zx
       cases v
       · obtain rfl : 50 = er := Hs.out
         go_wp2
         go_ret
         exact ⟨rfl, HB4.out⟩
       · obtain rfl : 0 = er := Hs.out
         go_wp2
         go_ret
         exact ⟨rfl, HB4.out⟩
     · rw [if_neg hsm] at Hs
       rw [decide_eq_false hsm]
       obtain rfl : 2 = er := Hs.out
       clear hsm
       go_wp2
       go_ret
       exact ⟨rfl, HB3.out⟩
end Go.Proofs.YtnnmlhmffnfjfaaGreat
namespace Go.Proofs.YtnnmlhmffnfjfaaGreat
open Go.RowKit
open Rg
open Pd
def TwoRes (w : World) (a b : Rg) (er : Int) (e : Ending) (w' : World) : Prop :=
 ∃ (x : Int) (f : Bool) (A : Option Addr) (n c : Nat) (x' : Int) (f' : Bool) (A' : Option Addr) (n' c' : Nat), e = .returned (.tuple #[.agg #[.int .i64 x, .bool f, .slice A n c], .agg #[.int .i64 x', .bool f', .slice A' n' c'], .int .i64 er]) ∧ RgS w' x f A n c a ∧ RgS w' x' f' A' n' c' b ∧ Below w.heap.size w w'
theorem bd_walk {cols : List Int} {p : Pd} (h1 : cols.length ≤ 12) (h2 : checkE cols [] p = 0) : bdE cols p = oE (nodeX cols p) ∧ bdR cols p = oP (nodeX cols p) := by
 have e : bdE cols p = oE (nodeX cols p) := by
  unfold bdE oE
  rw [if_neg (by omega), if_pos h2]
  cases nodeX cols p <;> rfl
 refine ⟨e, ?_⟩
 unfold bdR
 rw [e]
 cases nodeX cols p with
 | none => rfl
 | some r => rfl
theorem bd_zero {cols : List Int} {p : Pd} (h : bdE cols p ≠ 0) : bdR cols p = (zeroR, zeroR) := by unfold bdR; rw [if_neg h]
theorem o_noEmp {cols : List Int} {p : Pd} (h1 : cols.length ≤ 12) (h2 : checkE cols [] p = 0) (hw : wfP p) : noEmp (oP (nodeX cols p)).1 ∧ noEmp (oP (nodeX cols p)).2 := by
 cases hx : nodeX cols p with
 | none => exact ⟨trivial, trivial⟩
 | some r =>
   obtain ⟨c1, c2, _, _⟩ := checkE_ok h2
   exact pair_noEmp (big_node h1 c1 c2 hw hx).pr
set_option maxHeartbeats 16000000 in
theorem bregions_any (cols : List Int) (p : Pd) (A : Option Addr) (n c : Nat) (Ac : Option Addr) (nc cc : Nat) (w : World) (hs : PrdS w A n c p) (hc : ClS w Ac nc cols) (hnc : nc ≤ 9223372036854775807) (hwf : wfP p) :
 Calls Tryz.prog 32 #[.slice Ac nc cc, .agg (pdV p.h A n c)] w fun e w' => TwoRes w (bdR cols p).1 (bdR cols p).2 (bdE cols p) e w' := by
 have Hcl := zH hc.len
 have HWF := zH hwf
 obtain ⟨er, Her⟩ : ∃ z, Hid (bdE cols p = z) := ⟨_, rfl⟩
 obtain ⟨⟨ra, rb⟩, Hrr⟩ : ∃ z, Hid (bdR cols p = z) := ⟨_, rfl⟩
 rw [Her.out, Hrr.out]
 unfold pdV
 have HS := zH ((((hs.keep (keeps_alloc w (.cells #[.slice Ac nc cc] 65))).keep (keeps_alloc _ (.cells #[.int .i64 p.h.op, .int .i64 p.h.cm, .int .i64 p.h.l.k, .int .i64 p.h.l.ix, .int .i64 p.h.l.v.k, .int .i64 p.h.l.v.i, .string p.h.l.v.t, .int .i64 p.h.r.k, .int .i64 p.h.r.ix, .int .i64 p.h.r.v.k, .int .i64 p.h.r.v.i, .string p.h.r.v.t, .slice A n c] 64))).keep (keeps_alloc _ (.cells #[.int .i64 0, .bool false, .slice none 0 0] 71))).keep (keeps_alloc _ (.cells #[.int .i64 0, .bool false, .slice none 0 0] 71)))
 have HC := zH ((((hc.keep (keeps_alloc w (.cells #[.slice Ac nc cc] 65))).keep (keeps_alloc _ (.cells #[.int .i64 p.h.op, .int .i64 p.h.cm, .int .i64 p.h.l.k, .int .i64 p.h.l.ix, .int .i64 p.h.l.v.k, .int .i64 p.h.l.v.i, .string p.h.l.v.t, .int .i64 p.h.r.k, .int .i64 p.h.r.ix, .int .i64 p.h.r.v.k, .int .i64 p.h.r.v.i, .string p.h.r.v.t, .slice A n c] 64))).keep (keeps_alloc _ (.cells #[.int .i64 0, .bool false, .slice none 0 0] 71))).keep (keeps_alloc _ (.cells #[.int .i64 0, .bool false, .slice none 0 0] 71)))
 have HBC := zH ((((Blk.new w 65 #[.slice Ac nc cc]).alloc (.cells #[.int .i64 p.h.op, .int .i64 p.h.cm, .int .i64 p.h.l.k, .int .i64 p.h.l.ix, .int .i64 p.h.l.v.k, .int .i64 p.h.l.v.i, .string p.h.l.v.t, .int .i64 p.h.r.k, .int .i64 p.h.r.ix, .int .i64 p.h.r.v.k, .int .i64 p.h.r.v.i, .string p.h.r.v.t, .slice A n c] 64)).alloc (.cells #[.int .i64 0, .bool false, .slice none 0 0] 71)).alloc (.cells #[.int .i64 0, .bool false, .slice none 0 0] 71))
 have HX := zH (((Blk.new (w.alloc (.cells #[.slice Ac nc cc] 65)) 64 #[.int .i64 p.h.op, .int .i64 p.h.cm, .int .i64 p.h.l.k, .int .i64 p.h.l.ix, .int .i64 p.h.l.v.k, .int .i64 p.h.l.v.i, .string p.h.l.v.t, .int .i64 p.h.r.k, .int .i64 p.h.r.ix, .int .i64 p.h.r.v.k, .int .i64 p.h.r.v.i, .string p.h.r.v.t, .slice A n c]).alloc (.cells #[.int .i64 0, .bool false, .slice none 0 0] 71)).alloc (.cells #[.int .i64 0, .bool false, .slice none 0 0] 71))
 have HR := zH ((Blk.new ((w.alloc (.cells #[.slice Ac nc cc] 65)).alloc (.cells #[.int .i64 p.h.op, .int .i64 p.h.cm, .int .i64 p.h.l.k, .int .i64 p.h.l.ix, .int .i64 p.h.l.v.k, .int .i64 p.h.l.v.i, .string p.h.l.v.t, .int .i64 p.h.r.k, .int .i64 p.h.r.ix, .int .i64 p.h.r.v.k, .int .i64 p.h.r.v.i, .string p.h.r.v.t, .slice A n c] 64)) 71 #[.int .i64 0, .bool false, .slice none 0 0]).alloc (.cells #[.int .i64 0, .bool false, .slice none 0 0] 71))
 have HQ := zH (Blk.new (((w.alloc (.cells #[.slice Ac nc cc] 65)).alloc (.cells #[.int .i64 p.h.op, .int .i64 p.h.cm, .int .i64 p.h.l.k, .int .i64 p.h.l.ix, .int .i64 p.h.l.v.k, .int .i64 p.h.l.v.i, .string p.h.l.v.t, .int .i64 p.h.r.k, .int .i64 p.h.r.ix, .int .i64 p.h.r.v.k, .int .i64 p.h.r.v.i, .string p.h.r.v.t, .slice A n c] 64)).alloc (.cells #[.int .i64 0, .bool false, .slice none 0 0] 71)) 71 #[.int .i64 0, .bool false, .slice none 0 0])
 rw [show (w.alloc (.cells #[.slice Ac nc cc] 65)).heap.size = w.heap.size + 1 by simp] at HX
 rw [show ((w.alloc (.cells #[.slice Ac nc cc] 65)).alloc (.cells #[.int .i64 p.h.op, .int .i64 p.h.cm, .int .i64 p.h.l.k, .int .i64 p.h.l.ix, .int .i64 p.h.l.v.k, .int .i64 p.h.l.v.i, .string p.h.l.v.t, .int .i64 p.h.r.k, .int .i64 p.h.r.ix, .int .i64 p.h.r.v.k, .int .i64 p.h.r.v.i, .string p.h.r.v.t, .slice A n c] 64)).heap.size = w.heap.size + 1 + 1 by simp] at HR
 rw [show (((w.alloc (.cells #[.slice Ac nc cc] 65)).alloc (.cells #[.int .i64 p.h.op, .int .i64 p.h.cm, .int .i64 p.h.l.k, .int .i64 p.h.l.ix, .int .i64 p.h.l.v.k, .int .i64 p.h.l.v.i, .string p.h.l.v.t, .int .i64 p.h.r.k, .int .i64 p.h.r.ix, .int .i64 p.h.r.v.k, .int .i64 p.h.r.v.i, .string p.h.r.v.t, .slice A n c] 64)).alloc (.cells #[.int .i64 0, .bool false, .slice none 0 0] 71)).heap.size = w.heap.size + 1 + 1 + 1 by simp] at HQ
 have HB0 := (Below.refl w.heap.size w).alloc (Nat.le_refl _) (.cells #[.slice Ac nc cc] 65)
 have HB1 := HB0.alloc HB0.size (.cells #[.int .i64 p.h.op, .int .i64 p.h.cm, .int .i64 p.h.l.k, .int .i64 p.h.l.ix, .int .i64 p.h.l.v.k, .int .i64 p.h.l.v.i, .string p.h.l.v.t, .int .i64 p.h.r.k, .int .i64 p.h.r.ix, .int .i64 p.h.r.v.k, .int .i64 p.h.r.v.i, .string p.h.r.v.t, .slice A n c] 64)
 have HB2 := HB1.alloc HB1.size (.cells #[.int .i64 0, .bool false, .slice none 0 0] 71)
 have HB := zH (HB2.alloc HB2.size (.cells #[.int .i64 0, .bool false, .slice none 0 0] 71))
 clear HB0 HB1 HB2 hs hc hwf
 go_enter Tryz.func32, Tryz.ntmps32
 go_upto_region 1 with fail
 obtain ⟨Q, HQe⟩ : ∃ z, Hid (w.heap.size + 1 + 1 + 1 = z) := ⟨_, rfl⟩
 obtain ⟨R, HRe⟩ : ∃ z, Hid (w.heap.size + 1 + 1 = z) := ⟨_, rfl⟩
 obtain ⟨X, HXe⟩ : ∃ z, Hid (w.heap.size + 1 = z) := ⟨_, rfl⟩
 obtain ⟨B, HBe⟩ : ∃ z, Hid (w.heap.size = z) := ⟨_, rfl⟩
 have HRl : Hid (w.heap.size ≤ R ∧ w.heap.size ≤ Q ∧ R ≠ Q) := zH (by have h1 := HRe.out; have h2 := HQe.out; omega)
 rw [HQe.out] at HQ
 rw [HRe.out] at HR
 rw [HXe.out] at HX
 rw [HBe.out] at HBC
 rw [HQe.out, HRe.out, HXe.out, HBe.out]
 generalize hW : (((w.alloc (.cells #[.slice Ac nc cc] 65)).alloc (.cells #[.int .i64 p.h.op, .int .i64 p.h.cm, .int .i64 p.h.l.k, .int .i64 p.h.l.ix, .int .i64 p.h.l.v.k, .int .i64 p.h.l.v.i, .string p.h.l.v.t, .int .i64 p.h.r.k, .int .i64 p.h.r.ix, .int .i64 p.h.r.v.k, .int .i64 p.h.r.v.i, .string p.h.r.v.t, .slice A n c] 64)).alloc (.cells #[.int .i64 0, .bool false, .slice none 0 0] 71)).alloc (.cells #[.int .i64 0, .bool false, .slice none 0 0] 71) = w1 at *
 clear hW HQe HRe HXe HBe
 have zb := HBC.out.cell
 by_cases h12 : 12 < nc
 · have hE : bdE cols p = 2 := by unfold bdE; rw [if_pos (by rw [Hcl.out]; exact h12)]
   obtain rfl : 2 = er := by rw [← Her.out, hE]
   have hZ := bd_zero (cols := cols) (p := p) (by rw [hE]; decide)
   obtain ⟨rfl, rfl⟩ : zeroR = ra ∧ zeroR = rb := by
    have h := Hrr.out
    rw [hZ] at h
    injection h with h1 h2
    exact ⟨h1, h2⟩
   have g1 : decide ((12 : Int) < (nc : Int)) = true := by simp; omega
   have g2 : decide (12 < nc) = true := by simp; omega
   clear hE hZ h12 Her Hrr
   have zr := HR.out.cell
   have zq := HQ.out.cell
   have zrf := HR.out.free
   have zqf := HQ.out.free
   have HR2 : Hid (Blk (put3R _ R (.int .i64 0) (.bool false) (.slice none 0 0)) R 71 #[.int .i64 0, .bool false, .slice none 0 0]) := zH (put3R_blk HR.out)
   have HQ2 := zH (HQ.out.but (put3R_but _ R (.int .i64 0) (.bool false) (.slice none 0 0)) (fun e => HRl.out.2.2 e.symm))
   have HR3 := zH (HR2.out.but (put3R_but _ Q (.int .i64 0) (.bool false) (.slice none 0 0)) (fun e => HRl.out.2.2 e))
   have HQ3 : Hid (Blk (put3R _ Q (.int .i64 0) (.bool false) (.slice none 0 0)) Q 71 #[.int .i64 0, .bool false, .slice none 0 0]) := zH (put3R_blk HQ2.out)
   have HBr := zH (put3R_below (put3R_below HB.out HRl.out.1 (.int .i64 0) (.bool false) (.slice none 0 0)) HRl.out.2.1 (.int .i64 0) (.bool false) (.slice none 0 0))
   have yr := HR3.out.cell
   have yq := HQ3.out.cell
   have zq2f := HQ2.out.free
   have zq2 := HQ2.out.cell
   unfold put3R at yr yq HBr zq2f zq2
   clear HR2 HQ2 HR3 HQ3
   go_wp2
   exact bodyPost_ret (v := .tuple #[.agg #[.int .i64 0, .bool false, .slice none 0 0], .agg #[.int .i64 0, .bool false, .slice none 0 0], .int .i64 2]) (by simp [results, Tryz.results32, go_sem, yr, yq]) rfl ⟨0, false, none, 0, 0, 0, false, none, 0, 0, rfl, RgS.zero' _, RgS.zero' _, HBr.out⟩
 have hn : nc ≤ 12 := by omega
 have g1 : decide ((12 : Int) < (nc : Int)) = false := by simp; omega
 have g2 : decide (12 < nc) = false := by simp; omega
 have zx := HX.out.cell
 clear h12
 go_wp2_with fail
 refine (pcheck_any cols [] p A n c Ac nc cc none 0 0 _ HS.out HC.out Sl.nil hnc (by omega)).mono ?_
 rintro e w2 ⟨rfl, hb⟩
 replace HS := zH (HS.out.keep (keeps_of hb))
 replace HC := zH (HC.out.keep (keeps_of hb))
 replace HBC := zH (HBC.out.below hb)
 replace HX := zH (HX.out.below hb)
 replace HR := zH (HR.out.below hb)
 replace HQ := zH (HQ.out.below hb)
 replace HB := zH (Below.next HB.out hb)
 clear zx zb hb g1 g2
 obtain ⟨ce, Hce⟩ : ∃ z, Hid (checkE cols [] p = z) := ⟨_, rfl⟩
 rw [Hce.out]
 by_cases hce : ce = 0
 rotate_left
 · have hE : bdE cols p = ce := by unfold bdE; rw [if_neg (by rw [Hcl.out]; omega), if_neg (by rw [Hce.out]; exact hce)]; exact Hce.out
   obtain rfl : ce = er := by rw [← Her.out, hE]
   have hZ := bd_zero (cols := cols) (p := p) (by rw [hE]; exact hce)
   obtain ⟨rfl, rfl⟩ : zeroR = ra ∧ zeroR = rb := by
    have h := Hrr.out
    rw [hZ] at h
    injection h with h1 h2
    exact ⟨h1, h2⟩
   have g1 : (ce != 0) = true := by simpa using hce
   clear hE hZ hce Her Hrr Hce
   have zr := HR.out.cell
   have zq := HQ.out.cell
   have zrf := HR.out.free
   have zqf := HQ.out.free
   have HR2 : Hid (Blk (put3R _ R (.int .i64 0) (.bool false) (.slice none 0 0)) R 71 #[.int .i64 0, .bool false, .slice none 0 0]) := zH (put3R_blk HR.out)
   have HQ2 := zH (HQ.out.but (put3R_but _ R (.int .i64 0) (.bool false) (.slice none 0 0)) (fun e => HRl.out.2.2 e.symm))
   have HR3 := zH (HR2.out.but (put3R_but _ Q (.int .i64 0) (.bool false) (.slice none 0 0)) (fun e => HRl.out.2.2 e))
   have HQ3 : Hid (Blk (put3R _ Q (.int .i64 0) (.bool false) (.slice none 0 0)) Q 71 #[.int .i64 0, .bool false, .slice none 0 0]) := zH (put3R_blk HQ2.out)
   have HBr := zH (put3R_below (put3R_below HB.out HRl.out.1 (.int .i64 0) (.bool false) (.slice none 0 0)) HRl.out.2.1 (.int .i64 0) (.bool false) (.slice none 0 0))
   have yr := HR3.out.cell
   have yq := HQ3.out.cell
   have zq2f := HQ2.out.free
   have zq2 := HQ2.out.cell
   unfold put3R at yr yq HBr zq2f zq2
   clear HR2 HQ2 HR3 HQ3
   go_wp2
   exact bodyPost_ret (v := .tuple #[.agg #[.int .i64 0, .bool false, .slice none 0 0], .agg #[.int .i64 0, .bool false, .slice none 0 0], .int .i64 ce]) (by simp [results, Tryz.results32, go_sem, yr, yq]) rfl ⟨0, false, none, 0, 0, 0, false, none, 0, 0, rfl, RgS.zero' _, RgS.zero' _, HBr.out⟩
 subst hce
 have hbw := bd_walk (cols := cols) (p := p) (by rw [Hcl.out]; exact hn) Hce.out
 have hne := o_noEmp (cols := cols) (p := p) (by rw [Hcl.out]; exact hn) Hce.out HWF.out
 have Hoe : Hid (oE (nodeX cols p) = er) := zH (by rw [← hbw.1]; exact Her.out)
 have Hop : Hid (oP (nodeX cols p) = (ra, rb)) := zH (by rw [← hbw.2]; exact Hrr.out)
 have HNE : Hid (noEmp ra ∧ noEmp rb) := zH (by rw [Hop.out] at hne; exact hne)
 obtain ⟨c1, c2, c3, _⟩ := checkE_ok Hce.out
 have HCK : Hid (colB cols = true ∧ validB cols [] p = true ∧ p.nodes ≤ 24) := zH ⟨c1, c2, c3⟩
 clear hbw hne Her Hrr Hce c1 c2 c3
 have hb : Below w2.heap.size w2 (w2.alloc (.cells #[Value.nilFunc] 125)) := (Below.refl _ _).alloc (Nat.le_refl _) _
 have HV := zH (Blk.new w2 125 #[Value.nilFunc])
 have HVB : Hid (B ≠ w2.heap.size ∧ X ≠ w2.heap.size ∧ R ≠ w2.heap.size ∧ Q ≠ w2.heap.size ∧ w.heap.size ≤ w2.heap.size) := zH (by have h1 := HBC.out.lt; have h2 := HX.out.lt; have h3 := HR.out.lt; have h4 := HQ.out.lt; have h5 := HB.out.size; omega)
 replace HS := zH (HS.out.keep (keeps_of hb))
 have HCw := HC
 replace HC := zH (HC.out.keep (keeps_of hb))
 replace HBC := zH (HBC.out.below hb)
 replace HX := zH (HX.out.below hb)
 replace HR := zH (HR.out.below hb)
 replace HQ := zH (HQ.out.below hb)
 replace HB := zH (Below.next HB.out hb)
 obtain ⟨V, HVe⟩ : ∃ z, Hid (w2.heap.size = z) := ⟨_, rfl⟩
 rw [HVe.out] at HV HVB
 go_upto_region 7 with fail
 rw [HVe.out]
 have HSs := zH ((HS.out.blk HV.out (by simp) (But.set (S := fun k => k = V) _ (p := ⟨V, 0, none⟩) rfl (.func (.func 78) #[] #[.pointer (some ⟨B, 0, none⟩), .pointer (some ⟨V, 0, none⟩)]))))
 have hU : But (· = V) (w2.alloc (.cells #[Value.nilFunc] 125)) ((w2.alloc (.cells #[Value.nilFunc] 125)).setCell ⟨V, 0, none⟩ (.func (.func 78) #[] #[.pointer (some ⟨B, 0, none⟩), .pointer (some ⟨V, 0, none⟩)])) := But.set (S := fun k => k = V) _ (p := ⟨V, 0, none⟩) rfl _
 have hUB : Below w2.heap.size w2 ((w2.alloc (.cells #[Value.nilFunc] 125)).setCell ⟨V, 0, none⟩ (.func (.func 78) #[] #[.pointer (some ⟨B, 0, none⟩), .pointer (some ⟨V, 0, none⟩)])) := hb.setCell (p := ⟨V, 0, none⟩) (by rw [HVe.out]; exact Nat.le_refl _) _
 have HC2 := zH (HCw.out.keep (keeps_of hUB))
 have HBC2 := zH (HBC.out.but hU (fun e => HVB.out.1 e))
 have HX2 := zH (HX.out.but hU (fun e => HVB.out.2.1 e))
 have HR2 := zH (HR.out.but hU (fun e => HVB.out.2.2.1 e))
 have HQ2 := zH (HQ.out.but hU (fun e => HVB.out.2.2.2.1 e))
 have HV2 : Hid (Blk _ V 125 #[.func (.func 78) #[] #[.pointer (some ⟨B, 0, none⟩), .pointer (some ⟨V, 0, none⟩)]]) := zH (HV.out.set_ 0 (.func (.func 78) #[] #[.pointer (some ⟨B, 0, none⟩), .pointer (some ⟨V, 0, none⟩)]))
 have HB2 := zH (HB.out.setCell (p := ⟨V, 0, none⟩) HVB.out.2.2.2.2 (.func (.func 78) #[] #[.pointer (some ⟨B, 0, none⟩), .pointer (some ⟨V, 0, none⟩)]))
 have zv := HV.out.cell
 have zvf := HV.out.free
 clear hU hUB hb HS HC HCw HBC HX HR HQ HV HB
 go_upto_region 8 with fail
 generalize hW : (w2.alloc (.cells #[Value.nilFunc] 125)).setCell ⟨V, 0, none⟩ (.func (.func 78) #[] #[.pointer (some ⟨B, 0, none⟩), .pointer (some ⟨V, 0, none⟩)]) = w3 at *
 clear hW HVe zv zvf
 have zv := HV2.out.cell
 have zx := HX2.out.cell
 go_wp2_with fail
 refine (walk_any cols nc Ac cc B V hn Hcl.out HCK.out.1 p.nodes p A n c _ (Nat.le_refl _) (by have := HCK.out.2.2; omega) HSs.out HBC2.out HC2.out HV2.out HCK.out.2.1 HWF.out).mono ?_
 rintro e w4 ⟨y, g, C, m, d, y', g', C', m', d', rfl, hA, hA', hb⟩
 rw [Hop.out] at hA hA'
 rw [Hoe.out]
 replace hA : RgS w4 y g C m d ra := hA
 replace hA' : RgS w4 y' g' C' m' d' rb := hA'
 have hb2 : Below w4.heap.size w4 (w4.alloc (.cells (prC y g C m d y' g' C' m' d') 127)) := (Below.refl _ _).alloc (Nat.le_refl _) _
 have HT := zH (Blk.new w4 127 (prC y g C m d y' g' C' m' d'))
 have HTn : Hid (R ≠ w4.heap.size ∧ Q ≠ w4.heap.size) := zH (by have h1 := (HR2.out.below hb).lt; have h2 := (HQ2.out.below hb).lt; omega)
 have HA := zH (hA.keep (keeps_of hb2))
 have HA' := zH (hA'.keep (keeps_of hb2))
 have HR := zH ((HR2.out.below hb).below hb2)
 have HQ := zH ((HQ2.out.below hb).below hb2)
 have HB3 := zH (Below.next HB2.out hb)
 have HB := zH (Below.next HB3.out hb2)
 clear hA hA' hb hb2 zv zx HV2 HX2 HR2 HQ2 HB2 HB3 HSs HBC2 HC2
 obtain ⟨U, HUe⟩ : ∃ z, Hid (w4.heap.size = z) := ⟨_, rfl⟩
 rw [HUe.out] at HT HTn
 unfold prC at HT HA HA' HR HQ HB ⊢
 go_upto_region 9 with fail
 rw [HUe.out]
 generalize hW : w4.alloc (.cells #[.int .i64 y, .bool g, .slice C m d, .int .i64 y', .bool g', .slice C' m' d'] 127) = w5 at *
 clear hW HUe
 obtain ⟨S, HSS⟩ : ∃ S : Nat → Prop, Hid ((fun q => q = R ∨ q = Q) = S) := ⟨_, rfl⟩
 have hSU : ¬ S U := by rw [← HSS.out]; have h := HTn.out; intro h2; rcases h2 with h2 | h2 <;> omega
 refine wp_region_plan S (.one [0, 1, 2, 3, 4] 5 (.one [] 6 (.last [7]))) (by kernel_rfl) (by kernel_rfl) (fun _ _ d _ _ h => by cases d <;> exact h) ?_
 have qU : ∀ (z : LaterS S w5.drew) j, (afterS S w5.drew z).cell? ⟨U, j, none⟩ = (#[.int .i64 y, .bool g, .slice C m d, .int .i64 y', .bool g', .slice C' m' d'] : Array Value)[j]? := fun z j => (HT.out.drew.but z.but hSU).cell j
 have hbd : Below w5.heap.size w5 w5.drew := (Below.refl _ _).drew
 replace HA := zH (HA.out.keep (keeps_of hbd))
 replace HA' := zH (HA'.out.keep (keeps_of hbd))
 replace HR := zH (HR.out.below hbd)
 replace HQ := zH (HQ.out.below hbd)
 replace HB := zH (Below.next HB.out hbd)
 clear hbd hSU HT
 generalize hWd : w5.drew = wd at *
 clear hWd
 unfold wpPlan
 simp only [pickOps, opAt, pkO]
 repeat (go_big_quiet_step (fail))
 refine wpQuiet_nil ?_
 clear qU
 have zr := HR.out.cell
 have zrf := HR.out.free
 have HR1 : Hid (Blk (put3R wd R (.int .i64 y) (.bool g) (.slice C m d)) R 71 #[.int .i64 y, .bool g, .slice C m d]) := zH (put3R_blk HR.out)
 have hU1 : But (· = R) wd (put3R wd R (.int .i64 y) (.bool g) (.slice C m d)) := put3R_but _ _ _ _ _
 have hU1S : But S wd (put3R wd R (.int .i64 y) (.bool g) (.slice C m d)) := ⟨hU1.os, hU1.tape, hU1.output, hU1.size, fun k hk hs => hU1.block k hk (fun e => hs (by rw [← HSS.out]; exact .inl e))⟩
 have HQ1 := zH (HQ.out.but hU1 (fun e => HRl.out.2.2 e.symm))
 have HA1 := zH (RgS.off HR.out hU1 HA.out)
 have HA1' := zH (RgS.off HR.out hU1 HA'.out)
 have HB1 := zH (put3R_below HB.out HRl.out.1 (.int .i64 y) (.bool g) (.slice C m d))
 clear hU1 HR HQ HA HA' HB
 unfold put3R at hU1S HR1 HQ1 HA1 HA1' HB1
 go_wp2_with fail
 refine ⟨hU1S, ?_⟩
 generalize hW1 : ((wd.setCell ⟨R, 0, none⟩ (.int .i64 y)).setCell ⟨R, 1, none⟩ (.bool g)).setCell ⟨R, 2, none⟩ (.slice C m d) = wd1 at *
 clear hW1 zr zrf hU1S
 unfold wpPlan
 simp only [pickOps, opAt, pkO]
 refine wpQuiet_nil ?_
 have zq := HQ1.out.cell
 have zqf := HQ1.out.free
 have HQ2 : Hid (Blk (put3R wd1 Q (.int .i64 y') (.bool g') (.slice C' m' d')) Q 71 #[.int .i64 y', .bool g', .slice C' m' d']) := zH (put3R_blk HQ1.out)
 have hU2 : But (· = Q) wd1 (put3R wd1 Q (.int .i64 y') (.bool g') (.slice C' m' d')) := put3R_but _ _ _ _ _
 have hU2S : But S wd1 (put3R wd1 Q (.int .i64 y') (.bool g') (.slice C' m' d')) := ⟨hU2.os, hU2.tape, hU2.output, hU2.size, fun k hk hs => hU2.block k hk (fun e => hs (by rw [← HSS.out]; exact .inr e))⟩
 have HR2 := zH (HR1.out.but hU2 (fun e => HRl.out.2.2 e))
 have HA2 := zH (RgS.off HQ1.out hU2 HA1.out)
 have HA2' := zH (RgS.off HQ1.out hU2 HA1'.out)
 have HB2 := zH (put3R_below HB1.out HRl.out.2.1 (.int .i64 y') (.bool g') (.slice C' m' d'))
 have yr := HR2.out.cell
 have yq := HQ2.out.cell
 unfold put3R at hU2S yr yq HA2 HA2' HB2
 clear hU2 HR1 HQ1 HA1 HA1' HB1 HR2 HQ2
 go_wp2_with fail
 refine ⟨hU2S, ?_⟩
 unfold wpPlan
 simp only [pickOps, opAt, pkO]
 go_simp
 repeat (go_big_quiet_step (fail))
 refine wpQuiet_nil ?_
 go_wp2
 exact bodyPost_ret (v := .tuple #[.agg #[.int .i64 y, .bool g, .slice C m d], .agg #[.int .i64 y', .bool g', .slice C' m' d'], .int .i64 er]) (by simp [results, Tryz.results32, go_sem, yr, yq]) rfl ⟨y, g, C, m, d, y', g', C', m', d', rfl, HA2.out, HA2'.out, HB2.out⟩
end Go.Proofs.YtnnmlhmffnfjfaaGreat
namespace Go.Proofs.YtnnmlhmffnfjfaaGreat
open Go.RowKit
open Pd
def PdPL (L : Nat → Prop) (w : World) : Pd → Nat → Nat → Prop
 | .nil _, _, _ => True
 | .cons a t, b, o => L b ∧ (∀ (j : Nat) (u : Value), a.h.cs[j]? = some u → w.cell? ⟨b, o + j, none⟩ = some u) ∧
   (∃ A n c, w.cell? ⟨b, o + 12, none⟩ = some (.slice A n c) ∧ okS A n c ∧ n = a.len ∧ (0 < n → ∃ b' o', A = some ⟨b', o', none⟩ ∧ PdPL L w a b' o')) ∧ PdPL L w t b (o + 13)
structure PrdL (L : Nat → Prop) (w : World) (A : Option Addr) (n c : Nat) (p : Pd) : Prop where
 ok : okS A n c
 len : n = p.len
 ex : 0 < n → ∃ b o, A = some ⟨b, o, none⟩ ∧ PdPL L w p b o
theorem PdPL.s {L : Nat → Prop} {w : World} : ∀ {p : Pd} {b o : Nat}, PdPL L w p b o → PdP w p b o
 | .nil _, _, _, _ => trivial
 | .cons a t, b, o, ⟨_, h1, ⟨A, n, c, h2, h3, h4, h5⟩, h6⟩ => ⟨h1, ⟨A, n, c, h2, h3, h4, fun hn => by
   obtain ⟨b', o', e, h⟩ := h5 hn
   exact ⟨b', o', e, h.s⟩⟩, h6.s⟩
theorem PdPL.imp {L L' : Nat → Prop} {w w' : World} (hk : ∀ (b j : Nat) (v : Value), L b → w.cell? ⟨b, j, none⟩ = some v → L' b ∧ w'.cell? ⟨b, j, none⟩ = some v) : ∀ {p : Pd} {b o : Nat}, PdPL L w p b o → PdPL L' w' p b o
 | .nil _, _, _, _ => trivial
 | .cons a t, b, o, ⟨h0, h1, ⟨A, n, c, h2, h3, h4, h5⟩, h6⟩ => by
   refine ⟨(hk b _ _ h0 h2).1, fun j u hu => (hk b _ _ h0 (h1 j u hu)).2, ⟨A, n, c, (hk b _ _ h0 h2).2, h3, h4, fun hn => ?_⟩, PdPL.imp hk h6⟩
   obtain ⟨b', o', e, h⟩ := h5 hn
   exact ⟨b', o', e, PdPL.imp hk h⟩
theorem PdPL.mk {L : Nat → Prop} {w : World} : ∀ {p : Pd} {b o : Nat}, L b → (∀ k q, p.args[k]? = some q → ∃ A n c, ArgAt w b (o + k * 13) q A n c ∧ PrdL L w A n c q) → PdPL L w p b o
 | .nil _, _, _, _, _ => trivial
 | .cons a t, b, o, hb, h => by
   obtain ⟨A, n, c, h0, hL⟩ := h 0 a rfl
   simp only [Nat.zero_mul, Nat.add_zero] at h0
   have hP : PdP w (.cons a (.nil a.h)) b o := PdP.of fun k q hq => by
    cases k with
    | zero =>
      simp only [args, List.getElem?_cons_zero, Option.some.injEq] at hq
      subst hq
      rw [Nat.zero_mul, Nat.add_zero]
      exact ⟨A, n, c, h0⟩
    | succ k => simp [args] at hq
   refine ⟨hb, hP.1, ⟨A, n, c, h0.c12, hL.ok, hL.len, hL.ex⟩, PdPL.mk hb fun k q hq => ?_⟩
   have := h (k + 1) q (by simpa [args] using hq)
   rw [show o + 13 + k * 13 = o + (k + 1) * 13 by omega]
   exact this
section
variable {L L' : Nat → Prop} {w w' : World} {A : Option Addr} {n c : Nat} {p : Pd}
theorem PrdL.s (h : PrdL L w A n c p) : PrdS w A n c p := ⟨h.ok, h.len, fun hn => by
 obtain ⟨b, o, e, h⟩ := h.ex hn
 exact ⟨b, o, e, h.s⟩⟩
theorem PrdL.imp (h : PrdL L w A n c p) (hk : ∀ (b j : Nat) (v : Value), L b → w.cell? ⟨b, j, none⟩ = some v → L' b ∧ w'.cell? ⟨b, j, none⟩ = some v) : PrdL L' w' A n c p := ⟨h.ok, h.len, fun hn => by
 obtain ⟨b, o, e, h⟩ := h.ex hn
 exact ⟨b, o, e, h.imp hk⟩⟩
theorem PrdL.but {S : Nat → Prop} (h : PrdL L w A n c p) (hb : But S w w') (hS : ∀ b, L b → b < w.heap.size → ¬ S b) : PrdL L w' A n c p := h.imp fun b j v hl hv => by
 have hlt := cell_lt (w := w) (a := ⟨b, j, none⟩) (by rw [hv]; rfl)
 exact ⟨hl, (World.cell?_of_block (a := ⟨b, j, none⟩) (hb.block b hlt (hS b hl hlt))).trans hv⟩
theorem PrdL.below (h : PrdL L w A n c p) (hb : Below w.heap.size w w') : PrdL L w' A n c p := h.but (S := fun _ => False) (But.of_below hb) fun _ _ _ h => h
theorem PrdL.mono (h : PrdL L w A n c p) (hL : ∀ b, L b → b < w.heap.size → L' b) : PrdL L' w A n c p := h.imp fun b j v hl hv => by
 have hlt := cell_lt (w := w) (a := ⟨b, j, none⟩) (by rw [hv]; rfl)
 exact ⟨hL b hl hlt, hv⟩
theorem PrdL.nil (L : Nat → Prop) (w : World) (h : Nd) : PrdL L w none 0 0 (.nil h) := ⟨⟨Nat.le_refl _, fun _ => ⟨rfl, rfl⟩⟩, rfl, fun h => absurd h (by omega)⟩
theorem PdP.any : ∀ {p : Pd} {b o : Nat}, PdP w p b o → PdPL (fun _ => True) w p b o
 | .nil _, _, _, _ => trivial
 | .cons a t, b, o, ⟨h1, ⟨A, n, c, h2, h3, h4, h5⟩, h6⟩ => ⟨trivial, h1, ⟨A, n, c, h2, h3, h4, fun hn => by
   obtain ⟨b', o', e, h⟩ := h5 hn
   exact ⟨b', o', e, PdP.any h⟩⟩, PdP.any h6⟩
theorem PrdS.any (h : PrdS w A n c p) : PrdL (fun b => b < w.heap.size) w A n c p := by
 refine PrdL.mono (L := fun _ => True) ⟨h.ok, h.len, fun hn => ?_⟩ fun _ _ h => h
 obtain ⟨b, o, e, h⟩ := h.ex hn
 exact ⟨b, o, e, h.any⟩
end
theorem pdl_sl {L : Nat → Prop} {w : World} {A : Option Addr} {n c : Nat} {es : List PdE} (hd : Nd) (h : Sl 13 PdE.cs w A n es) (ho : okS A n c) (hL : 0 < n → ∀ b o, A = some ⟨b, o, none⟩ → L b) (he : ∀ e ∈ es, PrdL L w e.A e.n e.c e.p) : PrdL L w A n c (mkP hd (es.map PdE.p)) := by
 refine ⟨ho, by rw [Pd.len_mk, List.length_map, h.1], fun hn => ?_⟩
 obtain ⟨b, o, e, hc⟩ := h.2 hn
 refine ⟨b, o, e, PdPL.mk (hL hn b o e) fun k q hq => ?_⟩
 rw [args_mk, List.getElem?_map] at hq
 obtain ⟨d, hd', rfl⟩ := Option.map_eq_some_iff.1 hq
 have at_ : ∀ (j : Nat) (u : Value), (PdE.cs d)[j]? = some u → w.cell? ⟨b, o + k * 13 + j, none⟩ = some u := fun j u hu => hc k d hd' j u hu
 have hD := he d (List.mem_of_getElem? hd')
 exact ⟨d.A, d.n, d.c, ⟨at_ 0 _ rfl, at_ 1 _ rfl, at_ 2 _ rfl, at_ 3 _ rfl, at_ 4 _ rfl, at_ 5 _ rfl, at_ 6 _ rfl, at_ 7 _ rfl, at_ 8 _ rfl, at_ 9 _ rfl, at_ 10 _ rfl, at_ 11 _ rfl, at_ 12 _ rfl, hD.s⟩, hD⟩
theorem pdl_own {L : Nat → Prop} {w : World} {base : Nat} {A : Option Addr} {n c : Nat} {es : List PdE} (hd : Nd) (h : w.ownsRow base 64 13 (.slice A n c) n (es.flatMap PdE.cs)) (hn : es.length = n) (hL : ∀ b, (Value.slice A n c).ownBlock = some b → L b) (he : ∀ e ∈ es, PrdL L w e.A e.n e.c e.p) : PrdL L w A n c (mkP hd (es.map PdE.p)) :=
 pdl_sl hd (Sl.of_own PdE.cs_len hn h) (own_okS h) (fun _ b o hA => hL b (by rw [hA]; rfl)) he
theorem pdl_blk {L : Nat → Prop} {w : World} {H : Nat} {cells : Array Value} {es : List PdE} (hd : Nd) (h : Blk w H 64 cells) (hc : cells.toList = es.flatMap PdE.cs) {n : Nat} (hn : es.length = n) (hL : L H) (he : ∀ e ∈ es, PrdL L w e.A e.n e.c e.p) : PrdL L w (some ⟨H, 0, none⟩) n n (mkP hd (es.map PdE.p)) := by
 refine pdl_sl hd ⟨hn, fun _ => ⟨H, 0, rfl, fun k x hx j u hu => ?_⟩⟩ ⟨Nat.le_refl _, fun h => by cases h⟩ (fun _ b o hA => ?_) he
 · rw [h.cell, ← Array.getElem?_toList, hc, Nat.zero_add]
   exact flat_at PdE.cs_len es k x j u hx hu
 · injection hA with hA
   injection hA with hA
   subst hA
   exact hL
def putL (w : World) (U : Nat) : Nat → List Value → World
 | _, [] => w
 | o, v :: vs => putL (w.setCell ⟨U, o, none⟩ v) U (o + 1) vs
def putA (cs : Array Value) : Nat → List Value → Array Value
 | _, [] => cs
 | o, v :: vs => putA (cs.setIfInBounds o v) (o + 1) vs
theorem putL_but (U : Nat) : ∀ (vs : List Value) (w : World) (o : Nat), But (· = U) w (putL w U o vs)
 | [], _, _ => But.refl _ _
 | v :: vs, w, o => (But.set (S := fun k => k = U) w (p := ⟨U, o, none⟩) rfl v).trans (putL_but U vs _ _)
theorem putL_blk {U : Nat} {T : TypeId} : ∀ (vs : List Value) {w : World} {cs : Array Value} (o : Nat), Blk w U T cs → Blk (putL w U o vs) U T (putA cs o vs)
 | [], _, _, _, h => h
 | v :: vs, _, _, o, h => putL_blk vs (o + 1) (h.set_ o v)
end Go.Proofs.YtnnmlhmffnfjfaaGreat
namespace Go.Proofs.YtnnmlhmffnfjfaaGreat
open Go.RowKit
open Rg Pd
theorem sl_blk {α : Type} {sz : Nat} {cs : α → List Value} {w : World} {H : Nat} {T : TypeId} {cells : Array Value} {l : List α} (h : Blk w H T cells) (hcs : ∀ x, (cs x).length = sz) (hc : cells.toList = l.flatMap cs) : Sl sz cs w (some ⟨H, 0, none⟩) l.length l :=
 ⟨rfl, fun _ => ⟨H, 0, rfl, fun k x hx j u hu => by
  rw [h.cell, ← Array.getElem?_toList, hc, Nat.zero_add]
  exact flat_at hcs l k x j u hx hu⟩⟩
set_option maxRecDepth 100000 in
set_option maxHeartbeats 16000000 in
theorem begun6_any (w : World) : Calls Tryz.prog 34 #[] w fun e w' => e = .returned (.bool true) ∧ Below w.heap.size w w' := by
 have HP : Hid (PrdL (fun _ => True) ((w.alloc (.cells #[.int .i64 3, .int .i64 0, .int .i64 4, .int .i64 5, .string ⟨#[]⟩] 61)).alloc (.cells #[.int .i64 3, .int .i64 3, .int .i64 1, .int .i64 0, .int .i64 0, .int .i64 0, .string ⟨#[]⟩, .int .i64 3, .int .i64 0, .int .i64 4, .int .i64 5, .string ⟨#[]⟩, .slice none 0 0, .int .i64 3, .int .i64 1, .int .i64 1, .int .i64 0, .int .i64 0, .int .i64 0, .string ⟨#[]⟩, .int .i64 1, .int .i64 1, .int .i64 0, .int .i64 0, .string ⟨#[]⟩, .slice none 0 0] 64)) (some ⟨(w.alloc (.cells #[.int .i64 3, .int .i64 0, .int .i64 4, .int .i64 5, .string ⟨#[]⟩] 61)).heap.size, 0, none⟩) 2 2 exP) := zH (pdl_blk (es := [⟨.nil exH1, none, 0, 0⟩, ⟨.nil exH2, none, 0, 0⟩]) (plainN 4) (Blk.new _ _ _) rfl rfl trivial (fun e he => by
  rcases List.mem_cons.1 he with rfl | he
  · exact PrdL.nil _ _ _
  · rw [List.mem_singleton] at he
    subst he
    exact PrdL.nil _ _ _))
 obtain ⟨X, HX⟩ : ∃ z, Hid (w.heap.size + 1 = z) := ⟨_, rfl⟩
 rw [World.size_alloc, HX.out] at HP
 have HB : Hid (Below w.heap.size w (((w.alloc (.cells #[.int .i64 3, .int .i64 0, .int .i64 4, .int .i64 5, .string ⟨#[]⟩] 61)).alloc (.cells #[.int .i64 3, .int .i64 3, .int .i64 1, .int .i64 0, .int .i64 0, .int .i64 0, .string ⟨#[]⟩, .int .i64 3, .int .i64 0, .int .i64 4, .int .i64 5, .string ⟨#[]⟩, .slice none 0 0, .int .i64 3, .int .i64 1, .int .i64 1, .int .i64 0, .int .i64 0, .int .i64 0, .string ⟨#[]⟩, .int .i64 1, .int .i64 1, .int .i64 0, .int .i64 0, .string ⟨#[]⟩, .slice none 0 0] 64)).alloc (.cells #[.int .i64 4, .int .i64 0, .int .i64 0, .int .i64 0, .int .i64 0, .int .i64 0, .string ⟨#[]⟩, .int .i64 0, .int .i64 0, .int .i64 0, .int .i64 0, .string ⟨#[]⟩, .slice (some ⟨X, 0, none⟩) 2 2] 64))) := zH ((((Below.refl w.heap.size w).alloc (Nat.le_refl _) _).alloc (by simp) _).alloc (by simp; omega) _)
 have HV := zH (Blk.new ((w.alloc (.cells #[.int .i64 3, .int .i64 0, .int .i64 4, .int .i64 5, .string ⟨#[]⟩] 61)).alloc (.cells #[.int .i64 3, .int .i64 3, .int .i64 1, .int .i64 0, .int .i64 0, .int .i64 0, .string ⟨#[]⟩, .int .i64 3, .int .i64 0, .int .i64 4, .int .i64 5, .string ⟨#[]⟩, .slice none 0 0, .int .i64 3, .int .i64 1, .int .i64 1, .int .i64 0, .int .i64 0, .int .i64 0, .string ⟨#[]⟩, .int .i64 1, .int .i64 1, .int .i64 0, .int .i64 0, .string ⟨#[]⟩, .slice none 0 0] 64)) 64 #[.int .i64 4, .int .i64 0, .int .i64 0, .int .i64 0, .int .i64 0, .int .i64 0, .string ⟨#[]⟩, .int .i64 0, .int .i64 0, .int .i64 0, .int .i64 0, .string ⟨#[]⟩, .slice (some ⟨X, 0, none⟩) 2 2])
 replace HP := zH (HP.out.below ((Below.refl _ _).alloc (Nat.le_refl _) (.cells #[.int .i64 4, .int .i64 0, .int .i64 0, .int .i64 0, .int .i64 0, .int .i64 0, .string ⟨#[]⟩, .int .i64 0, .int .i64 0, .int .i64 0, .int .i64 0, .string ⟨#[]⟩, .slice (some ⟨X, 0, none⟩) 2 2] 64)))
 obtain ⟨Y, HY⟩ : ∃ z, Hid (X + 1 = z) := ⟨_, rfl⟩
 rw [World.size_alloc, World.size_alloc, HX.out, HY.out] at HV
 go_enter Tryz.func34, Tryz.ntmps34
 go_upto_region 1 with fail
 go_upto_region 2 with fail
 go_upto_region 3 with fail
 rw [HX.out, HY.out]
 generalize hWW : ((w.alloc (.cells #[.int .i64 3, .int .i64 0, .int .i64 4, .int .i64 5, .string ⟨#[]⟩] 61)).alloc (.cells #[.int .i64 3, .int .i64 3, .int .i64 1, .int .i64 0, .int .i64 0, .int .i64 0, .string ⟨#[]⟩, .int .i64 3, .int .i64 0, .int .i64 4, .int .i64 5, .string ⟨#[]⟩, .slice none 0 0, .int .i64 3, .int .i64 1, .int .i64 1, .int .i64 0, .int .i64 0, .int .i64 0, .string ⟨#[]⟩, .int .i64 1, .int .i64 1, .int .i64 0, .int .i64 0, .string ⟨#[]⟩, .slice none 0 0] 64)).alloc (.cells #[.int .i64 4, .int .i64 0, .int .i64 0, .int .i64 0, .int .i64 0, .int .i64 0, .string ⟨#[]⟩, .int .i64 0, .int .i64 0, .int .i64 0, .int .i64 0, .string ⟨#[]⟩, .slice (some ⟨X, 0, none⟩) 2 2] 64) = w1 at *
 clear hWW HX HY
 have hal : Below w1.heap.size w1 (w1.alloc (.cells #[.int .i64 4, .int .i64 4] 3)) := (Below.refl _ _).alloc (Nat.le_refl _) _
 have zx := (HV.out.below hal).cell
 go_wp2_with fail
 refine (bregions_any [4, 4] exP (some ⟨X, 0, none⟩) 2 2 (some ⟨w1.heap.size, 0, none⟩) 2 2 _ (HP.out.below hal).s (sl_blk (sz := 1) (cs := i64c) (l := [4, 4]) (Blk.new w1 3 #[.int .i64 4, .int .i64 4]) (fun _ => rfl) rfl) (by omega) ex_wf).mono ?_
 rintro e w2 ⟨xa, fa, Aa, na, ca, xb, fb, Ab, nb, cb, rfl, hSa, hSb, hb2⟩
 rw [ex_bd.1]
 rw [ex_bd.2.1] at hSa hSb
 obtain rfl : 2 = xa := by rw [← hSa.hw]; exact ex_I.1.symm
 obtain rfl : 0 = na := by rw [hSa.len]; exact ex_I.2.symm
 have HSb := zH hSb
 replace HB := zH (Below.next (Below.next HB.out hal) hb2)
 clear HP HV zx hal hb2 hSa hSb
 have hal : Below w2.heap.size w2 (w2.alloc (.cells #[.int .i64 2, .bool fa, .slice Aa 0 ca] 71)) := (Below.refl _ _).alloc (Nat.le_refl _) _
 have HVa := zH (Blk.new w2 71 #[.int .i64 2, .bool fa, .slice Aa 0 ca])
 obtain ⟨Va, HXa⟩ : ∃ z, Hid (w2.heap.size = z) := ⟨_, rfl⟩
 rw [HXa.out] at HVa
 replace HSb := zH (HSb.out.keep (keeps_of hal))
 replace HB := zH (Below.next HB.out hal)
 clear hal
 have hal : Below (w2.alloc (.cells #[.int .i64 2, .bool fa, .slice Aa 0 ca] 71)).heap.size (w2.alloc (.cells #[.int .i64 2, .bool fa, .slice Aa 0 ca] 71)) ((w2.alloc (.cells #[.int .i64 2, .bool fa, .slice Aa 0 ca] 71)).alloc (.cells #[.int .i64 xb, .bool fb, .slice Ab nb cb] 71)) := (Below.refl _ _).alloc (Nat.le_refl _) _
 have HVb := zH (Blk.new (w2.alloc (.cells #[.int .i64 2, .bool fa, .slice Aa 0 ca] 71)) 71 #[.int .i64 xb, .bool fb, .slice Ab nb cb])
 obtain ⟨Vb, HXb⟩ : ∃ z, Hid (Va + 1 = z) := ⟨_, rfl⟩
 rw [World.size_alloc, HXa.out, HXb.out] at HVb
 replace HSb := zH (HSb.out.keep (keeps_of hal))
 replace HVa := zH (HVa.out.below hal)
 replace HB := zH (Below.next HB.out hal)
 clear hal
 go_upto_region 4 with fail
 rw [HXa.out, HXb.out]
 generalize hWW : (w2.alloc (.cells #[.int .i64 2, .bool fa, .slice Aa 0 ca] 71)).alloc (.cells #[.int .i64 xb, .bool fb, .slice Ab nb cb] 71) = w5 at *
 clear hWW HXa HXb
 have za := HVa.out.cell
 have zb1 := HVb.out.cell
 go_wp2_with fail
 have hal1 : Below w5.heap.size w5 (w5.alloc (.cells #[.int .i64 4, .int .i64 4, .string ⟨#[]⟩, .int .i64 4, .int .i64 0, .string ⟨#[]⟩] 59)) := (Below.refl _ _).alloc (Nat.le_refl _) _
 refine (ghas_any exO xb fb Ab nb cb [⟨4, 4, ⟨#[]⟩⟩, ⟨4, 0, ⟨#[]⟩⟩] (some ⟨w5.heap.size, 0, none⟩) 2 2 _ (HSb.out.keep (keeps_of hal1)) (sl_blk (sz := 3) (cs := Vl.cs) (l := [⟨4, 4, ⟨#[]⟩⟩, ⟨4, 0, ⟨#[]⟩⟩]) (Blk.new w5 59 #[.int .i64 4, .int .i64 4, .string ⟨#[]⟩, .int .i64 4, .int .i64 0, .string ⟨#[]⟩]) (fun _ => rfl) rfl)).mono ?_
 rintro e v1 ⟨rfl, hv1⟩
 rw [ex_has.1]
 replace HB := zH (Below.next (Below.next HB.out hal1) hv1)
 replace HSb := zH ((HSb.out.keep (keeps_of hal1)).keep (keeps_of hv1))
 replace HVb := zH ((HVb.out.below hal1).below hv1)
 clear zb1 hal1 hv1
 clear za
 have zb2 := HVb.out.cell
 go_wp2_with fail
 have hal2 : Below v1.heap.size v1 (v1.alloc (.cells #[.int .i64 4, .int .i64 5, .string ⟨#[]⟩, .int .i64 4, .int .i64 0, .string ⟨#[]⟩] 59)) := (Below.refl _ _).alloc (Nat.le_refl _) _
 refine (ghas_any exO xb fb Ab nb cb [⟨4, 5, ⟨#[]⟩⟩, ⟨4, 0, ⟨#[]⟩⟩] (some ⟨v1.heap.size, 0, none⟩) 2 2 _ (HSb.out.keep (keeps_of hal2)) (sl_blk (sz := 3) (cs := Vl.cs) (l := [⟨4, 5, ⟨#[]⟩⟩, ⟨4, 0, ⟨#[]⟩⟩]) (Blk.new v1 59 #[.int .i64 4, .int .i64 5, .string ⟨#[]⟩, .int .i64 4, .int .i64 0, .string ⟨#[]⟩]) (fun _ => rfl) rfl)).mono ?_
 rintro e v2 ⟨rfl, hv2⟩
 rw [ex_has.2]
 replace HB := zH (Below.next (Below.next HB.out hal2) hv2)
 replace HSb := zH ((HSb.out.keep (keeps_of hal2)).keep (keeps_of hv2))
 replace HVb := zH ((HVb.out.below hal2).below hv2)
 clear zb2 hal2 hv2
 go_wp2
 go_ret
 exact ⟨rfl, HB.out⟩
end Go.Proofs.YtnnmlhmffnfjfaaGreat
namespace Go.Proofs.YtnnmlhmffnfjfaaGreat
open Go.RowKit
open Pd
set_option maxHeartbeats 8000000 in
theorem crossed_any : ∀ (N : Nat) (p : Pd) (A : Option Addr) (n c : Nat) (w : World), p.nodes ≤ N → N ≤ 1000 → PrdS w A n c p →
 Calls Tryz.prog 45 #[.agg (pdV p.h A n c)] w fun e w' => e = .returned (.bool (crB p)) ∧ Below w.heap.size w w' := by
 intro N
 induction N with
 | zero => intro p A n c w hN; have := nodes_pos p; omega
 | succ N ih =>
   intro p A n c w hN hN2 hs
   have IH := zH ih
   have HN : Hid (p.nodes ≤ N + 1 ∧ N + 1 ≤ 1000) := zH ⟨hN, hN2⟩
   have Hlen := zH hs.len
   have hn1 : n ≤ 1000 := by have := len_lt p; have := hs.len; omega
   obtain ⟨rr, Hrr⟩ : ∃ z, Hid (crB p = z) := ⟨_, rfl⟩
   rw [Hrr.out]
   unfold pdV
   have HS := zH (hs.keep (keeps_alloc w (.cells #[.int .i64 p.h.op, .int .i64 p.h.cm, .int .i64 p.h.l.k, .int .i64 p.h.l.ix, .int .i64 p.h.l.v.k, .int .i64 p.h.l.v.i, .string p.h.l.v.t, .int .i64 p.h.r.k, .int .i64 p.h.r.ix, .int .i64 p.h.r.v.k, .int .i64 p.h.r.v.i, .string p.h.r.v.t, .slice A n c] 64)))
   have HB := zH ((Below.refl w.heap.size w).alloc (Nat.le_refl _) (.cells #[.int .i64 p.h.op, .int .i64 p.h.cm, .int .i64 p.h.l.k, .int .i64 p.h.l.ix, .int .i64 p.h.l.v.k, .int .i64 p.h.l.v.i, .string p.h.l.v.t, .int .i64 p.h.r.k, .int .i64 p.h.r.ix, .int .i64 p.h.r.v.k, .int .i64 p.h.r.v.i, .string p.h.r.v.t, .slice A n c] 64))
   have HX := zH (Blk.new w 64 #[.int .i64 p.h.op, .int .i64 p.h.cm, .int .i64 p.h.l.k, .int .i64 p.h.l.ix, .int .i64 p.h.l.v.k, .int .i64 p.h.l.v.i, .string p.h.l.v.t, .int .i64 p.h.r.k, .int .i64 p.h.r.ix, .int .i64 p.h.r.v.k, .int .i64 p.h.r.v.i, .string p.h.r.v.t, .slice A n c])
   clear ih hN hN2 hs
   go_enter Tryz.func45, Tryz.ntmps45
   go_upto_region 1 with fail
   obtain ⟨X, HXe⟩ : ∃ z, Hid (w.heap.size = z) := ⟨_, rfl⟩
   rw [HXe.out] at HX
   rw [HXe.out]
   generalize hW1 : w.alloc (.cells #[.int .i64 p.h.op, .int .i64 p.h.cm, .int .i64 p.h.l.k, .int .i64 p.h.l.ix, .int .i64 p.h.l.v.k, .int .i64 p.h.l.v.i, .string p.h.l.v.t, .int .i64 p.h.r.k, .int .i64 p.h.r.ix, .int .i64 p.h.r.v.k, .int .i64 p.h.r.v.i, .string p.h.r.v.t, .slice A n c] 64) = w1 at *
   clear hW1 HXe
   have zx := HX.out.cell
   obtain ⟨ch, Hch⟩ : ∃ z, Hid (crH p.h = z) := ⟨_, rfl⟩
   have Hd : Hid (ch = decide (p.h.op = 3 ∧ p.h.l.k = 1 ∧ p.h.r.k = 1 ∧ p.h.l.ix ≠ p.h.r.ix)) := zH Hch.out.symm
   go_cut [27] from 4 (fun b wc => wc = w1 ∧ b = .bool ch)
   case first =>
    obtain ⟨op, Hop⟩ : ∃ z, Hid (p.h.op = z) := ⟨_, rfl⟩
    obtain ⟨lk, Hlk⟩ : ∃ z, Hid (p.h.l.k = z) := ⟨_, rfl⟩
    obtain ⟨rk, Hrk⟩ : ∃ z, Hid (p.h.r.k = z) := ⟨_, rfl⟩
    obtain ⟨lx, Hlx⟩ : ∃ z, Hid (p.h.l.ix = z) := ⟨_, rfl⟩
    obtain ⟨rx, Hrx⟩ : ∃ z, Hid (p.h.r.ix = z) := ⟨_, rfl⟩
    rw [Hop.out, Hlk.out, Hrk.out, Hlx.out, Hrx.out] at Hd zx
    by_cases h1 : op = 3
    · by_cases h2 : lk = 1
      · by_cases h3 : rk = 1
        · by_cases h4 : lx = rx
          · obtain rfl : ch = false := by rw [Hd.out]; exact decide_eq_false fun h => h.2.2.2 h4
            subst h1 h2 h3 h4
            go_wp2
            go_meet
            case rel => exact ⟨rfl, rfl⟩
          · obtain rfl : ch = true := by rw [Hd.out]; exact decide_eq_true ⟨h1, h2, h3, h4⟩
            have g4 : (lx != rx) = true := by simpa using h4
            subst h1 h2 h3
            clear h4
            go_wp2
            go_meet
            case rel => exact ⟨rfl, rfl⟩
        · obtain rfl : ch = false := by rw [Hd.out]; exact decide_eq_false fun h => h3 h.2.2.1
          have g3 : (rk == 1) = false := by simpa using h3
          subst h1 h2
          clear h3
          go_wp2
          go_meet
          case rel => exact ⟨rfl, rfl⟩
      · obtain rfl : ch = false := by rw [Hd.out]; exact decide_eq_false fun h => h2 h.2.1
        have g2 : (lk == 1) = false := by simpa using h2
        subst h1
        clear h2
        go_wp2
        go_meet
        case rel => exact ⟨rfl, rfl⟩
    · obtain rfl : ch = false := by rw [Hd.out]; exact decide_eq_false fun h => h1 h.1
      have g1 : (op == 3) = false := by simpa using h1
      clear h1
      go_wp2
      go_meet
      case rel => exact ⟨rfl, rfl⟩
   case rest =>
   obtain ⟨rfl, rfl⟩ := hcut
   clear Hd
   cases ch
   rotate_left
   · obtain rfl : true = rr := by rw [← Hrr.out]; unfold crB; rw [Hch.out]; rfl
     go_wp2
     go_ret
     exact ⟨rfl, HB.out⟩
   have H0 : Hid (crA (p.rest 0) = rr) := zH (by rw [rest_zero, ← Hrr.out]; unfold crB; rw [Hch.out]; rfl)
   clear Hrr Hch
   obtain ⟨w1, Hw1⟩ : ∃ z, z = wc := ⟨_, rfl⟩
   subst Hw1
   go_wp2_with fail
   go_loopw [31] (fun i wr => ∃ k : Nat, k ≤ n ∧ i = .int .i64 (k : Int) ∧ Hid (crA (p.rest k) = rr) ∧ Hid (Below w1.heap.size w1 wr)) (fun i _ => n - (intOf i).toNat)
   case atStart => exact ⟨0, by omega, rfl, H0, zH (Below.refl _ _)⟩
   case round =>
    obtain ⟨k, hk, rfl, Hq, HM⟩ := hrel
    clear zx H0
    have zx := (HX.out.below HM.out).cell
    by_cases hlt : k < n
    · have HSk := zH (HS.out.keep (keeps_of HM.out))
      obtain ⟨b', o', q, A1, n1, c1, rfl, hq, d⟩ := HSk.out.at hlt
      have HSq := zH d.s
      obtain ⟨d0, d1, d2, d3, d4, d5, d6, d7, d8, d9, d10, d11, d12, ds⟩ := d
      have Hqn := zH (at_nodes hq)
      have Hst := zH (cr_rest hq)
      clear ds hq HSk
      go_wp2_with fail
      refine (IH.out q A1 n1 c1 _ (by have := Hqn.out; have := HN.out; omega) (by have := HN.out; omega) HSq.out).mono ?_
      rintro e w4 ⟨rfl, hb4⟩
      have HM4 := zH (Below.next HM.out hb4)
      obtain ⟨d, Hd⟩ : ∃ z, Hid (crB q = z) := ⟨_, rfl⟩
      rw [Hd.out]
      clear hb4 zx d0 d1 d2 d3 d4 d5 d6 d7 d8 d9 d10 d11 d12
      cases d
      · have Hn : Hid (crA (p.rest (k + 1)) = rr) := zH (by rw [← Hq.out, Hst.out, Hd.out]; rfl)
        go_wp2
        go_roundw
        case rel => exact ⟨k + 1, by omega, by go_num, Hn, HM4⟩
        case measure => simp [intOf]; omega
      · obtain rfl : true = rr := by rw [← Hq.out, Hst.out, Hd.out]; rfl
        go_wp2
        go_ret
        exact ⟨rfl, Below.next HB.out HM4.out⟩
    · obtain rfl : false = rr := by
       rw [← Hq.out, rest_end (by rw [← Hlen.out]; omega)]
       rfl
      clear Hq
      go_wp2
      go_ret
      exact ⟨rfl, Below.next HB.out HM.out⟩
end Go.Proofs.YtnnmlhmffnfjfaaGreat
namespace Go.Proofs.YtnnmlhmffnfjfaaGreat
open Go.RowKit
open Rg
structure BxJ (w : World) (V : Nat) (x : Int) (f : Bool) (A : Option Addr) (n c : Nat) (r : Rg) : Prop where
 b : Blk w V 71 #[.int .i64 x, .bool f, .slice A n c]
 s : RgS w x f A n c r
 wf : WfR r
section
variable {w w' : World} {V : Nat} {x : Int} {f : Bool} {A : Option Addr} {n c : Nat} {r : Rg}
theorem BxJ.case {g : Nat} (h : BxJ w V x f A n c r) (hc : CaseAt w g) (hb : But (· = g) w w') : BxJ w' V x f A n c r := ⟨h.b.but hb (hc.ne h.b (by decide)), h.s.case hc hb, h.wf⟩
theorem BxJ.below (h : BxJ w V x f A n c r) (hb : Below w.heap.size w w') : BxJ w' V x f A n c r := ⟨h.b.below hb, h.s.keep (keeps_of hb), h.wf⟩
theorem BxJ.alloc (h : BxJ w V x f A n c r) (o : Obj) : BxJ (w.alloc o) V x f A n c r := ⟨h.b.alloc o, h.s.keep (keeps_alloc w o), h.wf⟩
theorem BxJ.off (h : BxJ w V x f A n c r) {B : Nat} {x' : Int} {f' : Bool} {A' : Option Addr} {n' c' : Nat} (hB : Blk w B 71 #[.int .i64 x', .bool f', .slice A' n' c']) (hb : But (· = B) w w') (hne : V ≠ B) : BxJ w' V x f A n c r := ⟨h.b.but hb hne, h.s.off hB hb, h.wf⟩
theorem BxJ.put {x' : Int} {f' : Bool} {A' : Option Addr} {n' c' : Nat} {r' : Rg} (h : BxJ w V x f A n c r) (hr : RgS w x' f' A' n' c' r') (hw : WfR r') : BxJ (put3R w V (.int .i64 x') (.bool f') (.slice A' n' c')) V x' f' A' n' c' r' :=
 ⟨put3R_blk h.b, hr.off h.b (put3R_but _ _ _ _ _), hw⟩
end
structure ClJ (B g : Nat) (w : World) (A : Option Addr) (n : Nat) (cs : List Int) : Prop where
 sl : ClS w A n cs
 ne : 0 < n → ∀ b o, A = some ⟨b, o, none⟩ → b ≠ g ∧ (b < B ∨ ∃ cells, w.heap[b]? = some (.cells cells 3 (0, 0)))
section
variable {B g : Nat} {w w' : World} {A : Option Addr} {n : Nat} {cs : List Int}
theorem ClJ.but {S : Nat → Prop} (h : ClJ B g w A n cs) (hb : But S w w') (hs : ∀ b o, 0 < n → A = some ⟨b, o, none⟩ → ¬ S b) : ClJ B g w' A n cs :=
 ⟨h.sl.but hb (fun hn b o hA => hs b o hn hA), fun hn b o hA => ⟨(h.ne hn b o hA).1, by
  rcases (h.ne hn b o hA).2 with h1 | ⟨cells, h1⟩
  · exact .inl h1
  · refine .inr ⟨cells, ?_⟩
    have hlt : b < w.heap.size := by
     rcases Nat.lt_or_ge b w.heap.size with h2 | h2
     · exact h2
     · rw [Array.getElem?_eq_none h2] at h1; cases h1
    rw [hb.block b hlt (hs b o hn hA)]
    exact h1⟩⟩
theorem ClJ.case (h : ClJ B g w A n cs) (hb : But (· = g) w w') : ClJ B g w' A n cs := h.but hb fun b o hn hA => (h.ne hn b o hA).1
theorem ClJ.below (h : ClJ B g w A n cs) (hb : Below w.heap.size w w') : ClJ B g w' A n cs := h.but (S := fun _ => False) (But.of_below hb) fun _ _ _ _ h => h
theorem ClJ.off (h : ClJ B g w A n cs) {V : Nat} {x : Int} {f : Bool} {v : Value} (hB : Blk w V 71 #[.int .i64 x, .bool f, v]) (hV : B ≤ V) (hb : But (· = V) w w') : ClJ B g w' A n cs := h.but hb fun b o hn hA e => by
 rcases (h.ne hn b o hA).2 with h1 | ⟨cells, h1⟩
 · omega
 · subst e
   unfold Blk at hB
   rw [hB] at h1
   injection h1 with h1
   injection h1 with _ h1
   exact absurd h1 (by decide)
end
structure PjS (w : World) (g Va Vw : Nat) (xa : Int) (fa : Bool) (Aa : Option Addr) (na ca : Nat) (ra : Rg) (xw : Int) (fw : Bool) (Aw : Option Addr) (nw cw : Nat) (rw_ : Rg) (Al : Option Addr) (nl : Nat) (cs : List Int) (wr : World) : Prop where
 a : BxJ wr Va xa fa Aa na ca ra
 r : BxJ wr Vw xw fw Aw nw cw rw_
 kk : CaseAt wr g
 cl : ClJ w.heap.size g wr Al nl cs
 bel : Below w.heap.size w wr
 hg : w.heap.size ≤ g
 hVa : w.heap.size ≤ Va
 hra : Va ≠ Vw
section
variable {w wr w' : World} {g Va Vw : Nat} {xa : Int} {fa : Bool} {Aa : Option Addr} {na ca : Nat} {ra : Rg} {xw : Int} {fw : Bool} {Aw : Option Addr} {nw cw : Nat} {rw_ : Rg} {Al : Option Addr} {nl : Nat} {cs : List Int}
theorem PjS.case (h : PjS w g Va Vw xa fa Aa na ca ra xw fw Aw nw cw rw_ Al nl cs wr) (hc : CaseAt w' g) (hb : But (· = g) wr w') : PjS w g Va Vw xa fa Aa na ca ra xw fw Aw nw cw rw_ Al nl cs w' :=
 ⟨h.a.case h.kk hb, h.r.case h.kk hb, hc, h.cl.case hb, hb.below h.bel h.bel.size (fun k hk => by subst hk; exact h.hg), h.hg, h.hVa, h.hra⟩
end
structure PjT (w : World) (g : Nat) (Al : Option Addr) (nl : Nat) (cs : List Int) (wr : World) : Prop where
 kk : CaseAt wr g
 cl : ClJ w.heap.size g wr Al nl cs
 bel : Below w.heap.size w wr
 hg : w.heap.size ≤ g
end Go.Proofs.YtnnmlhmffnfjfaaGreat
