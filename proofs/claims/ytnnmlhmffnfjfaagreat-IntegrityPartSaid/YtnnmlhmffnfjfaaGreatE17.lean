/-
  Texts: PdH1, PdH, IgName.
-/
import Derived.Test.YtnnmlhmffnfjfaaGreatE16
import Derived.Lib.Strings
set_option linter.unusedVariables false
/-
  The program's Holds: a comparison.
-/
namespace Go.Proofs.YtnnmlhmffnfjfaaGreat
open Go.RowKit
set_option maxRecDepth 100000
open Pd
set_option linter.unusedVariables false

def valC (v : Vl) : Array Value := #[.int .i64 v.k, .int .i64 v.i, .string v.t]
/-- two values denoted and laid in blocks of their own, in any order -/
structure TwoV (W0 : World) (dl dr : Vl) (d : Nat → Bool) (us : Nat → Value) (w : World) : Prop where
  be : Below W0.heap.size W0 w
  c1 : d 4 = true → us 24 = .agg (valC dl)
  c2 : d 9 = true → us 29 = .agg (valC dr)
  a1 : d 10 = true → ∃ B, us 7 = .pointer (some ⟨B, 0, none⟩) ∧ W0.heap.size ≤ B ∧ Blk w B 59 (if d 12 = true then valC dl else valC zeroV)
  a2 : d 11 = true → ∃ B, us 8 = .pointer (some ⟨B, 0, none⟩) ∧ W0.heap.size ≤ B ∧ Blk w B 59 (if d 13 = true then valC dr else valC zeroV)
  s1 : d 12 = true → d 10 = true
  s2 : d 13 = true → d 11 = true
  ne : d 10 = true → d 11 = true → ∀ B C, us 7 = .pointer (some ⟨B, 0, none⟩) → us 8 = .pointer (some ⟨C, 0, none⟩) → B ≠ C
theorem upd_h {d : Nat → Bool} {e j : Nat} (hne : j ≠ e) (h : updD d e j = true) : d j = true := by rwa [updD_ne hne] at h
theorem set3_blk {w : World} {B : Nat} {T : TypeId} {v : Vl} (h : Blk w B T (valC zeroV)) : Blk (((w.setCell ⟨B, 0, none⟩ (.int .i64 v.k)).setCell ⟨B, 1, none⟩ (.int .i64 v.i)).setCell ⟨B, 2, none⟩ (.string v.t)) B T (valC v) := ((h.set_ 0 (.int .i64 v.k)).set_ 1 (.int .i64 v.i)).set_ 2 (.string v.t)
theorem set3_far {w : World} {B C : Nat} {T : TypeId} {cs : Array Value} {x y z : Value} (h : Blk w C T cs) (hne : B ≠ C) : Blk (((w.setCell ⟨B, 0, none⟩ x).setCell ⟨B, 1, none⟩ y).setCell ⟨B, 2, none⟩ z) C T cs := ((h.far (p := ⟨B, 0, none⟩) (fun e => hne e.symm) x).far (p := ⟨B, 1, none⟩) (fun e => hne e.symm) y).far (p := ⟨B, 2, none⟩) (fun e => hne e.symm) z
theorem set3_below {W0 w : World} {n B : Nat} {x y z : Value} (h : Below n W0 w) (hB : n ≤ B) : Below n W0 (((w.setCell ⟨B, 0, none⟩ x).setCell ⟨B, 1, none⟩ y).setCell ⟨B, 2, none⟩ z) := ((h.setCell (p := ⟨B, 0, none⟩) hB x).setCell (p := ⟨B, 1, none⟩) hB y).setCell (p := ⟨B, 2, none⟩) hB z
set_option maxHeartbeats 4000000 in
theorem hcmp_any (row ps : List Vl) (cm : Int) (l r : Od) (A : Option Addr) (n c : Nat) (Ar : Option Addr) (nr cr : Nat) (Ap : Option Addr) (np cp : Nat) (w : World) (hr : VlS w Ar nr row) (hp : VlS w Ap np ps) :
    Calls Tryz.prog 37 #[.agg (pdV ⟨3, cm, l, r⟩ A n c), .slice Ar nr cr, .slice Ap np cp] w fun e w' => e = .returned (.bool (cmpOk cm (dnV row ps l) (dnV row ps r))) ∧ Below w.heap.size w w' := by
  obtain ⟨rr, Hrr⟩ : ∃ z, Hid (cmpOk cm (dnV row ps l) (dnV row ps r) = z) := ⟨_, rfl⟩
  rw [Hrr.out]
  obtain ⟨dl, Hdl⟩ : ∃ z, Hid (dnV row ps l = z) := ⟨_, rfl⟩
  obtain ⟨dr, Hdr⟩ : ∃ z, Hid (dnV row ps r = z) := ⟨_, rfl⟩
  rw [Hdl.out, Hdr.out] at Hrr
  unfold pdV
  have HR := Lib.hid (hr.keep (keeps_alloc w (.cells #[.int .i64 3, .int .i64 cm, .int .i64 l.k, .int .i64 l.ix, .int .i64 l.v.k, .int .i64 l.v.i, .string l.v.t, .int .i64 r.k, .int .i64 r.ix, .int .i64 r.v.k, .int .i64 r.v.i, .string r.v.t, .slice A n c] 64)))
  have HP := Lib.hid (hp.keep (keeps_alloc w (.cells #[.int .i64 3, .int .i64 cm, .int .i64 l.k, .int .i64 l.ix, .int .i64 l.v.k, .int .i64 l.v.i, .string l.v.t, .int .i64 r.k, .int .i64 r.ix, .int .i64 r.v.k, .int .i64 r.v.i, .string r.v.t, .slice A n c] 64)))
  have HX := Lib.hid (Blk.new w 64 #[.int .i64 3, .int .i64 cm, .int .i64 l.k, .int .i64 l.ix, .int .i64 l.v.k, .int .i64 l.v.i, .string l.v.t, .int .i64 r.k, .int .i64 r.ix, .int .i64 r.v.k, .int .i64 r.v.i, .string r.v.t, .slice A n c])
  have HB := Lib.hid ((Below.refl w.heap.size w).alloc (Nat.le_refl _) (.cells #[.int .i64 3, .int .i64 cm, .int .i64 l.k, .int .i64 l.ix, .int .i64 l.v.k, .int .i64 l.v.i, .string l.v.t, .int .i64 r.k, .int .i64 r.ix, .int .i64 r.v.k, .int .i64 r.v.i, .string r.v.t, .slice A n c] 64))
  clear hr hp
  go_enter Tryz.func37, Tryz.ntmps37
  go_upto_region 1 with fail
  obtain ⟨X, HXe⟩ : ∃ z, Hid (w.heap.size = z) := ⟨_, rfl⟩
  rw [HXe.out] at HX
  rw [HXe.out]
  generalize hW : w.alloc (.cells #[.int .i64 3, .int .i64 cm, .int .i64 l.k, .int .i64 l.ix, .int .i64 l.v.k, .int .i64 l.v.i, .string l.v.t, .int .i64 r.k, .int .i64 r.ix, .int .i64 r.v.k, .int .i64 r.v.i, .string r.v.t, .slice A n c] 64) = w1 at *
  clear hW
  have hXlt : X < w1.heap.size := HX.out.lt
  have zx := HX.out.cell
  go_upto_region 5 with fail
  clear zx
  refine wp_region_inv (lessB w1.heap.size) (lessB_trans _) [24, 29, 7, 8] [0, 1, 2, 3, 5, 6, 7, 8] [4, 9, 10, 11, 12, 13] (TwoV w1.drew dl dr) (by kernel_rfl) (by kernel_rfl) (fun _ _ d _ _ h => by cases d <;> exact h) ?_
  have HXd := Lib.hid HX.out.drew
  have HRd := Lib.hid (HR.out.keep (keeps_of (Below.refl w1.heap.size w1).drew))
  have HPd := Lib.hid (HP.out.keep (keeps_of (Below.refl w1.heap.size w1).drew))
  have qa : ∀ (y : LaterR (lessB w1.heap.size) w1.drew) z, (afterR (lessB w1.heap.size) w1.drew y).cell? ⟨X, z, none⟩ = (#[.int .i64 3, .int .i64 cm, .int .i64 l.k, .int .i64 l.ix, .int .i64 l.v.k, .int .i64 l.v.i, .string l.v.t, .int .i64 r.k, .int .i64 r.ix, .int .i64 r.v.k, .int .i64 r.v.i, .string r.v.t, .slice A n c] : Array Value)[z]? := fun y z => y.cell (HXd.out.cell z) (fun W h => (keep_blk HXd.out h hXlt).cell z)
  simp only [pickOps, opAt, List.map_cons, List.map_nil, List.getElem?_toArray, List.getElem?_cons_zero, List.getElem?_cons_succ, Option.getD_some]
  repeat (go_big_quiet_step (fail))
  refine wpQuiet_nil ?_
  clear qa
  refine ⟨by kernel_rfl, ⟨Below.refl _ _, fun h => (by cases h), fun h => (by cases h), fun h => (by cases h), fun h => (by cases h), fun h => (by cases h), fun h => (by cases h), fun h => (by cases h)⟩, ?_, ?_⟩
  · refine ⟨?_, ?_, ?_, ?_, ?_, ?_, trivial⟩
    · intro d us w2 hd hdep hI
      replace hI := Lib.hid hI
      clear hdep
      simp only [opAt, List.getElem?_toArray, List.getElem?_cons_zero, List.getElem?_cons_succ, Option.getD_some, overU, List.foldl]
      go_wp2_with fail
      refine (denoted_any row ps l Ar nr cr Ap np cp _ (HRd.out.keep (keeps_of hI.out.be)) (HPd.out.keep (keeps_of hI.out.be))).mono ?_
      rintro e w3 ⟨rfl, hb⟩
      rw [Hdl.out]
      go_wp2_with fail
      refine ⟨⟨lessB_of hb hI.out.be.size, Below.next hI.out.be hb, fun _ => rfl, fun h => hI.out.c2 (upd_h (by decide) h), fun h => ?_, fun h => ?_, fun h => by rw [updD_ne (by decide)]; exact hI.out.s1 (upd_h (by decide) h), fun h => by rw [updD_ne (by decide)]; exact hI.out.s2 (upd_h (by decide) h), fun h h' B C e1 e2 => hI.out.ne (upd_h (by decide) h) (upd_h (by decide) h') B C e1 e2⟩, by kernel_rfl⟩
      · obtain ⟨B, h1, h2, h3⟩ := hI.out.a1 (upd_h (by decide) h)
        exact ⟨B, h1, h2, by rw [updD_ne (by decide)]; exact h3.below hb⟩
      · obtain ⟨B, h1, h2, h3⟩ := hI.out.a2 (upd_h (by decide) h)
        exact ⟨B, h1, h2, by rw [updD_ne (by decide)]; exact h3.below hb⟩
    · intro d us w2 hd hdep hI
      replace hI := Lib.hid hI
      clear hdep
      simp only [opAt, List.getElem?_toArray, List.getElem?_cons_zero, List.getElem?_cons_succ, Option.getD_some, overU, List.foldl]
      go_wp2_with fail
      refine (denoted_any row ps r Ar nr cr Ap np cp _ (HRd.out.keep (keeps_of hI.out.be)) (HPd.out.keep (keeps_of hI.out.be))).mono ?_
      rintro e w3 ⟨rfl, hb⟩
      rw [Hdr.out]
      go_wp2_with fail
      refine ⟨⟨lessB_of hb hI.out.be.size, Below.next hI.out.be hb, fun h => hI.out.c1 (upd_h (by decide) h), fun _ => rfl, fun h => ?_, fun h => ?_, fun h => by rw [updD_ne (by decide)]; exact hI.out.s1 (upd_h (by decide) h), fun h => by rw [updD_ne (by decide)]; exact hI.out.s2 (upd_h (by decide) h), fun h h' B C e1 e2 => hI.out.ne (upd_h (by decide) h) (upd_h (by decide) h') B C e1 e2⟩, by kernel_rfl⟩
      · obtain ⟨B, h1, h2, h3⟩ := hI.out.a1 (upd_h (by decide) h)
        exact ⟨B, h1, h2, by rw [updD_ne (by decide)]; exact h3.below hb⟩
      · obtain ⟨B, h1, h2, h3⟩ := hI.out.a2 (upd_h (by decide) h)
        exact ⟨B, h1, h2, by rw [updD_ne (by decide)]; exact h3.below hb⟩
    · intro d us w2 hd hdep hI
      replace hI := Lib.hid hI
      clear hdep
      simp only [opAt, List.getElem?_toArray, List.getElem?_cons_zero, List.getElem?_cons_succ, Option.getD_some, overU, List.foldl]
      go_wp2_with fail
      refine ⟨⟨(Below.refl _ _).alloc hI.out.be.size _, hI.out.be.alloc hI.out.be.size _, fun h => hI.out.c1 (upd_h (by decide) h), fun h => hI.out.c2 (upd_h (by decide) h), fun h => ?_, fun h => ?_, fun h => by rw [updD_self], fun h => by rw [updD_ne (by decide)]; exact hI.out.s2 (upd_h (by decide) h), fun h h' B C' e1 e2 => ?_⟩, by kernel_rfl⟩
      · refine ⟨w2.heap.size, rfl, hI.out.be.size, ?_⟩
        rw [updD_ne (by decide), if_neg (fun h => by have := hI.out.s1 h; rw [hd] at this; cases this)]
        exact Blk.new w2 59 (valC zeroV)
      · obtain ⟨B, h1, h2, h3⟩ := hI.out.a2 (upd_h (by decide) h)
        exact ⟨B, h1, h2, by rw [updD_ne (by decide)]; exact h3.alloc _⟩
      · obtain ⟨C, h1, h2, h3⟩ := hI.out.a2 (upd_h (by decide) h')
        have hlt := h3.lt
        have e3 : (.pointer (some ⟨w2.heap.size, 0, none⟩) : Value) = .pointer (some ⟨B, 0, none⟩) := e1
        have e4 : (.pointer (some ⟨C, 0, none⟩) : Value) = .pointer (some ⟨C', 0, none⟩) := h1.symm.trans e2
        injection e3 with e3
        injection e3 with e3
        injection e3 with e3
        injection e4 with e4
        injection e4 with e4
        injection e4 with e4
        omega
    · intro d us w2 hd hdep hI
      replace hI := Lib.hid hI
      clear hdep
      simp only [opAt, List.getElem?_toArray, List.getElem?_cons_zero, List.getElem?_cons_succ, Option.getD_some, overU, List.foldl]
      go_wp2_with fail
      refine ⟨⟨(Below.refl _ _).alloc hI.out.be.size _, hI.out.be.alloc hI.out.be.size _, fun h => hI.out.c1 (upd_h (by decide) h), fun h => hI.out.c2 (upd_h (by decide) h), fun h => ?_, fun h => ?_, fun h => by rw [updD_ne (by decide)]; exact hI.out.s1 (upd_h (by decide) h), fun h => by rw [updD_self], fun h h' B C' e1 e2 => ?_⟩, by kernel_rfl⟩
      · obtain ⟨B, h1, h2, h3⟩ := hI.out.a1 (upd_h (by decide) h)
        exact ⟨B, h1, h2, by rw [updD_ne (by decide)]; exact h3.alloc _⟩
      · refine ⟨w2.heap.size, rfl, hI.out.be.size, ?_⟩
        rw [updD_ne (by decide), if_neg (fun h => by have := hI.out.s2 h; rw [hd] at this; cases this)]
        exact Blk.new w2 59 (valC zeroV)
      · obtain ⟨C, h1, h2, h3⟩ := hI.out.a1 (upd_h (by decide) h)
        have hlt := h3.lt
        have e3 : (.pointer (some ⟨w2.heap.size, 0, none⟩) : Value) = .pointer (some ⟨C', 0, none⟩) := e2
        have e4 : (.pointer (some ⟨C, 0, none⟩) : Value) = .pointer (some ⟨B, 0, none⟩) := h1.symm.trans e1
        injection e3 with e3
        injection e3 with e3
        injection e3 with e3
        injection e4 with e4
        injection e4 with e4
        injection e4 with e4
        omega
    · intro d us w2 hd hdep hI
      replace hI := Lib.hid hI
      obtain ⟨B, e7, hB, hblk⟩ := hI.out.a1 (hdep 10 (by decide) (by kernel_rfl))
      have e24 := hI.out.c1 (hdep 4 (by decide) (by kernel_rfl))
      rw [hd, if_neg (by decide)] at hblk
      have zb := Lib.hid hblk
      simp only [opAt, List.getElem?_toArray, List.getElem?_cons_zero, List.getElem?_cons_succ, Option.getD_some, overU, List.foldl]
      rw [e7, e24]
      unfold valC
      have zc := zb.out.cell
      have zf := zb.out.free
      clear hblk
      unfold valC at zc
      have He7 := Lib.hid e7
      have Hdep := Lib.hid hdep
      clear e7 e24 hdep
      go_wp2_with fail
      have e7 := He7.out
      have hdep := Hdep.out
      refine ⟨⟨set3_below (Below.refl _ _) hB, set3_below hI.out.be hB, fun _ => rfl, fun h => (hI.out.c2 (upd_h (by decide) h)), fun h => ?_, fun h => ?_, fun _ => by rw [updD_ne (by decide)]; exact hdep 10 (by decide) (by kernel_rfl), fun h => by rw [updD_ne (by decide)]; exact hI.out.s2 (upd_h (by decide) h), fun h h' B' C' e1 e2 => hI.out.ne (upd_h (by decide) h) (upd_h (by decide) h') B' C' (e7.trans e1) e2⟩, by kernel_rfl⟩
      · exact ⟨B, rfl, hB, by rw [updD_self, if_pos rfl]; exact set3_blk zb.out⟩
      · obtain ⟨C, h1, h2, h3⟩ := hI.out.a2 (upd_h (by decide) h)
        exact ⟨C, h1, h2, by rw [updD_ne (by decide)]; exact set3_far h3 (hI.out.ne (hdep 10 (by decide) (by kernel_rfl)) (upd_h (by decide) h) B C e7 h1)⟩
    · intro d us w2 hd hdep hI
      replace hI := Lib.hid hI
      obtain ⟨B, e7, hB, hblk⟩ := hI.out.a2 (hdep 11 (by decide) (by kernel_rfl))
      have e24 := hI.out.c2 (hdep 9 (by decide) (by kernel_rfl))
      rw [hd, if_neg (by decide)] at hblk
      have zb := Lib.hid hblk
      simp only [opAt, List.getElem?_toArray, List.getElem?_cons_zero, List.getElem?_cons_succ, Option.getD_some, overU, List.foldl]
      rw [e7, e24]
      unfold valC
      have zc := zb.out.cell
      have zf := zb.out.free
      clear hblk
      unfold valC at zc
      have He7 := Lib.hid e7
      have Hdep := Lib.hid hdep
      clear e7 e24 hdep
      go_wp2_with fail
      have e7 := He7.out
      have hdep := Hdep.out
      refine ⟨⟨set3_below (Below.refl _ _) hB, set3_below hI.out.be hB, fun h => (hI.out.c1 (upd_h (by decide) h)), fun _ => rfl, fun h => ?_, fun h => ?_, fun h => by rw [updD_ne (by decide)]; exact hI.out.s1 (upd_h (by decide) h), fun _ => by rw [updD_ne (by decide)]; exact hdep 11 (by decide) (by kernel_rfl), fun h h' B' C' e1 e2 => hI.out.ne (upd_h (by decide) h) (upd_h (by decide) h') B' C' e1 (e7.trans e2)⟩, by kernel_rfl⟩
      · obtain ⟨C, h1, h2, h3⟩ := hI.out.a1 (upd_h (by decide) h)
        exact ⟨C, h1, h2, by rw [updD_ne (by decide)]; exact set3_far h3 (fun e => hI.out.ne (upd_h (by decide) h) (hdep 11 (by decide) (by kernel_rfl)) C B h1 e7 e.symm)⟩
      · exact ⟨B, rfl, hB, by rw [updD_self, if_pos rfl]; exact set3_blk zb.out⟩
  · intro d us w2 hall hI
    obtain ⟨B, e7, hB, hblk⟩ := hI.a1 (hall 10 (by decide))
    obtain ⟨C, e8, hC, hblk2⟩ := hI.a2 (hall 11 (by decide))
    rw [hall 12 (by decide), if_pos rfl] at hblk
    rw [hall 13 (by decide), if_pos rfl] at hblk2
    have HB2 := Lib.hid (Below.next HB.out.drew hI.be)
    have HX2 := Lib.hid (HXd.out.below hI.be)
    simp only [overU, List.foldl]
    rw [e7, e8]
    clear hI hall HB HX HXd HR HP HRd HPd hB hC hXlt
    clear e7 e8
    obtain ⟨ak, ai, at_⟩ := dl
    obtain ⟨bk, bi, bt⟩ := dr
    unfold valC at hblk hblk2
    have HL := Lib.hid hblk
    have HQ := Lib.hid hblk2
    clear hblk hblk2
    generalize us 24 = u24
    generalize us 29 = u29
    clear us
    have zl := HL.out.cell
    go_wp2_with fail
    refine (real_any ⟨ak, ai, at_⟩ _).mono ?_
    rintro e w3 ⟨rfl, hb3⟩
    have HB3 := Lib.hid (Below.next HB2.out hb3)
    have HX3 := Lib.hid (HX2.out.below hb3)
    have HL3 := Lib.hid (HL.out.below hb3)
    have HQ3 := Lib.hid (HQ.out.below hb3)
    clear zl hb3 HL HQ HX2 HB2
    obtain ⟨qa, Hqa⟩ : ∃ z, Hid (realV ⟨ak, ai, at_⟩ = z) := ⟨_, rfl⟩
    rw [Hqa.out]
    cases qa
    · obtain rfl : false = rr := by rw [← Hrr.out, cmpOk, Hqa.out]; rfl
      go_wp2
      go_ret
      exact ⟨rfl, HB3.out⟩
    have zq := HQ3.out.cell
    go_wp2_with fail
    refine (real_any ⟨bk, bi, bt⟩ _).mono ?_
    rintro e w4 ⟨rfl, hb4⟩
    have HB4 := Lib.hid (Below.next HB3.out hb4)
    have HX4 := Lib.hid (HX3.out.below hb4)
    have HL4 := Lib.hid (HL3.out.below hb4)
    have HQ4 := Lib.hid (HQ3.out.below hb4)
    clear zq hb4 HL3 HQ3 HX3 HB3
    obtain ⟨qb, Hqb⟩ : ∃ z, Hid (realV ⟨bk, bi, bt⟩ = z) := ⟨_, rfl⟩
    rw [Hqb.out]
    cases qb
    · obtain rfl : false = rr := by rw [← Hrr.out, cmpOk, Hqa.out, Hqb.out]; rfl
      go_wp2
      go_ret
      exact ⟨rfl, HB4.out⟩
    have zl := HL4.out.cell
    have zq := HQ4.out.cell
    by_cases hk : ak = bk
    rotate_left
    · obtain rfl : false = rr := by rw [← Hrr.out, cmpOk, Hqa.out, Hqb.out, decide_eq_false (show ¬ (⟨ak, ai, at_⟩ : Vl).k = (⟨bk, bi, bt⟩ : Vl).k from hk)]; rfl
      have g1 : (ak != bk) = true := by simpa using hk
      clear hk
      go_wp2
      go_ret
      exact ⟨rfl, HB4.out⟩
    have g1 : (ak != bk) = false := by simpa using hk
    have Hs : Hid (cmpB2 cm (cmpV ⟨ak, ai, at_⟩ ⟨bk, bi, bt⟩) = rr) := Lib.hid (by rw [← Hrr.out, cmpOk, Hqa.out, Hqb.out, decide_eq_true (show (⟨ak, ai, at_⟩ : Vl).k = (⟨bk, bi, bt⟩ : Vl).k from hk)]; rfl)
    clear hk Hrr Hqa Hqb
    have zx := HX4.out.cell
    go_wp2_with fail
    refine (comparison_any cm _).mono ?_
    rintro e w5 ⟨rfl, hb5⟩
    have HB5 := Lib.hid (Below.next HB4.out hb5)
    have HL5 := Lib.hid (HL4.out.below hb5)
    have HQ5 := Lib.hid (HQ4.out.below hb5)
    clear zl zq zx hb5 HL4 HQ4 HX4 HB4 g1
    have zl := HL5.out.cell
    have zq := HQ5.out.cell
    by_cases hcm : 1 ≤ cm ∧ cm ≤ 6
    rotate_left
    · obtain rfl : false = rr := by
        rw [← Hs.out, cmpB2]
        repeat rw [if_neg (by omega)]
      have hf : ordF cm = Value.nilFunc := by
        unfold ordF
        repeat rw [if_neg (by omega)]
      rw [hf]
      have hev := run_neqN
      clear hf hcm Hs
      go_wp2
      go_ret
      exact ⟨rfl, HB5.out⟩
    have hcm : cm = 1 ∨ cm = 2 ∨ cm = 3 ∨ cm = 4 ∨ cm = 5 ∨ cm = 6 := by omega
    rcases hcm with rfl | rfl | rfl | rfl | rfl | rfl
    · rw [show ordF 1 = .func (.func 148) #[] #[] from rfl]
      have hev := run_neqF (.func 148)
      go_wp2_with fail
      refine (compare_any ⟨ak, ai, at_⟩ ⟨bk, bi, bt⟩ _).mono ?_
      rintro e w6 ⟨rfl, hb6⟩
      have HB6 := Lib.hid (Below.next HB5.out hb6)
      clear hb6
      obtain ⟨cv, Hcv⟩ : ∃ z, Hid (cmpV ⟨ak, ai, at_⟩ ⟨bk, bi, bt⟩ = z) := ⟨_, rfl⟩
      rw [Hcv.out] at Hs ⊢
      go_wp2_with fail
      refine (ord_equal cv _).mono ?_
      rintro e w7 ⟨rfl, rfl⟩
      rw [Hs.out]
      clear Hs
      go_wp2
      go_ret
      exact ⟨rfl, HB6.out⟩
    · rw [show ordF 2 = .func (.func 149) #[] #[] from rfl]
      have hev := run_neqF (.func 149)
      go_wp2_with fail
      refine (compare_any ⟨ak, ai, at_⟩ ⟨bk, bi, bt⟩ _).mono ?_
      rintro e w6 ⟨rfl, hb6⟩
      have HB6 := Lib.hid (Below.next HB5.out hb6)
      clear hb6
      obtain ⟨cv, Hcv⟩ : ∃ z, Hid (cmpV ⟨ak, ai, at_⟩ ⟨bk, bi, bt⟩ = z) := ⟨_, rfl⟩
      rw [Hcv.out] at Hs ⊢
      go_wp2_with fail
      refine (ord_different cv _).mono ?_
      rintro e w7 ⟨rfl, rfl⟩
      rw [Hs.out]
      clear Hs
      go_wp2
      go_ret
      exact ⟨rfl, HB6.out⟩
    · rw [show ordF 3 = .func (.func 150) #[] #[] from rfl]
      have hev := run_neqF (.func 150)
      go_wp2_with fail
      refine (compare_any ⟨ak, ai, at_⟩ ⟨bk, bi, bt⟩ _).mono ?_
      rintro e w6 ⟨rfl, hb6⟩
      have HB6 := Lib.hid (Below.next HB5.out hb6)
      clear hb6
      obtain ⟨cv, Hcv⟩ : ∃ z, Hid (cmpV ⟨ak, ai, at_⟩ ⟨bk, bi, bt⟩ = z) := ⟨_, rfl⟩
      rw [Hcv.out] at Hs ⊢
      go_wp2_with fail
      refine (ord_less cv _).mono ?_
      rintro e w7 ⟨rfl, rfl⟩
      rw [Hs.out]
      clear Hs
      go_wp2
      go_ret
      exact ⟨rfl, HB6.out⟩
    · rw [show ordF 4 = .func (.func 151) #[] #[] from rfl]
      have hev := run_neqF (.func 151)
      go_wp2_with fail
      refine (compare_any ⟨ak, ai, at_⟩ ⟨bk, bi, bt⟩ _).mono ?_
      rintro e w6 ⟨rfl, hb6⟩
      have HB6 := Lib.hid (Below.next HB5.out hb6)
      clear hb6
      obtain ⟨cv, Hcv⟩ : ∃ z, Hid (cmpV ⟨ak, ai, at_⟩ ⟨bk, bi, bt⟩ = z) := ⟨_, rfl⟩
      rw [Hcv.out] at Hs ⊢
      go_wp2_with fail
      refine (ord_atMost cv _).mono ?_
      rintro e w7 ⟨rfl, rfl⟩
      rw [Hs.out]
      clear Hs
      go_wp2
      go_ret
      exact ⟨rfl, HB6.out⟩
    · rw [show ordF 5 = .func (.func 152) #[] #[] from rfl]
      have hev := run_neqF (.func 152)
      go_wp2_with fail
      refine (compare_any ⟨ak, ai, at_⟩ ⟨bk, bi, bt⟩ _).mono ?_
      rintro e w6 ⟨rfl, hb6⟩
      have HB6 := Lib.hid (Below.next HB5.out hb6)
      clear hb6
      obtain ⟨cv, Hcv⟩ : ∃ z, Hid (cmpV ⟨ak, ai, at_⟩ ⟨bk, bi, bt⟩ = z) := ⟨_, rfl⟩
      rw [Hcv.out] at Hs ⊢
      go_wp2_with fail
      refine (ord_greater cv _).mono ?_
      rintro e w7 ⟨rfl, rfl⟩
      rw [Hs.out]
      clear Hs
      go_wp2
      go_ret
      exact ⟨rfl, HB6.out⟩
    · rw [show ordF 6 = .func (.func 153) #[] #[] from rfl]
      have hev := run_neqF (.func 153)
      go_wp2_with fail
      refine (compare_any ⟨ak, ai, at_⟩ ⟨bk, bi, bt⟩ _).mono ?_
      rintro e w6 ⟨rfl, hb6⟩
      have HB6 := Lib.hid (Below.next HB5.out hb6)
      clear hb6
      obtain ⟨cv, Hcv⟩ : ∃ z, Hid (cmpV ⟨ak, ai, at_⟩ ⟨bk, bi, bt⟩ = z) := ⟨_, rfl⟩
      rw [Hcv.out] at Hs ⊢
      go_wp2_with fail
      refine (ord_atLeast cv _).mono ?_
      rintro e w7 ⟨rfl, rfl⟩
      rw [Hs.out]
      clear Hs
      go_wp2
      go_ret
      exact ⟨rfl, HB6.out⟩
end Go.Proofs.YtnnmlhmffnfjfaaGreat

/-
  The program's Holds.
-/
namespace Go.Proofs.YtnnmlhmffnfjfaaGreat
open Go.RowKit
set_option maxRecDepth 100000
open Pd

theorem fin_true {row ps : List Vl} {h : Nd} {x : Bool × Bool × Bool} (ho : h.op = 1) : finH row ps h x = true := by unfold finH; rw [if_pos ho]
theorem fin_cmp {row ps : List Vl} {h : Nd} {x : Bool × Bool × Bool} (ho : h.op = 3) : finH row ps h x = cmpOk h.cm (dnV row ps h.l) (dnV row ps h.r) := by unfold finH; rw [if_neg (by omega), if_pos ho]
theorem fin_and {row ps : List Vl} {h : Nd} {x : Bool × Bool × Bool} (ho : h.op = 4) : finH row ps h x = x.1 := by unfold finH; rw [if_neg (by omega), if_neg (by omega), if_pos ho]
theorem fin_or {row ps : List Vl} {h : Nd} {x : Bool × Bool × Bool} (ho : h.op = 5) : finH row ps h x = x.2.1 := by unfold finH; rw [if_neg (by omega), if_neg (by omega), if_neg (by omega), if_pos ho]
theorem fin_not {row ps : List Vl} {h : Nd} {x : Bool × Bool × Bool} (ho : h.op = 6) : finH row ps h x = x.2.2 := by unfold finH; rw [if_neg (by omega), if_neg (by omega), if_neg (by omega), if_neg (by omega), if_pos ho]
theorem fin_none {row ps : List Vl} {h : Nd} {x : Bool × Bool × Bool} (h1 : h.op ≠ 1) (h3 : h.op ≠ 3) (h4 : h.op ≠ 4) (h5 : h.op ≠ 5) (h6 : h.op ≠ 6) : finH row ps h x = false := by unfold finH; rw [if_neg h1, if_neg h3, if_neg h4, if_neg h5, if_neg h6]
set_option maxHeartbeats 8000000 in
theorem holds_any (row ps : List Vl) : ∀ (N : Nat) (p : Pd) (A : Option Addr) (n c : Nat) (Ar : Option Addr) (nr cr : Nat) (Ap : Option Addr) (np cp : Nat) (w : World), p.nodes ≤ N → N ≤ 1000 → PrdS w A n c p → VlS w Ar nr row → VlS w Ap np ps →
    Calls Tryz.prog 37 #[.agg (pdV p.h A n c), .slice Ar nr cr, .slice Ap np cp] w fun e w' => e = .returned (.bool (holdsB row ps p)) ∧ Below w.heap.size w w' := by
  intro N
  induction N with
  | zero => intro p A n c Ar nr cr Ap np cp w hN; have := nodes_pos p; omega
  | succ N ih =>
    intro p A n c Ar nr cr Ap np cp w hN hN2 hs hr hp
    have IH := Lib.hid ih
    have HN : Hid (p.nodes ≤ N + 1 ∧ N + 1 ≤ 1000) := Lib.hid ⟨hN, hN2⟩
    have hn1 : n ≤ 1000 := by have := len_lt p; have := hs.len; omega
    have Hlen := Lib.hid hs.len
    obtain ⟨rr, Hrr⟩ : ∃ z, Hid (holdsB row ps p = z) := ⟨_, rfl⟩
    rw [Hrr.out]
    obtain ⟨hd, Hhd⟩ : ∃ z, Hid (p.h = z) := ⟨_, rfl⟩
    have Hs : Hid (finH row ps hd (holdsA row ps (p.rest 0)) = rr) := Lib.hid (by rw [rest_zero, ← Hhd.out]; exact Hrr.out)
    rw [Hhd.out]
    clear ih hN hN2 Hrr Hhd
    obtain ⟨op, cm, ⟨lk, lx, ⟨vk, vi, vt⟩⟩, ⟨rk, rx, ⟨uk, ui, ut⟩⟩⟩ := hd
    by_cases h3 : op = 3
    · subst h3
      obtain rfl : cmpOk cm (dnV row ps ⟨lk, lx, ⟨vk, vi, vt⟩⟩) (dnV row ps ⟨rk, rx, ⟨uk, ui, ut⟩⟩) = rr := by rw [← Hs.out, fin_cmp rfl]
      exact hcmp_any row ps cm ⟨lk, lx, ⟨vk, vi, vt⟩⟩ ⟨rk, rx, ⟨uk, ui, ut⟩⟩ A n c Ar nr cr Ap np cp w hr hp
    unfold pdV
    have HS := Lib.hid (hs.keep (keeps_alloc w (.cells #[.int .i64 op, .int .i64 cm, .int .i64 lk, .int .i64 lx, .int .i64 vk, .int .i64 vi, .string vt, .int .i64 rk, .int .i64 rx, .int .i64 uk, .int .i64 ui, .string ut, .slice A n c] 64)))
    have HR := Lib.hid (hr.keep (keeps_alloc w (.cells #[.int .i64 op, .int .i64 cm, .int .i64 lk, .int .i64 lx, .int .i64 vk, .int .i64 vi, .string vt, .int .i64 rk, .int .i64 rx, .int .i64 uk, .int .i64 ui, .string ut, .slice A n c] 64)))
    have HP := Lib.hid (hp.keep (keeps_alloc w (.cells #[.int .i64 op, .int .i64 cm, .int .i64 lk, .int .i64 lx, .int .i64 vk, .int .i64 vi, .string vt, .int .i64 rk, .int .i64 rx, .int .i64 uk, .int .i64 ui, .string ut, .slice A n c] 64)))
    have HX := Lib.hid (Blk.new w 64 #[.int .i64 op, .int .i64 cm, .int .i64 lk, .int .i64 lx, .int .i64 vk, .int .i64 vi, .string vt, .int .i64 rk, .int .i64 rx, .int .i64 uk, .int .i64 ui, .string ut, .slice A n c])
    have HB := Lib.hid ((Below.refl w.heap.size w).alloc (Nat.le_refl _) (.cells #[.int .i64 op, .int .i64 cm, .int .i64 lk, .int .i64 lx, .int .i64 vk, .int .i64 vi, .string vt, .int .i64 rk, .int .i64 rx, .int .i64 uk, .int .i64 ui, .string ut, .slice A n c] 64))
    clear hs hr hp
    go_enter Tryz.func37, Tryz.ntmps37
    go_upto_region 1 with fail
    obtain ⟨X, HXe⟩ : ∃ z, Hid (w.heap.size = z) := ⟨_, rfl⟩
    rw [HXe.out] at HX
    rw [HXe.out]
    generalize hW : w.alloc (.cells #[.int .i64 op, .int .i64 cm, .int .i64 lk, .int .i64 lx, .int .i64 vk, .int .i64 vi, .string vt, .int .i64 rk, .int .i64 rx, .int .i64 uk, .int .i64 ui, .string ut, .slice A n c] 64) = w1 at *
    clear hW HXe
    have zx := HX.out.cell
    by_cases h1 : op = 1
    · obtain rfl : true = rr := by rw [← Hs.out, fin_true h1]
      clear Hs h3
      subst h1
      go_wp2
      go_ret
      exact ⟨rfl, HB.out⟩
    by_cases h4 : op = 4
    · have H0 : Hid ((holdsA row ps (p.rest 0)).1 = rr) := Lib.hid (by rw [← Hs.out, fin_and h4])
      clear Hs h1 h3
      subst h4
      go_wp2_with fail
      go_loopw [62] (fun i wr => ∃ k : Nat, k ≤ n ∧ i = .int .i64 (k : Int) ∧ Hid ((holdsA row ps (p.rest k)).1 = rr) ∧ Hid (Below w1.heap.size w1 wr)) (fun i _ => n - (intOf i).toNat)
      case atStart => exact ⟨0, by omega, rfl, H0, Lib.hid (Below.refl _ _)⟩
      case round =>
        obtain ⟨k, hk, rfl, Hq, HM⟩ := hrel
        clear zx H0
        by_cases hlt : k < n
        · have HSk := Lib.hid (HS.out.keep (keeps_of HM.out))
          obtain ⟨b', o', q, A1, n1, c1, rfl, hq, d⟩ := HSk.out.at hlt
          have Hqn := Lib.hid (at_nodes hq)
          have Hst := Lib.hid (hold_rest hq row ps)
          have HSq := Lib.hid (d.s.keep (keeps_alloc wr (.cells #[.int .i64 q.h.op, .int .i64 q.h.cm, .int .i64 q.h.l.k, .int .i64 q.h.l.ix, .int .i64 q.h.l.v.k, .int .i64 q.h.l.v.i, .string q.h.l.v.t, .int .i64 q.h.r.k, .int .i64 q.h.r.ix, .int .i64 q.h.r.v.k, .int .i64 q.h.r.v.i, .string q.h.r.v.t, .slice A1 n1 c1] 64)))
          obtain ⟨d0, d1, d2, d3, d4, d5, d6, d7, d8, d9, d10, d11, d12, ds⟩ := d
          have HMa := Lib.hid (HM.out.alloc HM.out.size (.cells #[.int .i64 q.h.op, .int .i64 q.h.cm, .int .i64 q.h.l.k, .int .i64 q.h.l.ix, .int .i64 q.h.l.v.k, .int .i64 q.h.l.v.i, .string q.h.l.v.t, .int .i64 q.h.r.k, .int .i64 q.h.r.ix, .int .i64 q.h.r.v.k, .int .i64 q.h.r.v.i, .string q.h.r.v.t, .slice A1 n1 c1] 64))
          have HY := Lib.hid (Blk.new wr 64 #[.int .i64 q.h.op, .int .i64 q.h.cm, .int .i64 q.h.l.k, .int .i64 q.h.l.ix, .int .i64 q.h.l.v.k, .int .i64 q.h.l.v.i, .string q.h.l.v.t, .int .i64 q.h.r.k, .int .i64 q.h.r.ix, .int .i64 q.h.r.v.k, .int .i64 q.h.r.v.i, .string q.h.r.v.t, .slice A1 n1 c1])
          clear ds hq
          obtain ⟨Y, HYe⟩ : ∃ z, Hid (wr.heap.size = z) := ⟨_, rfl⟩
          rw [HYe.out] at HY
          go_upto_region 14 with fail
          rw [HYe.out]
          generalize hW3 : wr.alloc (.cells #[.int .i64 q.h.op, .int .i64 q.h.cm, .int .i64 q.h.l.k, .int .i64 q.h.l.ix, .int .i64 q.h.l.v.k, .int .i64 q.h.l.v.i, .string q.h.l.v.t, .int .i64 q.h.r.k, .int .i64 q.h.r.ix, .int .i64 q.h.r.v.k, .int .i64 q.h.r.v.i, .string q.h.r.v.t, .slice A1 n1 c1] 64) = w3 at *
          clear hW3 HYe d0 d1 d2 d3 d4 d5 d6 d7 d8 d9 d10 d11 d12 HSk
          have zy := HY.out.cell
          have HR3 := Lib.hid (HR.out.keep (keeps_of HMa.out))
          have HP3 := Lib.hid (HP.out.keep (keeps_of HMa.out))
          go_wp2_with fail
          refine (IH.out q A1 n1 c1 Ar nr cr Ap np cp _ (by have := Hqn.out; have := HN.out; omega) (by have := HN.out; omega) HSq.out HR3.out HP3.out).mono ?_
          rintro e w4 ⟨rfl, hb4⟩
          have HM4 := Lib.hid (Below.next HMa.out hb4)
          clear hb4 zy
          obtain ⟨oq, Hoq⟩ : ∃ z, Hid (holdsB row ps q = z) := ⟨_, rfl⟩
          rw [Hoq.out] at Hst ⊢
          have Hcut : Hid (oq = false → false = rr) := Lib.hid (fun h => by rw [← Hq.out, Hst.out, h]; rfl)
          have Hgo : Hid (oq = !false → (holdsA row ps (p.rest (k + 1))).1 = rr) := Lib.hid (fun h => by rw [← Hq.out, Hst.out, h]; rfl)
          cases oq
          · obtain rfl := Hcut.out rfl
            go_wp2
            go_ret
            exact ⟨rfl, Below.next HB.out HM4.out⟩
          · have Hn := Lib.hid (Hgo.out rfl)
            go_wp2
            go_roundw
            case rel => exact ⟨k + 1, by omega, by go_num, Hn, HM4⟩
            case measure => simp [intOf]; omega
        · obtain rfl : true = rr := by
            rw [← Hq.out, rest_end (by rw [← Hlen.out]; omega)]
            rfl
          clear Hq
          go_wp2
          go_ret
          exact ⟨rfl, Below.next HB.out HM.out⟩
    by_cases h5 : op = 5
    · have H0 : Hid ((holdsA row ps (p.rest 0)).2.1 = rr) := Lib.hid (by rw [← Hs.out, fin_or h5])
      clear Hs h1 h3 h4
      subst h5
      go_wp2_with fail
      go_loopw [77] (fun i wr => ∃ k : Nat, k ≤ n ∧ i = .int .i64 (k : Int) ∧ Hid ((holdsA row ps (p.rest k)).2.1 = rr) ∧ Hid (Below w1.heap.size w1 wr)) (fun i _ => n - (intOf i).toNat)
      case atStart => exact ⟨0, by omega, rfl, H0, Lib.hid (Below.refl _ _)⟩
      case round =>
        obtain ⟨k, hk, rfl, Hq, HM⟩ := hrel
        clear zx H0
        by_cases hlt : k < n
        · have HSk := Lib.hid (HS.out.keep (keeps_of HM.out))
          obtain ⟨b', o', q, A1, n1, c1, rfl, hq, d⟩ := HSk.out.at hlt
          have Hqn := Lib.hid (at_nodes hq)
          have Hst := Lib.hid (hold_rest hq row ps)
          have HSq := Lib.hid (d.s.keep (keeps_alloc wr (.cells #[.int .i64 q.h.op, .int .i64 q.h.cm, .int .i64 q.h.l.k, .int .i64 q.h.l.ix, .int .i64 q.h.l.v.k, .int .i64 q.h.l.v.i, .string q.h.l.v.t, .int .i64 q.h.r.k, .int .i64 q.h.r.ix, .int .i64 q.h.r.v.k, .int .i64 q.h.r.v.i, .string q.h.r.v.t, .slice A1 n1 c1] 64)))
          obtain ⟨d0, d1, d2, d3, d4, d5, d6, d7, d8, d9, d10, d11, d12, ds⟩ := d
          have HMa := Lib.hid (HM.out.alloc HM.out.size (.cells #[.int .i64 q.h.op, .int .i64 q.h.cm, .int .i64 q.h.l.k, .int .i64 q.h.l.ix, .int .i64 q.h.l.v.k, .int .i64 q.h.l.v.i, .string q.h.l.v.t, .int .i64 q.h.r.k, .int .i64 q.h.r.ix, .int .i64 q.h.r.v.k, .int .i64 q.h.r.v.i, .string q.h.r.v.t, .slice A1 n1 c1] 64))
          have HY := Lib.hid (Blk.new wr 64 #[.int .i64 q.h.op, .int .i64 q.h.cm, .int .i64 q.h.l.k, .int .i64 q.h.l.ix, .int .i64 q.h.l.v.k, .int .i64 q.h.l.v.i, .string q.h.l.v.t, .int .i64 q.h.r.k, .int .i64 q.h.r.ix, .int .i64 q.h.r.v.k, .int .i64 q.h.r.v.i, .string q.h.r.v.t, .slice A1 n1 c1])
          clear ds hq
          obtain ⟨Y, HYe⟩ : ∃ z, Hid (wr.heap.size = z) := ⟨_, rfl⟩
          rw [HYe.out] at HY
          go_upto_region 22 with fail
          rw [HYe.out]
          generalize hW3 : wr.alloc (.cells #[.int .i64 q.h.op, .int .i64 q.h.cm, .int .i64 q.h.l.k, .int .i64 q.h.l.ix, .int .i64 q.h.l.v.k, .int .i64 q.h.l.v.i, .string q.h.l.v.t, .int .i64 q.h.r.k, .int .i64 q.h.r.ix, .int .i64 q.h.r.v.k, .int .i64 q.h.r.v.i, .string q.h.r.v.t, .slice A1 n1 c1] 64) = w3 at *
          clear hW3 HYe d0 d1 d2 d3 d4 d5 d6 d7 d8 d9 d10 d11 d12 HSk
          have zy := HY.out.cell
          have HR3 := Lib.hid (HR.out.keep (keeps_of HMa.out))
          have HP3 := Lib.hid (HP.out.keep (keeps_of HMa.out))
          go_wp2_with fail
          refine (IH.out q A1 n1 c1 Ar nr cr Ap np cp _ (by have := Hqn.out; have := HN.out; omega) (by have := HN.out; omega) HSq.out HR3.out HP3.out).mono ?_
          rintro e w4 ⟨rfl, hb4⟩
          have HM4 := Lib.hid (Below.next HMa.out hb4)
          clear hb4 zy
          obtain ⟨oq, Hoq⟩ : ∃ z, Hid (holdsB row ps q = z) := ⟨_, rfl⟩
          rw [Hoq.out] at Hst ⊢
          have Hcut : Hid (oq = true → true = rr) := Lib.hid (fun h => by rw [← Hq.out, Hst.out, h]; rfl)
          have Hgo : Hid (oq = !true → (holdsA row ps (p.rest (k + 1))).2.1 = rr) := Lib.hid (fun h => by rw [← Hq.out, Hst.out, h]; rfl)
          cases oq
          · have Hn := Lib.hid (Hgo.out rfl)
            go_wp2
            go_roundw
            case rel => exact ⟨k + 1, by omega, by go_num, Hn, HM4⟩
            case measure => simp [intOf]; omega
          · obtain rfl := Hcut.out rfl
            go_wp2
            go_ret
            exact ⟨rfl, Below.next HB.out HM4.out⟩
        · obtain rfl : false = rr := by
            rw [← Hq.out, rest_end (by rw [← Hlen.out]; omega)]
            rfl
          clear Hq
          go_wp2
          go_ret
          exact ⟨rfl, Below.next HB.out HM.out⟩
    by_cases h6 : op = 6
    · have H0 : Hid ((holdsA row ps (p.rest 0)).2.2 = rr) := Lib.hid (by rw [← Hs.out, fin_not h6])
      clear Hs h1 h3 h4 h5
      subst h6
      by_cases hn : 0 < n
      · obtain ⟨b', o', q, A1, n1, c1, rfl, hq, d⟩ := HS.out.at hn
        have HSq := Lib.hid d.s
        obtain ⟨d0, d1, d2, d3, d4, d5, d6, d7, d8, d9, d10, d11, d12, ds⟩ := d
        have Hqn := Lib.hid (at_nodes hq)
        have Hst := Lib.hid (hold_rest hq row ps)
        simp only [Nat.zero_mul, Nat.add_zero] at d0 d1 d2 d3 d4 d5 d6 d7 d8 d9 d10 d11 d12
        clear ds hq
        go_wp2_with fail
        refine (IH.out q A1 n1 c1 Ar nr cr Ap np cp _ (by have := Hqn.out; have := HN.out; omega) (by have := HN.out; omega) HSq.out HR.out HP.out).mono ?_
        rintro e w4 ⟨rfl, hb4⟩
        have HB4 := Lib.hid (Below.next HB.out hb4)
        clear hb4 zx d0 d1 d2 d3 d4 d5 d6 d7 d8 d9 d10 d11 d12
        obtain ⟨oq, Hoq⟩ : ∃ z, Hid (holdsB row ps q = z) := ⟨_, rfl⟩
        rw [Hoq.out] at Hst ⊢
        obtain rfl : (!oq) = rr := by rw [← H0.out, Hst.out]
        clear Hst H0 Hoq
        cases oq
        all_goals
          go_wp2
          go_ret
          exact ⟨rfl, HB4.out⟩
      · obtain rfl : false = rr := by
          rw [← H0.out, rest_end (by rw [← Hlen.out]; omega)]
          rfl
        obtain rfl : n = 0 := by omega
        clear H0 hn
        go_wp2
        go_ret
        exact ⟨rfl, HB.out⟩
    obtain rfl : false = rr := by rw [← Hs.out, fin_none h1 h3 h4 h5 h6]
    have g1 : (op == 1) = false := by simpa using h1
    have g3 : (op == 3) = false := by simpa using h3
    have g4 : (op == 4) = false := by simpa using h4
    have g5 : (op == 5) = false := by simpa using h5
    have g6 : (op == 6) = false := by simpa using h6
    clear h1 h3 h4 h5 h6 Hs
    go_wp2
    go_ret
    exact ⟨rfl, HB.out⟩
end Go.Proofs.YtnnmlhmffnfjfaaGreat

/-
  The program's isName of a name of small letters.
-/
namespace Go.Proofs.YtnnmlhmffnfjfaaGreat
open Go.RowKit
set_option maxRecDepth 100000
open Pd

theorem nameB_at {s : ByteArray} (h : nameB s = true) (i : Nat) (hi : i < s.size) : 97 ≤ (s[i]'hi).toNat ∧ (s[i]'hi).toNat ≤ 122 := by
  unfold nameB at h
  rw [Bool.and_eq_true, List.all_eq_true] at h
  have hm : s[i]'hi ∈ s.toList := by
    rw [Lib.toList_data, List.mem_iff_getElem]
    exact ⟨i, by rw [← Lib.size_eq]; exact hi, rfl⟩
  have := h.2 _ hm
  unfold lowB at this
  simpa using this
set_option maxHeartbeats 2000000 in
theorem isname_any (s : ByteArray) (w : World) (h : nameB s = true) :
    Calls Tryz.prog 218 #[.string s] w fun e w' => e = .returned (.bool true) ∧ Below w.heap.size w w' := by
  have hsz : 1 ≤ s.size ∧ s.size ≤ 32 := by
    unfold nameB at h
    rw [Bool.and_eq_true] at h
    simpa using h.1
  have g1 : decide ((s.size : Int) < 1) = false := by simp; omega
  have g2 : decide ((32 : Int) < (s.size : Int)) = false := by simp; omega
  have hk0 : (w.iter s 0).heap[w.heap.size]? = some (.stringIter s 0) := by
    have h5 := World.iter_heap w s 0
    simpa using h5
  have hb0 : Below w.heap.size w (w.iter s 0) := (Below.refl _ w).alloc (Nat.le_refl _) _
  go_enter Tryz.func218, Tryz.ntmps218
  go_wp2
  go_loopw [3] (fun _ wr => ∃ pos : Nat, pos ≤ s.size ∧ wr.heap[w.heap.size]? = some (.stringIter s pos) ∧ Below w.heap.size w wr) (fun _ wr => s.size - wr.iterPos w.heap.size)
  case atStart => exact ⟨0, Nat.zero_le _, hk0, hb0⟩
  case round =>
    obtain ⟨pos, hps, hk, hnx⟩ := hrel
    clear hk0 hb0
    by_cases hp : pos < s.size
    · have hr := nameB_at h pos hp
      have hnext : ∀ ty, (Instr.next (.pointer (some ⟨w.heap.size, 0, none⟩)) true ty).run Tryz.prog wr = _ := fun ty => Lib.run_next_ascii_at wr w.heap.size s pos ty hk hp (by omega)
      have hk1 := Lib.iterAt_heap wr w.heap.size s pos (pos + 1) hk
      have hnx1 : Below w.heap.size w (wr.iterAt w.heap.size s (pos + 1)) := Lib.below_iterAt hnx (Nat.le_refl _) s (pos + 1)
      have hmu : wr.iterPos w.heap.size = pos := by simp [World.iterPos, hk]
      generalize wr.iterAt w.heap.size s (pos + 1) = W1 at hnext hk1 hnx1
      have g3 : decide ((97 : Int) ≤ ((s[pos]'hp).toNat : Int)) = true := by simp; omega
      have g4 : decide (((s[pos]'hp).toNat : Int) ≤ 122) = true := by simp; omega
      go_wp2
      go_roundw
      case rel => exact ⟨pos + 1, by omega, hk1, hnx1⟩
      case measure =>
        have hmu2 : W1.iterPos w.heap.size = pos + 1 := by simp [World.iterPos, hk1]
        rw [hmu, hmu2]
        omega
    · have hnext : ∀ ty, (Instr.next (.pointer (some ⟨w.heap.size, 0, none⟩)) true ty).run Tryz.prog wr = _ := fun ty => Lib.run_next_end_at wr w.heap.size s pos ty hk hp
      go_wp2
      go_ret
      exact ⟨rfl, hnx⟩
end Go.Proofs.YtnnmlhmffnfjfaaGreat
