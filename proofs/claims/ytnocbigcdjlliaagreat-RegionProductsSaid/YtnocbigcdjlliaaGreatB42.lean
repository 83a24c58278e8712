/-
  Texts: GExtend.
-/
import Derived.Test.YtnocbigcdjlliaaGreatB41
set_option linter.unusedVariables false
/-
  The program's extend: one region in the place of the empty row of another.
-/
namespace Go.Proofs.YtnocbigcdjlliaaGreat
open Go.RowKit
set_option maxRecDepth 100000
open Rg

theorem graft_id : ∀ {d : Nat} {r : Rg}, Form d r → graft (.nil 0 true) r = r
  | 0, .nil x f, h => by
    obtain rfl : x = 0 := h.1
    cases f <;> rfl
  | d + 1, .nil x f, h => by
    have h1 : x = ((d + 1 : Nat) : Int) := h.1
    have h2 : f = false := h.2.1
    subst h2
    unfold graft
    rw [if_neg (by omega)]
    simp [Rg.w]
  | 0, .cons vs rest tail, h => by have := h.2; simp [parts] at this
  | d + 1, .cons vs rest tail, h => by
    obtain ⟨h1, h2, h3, h4⟩ := h
    have hr := graft_id (h3 (vs, rest) (by simp [parts])).2.2.1
    have ht := graft_id (d := d + 1) (r := tail) ⟨h1, h2, fun p hp => h3 p (by simp [parts, hp]), by
      have := h4
      simp only [parts, List.pairwise_cons] at this
      exact this.2⟩
    simp only [graft, hr, ht]
/-- extend of b by the region of the empty row -/
def LeafOk (b : Rg) : Prop := ∀ (xb : Int) (fb : Bool) (Ab : Option Addr) (nb cb : Nat) (w : World), RgS w xb fb Ab nb cb b →
    Calls Tryz.prog 95 #[.agg #[.int .i64 xb, .bool fb, .slice Ab nb cb], .agg #[.int .i64 0, .bool true, .slice none 0 0]] w fun e w' => RgNew w b e w'
set_option maxHeartbeats 8000000 in
theorem gextend0_any (b : Rg) (db : Nat) (hFb : FormF db b) (hnb : b.nix = false) (hdb : db ≤ 12) (hsb : b.size ≤ 64) (hleaf : 0 < db → LeafOk b) (d : Nat) : ∀ (r : Rg) (x : Int) (f : Bool) (A : Option Addr) (n c : Nat) (xb : Int) (fb : Bool) (Ab : Option Addr) (nb cb : Nat) (w : World), d ≤ 12 → FormF d r → r.nix = false → r.size ≤ 64 → RgS w x f A n c r → RgS w xb fb Ab nb cb b →
    Calls Tryz.prog 95 #[.agg #[.int .i64 x, .bool f, .slice A n c], .agg #[.int .i64 xb, .bool fb, .slice Ab nb cb]] w fun e w' => RgNew w (graft b r) e w' := by
  have HFb := Lib.hid hFb
  have Hleaf := Lib.hid hleaf
  have Hnb := Lib.hid hnb
  have Hxb : Hid (b.w = (db : Int)) := Lib.hid hFb.1.width
  clear hFb hsb hleaf hnb
  induction d with
  | zero =>
    intro r x f A n c xb fb Ab nb cb w hd hF hnr hsz hR hRb
    obtain rfl : x = 0 := by rw [← hR.hw, hF.1.width]; rfl
    have hff : r.f = true := by
      rw [nix_len, ← len_parts, hF.1.2] at hnr
      simpa using hnr
    obtain rfl : f = true := by rw [← hR.hf]; exact hff
    rw [graft_zero hF.1 hff]
    have HX : Hid (xb = (db : Int)) := Lib.hid (by rw [← hRb.hw]; exact Hxb.out)
    have hxb1 : 0 ≤ xb := by have := HX.out; omega
    have hxb2 : xb ≤ 12 := by have := HX.out; omega
    by_cases hb0 : 0 < xb
    · obtain ⟨W3, HW3⟩ : ∃ W : World, Hid ((((w.alloc (.cells #[.int .i64 0, .bool true, .slice A n c] 28)).alloc (.cells #[.int .i64 xb, .bool fb, .slice Ab nb cb] 28)).alloc (.cells #[.int .i64 0, .bool false, .slice none 0 0] 28)).alloc (.cells #[.int .i64 xb, .bool fb, .slice none 0 0] 28) = W) := ⟨_, rfl⟩
      have HC : Hid (Blk W3 (w.heap.size + 1) 28 #[.int .i64 xb, .bool fb, .slice Ab nb cb] ∧ Blk W3 (w.heap.size + 2) 28 #[.int .i64 0, .bool false, .slice none 0 0] ∧ Blk W3 w.heap.size 28 #[.int .i64 0, .bool true, .slice A n c] ∧ W3.heap.size = w.heap.size + 4) := by
        rw [← HW3.out]
        exact Lib.hid ⟨((Blk.step (by simp)).alloc _).alloc _, (Blk.step (by simp)).alloc _, (((Blk.new _ _ _).alloc _).alloc _).alloc _, by simp⟩
      have HB0 : Hid (Below w.heap.size w W3) := by
        rw [← HW3.out]
        exact Lib.hid (((((Below.refl _ _).alloc (Nat.le_refl _) _).alloc (by simp) _).alloc (by simp; omega) _).alloc (by simp; omega) _)
      have HRb := Lib.hid (hRb.keep (keeps_of HB0.out))
      clear hR hRb hF hsz hnr hff
      go_enter Tryz.func95, Tryz.ntmps95
      go_upto_region 2 with fail
      try simp only [Int.zero_add]
      rw [HW3.out]
      have za := HC.out.2.2.1.cell
      have zb := HC.out.1.cell
      go_wp2_with fail
      refine (Hleaf.out (by have := HX.out; omega) xb fb Ab nb cb _ HRb.out).mono ?_
      rintro e w5 ⟨x5, f5, A5, n5, c5, rfl, hF5, hb5⟩
      have HC5 := Lib.hid (HC.out.2.1.below hb5)
      have zr := HC5.out.cell
      obtain ⟨ff1, ff2, ff3⟩ := put3R_free HC5.out (.int .i64 x5) (.bool f5)
      have y3 := (put3R_blk (a' := .int .i64 x5) (b' := .bool f5) (c' := .slice A5 n5 c5) HC5.out).cell
      have y1 := (HC5.out.set_ 0 (.int .i64 x5)).cell
      have y2 := ((HC5.out.set_ 0 (.int .i64 x5)).set_ 1 (.bool f5)).cell
      have HBf := Lib.hid (put3R_below (Below.next HB0.out hb5) (show w.heap.size ≤ w.heap.size + 2 by omega) (.int .i64 x5) (.bool f5) (.slice A5 n5 c5))
      have hs3 := HC.out.2.2.2
      have HFr : Hid (RgF w.heap.size (put3R w5 (w.heap.size + 2) (.int .i64 x5) (.bool f5) (.slice A5 n5 c5)).heap.size (put3R w5 (w.heap.size + 2) (.int .i64 x5) (.bool f5) (.slice A5 n5 c5)) x5 f5 A5 n5 c5 b) := Lib.hid ((hF5.keep fun q h1 h2 => (put3R_but w5 (w.heap.size + 2) _ _ _).block q h2 (by omega)).wide (by omega) (by rw [put3R_size]; exact Nat.le_refl _))
      unfold put3R at y3
      clear hF5 hb5 za zb hs3
      go_wp2
      exact bodyPost_ret (v := .agg #[.int .i64 x5, .bool f5, .slice A5 n5 c5]) (by simp [results, Tryz.results95, go_sem, y3]) rfl ⟨x5, f5, A5, n5, c5, rfl, HFr.out, HBf.out⟩
    · obtain rfl : xb = 0 := by omega
      have hdb0 : db = 0 := by have := HX.out; omega
      subst hdb0
      have hbf : b.f = true := by
        have h := Hnb.out
        rw [nix_len, ← len_parts, HFb.out.1.2] at h
        simpa using h
      obtain rfl : fb = true := by rw [← hRb.hf]; exact hbf
      have hbe : b = .nil 0 true := by
        cases b with
        | nil x f =>
          have h1 : x = 0 := HFb.out.1.1
          have h2 : f = true := hbf
          rw [h1, h2]
        | cons vs rest tail => have := HFb.out.1.2; simp [parts] at this
      subst hbe
      obtain ⟨W3, HW3⟩ : ∃ W : World, Hid ((((w.alloc (.cells #[.int .i64 0, .bool true, .slice A n c] 28)).alloc (.cells #[.int .i64 0, .bool true, .slice Ab nb cb] 28)).alloc (.cells #[.int .i64 0, .bool false, .slice none 0 0] 28)).alloc (.cells #[.int .i64 0, .bool true, .slice none 0 0] 28) = W) := ⟨_, rfl⟩
      have HC : Hid (Blk W3 (w.heap.size + 1) 28 #[.int .i64 0, .bool true, .slice Ab nb cb] ∧ Blk W3 (w.heap.size + 2) 28 #[.int .i64 0, .bool false, .slice none 0 0] ∧ Blk W3 w.heap.size 28 #[.int .i64 0, .bool true, .slice A n c] ∧ Blk W3 (w.heap.size + 3) 28 #[.int .i64 0, .bool true, .slice none 0 0]) := by
        rw [← HW3.out]
        exact Lib.hid ⟨((Blk.step (by simp)).alloc _).alloc _, (Blk.step (by simp)).alloc _, (((Blk.new _ _ _).alloc _).alloc _).alloc _, Blk.step (by simp)⟩
      have HB0 : Hid (Below w.heap.size w W3) := by
        rw [← HW3.out]
        exact Lib.hid (((((Below.refl _ _).alloc (Nat.le_refl _) _).alloc (by simp) _).alloc (by simp; omega) _).alloc (by simp; omega) _)
      clear hR hRb hF hsz hnr hff hbf hb0 hxb1 hxb2
      go_enter Tryz.func95, Tryz.ntmps95
      go_upto_region 2 with fail
      try simp only [Int.zero_add]
      rw [HW3.out]
      have za := HC.out.2.2.1.cell
      have zb := HC.out.1.cell
      have zo := HC.out.2.2.2.cell
      have zr := HC.out.2.1.cell
      obtain ⟨ff1, ff2, ff3⟩ := put3R_free HC.out.2.1 (.int .i64 0) (.bool true)
      have y3 := (put3R_blk (a' := .int .i64 0) (b' := .bool true) (c' := .slice none 0 0) HC.out.2.1).cell
      have y1 := (HC.out.2.1.set_ 0 (.int .i64 0)).cell
      have y2 := ((HC.out.2.1.set_ 0 (.int .i64 0)).set_ 1 (.bool true)).cell
      have HBf := Lib.hid (put3R_below HB0.out (show w.heap.size ≤ w.heap.size + 2 by omega) (.int .i64 0) (.bool true) (.slice none 0 0))
      unfold put3R at y3
      go_wp2
      exact bodyPost_ret (v := .agg #[.int .i64 0, .bool true, .slice none 0 0]) (by simp [results, Tryz.results95, go_sem, y3]) rfl ⟨0, true, none, 0, 0, rfl, RgF.nil _ _, HBf.out⟩
  | succ d ih =>
    intro r x f A n c xb fb Ab nb cb w hd hF hnr hsz hR hRb
    obtain ⟨i0, hi0, hz0, hz1, hz2⟩ := info_parts info_iv
    obtain ⟨i1, hi1, hy0, hy1, hy2⟩ := info_parts info_pt
    have hxd : x = ((d + 1 : Nat) : Int) := by rw [← hR.hw, hF.1.width]
    have hxb : xb = (db : Int) := by rw [← hRb.hw]; exact Hxb.out
    have hff : f = false := by rw [← hR.hf]; exact hF.1.2.1
    subst hff
    have hx1 : 0 < x := by omega
    have hx2 : x ≤ 12 := by omega
    have hb1 : 0 ≤ xb := by omega
    have hb2 : xb ≤ 12 := by omega
    have hd' : d ≤ 12 := by omega
    have HI := Lib.hid ih
    have HR := Lib.hid hR
    have HRb := Lib.hid hRb
    have Hsz := Lib.hid hsz
    have HF0 := Lib.hid hF
    have hn : n ≤ 100000 := by have := hR.len; have := len_le_size r; omega
    have hnc := hR.ok.1
    obtain ⟨rr, Hrr⟩ : ∃ z, Hid (graft b r = z) := ⟨_, rfl⟩
    rw [Hrr.out]
    obtain ⟨W3, HW3⟩ : ∃ W : World, Hid ((((w.alloc (.cells #[.int .i64 x, .bool false, .slice A n c] 28)).alloc (.cells #[.int .i64 xb, .bool fb, .slice Ab nb cb] 28)).alloc (.cells #[.int .i64 0, .bool false, .slice none 0 0] 28)).alloc (.cells #[.int .i64 (x + xb), .bool false, .slice none 0 0] 28) = W) := ⟨_, rfl⟩
    have HC : Hid (Blk W3 (w.heap.size + 1) 28 #[.int .i64 xb, .bool fb, .slice Ab nb cb] ∧ Blk W3 (w.heap.size + 2) 28 #[.int .i64 0, .bool false, .slice none 0 0] ∧ Blk W3 (w.heap.size + 3) 28 #[.int .i64 (x + xb), .bool false, .slice none 0 0] ∧ Blk W3 w.heap.size 28 #[.int .i64 x, .bool false, .slice A n c] ∧ W3.heap.size = w.heap.size + 4) := by
      rw [← HW3.out]
      exact Lib.hid ⟨((Blk.step (by simp)).alloc _).alloc _, (Blk.step (by simp)).alloc _, Blk.step (by simp), (((Blk.new _ _ _).alloc _).alloc _).alloc _, by simp⟩
    have HB0 : Hid (Below w.heap.size w W3) := by
      rw [← HW3.out]
      exact Lib.hid (((((Below.refl _ _).alloc (Nat.le_refl _) _).alloc (by simp) _).alloc (by simp; omega) _).alloc (by simp; omega) _)
    clear ih hR hRb hsz hF hxd hxb hnr
    go_enter Tryz.func95, Tryz.ntmps95
    go_upto_region 2 with fail
    rw [HW3.out]
    have za := HC.out.2.2.2.1.cell
    have HBBs := Lib.hid HC.out.1
    go_wp2_with fail
    go_loopw [33] (fun i wr => ∃ (k : Nat) (A' : Option Addr) (c' : Nat) (ms : List PM), k ≤ n ∧ i = .int .i64 (k : Int) ∧ Blk wr (w.heap.size + 2) 28 #[.int .i64 0, .bool false, .slice none 0 0] ∧ Blk wr (w.heap.size + 3) 28 #[.int .i64 (x + xb), .bool false, .slice A' k c'] ∧ Hid (Blk wr (w.heap.size + 1) 28 #[.int .i64 xb, .bool fb, .slice Ab nb cb]) ∧ Hid (PartsIn (w.heap.size + 4) wr A' k c' ms) ∧ Hid (ms.map PM.pr = (r.parts.take k).map fun p => (p.1, graft b p.2)) ∧ Below w.heap.size w wr ∧ w.heap.size + 4 ≤ wr.heap.size) (fun i _ => n - (intOf i).toNat)
    case atStart => exact ⟨0, none, 0, [], by omega, rfl, HC.out.2.1, HC.out.2.2.1, HBBs, Lib.hid ⟨⟨by simp, .inl ⟨rfl, rfl⟩⟩, rfl, (fun m hm => by cases hm), List.Pairwise.nil, (fun m hm => by cases hm)⟩, rfl, HB0.out, by have := HC.out.2.2.2.2; omega⟩
    case round =>
      obtain ⟨k, A', c', ms, hk, rfl, hbr, hbo, HBB, HP, Hms, hb, hsz3⟩ := hrel
      by_cases hlt : k < n
      · obtain ⟨bq, oq, p, A1, n1, c1, px, pf, A2, n2, c2, rfl, hp, hpt⟩ := (HR.out.keep (keeps_of hb)).at hlt
        have hps := size_at hp
        have Hnp := Lib.hid ((HF0.out.1.2.2.1 _ (List.mem_of_getElem? hp)).2.2.2)
        have Hfv := Lib.hid (fits_valid HF0.out (List.mem_of_getElem? hp))
        have Hps := Lib.hid (show p.2.size ≤ 64 by have := hps; have := Hsz.out; omega)
        have Htk := Lib.hid (take_snoc' hp)
        have hn1 : n1 ≤ 100000 := by have h1 := hpt.vs.len; have h2 := Hfv.out.2.1; omega
        obtain ⟨d0, d1, d2, d3, pok, pvs, prg⟩ := hpt
        have HPOK := Lib.hid pok
        have HPV_len := Lib.hid pvs.len
        have HPV := Lib.hid pvs
        have HPR := Lib.hid prg
        have HBR := Lib.hid hbr
        have HBO := Lib.hid hbo
        have HBL := Lib.hid hb
        clear hp pok pvs prg hbr hbo hb
        go_upto_region 9 with fail
        have hba : Below wr.heap.size wr (wr.alloc (.cells #[.slice A1 n1 c1, .int .i64 px, .bool pf, .slice A2 n2 c2] 85)) := (Below.refl _ _).alloc (Nat.le_refl _) _
        have HPB : Hid (Blk (wr.alloc (.cells #[.slice A1 n1 c1, .int .i64 px, .bool pf, .slice A2 n2 c2] 85)) wr.heap.size 85 #[.slice A1 n1 c1, .int .i64 px, .bool pf, .slice A2 n2 c2]) := Lib.hid (Blk.new _ _ _)
        have HP1 := Lib.hid (HP.out.below hba)
        have HBR1 := Lib.hid (HBR.out.below hba)
        have HBO1 := Lib.hid (HBO.out.below hba)
        have HBB1 := Lib.hid (HBB.out.below hba)
        have HB1 := Lib.hid (Below.next HBL.out hba)
        have HPV1 := Lib.hid (HPV.out.keep (keeps_of hba))
        have HPR1 := Lib.hid (HPR.out.keep (keeps_of hba))
        have hs1 : (wr.alloc (.cells #[.slice A1 n1 c1, .int .i64 px, .bool pf, .slice A2 n2 c2] 85)).heap.size = wr.heap.size + 1 := World.size_alloc _ _
        have HOl : Hid (∀ q, (Value.slice A' k c').ownBlock = some q → w.heap.size + 4 ≤ q ∧ q < wr.heap.size) := Lib.hid (fun q hq => ⟨(own_lt HP.out.own hq).1, (own_lt HP.out.own hq).2.1⟩)
        have HOv : Hid (∀ m ∈ ms, (∀ q, m.vv.ownBlock = some q → q < wr.heap.size) ∧ m.hi ≤ wr.heap.size) := Lib.hid (fun m hm => ⟨fun q hq => (own_lt (HP.out.ok m hm).own hq).2.1, (HP.out.ok m hm).hi⟩)
        generalize hW1 : wr.alloc (.cells #[.slice A1 n1 c1, .int .i64 px, .bool pf, .slice A2 n2 c2] 85) = W1 at *
        clear hW1 hba d0 d1 d2 d3 HPV HPR HBL HBR HBO HP
        have hown0 : (W1.alloc (.cells #[] 70)).ownsRow (w.heap.size + 4) 70 7 (.slice (some ⟨wr.heap.size + 1, 0, none⟩) 0 0) 0 (([] : List Iv).flatMap Iv.cs) := by
          have h := Blk.new W1 70 #[]
          rw [hs1] at h
          exact ⟨rfl, .inr ⟨wr.heap.size + 1, 0, _, rfl, by omega, h, Nat.le_refl 0, Nat.zero_le _, rfl, rfl⟩⟩
        have zp := HPB.out.cell
        go_upto_region 10 with (at_builtin; refine wpList_append_sf (cs := Iv.cs) (W1.alloc (.cells #[] 70)) (by rfl) _ (.tmp 39) _ (by rfl) (w.heap.size + 4) 70 i0 _ 7 72 Tryz.underlying64 hi0 hz0 hz1 hz2 (by rfl) (by omega) (.slice (some ⟨wr.heap.size + 1, 0, none⟩) 0 0) 0 [] (by rfl) hown0 A1 n1 c1 p.1 (by rfl) (HPV1.out.keep (keeps_alloc _ _)) HPOK.out.2 Iv.cs_len one_iv (by simp only [maxLen]; omega) (by omega) (by simp; omega) ?_; intro A4 c4 w3 hown3 hg3 hB3 hat3 hnil3; simp only [Nat.zero_add, List.nil_append] at hown3 hat3 ⊢)
        have hbf3 : Below W1.heap.size W1 w3 := ((Below.refl W1.heap.size W1).alloc (Nat.le_refl _) (.cells #[] 70)).grown hg3 (by simp) (fun k hk => by simp only [Value.ownBlock, Option.some.injEq] at hk; omega)
        have hsz0 : (W1.alloc (.cells #[] 70)).heap.size = W1.heap.size + 1 := World.size_alloc _ _
        have HOVl : Hid (∀ q, (Value.slice A4 n1 c4).ownBlock = some q → wr.heap.size + 1 ≤ q ∧ q < w3.heap.size) := Lib.hid (fun q hq => by
          refine ⟨?_, (own_lt hown3 hq).2.1⟩
          rcases hat3 with h | h
          · rw [h] at hq
            simp only [Value.ownBlock, Option.some.injEq] at hq
            omega
          · rw [h, hsz0] at hq
            simp only [Option.some.injEq] at hq
            omega)
        have hb3d : Below w3.heap.size w3 w3.drew := (Below.refl _ _).drew
        have hb13 := Below.next hbf3 hb3d
        have HOW4 := Lib.hid (own_at hown3 (fun g _ hl _ => hb3d.block g hl))
        have HP4 := Lib.hid (HP1.out.below hb13)
        have HPR4 := Lib.hid (HPR1.out.keep (keeps_of hb13))
        have HB4 := Lib.hid (Below.next HB1.out hb13)
        have HBR4 := Lib.hid (HBR1.out.below hb13)
        have HBO4 := Lib.hid (HBO1.out.below hb13)
        have HBB4 := Lib.hid (HBB1.out.below hb13)
        have HPB4 := Lib.hid (HPB.out.below hb13)
        have hs4 : W1.heap.size ≤ w3.drew.heap.size := hb13.size
        have hs3 : w3.drew.heap.size = w3.heap.size := rfl
        clear hown3 hg3 hB3 hat3 hnil3 hbf3 hb3d hb13 hown0 zp hsz0 HPV1 HPR1 HB1 HBR1 HBO1 HBB1 HPB HP1
        obtain ⟨S, HS⟩ : ∃ S : Nat → Prop, Hid ((fun q => (Value.slice A' k c').ownBlock = some q) = S) := ⟨_, rfl⟩
        have HSl : Hid (∀ q, S q → w.heap.size + 4 ≤ q ∧ q < wr.heap.size) := by rw [← HS.out]; exact HOl
        refine wp_region_plan S (.one [0, 1, 2, 3, 4, 5] 6 (.one [7] 8 (.one [] 9 (.fin [10] 11)))) (by kernel_rfl) (by kernel_rfl) (fun _ _ d _ _ h => by cases d <;> exact h) ?_
        generalize hW4 : w3.drew = w4 at *
        clear hW4
        have qO : ∀ (y : LaterS S w4) j, (afterS S w4 y).cell? ⟨w.heap.size + 3, j, none⟩ = (#[.int .i64 (x + xb), .bool false, .slice A' k c'] : Array Value)[j]? := fun y j => (HBO4.out.but y.but (fun h => by have := HSl.out _ h; omega)).cell j
        have qB : ∀ (y : LaterS S w4) j, (afterS S w4 y).cell? ⟨w.heap.size + 1, j, none⟩ = (#[.int .i64 xb, .bool fb, .slice Ab nb cb] : Array Value)[j]? := fun y j => (HBB4.out.but y.but (fun h => by have := HSl.out _ h; omega)).cell j
        have qP : ∀ (y : LaterS S w4) j, (afterS S w4 y).cell? ⟨wr.heap.size, j, none⟩ = (#[.slice A1 n1 c1, .int .i64 px, .bool pf, .slice A2 n2 c2] : Array Value)[j]? := fun y j => (HPB4.out.but y.but (fun h => by have := HSl.out _ h; omega)).cell j
        unfold wpPlan
        simp only [pickOps, opAt, List.map_cons, List.map_nil, List.getElem?_toArray, List.getElem?_cons_zero, List.getElem?_cons_succ, Option.getD_some]
        repeat (go_big_quiet_step (fail))
        refine wpQuiet_nil ?_
        clear qO qB qP HPB4
        have HRb4 := Lib.hid (HRb.out.keep (keeps_of HB4.out))
        go_wp2_with (first | (go_at_call 95; refine (HI.out p.2 px pf A2 n2 c2 xb fb Ab nb cb _ hd' Hfv.out.2.2 Hnp.out Hps.out HPR4.out HRb4.out).mono ?_; rintro e w5 ⟨x5, f5, A5, n5, c5, rfl, hF5, hb5⟩))
        clear HRb4
        refine ⟨But.of_below hb5, ?_⟩
        have HF5 := Lib.hid hF5
        have HOW5 := Lib.hid (own_at HOW4.out (fun g _ hl _ => hb5.block g hl))
        have HP5 := Lib.hid (HP4.out.below hb5)
        have HB5 := Lib.hid (Below.next HB4.out hb5)
        have HBR5 := Lib.hid (HBR4.out.below hb5)
        have HBO5 := Lib.hid (HBO4.out.below hb5)
        have HBB5 := Lib.hid (HBB4.out.below hb5)
        have hs5 := hb5.size
        clear hF5 hb5 HOW4 HP4 HPR4 HB4 HBR4 HBO4 HBB4
        unfold wpPlan
        simp only [pickOps, opAt, List.map_cons, List.map_nil, List.getElem?_toArray, List.getElem?_cons_zero, List.getElem?_cons_succ, Option.getD_some]
        repeat (go_big_quiet_step (fail))
        refine wpQuiet_nil ?_
        go_wp2_with fail
        refine ⟨But.alloc _ _, ?_⟩
        unfold wpPlan
        simp only [pickOps, opAt, List.map_nil, List.getElem?_toArray, List.getElem?_cons_zero, List.getElem?_cons_succ, Option.getD_some]
        refine wpQuiet_nil ?_
        go_wp2_with (at_builtin; refine wpList_append_one2 (by rfl) (.tmp 42) (.tmp 49) _ (by rfl) (w.heap.size + 4) 85 i1 _ 4 64 Tryz.underlying26 hi1 hy0 hy1 hy2 (by rfl) (by omega) (.slice A' k c') k _ (by rfl) w5 #[.slice A4 n1 c4, .int .i64 x5, .bool f5, .slice A5 n5 c5] HP5.out.own w5.heap.size (by rfl) (by rfl) (by rfl) (one_pm (PM.mk A4 n1 c4 p.1 x5 f5 A5 n5 c5 (graft b p.2) w4.heap.size w5.heap.size)) (by simp only [maxLen]; omega) (by omega) (by omega) ?_; intro g9 cap9 w9 hown9 hg9 hB9 hat9 hlt9)
        have hbu9 : But S (w5.alloc (.cells #[.slice A4 n1 c4, .int .i64 x5, .bool f5, .slice A5 n5 c5] 85)) w9 := But.of_grown hg9 (fun k hk => by rw [← HS.out]; exact hk)
        refine ⟨hbu9, ?_⟩
        have hbu59 : But S w5 w9 := (But.alloc _ _).trans hbu9
        have HOWN9 := Lib.hid hown9
        have HAT9 := Lib.hid hat9
        have HBR9 := Lib.hid (HBR5.out.but hbu59 (fun h => by have := HSl.out _ h; omega))
        have HBB9 := Lib.hid (HBB5.out.but hbu59 (fun h => by have := HSl.out _ h; omega))
        have HBO9 := Lib.hid (HBO5.out.but hbu59 (fun h => by have := HSl.out _ h; omega))
        have HB9 : Hid (Below w.heap.size w w9) := Lib.hid (hbu59.below HB5.out (by omega) (fun q hq => by have := HSl.out _ hq; omega))
        have HBU9 := Lib.hid hbu59
        have hs9 := hbu59.size
        clear hown9 hg9 hB9 hat9 hbu9 hbu59 HBR5 HBO5 HBB5 HB5
        unfold wpPlan
        simp only [pickOps, opAt, List.map_cons, List.map_nil, List.getElem?_toArray, List.getElem?_cons_zero, List.getElem?_cons_succ, Option.getD_some]
        have hoc := HBO9.out.cell
        have hof := HBO9.out.free
        repeat (go_big_quiet_step (fail))
        refine wpQuiet_nil ?_
        go_upto_region 11 with fail
        have hbu10 : But (· = w.heap.size + 3) w9 (w9.setCell ⟨w.heap.size + 3, 2, none⟩ (.slice (some ⟨g9, 0, none⟩) (k + 1) cap9)) := But.set (S := fun q => q = w.heap.size + 3) _ (p := ⟨w.heap.size + 3, 2, none⟩) rfl _
        have HBO10 : Hid (Blk (w9.setCell ⟨w.heap.size + 3, 2, none⟩ (.slice (some ⟨g9, 0, none⟩) (k + 1) cap9)) (w.heap.size + 3) 28 #[.int .i64 (x + xb), .bool false, .slice (some ⟨g9, 0, none⟩) (k + 1) cap9]) := Lib.hid (HBO9.out.set_ 2 _)
        generalize hW10 : w9.setCell ⟨w.heap.size + 3, 2, none⟩ (.slice (some ⟨g9, 0, none⟩) (k + 1) cap9) = w10 at *
        clear hW10 hoc hof
        have HBR10 := Lib.hid (HBR9.out.but hbu10 (by omega))
        have HBB10 := Lib.hid (HBB9.out.but hbu10 (by omega))
        have HB10 : Hid (Below w.heap.size w w10) := Lib.hid (hbu10.below HB9.out (by omega) (fun q hq => by omega))
        have hs10 := hbu10.size
        have HOWN10 := Lib.hid (own_but HOWN9.out hbu10 (fun q hq hs => by have := (own_lt HOWN9.out hq).1; omega))
        have HP10 : Hid (PartsIn (w.heap.size + 4) w10 (some ⟨g9, 0, none⟩) (k + 1) cap9 (ms ++ [PM.mk A4 n1 c4 p.1 x5 f5 A5 n5 c5 (graft b p.2) w4.heap.size w5.heap.size])) := by
          refine Lib.hid (HP5.out.addv ?_ ?_ ?_ ?_ ?_ ?_)
          · rw [List.flatMap_append]
            simpa [PM.cs] using HOWN10.out
          · refine (HBU9.out.wide (fun q hq => ?_)).trans (hbu10.wide (fun q hq => .inr (by omega)))
            rw [← HS.out] at hq
            exact .inl hq
          · intro q hq
            simp only [Value.ownBlock, Option.some.injEq] at hq
            subst hq
            rcases HAT9.out with e | e
            · exact .inl e
            · exact .inr (by omega)
          · exact ⟨HOW5.out, HPV_len.out, HF5.out, by show w.heap.size + 4 ≤ w4.heap.size; omega, Nat.le_refl _⟩
          · intro q (h1 : w4.heap.size ≤ q) (h2 : q < w5.heap.size)
            refine ⟨fun hs => ?_, fun hs => ?_, fun m' hm' hs => ?_⟩
            · have := HOl.out q hs; omega
            · have := HOVl.out q hs; omega
            · have := (HOv.out m' hm').1 q hs; omega
          · intro q hq m' hm'
            have h1 := HOVl.out q hq
            have h2 := HOv.out m' hm'
            exact ⟨fun hs => by have := h2.1 q hs; omega, fun hs => by omega⟩
        clear HBR9 HBO9 HBB9 HB9 HBU9 hbu10 HOWN9 HOWN10 HP5 HOW5 HF5
        go_wp2_with fail
        go_roundw
        case rel =>
          refine ⟨k + 1, _, cap9, _, by omega, by go_num, HBR10.out, HBO10.out, HBB10, HP10, ?_, HB10.out, by omega⟩
          show _ = _
          rw [List.map_append, Hms.out, Htk.out, List.map_append]
          rfl
        case measure => simp [intOf]; omega
      · obtain rfl : k = n := by omega
        have hy3 := (put3R_blk (a' := .int .i64 (x + xb)) (b' := .bool false) (c' := .slice A' k c') hbr).cell
        have hy1 := (hbr.set_ 0 (.int .i64 (x + xb))).cell
        have hy2 := ((hbr.set_ 0 (.int .i64 (x + xb))).set_ 1 (.bool false)).cell
        obtain ⟨ff1, ff2, ff3⟩ := put3R_free hbr (.int .i64 (x + xb)) (.bool false)
        have zo := hbo.cell
        have zr := hbr.cell
        have hmk : mkR (x + xb) false (ms.map PM.pr) = rr := by
          have h1 := HR.out
          rw [← Hrr.out, Hms.out, List.take_of_length_le (by rw [len_parts, h1.len]; exact Nat.le_refl _)]
          rw [graft_form HF0.out.1, ← HRb.out.hw, ← h1.hw, HF0.out.1.width]
        have HF := Lib.hid (HP.out.region2 (x + xb) false)
        rw [hmk] at HF
        have HBf := Lib.hid (put3R_below hb (show w.heap.size ≤ w.heap.size + 2 by omega) (.int .i64 (x + xb)) (.bool false) (.slice A' k c'))
        have HFr : Hid (RgF w.heap.size (put3R wr (w.heap.size + 2) (.int .i64 (x + xb)) (.bool false) (.slice A' k c')).heap.size (put3R wr (w.heap.size + 2) (.int .i64 (x + xb)) (.bool false) (.slice A' k c')) (x + xb) false A' k c' rr) := by
          refine Lib.hid ((HF.out.keep fun q h1 h2 => (put3R_but wr (w.heap.size + 2) _ _ _).block q h2 (by omega)).wide (by omega) (by rw [put3R_size]; exact Nat.le_refl _))
        unfold put3R at hy3
        clear hmk hbr hbo hb
        go_wp2
        exact bodyPost_ret (v := .agg #[.int .i64 (x + xb), .bool false, .slice A' k c']) (by simp [results, Tryz.results95, go_sem, hy3]) rfl ⟨x + xb, false, A', k, c', rfl, HFr.out, HBf.out⟩
/-- extend by the region of the empty row is a copy -/
theorem leaf_ok {b : Rg} {db : Nat} (hFb : FormF db b) (hnb : b.nix = false) (hdb : db ≤ 12) (hsb : b.size ≤ 64) : LeafOk b := fun xb fb Ab nb cb w hR => by
  have h := gextend0_any (.nil 0 true) 0 ⟨⟨rfl, rfl⟩, rfl⟩ rfl (by omega) (by simp [Rg.size]) (fun h => absurd h (by omega)) db b xb fb Ab nb cb 0 true none 0 0 w hdb hFb hnb hsb hR (RgS.nil 0 true)
  rw [graft_id hFb.1] at h
  exact h
theorem gextend_any (b : Rg) (db : Nat) (hFb : FormF db b) (hnb : b.nix = false) (hdb : db ≤ 12) (hsb : b.size ≤ 64) (d : Nat) (r : Rg) (x : Int) (f : Bool) (A : Option Addr) (n c : Nat) (xb : Int) (fb : Bool) (Ab : Option Addr) (nb cb : Nat) (w : World) (hd : d ≤ 12) (hF : FormF d r) (hnr : r.nix = false) (hsz : r.size ≤ 64) (hR : RgS w x f A n c r) (hRb : RgS w xb fb Ab nb cb b) :
    Calls Tryz.prog 95 #[.agg #[.int .i64 x, .bool f, .slice A n c], .agg #[.int .i64 xb, .bool fb, .slice Ab nb cb]] w fun e w' => RgNew w (graft b r) e w' :=
  gextend0_any b db hFb hnb hdb hsb (fun _ => leaf_ok hFb hnb hdb hsb) d r x f A n c xb fb Ab nb cb w hd hF hnr hsz hR hRb
end Go.Proofs.YtnocbigcdjlliaaGreat
