/-
  Texts: FHas, Graft, FProduct.
-/
import Derived.Test.YtnocbigcdjlliaaGreatB40
set_option linter.unusedVariables false
/-
  The reference's In and Has of regions: they say what the program's Has says.
-/
namespace Go.Proofs.YtnocbigcdjlliaaGreat
open Go.RowKit
set_option maxRecDepth 100000
open Rg

theorem fits_valid {d : Nat} {r : Rg} (h : FormF (d + 1) r) {p : List Iv × Rg} (hp : p ∈ r.parts) : validL p.1 = true ∧ p.1.length ≤ 64 ∧ FormF d p.2 := by
  obtain ⟨h1, h2⟩ := h
  obtain ⟨h3, h4, h5, _⟩ := h1.2.2.1 p hp
  have h6 := fits_mem h2 hp
  refine ⟨?_, h6.1, h5, h6.2⟩
  unfold validL
  simp [h4, h6.1]
end Go.Proofs.YtnocbigcdjlliaaGreat

/-
  Plain: one region in the place of the empty row of another; how many boxes a region has. No walk here.
-/
namespace Go.Proofs.YtnocbigcdjlliaaGreat
open Go.RowKit
set_option maxRecDepth 100000
open Rg

/-- b stands for each full rest of a -/
def graft (b : Rg) : Rg → Rg
  | .nil x f => if x = 0 then (if f then b else .nil b.w false) else .nil (x + b.w) false
  | .cons vs rest tail => .cons vs (graft b rest) (graft b tail)
noncomputable def prodR (a b : Rg) : Rg := if b.nix = true then .nil (a.w + b.w) false else graft b a
/-- how many boxes there are -/
def nbox : Rg → Nat
  | .nil _ f => if f then 1 else 0
  | .cons _ rest tail => nbox rest + nbox tail
theorem graft_mk (b : Rg) {x : Int} (hx : x ≠ 0) (f : Bool) : ∀ l : List (List Iv × Rg), graft b (mkR x f l) = mkR (x + b.w) false (l.map fun p => (p.1, graft b p.2))
  | [] => by simp [mkR, graft, hx]
  | p :: l => by
    have ih := graft_mk b hx f l
    simp only [mkR, graft, List.map_cons, ih]
theorem graft_form {d : Nat} {a b : Rg} (h : Form (d + 1) a) : graft b a = mkR (((d + 1 : Nat) : Int) + b.w) false (a.parts.map fun p => (p.1, graft b p.2)) := by
  have e := mk_parts a
  conv => lhs; rw [← e]
  rw [graft_mk b (by rw [h.1]; omega), h.1]
theorem graft_zero {a b : Rg} (h : Form 0 a) (hf : a.f = true) : graft b a = b := by
  cases a with
  | nil x f => simp only [Rg.f] at hf; simp [graft, show x = 0 from h.1, hf]
  | cons vs rest tail => have := h.2; simp [parts] at this
theorem graft_empty {d : Nat} {a b : Rg} (h : Form d a) (hn : a.nix = true) : graft b a = .nil ((d : Int) + b.w) false := by
  rw [form_nil' d a h hn]
  unfold graft
  split
  · rename_i h0
    simp [h0]
  · rfl
theorem graft_size {b : Rg} : ∀ {d : Nat} {a : Rg}, Form d a → (graft b a).size = a.size + nbox a * b.size
  | d, .nil x f, h => by
    unfold graft nbox
    cases d with
    | zero =>
      rw [if_pos (show x = 0 from h.1)]
      cases f <;> simp [Rg.size]
    | succ d =>
      have h1 : x = ((d + 1 : Nat) : Int) := h.1
      have h2 : f = false := h.2.1
      rw [if_neg (by omega), h2]
      simp [Rg.size]
  | 0, .cons vs rest tail, h => by have := h.2; simp [parts] at this
  | d + 1, .cons vs rest tail, h => by
    obtain ⟨h1, h2, h3, h4⟩ := h
    have hr := graft_size (b := b) (h3 (vs, rest) (by simp [parts])).2.2.1
    have ht := graft_size (b := b) (d := d + 1) (a := tail) ⟨h1, h2, fun p hp => h3 p (by simp [parts, hp]), by
      have := h4
      simp only [parts, List.pairwise_cons] at this
      exact this.2⟩
    simp only [graft, nbox, Rg.size, hr, ht, Nat.add_mul]
    omega
theorem graft_fits {b : Rg} (hb : b.fits = true) : ∀ {a : Rg}, a.fits = true → (graft b a).fits = true
  | .nil x f, _ => by
    unfold graft
    split
    · split
      · exact hb
      · rfl
    · rfl
  | .cons vs rest tail, h => by
    simp only [Rg.fits, Bool.and_eq_true, decide_eq_true_eq] at h ⊢
    simp only [graft, Rg.fits, Bool.and_eq_true, decide_eq_true_eq]
    exact ⟨⟨h.1.1, graft_fits hb h.1.2⟩, graft_fits hb h.2⟩
theorem graft_nix {b : Rg} (hb : b.nix = false) : ∀ {d : Nat} {a : Rg}, Form d a → a.nix = false → (graft b a).nix = false
  | 0, a, h, hn => by
    have hf : a.f = true := by
      rw [nix_len, ← len_parts, h.2] at hn
      simpa using hn
    rw [graft_zero h hf]
    exact hb
  | d + 1, a, h, hn => by
    rw [graft_form h, nix_len, f_mk, len_mk]
    rw [nix_len, h.2.1, ← len_parts] at hn
    simpa using hn
end Go.Proofs.YtnocbigcdjlliaaGreat

/-
  The reference's product of two regions.
-/
namespace Go.Proofs.YtnocbigcdjlliaaGreat
open Go.RowKit
set_option maxRecDepth 100000
open Rg

set_option maxHeartbeats 8000000 in
theorem fproduct_any (b : Rg) (db : Nat) (hFb : FormF db b) (hdb : db ≤ 12) (hsb : b.size ≤ 64) (d : Nat) : ∀ (r : Rg) (x : Int) (f : Bool) (A : Option Addr) (n c : Nat) (xb : Int) (fb : Bool) (Ab : Option Addr) (nb cb : Nat) (w : World), d ≤ 12 → FormF d r → r.size ≤ 64 → RgS w x f A n c r → RgS w xb fb Ab nb cb b →
    Calls Tryz.prog 97 #[.agg #[.int .i64 x, .bool f, .slice A n c], .agg #[.int .i64 xb, .bool fb, .slice Ab nb cb]] w fun e w' => RgNew w (prodR r b) e w' := by
  have HFb := Lib.hid hFb
  have HSb : Hid (Sm b) := Lib.hid (sm_within ⟨hsb, hFb.2⟩)
  have Hxb : Hid (b.w = (db : Int)) := Lib.hid hFb.1.width
  clear hFb hsb
  induction d with
  | zero =>
    intro r x f A n c xb fb Ab nb cb w hd hF hsz hR hRb
    obtain rfl : x = 0 := by rw [← hR.hw, hF.1.width]; rfl
    have hff := hR.hf
    obtain ⟨rr, Hrr⟩ : ∃ z, Hid (prodR r b = z) := ⟨_, rfl⟩
    rw [Hrr.out]
    have HX : Hid (xb = (db : Int)) := Lib.hid (by rw [← hRb.hw]; exact Hxb.out)
    obtain ⟨W3, HW3⟩ : ∃ W : World, Hid (((w.alloc (.cells #[.int .i64 0, .bool f, .slice A n c] 28)).alloc (.cells #[.int .i64 xb, .bool fb, .slice Ab nb cb] 28)).alloc (.cells #[.int .i64 0, .bool false, .slice none 0 0] 28) = W) := ⟨_, rfl⟩
    have HC : Hid (Blk W3 w.heap.size 28 #[.int .i64 0, .bool f, .slice A n c] ∧ Blk W3 (w.heap.size + 1) 28 #[.int .i64 xb, .bool fb, .slice Ab nb cb] ∧ Blk W3 (w.heap.size + 2) 28 #[.int .i64 0, .bool false, .slice none 0 0] ∧ W3.heap.size = w.heap.size + 3) := by
      rw [← HW3.out]
      exact Lib.hid ⟨((Blk.new _ _ _).alloc _).alloc _, (Blk.step (by simp)).alloc _, Blk.step (by simp), by simp⟩
    have HB0 : Hid (Below w.heap.size w W3) := by
      rw [← HW3.out]
      exact Lib.hid ((((Below.refl _ _).alloc (Nat.le_refl _) _).alloc (by simp) _).alloc (by simp; omega) _)
    have HRb := Lib.hid (hRb.keep (keeps_of HB0.out))
    have HF0 := Lib.hid hF
    have hW0 := HW3.out
    clear hR hRb hF hsz
    have za := HC.out.1.cell
    have zb := HC.out.2.1.cell
    go_enter Tryz.func97, Tryz.ntmps97
    go_upto_region 1 with fail
    try rw [hW0]
    clear hW0
    cases f
    · obtain rfl : rr = .nil xb false := by
        rw [← Hrr.out]
        unfold prodR
        rw [HF0.out.1.width, graft_empty HF0.out.1 (by rw [nix_len, hff, ← len_parts, HF0.out.1.2]; rfl), Hxb.out, HX.out]
        split <;> simp
      have zr := HC.out.2.2.1.cell
      obtain ⟨ff1, ff2, ff3⟩ := put3R_free HC.out.2.2.1 (.int .i64 xb) (.bool false)
      have y3 := (put3R_blk (a' := .int .i64 xb) (b' := .bool false) (c' := .slice none 0 0) HC.out.2.2.1).cell
      have y1 := (HC.out.2.2.1.set_ 0 (.int .i64 xb)).cell
      have y2 := ((HC.out.2.2.1.set_ 0 (.int .i64 xb)).set_ 1 (.bool false)).cell
      have HBf := Lib.hid (put3R_below HB0.out (show w.heap.size ≤ w.heap.size + 2 by omega) (.int .i64 xb) (.bool false) (.slice none 0 0))
      unfold put3R at y3
      clear hff
      go_wp2
      exact bodyPost_ret (v := .agg #[.int .i64 xb, .bool false, .slice none 0 0]) (by simp [results, Tryz.results97, go_sem, y3]) rfl ⟨xb, false, none, 0, 0, rfl, RgF.nil _ _, HBf.out⟩
    · obtain rfl : b = rr := by
        rw [← Hrr.out]
        symm
        unfold prodR
        rw [graft_zero HF0.out.1 hff, HF0.out.1.width]
        split
        · rename_i hx
          rw [form_nil' db b HFb.out.1 hx]
          simp [Rg.w]
        · rfl
      go_wp2_with fail
      refine (fcopy_any b xb fb Ab nb cb _ HRb.out HSb.out).mono ?_
      rintro e w5 ⟨x5, f5, A5, n5, c5, rfl, hF5, hb5⟩
      have HC5 := Lib.hid (HC.out.2.2.1.below hb5)
      have zr := HC5.out.cell
      obtain ⟨ff1, ff2, ff3⟩ := put3R_free HC5.out (.int .i64 x5) (.bool f5)
      have y3 := (put3R_blk (a' := .int .i64 x5) (b' := .bool f5) (c' := .slice A5 n5 c5) HC5.out).cell
      have y1 := (HC5.out.set_ 0 (.int .i64 x5)).cell
      have y2 := ((HC5.out.set_ 0 (.int .i64 x5)).set_ 1 (.bool f5)).cell
      have HBf := Lib.hid (put3R_below (Below.next HB0.out hb5) (show w.heap.size ≤ w.heap.size + 2 by omega) (.int .i64 x5) (.bool f5) (.slice A5 n5 c5))
      have hs3 := HC.out.2.2.2
      have HFr : Hid (RgF w.heap.size (put3R w5 (w.heap.size + 2) (.int .i64 x5) (.bool f5) (.slice A5 n5 c5)).heap.size (put3R w5 (w.heap.size + 2) (.int .i64 x5) (.bool f5) (.slice A5 n5 c5)) x5 f5 A5 n5 c5 b) := Lib.hid ((hF5.keep fun q h1 h2 => (put3R_but w5 (w.heap.size + 2) _ _ _).block q h2 (by omega)).wide (by omega) (by rw [put3R_size]; exact Nat.le_refl _))
      unfold put3R at y3
      clear hff hF5 hb5 za zb hs3
      go_wp2
      exact bodyPost_ret (v := .agg #[.int .i64 x5, .bool f5, .slice A5 n5 c5]) (by simp [results, Tryz.results97, go_sem, y3]) rfl ⟨x5, f5, A5, n5, c5, rfl, HFr.out, HBf.out⟩
  | succ d ih =>
    intro r x f A n c xb fb Ab nb cb w hd hF hsz hR hRb
    obtain ⟨i0, hi0, hz0, hz1, hz2⟩ := info_parts info_iv
    obtain ⟨i1, hi1, hy0, hy1, hy2⟩ := info_parts info_pt
    have hxd : x = ((d + 1 : Nat) : Int) := by rw [← hR.hw, hF.1.width]
    have hxb : xb = (db : Int) := by rw [← hRb.hw]; exact Hxb.out
    have hx1 : 0 < x := by omega
    have hx2 : x ≤ 12 := by omega
    have hb1 : 0 ≤ xb := by omega
    have hb2 : xb ≤ 12 := by omega
    have hd' : d ≤ 12 := by omega
    have gx : (x == 0) = false := by simp; omega
    have HI := Lib.hid ih
    have HR := Lib.hid hR
    have HRb := Lib.hid hRb
    have Hsz := Lib.hid hsz
    have HF0 := Lib.hid hF
    have hn : n ≤ 100000 := by have := hR.len; have := len_le_size r; omega
    have hnc := hR.ok.1
    obtain ⟨rr, Hrr⟩ : ∃ z, Hid (prodR r b = z) := ⟨_, rfl⟩
    rw [Hrr.out]
    obtain ⟨nx, Hnx⟩ : ∃ z, Hid (b.nix = z) := ⟨_, rfl⟩
    obtain ⟨W3, HW3⟩ : ∃ W : World, Hid ((((w.alloc (.cells #[.int .i64 x, .bool f, .slice A n c] 28)).alloc (.cells #[.int .i64 xb, .bool fb, .slice Ab nb cb] 28)).alloc (.cells #[.int .i64 0, .bool false, .slice none 0 0] 28)).alloc (.cells #[.int .i64 (x + xb), .bool false, .slice none 0 0] 28) = W) := ⟨_, rfl⟩
    have HC : Hid (Blk W3 (w.heap.size + 1) 28 #[.int .i64 xb, .bool fb, .slice Ab nb cb] ∧ Blk W3 (w.heap.size + 2) 28 #[.int .i64 0, .bool false, .slice none 0 0] ∧ Blk W3 (w.heap.size + 3) 28 #[.int .i64 (x + xb), .bool false, .slice none 0 0] ∧ Blk W3 w.heap.size 28 #[.int .i64 x, .bool f, .slice A n c] ∧ W3.heap.size = w.heap.size + 4) := by
      rw [← HW3.out]
      exact Lib.hid ⟨((Blk.step (by simp)).alloc _).alloc _, (Blk.step (by simp)).alloc _, Blk.step (by simp), (((Blk.new _ _ _).alloc _).alloc _).alloc _, by simp⟩
    have HB0 : Hid (Below w.heap.size w W3) := by
      rw [← HW3.out]
      exact Lib.hid (((((Below.refl _ _).alloc (Nat.le_refl _) _).alloc (by simp) _).alloc (by simp; omega) _).alloc (by simp; omega) _)
    clear ih hR hRb hsz hF hxd hxb
    go_enter Tryz.func97, Tryz.ntmps97
    go_upto_region 6 with fail
    rw [HW3.out]
    have zb := HC.out.1.cell
    go_wp2_with fail
    refine (fnone_any xb fb Ab nb cb b _ (HRb.out.keep (keeps_of HB0.out))).mono ?_
    rintro e w4 ⟨rfl, hb4⟩
    rw [Hnx.out]
    have HC4 : Hid (Blk w4 (w.heap.size + 2) 28 #[.int .i64 0, .bool false, .slice none 0 0] ∧ Blk w4 (w.heap.size + 3) 28 #[.int .i64 (x + xb), .bool false, .slice none 0 0] ∧ w.heap.size + 4 ≤ w4.heap.size) := Lib.hid ⟨HC.out.2.1.below hb4, HC.out.2.2.1.below hb4, by have := hb4.size; have := HC.out.2.2.2.2; omega⟩
    have HBB4s := Lib.hid (HC.out.1.below hb4)
    have HA4 := Lib.hid (HC.out.2.2.2.1.below hb4)
    have HB4 := Lib.hid (Below.next HB0.out hb4)
    clear zb hb4 HC HB0 HW3
    cases nx
    · have za := HA4.out.cell
      go_wp2_with fail
      go_loopw [30] (fun i wr => ∃ (k : Nat) (A' : Option Addr) (c' : Nat) (ms : List PM), k ≤ n ∧ i = .int .i64 (k : Int) ∧ Blk wr (w.heap.size + 2) 28 #[.int .i64 0, .bool false, .slice none 0 0] ∧ Blk wr (w.heap.size + 3) 28 #[.int .i64 (x + xb), .bool false, .slice A' k c'] ∧ Hid (Blk wr (w.heap.size + 1) 28 #[.int .i64 xb, .bool fb, .slice Ab nb cb]) ∧ Hid (PartsIn (w.heap.size + 4) wr A' k c' ms) ∧ Hid (ms.map PM.pr = (r.parts.take k).map fun p => (p.1, graft b p.2)) ∧ Below w.heap.size w wr ∧ w.heap.size + 4 ≤ wr.heap.size) (fun i _ => n - (intOf i).toNat)
      case atStart => exact ⟨0, none, 0, [], by omega, rfl, HC4.out.1, HC4.out.2.1, HBB4s, Lib.hid ⟨⟨by simp, .inl ⟨rfl, rfl⟩⟩, rfl, (fun m hm => by cases hm), List.Pairwise.nil, (fun m hm => by cases hm)⟩, rfl, HB4.out, by have := HC4.out.2.2; omega⟩
      case round =>
        obtain ⟨k, A', c', ms, hk, rfl, hbr, hbo, HBB, HP, Hms, hb, hsz3⟩ := hrel
        by_cases hlt : k < n
        · obtain ⟨bq, oq, p, A1, n1, c1, px, pf, A2, n2, c2, rfl, hp, hpt⟩ := (HR.out.keep (keeps_of hb)).at hlt
          have hps := size_at hp
          have Hfv := Lib.hid (fits_valid HF0.out (List.mem_of_getElem? hp))
          have Hps := Lib.hid (show p.2.size ≤ 64 by have := hps; have := Hsz.out; omega)
          have Htk := Lib.hid (take_snoc' hp)
          have hn1 : n1 ≤ 100000 := by have h1 := hpt.vs.len; have h2 := Hfv.out.2.1; omega
          obtain ⟨d0, d1, d2, d3, pok, pvs, prg⟩ := hpt
          have HPOK := Lib.hid pok
          have HPV_len := Lib.hid pvs.len
          have HPV := Lib.hid pvs
          have HPR := Lib.hid prg
          have HBR := Lib.hid hbr
          have HBO := Lib.hid hbo
          have HBL := Lib.hid hb
          clear hp pok pvs prg hbr hbo hb
          go_upto_region 11 with fail
          have hba : Below wr.heap.size wr (wr.alloc (.cells #[.slice A1 n1 c1, .int .i64 px, .bool pf, .slice A2 n2 c2] 85)) := (Below.refl _ _).alloc (Nat.le_refl _) _
          have HPB : Hid (Blk (wr.alloc (.cells #[.slice A1 n1 c1, .int .i64 px, .bool pf, .slice A2 n2 c2] 85)) wr.heap.size 85 #[.slice A1 n1 c1, .int .i64 px, .bool pf, .slice A2 n2 c2]) := Lib.hid (Blk.new _ _ _)
          have HP1 := Lib.hid (HP.out.below hba)
          have HBR1 := Lib.hid (HBR.out.below hba)
          have HBO1 := Lib.hid (HBO.out.below hba)
          have HBB1 := Lib.hid (HBB.out.below hba)
          have HB1 := Lib.hid (Below.next HBL.out hba)
          have HPV1 := Lib.hid (HPV.out.keep (keeps_of hba))
          have HPR1 := Lib.hid (HPR.out.keep (keeps_of hba))
          have hs1 : (wr.alloc (.cells #[.slice A1 n1 c1, .int .i64 px, .bool pf, .slice A2 n2 c2] 85)).heap.size = wr.heap.size + 1 := World.size_alloc _ _
          have HOl : Hid (∀ q, (Value.slice A' k c').ownBlock = some q → w.heap.size + 4 ≤ q ∧ q < wr.heap.size) := Lib.hid (fun q hq => ⟨(own_lt HP.out.own hq).1, (own_lt HP.out.own hq).2.1⟩)
          have HOv : Hid (∀ m ∈ ms, (∀ q, m.vv.ownBlock = some q → q < wr.heap.size) ∧ m.hi ≤ wr.heap.size) := Lib.hid (fun m hm => ⟨fun q hq => (own_lt (HP.out.ok m hm).own hq).2.1, (HP.out.ok m hm).hi⟩)
          generalize hW1 : wr.alloc (.cells #[.slice A1 n1 c1, .int .i64 px, .bool pf, .slice A2 n2 c2] 85) = W1 at *
          clear hW1 hba d0 d1 d2 d3 HPV HPR HBL HBR HBO HP
          obtain ⟨S, HS⟩ : ∃ S : Nat → Prop, Hid ((fun q => (Value.slice A' k c').ownBlock = some q) = S) := ⟨_, rfl⟩
          have HSl : Hid (∀ q, S q → w.heap.size + 4 ≤ q ∧ q < wr.heap.size) := by rw [← HS.out]; exact HOl
          refine wp_region_plan S (.one [0, 1, 2, 3, 5, 6, 7] 4 (.one [] 8 (.one [9] 10 (.one [] 11 (.fin [12] 13))))) (by kernel_rfl) (by kernel_rfl) (fun _ _ d _ _ h => by cases d <;> exact h) ?_
          have qO : ∀ (y : LaterS S W1.drew) j, (afterS S W1.drew y).cell? ⟨w.heap.size + 3, j, none⟩ = (#[.int .i64 (x + xb), .bool false, .slice A' k c'] : Array Value)[j]? := fun y j => (HBO1.out.drew.but y.but (fun h => by have := HSl.out _ h; omega)).cell j
          have qB : ∀ (y : LaterS S W1.drew) j, (afterS S W1.drew y).cell? ⟨w.heap.size + 1, j, none⟩ = (#[.int .i64 xb, .bool fb, .slice Ab nb cb] : Array Value)[j]? := fun y j => ((HBB1.out.drew).but y.but (fun h => by have := HSl.out _ h; omega)).cell j
          have qP : ∀ (y : LaterS S W1.drew) j, (afterS S W1.drew y).cell? ⟨wr.heap.size, j, none⟩ = (#[.slice A1 n1 c1, .int .i64 px, .bool pf, .slice A2 n2 c2] : Array Value)[j]? := fun y j => (HPB.out.drew.but y.but (fun h => by have := HSl.out _ h; omega)).cell j
          have hb1d : Below W1.heap.size W1 W1.drew := (Below.refl _ _).drew
          have HP2 := Lib.hid (HP1.out.below hb1d)
          have HPV2 : Hid (IvS W1.drew A1 n1 p.1) := Lib.hid (HPV1.out.keep (keeps_of hb1d))
          have HPR2 : Hid (RgS W1.drew px pf A2 n2 c2 p.2) := Lib.hid (HPR1.out.keep (keeps_of hb1d))
          have HB2 := Lib.hid (Below.next HB1.out hb1d)
          have HBR2 := Lib.hid HBR1.out.drew
          have HBO2 := Lib.hid HBO1.out.drew
          have HBB2 := Lib.hid HBB1.out.drew
          have hs2 : W1.drew.heap.size = wr.heap.size + 1 := hs1
          generalize hW2 : W1.drew = W2 at *
          clear hW2 HPV1 HPR1 HB1 HBR1 HBO1 HBB1 HPB HP1 hb1d hs1
          unfold wpPlan
          simp only [pickOps, opAt, List.map_cons, List.map_nil, List.getElem?_toArray, List.getElem?_cons_zero, List.getElem?_cons_succ, Option.getD_some]
          repeat (go_big_quiet_step (fail))
          refine wpQuiet_nil ?_
          clear qO qP qB
          go_wp2_with (at_builtin; refine wpList_append_sf (cs := Iv.cs) W2 (by rfl) _ (.tmp 37) _ (by rfl) (w.heap.size + 4) 70 i0 _ 7 72 Tryz.underlying64 hi0 hz0 hz1 hz2 (by rfl) (by omega) (.slice none 0 0) 0 [] (by rfl) ⟨by simp, .inl ⟨rfl, rfl⟩⟩ A1 n1 c1 p.1 (by rfl) HPV2.out HPOK.out.2 Iv.cs_len one_iv (by simp only [maxLen]; omega) (by omega) (by omega) ?_; intro A4 c4 w4 hown4 hg4 hB4 hat4 hnil4; simp only [Nat.zero_add, List.nil_append] at hown4 hat4 ⊢)
          have hbf4 := fresh_none hg4
          refine ⟨But.of_below hbf4, ?_⟩
          have HOW4 := Lib.hid hown4
          have HAT4 := Lib.hid hat4
          have HP4 := Lib.hid (HP2.out.below hbf4)
          have HPR4 := Lib.hid (HPR2.out.keep (keeps_of hbf4))
          have HB4 := Lib.hid (Below.next HB2.out hbf4)
          have HBR4 := Lib.hid (HBR2.out.below hbf4)
          have HBO4 := Lib.hid (HBO2.out.below hbf4)
          have HBB4 := Lib.hid (HBB2.out.below hbf4)
          have hs4 := hbf4.size
          clear hown4 hg4 hB4 hat4 hnil4 hbf4 HPV2 HPR2 HB2 HBR2 HBO2 HBB2 HP2
          unfold wpPlan
          simp only [pickOps, opAt, List.map_nil, List.getElem?_toArray, List.getElem?_cons_zero, List.getElem?_cons_succ, Option.getD_some]
          refine wpQuiet_nil ?_
          have HRb4 := Lib.hid (HRb.out.keep (keeps_of HB4.out))
          go_wp2_with (first | (go_at_call 97; refine (HI.out p.2 px pf A2 n2 c2 xb fb Ab nb cb _ hd' Hfv.out.2.2 Hps.out HPR4.out HRb4.out).mono ?_; rintro e w5 ⟨x5, f5, A5, n5, c5, rfl, hF5, hb5⟩))
          rw [show prodR p.2 b = graft b p.2 from by unfold prodR; rw [if_neg (by rw [Hnx.out]; decide)]] at hF5
          clear HRb4
          refine ⟨But.of_below hb5, ?_⟩
          have HF5 := Lib.hid hF5
          have HOW5 := Lib.hid (own_at HOW4.out (fun g _ hl _ => hb5.block g hl))
          have HOVl : Hid (∀ q, (Value.slice A4 n1 c4).ownBlock = some q → q = W2.heap.size ∧ q < w4.heap.size) := Lib.hid (fun q hq => by
            refine ⟨?_, (own_lt HOW4.out hq).2.1⟩
            rcases HAT4.out with h | h
            · rw [h] at hq; cases hq
            · rw [h] at hq; injection hq with hq; exact hq.symm)
          have HP5 := Lib.hid (HP4.out.below hb5)
          have HB5 := Lib.hid (Below.next HB4.out hb5)
          have HBR5 := Lib.hid (HBR4.out.below hb5)
          have HBO5 := Lib.hid (HBO4.out.below hb5)
          have HBB5 := Lib.hid (HBB4.out.below hb5)
          have hs5 := hb5.size
          clear hF5 hb5 HOW4 HAT4 HP4 HPR4 HB4 HBR4 HBO4 HBB4
          unfold wpPlan
          simp only [pickOps, opAt, List.map_cons, List.map_nil, List.getElem?_toArray, List.getElem?_cons_zero, List.getElem?_cons_succ, Option.getD_some]
          repeat (go_big_quiet_step (fail))
          refine wpQuiet_nil ?_
          go_wp2_with fail
          refine ⟨But.alloc _ _, ?_⟩
          unfold wpPlan
          simp only [pickOps, opAt, List.map_nil, List.getElem?_toArray, List.getElem?_cons_zero, List.getElem?_cons_succ, Option.getD_some]
          refine wpQuiet_nil ?_
          go_wp2_with (at_builtin; refine wpList_append_one2 (by rfl) (.tmp 35) (.tmp 44) _ (by rfl) (w.heap.size + 4) 85 i1 _ 4 64 Tryz.underlying26 hi1 hy0 hy1 hy2 (by rfl) (by omega) (.slice A' k c') k _ (by rfl) w5 #[.slice A4 n1 c4, .int .i64 x5, .bool f5, .slice A5 n5 c5] HP5.out.own w5.heap.size (by rfl) (by rfl) (by rfl) (one_pm (PM.mk A4 n1 c4 p.1 x5 f5 A5 n5 c5 (graft b p.2) w4.heap.size w5.heap.size)) (by simp only [maxLen]; omega) (by omega) (by omega) ?_; intro g9 cap9 w9 hown9 hg9 hB9 hat9 hlt9)
          have hbu9 : But S (w5.alloc (.cells #[.slice A4 n1 c4, .int .i64 x5, .bool f5, .slice A5 n5 c5] 85)) w9 := But.of_grown hg9 (fun k hk => by rw [← HS.out]; exact hk)
          refine ⟨hbu9, ?_⟩
          have hbu59 : But S w5 w9 := (But.alloc _ _).trans hbu9
          have HOWN9 := Lib.hid hown9
          have HAT9 := Lib.hid hat9
          have HBR9 := Lib.hid (HBR5.out.but hbu59 (fun h => by have := HSl.out _ h; omega))
          have HBB9 := Lib.hid (HBB5.out.but hbu59 (fun h => by have := HSl.out _ h; omega))
          have HBO9 := Lib.hid (HBO5.out.but hbu59 (fun h => by have := HSl.out _ h; omega))
          have HB9 : Hid (Below w.heap.size w w9) := Lib.hid (hbu59.below HB5.out (by omega) (fun q hq => by have := HSl.out _ hq; omega))
          have HBU9 := Lib.hid hbu59
          have hs9 := hbu59.size
          clear hown9 hg9 hB9 hat9 hbu9 hbu59 HBR5 HBO5 HBB5 HB5
          unfold wpPlan
          simp only [pickOps, opAt, List.map_cons, List.map_nil, List.getElem?_toArray, List.getElem?_cons_zero, List.getElem?_cons_succ, Option.getD_some]
          have hoc := HBO9.out.cell
          have hof := HBO9.out.free
          repeat (go_big_quiet_step (fail))
          refine wpQuiet_nil ?_
          go_upto_region 12 with fail
          have hbu10 : But (· = w.heap.size + 3) w9 (w9.setCell ⟨w.heap.size + 3, 2, none⟩ (.slice (some ⟨g9, 0, none⟩) (k + 1) cap9)) := But.set (S := fun q => q = w.heap.size + 3) _ (p := ⟨w.heap.size + 3, 2, none⟩) rfl _
          have HBO10 : Hid (Blk (w9.setCell ⟨w.heap.size + 3, 2, none⟩ (.slice (some ⟨g9, 0, none⟩) (k + 1) cap9)) (w.heap.size + 3) 28 #[.int .i64 (x + xb), .bool false, .slice (some ⟨g9, 0, none⟩) (k + 1) cap9]) := Lib.hid (HBO9.out.set_ 2 _)
          generalize hW10 : w9.setCell ⟨w.heap.size + 3, 2, none⟩ (.slice (some ⟨g9, 0, none⟩) (k + 1) cap9) = w10 at *
          clear hW10 hoc hof
          have HBR10 := Lib.hid (HBR9.out.but hbu10 (by omega))
          have HBB10 := Lib.hid (HBB9.out.but hbu10 (by omega))
          have HB10 : Hid (Below w.heap.size w w10) := Lib.hid (hbu10.below HB9.out (by omega) (fun q hq => by omega))
          have hs10 := hbu10.size
          have HOWN10 := Lib.hid (own_but HOWN9.out hbu10 (fun q hq hs => by have := (own_lt HOWN9.out hq).1; omega))
          have HP10 : Hid (PartsIn (w.heap.size + 4) w10 (some ⟨g9, 0, none⟩) (k + 1) cap9 (ms ++ [PM.mk A4 n1 c4 p.1 x5 f5 A5 n5 c5 (graft b p.2) w4.heap.size w5.heap.size])) := by
            refine Lib.hid (HP5.out.addv ?_ ?_ ?_ ?_ ?_ ?_)
            · rw [List.flatMap_append]
              simpa [PM.cs] using HOWN10.out
            · refine (HBU9.out.wide (fun q hq => ?_)).trans (hbu10.wide (fun q hq => .inr (by omega)))
              rw [← HS.out] at hq
              exact .inl hq
            · intro q hq
              simp only [Value.ownBlock, Option.some.injEq] at hq
              subst hq
              rcases HAT9.out with e | e
              · exact .inl e
              · exact .inr (by omega)
            · exact ⟨HOW5.out, HPV_len.out, HF5.out, by show w.heap.size + 4 ≤ w4.heap.size; omega, Nat.le_refl _⟩
            · intro q (h1 : w4.heap.size ≤ q) (h2 : q < w5.heap.size)
              refine ⟨fun hs => ?_, fun hs => ?_, fun m' hm' hs => ?_⟩
              · have := HOl.out q hs; omega
              · have := HOVl.out q hs; omega
              · have := (HOv.out m' hm').1 q hs; omega
            · intro q hq m' hm'
              have h1 := HOVl.out q hq
              have h2 := HOv.out m' hm'
              exact ⟨fun hs => by have := h2.1 q hs; omega, fun hs => by omega⟩
          clear HBR9 HBO9 HBB9 HB9 HBU9 hbu10 HOWN9 HOWN10 HP5 HOW5 HF5
          go_wp2_with fail
          go_roundw
          case rel =>
            refine ⟨k + 1, _, cap9, _, by omega, by go_num, HBR10.out, HBO10.out, HBB10, HP10, ?_, HB10.out, by omega⟩
            show _ = _
            rw [List.map_append, Hms.out, Htk.out, List.map_append]
            rfl
          case measure => simp [intOf]; omega
        · obtain rfl : k = n := by omega
          have hy3 := (put3R_blk (a' := .int .i64 (x + xb)) (b' := .bool false) (c' := .slice A' k c') hbr).cell
          have hy1 := (hbr.set_ 0 (.int .i64 (x + xb))).cell
          have hy2 := ((hbr.set_ 0 (.int .i64 (x + xb))).set_ 1 (.bool false)).cell
          obtain ⟨ff1, ff2, ff3⟩ := put3R_free hbr (.int .i64 (x + xb)) (.bool false)
          have zo := hbo.cell
          have zr := hbr.cell
          have hmk : mkR (x + xb) false (ms.map PM.pr) = rr := by
            have h1 := HR.out
            rw [← Hrr.out, Hms.out, List.take_of_length_le (by rw [len_parts, h1.len]; exact Nat.le_refl _)]
            unfold prodR
            rw [if_neg (by rw [Hnx.out]; decide), graft_form HF0.out.1, ← HRb.out.hw, ← h1.hw, HF0.out.1.width]
          have HF := Lib.hid (HP.out.region2 (x + xb) false)
          rw [hmk] at HF
          have HBf := Lib.hid (put3R_below hb (show w.heap.size ≤ w.heap.size + 2 by omega) (.int .i64 (x + xb)) (.bool false) (.slice A' k c'))
          have HFr : Hid (RgF w.heap.size (put3R wr (w.heap.size + 2) (.int .i64 (x + xb)) (.bool false) (.slice A' k c')).heap.size (put3R wr (w.heap.size + 2) (.int .i64 (x + xb)) (.bool false) (.slice A' k c')) (x + xb) false A' k c' rr) := by
            refine Lib.hid ((HF.out.keep fun q h1 h2 => (put3R_but wr (w.heap.size + 2) _ _ _).block q h2 (by omega)).wide (by omega) (by rw [put3R_size]; exact Nat.le_refl _))
          unfold put3R at hy3
          clear hmk hbr hbo hb
          go_wp2
          exact bodyPost_ret (v := .agg #[.int .i64 (x + xb), .bool false, .slice A' k c']) (by simp [results, Tryz.results97, go_sem, hy3]) rfl ⟨x + xb, false, A', k, c', rfl, HFr.out, HBf.out⟩
    · obtain rfl : rr = .nil (x + xb) false := by
        rw [← Hrr.out]
        unfold prodR
        rw [if_pos Hnx.out, ← HR.out.hw, ← HRb.out.hw]
      have zo := HC4.out.2.1.cell
      have zr := HC4.out.1.cell
      obtain ⟨ff1, ff2, ff3⟩ := put3R_free HC4.out.1 (.int .i64 (x + xb)) (.bool false)
      have y3 := (put3R_blk (a' := .int .i64 (x + xb)) (b' := .bool false) (c' := .slice none 0 0) HC4.out.1).cell
      have y1 := (HC4.out.1.set_ 0 (.int .i64 (x + xb))).cell
      have y2 := ((HC4.out.1.set_ 0 (.int .i64 (x + xb))).set_ 1 (.bool false)).cell
      have HBf := Lib.hid (put3R_below HB4.out (show w.heap.size ≤ w.heap.size + 2 by omega) (.int .i64 (x + xb)) (.bool false) (.slice none 0 0))
      unfold put3R at y3
      go_wp2
      exact bodyPost_ret (v := .agg #[.int .i64 (x + xb), .bool false, .slice none 0 0]) (by simp [results, Tryz.results97, go_sem, y3]) rfl ⟨x + xb, false, none, 0, 0, rfl, RgF.nil _ _, HBf.out⟩
end Go.Proofs.YtnocbigcdjlliaaGreat
