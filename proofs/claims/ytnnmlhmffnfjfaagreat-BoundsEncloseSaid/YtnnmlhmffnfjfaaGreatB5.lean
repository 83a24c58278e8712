/-
  Texts: RgMem, First, Case, Pd, RegionS, Next, Real.
-/
import Derived.Test.YtnnmlhmffnfjfaaGreatB4
import Derived.Shelf.Abstract
import Derived.Lib.ConvBytes
import Derived.Lib.SlBytesRow
set_option linter.unusedVariables false
set_option maxRecDepth 100000
namespace Go.Proofs.YtnnmlhmffnfjfaaGreat
open Go.RowKit
open Rg
def okS (A : Option Addr) (n c : Nat) : Prop := n ≤ c ∧ (A = none → n = 0 ∧ c = 0)
def RgP (w : World) : Rg → Nat → Nat → Prop
 | .nil _ _, _, _ => True
 | .cons vs rest tail, b, o =>
   (∃ A n c, w.cell? ⟨b, o, none⟩ = some (.slice A n c) ∧ okS A n c ∧ IvS w A n vs) ∧ w.cell? ⟨b, o + 1, none⟩ = some (.int .i64 rest.w) ∧ w.cell? ⟨b, o + 2, none⟩ = some (.bool rest.f) ∧
   (∃ A n c, w.cell? ⟨b, o + 3, none⟩ = some (.slice A n c) ∧ okS A n c ∧ n = rest.len ∧ (0 < n → ∃ b' o', A = some ⟨b', o', none⟩ ∧ RgP w rest b' o')) ∧ RgP w tail b (o + 4)
structure RgS (w : World) (x : Int) (f : Bool) (A : Option Addr) (n c : Nat) (r : Rg) : Prop where
 hw : r.w = x
 hf : r.f = f
 ok : okS A n c
 len : n = r.len
 ex : 0 < n → ∃ b o, A = some ⟨b, o, none⟩ ∧ RgP w r b o
structure PtAt (w : World) (b o : Nat) (p : List Iv × Rg) (A : Option Addr) (n c : Nat) (x : Int) (f : Bool) (A' : Option Addr) (n' c' : Nat) : Prop where
 c0 : w.cell? ⟨b, o, none⟩ = some (.slice A n c)
 c1 : w.cell? ⟨b, o + 1, none⟩ = some (.int .i64 x)
 c2 : w.cell? ⟨b, o + 2, none⟩ = some (.bool f)
 c3 : w.cell? ⟨b, o + 3, none⟩ = some (.slice A' n' c')
 ok : okS A n c
 vs : IvS w A n p.1
 rg : RgS w x f A' n' c' p.2
theorem RgP.keep {w w' : World} (hk : Keeps w w') : ∀ {r : Rg} {b o : Nat}, RgP w r b o → RgP w' r b o
 | .nil _ _, _, _, _ => trivial
 | .cons vs rest tail, b, o, h => by
   obtain ⟨⟨A, n, c, h1, h2, h3⟩, h4, h5, ⟨A', n', c', h6, h7, h8, h9⟩, h10⟩ := h
   refine ⟨⟨A, n, c, keep_cell hk h1, h2, h3.keep hk⟩, keep_cell hk h4, keep_cell hk h5, ⟨A', n', c', keep_cell hk h6, h7, h8, fun hn => ?_⟩, RgP.keep hk h10⟩
   obtain ⟨b', o', e, h⟩ := h9 hn
   exact ⟨b', o', e, RgP.keep hk h⟩
theorem RgS.keep {w w' : World} {x : Int} {f : Bool} {A : Option Addr} {n c : Nat} {r : Rg} (h : RgS w x f A n c r) (hk : Keeps w w') : RgS w' x f A n c r :=
 ⟨h.hw, h.hf, h.ok, h.len, fun hn => by
  obtain ⟨b, o, e, hp⟩ := h.ex hn
  exact ⟨b, o, e, hp.keep hk⟩⟩
theorem RgP.at {w : World} : ∀ {r : Rg} {b o k : Nat} {p : List Iv × Rg}, RgP w r b o → r.parts[k]? = some p → ∃ A n c x f A' n' c', PtAt w b (o + k * 4) p A n c x f A' n' c'
 | .nil _ _, _, _, _, _, _, hp => by simp [parts] at hp
 | .cons vs rest tail, b, o, 0, p, h, hp => by
   simp only [parts, List.getElem?_cons_zero, Option.some.injEq] at hp
   subst hp
   obtain ⟨⟨A, n, c, h1, h2, h3⟩, h4, h5, ⟨A', n', c', h6, h7, h8, h9⟩, _⟩ := h
   exact ⟨A, n, c, rest.w, rest.f, A', n', c', ⟨by simpa using h1, by simpa using h4, by simpa using h5, by simpa using h6, h2, h3, ⟨rfl, rfl, h7, h8, h9⟩⟩⟩
 | .cons vs rest tail, b, o, k + 1, p, h, hp => by
   simp only [parts, List.getElem?_cons_succ] at hp
   have := RgP.at h.2.2.2.2 hp
   rw [show o + (k + 1) * 4 = o + 4 + k * 4 by omega]
   exact this
theorem RgS.at {w : World} {x : Int} {f : Bool} {A : Option Addr} {n c k : Nat} {r : Rg} (h : RgS w x f A n c r) (hk : k < n) : ∃ b o p A1 n1 c1 x2 f2 A2 n2 c2, A = some ⟨b, o, none⟩ ∧ r.parts[k]? = some p ∧ PtAt w b (o + k * 4) p A1 n1 c1 x2 f2 A2 n2 c2 := by
 obtain ⟨b, o, e, hp⟩ := h.ex (by omega)
 have hl := h.len
 have hk' : k < r.parts.length := by rw [len_parts]; omega
 obtain ⟨A1, n1, c1, x2, f2, A2, n2, c2, hpt⟩ := hp.at (List.getElem?_eq_getElem hk')
 exact ⟨b, o, _, A1, n1, c1, x2, f2, A2, n2, c2, e, List.getElem?_eq_getElem hk', hpt⟩
theorem RgP.of {w : World} : ∀ {r : Rg} {b o : Nat}, (∀ k p, r.parts[k]? = some p → ∃ A n c x f A' n' c', PtAt w b (o + k * 4) p A n c x f A' n' c') → RgP w r b o
 | .nil _ _, _, _, _ => trivial
 | .cons vs rest tail, b, o, h => by
   obtain ⟨A, n, c, x, f, A', n', c', h0⟩ := h 0 (vs, rest) rfl
   simp only [Nat.zero_mul, Nat.add_zero] at h0
   obtain ⟨d0, d1, d2, d3, d4, d5, ⟨rfl, rfl, d6, d7, d8⟩⟩ := h0
   refine ⟨⟨A, n, c, d0, d4, d5⟩, d1, d2, ⟨A', n', c', d3, d6, d7, d8⟩, RgP.of fun k p hp => ?_⟩
   have := h (k + 1) p (by simpa [parts] using hp)
   rw [show o + 4 + k * 4 = o + (k + 1) * 4 by omega]
   exact this
theorem PtAt.keep {w w' : World} {b o : Nat} {p : List Iv × Rg} {A : Option Addr} {n c : Nat} {x : Int} {f : Bool} {A' : Option Addr} {n' c' : Nat} (h : PtAt w b o p A n c x f A' n' c') (hk : Keeps w w') : PtAt w' b o p A n c x f A' n' c' :=
 ⟨keep_cell hk h.c0, keep_cell hk h.c1, keep_cell hk h.c2, keep_cell hk h.c3, h.ok, h.vs.keep hk, h.rg.keep hk⟩
theorem RgS.nil {w : World} (x : Int) (f : Bool) : RgS w x f none 0 0 (.nil x f) := ⟨rfl, rfl, ⟨Nat.le_refl _, fun _ => ⟨rfl, rfl⟩⟩, rfl, fun h => absurd h (by omega)⟩
theorem RgS.nil_of {w : World} {x : Int} {f : Bool} {A : Option Addr} {c : Nat} {r : Rg} (h : RgS w x f A 0 c r) : r = .nil x f := by
 have := h.len
 have h1 := h.hw
 have h2 := h.hf
 cases r with
 | nil x f => simp only [Rg.w, Rg.f] at h1 h2; rw [h1, h2]
 | cons vs rest tail => simp [Rg.len] at this
def sizeL (l : List (List Iv × Rg)) : Nat := (l.map fun p => 1 + p.2.size).sum
theorem size_parts : ∀ r : Rg, r.size = sizeL r.parts
 | .nil _ _ => rfl
 | .cons vs rest tail => by
   have ih := size_parts tail
   simp only [Rg.size, parts, sizeL, List.map_cons, List.sum_cons] at ih ⊢
   omega
theorem sizeL_cons (p : List Iv × Rg) (l : List (List Iv × Rg)) : sizeL (p :: l) = 1 + p.2.size + sizeL l := by simp [sizeL]
theorem sizeL_append (a b : List (List Iv × Rg)) : sizeL (a ++ b) = sizeL a + sizeL b := by simp [sizeL, List.sum_append]
theorem sizeL_drop {l : List (List Iv × Rg)} {k : Nat} {p : List Iv × Rg} (h : l[k]? = some p) : sizeL (l.drop k) = 1 + p.2.size + sizeL (l.drop (k + 1)) := by rw [drop_at h, sizeL_cons]
theorem sizeL_len : ∀ l : List (List Iv × Rg), l.length ≤ sizeL l
 | [] => Nat.le_refl _
 | p :: l => by have := sizeL_len l; rw [sizeL_cons, List.length_cons]; omega
theorem len_le_size (r : Rg) : r.len ≤ r.size := by rw [size_parts, ← len_parts]; exact sizeL_len _
theorem size_at {r : Rg} {k : Nat} {p : List Iv × Rg} (h : r.parts[k]? = some p) : p.2.size < r.size := size_mem (List.mem_of_getElem? h)
theorem nix_len (r : Rg) : r.nix = (!r.f && decide (r.len = 0)) := rfl
theorem RgS.at2 {w w' : World} {x : Int} {f : Bool} {A : Option Addr} {n c k : Nat} {r : Rg} (h : RgS w x f A n c r) (hK : Keeps w w') (hk : k < n) : ∃ b o p A1 n1 c1 x2 f2 A2 n2 c2, A = some ⟨b, o, none⟩ ∧ r.parts[k]? = some p ∧ PtAt w b (o + k * 4) p A1 n1 c1 x2 f2 A2 n2 c2 ∧ PtAt w' b (o + k * 4) p A1 n1 c1 x2 f2 A2 n2 c2 := by
 obtain ⟨b, o, p, A1, n1, c1, x2, f2, A2, n2, c2, e, hp, hpt⟩ := h.at hk
 exact ⟨b, o, p, A1, n1, c1, x2, f2, A2, n2, c2, e, hp, hpt, hpt.keep hK⟩
end Go.Proofs.YtnnmlhmffnfjfaaGreat
namespace Go.Proofs.YtnnmlhmffnfjfaaGreat
open Go.RowKit
def minI : Int := -9223372036854775808
def firstV (k : Int) : Vl × Bool :=
 if k = 1 ∨ k = 2 ∨ k = 3 ∨ k = 5 then (⟨k, 0, ⟨#[]⟩⟩, true) else if k = 4 then (⟨k, minI, ⟨#[]⟩⟩, true) else (zeroV, false)
set_option maxHeartbeats 400000 in
theorem first_any (k : Int) (w : World) : Calls Tryz.prog 184 #[.int .i64 k] w fun e w' =>
 e = .returned (.tuple #[.agg #[.int .i64 (firstV k).1.k, .int .i64 (firstV k).1.i, .string (firstV k).1.t], .bool (firstV k).2]) ∧ Below w.heap.size w w' := by
 generalize hf : firstV k = r
 have Hf := zH hf
 clear hf
 go_enter Tryz.func184, Tryz.ntmps184
 go_wp2
 all_goals
  first
   | (refine bodyPost_ret (v := .tuple #[.agg #[.int .i64 k, .int .i64 0, .string ⟨#[]⟩], .bool true]) ?_ rfl ⟨?_, ?_⟩; focus (simp [results, Tryz.results184, go_sem]; done))
   | (refine bodyPost_ret (v := .tuple #[.agg #[.int .i64 k, .int .i64 minI, .string ⟨#[]⟩], .bool true]) ?_ rfl ⟨?_, ?_⟩; focus (simp [results, Tryz.results184, go_sem, minI]; done))
   | (refine bodyPost_ret (v := .tuple #[.agg #[.int .i64 0, .int .i64 0, .string ⟨#[]⟩], .bool false]) ?_ rfl ⟨?_, ?_⟩; focus (simp [results, Tryz.results184, go_sem]; done))
  · rw [← Hf.out]
    simp_all [firstV, zeroV]
  · repeat (first | exact Below.refl _ _ | apply Below.drew | refine Below.setCell ?_ (by simp) _ | refine Below.alloc ?_ (by simp) _)
def u8c (b : Int) : List Value := [.int .u8 b]
structure CaseAt (w : World) (g : Nat) : Prop where
 ex : ∃ (A : Option Addr) (n c k : Nat) (zs : List Int), Blk w g 87 #[.slice A n c, .int .i64 (k : Int)] ∧ Sl 1 u8c w A n zs ∧ (∀ z ∈ zs, 0 ≤ z ∧ z ≤ 255) ∧ n ≤ 1000 ∧ k ≤ n ∧ (0 < n → ∀ b o, A = some ⟨b, o, none⟩ → b < g)
theorem Sl.lt_of {w : World} {A : Option Addr} {n : Nat} {zs : List Int} {b o : Nat} (h : Sl 1 u8c w A n zs) (hA : A = some ⟨b, o, none⟩) (hn : 0 < n) : ∃ z, w.cell? ⟨b, o, none⟩ = some (.int .u8 z) := by
 obtain ⟨b', o', x, hA', hx, hc⟩ := h.at hn
 rw [hA] at hA'
 injection hA' with h1
 injection h1 with h1 h2
 subst h1 h2
 exact ⟨x, by have := hc 0 _ rfl; simpa using this⟩
theorem case_ne {w : World} {g : Nat} {A A' : Option Addr} {n m c k : Nat} {zs : List Int} (hB : Blk w g 87 #[.slice A' m c, .int .i64 (k : Int)]) (h : Sl 1 u8c w A n zs) (hn : 0 < n) : ∀ b o, A = some ⟨b, o, none⟩ → b ≠ g := by
 rintro b o hA rfl
 obtain ⟨z, hz⟩ := h.lt_of hA hn
 rw [hB.cell] at hz
 rcases o with _ | _ | o <;> simp at hz
theorem CaseAt.below {w w' : World} {g : Nat} (h : CaseAt w g) (hb : Below w.heap.size w w') : CaseAt w' g := by
 obtain ⟨A, n, c, k, zs, h1, h2, h3, h4, h5⟩ := h.ex
 exact ⟨A, n, c, k, zs, h1.below hb, h2.keep (keeps_of hb), h3, h4, h5⟩
set_option maxHeartbeats 1000000 in
theorem int_any (g : Nat) (m : Int) (w : World) (hc : CaseAt w g) (hm : 1 ≤ m) (hm2 : m ≤ 1000) :
 Calls Tryz.prog 46 #[.pointer (some ⟨g, 0, none⟩), .int .i64 m] w fun e w' => (∃ x : Int, 0 ≤ x ∧ x < m ∧ e = .returned (.int .i64 x)) ∧ CaseAt w' g ∧ But (· = g) w w' := by
 obtain ⟨A, n, c, k, zs, hB, hS, hz, hn, hk, hlow⟩ := hc.ex
 have HLOW := zH hlow
 clear hlow
 have e0 := blocks_at hB (i := 0) rfl
 have e1 := blocks_at hB (i := 1) rfl
 rcases Nat.lt_or_ge k n with hkn | hkn
 · obtain ⟨b, o, z, rfl, hzx, hzc⟩ := hS.at hkn
   have hne := case_ne hB hS (by omega) b o rfl
   have hzb : 0 ≤ z ∧ z ≤ 255 := hz z (List.mem_of_getElem? hzx)
   have hcell := hzc 0 _ rfl
   simp only [Nat.mul_one, Nat.add_zero] at hcell
   have g1 : decide (n ≤ k) = false := by simp; omega
   have g2 : decide (m < 1) = false := by simp; omega
   have f1 := hB.free 1
   have hSet := hB.set_ 1 (.int .i64 ((k : Int) + 1))
   have hU : But (· = g) w (w.setCell ⟨g, 1, none⟩ (.int .i64 ((k : Int) + 1))) := But.set (S := fun k => k = g) w (p := ⟨g, 1, none⟩) rfl _
   have hS2 := hS.but hU (fun h b' o' e => by injection e with e; injection e with e1 e2; rw [← e1]; exact hne)
   have d0 := far_cell (p := ⟨g, 1, none⟩) (u := .int .i64 ((k : Int) + 1)) hcell hne
   have HB := zH (show CaseAt (w.setCell ⟨g, 1, none⟩ (.int .i64 ((k : Int) + 1))) g from ⟨_, n, c, k + 1, zs, hSet, hS2, hz, hn, hkn, HLOW.out⟩)
   have d1 := blocks_at hSet (i := 0) (u := .slice (some ⟨b, o, none⟩) n c) rfl
   have d2 := blocks_at hSet (i := 1) (u := .int .i64 ((k : Int) + 1)) rfl
   have HS := zH hS
   have HC := zH hc
   have HU := zH hU
   clear hB hS hc hSet hU hS2 hzx hzc hz
   go_enter Tryz.func46, Tryz.ntmps46
   go_wp2
   have hca := @cell_after w.drew
   refine wp_region_seg [] [0, 1, 2, 3, 4, 5, 6, 7, 8, 9, 10, 11, 12, 13] (by kernel_rfl) (by kernel_rfl) (fun _ _ d _ _ h => by cases d <;> exact h) ?_
   simp only [pickSegs, pickOps, opAt, pkO]
   unfold wpBlocks
   repeat (go_big_quiet_step (fail))
   refine wpQuiet_nil ?_
   clear hca
   go_wp2
   generalize w.setCell ⟨g, 1, none⟩ (.int .i64 ((k : Int) + 1)) = W at *
   clear hcell e0 e1 f1
   have hca := @cell_after W.drew.drew
   refine wp_region_seg [] [0, 1, 2, 3, 4, 5, 6, 7, 8, 9, 10, 11, 12, 13, 14] (by kernel_rfl) (by kernel_rfl) (fun _ _ d _ _ h => by cases d <;> exact h) ?_
   simp only [pickSegs, pickOps, opAt, pkO]
   unfold wpBlocks
   repeat (go_big_quiet_step (fail))
   refine wpQuiet_nil ?_
   clear hca
   go_wp2
   go_ret
   refine ⟨⟨z % m, Int.emod_nonneg z (by omega), ?_, rfl⟩, HB.out.below (Below.refl _ _).drew.drew, HU.out.drew.drew⟩
   exact Int.emod_lt_of_pos z (by omega)
 · have g1 : decide (n ≤ k) = true := by simp; omega
   go_enter Tryz.func46, Tryz.ntmps46
   have HB := zH hB
   have HS := zH hS
   have HC := zH hc
   clear hB hS hc
   go_wp2
   have hca := @cell_after w.drew
   refine wp_region_seg [] [0, 1, 2, 3, 4, 5, 6, 7, 8, 9, 10, 11, 12, 13] (by kernel_rfl) (by kernel_rfl) (fun _ _ d _ _ h => by cases d <;> exact h) ?_
   simp only [pickSegs, pickOps, opAt, pkO]
   unfold wpBlocks
   repeat (go_big_quiet_step (fail))
   refine wpQuiet_nil ?_
   clear hca
   go_wp2
   go_ret
   exact ⟨⟨0, by omega, by omega, rfl⟩, HC.out.below (Below.refl _ _).drew, (But.refl _ _).drew⟩
theorem info_u8 : (Tryz.prog.info? 5).map (fun i => (i.zero, i.size, i.bytes)) = some (some (.int .u8 0), 1, 1) := by kernel_rfl
set_option maxHeartbeats 1000000 in
theorem new_any (A : Option Addr) (n c : Nat) (zs : List Int) (most : Nat) (w : World) (hs : Sl 1 u8c w A n zs) (hz : ∀ z ∈ zs, 0 ≤ z ∧ z ≤ 255) (hnil : A = none → n = 0 ∧ c = 0) (hsp : ∀ ad, A = some ad → ad.spot = none) (hnc : n ≤ c) (hcm : c ≤ 9223372036854775807) (hmo : most ≤ 1000) :
 Calls Tryz.prog 13 #[.slice A n c, .int .i64 (most : Int)] w fun e w' => ∃ g, w.heap.size ≤ g ∧ e = .returned (.pointer (some ⟨g, 0, none⟩)) ∧ CaseAt w' g ∧ Below w.heap.size w w' := by
 obtain ⟨i0, hi, hz0, hz1, hz2⟩ := info_parts info_u8
 have key : ∀ m : Nat, m ≤ n → m ≤ 1000 → ∀ (A' : Option Addr) (c' : Nat) (w1 : World), w1.ownsRow w.heap.size 5 1 (.slice A' m c') m ((zs.take m).flatMap u8c) → Below w.heap.size w w1 →
  CaseAt (w1.alloc (.cells #[.slice A' m c', .int .i64 0] 87)) w1.heap.size ∧ Below w.heap.size w (w1.alloc (.cells #[.slice A' m c', .int .i64 0] 87)) := by
  intro m h1 h2 A' c' w1 ho hb
  have hl := hs.len
  refine ⟨⟨A', m, c', 0, zs.take m, Blk.new _ _ _, (Sl.of_own (cs := u8c) (fun _ => rfl) (by simp; omega) ho).keep (keeps_alloc _ _), fun z h => hz z (List.mem_of_mem_take h), by omega, by omega, fun hm b o e => Sl.lt (cs := u8c) (sz := 1) (fun _ => rfl) (by decide) (Sl.of_own (cs := u8c) (fun _ => rfl) (by simp; omega) ho) hm b o e⟩, hb.alloc hb.size _⟩
 have Key := zH key
 have HS := fun (m : Nat) (h : m ≤ n) => zH (hs.take m h)
 have HN := zH hnil
 have HSP := zH hsp
 clear hs hnil hsp hz key
 rcases Nat.lt_or_ge most n with hle | hle
 rotate_left
 · have HS1 := HS n (Nat.le_refl _)
   clear HS
   have hmin : min (n : Int) (most : Int) = (n : Int) := by omega
   go_enter Tryz.func13, Tryz.ntmps13
   go_wp2_with (at_builtin; refine wpList_append_sl (cs := u8c) w (by rfl) _ (.tmp 10) _ (by rfl) w.heap.size 5 i0 _ 1 1 Tryz.underlying22 hi hz0 hz1 hz2 (by rfl) (by omega) (.slice none 0 0) 0 [] (by rfl) ⟨by simp, .inl ⟨rfl, rfl⟩⟩ A n c (zs.take n) (by rfl) HS1.out HN.out HSP.out (fun _ => rfl) (by simp [u8c, Value.oneCell']) (by simp only [maxLen]; omega) (by omega) (Nat.le_refl _) ?_; intro A1 c1 w1 hown1 hg1 hB1 hat1 hn1; simp only [Nat.zero_add, List.nil_append] at hown1)
   go_ret
   obtain ⟨h1, h2⟩ := Key.out n (Nat.le_refl _) (by omega) A1 c1 w1 hown1 hB1
   exact ⟨_, hB1.size, rfl, h1, h2⟩
 · have HS1 := HS most (by omega)
   clear HS
   have hmin : min (n : Int) (most : Int) = (most : Int) := by omega
   go_enter Tryz.func13, Tryz.ntmps13
   go_wp2_with (at_builtin; refine wpList_append_sl (cs := u8c) w (by rfl) _ (.tmp 10) _ (by rfl) w.heap.size 5 i0 _ 1 1 Tryz.underlying22 hi hz0 hz1 hz2 (by rfl) (by omega) (.slice none 0 0) 0 [] (by rfl) ⟨by simp, .inl ⟨rfl, rfl⟩⟩ A most c (zs.take most) (by rfl) HS1.out (fun h => ⟨by have := (HN.out h).1; omega, (HN.out h).2⟩) HSP.out (fun _ => rfl) (by simp [u8c, Value.oneCell']) (by simp only [maxLen]; omega) (by omega) (Nat.le_refl _) ?_; intro A1 c1 w1 hown1 hg1 hB1 hat1 hn1; simp only [Nat.zero_add, List.nil_append] at hown1)
   go_ret
   obtain ⟨h1, h2⟩ := Key.out most (by omega) (by omega) A1 c1 w1 hown1 hB1
   exact ⟨_, hB1.size, rfl, h1, h2⟩
theorem bool_any (g : Nat) (m : Int) (w : World) (hc : CaseAt w g) (hm : 1 ≤ m) (hm2 : m ≤ 1000) :
 Calls Tryz.prog 22 #[.pointer (some ⟨g, 0, none⟩), .int .i64 m] w fun e w' => (∃ x : Bool, e = .returned (.bool x)) ∧ CaseAt w' g ∧ But (· = g) w w' := by
 go_enter Tryz.func22, Tryz.ntmps22
 go_wp2_with fail
 refine (int_any g m _ hc hm hm2).mono ?_
 rintro e w1 ⟨⟨x, hx1, hx2, rfl⟩, hc1, hb1⟩
 go_wp2
 go_ret
 exact ⟨⟨_, rfl⟩, hc1, hb1⟩
def SomeText (w : World) (g : Nat) (e : Ending) (w' : World) : Prop := (∃ x : ByteArray, x.size ≤ 64 ∧ e = .returned (.string x)) ∧ CaseAt w' g ∧ But (· = g) w w'
set_option maxHeartbeats 1000000 in
theorem text_any (g : Nat) (w : World) (hc : CaseAt w g) :
 Calls Tryz.prog 147 #[.pointer (some ⟨g, 0, none⟩)] w fun e w' => SomeText w g e w' := by
 go_enter Tryz.func147, Tryz.ntmps147
 go_wp2_with fail
 refine (int_any g 10 _ hc (by omega) (by omega)).mono ?_
 rintro e w1 ⟨⟨x, hx1, hx2, rfl⟩, hc1, hb1⟩
 go_wp2
 iterate 8
  · go_ret
    exact ⟨⟨_, by decide, rfl⟩, hc1, hb1⟩
 · go_loop [3, 4] (fun t i => ∃ (k : Nat) (s : ByteArray), k ≤ 64 ∧ i = .int .i64 (k : Int) ∧ t = .string s ∧ s.size ≤ k) (fun _ i => 64 - (intOf i).toNat)
   case atStart => exact ⟨0, ⟨#[]⟩, by omega, rfl, rfl, by decide⟩
   case round =>
    obtain ⟨k, s, hk, rfl, rfl, hsk⟩ := hrel
    have hsk2 : s.size ≤ 64 := by omega
    by_cases hlt : k < 64
    · go_wp2
      go_round
      case rel => exact ⟨k + 1, _, by omega, by go_num, rfl, by have h1 : (⟨#[255]⟩ : ByteArray).size = 1 := rfl; have h2 : (⟨#[98]⟩ : ByteArray).size = 1 := rfl; simp; omega⟩
      case measure => simp [intOf]; omega
    · go_wp2
      go_ret
      exact ⟨⟨s, hsk2, rfl⟩, hc1, hb1⟩
 · go_loop [3, 5] (fun t i => ∃ (k : Nat) (s : ByteArray), k ≤ 64 ∧ i = .int .i64 (k : Int) ∧ t = .string s ∧ s.size ≤ k) (fun _ i => 64 - (intOf i).toNat)
   case atStart => exact ⟨0, ⟨#[]⟩, by omega, rfl, rfl, by decide⟩
   case round =>
    obtain ⟨k, s, hk, rfl, rfl, hsk⟩ := hrel
    have hsk2 : s.size ≤ 64 := by omega
    by_cases hlt : k < 64
    · go_wp2
      go_round
      case rel => exact ⟨k + 1, _, by omega, by go_num, rfl, by have h1 : (⟨#[255]⟩ : ByteArray).size = 1 := rfl; have h2 : (⟨#[98]⟩ : ByteArray).size = 1 := rfl; simp; omega⟩
      case measure => simp [intOf]; omega
    · go_wp2
      go_ret
      exact ⟨⟨s, hsk2, rfl⟩, hc1, hb1⟩
theorem CaseAt.lt {w : World} {g : Nat} (h : CaseAt w g) : g < w.heap.size := by
 obtain ⟨A, n, c, k, zs, h1, _⟩ := h.ex
 exact h1.lt
theorem CaseAt.but {w w' : World} {g : Nat} {S : Nat → Prop} (h : CaseAt w g) (hb : But S w w') (hg : ¬ S g) (hS : ∀ b, S b → ∀ i x, w.cell? ⟨b, i, none⟩ ≠ some (.int .u8 x)) : CaseAt w' g := by
 obtain ⟨A, n, c, k, zs, h1, h2, h3, h4, h5⟩ := h.ex
 refine ⟨A, n, c, k, zs, h1.but hb hg, h2.but hb (fun hn b o e hs => ?_), h3, h4, h5⟩
 obtain ⟨z, hz⟩ := h2.lt_of e hn
 exact hS b hs o z hz
theorem CaseAt.far {w w' : World} {g : Nat} {S : Nat → Prop} (h : CaseAt w g) (hb : But S w w') (hS : ∀ b, S b → g < b) : CaseAt w' g := by
 obtain ⟨A, n, c, k, zs, h1, h2, h3, h4, h5, h6⟩ := h.ex
 exact ⟨A, n, c, k, zs, h1.but hb (fun hs => by have := hS g hs; omega), h2.but hb (fun hn b o e hs => by have := hS b hs; have := h6 hn b o e; omega), h3, h4, h5, h6⟩
theorem But.setNew {S : Nat → Prop} {w w' : World} (h : But S w w') {p : Addr} (hp : w.heap.size ≤ p.block) (u : Value) : But S w (w'.setCell p u) :=
 ⟨h.os, h.tape, h.output, by simpa [World.setCell] using h.size, fun k hk hs => (Below.heap_setCell w' p u k (by omega)).trans (h.block k hk hs)⟩
theorem But.allocNew {S : Nat → Prop} {w w' : World} (h : But S w w') (o : Obj) : But S w (w'.alloc o) := h.trans (But.alloc _ _)
theorem case_box {w : World} {g z : Nat} {k i : Int} {t : ByteArray} (h : CaseAt w g) (hB : Blk w z 59 #[.int .i64 k, .int .i64 i, .string t]) (hne : g ≠ z) (u0 u1 u2 : Value) :
 CaseAt (((w.setCell ⟨z, 0, none⟩ u0).setCell ⟨z, 1, none⟩ u1).setCell ⟨z, 2, none⟩ u2) g := by
 refine h.but (S := fun b => b = z) (((But.set (S := fun b => b = z) w (p := ⟨z, 0, none⟩) rfl u0).trans (But.set (S := fun b => b = z) _ (p := ⟨z, 1, none⟩) rfl u1)).trans (But.set (S := fun b => b = z) _ (p := ⟨z, 2, none⟩) rfl u2)) hne ?_
 rintro b rfl j x hx
 rw [hB.cell] at hx
 rcases j with _ | _ | _ | j <;> simp at hx
end Go.Proofs.YtnnmlhmffnfjfaaGreat
namespace Go.Proofs.YtnnmlhmffnfjfaaGreat
open Go.RowKit
set_option maxRecDepth 100000
structure Od where
 k : Int
 ix : Int
 v : Vl
 deriving DecidableEq
structure Nd where
 op : Int
 cm : Int
 l : Od
 r : Od
 deriving DecidableEq
def Nd.cs (h : Nd) : List Value := [.int .i64 h.op, .int .i64 h.cm, .int .i64 h.l.k, .int .i64 h.l.ix, .int .i64 h.l.v.k, .int .i64 h.l.v.i, .string h.l.v.t, .int .i64 h.r.k, .int .i64 h.r.ix, .int .i64 h.r.v.k, .int .i64 h.r.v.i, .string h.r.v.t]
theorem Nd.cs_len (h : Nd) : h.cs.length = 12 := rfl
inductive Pd where
 | nil (h : Nd)
 | cons (a t : Pd)
 deriving DecidableEq
namespace Pd
def h : Pd → Nd
 | nil h => h
 | cons _ t => t.h
def len : Pd → Nat
 | nil _ => 0
 | cons _ t => t.len + 1
def args : Pd → List Pd
 | nil _ => []
 | cons a t => a :: t.args
def mkP (h : Nd) : List Pd → Pd
 | [] => nil h
 | a :: l => cons a (mkP h l)
def nodes : Pd → Nat
 | nil _ => 1
 | cons a t => a.nodes + t.nodes
theorem len_args : ∀ p : Pd, p.args.length = p.len
 | nil _ => rfl
 | cons _ t => by simp [args, len, len_args t]
theorem mk_args : ∀ p : Pd, mkP p.h p.args = p
 | nil _ => rfl
 | cons _ t => by simp only [args, mkP, h, mk_args t]
theorem h_mk (h : Nd) : ∀ l, (mkP h l).h = h
 | [] => rfl
 | _ :: l => h_mk h l
theorem args_mk (h : Nd) : ∀ l, (mkP h l).args = l
 | [] => rfl
 | a :: l => by simp [mkP, args, args_mk h l]
theorem len_mk (h : Nd) (l : List Pd) : (mkP h l).len = l.length := by rw [← len_args, args_mk]
theorem ext {a b : Pd} (h1 : a.h = b.h) (h2 : a.args = b.args) : a = b := by rw [← mk_args a, ← mk_args b, h1, h2]
theorem nodes_pos : ∀ p : Pd, 1 ≤ p.nodes
 | nil _ => Nat.le_refl _
 | cons a t => by have := nodes_pos t; simp only [nodes]; omega
theorem nodes_mem {q : Pd} : ∀ {p : Pd}, q ∈ p.args → q.nodes < p.nodes
 | nil _, h => by cases h
 | cons a t, h => by
   rcases List.mem_cons.1 h with rfl | h
   · have := nodes_pos t; simp only [nodes]; omega
   · have := nodes_mem (p := t) h; simp only [nodes]; omega
end Pd
open Pd
def PdP (w : World) : Pd → Nat → Nat → Prop
 | .nil _, _, _ => True
 | .cons a t, b, o =>
   (∀ (j : Nat) (u : Value), a.h.cs[j]? = some u → w.cell? ⟨b, o + j, none⟩ = some u) ∧
   (∃ A n c, w.cell? ⟨b, o + 12, none⟩ = some (.slice A n c) ∧ okS A n c ∧ n = a.len ∧ (0 < n → ∃ b' o', A = some ⟨b', o', none⟩ ∧ PdP w a b' o')) ∧ PdP w t b (o + 13)
structure PrdS (w : World) (A : Option Addr) (n c : Nat) (p : Pd) : Prop where
 ok : okS A n c
 len : n = p.len
 ex : 0 < n → ∃ b o, A = some ⟨b, o, none⟩ ∧ PdP w p b o
structure ArgAt (w : World) (b o : Nat) (q : Pd) (A : Option Addr) (n c : Nat) : Prop where
 c0 : w.cell? ⟨b, o, none⟩ = some (.int .i64 q.h.op)
 c1 : w.cell? ⟨b, o + 1, none⟩ = some (.int .i64 q.h.cm)
 c2 : w.cell? ⟨b, o + 2, none⟩ = some (.int .i64 q.h.l.k)
 c3 : w.cell? ⟨b, o + 3, none⟩ = some (.int .i64 q.h.l.ix)
 c4 : w.cell? ⟨b, o + 4, none⟩ = some (.int .i64 q.h.l.v.k)
 c5 : w.cell? ⟨b, o + 5, none⟩ = some (.int .i64 q.h.l.v.i)
 c6 : w.cell? ⟨b, o + 6, none⟩ = some (.string q.h.l.v.t)
 c7 : w.cell? ⟨b, o + 7, none⟩ = some (.int .i64 q.h.r.k)
 c8 : w.cell? ⟨b, o + 8, none⟩ = some (.int .i64 q.h.r.ix)
 c9 : w.cell? ⟨b, o + 9, none⟩ = some (.int .i64 q.h.r.v.k)
 c10 : w.cell? ⟨b, o + 10, none⟩ = some (.int .i64 q.h.r.v.i)
 c11 : w.cell? ⟨b, o + 11, none⟩ = some (.string q.h.r.v.t)
 c12 : w.cell? ⟨b, o + 12, none⟩ = some (.slice A n c)
 s : PrdS w A n c q
theorem PdP.imp {w w' : World} (hk : ∀ (b j : Nat) (v : Value), w.cell? ⟨b, j + 12, none⟩ ≠ none → ∀ i, i ≤ 12 → w.cell? ⟨b, j + i, none⟩ = some v → w'.cell? ⟨b, j + i, none⟩ = some v) : ∀ {p : Pd} {b o : Nat}, PdP w p b o → PdP w' p b o
 | .nil _, _, _, _ => trivial
 | .cons a t, b, o, ⟨h1, ⟨A, n, c, h2, h3, h4, h5⟩, h6⟩ => by
   have hne : w.cell? ⟨b, o + 12, none⟩ ≠ none := by rw [h2]; simp
   refine ⟨fun j u hu => ?_, ⟨A, n, c, hk b o _ hne 12 (Nat.le_refl _) h2, h3, h4, fun hn => ?_⟩, PdP.imp hk h6⟩
   · have hj : j < 12 := by have := (List.getElem?_eq_some_iff.1 hu).1; rw [Nd.cs_len] at this; exact this
     exact hk b o u hne j (by omega) (h1 j u hu)
   · obtain ⟨b', o', e, h7⟩ := h5 hn
     exact ⟨b', o', e, PdP.imp hk h7⟩
theorem PrdS.imp {w w' : World} {A : Option Addr} {n c : Nat} {p : Pd} (h : PrdS w A n c p) (hk : ∀ (b j : Nat) (v : Value), w.cell? ⟨b, j + 12, none⟩ ≠ none → ∀ i, i ≤ 12 → w.cell? ⟨b, j + i, none⟩ = some v → w'.cell? ⟨b, j + i, none⟩ = some v) : PrdS w' A n c p :=
 ⟨h.ok, h.len, fun hn => by
  obtain ⟨b, o, e, hp⟩ := h.ex hn
  exact ⟨b, o, e, hp.imp hk⟩⟩
theorem PrdS.keep {w w' : World} {A : Option Addr} {n c : Nat} {p : Pd} (h : PrdS w A n c p) (hk : Keeps w w') : PrdS w' A n c p := h.imp fun _ _ _ _ _ _ h => keep_cell hk h
theorem PrdS.short {w w' : World} {A : Option Addr} {n c : Nat} {p : Pd} {S : Nat → Prop} (h : PrdS w A n c p) (hb : But S w w') (hS : ∀ b, S b → ∀ j, 12 ≤ j → w.cell? ⟨b, j, none⟩ = none) : PrdS w' A n c p := h.imp fun b j v hne i _ hv => by
 have hn : ¬ S b := fun hs => hne (hS b hs _ (by omega))
 exact (World.cell?_of_block (a := ⟨b, j + i, none⟩) (hb.block b (cell_lt (w := w) (a := ⟨b, j + i, none⟩) (by rw [hv]; rfl)) hn)).trans hv
theorem short_blk {w : World} {B : Nat} {T : TypeId} {cs : Array Value} (h : Blk w B T cs) (hc : cs.size ≤ 12) : ∀ j, 12 ≤ j → w.cell? ⟨B, j, none⟩ = none := fun j hj => by
 rw [h.cell j]
 exact Array.getElem?_eq_none (by omega)
theorem PrdS.blk {w w' : World} {A : Option Addr} {n c : Nat} {p : Pd} {B : Nat} {T : TypeId} {cs : Array Value} (h : PrdS w A n c p) (hB : Blk w B T cs) (hc : cs.size ≤ 12) (hb : But (· = B) w w') : PrdS w' A n c p := h.short hb fun b e => by
 subst e
 exact short_blk hB hc
theorem PrdS.case {w w' : World} {A : Option Addr} {n c : Nat} {p : Pd} {g : Nat} (h : PrdS w A n c p) (hc : CaseAt w g) (hb : But (· = g) w w') : PrdS w' A n c p := by
 obtain ⟨A', n', c', k, zs, hB, _⟩ := hc.ex
 exact h.blk hB (by simp) hb
theorem PdP.at {w : World} : ∀ {p : Pd} {b o k : Nat} {q : Pd}, PdP w p b o → p.args[k]? = some q → ∃ A n c, ArgAt w b (o + k * 13) q A n c
 | .nil _, _, _, _, _, _, hp => by simp [args] at hp
 | .cons a t, b, o, 0, q, ⟨h1, ⟨A, n, c, h2, h3, h4, h5⟩, h6⟩, hp => by
   simp only [args, List.getElem?_cons_zero, Option.some.injEq] at hp
   subst hp
   refine ⟨A, n, c, ?_⟩
   rw [Nat.zero_mul, Nat.add_zero]
   exact ⟨h1 0 _ rfl, h1 1 _ rfl, h1 2 _ rfl, h1 3 _ rfl, h1 4 _ rfl, h1 5 _ rfl, h1 6 _ rfl, h1 7 _ rfl, h1 8 _ rfl, h1 9 _ rfl, h1 10 _ rfl, h1 11 _ rfl, h2, ⟨h3, h4, h5⟩⟩
 | .cons a t, b, o, k + 1, q, h, hp => by
   simp only [args, List.getElem?_cons_succ] at hp
   have := PdP.at h.2.2 hp
   rw [show o + (k + 1) * 13 = o + 13 + k * 13 by omega]
   exact this
theorem PrdS.at {w : World} {A : Option Addr} {n c k : Nat} {p : Pd} (h : PrdS w A n c p) (hk : k < n) : ∃ b o q A1 n1 c1, A = some ⟨b, o, none⟩ ∧ p.args[k]? = some q ∧ ArgAt w b (o + k * 13) q A1 n1 c1 := by
 obtain ⟨b, o, e, hp⟩ := h.ex (by omega)
 have hl := h.len
 have hk' : k < p.args.length := by rw [len_args]; omega
 obtain ⟨A1, n1, c1, hq⟩ := hp.at (List.getElem?_eq_getElem hk')
 exact ⟨b, o, _, A1, n1, c1, e, List.getElem?_eq_getElem hk', hq⟩
theorem PdP.of {w : World} : ∀ {p : Pd} {b o : Nat}, (∀ k q, p.args[k]? = some q → ∃ A n c, ArgAt w b (o + k * 13) q A n c) → PdP w p b o
 | .nil _, _, _, _ => trivial
 | .cons a t, b, o, h => by
   obtain ⟨A, n, c, h0⟩ := h 0 a rfl
   simp only [Nat.zero_mul, Nat.add_zero] at h0
   refine ⟨fun j u hu => ?_, ⟨A, n, c, h0.c12, h0.s.ok, h0.s.len, h0.s.ex⟩, PdP.of fun k q hq => ?_⟩
   · have hj : j < 12 := by have := (List.getElem?_eq_some_iff.1 hu).1; rw [Nd.cs_len] at this; exact this
     match j, hj with
     | 0, _ => injection hu with hu; rw [← hu]; exact h0.c0
     | 1, _ => injection hu with hu; rw [← hu]; exact h0.c1
     | 2, _ => injection hu with hu; rw [← hu]; exact h0.c2
     | 3, _ => injection hu with hu; rw [← hu]; exact h0.c3
     | 4, _ => injection hu with hu; rw [← hu]; exact h0.c4
     | 5, _ => injection hu with hu; rw [← hu]; exact h0.c5
     | 6, _ => injection hu with hu; rw [← hu]; exact h0.c6
     | 7, _ => injection hu with hu; rw [← hu]; exact h0.c7
     | 8, _ => injection hu with hu; rw [← hu]; exact h0.c8
     | 9, _ => injection hu with hu; rw [← hu]; exact h0.c9
     | 10, _ => injection hu with hu; rw [← hu]; exact h0.c10
     | 11, _ => injection hu with hu; rw [← hu]; exact h0.c11
   · have := h (k + 1) q (by simpa [args] using hq)
     rw [show o + 13 + k * 13 = o + (k + 1) * 13 by omega]
     exact this
theorem ArgAt.keep {w w' : World} {b o : Nat} {q : Pd} {A : Option Addr} {n c : Nat} (h : ArgAt w b o q A n c) (hk : Keeps w w') : ArgAt w' b o q A n c :=
 ⟨keep_cell hk h.c0, keep_cell hk h.c1, keep_cell hk h.c2, keep_cell hk h.c3, keep_cell hk h.c4, keep_cell hk h.c5, keep_cell hk h.c6, keep_cell hk h.c7, keep_cell hk h.c8, keep_cell hk h.c9, keep_cell hk h.c10, keep_cell hk h.c11, keep_cell hk h.c12, h.s.keep hk⟩
theorem PrdS.nil {w : World} (h : Nd) : PrdS w none 0 0 (.nil h) := ⟨⟨Nat.le_refl _, fun _ => ⟨rfl, rfl⟩⟩, rfl, fun h => absurd h (by omega)⟩
theorem PrdS.nil_of {w : World} {A : Option Addr} {c : Nat} {p : Pd} (h : PrdS w A 0 c p) : p = .nil p.h := by
 have := h.len
 cases p with
 | nil h => rfl
 | cons a t => simp [Pd.len] at this
def pdV (h : Nd) (A : Option Addr) (n c : Nat) : Array Value := #[.int .i64 h.op, .int .i64 h.cm, .int .i64 h.l.k, .int .i64 h.l.ix, .int .i64 h.l.v.k, .int .i64 h.l.v.i, .string h.l.v.t, .int .i64 h.r.k, .int .i64 h.r.ix, .int .i64 h.r.v.k, .int .i64 h.r.v.i, .string h.r.v.t, .slice A n c]
structure PdE where
 p : Pd
 A : Option Addr
 n : Nat
 c : Nat
def PdE.cs (e : PdE) : List Value := (pdV e.p.h e.A e.n e.c).toList
theorem PdE.cs_len (e : PdE) : (PdE.cs e).length = 13 := rfl
theorem one_pd (e : PdE) : ∀ u ∈ PdE.cs e, u.oneCell' = true := by simp [PdE.cs, pdV, Value.oneCell']
end Go.Proofs.YtnnmlhmffnfjfaaGreat
namespace Go.Proofs.YtnnmlhmffnfjfaaGreat
open Go.RowKit
structure LaterS (S : Nat → Prop) (w : World) where
 to : World
 but : But S w to
instance (S : Nat → Prop) (w : World) : Nonempty (LaterS S w) := ⟨⟨w, But.refl _ _⟩⟩
instance (S : Nat → Prop) (w : World) : Inhabited (LaterS S w) := ⟨⟨w, But.refl _ _⟩⟩
def afterS (S : Nat → Prop) (w : World) (x : LaterS S w) : World := x.to
theorem cell_afterS {S : Nat → Prop} {w : World} (x : LaterS S w) (a : Addr) (h : (w.cell? a).isSome = true) (hs : ¬ S a.block) : (afterS S w x).cell? a = w.cell? a :=
 World.cell?_of_block (w := w) (x.but.block a.block (cell_lt h) hs)
abbrev clsS (S : Nat → Prop) (w : World) : World → Prop := fun W => ∃ x : LaterS S w, W = afterS S w x
theorem clsS_iff {S : Nat → Prop} {w W : World} : clsS S w W ↔ But S w W := ⟨fun ⟨x, h⟩ => by rw [h]; exact x.but, fun h => ⟨⟨W, h⟩, rfl⟩⟩
section
variable {P : Program} {ops : Array Oper} {Q : Exit → Act → World → Prop} {md : Region.Mode} {S : Nat → Prop}
end
def strip (t : List UInt8) : Nat → Nat
 | 0 => 0
 | n + 1 => if t.getD n 0 = 255 then strip t n else n + 1
def upT (t : ByteArray) (n : Nat) : ByteArray := ⟨(t.data.toList.take (n - 1) ++ [t.data.toList.getD (n - 1) 0 + 1]).toArray⟩
def nextT (t : ByteArray) : Vl × Bool :=
 if t.size < 64 then (⟨5, 0, t ++ ⟨#[0]⟩⟩, true)
 else if strip t.data.toList t.size = 0 then (zeroV, false) else (⟨5, 0, upT t (strip t.data.toList t.size)⟩, true)
theorem getD_byte {t : ByteArray} {j : Nat} (hj : j < t.size) : t.data.toList.getD j 0 = t[j] := by
 have h : j < t.data.toList.length := by simpa using hj
 rw [List.getD_eq_getElem?_getD, List.getElem?_eq_getElem h]
 simp
 rfl
theorem strip_y {t : ByteArray} {j : Nat} (hj : j < t.size) (hu : t[j] = 255) : strip t.data.toList (j + 1) = strip t.data.toList j := by
 show (if t.data.toList.getD j 0 = 255 then _ else _) = _
 rw [getD_byte hj, if_pos hu]
theorem strip_n {t : ByteArray} {j : Nat} (hj : j < t.size) (hu : ¬ t[j] = 255) : strip t.data.toList (j + 1) = j + 1 := by
 show (if t.data.toList.getD j 0 = 255 then _ else _) = _
 rw [getD_byte hj, if_neg hu]
theorem up_size {t : ByteArray} {j : Nat} (hj : j < t.size) : (upT t (j + 1)).size = j + 1 := by
 show (List.toArray (t.data.toList.take (j + 1 - 1) ++ [t.data.toList.getD (j + 1 - 1) 0 + 1])).size = _
 have h : t.data.size = t.size := rfl
 simp
 omega
theorem up_get {t : ByteArray} {j i : Nat} (hj : j < t.size) (hi : i < (upT t (j + 1)).size) : (upT t (j + 1))[i] = if h : i < j then t[i] else t[j] + 1 := by
 have hi2 : i < j + 1 := by rw [up_size hj] at hi; exact hi
 show (List.toArray (t.data.toList.take (j + 1 - 1) ++ [t.data.toList.getD (j + 1 - 1) 0 + 1]))[i]'_ = _
 have hl : (t.data.toList.take j).length = j := by have h : t.data.size = t.size := rfl; simp; omega
 simp only [Nat.add_sub_cancel, getD_byte hj]
 rw [List.getElem_toArray]
 by_cases h : i < j
 · rw [List.getElem_append_left (by rw [hl]; exact h)]
   simp [h]
   rfl
 · rw [List.getElem_append_right (by rw [hl]; omega)]
   simp [h]
theorem bytes_conv (w : World) (t : ByteArray) (j : Nat) (hj : j < t.size) : ∃ (cap : Nat) (wb : World),
 (convert 9 22 (.string (t.extract 0 (j + 1)))).run Tryz.prog w = .ok (.slice (some ⟨w.heap.size, 0, none⟩) (j + 1) cap) wb ∧
 (∀ i (h : i < j + 1), wb.cell? ⟨w.heap.size, i, none⟩ = some (.int .u8 (t[i].toNat))) ∧ (∀ i, i < j + 1 → wb.frozen? ⟨w.heap.size, i, none⟩ = false) ∧ Below w.heap.size w wb ∧ wb.heap.size = w.heap.size + 1 := by
 have hz : (t.extract 0 (j + 1)).size = j + 1 := by
  simp
  omega
 refine ⟨grownCap w (j + 1) 0 5, Lib.bytesWorld w 5 (t.extract 0 (j + 1)), ?_, ?_, ?_, ?_, ?_⟩
 · have h := Lib.run_convert_string_bytes (P := Tryz.prog) w 9 22 5 (t.extract 0 (j + 1)) Tryz.underlying9 Tryz.underlying22 Tryz.underlying5
   rw [hz] at h
   exact h
 · intro i h
   rw [Lib.bytesWorld_cell _ _ _ _ (by omega), getD_byte (by omega)]
   have e : (t.extract 0 (j + 1))[i]'(by omega) = t[i] := by
    rw [ByteArray.getElem_extract]
    simp
   rw [e]
 · intro i h
   have hc : j + 1 ≤ (Lib.bytesCells w 5 (t.extract 0 (j + 1))).size := by
    simp [Lib.bytesCells, -ByteArray.size_extract]
    have : (t.extract 0 (j + 1)).data.size = (t.extract 0 (j + 1)).size := rfl
    omega
   simp [World.frozen?, Lib.bytesWorld_at_new]
   omega
 · refine ⟨?_, ?_, ?_, by rw [Lib.bytesWorld_size]; omega, fun k hk => Lib.bytesWorld_at_old _ _ _ k hk⟩
   · simp [Lib.bytesWorld, World.freeze, World.alloc, World.drew, -World.alloc_eq, -World.drew_eq]
   · simp [Lib.bytesWorld, World.freeze, World.alloc, World.drew, -World.alloc_eq, -World.drew_eq]
   · simp [Lib.bytesWorld, World.freeze, World.alloc, World.drew, -World.alloc_eq, -World.drew_eq]
 · exact Lib.bytesWorld_size _ _ _
theorem bytes_back {W : World} {G : Nat} {t : ByteArray} {j : Nat} (hj : j < t.size) (hlo : ∀ i (h : i < j + 1), W.cell? ⟨G, i, none⟩ = some (.int .u8 (t[i].toNat))) (hlt : (t[j].toNat : Int) < 255) (cap : Nat) :
 (convert 22 9 (.slice (some ⟨G, 0, none⟩) (j + 1) cap)).run Tryz.prog (W.setCell ⟨G, j, none⟩ (.int .u8 ((t[j].toNat : Int) + 1))) = .ok (.string (upT t (j + 1))) (W.setCell ⟨G, j, none⟩ (.int .u8 ((t[j].toNat : Int) + 1))) := by
 have h := Lib.run_convert_whole (P := Tryz.prog) (W.setCell ⟨G, j, none⟩ (.int .u8 ((t[j].toNat : Int) + 1))) 22 5 9 Tryz.underlying22 Tryz.underlying5 Tryz.underlying9 G 0 (upT t (j + 1)) ?_ cap
 · rw [up_size hj] at h
   exact h
 · intro i hi
   have hi2 : i < j + 1 := by rw [up_size hj] at hi; exact hi
   rw [up_get hj hi, Nat.zero_add]
   by_cases h : i < j
   · rw [World.cell?_setCell_other _ _ _ _ (fun e => by have := congrArg Addr.off e; simp at this; omega), hlo i hi2]
     simp [h]
   · have e : i = j := by omega
     subst e
     have := hlo i hi2
     rw [World.cell?_setCell_same _ _ _ this]
     simp
     omega
set_option maxHeartbeats 1000000 in
theorem nextText_any (t : ByteArray) (w : World) (ht : t.size ≤ 64) : Calls Tryz.prog 260 #[.string t] w fun e w' =>
 e = .returned (.tuple #[.agg #[.int .i64 (nextT t).1.k, .int .i64 (nextT t).1.i, .string (nextT t).1.t], .bool (nextT t).2]) ∧ Below w.heap.size w w' := by
 generalize hf : nextT t = r
 have Hf := zH hf
 clear hf
 by_cases hs : t.size < 64
 · go_enter Tryz.func260, Tryz.ntmps260
   go_wp2
   refine bodyPost_ret (v := .tuple #[.agg #[.int .i64 5, .int .i64 0, .string (t ++ ⟨#[0]⟩)], .bool true]) (by simp [results, Tryz.results260, go_sem]) rfl ⟨?_, ?_⟩
   · rw [← Hf.out]
     simp [nextT, hs]
   · repeat (first | exact Below.refl _ _ | apply Below.drew | refine Below.setCell ?_ (by simp) _ | refine Below.alloc ?_ (by simp) _)
 · have hX := Blk.new w 59 #[.int .i64 0, .int .i64 0, .string ⟨#[]⟩]
   have hB0 := (Below.refl w.heap.size w).alloc (Nat.le_refl _) (.cells #[.int .i64 0, .int .i64 0, .string ⟨#[]⟩] 59)
   go_enter Tryz.func260, Tryz.ntmps260
   go_wp2
   have hXc := hX.cell
   have hXf := hX.free
   generalize w.alloc (.cells #[.int .i64 0, .int .i64 0, .string ⟨#[]⟩] 59) = W at *
   go_loop [4] (fun i => ∃ k : Nat, k ≤ t.size ∧ i = .int .i64 (k : Int) ∧ Hid (strip t.data.toList k = strip t.data.toList t.size)) (fun i => (intOf i).toNat)
   case atStart => exact ⟨t.size, by omega, rfl, zH rfl⟩
   case round =>
    obtain ⟨k, hk, rfl, hinv⟩ := hrel
    rcases k with _ | j
    · go_wp2
      show bodyPost _ _ _ _ _ _
      refine bodyPost_ret (v := .tuple #[.agg #[.int .i64 0, .int .i64 0, .string ⟨#[]⟩], .bool false]) (by simp [results, Tryz.results260, go_sem, hXc]) rfl ⟨?_, ?_⟩
      · rw [← Hf.out]
        have := hinv.out
        have e0 : strip t.data.toList 0 = 0 := rfl
        simp [nextT, hs, ← this, e0, zeroV]
      · repeat (first | exact hB0 | apply Below.drew | refine Below.setCell ?_ (by simp) _ | refine Below.alloc ?_ (by simp) _)
    · have hj : j < t.size := by omega
      by_cases h255 : (t[j].toNat : Int) = 255
      · have h255' : ((t[j].toNat : Int) == 255) = true := by simp [h255]
        have Hn : Hid (strip t.data.toList j = strip t.data.toList t.size) := by
         show _ = _
         rw [← hinv.out]
         have hu : t[j] = 255 := by
          apply UInt8.toNat_inj.1
          show t[j].toNat = 255
          omega
         exact (strip_y hj hu).symm
        clear h255
        go_wp2
        go_round
        case rel => exact ⟨j, by omega, by go_num, Hn⟩
        case measure => simp [intOf]
      · have h255' : ((t[j].toNat : Int) == 255) = false := by simp [h255]
        have Hn : Hid (strip t.data.toList t.size = j + 1) := by
         show _ = _
         rw [← hinv.out]
         have hu : ¬ t[j] = 255 := by
          intro hu
          apply h255
          rw [hu]
          rfl
         exact strip_n hj hu
        have hlt : (t[j].toNat : Int) < 255 := by
         have := t[j].toNat_lt
         omega
        clear h255
        obtain ⟨cap, WB, kc1, hlo, hfz, hWB, hG⟩ := bytes_conv W t j hj
        have hXb := (hX.below hWB).cell
        have hXg := (hX.below hWB).free
        have hcj := hlo j (by omega)
        have hfj := hfz j (by omega)
        have Hlo := zH hlo
        have hlW := hX.lt
        have kc2 := bytes_back (W := WB) (G := W.heap.size) hj hlo hlt cap
        have hX3 : ∀ q, (WB.setCell ⟨W.heap.size, j, none⟩ (.int .u8 ((t[j].toNat : Int) + 1))).cell? ⟨w.heap.size, q, none⟩ = (#[.int .i64 0, .int .i64 0, .string ⟨#[]⟩] : Array Value)[q]? := fun q => by
         rw [World.cell?_setCell_other _ _ _ _ (fun e => by have := congrArg Addr.block e; simp at this; omega)]
         exact hXb q
        have hB3 : Below w.heap.size w (WB.setCell ⟨W.heap.size, j, none⟩ (.int .u8 ((t[j].toNat : Int) + 1))) := (hB0.trans (hWB.mono (Nat.le_of_lt hlW))).setCell (Nat.le_of_lt hlW) _
        have Hup : Hid (upT t (j + 1) = r.1.t ∧ r.1.k = 5 ∧ r.1.i = 0 ∧ r.2 = true) := by
         show _ ∧ _
         rw [← Hf.out]
         simp [nextT, hs, Hn.out]
        clear hlo hfz hXc hXf
        generalize W.heap.size = G at *
        set_option maxRecDepth 20000 in
        go_wp2_with fail
        show bodyPost _ _ _ _ _ _
        refine bodyPost_ret (v := .tuple #[.agg #[.int .i64 5, .int .i64 0, .string (upT t (j + 1))], .bool true]) (by simp [results, Tryz.results260, go_sem, hX3]) rfl ⟨?_, ?_⟩
        · obtain ⟨e1, e2, e3, e4⟩ := Hup.out
          rw [e1, e2, e3, e4]
        · repeat (first | exact hB3 | apply Below.drew | refine Below.setCell ?_ (by simp) _ | refine Below.alloc ?_ (by simp) _)
theorem valid_kind {k i : Int} {t : ByteArray} (h : validV ⟨k, i, t⟩ = true) : k = 1 ∨ k = 2 ∨ k = 3 ∨ k = 4 ∨ k = 5 := by
 unfold validV at h
 grind
theorem valid_size {i : Int} {t : ByteArray} (h : validV ⟨5, i, t⟩ = true) : t.size ≤ 64 := by
 simp [validV] at h
 exact h.2
def nextV (v : Vl) : Vl × Bool :=
 if validV v then
  if v.k = 3 ∧ v.i = 0 then (⟨3, 1, ⟨#[]⟩⟩, true)
  else if v.k = 4 ∧ v.i < 9223372036854775807 then (⟨4, wrap64 (v.i + 1), ⟨#[]⟩⟩, true)
  else if v.k = 5 then nextT v.t
  else firstV (v.k + 1)
 else (zeroV, false)
theorem nextV_top {i : Int} {t : ByteArray} (hv : validV ⟨4, i, t⟩ = true) (hl : ¬ i < 9223372036854775807) : nextV ⟨4, i, t⟩ = (⟨5, 0, ⟨#[]⟩⟩, true) := by
 unfold nextV
 rw [if_pos hv, if_neg (by simp), if_neg (fun h => hl h.2), if_neg (by simp)]
 simp [firstV]
set_option maxHeartbeats 1000000 in
theorem next_any (v : Vl) (w : World) : Calls Tryz.prog 219 #[.agg #[.int .i64 v.k, .int .i64 v.i, .string v.t]] w fun e w' =>
 e = .returned (.tuple #[.agg #[.int .i64 (nextV v).1.k, .int .i64 (nextV v).1.i, .string (nextV v).1.t], .bool (nextV v).2]) ∧ Below w.heap.size w w' := by
 generalize hf : nextV v = r
 have Hf := zH hf
 clear hf
 obtain ⟨k, i, t⟩ := v
 dsimp only
 have hX := Blk.new w 59 #[.int .i64 k, .int .i64 i, .string t]
 have hB0 := (Below.refl w.heap.size w).alloc (Nat.le_refl _) (.cells #[.int .i64 k, .int .i64 i, .string t] 59)
 have hZ := Blk.new (w.alloc (.cells #[.int .i64 k, .int .i64 i, .string t] 59)) 59 #[.int .i64 0, .int .i64 0, .string ⟨#[]⟩]
 have hX1 := hX.below ((Below.refl _ _).alloc (Nat.le_refl _) (.cells #[.int .i64 0, .int .i64 0, .string ⟨#[]⟩] 59))
 have hB1 := hB0.alloc (by simp) (.cells #[.int .i64 0, .int .i64 0, .string ⟨#[]⟩] 59)
 have hsz : ((w.alloc (.cells #[.int .i64 k, .int .i64 i, .string t] 59)).alloc (.cells #[.int .i64 0, .int .i64 0, .string ⟨#[]⟩] 59)).heap.size = w.heap.size + 2 := by simp
 have hsz0 : (w.alloc (.cells #[.int .i64 k, .int .i64 i, .string t] 59)).heap.size = w.heap.size + 1 := by simp
 rw [hsz0] at hZ
 go_enter Tryz.func219, Tryz.ntmps219
 go_wp2_with fail
 generalize ((w.alloc (.cells #[.int .i64 k, .int .i64 i, .string t] 59)).alloc (.cells #[.int .i64 0, .int .i64 0, .string ⟨#[]⟩] 59)) = W at *
 refine (valid_any ⟨k, i, t⟩ _).mono ?_
 rintro e w1 ⟨rfl, hb1⟩
 have x1 := (hX1.below hb1).cell
 have z1 := (hZ.below hb1)
 have z1c := z1.cell
 have z1f := z1.free
 have hB2 := Below.next hB1 hb1
 have hs1 : w.heap.size + 2 ≤ w1.heap.size := hsz ▸ hb1.size
 clear hX hB0 hZ hX1 hB1 hb1 hsz
 cases hv : validV ⟨k, i, t⟩
 · have Hv := zH hv
   clear hv
   go_wp2
   show bodyPost _ _ _ _ _ _
   refine bodyPost_ret (v := .tuple #[.agg #[.int .i64 0, .int .i64 0, .string ⟨#[]⟩], .bool false]) (by simp [results, Tryz.results219, go_sem, z1c]) rfl ⟨?_, ?_⟩
   · rw [← Hf.out]
     simp [nextV, Hv.out, zeroV]
   · repeat (first | exact hB2 | apply Below.drew | refine Below.setCell ?_ (by simp) _ | refine Below.alloc ?_ (by simp) _)
 · have hk : k = 1 ∨ k = 2 ∨ k = 3 ∨ k = 4 ∨ k = 5 := valid_kind hv
   have Hv := zH hv
   clear hv
   rcases hk with rfl | rfl | rfl | rfl | rfl
   · go_wp2_with fail
     refine (first_any 2 _).mono ?_
     rintro e w2 ⟨rfl, hb2⟩
     have e2 : firstV 2 = (⟨2, 0, ⟨#[]⟩⟩, true) := by decide
     rw [e2]
     have z2c := (z1.below hb2).cell
     have z2f := (z1.below hb2).free
     have hB3 := Below.next hB2 hb2
     go_wp2
     show bodyPost _ _ _ _ _ _
     refine bodyPost_ret (v := .tuple #[.agg #[.int .i64 2, .int .i64 0, .string ⟨#[]⟩], .bool true]) (by simp [results, Tryz.results219, go_sem, z2c]) rfl ⟨?_, ?_⟩
     · rw [← Hf.out]
       simp [nextV, Hv.out, firstV]
     · repeat (first | exact hB3 | apply Below.drew | refine Below.setCell ?_ (by simp) _ | refine Below.alloc ?_ (by simp) _)
   · go_wp2_with fail
     refine (first_any 3 _).mono ?_
     rintro e w2 ⟨rfl, hb2⟩
     have e2 : firstV 3 = (⟨3, 0, ⟨#[]⟩⟩, true) := by decide
     rw [e2]
     have z2c := (z1.below hb2).cell
     have z2f := (z1.below hb2).free
     have hB3 := Below.next hB2 hb2
     go_wp2
     show bodyPost _ _ _ _ _ _
     refine bodyPost_ret (v := .tuple #[.agg #[.int .i64 3, .int .i64 0, .string ⟨#[]⟩], .bool true]) (by simp [results, Tryz.results219, go_sem, z2c]) rfl ⟨?_, ?_⟩
     · rw [← Hf.out]
       simp [nextV, Hv.out, firstV]
     · repeat (first | exact hB3 | apply Below.drew | refine Below.setCell ?_ (by simp) _ | refine Below.alloc ?_ (by simp) _)
   · by_cases h0 : i = 0
     · subst h0
       go_wp2
       show bodyPost _ _ _ _ _ _
       refine bodyPost_ret (v := .tuple #[.agg #[.int .i64 3, .int .i64 1, .string ⟨#[]⟩], .bool true]) (by simp [results, Tryz.results219, go_sem, z1c]) rfl ⟨?_, ?_⟩
       · rw [← Hf.out]
         simp [nextV, Hv.out]
       · repeat (first | exact hB2 | apply Below.drew | refine Below.setCell ?_ (by simp) _ | refine Below.alloc ?_ (by simp) _)
     · have h0' : (i == 0) = false := by simp [h0]
       go_wp2_with fail
       refine (first_any 4 _).mono ?_
       rintro e w2 ⟨rfl, hb2⟩
       have e2 : firstV 4 = (⟨4, (-9223372036854775808), ⟨#[]⟩⟩, true) := by decide
       rw [e2]
       have z2c := (z1.below hb2).cell
       have z2f := (z1.below hb2).free
       have hB3 := Below.next hB2 hb2
       go_wp2
       show bodyPost _ _ _ _ _ _
       refine bodyPost_ret (v := .tuple #[.agg #[.int .i64 4, .int .i64 (-9223372036854775808), .string ⟨#[]⟩], .bool true]) (by simp [results, Tryz.results219, go_sem, z2c]) rfl ⟨?_, ?_⟩
       · rw [← Hf.out]
         simp [nextV, Hv.out, firstV, minI, h0]
       · repeat (first | exact hB3 | apply Below.drew | refine Below.setCell ?_ (by simp) _ | refine Below.alloc ?_ (by simp) _)
   · by_cases hlt : i < 9223372036854775807
     · go_wp2
       show bodyPost _ _ _ _ _ _
       refine bodyPost_ret (v := .tuple #[.agg #[.int .i64 4, .int .i64 (wrap64 (i + 1)), .string ⟨#[]⟩], .bool true]) (by simp [results, Tryz.results219, go_sem, z1c]) rfl ⟨?_, ?_⟩
       · rw [← Hf.out]
         simp [nextV, Hv.out, hlt]
       · repeat (first | exact hB2 | apply Below.drew | refine Below.setCell ?_ (by simp) _ | refine Below.alloc ?_ (by simp) _)
     · have Hlt := zH hlt
       go_wp2_with fail
       refine (first_any 5 _).mono ?_
       rintro e w2 ⟨rfl, hb2⟩
       have e2 : firstV 5 = (⟨5, 0, ⟨#[]⟩⟩, true) := by decide
       rw [e2]
       have z2c := (z1.below hb2).cell
       have z2f := (z1.below hb2).free
       have hB3 := Below.next hB2 hb2
       go_wp2
       show bodyPost _ _ _ _ _ _
       refine bodyPost_ret (v := .tuple #[.agg #[.int .i64 5, .int .i64 0, .string ⟨#[]⟩], .bool true]) (by simp [results, Tryz.results219, go_sem, z2c]) rfl ⟨?_, ?_⟩
       · rw [← Hf.out]
         rw [nextV_top Hv.out (by have := Hlt.out; omega)]
       · repeat (first | exact hB3 | apply Below.drew | refine Below.setCell ?_ (by simp) _ | refine Below.alloc ?_ (by simp) _)
   · have hs : t.size ≤ 64 := valid_size Hv.out
     obtain ⟨⟨⟨nk, ni, nt⟩, nb⟩, Hn⟩ : ∃ q, Hid (nextT t = q) := ⟨_, rfl⟩
     go_wp2_with fail
     refine (nextText_any t _ hs).mono ?_
     rintro e w2 ⟨rfl, hb2⟩
     rw [Hn.out]
     have z2c := (z1.below hb2).cell
     have z2f := (z1.below hb2).free
     have hB3 := Below.next hB2 hb2
     go_wp2
     show bodyPost _ _ _ _ _ _
     refine bodyPost_ret (v := .tuple #[.agg #[.int .i64 nk, .int .i64 ni, .string nt], .bool nb]) (by simp [results, Tryz.results219, go_sem, z2c]) rfl ⟨?_, ?_⟩
     · rw [← Hf.out]
       simp [nextV, Hv.out, Hn.out]
     · repeat (first | exact hB3 | apply Below.drew | refine Below.setCell ?_ (by simp) _ | refine Below.alloc ?_ (by simp) _)
def realV (v : Vl) : Bool := validV v && decide (3 ≤ v.k)
set_option maxHeartbeats 400000 in
theorem real_any (v : Vl) (w : World) : Calls Tryz.prog 91 #[.agg #[.int .i64 v.k, .int .i64 v.i, .string v.t]] w fun e w' => e = .returned (.bool (realV v)) ∧ Below w.heap.size w w' := by
 obtain ⟨k, i, t⟩ := v
 obtain ⟨r, Hr⟩ : ∃ r, Hid (realV ⟨k, i, t⟩ = r) := ⟨_, rfl⟩
 rw [Hr.out]
 go_enter Tryz.func91, Tryz.ntmps91
 go_wp2_with fail
 refine (valid_any ⟨k, i, t⟩ _).mono ?_
 rintro e w1 ⟨rfl, hb1⟩
 have hX := ((Blk.new w 59 #[.int .i64 k, .int .i64 i, .string t]).below hb1).cell
 have hB1 : Below w.heap.size w w1 := Below.next ((Below.refl _ _).alloc (Nat.le_refl _) _) hb1
 obtain ⟨q, Hq⟩ : ∃ q, Hid (validV ⟨k, i, t⟩ = q) := ⟨_, rfl⟩
 rw [Hq.out]
 cases q
 · go_wp2
   go_ret
   exact ⟨ret_bool (by rw [← Hr.out]; simp [realV, Hq.out]), hB1⟩
 · have hk := valid_kind Hq.out
   have HK := zH hk
   clear hk
   by_cases h1 : k = 1
   · have g1 : (k != 1) = false := by simp [h1]
     have H1 := zH h1
     clear h1
     go_wp2
     go_ret
     exact ⟨ret_bool (by rw [← Hr.out]; simp [realV, H1.out]), hB1⟩
   · have g1 : (k != 1) = true := by simp [h1]
     have H1 := zH h1
     clear h1
     by_cases h2 : k = 2
     · have g2 : (k != 2) = false := by simp [h2]
       have H2 := zH h2
       clear h2
       go_wp2
       go_ret
       exact ⟨ret_bool (by rw [← Hr.out]; simp [realV, H2.out]), hB1⟩
     · have g2 : (k != 2) = true := by simp [h2]
       have H2 := zH h2
       clear h2
       go_wp2
       go_ret
       exact ⟨ret_bool (by rw [← Hr.out]; have h3 : 3 ≤ k := by have := HK.out; have := H1.out; have := H2.out; omega
                           simp [realV, Hq.out, h3]), hB1⟩
set_option maxHeartbeats 400000 in
theorem rreal_any (v : Vl) (w : World) : Calls Tryz.prog 205 #[.agg #[.int .i64 v.k, .int .i64 v.i, .string v.t]] w fun e w' => e = .returned (.bool (realV v)) ∧ Below w.heap.size w w' := by
 obtain ⟨k, i, t⟩ := v
 obtain ⟨r, Hr⟩ : ∃ r, Hid (realV ⟨k, i, t⟩ = r) := ⟨_, rfl⟩
 rw [Hr.out]
 go_enter Tryz.func205, Tryz.ntmps205
 go_wp2_with fail
 refine (rvalid_any ⟨k, i, t⟩ _).mono ?_
 rintro e w1 ⟨rfl, hb1⟩
 have hX := ((Blk.new w 59 #[.int .i64 k, .int .i64 i, .string t]).below hb1).cell
 have hB1 : Below w.heap.size w w1 := Below.next ((Below.refl _ _).alloc (Nat.le_refl _) _) hb1
 obtain ⟨q, Hq⟩ : ∃ q, Hid (validV ⟨k, i, t⟩ = q) := ⟨_, rfl⟩
 rw [Hq.out]
 cases q
 · go_wp2
   go_ret
   exact ⟨ret_bool (by rw [← Hr.out]; simp [realV, Hq.out]), hB1⟩
 · by_cases h1 : 3 ≤ k
   · go_wp2
     go_ret
     exact ⟨ret_bool (by rw [← Hr.out]; simp [realV, Hq.out, h1]), hB1⟩
   · go_wp2
     go_ret
     exact ⟨ret_bool (by rw [← Hr.out]; simp [realV, Hq.out]), hB1⟩
end Go.Proofs.YtnnmlhmffnfjfaaGreat
