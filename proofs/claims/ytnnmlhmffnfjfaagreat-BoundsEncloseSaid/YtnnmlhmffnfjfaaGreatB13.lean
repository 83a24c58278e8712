/-
  Texts: Group.
-/
import Derived.Test.YtnnmlhmffnfjfaaGreatB12
import Derived.Maps.OwnOps
import Derived.Maps.RangeWalk
import Derived.Deep.DeepCutAuto
set_option linter.unusedVariables false
set_option maxRecDepth 100000
namespace Go.Proofs.YtnnmlhmffnfjfaaGreat
open Go.RowKit
open Rg
abbrev opV (tb tl tr : Bool) : Value := .func (.func 161) #[.agg #[.bool tb, .bool tl, .bool tr]] #[]
def CombRes (w : World) (r : Rg) (e : Ending) (w' : World) : Prop :=
 ∃ (x : Int) (f : Bool) (A : Option Addr) (n c : Nat) (ok : Bool), e = .returned (.tuple #[.agg #[.int .i64 x, .bool f, .slice A n c], .bool ok]) ∧ (ok = true ↔ within r) ∧ (ok = true → RgF w.heap.size w'.heap.size w' x f A n c r) ∧ Below w.heap.size w w'
def CombC (N : Nat) (tb tl tr : Bool) : Prop := ∀ (a b : Rg) (xa : Int) (fa : Bool) (Aa : Option Addr) (na ca : Nat) (xb : Int) (fb : Bool) (Ab : Option Addr) (nb cb : Nat) (w : World),
 RgS w xa fa Aa na ca a → RgS w xb fb Ab nb cb b → Form N a → Form N b → WfR a → WfR b → within a → within b →
 Calls Tryz.prog 160 #[.agg #[.int .i64 xa, .bool fa, .slice Aa na ca], .agg #[.int .i64 xb, .bool fb, .slice Ab nb cb], opV tb tl tr] w fun e w' => CombRes w (comb (ofT tb tl tr) N a b) e w'
structure GC where
 N : Nat
 a : Rg
 b : Rg
 xa : Int
 fa : Bool
 Aa : Option Addr
 na : Nat
 ca : Nat
 xb : Int
 fb : Bool
 Ab : Option Addr
 nb : Nat
 cb : Nat
 tb : Bool
 tl : Bool
 tr : Bool
 w0 : World
 B : Nat
def GC.h (g : GC) : Nat := g.w0.heap.size
def GC.op (g : GC) : Bool → Bool → Bool := ofT g.tb g.tl g.tr
def GC.ro (g : GC) (k : Int × Int) : Rg := comb g.op g.N (restR g.a k.1) (restR g.b k.2)
structure GC.Good (g : GC) : Prop where
 ra : RgS g.w0 g.xa g.fa g.Aa g.na g.ca g.a
 rb : RgS g.w0 g.xb g.fb g.Ab g.nb g.cb g.b
 fa : Form (g.N + 1) g.a
 fb : Form (g.N + 1) g.b
 wa : WfR g.a
 wb : WfR g.b
 ia : within g.a
 ib : within g.b
 n12 : g.N + 1 ≤ 12
theorem restR_ok {n : Nat} {r : Rg} (hf : Form (n + 1) r) (hw : WfR r) (hi : within r) (i : Int) (h1 : -1 ≤ i) (h2 : i < (r.len : Int)) : Form n (restR r i) ∧ WfR (restR r i) ∧ within (restR r i) := by
 unfold restR
 rcases Int.lt_or_le i 0 with h | h
 · rw [if_pos h]
   have e : r.w - 1 = (n : Int) := by rw [hf.1]; omega
   rw [e]
   exact ⟨form_nil n, trivial, by simp [Rg.size], rfl⟩
 · rw [if_neg (by omega)]
   have hlt : i.toNat < r.parts.length := by rw [len_parts]; omega
   rw [List.getElem?_eq_getElem hlt]
   dsimp only
   have hm := List.getElem_mem hlt
   have h3 := size_mem hm
   exact ⟨(hf.2.2.1 _ hm).2.2.1, (hw.mem hm).2, by have := hi.1; omega, (fits_mem hi.2 hm).2⟩
theorem GC.ro_ok {g : GC} (hg : g.Good) {i k : Int} (hi : -1 ≤ i ∧ i < (g.na : Int)) (hk : -1 ≤ k ∧ k < (g.nb : Int)) : Form g.N (g.ro (i, k)) ∧ WfR (g.ro (i, k)) := by
 obtain ⟨a1, a2, _⟩ := restR_ok hg.fa hg.wa hg.ia i hi.1 (by rw [← hg.ra.len]; exact hi.2)
 obtain ⟨b1, b2, _⟩ := restR_ok hg.fb hg.wb hg.ib k hk.1 (by rw [← hg.rb.len]; exact hk.2)
 exact ⟨comb_form _ _ _ _ a1 b1, comb_wf _ _ _ _ a2 b2⟩
structure GF (g : GC) (w : World) : Prop where
 bel : Below g.h g.w0 w
 ba : Blk w (g.h + 4) 71 #[.int .i64 g.xa, .bool g.fa, .slice g.Aa g.na g.ca]
 bb : Blk w (g.h + 5) 71 #[.int .i64 g.xb, .bool g.fb, .slice g.Ab g.nb g.cb]
 bp : Blk w (g.h + 6) 222 #[.pointer (some ⟨g.h + 3, 0, none⟩)]
 bo : Blk w (g.h + 7) 199 #[opV g.tb g.tl g.tr]
 bk : Blk w (g.h + 9) 257 #[.map (some (g.h + 8))]
 bc : Blk w (g.h + 11) 258 #[.map (some (g.h + 10))]
 hB : g.h + 13 ≤ g.B ∧ g.B ≤ w.heap.size
def GC.may (g : GC) (q : Nat) : Prop := q = g.h + 8 ∨ q = g.h + 10 ∨ q = g.h + 12 ∨ q = g.h + 3 ∨ g.B ≤ q
theorem GF.but {g : GC} {w w' : World} {S : Nat → Prop} (h : GF g w) (hb : But S w w') (hS : ∀ q, S q → g.may q) : GF g w' := by
 have h0 := h.hB
 have n : ∀ q, ¬ g.may q → ¬ S q := fun q hq hs => hq (hS q hs)
 refine ⟨hb.below h.bel h.bel.size (fun k hk => ?_), h.ba.but hb (n _ ?_), h.bb.but hb (n _ ?_), h.bp.but hb (n _ ?_), h.bo.but hb (n _ ?_), h.bk.but hb (n _ ?_), h.bc.but hb (n _ ?_), ⟨h0.1, Nat.le_trans h0.2 hb.size⟩⟩
 · have h1 := hS k hk
   unfold GC.may at h1
   omega
 all_goals
  unfold GC.may
  omega
theorem GF.below {g : GC} {w w' : World} (h : GF g w) (hb : Below w.heap.size w w') : GF g w' := h.but (S := fun _ => False) (But.of_below hb) (fun _ h => h.elim)
structure GS (g : GC) (w : World) (A : Option Addr) (n c : Nat) (ms : List PM) (nk : Nat) (K1 : Int × Int → Option Int) (K2 : ByteArray → Option Int) : Prop where
 fx : GF g w
 km : MapIs w 225 kv2 (g.h + 8) nk K1
 cm : MapIs w 9 Value.string (g.h + 10) n K2
 tot : Blk w (g.h + 12) 3 #[.int .i64 (sizeL (ms.map PM.pr) : Nat)]
 out : Blk w (g.h + 3) 71 #[.int .i64 ((g.N + 1 : Nat) : Int), .bool false, .slice A n c]
 parts : PartsIn g.B w A n c ms
 k1 : ∀ k z, K1 k = some z → z = idxR (ms.map PM.r) (g.ro k) ∧ ((g.ro k).nix = true ∨ g.ro k ∈ ms.map PM.r)
 k2 : ∀ s, Form g.N s → WfR s → within s → K2 (codeR s) = if s ∈ ms.map PM.r then some (idxR (ms.map PM.r) s) else none
 good : ∀ m ∈ ms, Form g.N m.r ∧ WfR m.r ∧ within m.r ∧ m.r.nix = false
 size : sizeL (ms.map PM.pr) ≤ 64
 nodup : (ms.map PM.r).Nodup
def GC.S (g : GC) (A : Option Addr) (n c : Nat) (q : Nat) : Prop := q = g.h + 8 ∨ q = g.h + 10 ∨ q = g.h + 12 ∨ q = g.h + 3 ∨ (Value.slice A n c).ownBlock = some q
theorem GS.below {g : GC} {w w' : World} {A : Option Addr} {n c : Nat} {ms : List PM} {nk : Nat} {K1 : Int × Int → Option Int} {K2 : ByteArray → Option Int} (h : GS g w A n c ms nk K1 K2) (hb : Below w.heap.size w w') : GS g w' A n c ms nk K1 K2 :=
 ⟨h.fx.below hb, h.km.below hb, h.cm.below hb, h.tot.below hb, h.out.below hb, h.parts.below hb, h.k1, h.k2, h.good, h.size, h.nodup⟩
theorem GS.known {g : GC} {w w' : World} {A : Option Addr} {n c : Nat} {ms : List PM} {nk nk' : Nat} {K1 : Int × Int → Option Int} {K2 : ByteArray → Option Int} (h : GS g w A n c ms nk K1 K2) (hb : But (· = g.h + 8) w w') {k0 : Int × Int} {z0 : Int}
 (hm : MapIs w' 225 kv2 (g.h + 8) nk' (fun k' => if k' = k0 then some z0 else K1 k')) (hz : z0 = idxR (ms.map PM.r) (g.ro k0) ∧ ((g.ro k0).nix = true ∨ g.ro k0 ∈ ms.map PM.r)) : GS g w' A n c ms nk' (fun k' => if k' = k0 then some z0 else K1 k') K2 := by
 have h0 := h.fx.hB
 refine ⟨h.fx.but hb (fun q hq => .inl hq), hm, h.cm.but hb (by omega), h.tot.but hb (by omega), h.out.but hb (by omega), h.parts.but hb (fun k hk => by omega), fun k z hk => ?_, h.k2, h.good, h.size, h.nodup⟩
 split at hk
 · rename_i e
   injection hk with hk
   rw [← hk, e]
   exact hz
 · exact h.k1 k z hk
theorem idxR_new {U : List Rg} {r : Rg} (hn : r ∉ U) (s : Rg) (hs : s ≠ r) : idxR (U ++ [r]) s = idxR U s := by
 induction U with
 | nil => simp [idxR, Ne.symm hs]
 | cons x U ih =>
   rw [List.cons_append]
   unfold idxR
   rw [ih (fun h => hn (List.mem_cons_of_mem _ h))]
theorem idxR_last {U : List Rg} {r : Rg} (hn : r ∉ U) : idxR (U ++ [r]) r = (U.length : Int) := by
 induction U with
 | nil => simp [idxR]
 | cons x U ih =>
   have h1 := ih (fun h => hn (List.mem_cons_of_mem _ h))
   rw [List.cons_append]
   unfold idxR
   rw [h1, if_neg (fun e => hn (by rw [e]; exact List.mem_cons_self)), if_neg (by omega), List.length_cons]
   omega
theorem GS.added {g : GC} {w w' : World} {A A' : Option Addr} {n c c' : Nat} {ms : List PM} {nk : Nat} {K1 : Int × Int → Option Int} {K2 : ByteArray → Option Int} (h : GS g w A n c ms nk K1 K2) {m : PM} {rr : Rg} (hr : m.r = rr)
 (hf : Form g.N rr) (hw : WfR rr) (hi : within rr) (hx : rr.nix = false) (hnm : rr ∉ ms.map PM.r) (hsz : sizeL (ms.map PM.pr) + (1 + rr.size) ≤ 64)
 (hfx : GF g w') (hkm : MapIs w' 225 kv2 (g.h + 8) nk K1) (hcm : MapIs w' 9 Value.string (g.h + 10) (n + 1) (fun k' => if k' = codeR rr then some (n : Int) else K2 k'))
 (htot : Blk w' (g.h + 12) 3 #[.int .i64 ((sizeL (ms.map PM.pr) + (1 + rr.size) : Nat) : Int)]) (hout : Blk w' (g.h + 3) 71 #[.int .i64 ((g.N + 1 : Nat) : Int), .bool false, .slice A' (n + 1) c'])
 (hparts : PartsIn g.B w' A' (n + 1) c' (ms ++ [m])) : GS g w' A' (n + 1) c' (ms ++ [m]) nk K1 (fun k' => if k' = codeR rr then some (n : Int) else K2 k') := by
 have hU : (ms ++ [m]).map PM.r = ms.map PM.r ++ [rr] := by rw [List.map_append, List.map_cons, List.map_nil, hr]
 have hZ : sizeL ((ms ++ [m]).map PM.pr) = sizeL (ms.map PM.pr) + (1 + rr.size) := by
  rw [List.map_append, sizeL_append, List.map_cons, List.map_nil, sizeL_cons]
  show _ + (1 + m.r.size + 0) = _
  rw [hr]
  omega
 refine ⟨hfx, hkm, hcm, by rw [hZ]; exact htot, hout, hparts, fun k z hk => ?_, fun s h1 h2 h3 => ?_, fun m' hm' => ?_, by rw [hZ]; exact hsz, ?_⟩
 · obtain ⟨e1, e2⟩ := h.k1 k z hk
   rw [hU]
   have hne : g.ro k ≠ rr := fun e => by
    rcases e2 with e2 | e2
    · rw [e, hx] at e2; cases e2
    · rw [e] at e2; exact hnm e2
   refine ⟨by rw [idxR_new hnm _ hne]; exact e1, e2.imp id (fun h => List.mem_append_left _ h)⟩
 · rw [hU]
   by_cases e : s = rr
   · subst e
     rw [if_pos rfl, if_pos (by simp), idxR_last hnm, List.length_map, h.parts.len]
   · rw [if_neg (fun hc => e (codeR_inj h1 hf h2 hw h3 hi hc)), h.k2 s h1 h2 h3, idxR_new hnm _ e]
     by_cases hm : s ∈ ms.map PM.r
     · rw [if_pos hm, if_pos (List.mem_append_left _ hm)]
     · rw [if_neg hm, if_neg (by simp only [List.mem_append, List.mem_singleton, not_or]; exact ⟨hm, e⟩)]
 · rcases List.mem_append.1 hm' with hm' | hm'
   · exact h.good m' hm'
   · rw [List.mem_singleton] at hm'
     subst hm'
     rw [hr]
     exact ⟨hf, hw, hi, hx⟩
 · rw [hU]
   exact List.nodup_append.2 ⟨h.nodup, by simp, fun a ha b hb => by rw [List.mem_singleton] at hb; subst hb; exact fun e => hnm (e ▸ ha)⟩
theorem info_pt : (Tryz.prog.info? 141).map (fun i => (i.zero, i.size, i.bytes)) = some (some (.agg #[.slice none 0 0, .int .i64 0, .bool false, .slice none 0 0]), 4, 64) := by kernel_rfl
theorem map_ne {κ : Type} {w : World} {kT : TypeId} {kv : κ → Value} {b n G : Nat} {M : κ → Option Int} {T : TypeId} {cs : Array Value} (h : MapIs w kT kv b n M) (hG : Blk w G T cs) : G ≠ b := fun e => by
 subst e
 exact h.norow cs T (0, 0) hG
def GFail (g : GC) (ms : List PM) (r : Rg) : Prop := ¬ within r ∨ (r.nix = false ∧ r ∉ ms.map PM.r ∧ 64 < sizeL (ms.map PM.pr) + (1 + r.size))
def GRes (g : GC) (A : Option Addr) (n c : Nat) (ms : List PM) (nk : Nat) (w : World) (r : Rg) (e : Ending) (w' : World) : Prop :=
 ∃ (now : Int) (ok : Bool), e = .returned (.tuple #[.int .i64 now, .bool ok]) ∧ But (g.S A n c) w w' ∧ (ok = false → GFail g ms r) ∧
   (ok = true → ∃ (A' : Option Addr) (n' c' : Nat) (ms' : List PM) (K1' : Int × Int → Option Int) (K2' : ByteArray → Option Int), GS g w' A' n' c' ms' (nk + 1) K1' K2' ∧ ms'.map PM.pr = roomP (ms.map PM.pr) r ∧ now = idxR (ms'.map PM.r) r ∧
    ((Value.slice A' n' c').ownBlock = (Value.slice A n c).ownBlock ∨ ∃ q, (Value.slice A' n' c').ownBlock = some q ∧ w.heap.size ≤ q))
theorem But.wide {S S' : Nat → Prop} {w w' : World} (h : But S w w') (hs : ∀ k, S k → S' k) : But S' w w' := ⟨h.os, h.tape, h.output, h.size, fun k hk hn => h.block k hk (fun hS => hn (hs k hS))⟩
theorem prs_r (ms : List PM) : (ms.map PM.pr).map (·.2) = ms.map PM.r := by rw [List.map_map]; rfl
set_option maxRecDepth 100000 in
set_option maxHeartbeats 8000000 in
theorem group_any (g : GC) (hg : g.Good) (ih : CombC g.N g.tb g.tl g.tr) (w : World) (A : Option Addr) (n c : Nat) (ms : List PM) (nk : Nat) (K1 : Int × Int → Option Int) (K2 : ByteArray → Option Int) (hS : GS g w A n c ms nk K1 K2) (hnk : nk ≤ 100000)
 (i k : Int) (hi : -1 ≤ i ∧ i < (g.na : Int)) (hk : -1 ≤ k ∧ k < (g.nb : Int)) (hna : g.na ≤ 64) (hnb : g.nb ≤ 64) :
 Calls Tryz.prog 241 #[.agg #[.int .i64 i, .int .i64 k], .pointer (some ⟨g.h + 9, 0, none⟩), .pointer (some ⟨g.h + 4, 0, none⟩), .pointer (some ⟨g.h + 5, 0, none⟩), .pointer (some ⟨g.h + 7, 0, none⟩), .pointer (some ⟨g.h + 11, 0, none⟩), .pointer (some ⟨g.h + 12, 0, none⟩), .pointer (some ⟨g.h + 6, 0, none⟩)] w
  fun e w' => GRes g A n c ms nk w (g.ro (i, k)) e w' := by
 obtain ⟨kl, hkl⟩ := key2 i k (by omega) (by omega)
 obtain ⟨rr, Hrr⟩ : ∃ r, Hid (g.ro (i, k) = r) := ⟨_, rfl⟩
 have hro := GC.ro_ok hg hi hk
 rw [Hrr.out] at hro ⊢
 have HRo := zH hro
 have HG := zH hg
 have HI := zH ih
 have HKL := zH hkl
 obtain ⟨o1, Ho1⟩ : ∃ o, Hid (K1 (i, k) = o) := ⟨_, rfl⟩
 have HB0 : Hid (Below w.heap.size w (w.alloc (.cells #[.int .i64 i, .int .i64 k] 225))) := zH ((Below.refl _ _).alloc (Nat.le_refl _) _)
 have HX0 : Hid (Blk (w.alloc (.cells #[.int .i64 i, .int .i64 k] 225)) w.heap.size 225 #[.int .i64 i, .int .i64 k]) := zH (Blk.new _ _ _)
 have HS := zH (hS.below HB0.out)
 have hlt : g.h + 13 ≤ w.heap.size := by have := hS.fx.hB; omega
 have hBw : g.B ≤ w.heap.size := hS.fx.hB.2
 have hkc := HS.out.fx.bk.cell
 clear hg ih hS hro hkl
 cases o1 with
 | some z =>
   go_enter Tryz.func241, Tryz.ntmps241
   go_wp2_with (at_lookup; refine wpList_map_look (P := Tryz.prog) rfl (by rfl) _ _ _ (by rfl) keyed2 Tryz.underlying257 (by rfl) HS.out.km (i, k) kl (by rfl) HKL.out ?_; rw [Ho1.out])
   refine bodyPost_ret (v := .tuple #[.int .i64 z, .bool true]) (by simp [results, Tryz.results241, go_sem]) rfl ?_
   have h1 := HS.out.k1 _ _ Ho1.out
   rw [Hrr.out] at h1
   refine ⟨z, true, rfl, But.of_below HB0.out, (fun h => by cases h), fun _ => ⟨A, n, c, ms, K1, K2, ?_, ?_, h1.1, .inl rfl⟩⟩
   · have h2 := HS.out
     exact { h2 with km := h2.km.mono (Nat.le_succ _) }
   · unfold roomP
     rw [prs_r]
     rcases h1.2 with e | e
     · simp [e]
     · simp [e]
 | none =>
   go_enter Tryz.func241, Tryz.ntmps241
   go_upto_region 4 with (at_lookup; refine wpList_map_look (P := Tryz.prog) rfl (by rfl) _ _ _ (by rfl) keyed2 Tryz.underlying257 (by rfl) HS.out.km (i, k) kl (by rfl) HKL.out ?_; rw [Ho1.out])
   go_cut [13, 14] (fun s t w2 => ∃ (G : Nat) (ok : Bool) (x : Int) (f : Bool) (A2 : Option Addr) (n2 c2 : Nat) (lo hi : Nat), s = .pointer (some ⟨G, 0, none⟩) ∧ t = .bool ok ∧ Blk w2 G 71 #[.int .i64 x, .bool f, .slice A2 n2 c2] ∧ (ok = true ↔ within rr) ∧ (ok = true → RgF lo hi w2 x f A2 n2 c2 rr) ∧ w.heap.size < lo ∧ hi ≤ w2.heap.size ∧ Below (w.heap.size + 1) (w.alloc (.cells #[.int .i64 i, .int .i64 k] 225)) w2)
   case first =>
    obtain ⟨W, HW⟩ : ∃ W : World, Hid (w.alloc (.cells #[.int .i64 i, .int .i64 k] 225) = W) := ⟨_, rfl⟩
    have hWs : W.heap.size = w.heap.size + 1 := by rw [← HW.out, World.size_alloc]
    rw [HW.out] at HS HB0 HX0 ⊢
    have RA := zH (HG.out.ra.keep (keeps_of HS.out.fx.bel))
    have RB := zH (HG.out.rb.keep (keeps_of HS.out.fx.bel))
    have Hra := zH (restR_ok HG.out.fa HG.out.wa HG.out.ia i hi.1 (by rw [← HG.out.ra.len]; exact hi.2))
    have Hrb := zH (restR_ok HG.out.fb HG.out.wb HG.out.ib k hk.1 (by rw [← HG.out.rb.len]; exact hk.2))
    have Hco : Hid (comb (ofT g.tb g.tl g.tr) g.N (restR g.a i) (restR g.b k) = rr) := zH Hrr.out
    have Hxa : Hid (0 ≤ g.xa ∧ g.xa ≤ 12) := zH (by have h1 := HG.out.ra.hw; have h2 := HG.out.fa.1; have h3 := HG.out.n12; omega)
    have Hxb : Hid (0 ≤ g.xb ∧ g.xb ≤ 12) := zH (by have h1 := HG.out.rb.hw; have h2 := HG.out.fb.1; have h3 := HG.out.n12; omega)
    have q4 : ∀ (x : LaterS (fun q => W.heap.size ≤ q) W.drew) j, (afterS (fun q => W.heap.size ≤ q) W.drew x).cell? ⟨g.h + 4, j, none⟩ = (#[.int .i64 g.xa, .bool g.fa, .slice g.Aa g.na g.ca] : Array Value)[j]? := fun x j => (HS.out.fx.ba.drew.but x.but (by omega)).cell j
    have q5 : ∀ (x : LaterS (fun q => W.heap.size ≤ q) W.drew) j, (afterS (fun q => W.heap.size ≤ q) W.drew x).cell? ⟨g.h + 5, j, none⟩ = (#[.int .i64 g.xb, .bool g.fb, .slice g.Ab g.nb g.cb] : Array Value)[j]? := fun x j => (HS.out.fx.bb.drew.but x.but (by omega)).cell j
    have q7 : ∀ (x : LaterS (fun q => W.heap.size ≤ q) W.drew) j, (afterS (fun q => W.heap.size ≤ q) W.drew x).cell? ⟨g.h + 7, j, none⟩ = (#[opV g.tb g.tl g.tr] : Array Value)[j]? := fun x j => (HS.out.fx.bo.drew.but x.but (by omega)).cell j
    have q8 : ∀ (x : LaterS (fun q => W.heap.size ≤ q) W.drew) j, (afterS (fun q => W.heap.size ≤ q) W.drew x).cell? ⟨w.heap.size, j, none⟩ = (#[.int .i64 i, .int .i64 k] : Array Value)[j]? := fun x j => (HX0.out.drew.but x.but (by omega)).cell j
    have HWs := zH hWs
    clear hWs
    -- ORDERS BEGIN
    refine wp_region_plan (fun q => W.heap.size ≤ q) (.two [0, 1, 2, 4, 5, 6, 8] 3 (.two [] 7 (.two [] 9 (.one [10, 11, 12] 13 (.one [] 14 (.last [15]))) 13 (.one [] 9 (.one [10, 11, 12] 14 (.last [15])))) 13 (.one [] 7 (.one [] 9 (.one [10, 11, 12] 14 (.last [15]))))) 13 (.one [] 3 (.one [] 7 (.one [] 9 (.one [10, 11, 12] 14 (.last [15])))))) (by kernel_rfl) (by kernel_rfl) (fun _ _ d _ _ h => by cases d <;> exact h) ?_
    have hBd : Below W.heap.size W W.drew := (Below.refl _ _).drew
    have hWd : W.drew.heap.size = W.heap.size := rfl
    generalize hWdd : W.drew = Wd at *
    clear hWdd
    have HWd := zH hWd
    clear hWd
    unfold wpPlan
    simp only [pickOps, opAt, pkO]
    repeat (go_big_quiet_step (fail))
    refine wpQuiet_nil ⟨?_, ?_⟩
    · go_wp2_with fail
      refine (restOf_any g.a g.xa g.fa g.Aa g.na g.ca i _ (RA.out.keep (keeps_of hBd)) hi.2 hi.1 Hxa.out).mono ?_
      rintro e w_A ⟨xA, fA, AA, nA, cA, rfl, hRA, hb_A⟩
      have HAR := zH hRA
      have hB_A := Below.next hBd hb_A
      clear hRA
      go_wp2_with fail
      refine ⟨But.of_below hb_A, ?_⟩
      unfold wpPlan
      simp only [pickOps, opAt, pkO]
      repeat (go_big_quiet_step (fail))
      refine wpQuiet_nil ⟨?_, ?_⟩
      · go_wp2_with fail
        refine (restOf_any g.b g.xb g.fb g.Ab g.nb g.cb k _ (RB.out.keep (keeps_of hB_A)) hk.2 hk.1 Hxb.out).mono ?_
        rintro e w_AB ⟨xB, fB, AB, nB, cB, rfl, hRB, hb_AB⟩
        replace HAR := zH (HAR.out.keep (keeps_of hb_AB))
        have HBR := zH hRB
        have hB_AB := Below.next hB_A hb_AB
        clear hRB
        go_wp2_with fail
        refine ⟨But.of_below hb_AB, ?_⟩
        unfold wpPlan
        simp only [pickOps, opAt, pkO]
        repeat (go_big_quiet_step (fail))
        refine wpQuiet_nil ⟨?_, ?_⟩
        · go_wp2_with fail
          refine (HI.out (restR g.a i) (restR g.b k) xA fA AA nA cA xB fB AB nB cB _ HAR.out HBR.out Hra.out.1 Hrb.out.1 Hra.out.2.1 Hrb.out.2.1 Hra.out.2.2 Hrb.out.2.2).mono ?_
          rintro e w_ABC ⟨x, f, A2, n2, c2, ok, rfl, hok, hF, hb_ABC⟩
          rw [Hco.out] at hok hF
          have hB_ABC := Below.next hB_AB hb_ABC
          have HOK := zH hok
          have HF := zH hF
          have hlo := hB_AB.size
          have hhi := hb_ABC.size
          clear hok hF HAR HBR
          go_wp2_with fail
          refine ⟨But.of_below hb_ABC, ?_⟩
          unfold wpPlan
          simp only [pickOps, opAt, pkO]
          repeat (go_big_quiet_step (fail))
          refine wpQuiet_nil ?_
          go_wp2_with fail
          refine ⟨But.alloc _ _, ?_⟩
          replace HF := zH (fun h => (HF.out h).keep fun q h1 h2 => Below.heap_alloc _ (.cells #[.int .i64 0, .bool false, .slice none 0 0] 71) _ h2)
          have HN := zH (Blk.new w_ABC 71 #[.int .i64 0, .bool false, .slice none 0 0])
          have hB_ABCN := hB_ABC.alloc hB_ABC.size (.cells #[.int .i64 0, .bool false, .slice none 0 0] 71)
          have hGs := hB_ABC.size
          have hGn : w_ABC.heap.size < (w_ABC.alloc (.cells #[.int .i64 0, .bool false, .slice none 0 0] 71)).heap.size := HN.out.lt
          generalize hWN : w_ABC.alloc (.cells #[.int .i64 0, .bool false, .slice none 0 0] 71) = WN at *
          clear hWN
          unfold wpPlan
          simp only [pickOps, opAt, pkO]
          repeat (go_big_quiet_step (fail))
          refine wpQuiet_nil ?_
          have hzc := HN.out.cell
          obtain ⟨ff1, ff2, ff3⟩ := put3R_free HN.out (.int .i64 x) (.bool f)
          go_wp2_with fail
          refine ⟨(put3R_but WN w_ABC.heap.size (.int .i64 x) (.bool f) (.slice A2 n2 c2)).wide (fun q hq => by subst hq; exact hGs), ?_⟩
          unfold wpPlan
          simp only [pickOps, opAt, pkO]
          repeat (go_big_quiet_step (fail))
          refine wpQuiet_nil ?_
          go_wp2_with fail
          go_meet
          case rel =>
           refine ⟨w_ABC.heap.size, ok, x, f, A2, n2, c2, (w_AB).heap.size, w_ABC.heap.size, rfl, rfl, put3R_blk HN.out, HOK.out, fun h => (HF.out h).keep fun q h1 h2 => ?_, ?_, ?_, ?_⟩
           · exact (put3R_but WN w_ABC.heap.size (.int .i64 x) (.bool f) (.slice A2 n2 c2)).block q (by first | omega | (simp only [World.size_alloc]; omega)) (by show ¬ q = _; first | omega | (simp only [World.size_alloc] at h1 hGl; omega))
           · have := HWs.out; have := HWd.out; omega
           · have := put3R_size WN w_ABC.heap.size (.int .i64 x) (.bool f) (.slice A2 n2 c2); show _ ≤ (put3R _ _ _ _ _).heap.size; omega
           · rw [HW.out]; exact put3R_below (base := w.heap.size + 1) (B := w_ABC.heap.size) (hB_ABCN.mono (by have := HWs.out; have := HWd.out; omega)) (by have := HWs.out; have := HWd.out; omega) _ _ _
        · go_wp2_with fail
          refine ⟨But.alloc _ _, ?_⟩
          replace HAR := zH (HAR.out.keep (keeps_alloc _ (.cells #[.int .i64 0, .bool false, .slice none 0 0] 71)))
          replace HBR := zH (HBR.out.keep (keeps_alloc _ (.cells #[.int .i64 0, .bool false, .slice none 0 0] 71)))
          have HN := zH (Blk.new w_AB 71 #[.int .i64 0, .bool false, .slice none 0 0])
          have hB_ABN := hB_AB.alloc hB_AB.size (.cells #[.int .i64 0, .bool false, .slice none 0 0] 71)
          have hGs := hB_AB.size
          have hGn : w_AB.heap.size < (w_AB.alloc (.cells #[.int .i64 0, .bool false, .slice none 0 0] 71)).heap.size := HN.out.lt
          generalize hWN : w_AB.alloc (.cells #[.int .i64 0, .bool false, .slice none 0 0] 71) = WN at *
          clear hWN
          unfold wpPlan
          simp only [pickOps, opAt, pkO]
          repeat (go_big_quiet_step (fail))
          refine wpQuiet_nil ?_
          go_wp2_with fail
          refine (HI.out (restR g.a i) (restR g.b k) xA fA AA nA cA xB fB AB nB cB _ HAR.out HBR.out Hra.out.1 Hrb.out.1 Hra.out.2.1 Hrb.out.2.1 Hra.out.2.2 Hrb.out.2.2).mono ?_
          rintro e w_ABNC ⟨x, f, A2, n2, c2, ok, rfl, hok, hF, hb_ABNC⟩
          rw [Hco.out] at hok hF
          have hGl := HN.out.lt
          replace HN := zH (HN.out.below hb_ABNC)
          have hB_ABNC := Below.next hB_ABN hb_ABNC
          have HOK := zH hok
          have HF := zH hF
          have hlo := hB_ABN.size
          have hhi := hb_ABNC.size
          clear hok hF HAR HBR
          go_wp2_with fail
          refine ⟨But.of_below hb_ABNC, ?_⟩
          unfold wpPlan
          simp only [pickOps, opAt, pkO]
          repeat (go_big_quiet_step (fail))
          refine wpQuiet_nil ?_
          have hzc := HN.out.cell
          obtain ⟨ff1, ff2, ff3⟩ := put3R_free HN.out (.int .i64 x) (.bool f)
          go_wp2_with fail
          refine ⟨(put3R_but w_ABNC w_AB.heap.size (.int .i64 x) (.bool f) (.slice A2 n2 c2)).wide (fun q hq => by subst hq; exact hGs), ?_⟩
          unfold wpPlan
          simp only [pickOps, opAt, pkO]
          repeat (go_big_quiet_step (fail))
          refine wpQuiet_nil ?_
          go_wp2_with fail
          go_meet
          case rel =>
           refine ⟨w_AB.heap.size, ok, x, f, A2, n2, c2, (WN).heap.size, w_ABNC.heap.size, rfl, rfl, put3R_blk HN.out, HOK.out, fun h => (HF.out h).keep fun q h1 h2 => ?_, ?_, ?_, ?_⟩
           · exact (put3R_but w_ABNC w_AB.heap.size (.int .i64 x) (.bool f) (.slice A2 n2 c2)).block q (by first | omega | (simp only [World.size_alloc]; omega)) (by show ¬ q = _; first | omega | (simp only [World.size_alloc] at h1 hGl; omega))
           · have := HWs.out; have := HWd.out; omega
           · have := put3R_size w_ABNC w_AB.heap.size (.int .i64 x) (.bool f) (.slice A2 n2 c2); show _ ≤ (put3R _ _ _ _ _).heap.size; omega
           · rw [HW.out]; exact put3R_below (base := w.heap.size + 1) (B := w_AB.heap.size) (hB_ABNC.mono (by have := HWs.out; have := HWd.out; omega)) (by have := HWs.out; have := HWd.out; omega) _ _ _
      · go_wp2_with fail
        refine ⟨But.alloc _ _, ?_⟩
        replace HAR := zH (HAR.out.keep (keeps_alloc _ (.cells #[.int .i64 0, .bool false, .slice none 0 0] 71)))
        have HN := zH (Blk.new w_A 71 #[.int .i64 0, .bool false, .slice none 0 0])
        have hB_AN := hB_A.alloc hB_A.size (.cells #[.int .i64 0, .bool false, .slice none 0 0] 71)
        have hGs := hB_A.size
        have hGn : w_A.heap.size < (w_A.alloc (.cells #[.int .i64 0, .bool false, .slice none 0 0] 71)).heap.size := HN.out.lt
        generalize hWN : w_A.alloc (.cells #[.int .i64 0, .bool false, .slice none 0 0] 71) = WN at *
        clear hWN
        unfold wpPlan
        simp only [pickOps, opAt, pkO]
        repeat (go_big_quiet_step (fail))
        refine wpQuiet_nil ?_
        go_wp2_with fail
        refine (restOf_any g.b g.xb g.fb g.Ab g.nb g.cb k _ (RB.out.keep (keeps_of hB_AN)) hk.2 hk.1 Hxb.out).mono ?_
        rintro e w_ANB ⟨xB, fB, AB, nB, cB, rfl, hRB, hb_ANB⟩
        replace HAR := zH (HAR.out.keep (keeps_of hb_ANB))
        replace HN := zH (HN.out.below hb_ANB)
        have HBR := zH hRB
        have hB_ANB := Below.next hB_AN hb_ANB
        clear hRB
        go_wp2_with fail
        refine ⟨But.of_below hb_ANB, ?_⟩
        unfold wpPlan
        simp only [pickOps, opAt, pkO]
        repeat (go_big_quiet_step (fail))
        refine wpQuiet_nil ?_
        go_wp2_with fail
        refine (HI.out (restR g.a i) (restR g.b k) xA fA AA nA cA xB fB AB nB cB _ HAR.out HBR.out Hra.out.1 Hrb.out.1 Hra.out.2.1 Hrb.out.2.1 Hra.out.2.2 Hrb.out.2.2).mono ?_
        rintro e w_ANBC ⟨x, f, A2, n2, c2, ok, rfl, hok, hF, hb_ANBC⟩
        rw [Hco.out] at hok hF
        have hGl := HN.out.lt
        replace HN := zH (HN.out.below hb_ANBC)
        have hB_ANBC := Below.next hB_ANB hb_ANBC
        have HOK := zH hok
        have HF := zH hF
        have hlo := hB_ANB.size
        have hhi := hb_ANBC.size
        clear hok hF HAR HBR
        go_wp2_with fail
        refine ⟨But.of_below hb_ANBC, ?_⟩
        unfold wpPlan
        simp only [pickOps, opAt, pkO]
        repeat (go_big_quiet_step (fail))
        refine wpQuiet_nil ?_
        have hzc := HN.out.cell
        obtain ⟨ff1, ff2, ff3⟩ := put3R_free HN.out (.int .i64 x) (.bool f)
        go_wp2_with fail
        refine ⟨(put3R_but w_ANBC w_A.heap.size (.int .i64 x) (.bool f) (.slice A2 n2 c2)).wide (fun q hq => by subst hq; exact hGs), ?_⟩
        unfold wpPlan
        simp only [pickOps, opAt, pkO]
        repeat (go_big_quiet_step (fail))
        refine wpQuiet_nil ?_
        go_wp2_with fail
        go_meet
        case rel =>
         refine ⟨w_A.heap.size, ok, x, f, A2, n2, c2, (w_ANB).heap.size, w_ANBC.heap.size, rfl, rfl, put3R_blk HN.out, HOK.out, fun h => (HF.out h).keep fun q h1 h2 => ?_, ?_, ?_, ?_⟩
         · exact (put3R_but w_ANBC w_A.heap.size (.int .i64 x) (.bool f) (.slice A2 n2 c2)).block q (by first | omega | (simp only [World.size_alloc]; omega)) (by show ¬ q = _; first | omega | (simp only [World.size_alloc] at h1 hGl; omega))
         · have := HWs.out; have := HWd.out; omega
         · have := put3R_size w_ANBC w_A.heap.size (.int .i64 x) (.bool f) (.slice A2 n2 c2); show _ ≤ (put3R _ _ _ _ _).heap.size; omega
         · rw [HW.out]; exact put3R_below (base := w.heap.size + 1) (B := w_A.heap.size) (hB_ANBC.mono (by have := HWs.out; have := HWd.out; omega)) (by have := HWs.out; have := HWd.out; omega) _ _ _
    · go_wp2_with fail
      refine ⟨But.alloc _ _, ?_⟩
      have HN := zH (Blk.new Wd 71 #[.int .i64 0, .bool false, .slice none 0 0])
      have hB_N := hBd.alloc hBd.size (.cells #[.int .i64 0, .bool false, .slice none 0 0] 71)
      have hGs := hBd.size
      have hGn : Wd.heap.size < (Wd.alloc (.cells #[.int .i64 0, .bool false, .slice none 0 0] 71)).heap.size := HN.out.lt
      generalize hWN : Wd.alloc (.cells #[.int .i64 0, .bool false, .slice none 0 0] 71) = WN at *
      clear hWN
      unfold wpPlan
      simp only [pickOps, opAt, pkO]
      repeat (go_big_quiet_step (fail))
      refine wpQuiet_nil ?_
      go_wp2_with fail
      refine (restOf_any g.a g.xa g.fa g.Aa g.na g.ca i _ (RA.out.keep (keeps_of hB_N)) hi.2 hi.1 Hxa.out).mono ?_
      rintro e w_NA ⟨xA, fA, AA, nA, cA, rfl, hRA, hb_NA⟩
      replace HN := zH (HN.out.below hb_NA)
      have HAR := zH hRA
      have hB_NA := Below.next hB_N hb_NA
      clear hRA
      go_wp2_with fail
      refine ⟨But.of_below hb_NA, ?_⟩
      unfold wpPlan
      simp only [pickOps, opAt, pkO]
      repeat (go_big_quiet_step (fail))
      refine wpQuiet_nil ?_
      go_wp2_with fail
      refine (restOf_any g.b g.xb g.fb g.Ab g.nb g.cb k _ (RB.out.keep (keeps_of hB_NA)) hk.2 hk.1 Hxb.out).mono ?_
      rintro e w_NAB ⟨xB, fB, AB, nB, cB, rfl, hRB, hb_NAB⟩
      replace HAR := zH (HAR.out.keep (keeps_of hb_NAB))
      replace HN := zH (HN.out.below hb_NAB)
      have HBR := zH hRB
      have hB_NAB := Below.next hB_NA hb_NAB
      clear hRB
      go_wp2_with fail
      refine ⟨But.of_below hb_NAB, ?_⟩
      unfold wpPlan
      simp only [pickOps, opAt, pkO]
      repeat (go_big_quiet_step (fail))
      refine wpQuiet_nil ?_
      go_wp2_with fail
      refine (HI.out (restR g.a i) (restR g.b k) xA fA AA nA cA xB fB AB nB cB _ HAR.out HBR.out Hra.out.1 Hrb.out.1 Hra.out.2.1 Hrb.out.2.1 Hra.out.2.2 Hrb.out.2.2).mono ?_
      rintro e w_NABC ⟨x, f, A2, n2, c2, ok, rfl, hok, hF, hb_NABC⟩
      rw [Hco.out] at hok hF
      have hGl := HN.out.lt
      replace HN := zH (HN.out.below hb_NABC)
      have hB_NABC := Below.next hB_NAB hb_NABC
      have HOK := zH hok
      have HF := zH hF
      have hlo := hB_NAB.size
      have hhi := hb_NABC.size
      clear hok hF HAR HBR
      go_wp2_with fail
      refine ⟨But.of_below hb_NABC, ?_⟩
      unfold wpPlan
      simp only [pickOps, opAt, pkO]
      repeat (go_big_quiet_step (fail))
      refine wpQuiet_nil ?_
      have hzc := HN.out.cell
      obtain ⟨ff1, ff2, ff3⟩ := put3R_free HN.out (.int .i64 x) (.bool f)
      go_wp2_with fail
      refine ⟨(put3R_but w_NABC Wd.heap.size (.int .i64 x) (.bool f) (.slice A2 n2 c2)).wide (fun q hq => by subst hq; exact hGs), ?_⟩
      unfold wpPlan
      simp only [pickOps, opAt, pkO]
      repeat (go_big_quiet_step (fail))
      refine wpQuiet_nil ?_
      go_wp2_with fail
      go_meet
      case rel =>
       refine ⟨Wd.heap.size, ok, x, f, A2, n2, c2, (w_NAB).heap.size, w_NABC.heap.size, rfl, rfl, put3R_blk HN.out, HOK.out, fun h => (HF.out h).keep fun q h1 h2 => ?_, ?_, ?_, ?_⟩
       · exact (put3R_but w_NABC Wd.heap.size (.int .i64 x) (.bool f) (.slice A2 n2 c2)).block q (by first | omega | (simp only [World.size_alloc]; omega)) (by show ¬ q = _; first | omega | (simp only [World.size_alloc] at h1 hGl; omega))
       · have := HWs.out; have := HWd.out; omega
       · have := put3R_size w_NABC Wd.heap.size (.int .i64 x) (.bool f) (.slice A2 n2 c2); show _ ≤ (put3R _ _ _ _ _).heap.size; omega
       · rw [HW.out]; exact put3R_below (base := w.heap.size + 1) (B := Wd.heap.size) (hB_NABC.mono (by have := HWs.out; have := HWd.out; omega)) (by have := HWs.out; have := HWd.out; omega) _ _ _
    -- ORDERS END
   case rest =>
    obtain ⟨G, ok, x, f, A2, n2, c2, lo, hi2, rfl, rfl, hG, hok, hF, hlo, hhi, hb2⟩ := hcut
    have HB2 : Hid (Below w.heap.size w wc) := zH (HB0.out.trans (hb2.mono (by omega)))
    have hb2' : Below (w.alloc (.cells #[.int .i64 i, .int .i64 k] 225)).heap.size (w.alloc (.cells #[.int .i64 i, .int .i64 k] 225)) wc := by rw [World.size_alloc]; exact hb2
    have HS2 := zH (HS.out.below hb2')
    have Hfar0 : Hid (∀ k, (Value.slice A n c).ownBlock = some k → k < lo ∨ hi2 ≤ k) := zH (fun k hk => by have := (own_lt HS.out.parts.own hk).2.1; rw [World.size_alloc] at this; omega)
    have Hfar02 : Hid (∀ m ∈ ms, ∀ k, m.vv.ownBlock = some k → k < lo ∨ hi2 ≤ k) := zH (fun m hm k hk => by have := (own_lt (HS.out.parts.ok m hm).own hk).2.1; rw [World.size_alloc] at this; omega)
    have HX2 := zH (HX0.out.below hb2')
    have HOK := zH hok
    have HF := zH hF
    have HGb := zH hG
    have hws : w.heap.size + 1 ≤ wc.heap.size := by have := hb2'.size; rw [World.size_alloc] at this; exact this
    clear hok hF hG hb2 hb2' hkc HS HX0 HB0
    cases ok
    · go_wp2
      exact bodyPost_ret (v := .tuple #[.int .i64 (-1), .bool false]) (by simp [results, Tryz.results241, go_sem]) rfl ⟨-1, false, rfl, But.of_below HB2.out, fun _ => .inl (fun h => by have := HOK.out.2 h; cases this), fun h => by cases h⟩
    · have hgc := HGb.out.cell
      have Hwi := zH (HOK.out.1 rfl)
      have HF2 := zH (HF.out rfl)
      clear HOK HF
      go_wp2_with fail
      refine (rempty_any x f A2 n2 c2 rr _ HF2.out.s).mono ?_
      rintro e w3 ⟨rfl, hb3⟩
      obtain ⟨nx, Hnx⟩ : ∃ t, Hid (rr.nix = t) := ⟨_, rfl⟩
      rw [Hnx.out]
      have HS3 := zH (HS2.out.below hb3)
      have HX3 := zH (HX2.out.below hb3)
      have HG3 := zH (HGb.out.below hb3)
      have HF3 := zH (HF2.out.keep fun k _ h => hb3.block k (by omega))
      have HB3 := zH (Below.next HB2.out hb3)
      have hws3 := hb3.size
      clear HS2 HX2 HGb HF2 HB2 hb3 hgc
      have hxc := HX3.out.cell
      have hkc := HS3.out.fx.bk.cell
      cases nx
      · have hgc := HG3.out.cell
        have hen := form_enc _ _ HRo.out.1 Hwi.out.2
        have HEN := zH hen
        have hsz64 := Hwi.out.1
        have HBY := zH (encR_byte hen hsz64)
        have Hln := zH (encR_len hen)
        have Hcl := zH (codeR_len HRo.out.1 Hwi.out)
        clear hen
        go_wp2_with fail
        refine (enc_any w3 rr x f A2 n2 c2 none 0 0 [] _ HF3.out.s HEN.out hsz64 (Below.refl _ _) ⟨⟨by simp, .inl ⟨rfl, rfl⟩⟩, rfl⟩ (by omega)).mono ?_
        rintro e w4 ⟨A4, m4, c4, rfl, hO4, hb4, ht4⟩
        have hl4 : 0 < m4 := by have := hO4.2; simp [encR] at this; omega
        obtain ⟨g4, cap4, hv4, _, _⟩ := hO4.1.form hl4
        obtain ⟨rfl, rfl⟩ : A4 = some ⟨g4, 0, none⟩ ∧ c4 = cap4 := by injection hv4 with h1 h2 h3; exact ⟨h1, h3⟩
        have hcv := own_bytes hO4.1 (by simpa using HBY.out) hO4.2
        simp only [List.nil_append] at hcv
        have hcv' : (convert 22 9 (.slice (some ⟨g4, 0, none⟩) m4 c4)).run Tryz.prog w4 = .ok (.string (codeR rr)) w4 := hcv
        have HS4 := zH (HS3.out.below hb4)
        have HX4 := zH (HX3.out.below hb4)
        have HG4 := zH (HG3.out.below hb4)
        have HF4 := zH (HF3.out.keep fun k _ h => hb4.block k (by omega))
        have HB4 := zH (Below.next HB3.out hb4)
        have hws4 := hb4.size
        obtain ⟨cd, Hcd⟩ : ∃ t, Hid (codeR rr = t) := ⟨_, rfl⟩
        have HK2 := zH (HS4.out.k2 rr HRo.out.1 HRo.out.2 Hwi.out)
        have hks : keyOf Tryz.prog 9 (.string cd) = some (.string cd.data.toList) := WideMaps.keyOf_string_mk Tryz.underlying9 (by rw [← Hcd.out]; have := Hcl.out; simp only [maxLen]; omega)
        have HKS := zH hks
        rw [Hcd.out] at hcv' HK2
        clear hks hcv hv4 hO4 hb4 ht4 hgc hxc hkc HS3 HX3 HG3 HF3 HB3 HEN HBY Hln
        have hcc := HS4.out.fx.bc.cell
        by_cases hmem : rr ∈ ms.map PM.r
        · rw [if_pos hmem] at HK2
          have Hmem := zH hmem
          clear hmem
          have hxc := HX4.out.cell
          have hkc := HS4.out.fx.bk.cell
          have hidx : -9223372036854775808 ≤ idxR (ms.map PM.r) rr ∧ idxR (ms.map PM.r) rr < 9223372036854775808 := by
           rcases idxR_spec rr (ms.map PM.r) with ⟨h1, _⟩ | ⟨j, h1, h2⟩
           · omega
           · have h3 := (List.getElem?_eq_some_iff.1 h1).1
             have h4 := sizeL_len (ms.map PM.pr)
             have h5 := HS4.out.size
             rw [List.length_map] at h3 h4
             omega
          obtain ⟨ix, Hix⟩ : ∃ t, Hid (idxR (ms.map PM.r) rr = t) := ⟨_, rfl⟩
          rw [Hix.out] at HK2 hidx
          go_wp2_with (first
           | (at_lookup; refine wpList_map_look (P := Tryz.prog) rfl (by rfl) _ _ _ (by rfl) keyedS Tryz.underlying258 (by rfl) HS4.out.cm cd _ (by rfl) HKS.out ?_; rw [HK2.out])
           | (at_mapUpdate; refine wpList_map_put (P := Tryz.prog) rfl (by rfl) _ _ _ _ (by rfl) keyed2 Tryz.underlying257 (by rfl) HS4.out.km (by omega) (i, k) kl (by rfl) HKL.out ix hidx (by rfl) (kv2_inj (i, k)) ?_; intro w5 hm5 hbu5))
          refine bodyPost_ret (v := .tuple #[.int .i64 ix, .bool true]) (by simp [results, Tryz.results241, go_sem]) rfl ⟨ix, true, rfl, (But.of_below HB4.out).trans (hbu5.wide (fun q hq => .inl hq)), (fun h => by cases h), fun _ => ⟨A, n, c, ms, (fun k' => if k' = (i, k) then some ix else K1 k'), K2, ?_, ?_, Hix.out.symm, .inl rfl⟩⟩
          · exact HS4.out.known hbu5 hm5 ⟨by rw [Hrr.out]; exact Hix.out.symm, .inr (by rw [Hrr.out]; exact Hmem.out)⟩
          · unfold roomP
            rw [prs_r, if_pos (by rw [decide_eq_true Hmem.out, Bool.or_true])]
        · rw [if_neg hmem] at HK2
          have Hmem := zH hmem
          clear hmem
          go_upto_region 13 with (at_lookup; refine wpList_map_look (P := Tryz.prog) rfl (by rfl) _ _ _ (by rfl) keyedS Tryz.underlying258 (by rfl) HS4.out.cm cd _ (by rfl) HKS.out ?_; rw [HK2.out])
          obtain ⟨tt, Htt⟩ : ∃ t, Hid (sizeL (ms.map PM.pr) = t) := ⟨_, rfl⟩
          have htt : tt ≤ 64 := by rw [← Htt.out]; exact HS4.out.size
          have Htot := zH HS4.out.tot
          rw [Htt.out] at Htot
          have qt : ∀ (x : LaterS (fun _ => False) w4.drew) j, (afterS (fun _ => False) w4.drew x).cell? ⟨g.h + 12, j, none⟩ = (#[.int .i64 (tt : Int)] : Array Value)[j]? := fun x j => (Htot.out.drew.but x.but (by simp)).cell j
          have qg : ∀ (y : LaterS (fun _ => False) w4.drew) j, (afterS (fun _ => False) w4.drew y).cell? ⟨G, j, none⟩ = (#[.int .i64 x, .bool f, .slice A2 n2 c2] : Array Value)[j]? := fun y j => (HG4.out.drew.but y.but (by simp)).cell j
          refine wp_region_plan (fun _ => False) (.one [0, 1] 2 (.fin [3, 4] 5)) (by kernel_rfl) (by kernel_rfl) (fun _ _ d _ _ h => by cases d <;> exact h) ?_
          unfold wpPlan
          simp only [pickOps, opAt, pkO]
          repeat (go_big_quiet_step (fail))
          refine wpQuiet_nil ?_
          clear qt qg
          have hbd : Below w4.heap.size w4 w4.drew := (Below.refl _ _).drew
          go_wp2_with fail
          refine (rsize_any rr x f A2 n2 c2 _ (HF4.out.s.keep (keeps_of hbd)) (by omega)).mono ?_
          rintro e w5 ⟨rfl, hb5⟩
          obtain ⟨sz, Hsz⟩ : ∃ t, Hid (rr.size = t) := ⟨_, rfl⟩
          rw [Hsz.out] at hsz64 ⊢
          have hb5' := Below.next hbd hb5
          have HS5 := zH (HS4.out.below hb5')
          have HX5 := zH (HX4.out.below hb5')
          have HG5 := zH (HG4.out.below hb5')
          have HF5 := zH (HF4.out.keep fun k _ h => hb5'.block k (by omega))
          have HB5 := zH (Below.next HB4.out hb5')
          have hws5 := hb5'.size
          have Htot5 := zH (Htot.out.below hb5')
          go_wp2_with fail
          refine ⟨But.of_below hb5, ?_⟩
          clear HS4 HX4 HG4 HF4 HB4 hb5 hb5' hbd Htot hcc
          unfold wpPlan
          simp only [pickOps, opAt, pkO]
          repeat (go_big_quiet_step (fail))
          refine wpQuiet_nil ?_
          have htc := Htot5.out.cell
          have htf := Htot5.out.free
          go_upto_region 14 with fail
          have hbu6 : But (· = g.h + 12) w5 (w5.setCell ⟨g.h + 12, 0, none⟩ (.int .i64 ((tt : Int) + (1 + (sz : Int))))) := But.set (S := fun q => q = g.h + 12) _ (p := ⟨g.h + 12, 0, none⟩) rfl _
          have Htot6 : Hid (Blk (w5.setCell ⟨g.h + 12, 0, none⟩ (.int .i64 ((tt : Int) + (1 + (sz : Int))))) (g.h + 12) 3 #[.int .i64 ((tt : Int) + (1 + (sz : Int)))]) := zH (Htot5.out.set_ 0 _)
          generalize hW6 : w5.setCell ⟨g.h + 12, 0, none⟩ (.int .i64 ((tt : Int) + (1 + (sz : Int)))) = w6 at *
          clear hW6 htc htf Htot5
          have hfx5 := HS5.out.fx.hB
          have HFX6 := zH (HS5.out.fx.but hbu6 (fun q hq => .inr (.inr (.inl hq))))
          have HKM6 := zH (HS5.out.km.but hbu6 (by omega))
          have HCM6 := zH (HS5.out.cm.but hbu6 (by omega))
          have HOU6 := zH (HS5.out.out.but hbu6 (by omega))
          have HPA6 := zH (HS5.out.parts.but hbu6 (fun k hk => by omega))
          have hGne : G ≠ g.h + 12 := fun e => by
           have h1 := HG5.out
           have h2 := HS5.out.tot
           unfold Blk at h1 h2
           rw [e, h2] at h1
           injection h1 with h1
           injection h1 with _ h1
           exact absurd h1 (by decide)
          have HG6 := zH (HG5.out.but hbu6 hGne)
          have HX6 := zH (HX5.out.but hbu6 (by omega))
          have HF6 := zH (HF5.out.keep fun k h1 h => hbu6.block k (by omega) (by omega))
          have HB6 : Hid (But (g.S A n c) w w6) := zH ((But.of_below HB5.out).trans (hbu6.wide (fun q hq => .inr (.inr (.inl hq)))))
          have hws6 := hbu6.size
          have Hgd := zH HS5.out
          clear HS5 HX5 HG5 HF5 HB5 hbu6 hGne
          have htc := Htot6.out.cell
          by_cases h64 : 64 < tt + (1 + sz)
          · have g1 : decide (64 < (tt : Int) + (1 + (sz : Int))) = true := by simp; omega
            have H64 := zH h64
            clear h64
            go_wp2
            refine bodyPost_ret (v := .tuple #[.int .i64 (-1), .bool false]) (by simp [results, Tryz.results241, go_sem]) rfl ⟨-1, false, rfl, HB6.out, fun _ => .inr ⟨Hnx.out, Hmem.out, ?_⟩, fun h => by cases h⟩
            rw [Htt.out, Hsz.out]
            exact H64.out
          · have g1 : decide (64 < (tt : Int) + (1 + (sz : Int))) = false := by simp; omega
            have hbp := HFX6.out.bp.cell
            have hou := HOU6.out.cell
            have hcc := HFX6.out.bc.cell
            have hn64 : n ≤ 64 := by
             have h1 := HPA6.out.len
             have h2 := sizeL_len (ms.map PM.pr)
             rw [List.length_map, Htt.out] at h2
             omega
            go_upto_region 18 with (at_mapUpdate; refine wpList_map_put (P := Tryz.prog) rfl (by rfl) _ _ _ _ (by rfl) keyedS Tryz.underlying258 (by rfl) HCM6.out (by omega) cd _ (by rfl) HKS.out (n : Int) (by omega) (by rfl) (fun k' h => by injection h) ?_; intro w7 hm7 hbu7)
            have hfx6 := HFX6.out.hB
            have HFX7 := zH (HFX6.out.but hbu7 (fun q hq => .inr (.inl hq)))
            have HKM7 := zH (HKM6.out.but hbu7 (by omega))
            have HCM7 := zH hm7
            have HTO7 := zH (Htot6.out.but hbu7 (by omega))
            have HOU7 := zH (HOU6.out.but hbu7 (by omega))
            have HPA7 := zH (HPA6.out.but hbu7 (fun k hk => by omega))
            have HG7 := zH (HG6.out.but hbu7 (map_ne HCM6.out HG6.out))
            have HX7 := zH (HX6.out.but hbu7 (by omega))
            have HF7 := zH (HF6.out.keep fun k h1 h => hbu7.block k (by omega) (by omega))
            have HB7 : Hid (But (g.S A n c) w w7) := zH (HB6.out.trans (hbu7.wide (fun q hq => .inr (.inl hq))))
            have hws7 := hbu7.size
            clear HFX6 HKM6 HCM6 Htot6 HOU6 HPA6 HG6 HX6 HF6 HB6 hm7 hbu7 hbp hou hcc htc hcv'
            go_frame
            go_cut [71] (fun s w8 => ∃ bb : Bool, s = .bool bb ∧ Below w7.heap.size w7 w8)
            case first =>
             refine wp_region_plan (fun q => w7.heap.size ≤ q) (.one [] 0 (.two [] 1 (.one [] 2 (.one [] 3 (.last []))) 2 (.one [] 1 (.one [] 3 (.last []))))) (by kernel_rfl) (by kernel_rfl) (fun _ _ d _ _ h => by cases d <;> exact h) ?_
             unfold wpPlan
             simp only [pickOps, opAt, pkO]
             refine wpQuiet_nil ?_
             have hbd : Below w7.heap.size w7 w7.drew := (Below.refl _ _).drew
             generalize hWd : w7.drew = Wd at *
             clear hWd
             go_wp2_with fail
             refine ⟨But.alloc _ _, ?_⟩
             have HN := zH (Blk.new Wd 4 #[.bool false])
             have hbN := hbd.alloc hbd.size (.cells #[.bool false] 4)
             have hNs := hbd.size
             generalize hWn : Wd.alloc (.cells #[.bool false] 4) = Wn at *
             clear hWn
             unfold wpPlan
             simp only [pickOps, opAt, pkO]
             refine wpQuiet_nil ⟨?_, ?_⟩
             · have hc1 := HN.out.cell
               have hf1 := HN.out.free
               go_wp2_with fail
               refine ⟨But.set (S := fun q => w7.heap.size ≤ q) _ (p := ⟨Wd.heap.size, 0, none⟩) hNs _, ?_⟩
               have HN2 : Hid (Blk (Wn.setCell ⟨Wd.heap.size, 0, none⟩ (.bool true)) Wd.heap.size 4 #[.bool true]) := zH (HN.out.set_ 0 _)
               have hb2 := hbN.setCell (p := ⟨Wd.heap.size, 0, none⟩) hNs (.bool true)
               generalize hW2 : Wn.setCell ⟨Wd.heap.size, 0, none⟩ (.bool true) = W2 at *
               clear hW2 hc1 hf1
               unfold wpPlan
               simp only [pickOps, opAt, pkO]
               refine wpQuiet_nil ?_
               have hc1 := HN2.out.cell
               have hf1 := HN2.out.free
               go_wp2_with fail
               refine ⟨But.set (S := fun q => w7.heap.size ≤ q) _ (p := ⟨Wd.heap.size, 0, none⟩) hNs _, ?_⟩
               have HN3 : Hid (Blk (W2.setCell ⟨Wd.heap.size, 0, none⟩ (.bool false)) Wd.heap.size 4 #[.bool false]) := zH (HN2.out.set_ 0 _)
               have hb3 := hb2.setCell (p := ⟨Wd.heap.size, 0, none⟩) hNs (.bool false)
               generalize hW3 : W2.setCell ⟨Wd.heap.size, 0, none⟩ (.bool false) = W3 at *
               clear hW3 hc1 hf1
               unfold wpPlan
               simp only [pickOps, opAt, pkO]
               refine wpQuiet_nil ?_
               have hc1 := HN3.out.cell
               go_wp2_with fail
               refine ⟨But.refl _ _, ?_⟩
               unfold wpPlan
               simp only [pickOps, pkO]
               refine wpQuiet_nil ?_
               go_wp2_with fail
               go_meet
               case rel => exact ⟨false, rfl, hb3⟩
             · have hc1 := HN.out.cell
               have hf1 := HN.out.free
               go_wp2_with fail
               refine ⟨But.set (S := fun q => w7.heap.size ≤ q) _ (p := ⟨Wd.heap.size, 0, none⟩) hNs _, ?_⟩
               have HN2 : Hid (Blk (Wn.setCell ⟨Wd.heap.size, 0, none⟩ (.bool false)) Wd.heap.size 4 #[.bool false]) := zH (HN.out.set_ 0 _)
               have hb2 := hbN.setCell (p := ⟨Wd.heap.size, 0, none⟩) hNs (.bool false)
               generalize hW2 : Wn.setCell ⟨Wd.heap.size, 0, none⟩ (.bool false) = W2 at *
               clear hW2 hc1 hf1
               unfold wpPlan
               simp only [pickOps, opAt, pkO]
               refine wpQuiet_nil ?_
               have hc1 := HN2.out.cell
               have hf1 := HN2.out.free
               go_wp2_with fail
               refine ⟨But.set (S := fun q => w7.heap.size ≤ q) _ (p := ⟨Wd.heap.size, 0, none⟩) hNs _, ?_⟩
               have HN3 : Hid (Blk (W2.setCell ⟨Wd.heap.size, 0, none⟩ (.bool true)) Wd.heap.size 4 #[.bool true]) := zH (HN2.out.set_ 0 _)
               have hb3 := hb2.setCell (p := ⟨Wd.heap.size, 0, none⟩) hNs (.bool true)
               generalize hW3 : W2.setCell ⟨Wd.heap.size, 0, none⟩ (.bool true) = W3 at *
               clear hW3 hc1 hf1
               unfold wpPlan
               simp only [pickOps, opAt, pkO]
               refine wpQuiet_nil ?_
               have hc1 := HN3.out.cell
               go_wp2_with fail
               refine ⟨But.refl _ _, ?_⟩
               unfold wpPlan
               simp only [pickOps, pkO]
               refine wpQuiet_nil ?_
               go_wp2_with fail
               go_meet
               case rel => exact ⟨true, rfl, hb3⟩
            case rest =>
             obtain ⟨bb, rfl, hb8⟩ := hcut
             have HFX8 := zH (HFX7.out.below hb8)
             have HKM8 := zH (HKM7.out.below hb8)
             have HCM8 := zH (HCM7.out.below hb8)
             have HTO8 := zH (HTO7.out.below hb8)
             have HOU8 := zH (HOU7.out.below hb8)
             have HPA8 := zH (HPA7.out.below hb8)
             have HG8 := zH (HG7.out.below hb8)
             have HX8 := zH (HX7.out.below hb8)
             have HF8 := zH (HF7.out.keep fun k h1 h => hb8.block k (by omega))
             have HB8 : Hid (But (g.S A n c) w wc) := zH (HB7.out.trans (But.of_below hb8))
             have hws8 := hb8.size
             clear HFX7 HKM7 HCM7 HTO7 HOU7 HPA7 HG7 HX7 HF7 HB7 hb8
             have hfx8 := HFX8.out.hB
             have hSn : ∀ q, q < g.B → ¬ (Value.slice A n c).ownBlock = some q := fun q hq hs => by have := (own_lt HPA8.out.own hs).1; omega
             have hSm : ∀ q, q < g.B → q ≠ g.h + 3 → ¬ ((Value.slice A n c).ownBlock = some q ∨ q = g.h + 3) := fun q hq hn hs => by
              rcases hs with hs | hs
              · exact hSn q hq hs
              · exact hn hs
             have hSG : ¬ (Value.slice A n c).ownBlock = some G := fun hs => by
              obtain ⟨_, _, cs, h1⟩ := own_lt HPA8.out.own hs
              have h2 := HG8.out
              unfold Blk at h2
              rw [h1] at h2
              injection h2 with h2
              injection h2 with _ h2
              exact absurd h2 (by decide)
             have hSx : ¬ ((Value.slice A n c).ownBlock = some w.heap.size ∨ w.heap.size = g.h + 3) := fun hs => by
              rcases hs with hs | hs
              · obtain ⟨_, _, cs, h1⟩ := own_lt HPA8.out.own hs
                have h2 := HX8.out
                unfold Blk at h2
                rw [h1] at h2
                injection h2 with h2
                injection h2 with _ h2
                exact absurd h2 (by decide)
              · omega
             have HOW : Hid (wc.drew.ownsRow g.B 141 4 (.slice A n c) n (ms.flatMap PM.cs)) := zH HPA8.out.own
             have hbWd : But (fun q => (Value.slice A n c).ownBlock = some q) wc wc.drew := (But.refl _ _).drew
             have hdz : wc.drew.heap.size = wc.heap.size := rfl
             have q6 : ∀ (y : LaterS (fun q => (Value.slice A n c).ownBlock = some q) wc.drew) j, (afterS (fun q => (Value.slice A n c).ownBlock = some q) wc.drew y).cell? ⟨g.h + 6, j, none⟩ = (#[.pointer (some ⟨g.h + 3, 0, none⟩)] : Array Value)[j]? := fun y j => (HFX8.out.bp.drew.but y.but (hSn _ (by omega))).cell j
             have q3 : ∀ (y : LaterS (fun q => (Value.slice A n c).ownBlock = some q) wc.drew) j, (afterS (fun q => (Value.slice A n c).ownBlock = some q) wc.drew y).cell? ⟨g.h + 3, j, none⟩ = (#[.int .i64 ((g.N + 1 : Nat) : Int), .bool false, .slice A n c] : Array Value)[j]? := fun y j => (HOU8.out.drew.but y.but (hSn _ (by omega))).cell j
             have qG : ∀ (y : LaterS (fun q => (Value.slice A n c).ownBlock = some q) wc.drew) j, (afterS (fun q => (Value.slice A n c).ownBlock = some q) wc.drew y).cell? ⟨G, j, none⟩ = (#[.int .i64 x, .bool f, .slice A2 n2 c2] : Array Value)[j]? := fun y j => (HG8.out.drew.but y.but hSG).cell j
             have Hfar : Hid (∀ k, (Value.slice A n c).ownBlock = some k → k < lo ∨ hi2 ≤ k) := Hfar0
             have Hfar2 : Hid (∀ m ∈ ms, ∀ k, m.vv.ownBlock = some k → k < lo ∨ hi2 ≤ k) := Hfar02
             obtain ⟨i0, hi0, hz0, hz1, hz2⟩ := info_parts info_pt
             have HDZ := zH hdz
             clear hdz
             cases bb
             · skip
               go_upto_region 21 with fail
               refine wp_region_plan (fun q => (Value.slice A n c).ownBlock = some q) (.one [0, 1, 2, 3, 4, 5, 6] 7 (.one [] 8 (.one [] 9 (.fin [10] 11)))) (by kernel_rfl) (by kernel_rfl) (fun _ _ d _ _ h => by cases d <;> exact h) ?_
               generalize hWd : wc.drew = Wd at *
               clear hWd
               unfold wpPlan
               simp only [pickOps, opAt, pkO]
               repeat (go_big_quiet_step (fail))
               refine wpQuiet_nil ?_
               go_wp2_with fail
               refine ⟨But.alloc _ _, ?_⟩
               unfold wpPlan
               simp only [pickOps, opAt, pkO]
               refine wpQuiet_nil ?_
               go_wp2_with (at_builtin; refine wpList_append_one2 (by rfl) (.tmp 88) (.tmp 91) _ (by rfl) g.B 141 i0 _ 4 64 Tryz.underlying69 hi0 hz0 hz1 hz2 (by rfl) (by omega) (.slice A n c) n _ (by rfl) Wd #[.slice none 0 0, .int .i64 x, .bool f, .slice A2 n2 c2] HOW.out Wd.heap.size (by rfl) (by rfl) (by rfl) (one_pm (PM.mk none 0 0 [] x f A2 n2 c2 rr lo hi2)) (by simp only [maxLen]; omega) (by omega) (by have := HDZ.out; omega) ?_; intro g9 cap9 w9 hown9 hg9 hB9 hat9 hlt9)
               refine ⟨But.of_grown hg9 (fun k hk => hk), ?_⟩
               have hbu9 : But (fun q => (Value.slice A n c).ownBlock = some q) wc w9 := (hbWd.trans (But.alloc _ _)).trans (But.of_grown hg9 (fun k hk => hk))
               have HOU9 := zH (HOU8.out.but hbu9 (hSn _ (by omega)))
               have HFX9 := zH (HFX8.out.but hbu9 (fun q hq => .inr (.inr (.inr (.inr (own_lt HPA8.out.own hq).1)))))
               have HOWN9 := zH hown9
               have HAT9 := zH hat9
               have HB9 := zH hbu9
               have hs9 := hbu9.size
               clear hg9 hB9 hat9 hown9 hbu9 q6 q3 qG
               unfold wpPlan
               simp only [pickOps, opAt, pkO]
               refine wpQuiet_nil ?_
               go_wp2_with fail
               refine ⟨But.refl _ _, ?_⟩
               unfold wpPlan
               simp only [pickOps, opAt, pkO]
               have hoc := HOU9.out.cell
               have hof := HOU9.out.free
               repeat (go_big_quiet_step (fail))
               refine wpQuiet_nil ?_
               go_upto_region 22 with fail
               have hbu10 : But (· = g.h + 3) w9 (w9.setCell ⟨g.h + 3, 2, none⟩ (.slice (some ⟨g9, 0, none⟩) (n + 1) cap9)) := But.set (S := fun q => q = g.h + 3) _ (p := ⟨g.h + 3, 2, none⟩) rfl _
               have HOU10 : Hid (Blk (w9.setCell ⟨g.h + 3, 2, none⟩ (.slice (some ⟨g9, 0, none⟩) (n + 1) cap9)) (g.h + 3) 71 #[.int .i64 ((g.N + 1 : Nat) : Int), .bool false, .slice (some ⟨g9, 0, none⟩) (n + 1) cap9]) := zH (HOU9.out.set_ 2 _)
               generalize hW10 : w9.setCell ⟨g.h + 3, 2, none⟩ (.slice (some ⟨g9, 0, none⟩) (n + 1) cap9) = w10 at *
               clear hW10 hoc hof
               have hfx9 := HFX9.out.hB
               have HFX10 := zH (HFX9.out.but hbu10 (fun q hq => .inr (.inr (.inr (.inl hq)))))
               have HOWN10 := zH (own_but HOWN9.out hbu10 (fun k hk hs => by have := (own_lt HOWN9.out hk).1; omega))
               have HB10 : Hid (But (fun q => (Value.slice A n c).ownBlock = some q ∨ q = g.h + 3) wc w10) := zH ((HB9.out.wide (fun q hq => .inl hq)).trans (hbu10.wide (fun q hq => .inr hq)))
               have hs10 := hbu10.size
               clear HOU9 HFX9 HOWN9 HB9 hbu10
               have HDZ' := HDZ.out
               have HOWNz : Hid (w10.ownsRow g.B 141 4 (.slice (some ⟨g9, 0, none⟩) (n + 1) cap9) (n + 1) ((ms ++ [PM.mk none 0 0 [] x f A2 n2 c2 rr lo hi2]).flatMap PM.cs)) := by
                refine zH ?_
                rw [List.flatMap_append]
                simpa [PM.cs] using HOWN10.out
               have HGS : Hid (GS g w10 (some ⟨g9, 0, none⟩) (n + 1) cap9 (ms ++ [PM.mk none 0 0 [] x f A2 n2 c2 rr lo hi2]) nk K1 (fun k' => if k' = codeR rr then some (n : Int) else K2 k')) := by
                refine zH (Hgd.out.added (m := PM.mk none 0 0 [] x f A2 n2 c2 rr lo hi2) rfl HRo.out.1 HRo.out.2 Hwi.out Hnx.out Hmem.out (by rw [Htt.out, Hsz.out]; omega) HFX10.out (HKM8.out.but HB10.out (hSm _ (by omega) (by omega))) ?_ ?_ HOU10.out ?_)
                · have := HCM8.out.but HB10.out (hSm _ (by omega) (by omega))
                  rw [← Hcd.out] at this
                  exact this
                · have := HTO8.out.but HB10.out (hSm _ (by omega) (by omega))
                  rw [Htt.out, Hsz.out]
                  simpa using this
                · refine HPA8.out.add HOWNz.out (HB10.out.wide (fun q hq => ?_)) (fun k hk => ?_) HF8.out (by omega) (by omega) (fun k hk1 hk2 => ?_)
                  · rcases hq with hq | hq
                    · exact .inl hq
                    · exact .inr (by omega)
                  · simp only [Value.ownBlock, Option.some.injEq] at hk
                    subst hk
                    rcases HAT9.out with e | e
                    · exact .inl e
                    · exact .inr (by omega)
                  · exact ⟨fun h => by have := Hfar.out _ h; omega, fun m hm h => by have := Hfar2.out m hm _ h; omega⟩
               have hxc := (HX8.out.but HB10.out hSx).cell
               have hkc := HFX10.out.bk.cell
               go_wp2_with (at_mapUpdate; refine wpList_map_put (P := Tryz.prog) rfl (by rfl) _ _ _ _ (by rfl) keyed2 Tryz.underlying257 (by rfl) HGS.out.km (by omega) (i, k) kl (by rfl) HKL.out (n : Int) (by omega) (by rfl) (kv2_inj (i, k)) ?_; intro w12 hm12 hbu12)
               have Hix : Hid ((n : Int) = idxR ((ms ++ [PM.mk none 0 0 [] x f A2 n2 c2 rr lo hi2]).map PM.r) rr) := by
                show _ = _
                rw [List.map_append, List.map_cons, List.map_nil, idxR_last Hmem.out, List.length_map, HPA8.out.len]
               refine bodyPost_ret (v := .tuple #[.int .i64 (n : Int), .bool true]) (by simp [results, Tryz.results241, go_sem]) rfl ⟨n, true, rfl, ?_, (fun h => by cases h), fun _ => ⟨some ⟨g9, 0, none⟩, n + 1, cap9, ms ++ [PM.mk none 0 0 [] x f A2 n2 c2 rr lo hi2], (fun k' => if k' = (i, k) then some (n : Int) else K1 k'), (fun k' => if k' = codeR rr then some (n : Int) else K2 k'), ?_, ?_, Hix.out, ?_⟩⟩
               · refine (HB8.out.trans (HB10.out.wide (fun q hq => ?_))).trans (hbu12.wide (fun q hq => .inl hq))
                 rcases hq with hq | hq
                 · exact .inr (.inr (.inr (.inr hq)))
                 · exact .inr (.inr (.inr (.inl hq)))
               · exact HGS.out.known hbu12 hm12 ⟨by rw [Hrr.out]; exact Hix.out, .inr (by rw [Hrr.out]; simp)⟩
               · rw [List.map_append, List.map_cons, List.map_nil]
                 unfold roomP
                 rw [prs_r, if_neg (by simp [Hnx.out]; exact fun m hm => fun e => Hmem.out (List.mem_map.2 ⟨m, hm, e⟩))]
                 rfl
               · rcases HAT9.out with e | e
                 · exact .inl e.symm
                 · exact .inr ⟨g9, rfl, by omega⟩
             · skip
               go_upto_region 19 with fail
               refine wp_region_plan (fun q => (Value.slice A n c).ownBlock = some q) (.one [0, 1, 2, 3, 4, 5, 6] 7 (.one [] 8 (.one [] 9 (.fin [10] 11)))) (by kernel_rfl) (by kernel_rfl) (fun _ _ d _ _ h => by cases d <;> exact h) ?_
               generalize hWd : wc.drew = Wd at *
               clear hWd
               unfold wpPlan
               simp only [pickOps, opAt, pkO]
               repeat (go_big_quiet_step (fail))
               refine wpQuiet_nil ?_
               go_wp2_with fail
               refine ⟨But.alloc _ _, ?_⟩
               unfold wpPlan
               simp only [pickOps, opAt, pkO]
               refine wpQuiet_nil ?_
               go_wp2_with (at_builtin; refine wpList_append_one2 (by rfl) (.tmp 75) (.tmp 79) _ (by rfl) g.B 141 i0 _ 4 64 Tryz.underlying69 hi0 hz0 hz1 hz2 (by rfl) (by omega) (.slice A n c) n _ (by rfl) Wd #[.slice none 0 0, .int .i64 0, .bool false, .slice none 0 0] HOW.out Wd.heap.size (by rfl) (by rfl) (by rfl) (one_pm (PM.mk none 0 0 [] 0 false none 0 0 rr lo hi2)) (by simp only [maxLen]; omega) (by omega) (by have := HDZ.out; omega) ?_; intro g9 cap9 w9 hown9 hg9 hB9 hat9 hlt9)
               refine ⟨But.of_grown hg9 (fun k hk => hk), ?_⟩
               have hbu9 : But (fun q => (Value.slice A n c).ownBlock = some q) wc w9 := (hbWd.trans (But.alloc _ _)).trans (But.of_grown hg9 (fun k hk => hk))
               have HOU9 := zH (HOU8.out.but hbu9 (hSn _ (by omega)))
               have HFX9 := zH (HFX8.out.but hbu9 (fun q hq => .inr (.inr (.inr (.inr (own_lt HPA8.out.own hq).1)))))
               have HOWN9 := zH hown9
               have HAT9 := zH hat9
               have HB9 := zH hbu9
               have hs9 := hbu9.size
               clear hg9 hB9 hat9 hown9 hbu9 q6 q3 qG
               unfold wpPlan
               simp only [pickOps, opAt, pkO]
               refine wpQuiet_nil ?_
               go_wp2_with fail
               refine ⟨But.refl _ _, ?_⟩
               unfold wpPlan
               simp only [pickOps, opAt, pkO]
               have hoc := HOU9.out.cell
               have hof := HOU9.out.free
               repeat (go_big_quiet_step (fail))
               refine wpQuiet_nil ?_
               go_upto_region 20 with fail
               have hbu10 : But (· = g.h + 3) w9 (w9.setCell ⟨g.h + 3, 2, none⟩ (.slice (some ⟨g9, 0, none⟩) (n + 1) cap9)) := But.set (S := fun q => q = g.h + 3) _ (p := ⟨g.h + 3, 2, none⟩) rfl _
               have HOU10 : Hid (Blk (w9.setCell ⟨g.h + 3, 2, none⟩ (.slice (some ⟨g9, 0, none⟩) (n + 1) cap9)) (g.h + 3) 71 #[.int .i64 ((g.N + 1 : Nat) : Int), .bool false, .slice (some ⟨g9, 0, none⟩) (n + 1) cap9]) := zH (HOU9.out.set_ 2 _)
               generalize hW10 : w9.setCell ⟨g.h + 3, 2, none⟩ (.slice (some ⟨g9, 0, none⟩) (n + 1) cap9) = w10 at *
               clear hW10 hoc hof
               have hfx9 := HFX9.out.hB
               have HFX10 := zH (HFX9.out.but hbu10 (fun q hq => .inr (.inr (.inr (.inl hq)))))
               have HOWN10 := zH (own_but HOWN9.out hbu10 (fun k hk hs => by have := (own_lt HOWN9.out hk).1; omega))
               have HB10 : Hid (But (fun q => (Value.slice A n c).ownBlock = some q ∨ q = g.h + 3) wc w10) := zH ((HB9.out.wide (fun q hq => .inl hq)).trans (hbu10.wide (fun q hq => .inr hq)))
               have hs10 := hbu10.size
               clear HOU9 HFX9 HOWN9 HB9 hbu10
               have HDZ' := HDZ.out
               have HOWNy : Hid (w10.ownsRow g.B 141 4 (.slice (some ⟨g9, 0, none⟩) (n + 1) cap9) (n + 1) ((ms ++ [PM.mk none 0 0 [] 0 false none 0 0 rr lo hi2]).flatMap PM.cs)) := by
                refine zH ?_
                rw [List.flatMap_append]
                simpa [PM.cs] using HOWN10.out
               have hge : (ms ++ [PM.mk none 0 0 [] 0 false none 0 0 rr lo hi2])[n]? = some (PM.mk none 0 0 [] 0 false none 0 0 rr lo hi2) := by rw [← HPA8.out.len]; simp
               obtain ⟨b6, o6, hA6, hc6⟩ := (Sl.of_own PM.cs_len (by simp [HPA8.out.len]) HOWNy.out).2 (Nat.succ_pos n)
               obtain ⟨rfl, rfl⟩ : g9 = b6 ∧ 0 = o6 := by injection hA6 with h; injection h with h1 h2; exact ⟨h1, h2⟩
               have y0 := hc6 n _ hge 0 (.slice none 0 0) rfl
               have y1 := hc6 n _ hge 1 (.int .i64 0) rfl
               have y2 := hc6 n _ hge 2 (.bool false) rfl
               have y3 := hc6 n _ hge 3 (.slice none 0 0) rfl
               simp only [Nat.zero_add, Nat.add_zero] at y0 y1 y2 y3
               have hfz := fun q => HOWNy.out.frozenAt q
               have HO4 := zH ((((HOWNy.out.stored (n * 4) (.slice none 0 0)).1.stored (n * 4 + 1) (.int .i64 x)).1.stored (n * 4 + 2) (.bool f)).1.stored (n * 4 + 3) (.slice A2 n2 c2)).1
               have Hge := zH hge
               clear hge hc6 hA6
               go_upto_region 22 with fail
               have hbz : But (fun q => q = g9) w10 ((((w10.setCell ⟨g9, n * 4, none⟩ (.slice none 0 0)).setCell ⟨g9, n * 4 + 1, none⟩ (.int .i64 x)).setCell ⟨g9, n * 4 + 2, none⟩ (.bool f)).setCell ⟨g9, n * 4 + 3, none⟩ (.slice A2 n2 c2)) :=
                (((But.set (S := fun q => q = g9) _ (p := ⟨g9, n * 4, none⟩) rfl _).trans (But.set (S := fun q => q = g9) _ (p := ⟨g9, n * 4 + 1, none⟩) rfl _)).trans (But.set (S := fun q => q = g9) _ (p := ⟨g9, n * 4 + 2, none⟩) rfl _)).trans (But.set (S := fun q => q = g9) _ (p := ⟨g9, n * 4 + 3, none⟩) rfl _)
               generalize hwz : (((w10.setCell ⟨g9, n * 4, none⟩ (.slice none 0 0)).setCell ⟨g9, n * 4 + 1, none⟩ (.int .i64 x)).setCell ⟨g9, n * 4 + 2, none⟩ (.bool f)).setCell ⟨g9, n * 4 + 3, none⟩ (.slice A2 n2 c2) = wz at *
               clear hwz y0 y1 y2 y3 hfz
               have hg9B : g.B ≤ g9 := (own_lt HOWN10.out (k := g9) rfl).1
               have hszz := hbz.size
               have HFXz := zH (HFX10.out.but hbz (fun q hq => .inr (.inr (.inr (.inr (by omega))))))
               have HOUz := zH (HOU10.out.but hbz (by omega))
               have HBz : Hid (But (fun q => (Value.slice A n c).ownBlock = some q ∨ q = g.h + 3) wc wz) := by
                refine zH ⟨hbz.os.trans HB10.out.os, hbz.tape.trans HB10.out.tape, hbz.output.trans HB10.out.output, Nat.le_trans HB10.out.size hbz.size, fun k hk hs => ?_⟩
                rw [hbz.block k (Nat.lt_of_lt_of_le hk HB10.out.size) (fun e => ?_), HB10.out.block k hk hs]
                rcases HAT9.out with h | h
                · exact hs (.inl (by rw [e]; exact h))
                · omega
               have HOWNz : Hid (wz.ownsRow g.B 141 4 (.slice (some ⟨g9, 0, none⟩) (n + 1) cap9) (n + 1) ((ms ++ [PM.mk none 0 0 [] x f A2 n2 c2 rr lo hi2]).flatMap PM.cs)) := by
                refine zH ?_
                have h1 := HO4.out
                have hl : (ms.flatMap PM.cs).length = n * 4 := by rw [flat_len PM.cs_len, HPA8.out.len]
                rw [List.flatMap_append, ← hl] at h1
                rw [List.flatMap_append]
                have e : ∀ (i : Nat) (u : Value) (ys : List Value), (ms.flatMap PM.cs ++ ys).set ((ms.flatMap PM.cs).length + i) u = ms.flatMap PM.cs ++ ys.set i u := fun i u ys => by
                 rw [List.set_append_right _ _ (Nat.le_add_right _ _), Nat.add_sub_cancel_left]
                have e0 : ∀ (u : Value) (ys : List Value), (ms.flatMap PM.cs ++ ys).set ((ms.flatMap PM.cs).length) u = ms.flatMap PM.cs ++ ys.set 0 u := fun u ys => e 0 u ys
                rw [e0, e, e, e] at h1
                exact h1
               have HGS : Hid (GS g wz (some ⟨g9, 0, none⟩) (n + 1) cap9 (ms ++ [PM.mk none 0 0 [] x f A2 n2 c2 rr lo hi2]) nk K1 (fun k' => if k' = codeR rr then some (n : Int) else K2 k')) := by
                refine zH (Hgd.out.added (m := PM.mk none 0 0 [] x f A2 n2 c2 rr lo hi2) rfl HRo.out.1 HRo.out.2 Hwi.out Hnx.out Hmem.out (by rw [Htt.out, Hsz.out]; omega) HFXz.out (HKM8.out.but HBz.out (hSm _ (by omega) (by omega))) ?_ ?_ HOUz.out ?_)
                · have := HCM8.out.but HBz.out (hSm _ (by omega) (by omega))
                  rw [← Hcd.out] at this
                  exact this
                · have := HTO8.out.but HBz.out (hSm _ (by omega) (by omega))
                  rw [Htt.out, Hsz.out]
                  simpa using this
                · refine HPA8.out.add HOWNz.out (HBz.out.wide (fun q hq => ?_)) (fun k hk => ?_) HF8.out (by omega) (by omega) (fun k hk1 hk2 => ?_)
                  · rcases hq with hq | hq
                    · exact .inl hq
                    · exact .inr (by omega)
                  · simp only [Value.ownBlock, Option.some.injEq] at hk
                    subst hk
                    rcases HAT9.out with e | e
                    · exact .inl e
                    · exact .inr (by omega)
                  · exact ⟨fun h => by have := Hfar.out _ h; omega, fun m hm h => by have := Hfar2.out m hm _ h; omega⟩
               have hxc := (HX8.out.but HBz.out hSx).cell
               have hkc := HFXz.out.bk.cell
               go_wp2_with (at_mapUpdate; refine wpList_map_put (P := Tryz.prog) rfl (by rfl) _ _ _ _ (by rfl) keyed2 Tryz.underlying257 (by rfl) HGS.out.km (by omega) (i, k) kl (by rfl) HKL.out (n : Int) (by omega) (by rfl) (kv2_inj (i, k)) ?_; intro w12 hm12 hbu12)
               have Hix : Hid ((n : Int) = idxR ((ms ++ [PM.mk none 0 0 [] x f A2 n2 c2 rr lo hi2]).map PM.r) rr) := by
                show _ = _
                rw [List.map_append, List.map_cons, List.map_nil, idxR_last Hmem.out, List.length_map, HPA8.out.len]
               refine bodyPost_ret (v := .tuple #[.int .i64 (n : Int), .bool true]) (by simp [results, Tryz.results241, go_sem]) rfl ⟨n, true, rfl, ?_, (fun h => by cases h), fun _ => ⟨some ⟨g9, 0, none⟩, n + 1, cap9, ms ++ [PM.mk none 0 0 [] x f A2 n2 c2 rr lo hi2], (fun k' => if k' = (i, k) then some (n : Int) else K1 k'), (fun k' => if k' = codeR rr then some (n : Int) else K2 k'), ?_, ?_, Hix.out, ?_⟩⟩
               · refine (HB8.out.trans (HBz.out.wide (fun q hq => ?_))).trans (hbu12.wide (fun q hq => .inl hq))
                 rcases hq with hq | hq
                 · exact .inr (.inr (.inr (.inr hq)))
                 · exact .inr (.inr (.inr (.inl hq)))
               · exact HGS.out.known hbu12 hm12 ⟨by rw [Hrr.out]; exact Hix.out, .inr (by rw [Hrr.out]; simp)⟩
               · rw [List.map_append, List.map_cons, List.map_nil]
                 unfold roomP
                 rw [prs_r, if_neg (by simp [Hnx.out]; exact fun m hm => fun e => Hmem.out (List.mem_map.2 ⟨m, hm, e⟩))]
                 rfl
               · rcases HAT9.out with e | e
                 · exact .inl e.symm
                 · exact .inr ⟨g9, rfl, by omega⟩
      · go_wp2_with (at_mapUpdate; refine wpList_map_put (P := Tryz.prog) rfl (by rfl) _ _ _ _ (by rfl) keyed2 Tryz.underlying257 (by rfl) HS3.out.km (by omega) (i, k) kl (by rfl) HKL.out (-1) (by omega) (by rfl) (kv2_inj (i, k)) ?_; intro w4 hm4 hbu4)
        refine bodyPost_ret (v := .tuple #[.int .i64 (-1), .bool true]) (by simp [results, Tryz.results241, go_sem]) rfl ⟨-1, true, rfl, (But.of_below HB3.out).trans (hbu4.wide (fun q hq => .inl hq)), (fun h => by cases h), fun _ => ⟨A, n, c, ms, (fun k' => if k' = (i, k) then some (-1) else K1 k'), K2, ?_, ?_, ?_, .inl rfl⟩⟩
        · refine HS3.out.known hbu4 hm4 ⟨?_, .inl (by rw [Hrr.out]; exact Hnx.out)⟩
          rw [Hrr.out]
          rcases idxR_spec rr (ms.map PM.r) with ⟨h1, _⟩ | ⟨j, h1, _⟩
          · exact h1.symm
          · obtain ⟨m, hm, he⟩ := List.mem_map.1 (List.mem_of_getElem? h1)
            have := (HS3.out.good m hm).2.2.2
            rw [he, Hnx.out] at this
            cases this
        · simp [roomP, Hnx.out]
        · rcases idxR_spec rr (ms.map PM.r) with ⟨h1, _⟩ | ⟨j, h1, _⟩
          · exact h1.symm
          · obtain ⟨m, hm, he⟩ := List.mem_map.1 (List.mem_of_getElem? h1)
            have := (HS3.out.good m hm).2.2.2
            rw [he, Hnx.out] at this
            cases this
end Go.Proofs.YtnnmlhmffnfjfaaGreat
