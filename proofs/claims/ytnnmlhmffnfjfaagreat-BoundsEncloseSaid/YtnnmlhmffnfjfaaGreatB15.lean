/-
  Texts: Comb.
-/
import Derived.Test.YtnnmlhmffnfjfaaGreatB14
set_option linter.unusedVariables false
set_option maxRecDepth 100000
namespace Go.Proofs.YtnnmlhmffnfjfaaGreat
open Go.RowKit
open Rg
theorem row_of_cell {w : World} {b i : Nat} {v : Value} (h : w.cell? ⟨b, i, none⟩ = some v) : ∃ cs e fz, w.heap[b]? = some (.cells cs e fz) := by
 unfold World.cell? at h
 split at h
 · rename_i cs e fz hh
   exact ⟨_, _, _, hh⟩
 all_goals (simp at h)
theorem ev_far {w : World} {A : Option Addr} {n : Nat} {qs : List Ev} (h : Sl 6 Ev.cs w A n qs) {b : Nat} {T : TypeId} {cs : Array Value} (hb : Blk w b T cs) (hc : cs.size ≤ 3) : 0 < n → ∀ b' o, A = some ⟨b', o, none⟩ → b' ≠ b := fun hn b' o hA e => by
 obtain ⟨b1, o1, x, hA1, hx, hcc⟩ := h.at hn
 rw [hA] at hA1
 injection hA1 with hA1
 injection hA1 with e1 e2
 subst e1 e
 have h1 := hcc 5 (.bool x.e) rfl
 rw [hb.cell] at h1
 have := (Array.getElem?_eq_some_iff.1 h1).1
 omega
theorem ev_map {κ : Type} {w : World} {A : Option Addr} {n : Nat} {qs : List Ev} (h : Sl 6 Ev.cs w A n qs) {kT : TypeId} {kv : κ → Value} {b m : Nat} {M : κ → Option Int} (hb : MapIs w kT kv b m M) : 0 < n → ∀ b' o, A = some ⟨b', o, none⟩ → b' ≠ b := fun hn b' o hA e => by
 obtain ⟨b1, o1, x, hA1, hx, hcc⟩ := h.at hn
 rw [hA] at hA1
 injection hA1 with hA1
 injection hA1 with e1 e2
 subst e1 e
 obtain ⟨cs, e, fz, hr⟩ := row_of_cell (hcc 5 (.bool x.e) rfl)
 exact hb.norow cs e fz hr
theorem within_len {r : Rg} (h : within r) : r.len ≤ 64 := Nat.le_trans (len_le_size r) h.1
theorem GF.side {g : GC} {w w' : World} {S : Nat → Prop} (h : GF g w) (hb : But S w w') (hS : ∀ q, S q → g.h + 13 ≤ q) : GF g w' := by
 have h0 := h.hB
 have n : ∀ q, q < g.h + 13 → ¬ S q := fun q hq hs => by have := hS q hs; omega
 exact ⟨hb.below h.bel h.bel.size (fun k hk => by have := hS k hk; omega), h.ba.but hb (n _ (by omega)), h.bb.but hb (n _ (by omega)), h.bp.but hb (n _ (by omega)), h.bo.but hb (n _ (by omega)), h.bk.but hb (n _ (by omega)), h.bc.but hb (n _ (by omega)), ⟨h0.1, Nat.le_trans h0.2 hb.size⟩⟩
theorem GS.side {g : GC} {w w' : World} {A : Option Addr} {n c : Nat} {ms : List PM} {nk : Nat} {K1 : Int × Int → Option Int} {K2 : ByteArray → Option Int} {S : Nat → Prop} (h : GS g w A n c ms nk K1 K2) (hb : But S w w') (hS : ∀ q, S q → g.h + 13 ≤ q ∧ q < g.B) : GS g w' A n c ms nk K1 K2 := by
 have n : ∀ q, q < g.h + 13 → ¬ S q := fun q hq hs => by have := (hS q hs).1; omega
 exact ⟨h.fx.side hb (fun q hq => (hS q hq).1), h.km.but hb (n _ (by omega)), h.cm.but hb (n _ (by omega)), h.tot.but hb (n _ (by omega)), h.out.but hb (n _ (by omega)), h.parts.but hb (fun q hq => (hS q hq).2), h.k1, h.k2, h.good, h.size, h.nodup⟩
theorem sizeL_rests {ms ms2 : List PM} (h : ms2.map PM.r = ms.map PM.r) : sizeL (ms2.map PM.pr) = sizeL (ms.map PM.pr) := by
 have key : ∀ ms : List PM, sizeL (ms.map PM.pr) = ((ms.map PM.r).map fun r => 1 + r.size).sum := fun ms => by unfold sizeL; rw [List.map_map, List.map_map]; rfl
 rw [key, key, h]
theorem GS.revals {g : GC} {w w' : World} {A : Option Addr} {n c : Nat} {ms ms2 : List PM} {nk : Nat} {K1 : Int × Int → Option Int} {K2 : ByteArray → Option Int} {S : Nat → Prop} (h : GS g w A n c ms nk K1 K2) (hb : But S w w') (hS : ∀ q, S q → g.B ≤ q) (hp : PartsIn g.B w' A n c ms2) (hr : ms2.map PM.r = ms.map PM.r) : GS g w' A n c ms2 nk K1 K2 := by
 have h0 := h.fx.hB
 have n : ∀ q, q < g.h + 13 → ¬ S q := fun q hq hs => by have := hS q hs; omega
 refine ⟨h.fx.side hb (fun q hq => by have := hS q hq; omega), h.km.but hb (n _ (by omega)), h.cm.but hb (n _ (by omega)), by rw [sizeL_rests hr]; exact h.tot.but hb (n _ (by omega)), h.out.but hb (n _ (by omega)), hp, by rw [hr]; exact h.k1, by rw [hr]; exact h.k2, fun m hm => ?_, by rw [sizeL_rests hr]; exact h.size, by rw [hr]; exact h.nodup⟩
 have : m.r ∈ ms.map PM.r := by rw [← hr]; exact List.mem_map.2 ⟨m, hm, rfl⟩
 obtain ⟨m', hm', e⟩ := List.mem_map.1 this
 rw [← e]
 exact h.good m' hm'
structure CFr (h B exb : Nat) (x : Ev) (i0 i1 : Int) (bl ol : Nat) (qs : List Ev) (w0 w : World) : Prop where
 ex : Blk w exb 227 #[.int .i64 x.v.k, .int .i64 x.v.i, .string x.v.t, .int .i64 x.s, .int .i64 x.p, .bool x.e]
 cu : Blk w (B - 1) 225 #[.int .i64 i0, .int .i64 i1]
 rb : Blk w (h + 2) 71 #[.int .i64 0, .bool false, .slice none 0 0]
 sl : Sl 6 Ev.cs w (some ⟨bl, ol, none⟩) qs.length qs
 be : Below h w0 w
 bl : bl < B
 hB : h + 13 ≤ B ∧ B ≤ exb ∧ exb < w.heap.size ∧ h ≤ w.heap.size
theorem CFr.but {h B exb : Nat} {x : Ev} {i0 i1 : Int} {bl ol : Nat} {qs : List Ev} {w0 w w' : World} {S : Nat → Prop} (f : CFr h B exb x i0 i1 bl ol qs w0 w) (hb : But S w w') (hS : ∀ q, S q → B ≤ q ∧ q ≠ exb) : CFr h B exb x i0 i1 bl ol qs w0 w' := by
 have h0 := f.hB
 have n : ∀ q, q < B → ¬ S q := fun q hq hs => by have := (hS q hs).1; omega
 exact ⟨f.ex.but hb (fun hs => (hS _ hs).2 rfl), f.cu.but hb (n _ (by omega)), f.rb.but hb (n _ (by omega)), f.sl.but hb (fun _ b o hA => by injection hA with hA; injection hA with h1 h2; rw [← h1]; exact n _ f.bl), hb.below f.be h0.2.2.2 (fun q hq => by have := (hS q hq).1; omega), f.bl, ⟨h0.1, h0.2.1, Nat.lt_of_lt_of_le h0.2.2.1 hb.size, Nat.le_trans h0.2.2.2 hb.size⟩⟩
theorem set_cs {ms : List PM} {j : Nat} {m : PM} (hm : ms[j]? = some m) (vs : List Iv) : (ms.set j { m with A1 := m.A1, n1 := m.n1, c1 := m.c1, vs := vs }).flatMap PM.cs = ms.flatMap PM.cs := by
 have : ∀ (L : List PM) (j : Nat), L[j]? = some m → (L.set j { m with A1 := m.A1, n1 := m.n1, c1 := m.c1, vs := vs }).flatMap PM.cs = L.flatMap PM.cs := by
  intro L
  induction L with
  | nil => intro j h; simp at h
  | cons y L ih =>
    intro j h
    cases j with
    | zero =>
      simp only [List.getElem?_cons_zero, Option.some.injEq] at h
      subst h
      rfl
    | succ j =>
      simp only [List.getElem?_cons_succ] at h
      rw [List.set_cons_succ, List.flatMap_cons, List.flatMap_cons, ih j h]
 exact this ms j hm
theorem set_map {β : Type} {ms : List PM} {j : Nat} {m m' : PM} (f : PM → β) (hm : ms[j]? = some m) (h : f m' = f m) : (ms.set j m').map f = ms.map f := by
 apply List.ext_getElem?
 intro i
 rw [List.getElem?_map, List.getElem?_set, List.getElem?_map]
 have hj := (List.getElem?_eq_some_iff.1 hm).1
 by_cases e : j = i
 · subst e
   rw [if_pos rfl, if_pos hj, hm]
   simp [h]
 · rw [if_neg e]
theorem set_modify {ms : List PM} {j : Nat} {m m' : PM} {f : (List Iv × Rg) → (List Iv × Rg)} (hm : ms[j]? = some m) (h : PM.pr m' = f (PM.pr m)) : (ms.set j m').map PM.pr = (ms.map PM.pr).modify j f := by
 apply List.ext_getElem?
 intro i
 rw [List.getElem?_map, List.getElem?_set, List.getElem?_modify, List.getElem?_map]
 have hj := (List.getElem?_eq_some_iff.1 hm).1
 by_cases e : j = i
 · subst e
   rw [if_pos rfl, if_pos hj, hm]
   simp [h]
 · simp only [if_neg e]
   cases ms[i]? <;> rfl
theorem CSt.open_part {g : GC} {qs : List Ev} {k : Nat} {K : List Vl} {ms : List PM} {j : Nat} (h : CSt g qs k K ms (j : Int)) (r : Rg) : (roomP (partsAt g.at_ K) r)[j]? = some (valsAt g.at_ K (lastR g.at_ (.nil (g.N : Int) false) K), lastR g.at_ (.nil (g.N : Int) false) K) ∧ valsAt g.at_ K (lastR g.at_ (.nil (g.N : Int) false) K) ≠ [] := by
 have h1 := h.op
 rcases idxR_spec (lastR g.at_ (.nil (g.N : Int) false) K) (resU g.at_ K) with ⟨h2, _⟩ | ⟨i, h2, h3⟩
 · omega
 · have : i = j := by omega
   subst this
   have hp : (partsAt g.at_ K)[i]? = some (valsAt g.at_ K (lastR g.at_ (.nil (g.N : Int) false) K), lastR g.at_ (.nil (g.N : Int) false) K) := by rw [partsAt_U, List.getElem?_map, h2]; rfl
   obtain ⟨y, hy⟩ := find_of_mem (List.mem_of_getElem? h2)
   refine ⟨?_, (lo_vals hy).1⟩
   unfold roomP
   split
   · exact hp
   · rw [List.getElem?_append_left (List.getElem?_eq_some_iff.1 hp).1]; exact hp
theorem now_part {ro : Vl → Rg} {K : List Vl} {p : Vl} {j : Nat} (h : (j : Int) = idxR (resU ro (K ++ [p])) (ro p)) : (roomP (partsAt ro K) (ro p))[j]? = some (valsAt ro K (ro p), ro p) := by
 rcases idxR_spec (ro p) (resU ro (K ++ [p])) with ⟨h2, _⟩ | ⟨i, h2, h3⟩
 · omega
 · have : i = j := by omega
   subst this
   rw [room_at, List.getElem?_map, h2]
   rfl
theorem close_other {o : Int} {p : Vl} {L : List (List Iv × Rg)} {j : Nat} (h : (j : Int) ≠ o) : (closeAt o p L)[j]? = L[j]? := by
 unfold closeAt
 split
 · rfl
 · rw [List.getElem?_modify]
   have : ¬ o.toNat = j := by omega
   simp only [if_neg this]
   cases L[j]? <;> rfl
def CRel (g : GC) (qs : List Ev) (Al : Option Addr) (k : Nat) (o : Int) (wr : World) : Prop :=
 ∃ (K : List Vl) (ms : List PM) (A : Option Addr) (n c : Nat) (K1 : Int × Int → Option Int) (K2 : ByteArray → Option Int), CSt g qs k K ms o ∧ GS g wr A n c ms k K1 K2 ∧
   Blk wr (g.B - 1) 225 #[.int .i64 (curOf 0 (qs.take k)), .int .i64 (curOf 1 (qs.take k))] ∧ Blk wr (g.h + 2) 71 #[.int .i64 0, .bool false, .slice none 0 0] ∧ Sl 6 Ev.cs wr Al qs.length qs
set_option maxRecDepth 100000 in
set_option maxHeartbeats 8000000 in
theorem comb_succ (N : Nat) (tb tl tr : Bool) (ih : CombC N tb tl tr) (hN : N + 1 ≤ 12) : CombC (N + 1) tb tl tr := by
 intro a b xa fa Aa na ca xb fb Ab nb cb w hA hB fA fB wA wB iA iB
 have hxa : xa = ((N + 1 : Nat) : Int) := by rw [← hA.hw]; exact fA.1
 have g1 : (xa == 0) = false := by simp; omega
 have hna : na ≤ 64 := by rw [hA.len]; exact within_len iA
 have hnb : nb ≤ 64 := by rw [hB.len]; exact within_len iB
 have HA := zH hA
 have HB := zH hB
 have HIH := zH ih
 have HF := zH (And.intro fA (And.intro fB (And.intro wA (And.intro wB (And.intro iA iB)))))
 have Hxa := zH hxa
 obtain ⟨rr, Hrr⟩ : ∃ r, Hid (comb (ofT tb tl tr) (N + 1) a b = r) := ⟨_, rfl⟩
 rw [Hrr.out]
 have HB0 : Hid (Below w.heap.size w ((((w.alloc (.cells #[.int .i64 xa, .bool fa, .slice Aa na ca] 71)).alloc (.cells #[.int .i64 xb, .bool fb, .slice Ab nb cb] 71)).alloc (.cells #[.int .i64 0, .bool false, .slice none 0 0] 71)).alloc (.cells #[.int .i64 xa, .bool false, .slice none 0 0] 71))) := zH (((((Below.refl _ _).alloc (Nat.le_refl _) _).alloc (by simp) _).alloc (by simp; omega) _).alloc (by simp; omega) _)
 have HC : Hid (Blk ((((w.alloc (.cells #[.int .i64 xa, .bool fa, .slice Aa na ca] 71)).alloc (.cells #[.int .i64 xb, .bool fb, .slice Ab nb cb] 71)).alloc (.cells #[.int .i64 0, .bool false, .slice none 0 0] 71)).alloc (.cells #[.int .i64 xa, .bool false, .slice none 0 0] 71)) w.heap.size 71 #[.int .i64 xa, .bool fa, .slice Aa na ca] ∧
  Blk ((((w.alloc (.cells #[.int .i64 xa, .bool fa, .slice Aa na ca] 71)).alloc (.cells #[.int .i64 xb, .bool fb, .slice Ab nb cb] 71)).alloc (.cells #[.int .i64 0, .bool false, .slice none 0 0] 71)).alloc (.cells #[.int .i64 xa, .bool false, .slice none 0 0] 71)) (w.heap.size + 1) 71 #[.int .i64 xb, .bool fb, .slice Ab nb cb] ∧
  Blk ((((w.alloc (.cells #[.int .i64 xa, .bool fa, .slice Aa na ca] 71)).alloc (.cells #[.int .i64 xb, .bool fb, .slice Ab nb cb] 71)).alloc (.cells #[.int .i64 0, .bool false, .slice none 0 0] 71)).alloc (.cells #[.int .i64 xa, .bool false, .slice none 0 0] 71)) (w.heap.size + 2) 71 #[.int .i64 0, .bool false, .slice none 0 0] ∧
  Blk ((((w.alloc (.cells #[.int .i64 xa, .bool fa, .slice Aa na ca] 71)).alloc (.cells #[.int .i64 xb, .bool fb, .slice Ab nb cb] 71)).alloc (.cells #[.int .i64 0, .bool false, .slice none 0 0] 71)).alloc (.cells #[.int .i64 xa, .bool false, .slice none 0 0] 71)) (w.heap.size + 3) 71 #[.int .i64 xa, .bool false, .slice none 0 0]) :=
  zH ⟨(((Blk.step rfl).alloc _).alloc _).alloc _, ((Blk.step (by simp)).alloc _).alloc _, (Blk.step (by simp)).alloc _, Blk.step (by simp)⟩
 clear hA hB ih fA fB wA wB iA iB hxa
 go_enter Tryz.func160, Tryz.ntmps160
 go_wp2_with fail
 obtain ⟨W4, HW4⟩ : ∃ W : World, Hid ((((w.alloc (.cells #[.int .i64 xa, .bool fa, .slice Aa na ca] 71)).alloc (.cells #[.int .i64 xb, .bool fb, .slice Ab nb cb] 71)).alloc (.cells #[.int .i64 0, .bool false, .slice none 0 0] 71)).alloc (.cells #[.int .i64 xa, .bool false, .slice none 0 0] 71) = W) := ⟨_, rfl⟩
 have hs4 : W4.heap.size = w.heap.size + 4 := by rw [← HW4.out]; simp [World.size_alloc]
 rw [HW4.out] at HB0 HC ⊢
 clear HW4
 refine (grouping_any _ xa fa Aa na ca xb fb Ab nb cb tb tl tr W4).mono ?_
 rintro e w5 ⟨rfl, hBx, hb5, hs5⟩
 rw [hs4] at hBx hs5 ⊢
 have HBX := zH hBx
 have HB5 := zH (Below.next HB0.out hb5)
 have HC5 := zH (And.intro (HC.out.1.below hb5) (And.intro (HC.out.2.1.below hb5) (And.intro (HC.out.2.2.1.below hb5) (HC.out.2.2.2.below hb5))))
 clear hBx hb5 HB0 HC
 have z1 := HC5.out.1.cell
 have z2 := HC5.out.2.1.cell
 go_wp2_with fail
 refine (events_any a xa fa Aa na ca b xb fb Ab nb cb w5 (HA.out.keep (keeps_of HB5.out)) (HB.out.keep (keeps_of HB5.out)) HF.out.2.2.2.2.1.2 HF.out.2.2.2.2.2.2 hna hnb).mono ?_
 rintro e w6 ⟨qs, Al, cl, rfl, hEv, hSl, hql, hb6⟩
 have hs6 := hb6.size
 have HGood : Hid (GC.Good ⟨N, a, b, xa, fa, Aa, na, ca, xb, fb, Ab, nb, cb, tb, tl, tr, w, w6.heap.size + 1⟩) := zH ⟨HA.out, HB.out, HF.out.1, HF.out.2.1, HF.out.2.2.1, HF.out.2.2.2.1, HF.out.2.2.2.2.1, HF.out.2.2.2.2.2, hN⟩
 have HEV := zH hEv
 have HBL : Hid (0 < qs.length → ∀ b o, Al = some ⟨b, o, none⟩ → b < w6.heap.size) := zH (fun hn => hSl.lt Ev.cs_len (by omega) hn)
 have HSL := zH (hSl.keep (keeps_alloc w6 (.cells #[.int .i64 (-1), .int .i64 (-1)] 225)))
 have hb7 : Below w5.heap.size w5 (w6.alloc (.cells #[.int .i64 (-1), .int .i64 (-1)] 225)) := hb6.alloc hs6 _
 have HCU : Hid (Blk (w6.alloc (.cells #[.int .i64 (-1), .int .i64 (-1)] 225)) w6.heap.size 225 #[.int .i64 (-1), .int .i64 (-1)]) := zH (Blk.new _ _ _)
 have HBX7 : Hid (Boxes (w.heap.size + 4) (w.heap.size + 3) xa fa Aa na ca xb fb Ab nb cb (opV tb tl tr) (w6.alloc (.cells #[.int .i64 (-1), .int .i64 (-1)] 225))) := by
  have h := HBX.out
  exact zH ⟨h.ba.below hb7, h.bb.below hb7, h.bp.below hb7, h.bo.below hb7, h.km.below hb7, h.bk.below hb7, h.cm.below hb7, h.bc.below hb7, h.bt.below hb7⟩
 have HC7 := zH (And.intro (HC5.out.2.2.1.below hb7) (HC5.out.2.2.2.below hb7))
 have HB7 := zH (Below.next HB5.out hb7)
 clear hEv hSl hb6 hb7 HBX HC5 HB5 z1 z2
 simp only [gFn, Nat.add_assoc, Nat.reduceAdd]
 go_wp2_with fail
 go_loopg [12, 43] qs.length (fun gk so i wr => ∃ (k : Nat) (o : Int), k ≤ qs.length ∧ gk = qs.length - k ∧ i = .int .i64 (k : Int) ∧ so = .int .i64 o ∧ Hid (CRel ⟨N, a, b, xa, fa, Aa, na, ca, xb, fb, Ab, nb, cb, tb, tl, tr, w, w6.heap.size + 1⟩ qs Al k o wr))
 case atStart =>
  refine ⟨0, -1, by omega, rfl, rfl, rfl, zH ⟨[], [], none, 0, 0, fun _ => none, fun _ => none, CSt.zero _ _, ?_, HCU.out, HC7.out.1, HSL.out⟩⟩
  have h := HBX7.out
  refine ⟨⟨HB7.out, h.ba, h.bb, h.bp, h.bo, h.bk, h.bc, by show w.heap.size + 13 ≤ w6.heap.size + 1; omega, by rw [World.size_alloc]; exact Nat.le_refl _⟩, h.km, h.cm, h.bt, ?_, ⟨⟨by simp, .inl ⟨rfl, rfl⟩⟩, rfl, (fun m hm => by cases hm), List.Pairwise.nil, (fun m hm => by cases hm)⟩, (fun k z h => by cases h), (fun s _ _ _ => by simp), (fun m hm => by cases hm), by simp [sizeL], List.nodup_nil⟩
  have := HC7.out.2
  rw [Hxa.out] at this
  exact this
 case round =>
  obtain ⟨k, o, hk, rfl, rfl, rfl, HR⟩ := hrel
  clear HCU HBX7 HC7 HB7 HSL
  by_cases hlt : k < qs.length
  · obtain ⟨K, ms, A, n, c, K1, K2, hC, hS, hcu, hrb, hsl⟩ := HR.out
    obtain ⟨bl, ol, x, rfl, hx, hxc⟩ := hsl.at hlt
    have hsd := (ev_side (g := ⟨N, a, b, xa, fa, Aa, na, ca, xb, fb, Ab, nb, cb, tb, tl, tr, w, w6.heap.size + 1⟩) HEV.out.1 hx).resolve_right (fun h => h ⟨within_len HF.out.2.2.2.2.1, within_len HF.out.2.2.2.2.2⟩)
    have HX := zH hx
    have HSN0 : Hid (∀ s : Int, curOf s (qs.take (k + 1)) = if x.s = s then (if x.e then x.p else -1) else curOf s (qs.take k)) := zH (fun s => by rw [take_snoc' hx, curOf_snoc])
    obtain ⟨c0, Hc0⟩ : ∃ z, Hid (curOf 0 (qs.take k) = z) := ⟨_, rfl⟩
    obtain ⟨c1, Hc1⟩ : ∃ z, Hid (curOf 1 (qs.take k) = z) := ⟨_, rfl⟩
    rw [Hc0.out, Hc1.out] at hcu
    obtain ⟨⟨vk, vi, vt⟩, xs, xp, xe⟩ := x
    obtain ⟨hs01, hp0, hp1⟩ := hsd
    dsimp only at hs01 hp0 hp1
    have d0 := hxc 0 _ rfl
    have d1 := hxc 1 _ rfl
    have d2 := hxc 2 _ rfl
    have d3 := hxc 3 _ rfl
    have d4 := hxc 4 _ rfl
    have d5 := hxc 5 _ rfl
    simp only [Nat.add_zero] at d0
    have hfB : w.heap.size + 13 ≤ w6.heap.size + 1 ∧ w6.heap.size + 1 ≤ wr.heap.size := hS.fx.hB
    have hba : Below wr.heap.size wr (wr.alloc (.cells #[.int .i64 vk, .int .i64 vi, .string vt, .int .i64 xs, .int .i64 xp, .bool xe] 227)) := (Below.refl _ _).alloc (Nat.le_refl _) _
    have HCS := zH hC
    have HS1 := zH (hS.below hba)
    have HCU : Hid (Blk (wr.alloc (.cells #[.int .i64 vk, .int .i64 vi, .string vt, .int .i64 xs, .int .i64 xp, .bool xe] 227)) w6.heap.size 225 #[.int .i64 c0, .int .i64 c1]) := zH (hcu.below hba)
    have HRB : Hid (Blk (wr.alloc (.cells #[.int .i64 vk, .int .i64 vi, .string vt, .int .i64 xs, .int .i64 xp, .bool xe] 227)) (w.heap.size + 2) 71 #[.int .i64 0, .bool false, .slice none 0 0]) := zH (hrb.below hba)
    have HSL := zH (hsl.keep (keeps_of hba))
    have HEX : Hid (Blk (wr.alloc (.cells #[.int .i64 vk, .int .i64 vi, .string vt, .int .i64 xs, .int .i64 xp, .bool xe] 227)) wr.heap.size 227 #[.int .i64 vk, .int .i64 vi, .string vt, .int .i64 xs, .int .i64 xp, .bool xe]) := zH (Blk.new _ _ _)
    have hsz1 : (wr.alloc (.cells #[.int .i64 vk, .int .i64 vi, .string vt, .int .i64 xs, .int .i64 xp, .bool xe] 227)).heap.size = wr.heap.size + 1 := World.size_alloc _ _
    have hb01 : Below w.heap.size w (wr.alloc (.cells #[.int .i64 vk, .int .i64 vi, .string vt, .int .i64 xs, .int .i64 xp, .bool xe] 227)) := HS1.out.fx.bel
    have HB01 := zH hb01
    clear hC hS hcu hrb hsl hx hxc HR hba hb01
    go_upto_region 11 with fail
    generalize hW1 : wr.alloc (.cells #[.int .i64 vk, .int .i64 vi, .string vt, .int .i64 xs, .int .i64 xp, .bool xe] 227) = W1 at *
    clear hW1 d0 d1 d2 d3 d4 d5
    go_cut [] (fun w2 => But (· = w6.heap.size) W1 w2 ∧ Blk w2 w6.heap.size 225 #[.int .i64 (if xs = 0 then -1 else c0), .int .i64 (if xs = 1 then -1 else c1)])
    case first =>
     have z1 := HCU.out.cell
     have z2 := HCU.out.free
     have z3 := HEX.out.cell
     rcases hs01 with rfl | rfl
     · go_wp2_with fail
       go_meet
       case rel => exact ⟨But.set (S := fun q => q = w6.heap.size) _ (p := ⟨w6.heap.size, 0, none⟩) rfl _, HCU.out.set_ 0 _⟩
     · go_wp2_with fail
       go_meet
       case rel => exact ⟨But.set (S := fun q => q = w6.heap.size) _ (p := ⟨w6.heap.size, 1, none⟩) rfl _, HCU.out.set_ 1 _⟩
    case rest =>
     obtain ⟨hbu2, hcu2⟩ := hcut
     have HCU2 := zH hcu2
     have HEX2 := zH (HEX.out.but hbu2 (by omega))
     have HBU2 := zH hbu2
     have HCU0 := HCU
     clear hbu2 hcu2 HCU
     have z1 := HEX2.out.cell
     go_upto_if 52 with fail
     clear z1
     go_cut [] (fun w3 => But (· = w6.heap.size) W1 w3 ∧ Blk w3 w6.heap.size 225 #[.int .i64 (curOf 0 (qs.take (k + 1))), .int .i64 (curOf 1 (qs.take (k + 1)))])
     case first =>
      have z1 := HCU2.out.cell
      have z2 := HCU2.out.free
      have z3 := HEX2.out.cell
      cases xe
      · go_wp2_with fail
        go_meet
        case rel =>
         refine ⟨HBU2.out, ?_⟩
         have h0 := HSN0.out 0
         have h1 := HSN0.out 1
         rw [Hc0.out] at h0
         rw [Hc1.out] at h1
         simp only [Bool.false_eq_true, if_false] at h0 h1
         rw [h0, h1]
         exact HCU2.out
      · rcases hs01 with rfl | rfl
        · go_wp2_with fail
          go_meet
          case rel =>
           refine ⟨HBU2.out.trans (But.set (S := fun q => q = w6.heap.size) _ (p := ⟨w6.heap.size, 0, none⟩) rfl _), ?_⟩
           have h0 := HSN0.out 0
           have h1 := HSN0.out 1
           rw [Hc1.out] at h1
           simp at h0 h1
           rw [h0, h1]
           exact HCU2.out.set_ 0 _
        · go_wp2_with fail
          go_meet
          case rel =>
           refine ⟨HBU2.out.trans (But.set (S := fun q => q = w6.heap.size) _ (p := ⟨w6.heap.size, 1, none⟩) rfl _), ?_⟩
           have h0 := HSN0.out 0
           have h1 := HSN0.out 1
           rw [Hc0.out] at h0
           simp at h0 h1
           rw [h0, h1]
           exact HCU2.out.set_ 1 _
     case rest =>
      obtain ⟨hbu3, hcu3⟩ := hcut
      have hS3 : GS ⟨N, a, b, xa, fa, Aa, na, ca, xb, fb, Ab, nb, cb, tb, tl, tr, w, w6.heap.size + 1⟩ wc A n c ms k K1 K2 := HS1.out.side hbu3 (fun q hq => by show w.heap.size + 13 ≤ q ∧ q < w6.heap.size + 1; omega)
      have HS3 := zH hS3
      have HCU3 := zH hcu3
      have HEX3 := zH (HEX.out.but hbu3 (by omega))
      have HRB3 := zH (HRB.out.but hbu3 (by omega))
      have HSL3 := zH (HSL.out.but hbu3 (fun hn b' o' hA => ev_far HSL.out (T := 225) (cs := #[.int .i64 c0, .int .i64 c1]) HCU0.out (by simp) hn b' o' hA))
      have hsz3 := hbu3.size
      clear hbu3 hcu3 hS3 HS1 HCU2 HEX2 HBU2 HEX HRB HSL HSN0 Hc0 Hc1 HB01 HCU0
      have hca := @cell_after wc.drew
      obtain ⟨bb, Hbb⟩ : ∃ t : Bool, Hid ((match qs[k + 1]? with | some y => decide (y.v = ⟨vk, vi, vt⟩) | none => false) = t) := ⟨_, rfl⟩
      go_upto_region 14 with fail
      go_cut [73] (fun s w4 => s = .bool bb ∧ Below wc.heap.size wc w4)
      case first =>
       by_cases hk1 : k + 1 < qs.length
       · have g2 : decide ((k : Int) + 1 < (qs.length : Int)) = true := by simp; omega
         obtain ⟨b4, o4, y, hA4, hy, hyc⟩ := (HSL3.out.keep (keeps_of (Below.refl wc.heap.size wc).drew)).at hk1
         obtain ⟨rfl, rfl⟩ : bl = b4 ∧ ol = o4 := by injection hA4 with h; injection h with h1 h2; exact ⟨h1, h2⟩
         rw [hy] at Hbb
         obtain ⟨⟨yk, yi, yt⟩, ys, yp, ye⟩ := y
         have hev := run_eqV yk yi vk vi yt vt
         have hbb : decide ((⟨yk, yi, yt⟩ : Vl) = ⟨vk, vi, vt⟩) = bb := Hbb.out
         rw [hbb] at hev
         have d0 := hyc 0 _ rfl
         have d1 := hyc 1 _ rfl
         have d2 := hyc 2 _ rfl
         simp only [Nat.add_zero] at d0
         have z1 := HEX3.out.drew.cell
         clear hyc hA4 hy Hbb hbb
         have hkz : (((k : Int) + 1).toNat) = k + 1 := by omega
         generalize hWn : wc.drew = Wn at *
         refine wp_region_seg [] [0, 1, 2, 3, 4, 5, 6, 7, 8, 9, 10, 11, 12, 13, 14, 15] (by kernel_rfl) (by kernel_rfl) (fun _ _ d _ _ h => by cases d <;> exact h) ?_
         rw [hWn]
         have hbn : Below wc.heap.size wc Wn := by rw [← hWn]; exact (Below.refl _ _).drew
         clear hWn
         simp only [pickSegs, pickOps, opAt, pkO]
         unfold wpBlocks
         repeat (go_big_quiet_step (fail))
         refine wpQuiet_nil ?_
         clear hca
         go_wp2_with fail
         go_meet
         case rel => exact ⟨rfl, hbn⟩
       · have g2 : decide ((k : Int) + 1 < (qs.length : Int)) = false := by simp; omega
         have hn1 : qs[k + 1]? = none := List.getElem?_eq_none (by omega)
         rw [hn1] at Hbb
         obtain rfl : false = bb := Hbb.out
         clear hn1 Hbb
         generalize hWn : wc.drew = Wn at *
         refine wp_region_seg [] [0, 1, 2, 3, 4, 5, 6, 7, 8, 9, 10, 11, 12, 13, 14, 15] (by kernel_rfl) (by kernel_rfl) (fun _ _ d _ _ h => by cases d <;> exact h) ?_
         rw [hWn]
         have hbn : Below wc.heap.size wc Wn := by rw [← hWn]; exact (Below.refl _ _).drew
         clear hWn
         simp only [pickSegs, pickOps, opAt, pkO]
         unfold wpBlocks
         repeat (go_big_quiet_step (fail))
         refine wpQuiet_nil ?_
         clear hca
         go_wp2_with fail
         go_meet
         case rel => exact ⟨rfl, hbn⟩
      case rest =>
       clear hca
       obtain ⟨rfl, hb4⟩ := hcut
       have HS4 := zH (HS3.out.below hb4)
       have HCU4 := zH (HCU3.out.below hb4)
       have HEX4 := zH (HEX3.out.below hb4)
       have HRB4 := zH (HRB3.out.below hb4)
       have HSL4 := zH (HSL3.out.keep (keeps_of hb4))
       have hsz4 := hb4.size
       clear hb4 HS3 HCU3 HEX3 HRB3 HSL3
       cases bb
       · have Hbd : Hid (∀ y, qs[k + 1]? = some y → y.v ≠ (⟨⟨vk, vi, vt⟩, xs, xp, xe⟩ : Ev).v) := zH (fun y hy => by
          have := Hbb.out
          rw [hy] at this
          simpa using this)
         obtain ⟨hcu0, hcu1⟩ := cur_at HGood.out HEV.out.1 HEV.out.2 HX.out Hbd.out
         have hr0 := idx_range a.parts (⟨vk, vi, vt⟩ : Vl)
         have hr1 := idx_range b.parts (⟨vk, vi, vt⟩ : Vl)
         rw [len_parts, ← HA.out.len] at hr0
         rw [len_parts, ← HB.out.len] at hr1
         have Hro : Hid (GC.ro ⟨N, a, b, xa, fa, Aa, na, ca, xb, fb, Ab, nb, cb, tb, tl, tr, w, w6.heap.size + 1⟩ (idxP a.parts ⟨vk, vi, vt⟩, idxP b.parts ⟨vk, vi, vt⟩) = GC.at_ ⟨N, a, b, xa, fa, Aa, na, ca, xb, fb, Ab, nb, cb, tb, tl, tr, w, w6.heap.size + 1⟩ ⟨vk, vi, vt⟩) := zH (ro_at HGood.out _)
         dsimp only at hcu0 hcu1
         rw [hcu0, hcu1] at HCU4
         have Hcv := zH (And.intro hcu0 hcu1)
         obtain ⟨i0, Hi0⟩ : ∃ z, Hid (idxP a.parts ⟨vk, vi, vt⟩ = z) := ⟨_, rfl⟩
         obtain ⟨i1, Hi1⟩ : ∃ z, Hid (idxP b.parts ⟨vk, vi, vt⟩ = z) := ⟨_, rfl⟩
         rw [Hi0.out, Hi1.out] at HCU4 Hro Hcv
         rw [Hi0.out] at hr0
         rw [Hi1.out] at hr1
         clear hcu0 hcu1 Hbb
         have hent := entG1
         have z1 := HCU4.out.cell
         go_wp2_with fail
         refine (group_any ⟨N, a, b, xa, fa, Aa, na, ca, xb, fb, Ab, nb, cb, tb, tl, tr, w, w6.heap.size + 1⟩ HGood.out HIH.out _ A n c ms k K1 K2 HS4.out (by omega) i0 i1 hr0 hr1 hna hnb).mono ?_
         rintro e w5' ⟨now, ok, rfl, hbu5, hfail, hok⟩
         rw [Hro.out] at hfail hok
         clear z1 hent
         have hSo : ∀ q, (Value.slice A n c).ownBlock = some q → w6.heap.size + 1 ≤ q := fun q hq => (own_lt HS4.out.parts.own hq).1
         have hSe : ¬ GC.S ⟨N, a, b, xa, fa, Aa, na, ca, xb, fb, Ab, nb, cb, tb, tl, tr, w, w6.heap.size + 1⟩ A n c wr.heap.size := fun h => by
          rcases h with h | h | h | h | h
          · have h' : wr.heap.size = w.heap.size + 8 := h; omega
          · have h' : wr.heap.size = w.heap.size + 10 := h; omega
          · have h' : wr.heap.size = w.heap.size + 12 := h; omega
          · have h' : wr.heap.size = w.heap.size + 3 := h; omega
          · obtain ⟨_, _, cs, h1⟩ := own_lt HS4.out.parts.own h
            have h2 := HEX4.out
            unfold Blk at h2
            rw [h1] at h2
            injection h2 with h2
            injection h2 with _ h2
            exact absurd h2 (by decide)
         have hSf : ∀ q, (q = w6.heap.size ∨ q = w.heap.size + 2) → ¬ GC.S ⟨N, a, b, xa, fa, Aa, na, ca, xb, fb, Ab, nb, cb, tb, tl, tr, w, w6.heap.size + 1⟩ A n c q := fun q hq h => by
          rcases h with h | h | h | h | h
          · have h' : q = w.heap.size + 8 := h; omega
          · have h' : q = w.heap.size + 10 := h; omega
          · have h' : q = w.heap.size + 12 := h; omega
          · have h' : q = w.heap.size + 3 := h; omega
          · have := hSo q h; omega
         have hSl : ¬ GC.S ⟨N, a, b, xa, fa, Aa, na, ca, xb, fb, Ab, nb, cb, tb, tl, tr, w, w6.heap.size + 1⟩ A n c bl := fun h => by
          have hn0 : 0 < qs.length := by omega
          rcases h with h | h | h | h | h
          · exact ev_map HSL4.out HS4.out.km hn0 bl ol rfl h
          · exact ev_map HSL4.out HS4.out.cm hn0 bl ol rfl h
          · exact ev_far HSL4.out HS4.out.tot (by simp) hn0 bl ol rfl h
          · exact ev_far HSL4.out HS4.out.out (by simp) hn0 bl ol rfl h
          · have := hSo bl h
            have := HBL.out hn0 bl ol rfl
            omega
         have HEX5 := zH (HEX4.out.but hbu5 hSe)
         have HCU5 := zH (HCU4.out.but hbu5 (hSf _ (.inl rfl)))
         have HRB5 := zH (HRB4.out.but hbu5 (hSf _ (.inr rfl)))
         have HSL5 := zH (HSL4.out.but hbu5 (fun _ b' o' hA => by injection hA with hA; injection hA with h1 h2; rw [← h1]; exact hSl))
         have HBe5 : Hid (Below w.heap.size w w5') := zH (hbu5.below HS4.out.fx.bel HS4.out.fx.bel.size (fun q hq => by
          rcases hq with h | h | h | h | h
          · have h' : q = w.heap.size + 8 := h; omega
          · have h' : q = w.heap.size + 10 := h; omega
          · have h' : q = w.heap.size + 12 := h; omega
          · have h' : q = w.heap.size + 3 := h; omega
          · have := hSo q h; omega))
         have hsz5 := hbu5.size
         have HOK := zH hok
         have HFA := zH hfail
         clear HS4 HCU4 HEX4 HRB4 HSL4 hbu5 hok hfail hSo hSe hSf hSl
         cases ok
         · have HNW : Hid (¬ within rr) := by
            have := HCS.out.fail1 HGood.out HEV.out.1 HEV.out.2 HX.out Hbd.out (HFA.out rfl)
            rw [← Hrr.out]
            exact zH this
           obtain ⟨ff1, ff2, ff3⟩ := put3R_free HRB5.out (.int .i64 0) (.bool false)
           have F1 : Hid (Blk _ _ _ #[.int .i64 0, .bool false, .slice none 0 0]) := zH (HRB5.out.set_ 0 (.int .i64 0))
           have F2 : Hid (Blk _ _ _ #[.int .i64 0, .bool false, .slice none 0 0]) := zH (F1.out.set_ 1 (.bool false))
           have F3 : Hid (Blk _ _ _ #[.int .i64 0, .bool false, .slice none 0 0]) := zH (F2.out.set_ 2 (.slice none 0 0))
           have y1 := F1.out.cell
           have y2 := F2.out.cell
           have y3 := F3.out.cell
           have HBr := zH (put3R_below HBe5.out (show w.heap.size ≤ w.heap.size + 2 by omega) (.int .i64 0) (.bool false) (.slice none 0 0))
           have z1 := HRB5.out.cell
           go_wp2_with fail
           exact bodyPost_ret (v := .tuple #[.agg #[.int .i64 0, .bool false, .slice none 0 0], .bool false]) (by simp [results, Tryz.results160, go_sem, y3]) rfl ⟨0, false, none, 0, 0, false, rfl, ⟨(fun h => by cases h), fun h => absurd h HNW.out⟩, (fun h => by cases h), HBr.out⟩
         · obtain ⟨A', n', c', ms', K1', K2', hS5, hpr, hnow, _⟩ := HOK.out rfl
           obtain ⟨hpr', hnow'⟩ := HCS.out.room (x := ⟨⟨vk, vi, vt⟩, xs, xp, xe⟩) hpr hnow
           have HS5 := zH hS5
           have HPR := zH hpr'
           have HNO := zH hnow'
           clear hS5 hpr hnow hpr' hnow' HOK HFA
           by_cases hno : now = o
           · have g3 : (now == o) = true := by simp [hno]
             have HNE := zH hno
             clear hno
             go_wp2_with fail
             go_roundg (qs.length - (k + 1))
             case measure => omega
             case rel =>
              refine ⟨k + 1, o, by omega, rfl, by go_num, rfl, zH ⟨_, ms', A', n', c', K1', K2', HCS.out.same HGood.out HEV.out.2 HX.out Hbd.out HPR.out HNO.out HNE.out, HS5.out, ?_, HRB5.out, HSL5.out⟩⟩
              rw [Hcv.out.1, Hcv.out.2]
              exact HCU5.out
           · have g3 : (now == o) = false := by simp [hno]
             have HNE := zH hno
             clear hno
             go_upto_if 87 with fail
             have HFR : Hid (CFr w.heap.size (w6.heap.size + 1) wr.heap.size ⟨⟨vk, vi, vt⟩, xs, xp, xe⟩ i0 i1 bl ol qs w w5') := zH ⟨HEX5.out, HCU5.out, HRB5.out, HSL5.out, HBe5.out, by have := HBL.out (by omega) bl ol rfl; omega, ⟨hfB.1, hfB.2, HEX5.out.lt, HBe5.out.size⟩⟩
             have HFT : Hid (∀ m ∈ ms', m.vs.length ≤ 64) := by
              refine zH (fun m hm => ?_)
              have h1 : PM.pr m ∈ roomP (partsAt (GC.at_ ⟨N, a, b, xa, fa, Aa, na, ca, xb, fb, Ab, nb, cb, tb, tl, tr, w, w6.heap.size + 1⟩) K) (GC.at_ ⟨N, a, b, xa, fa, Aa, na, ca, xb, fb, Ab, nb, cb, tb, tl, tr, w, w6.heap.size + 1⟩ ⟨vk, vi, vt⟩) := by rw [← HPR.out]; exact List.mem_map.2 ⟨m, hm, rfl⟩
              unfold roomP at h1
              split at h1
              · exact (HCS.out.fit _ h1).1
              · rcases List.mem_append.1 h1 with h1 | h1
                · exact (HCS.out.fit _ h1).1
                · rw [List.mem_singleton] at h1
                  have : m.vs = [] := congrArg Prod.fst h1
                  rw [this]; simp
             clear HEX5 HCU5 HRB5 HSL5 HBe5
             go_cut [] (fun w7 => ∃ ms2, GS ⟨N, a, b, xa, fa, Aa, na, ca, xb, fb, Ab, nb, cb, tb, tl, tr, w, w6.heap.size + 1⟩ w7 A' n' c' ms2 (k + 1) K1' K2' ∧ ms2.map PM.pr = closeAt o ⟨vk, vi, vt⟩ (ms'.map PM.pr) ∧ (∀ m ∈ ms2, m.vs.length ≤ 64) ∧ CFr w.heap.size (w6.heap.size + 1) wr.heap.size ⟨⟨vk, vi, vt⟩, xs, xp, xe⟩ i0 i1 bl ol qs w w7)
             case first =>
              rcases Int.lt_or_le o 0 with ho | ho
              · have g4 : decide (0 ≤ o) = false := by simp; omega
                have g5 : decide (o < 0) = true := by simp; omega
                have HO := zH ho
                go_wp2_with fail
                go_meet
                case rel => exact ⟨ms', HS5.out, by unfold closeAt; rw [if_pos HO.out], HFT.out, HFR.out⟩
              · obtain ⟨j, rfl⟩ := Int.eq_ofNat_of_zero_le ho
                have g4 : decide ((0 : Int) ≤ (j : Int)) = true := by simp
                obtain ⟨hop1, hop2⟩ := HCS.out.open_part (GC.at_ ⟨N, a, b, xa, fa, Aa, na, ca, xb, fb, Ab, nb, cb, tb, tl, tr, w, w6.heap.size + 1⟩ ⟨vk, vi, vt⟩)
                rw [← HPR.out, List.getElem?_map, Option.map_eq_some_iff] at hop1
                obtain ⟨m, hm, hmp⟩ := hop1
                have hmv : m.vs ≠ [] := by rw [show m.vs = _ from congrArg Prod.fst hmp]; exact hop2
                have hmo := HS5.out.parts.ok m (List.mem_of_getElem? hm)
                have hpl := HS5.out.parts.len
                have hjn : j < n' := by have := (List.getElem?_eq_some_iff.1 hm).1; omega
                obtain ⟨gp, op, hA', hcp⟩ := (Sl.of_own PM.cs_len hpl HS5.out.parts.own).2 (by omega)
                obtain ⟨gq, capq, hvq, _, _⟩ := HS5.out.parts.own.form (by omega)
                obtain ⟨rfl, rfl⟩ : A' = some ⟨gq, 0, none⟩ ∧ c' = capq := by injection hvq with h1 h2 h3; exact ⟨h1, h3⟩
                obtain ⟨rfl, rfl⟩ : gq = gp ∧ 0 = op := by injection hA' with h; injection h with h1 h2; exact ⟨h1, h2⟩
                have e0 := hcp j m hm 0 _ rfl
                have hn1 : 0 < m.n1 := by rw [← hmo.len]; exact List.length_pos_iff.2 hmv
                have hn64 : m.n1 ≤ 64 := by rw [← hmo.len]; exact HFT.out m (List.mem_of_getElem? hm)
                obtain ⟨gv, capv, hvv, hgvB, hgvl⟩ := hmo.own.form hn1
                obtain ⟨hA1, hc1⟩ : m.A1 = some ⟨gv, 0, none⟩ ∧ m.c1 = capv := by injection hvv with h1 h2 h3; exact ⟨h1, h3⟩
                have HMO := zH hmo
                have HM := zH hm
                have hmow := hmo.own
                unfold PM.vv at hmow
                rw [hA1] at hmow e0
                obtain ⟨b6, o6, y, hA6, hy6, hc6⟩ := (Sl.of_own Iv.cs_len hmo.len hmow).at (show m.n1 - 1 < m.n1 by omega)
                obtain ⟨rfl, rfl⟩ : gv = b6 ∧ 0 = o6 := by injection hA6 with h; injection h with h1 h2; exact ⟨h1, h2⟩
                obtain ⟨y0, y1, y2, y3, y4, y5, y6⟩ := IvAt.of hc6
                simp only [Nat.zero_add, Nat.add_zero] at y0 y1 y2 y3 y4 y5 y6 e0
                have hfz := fun q => hmow.frozenAt q
                have HO := zH (own_setLast ⟨vk, vi, vt⟩ hmow hmo.len hy6)
                have HL := zH hmo.len
                have HA1 := zH hA1
                have hou : ∀ i, w5'.cell? ⟨w.heap.size + 3, i, none⟩ = (#[.int .i64 ((N + 1 : Nat) : Int), .bool false, .slice (some ⟨gq, 0, none⟩) n' c'] : Array Value)[i]? := HS5.out.out.cell
                have hex := HFR.out.ex.cell
                have Hgv : Hid ((Value.slice (some ⟨gv, 0, none⟩) m.n1 m.c1).ownBlock = some gv) := zH rfl
                have hex1 : ¬ wr.heap.size = gv := fun e => by
                 have h1 := (own_lt hmow (k := gv) rfl).2.2
                 obtain ⟨cs, h1⟩ := h1
                 have h2 := HFR.out.ex
                 unfold Blk at h2
                 rw [e, h1] at h2
                 injection h2 with h2
                 injection h2 with _ h2
                 exact absurd h2 (by decide)
                obtain ⟨mn, Hmn⟩ : ∃ z, Hid (m.n1 = z) := ⟨_, rfl⟩
                obtain ⟨mc, Hmc⟩ : ∃ z, Hid (m.c1 = z) := ⟨_, rfl⟩
                rw [Hmn.out, Hmc.out] at HO e0
                rw [Hmn.out] at y0 y1 y2 y3 y4 y5 y6 hn1 hn64
                have hkb' : (1 : Int) ≤ (mn : Int) := by omega
                clear hvv hA6 hc6 hop2 hmp hmv hmo hm hmow hcp hA' hvq hy6 hA1 hc1 ho
                go_wp2_with fail
                go_meet
                case rel =>
                 have hbz : But (fun q => q = gv) w5' ((((w5'.setCell ⟨gv, (mn - 1) * 7 + 3, none⟩ (.int .i64 vk)).setCell ⟨gv, (mn - 1) * 7 + 4, none⟩ (.int .i64 vi)).setCell ⟨gv, (mn - 1) * 7 + 5, none⟩ (.string vt)).setCell ⟨gv, (mn - 1) * 7 + 6, none⟩ (.bool false)) :=
                  (((But.set (S := fun q => q = gv) _ (p := ⟨gv, (mn - 1) * 7 + 3, none⟩) rfl _).trans (But.set (S := fun q => q = gv) _ (p := ⟨gv, (mn - 1) * 7 + 4, none⟩) rfl _)).trans (But.set (S := fun q => q = gv) _ (p := ⟨gv, (mn - 1) * 7 + 5, none⟩) rfl _)).trans (But.set (S := fun q => q = gv) _ (p := ⟨gv, (mn - 1) * 7 + 6, none⟩) rfl _)
                 have hgo : m.vv.ownBlock = some gv := by unfold PM.vv; rw [HA1.out]; rfl
                 refine ⟨ms'.set j { m with A1 := m.A1, n1 := m.n1, c1 := m.c1, vs := setLast m.vs ⟨vk, vi, vt⟩ }, ?_, ?_, ?_, ?_⟩
                 · refine HS5.out.revals hbz (fun q hq => by rw [hq]; exact (own_lt HMO.out.own hgo).1) ?_ (set_map PM.r HM.out rfl)
                   refine HS5.out.parts.set HM.out ?_ ?_ ?_ (hbz.wide (fun q hq => .inr (by rw [hq]; exact hgo))) (fun q hq => .inl hq)
                   · rw [set_cs HM.out]
                     exact own_but HS5.out.parts.own hbz (fun q hq e => own_types HS5.out.parts.own HMO.out.own (by decide) hq (by rw [e]; exact hgo))
                   · rw [HA1.out, Hmn.out, Hmc.out]
                     exact HO.out
                   · rw [setLast_len]; exact HL.out
                 · rw [set_modify (f := fun q => (setLast q.1 ⟨vk, vi, vt⟩, q.2)) HM.out rfl]
                   unfold closeAt
                   rw [if_neg (by omega), Int.toNat_natCast]
                 · intro m2 hm2
                   rcases List.mem_or_eq_of_mem_set hm2 with h | h
                   · exact HFT.out m2 h
                   · rw [h]
                     show (setLast m.vs ⟨vk, vi, vt⟩).length ≤ 64
                     rw [setLast_len]
                     exact HFT.out m (List.mem_of_getElem? HM.out)
                 · exact HFR.out.but hbz (fun q hq => by rw [hq]; exact ⟨(own_lt HMO.out.own hgo).1, fun e => hex1 e.symm⟩)
             case rest =>
              obtain ⟨ms2, hS6, hpr6, hft6, hfr6⟩ := hcut
              have HS6 := zH hS6
              have HPR6 : Hid (ms2.map PM.pr = closeAt o ⟨vk, vi, vt⟩ (roomP (partsAt (GC.at_ ⟨N, a, b, xa, fa, Aa, na, ca, xb, fb, Ab, nb, cb, tb, tl, tr, w, w6.heap.size + 1⟩) K) (GC.at_ ⟨N, a, b, xa, fa, Aa, na, ca, xb, fb, Ab, nb, cb, tb, tl, tr, w, w6.heap.size + 1⟩ ⟨vk, vi, vt⟩))) := by
               rw [HPR.out] at hpr6
               exact zH hpr6
              have HFT6 := zH hft6
              have HFR6 := zH hfr6
              clear hS6 hpr6 hft6 hfr6 HS5 HPR HFT HFR
              go_upto_if 108 with fail
              go_cut [] (fun w7 => ∃ ms3, GS ⟨N, a, b, xa, fa, Aa, na, ca, xb, fb, Ab, nb, cb, tb, tl, tr, w, w6.heap.size + 1⟩ w7 A' n' c' ms3 (k + 1) K1' K2' ∧ ms3.map PM.pr = openAt now ⟨vk, vi, vt⟩ (ms2.map PM.pr) ∧ (∀ m ∈ ms3, m.vs.length ≤ 64) ∧ CFr w.heap.size (w6.heap.size + 1) wr.heap.size ⟨⟨vk, vi, vt⟩, xs, xp, xe⟩ i0 i1 bl ol qs w w7)
              case first =>
               rcases Int.lt_or_le now 0 with ho | ho
               · have g4 : decide (0 ≤ now) = false := by simp; omega
                 have g5 : decide (now < 0) = true := by simp; omega
                 have HO := zH ho
                 go_wp2_with fail
                 go_meet
                 case rel => exact ⟨ms2, HS6.out, by unfold openAt; rw [if_pos HO.out], HFT6.out, HFR6.out⟩
               · obtain ⟨j, rfl⟩ := Int.eq_ofNat_of_zero_le ho
                 have g4 : decide ((0 : Int) ≤ (j : Int)) = true := by simp
                 have hnp := now_part HNO.out
                 have hpj : (ms2.map PM.pr)[j]? = some (valsAt (GC.at_ ⟨N, a, b, xa, fa, Aa, na, ca, xb, fb, Ab, nb, cb, tb, tl, tr, w, w6.heap.size + 1⟩) K (GC.at_ ⟨N, a, b, xa, fa, Aa, na, ca, xb, fb, Ab, nb, cb, tb, tl, tr, w, w6.heap.size + 1⟩ ⟨vk, vi, vt⟩), GC.at_ ⟨N, a, b, xa, fa, Aa, na, ca, xb, fb, Ab, nb, cb, tb, tl, tr, w, w6.heap.size + 1⟩ ⟨vk, vi, vt⟩) := by
                  rw [HPR6.out, close_other HNE.out]
                  exact hnp
                 rw [List.getElem?_map, Option.map_eq_some_iff] at hpj
                 obtain ⟨m, hm, hmp⟩ := hpj
                 have Hmv : Hid (m.vs = valsAt (GC.at_ ⟨N, a, b, xa, fa, Aa, na, ca, xb, fb, Ab, nb, cb, tb, tl, tr, w, w6.heap.size + 1⟩) K (GC.at_ ⟨N, a, b, xa, fa, Aa, na, ca, xb, fb, Ab, nb, cb, tb, tl, tr, w, w6.heap.size + 1⟩ ⟨vk, vi, vt⟩)) := zH (congrArg Prod.fst hmp)
                 have hmo := HS6.out.parts.ok m (List.mem_of_getElem? hm)
                 have hpl := HS6.out.parts.len
                 have hjn : j < n' := by have := (List.getElem?_eq_some_iff.1 hm).1; omega
                 obtain ⟨gp, op, hA', hcp⟩ := (Sl.of_own PM.cs_len hpl HS6.out.parts.own).2 (by omega)
                 obtain ⟨gq, capq, hvq, _, _⟩ := HS6.out.parts.own.form (by omega)
                 obtain ⟨rfl, rfl⟩ : A' = some ⟨gq, 0, none⟩ ∧ c' = capq := by injection hvq with h1 h2 h3; exact ⟨h1, h3⟩
                 obtain ⟨rfl, rfl⟩ : gq = gp ∧ 0 = op := by injection hA' with h; injection h with h1 h2; exact ⟨h1, h2⟩
                 have e0 := hcp j m hm 0 _ rfl
                 simp only [Nat.zero_add, Nat.add_zero] at e0
                 have hn64 : m.n1 ≤ 64 := by rw [← hmo.len]; exact HFT6.out m (List.mem_of_getElem? hm)
                 have HL := zH hmo.len
                 have HMO := zH hmo
                 have HM := zH hm
                 obtain ⟨mA, HmA⟩ : ∃ z, Hid (m.A1 = z) := ⟨_, rfl⟩
                 obtain ⟨mn, Hmn⟩ : ∃ z, Hid (m.n1 = z) := ⟨_, rfl⟩
                 obtain ⟨mc, Hmc⟩ : ∃ z, Hid (m.c1 = z) := ⟨_, rfl⟩
                 rw [HmA.out, Hmn.out, Hmc.out] at e0
                 rw [Hmn.out] at hn64
                 have hou : ∀ i, wc.cell? ⟨w.heap.size + 3, i, none⟩ = (#[.int .i64 ((N + 1 : Nat) : Int), .bool false, .slice (some ⟨gq, 0, none⟩) n' c'] : Array Value)[i]? := HS6.out.out.cell
                 clear hnp hmp hmo hm hcp hA' hvq ho
                 by_cases h64 : mn = 64
                 · have g5 : ((mn : Int) == 64) = true := by simp; omega
                   have HNW : Hid (¬ within rr) := by
                    have := HCS.out.fail2 HGood.out HEV.out.1 HEV.out.2 HX.out Hbd.out HNO.out HNE.out (by omega) (by
                     show 64 ≤ (valsAt (GC.at_ ⟨N, a, b, xa, fa, Aa, na, ca, xb, fb, Ab, nb, cb, tb, tl, tr, w, w6.heap.size + 1⟩) K (GC.at_ ⟨N, a, b, xa, fa, Aa, na, ca, xb, fb, Ab, nb, cb, tb, tl, tr, w, w6.heap.size + 1⟩ ⟨vk, vi, vt⟩)).length
                     rw [← Hmv.out, HL.out, Hmn.out]; omega)
                    rw [← Hrr.out]
                    exact zH this
                   have HRB5 := zH HFR6.out.rb
                   have HBe5 := zH HFR6.out.be
                   clear h64
                   obtain ⟨ff1, ff2, ff3⟩ := put3R_free HRB5.out (.int .i64 0) (.bool false)
                   have F1 : Hid (Blk _ _ _ #[.int .i64 0, .bool false, .slice none 0 0]) := zH (HRB5.out.set_ 0 (.int .i64 0))
                   have F2 : Hid (Blk _ _ _ #[.int .i64 0, .bool false, .slice none 0 0]) := zH (F1.out.set_ 1 (.bool false))
                   have F3 : Hid (Blk _ _ _ #[.int .i64 0, .bool false, .slice none 0 0]) := zH (F2.out.set_ 2 (.slice none 0 0))
                   have y1 := F1.out.cell
                   have y2 := F2.out.cell
                   have y3 := F3.out.cell
                   have HBr := zH (put3R_below HBe5.out (show w.heap.size ≤ w.heap.size + 2 by omega) (.int .i64 0) (.bool false) (.slice none 0 0))
                   have z1 := HRB5.out.cell
                   go_wp2_with fail
                   exact bodyPost_ret (v := .tuple #[.agg #[.int .i64 0, .bool false, .slice none 0 0], .bool false]) (by simp [results, Tryz.results160, go_sem, y3]) rfl ⟨0, false, none, 0, 0, false, rfl, ⟨(fun h => by cases h), fun h => absurd h HNW.out⟩, (fun h => by cases h), HBr.out⟩
                 · have g5 : ((mn : Int) == 64) = false := by simp; omega
                   obtain ⟨iv0, hi0, hz0, hz1, hz2⟩ := info_parts info_iv
                   have hmow : wc.ownsRow (w6.heap.size + 1) 187 7 (.slice mA mn mc) mn (m.vs.flatMap Iv.cs) := by
                    have := HMO.out.own
                    unfold PM.vv at this
                    rw [HmA.out, Hmn.out, Hmc.out] at this
                    exact this
                   have hSq : ¬ (Value.slice mA mn mc).ownBlock = some gq := fun h => own_types hmow HS6.out.parts.own (by decide) h rfl
                   have hSe : ¬ (Value.slice mA mn mc).ownBlock = some wr.heap.size := fun h => by
                    obtain ⟨_, _, cs, h1⟩ := own_lt hmow h
                    have h2 := HFR6.out.ex
                    unfold Blk at h2
                    rw [h1] at h2
                    injection h2 with h2
                    injection h2 with _ h2
                    exact absurd h2 (by decide)
                   have HOW : Hid (wc.drew.ownsRow (w6.heap.size + 1) 187 7 (.slice mA mn mc) mn (m.vs.flatMap Iv.cs)) := zH hmow
                   have HMW := zH hmow
                   have hbWd : But (fun q => (Value.slice mA mn mc).ownBlock = some q) wc wc.drew := (But.refl _ _).drew
                   have hdz : wc.drew.heap.size = wc.heap.size := rfl
                   have HDZ := zH hdz
                   have hBwc : w6.heap.size + 1 ≤ wc.heap.size := HS6.out.fx.hB.2
                   have qe : ∀ (y : LaterS (fun q => (Value.slice mA mn mc).ownBlock = some q) wc.drew) i, (afterS (fun q => (Value.slice mA mn mc).ownBlock = some q) wc.drew y).cell? ⟨wr.heap.size, i, none⟩ = (#[.int .i64 vk, .int .i64 vi, .string vt, .int .i64 xs, .int .i64 xp, .bool xe] : Array Value)[i]? := fun y i => (HFR6.out.ex.drew.but y.but hSe).cell i
                   have qp : ∀ (y : LaterS (fun q => (Value.slice mA mn mc).ownBlock = some q) wc.drew), (afterS (fun q => (Value.slice mA mn mc).ownBlock = some q) wc.drew y).cell? ⟨gq, j * 4, none⟩ = some (.slice mA mn mc) := fun y => by
                    have h1 : wc.drew.cell? ⟨gq, j * 4, none⟩ = some (.slice mA mn mc) := e0
                    rw [cell_afterS y _ (by rw [h1]; rfl) hSq]
                    exact h1
                   clear hdz hmow
                   go_upto_region 27 with fail
                   refine wp_region_plan (fun q => (Value.slice mA mn mc).ownBlock = some q) (.one [0, 1, 2, 3, 4, 5, 6, 7] 8 (.one [] 9 (.one [] 10 (.fin [11] 12)))) (by kernel_rfl) (by kernel_rfl) (fun _ _ d _ _ h => by cases d <;> exact h) ?_
                   generalize hWd : wc.drew = Wd at *
                   clear hWd
                   unfold wpPlan
                   simp only [pickOps, opAt, pkO]
                   repeat (go_big_quiet_step (fail))
                   refine wpQuiet_nil ?_
                   go_wp2_with fail
                   refine ⟨But.alloc _ _, ?_⟩
                   unfold wpPlan
                   simp only [pickOps, opAt, pkO]
                   refine wpQuiet_nil ?_
                   go_wp2_with (at_builtin; refine wpList_append_one2 (by rfl) (.tmp 124) (.tmp 128) _ (by rfl) (w6.heap.size + 1) 187 iv0 _ 7 72 Tryz.underlying139 hi0 hz0 hz1 hz2 (by rfl) (by omega) (.slice mA mn mc) mn _ (by rfl) Wd _ HOW.out Wd.heap.size (by rfl) (by rfl) (by rfl) (one_iv ⟨⟨vk, vi, vt⟩, zeroV, true⟩) (by simp only [maxLen]; omega) (by omega) (by have := HDZ.out; omega) ?_; intro g9 cap9 w9 hown9 hg9 hB9 hat9 hlt9)
                   refine ⟨But.of_grown hg9 (fun k hk => hk), ?_⟩
                   have hbu9 : But (fun q => (Value.slice mA mn mc).ownBlock = some q) wc w9 := (hbWd.trans (But.alloc _ _)).trans (But.of_grown hg9 (fun k hk => hk))
                   have HV9 : Hid (w9.ownsRow (w6.heap.size + 1) 187 7 (.slice (some ⟨g9, 0, none⟩) (mn + 1) cap9) (mn + 1) ((m.vs ++ [Iv.mk ⟨vk, vi, vt⟩ zeroV true]).flatMap Iv.cs)) := by
                    refine zH ?_
                    rw [List.flatMap_append]
                    simpa [Iv.cs, zeroV] using hown9
                   have HPO9 := zH (own_but HS6.out.parts.own hbu9 (fun q hq hs => own_types HS6.out.parts.own HMW.out (by decide) hq hs))
                   have HB9 := zH hbu9
                   have HAT9 := zH hat9
                   have hs9 := hbu9.size
                   have e9 : w9.cell? ⟨gq, j * 4, none⟩ = some (.slice mA mn mc) := by
                    have hlt := cell_lt (w := wc) (a := ⟨gq, j * 4, none⟩) (by rw [e0]; rfl)
                    rw [World.cell?_of_block (w := wc) (hbu9.block gq hlt hSq)]
                    exact e0
                   have hfz := fun q => HPO9.out.frozenAt q
                   clear hg9 hB9 hat9 hown9 hbu9 qe qp
                   unfold wpPlan
                   simp only [pickOps, opAt, pkO]
                   refine wpQuiet_nil ?_
                   go_wp2_with fail
                   refine ⟨But.refl _ _, ?_⟩
                   unfold wpPlan
                   simp only [pickOps, opAt, pkO]
                   repeat (go_big_quiet_step (fail))
                   refine wpQuiet_nil ?_
                   go_wp2_with fail
                   go_meet
                   case rel =>
                    have hbz : But (fun q => q = gq) w9 (w9.setCell ⟨gq, j * 4, none⟩ (.slice (some ⟨g9, 0, none⟩) (mn + 1) cap9)) := But.set (S := fun q => q = gq) _ (p := ⟨gq, j * 4, none⟩) rfl _
                    have hbA : But (fun q => (Value.slice (some ⟨gq, 0, none⟩) n' c').ownBlock = some q ∨ m.vv.ownBlock = some q) wc (w9.setCell ⟨gq, j * 4, none⟩ (.slice (some ⟨g9, 0, none⟩) (mn + 1) cap9)) :=
                     (HB9.out.wide (fun q hq => .inr (by unfold PM.vv; rw [HmA.out, Hmn.out, Hmc.out]; exact hq))).trans (hbz.wide (fun q hq => .inl (by rw [hq]; rfl)))
                    have hge : ∀ q, ((Value.slice (some ⟨gq, 0, none⟩) n' c').ownBlock = some q ∨ m.vv.ownBlock = some q) → w6.heap.size + 1 ≤ q ∧ q ≠ wr.heap.size := fun q hq => by
                     rcases hq with hq | hq
                     · refine ⟨(own_lt HS6.out.parts.own hq).1, fun e => ?_⟩
                       obtain ⟨_, _, cs, h1⟩ := own_lt HS6.out.parts.own hq
                       have h2 := HFR6.out.ex
                       unfold Blk at h2
                       rw [← e, h1] at h2
                       injection h2 with h2
                       injection h2 with _ h2
                       exact absurd h2 (by decide)
                     · refine ⟨(own_lt HMO.out.own hq).1, fun e => hSe ?_⟩
                       unfold PM.vv at hq
                       rw [HmA.out, Hmn.out, Hmc.out, e] at hq
                       exact hq
                    refine ⟨ms2.set j { m with A1 := some ⟨g9, 0, none⟩, n1 := mn + 1, c1 := cap9, vs := m.vs ++ [Iv.mk ⟨vk, vi, vt⟩ zeroV true] }, ?_, ?_, ?_, HFR6.out.but hbA hge⟩
                    · refine HS6.out.revals hbA (fun q hq => (hge q hq).1) ?_ (set_map PM.r HM.out rfl)
                      refine HS6.out.parts.set HM.out ?_ ?_ ?_ hbA (fun q hq => ?_)
                      · rw [← flat_set PM.cs_len (u := .slice (some ⟨g9, 0, none⟩) (mn + 1) cap9) (j := 0) ms2 j m HM.out (by omega) rfl]
                        exact (HPO9.out.stored _ _).1
                      · exact own_but HV9.out hbz (fun q hq e => own_types HV9.out HPO9.out (by decide) hq (by rw [e]; rfl))
                      · rw [List.length_append, HL.out, Hmn.out]; rfl
                      · simp only [Value.ownBlock, Option.some.injEq] at hq
                        subst hq
                        rcases HAT9.out with h | h
                        · left
                          unfold PM.vv
                          rw [HmA.out, Hmn.out, Hmc.out]
                          exact h
                        · right
                          have := HDZ.out
                          omega
                    · rw [set_modify (f := fun q => (q.1 ++ [Iv.mk ⟨vk, vi, vt⟩ zeroV true], q.2)) HM.out rfl]
                      unfold openAt
                      rw [if_neg (by omega), Int.toNat_natCast]
                    · intro m2 hm2
                      rcases List.mem_or_eq_of_mem_set hm2 with h | h
                      · exact HFT6.out m2 h
                      · rw [h]
                        show (m.vs ++ [_]).length ≤ 64
                        rw [List.length_append, HL.out, Hmn.out]
                        simp only [List.length_cons, List.length_nil]
                        omega
              case rest =>
               obtain ⟨ms3, hS7, hpr7, hft7, hfr7⟩ := hcut
               have HS7 := zH hS7
               have HPR7 : Hid (ms3.map PM.pr = openAt now ⟨vk, vi, vt⟩ (closeAt o ⟨vk, vi, vt⟩ (roomP (partsAt (GC.at_ ⟨N, a, b, xa, fa, Aa, na, ca, xb, fb, Ab, nb, cb, tb, tl, tr, w, w6.heap.size + 1⟩) K) (GC.at_ ⟨N, a, b, xa, fa, Aa, na, ca, xb, fb, Ab, nb, cb, tb, tl, tr, w, w6.heap.size + 1⟩ ⟨vk, vi, vt⟩)))) := by
                rw [HPR6.out] at hpr7
                exact zH hpr7
               have HFT7 := zH hft7
               have HFR7 := zH hfr7
               clear hS7 hpr7 hft7 hfr7 HS6 HPR6 HFT6 HFR6
               go_wp2_with fail
               go_roundg (qs.length - (k + 1))
               case measure => omega
               case rel =>
                refine ⟨k + 1, now, by omega, rfl, by go_num, rfl, zH ⟨_, ms3, A', n', c', K1', K2', HCS.out.turn HGood.out HEV.out.2 HX.out Hbd.out HNO.out HNE.out HPR7.out (fun m hm => ⟨HFT7.out m hm, (HS7.out.good m hm).2.2.1.2⟩), HS7.out, ?_, HFR7.out.rb, HFR7.out.sl⟩⟩
                rw [Hcv.out.1, Hcv.out.2]
                exact HFR7.out.cu
       · go_wp2_with fail
         go_roundg (qs.length - (k + 1))
         case measure => omega
         case rel =>
          refine ⟨k + 1, o, by omega, rfl, by go_num, rfl, zH ⟨K, ms, A, n, c, K1, K2, ?_, ?_, HCU4.out, HRB4.out, HSL4.out⟩⟩
          · have h1 := Hbb.out
            cases hy : qs[k + 1]? with
            | none => rw [hy] at h1; cases h1
            | some y =>
              rw [hy] at h1
              exact HCS.out.skip HX.out hy (of_decide_eq_true h1)
          · have h2 := HS4.out
            exact { h2 with km := h2.km.mono (Nat.le_succ _) }
  · obtain ⟨K, ms, A, n, c, K1, K2, hC, hS, hcu, hrb, hsl⟩ := HR.out
    obtain rfl : k = qs.length := by omega
    have HRB : Hid (Blk wr (w.heap.size + 2) 71 #[.int .i64 0, .bool false, .slice none 0 0]) := zH hrb
    have HOU : Hid (Blk wr (w.heap.size + 3) 71 #[.int .i64 ((N + 1 : Nat) : Int), .bool false, .slice A n c]) := zH hS.out
    have hBel : Below w.heap.size w wr := hS.fx.bel
    have HPA : Hid (PartsIn (w6.heap.size + 1) wr A n c ms) := zH hS.parts
    have HD : Hid (mkR ((N + 1 : Nat) : Int) false (ms.map PM.pr) = rr ∧ within rr) := by
     have := hC.done HEV.out.1 hS.size
     rw [← Hrr.out]
     exact zH this
    have hfB := hS.fx.hB
    clear hC hS hcu hrb hsl HR
    have hou := HOU.out.cell
    have hrc := HRB.out.cell
    obtain ⟨xx, Hxx⟩ : ∃ z : Int, Hid (((N + 1 : Nat) : Int) = z) := ⟨_, rfl⟩
    rw [Hxx.out] at HOU hou
    obtain ⟨ff1, ff2, ff3⟩ := put3R_free HRB.out (.int .i64 xx) (.bool false)
    have F1 : Hid (Blk _ _ _ #[.int .i64 xx, .bool false, .slice none 0 0]) := zH (HRB.out.set_ 0 (.int .i64 xx))
    have F2 : Hid (Blk _ _ _ #[.int .i64 xx, .bool false, .slice none 0 0]) := zH (F1.out.set_ 1 (.bool false))
    have F3 : Hid (Blk _ _ _ #[.int .i64 xx, .bool false, .slice A n c]) := zH (F2.out.set_ 2 (.slice A n c))
    have y1 := F1.out.cell
    have y2 := F2.out.cell
    have y3 := F3.out.cell
    have HBr := zH (put3R_below hBel (show w.heap.size ≤ w.heap.size + 2 by omega) (.int .i64 xx) (.bool false) (.slice A n c))
    have HPr := zH (HPA.out.but (put3R_but wr (w.heap.size + 2) (.int .i64 xx) (.bool false) (.slice A n c)) (fun q hq => by have h0 : w.heap.size + 13 ≤ w6.heap.size + 1 := hfB.1; omega))
    clear hBel
    go_wp2
    refine bodyPost_ret (v := .tuple #[.agg #[.int .i64 xx, .bool false, .slice A n c], .bool true]) (by simp [results, Tryz.results160, go_sem, y3]) rfl ⟨xx, false, A, n, c, true, rfl, ⟨fun _ => HD.out.2, fun _ => rfl⟩, fun _ => ?_, HBr.out⟩
    have h1 := HPr.out.region xx
    have h2 := HD.out.1
    rw [Hxx.out] at h2
    rw [h2] at h1
    exact h1.wide (by omega) (Nat.le_refl _)
theorem comb_any (tb tl tr : Bool) : ∀ N, N ≤ 12 → CombC N tb tl tr
 | 0, _ => comb_zero tb tl tr
 | N + 1, h => comb_succ N tb tl tr (comb_any tb tl tr N (by omega)) h
end Go.Proofs.YtnnmlhmffnfjfaaGreat
