/-
  Texts: IgSch.
-/
import Derived.Test.YtponkkljlbifmaaGreatH26
set_option linter.unusedVariables false
/-
  Case.Schema: a good schema.
-/
namespace Go.Proofs.YtponkkljlbifmaaGreat
open Go.RowKit
set_option maxRecDepth 100000
open Pd

def sT0 (id : Int) (rs : List Rf) (cs : List Pd) : Tb := ⟨⟨#[112, 114, 111, 106, 101, 99, 116, 115]⟩, [⟨⟨#[105, 100]⟩, 4⟩, ⟨⟨#[111, 119, 110, 101, 114]⟩, 4⟩], 1, rs, cs⟩
def sT1 (id : Int) (rs : List Rf) (cs : List Pd) : Tb := ⟨⟨#[116, 97, 115, 107, 115]⟩, [⟨⟨#[105, 100]⟩, id⟩, ⟨⟨#[112, 114, 111, 106, 101, 99, 116]⟩, 4⟩, ⟨⟨#[116, 105, 116, 108, 101]⟩, 5⟩, ⟨⟨#[100, 111, 110, 101]⟩, 3⟩], 1, rs, cs⟩
def sT2 (id : Int) (rs : List Rf) (cs : List Pd) : Tb := ⟨⟨#[109, 101, 109, 98, 101, 114, 115]⟩, [⟨⟨#[112, 114, 111, 106, 101, 99, 116]⟩, 4⟩, ⟨⟨#[112, 101, 114, 115, 111, 110]⟩, 4⟩], 2, rs, cs⟩
def sT3 (id : Int) (rs : List Rf) (cs : List Pd) : Tb := ⟨⟨#[97, 114, 99, 104, 105, 118, 101, 100]⟩, [⟨⟨#[116, 97, 115, 107]⟩, id⟩], 1, rs, cs⟩
def schL (id : Int) (b1 b2 b3 : Bool) (ck : List Pd) : List Tb := [sT0 id [] [], sT1 id (if b1 then [⟨[1], 0⟩] else []) ck, sT2 id (if b2 then [⟨[0], 0⟩] else []) [], sT3 id (if b3 then [⟨[0], 1⟩] else []) []]
/-- a table that reads wherever the blocks outside S stay -/
def TbZ (S : Nat → Prop) (w : World) (e : TbE) : Prop := ∀ w', But S w w' → TbOk w' e
theorem TbZ.step {S : Nat → Prop} {w w' : World} {e : TbE} (h : TbZ S w e) (hb : But S w w') : TbZ S w' e := fun w2 h2 => h w2 (hb.trans h2)
theorem TbZ.but {S S' : Nat → Prop} {w w' : World} {e : TbE} (h : TbZ S w e) (hb : But S' w w') (hS : ∀ k, S' k → S k) : TbZ S w' e := h.step ⟨hb.os, hb.tape, hb.output, hb.size, fun k hk hs => hb.block k hk (fun e => hs (hS k e))⟩
/-- the schema in the making: R the result's box, tb the tables, X the schema's box -/
structure SchI (w : World) (g R tb X : Nat) (ver : Int) (m : Nat) (wr : World) (es : List TbE) : Prop where
  len : es.length = 4
  tbl : Blk wr tb 62 (es.flatMap TbE.cs).toArray
  ok : ∀ e ∈ es, TbZ (fun k => k = g ∨ k = tb ∨ k = X ∨ k = R) wr e
  x : Blk wr X 30 #[.int .i64 ver, .slice (some ⟨tb, 0, none⟩) m 4]
  r : Blk wr R 30 #[.int .i64 0, .slice none 0 0]
  ca : CaseAt wr g
  bu : But (· = g) w wr
  hR : R = w.heap.size
  gl : g < R
  rt : R < tb
  tx : tb < X
theorem SchI.case {w wr w' : World} {g R tb X m : Nat} {ver : Int} {es : List TbE} (h : SchI w g R tb X ver m wr es) (hc : CaseAt w' g) (hb : But (· = g) wr w') : SchI w g R tb X ver m w' es :=
  have h1 := h.gl
  have h2 := h.rt
  have h3 := h.tx
  ⟨h.len, h.tbl.but hb (by omega), fun e he => (h.ok e he).but hb (fun k hk => .inl hk), h.x.but hb (by omega), h.r.but hb (by omega), hc, h.bu.trans hb, h.hR, h1, h2, h3⟩
theorem cols_of {w : World} {b : Nat} {l : List Cm} (h : Blk w b 56 (l.flatMap Cm.cs).toArray) : Sl 2 Cm.cs w (some ⟨b, 0, none⟩) l.length l :=
  ⟨rfl, fun _ => ⟨b, 0, rfl, fun k x hx j u hu => by
    have := h.cell (0 + k * 2 + j)
    rw [this, Nat.zero_add, List.getElem?_toArray, flat_at Cm.cs_len l k x j u hx hu]⟩⟩
theorem tb_new {S : Nat → Prop} {w : World} {b : Nat} {T : Tb} (hr : T.refs = []) (hc : T.chks = []) (h : Blk w b 56 (T.cols.flatMap Cm.cs).toArray) (hb : ¬ S b) : TbZ S w ⟨T, (some ⟨b, 0, none⟩, T.cols.length, T.cols.length), (none, 0, 0), (none, 0, 0)⟩ := fun w' hw =>
  ⟨cols_of (h.but hw hb), ⟨[], ⟨Sl.nil, by rw [hr]; rfl, fun _ h => absurd h List.not_mem_nil⟩⟩, ⟨[], ⟨Sl.nil, by rw [hc]; rfl, fun _ h => absurd h List.not_mem_nil⟩⟩⟩
abbrev SSc (g R tb X : Nat) : Nat → Prop := fun k => k = g ∨ k = tb ∨ k = X ∨ k = R
theorem SchI.below {w wr w' : World} {g R tb X m : Nat} {ver : Int} {es : List TbE} (h : SchI w g R tb X ver m wr es) (hb : Below wr.heap.size wr w') : SchI w g R tb X ver m w' es := h.case (h.ca.below hb) (But.ofB hb)
/-- a cell of a table is written -/
theorem SchI.put {w wr : World} {g R tb X m : Nat} {ver : Int} {es : List TbE} (h : SchI w g R tb X ver m wr es) {i j o : Nat} {e e' : TbE} {u : Value} (he : es[i]? = some e) (hj : j < 5) (ho : o = i * 5 + j) (hcs : e'.cs = e.cs.set j u) (hok : TbZ (SSc g R tb X) wr e') : SchI w g R tb X ver m (wr.setCell ⟨tb, o, none⟩ u) (es.set i e') := by
  have h1 := h.gl
  have h2 := h.rt
  have h3 := h.tx
  have hb : But (· = tb) wr (wr.setCell ⟨tb, o, none⟩ u) := But.set (S := (· = tb)) wr (p := ⟨tb, o, none⟩) rfl _
  have h4 := h.hR
  refine ⟨by rw [List.length_set]; exact h.len, ?_, fun x hx => ?_, h.x.but hb (by omega), h.r.but hb (by omega), h.ca.far hb (fun b e => by subst e; omega), ⟨hb.os.trans h.bu.os, hb.tape.trans h.bu.tape, hb.output.trans h.bu.output, Nat.le_trans h.bu.size hb.size, fun k hk hs => (hb.block k (Nat.lt_of_lt_of_le hk h.bu.size) (by omega)).trans (h.bu.block k hk hs)⟩, h.hR, h1, h2, h3⟩
  · have := h.tbl.set_ o u
    rw [List.setIfInBounds_toArray, ho, flat_set TbE.cs_len es i e he hj hcs] at this
    rw [ho]
    exact this
  · rcases List.mem_or_eq_of_mem_set hx with hx | rfl
    · exact (h.ok x hx).but hb (fun k hk => .inr (.inl hk))
    · exact hok.but hb (fun k hk => .inr (.inl hk))
theorem TbZ.refs {S : Nat → Prop} {w : World} {e : TbE} (h : TbZ S w e) {q p : Nat} {k t : Int} (h1 : Blk w q 3 #[.int .i64 k]) (h2 : Blk w p 65 #[.slice (some ⟨q, 0, none⟩) 1 1, .int .i64 t]) (hq : ¬ S q) (hp : ¬ S p) : TbZ S w ⟨⟨e.T.nm, e.T.cols, e.T.key, [⟨[k], t⟩], e.T.chks⟩, e.c, (some ⟨p, 0, none⟩, 1, 1), e.h⟩ := fun w' hw =>
  ⟨(h w' hw).cs, ⟨[⟨⟨[k], t⟩, some ⟨q, 0, none⟩, 1, 1⟩], ⟨rfl, fun _ => ⟨p, 0, rfl, fun k' x hx j u hu => by
    have := (h2.but hw hp).cell (0 + k' * 2 + j)
    have h3 := flat_at RfE.cs_len [⟨⟨[k], t⟩, some ⟨q, 0, none⟩, 1, 1⟩] k' x j u hx hu
    rw [this, Nat.zero_add, ← h3, ← Array.getElem?_toList]
    rfl⟩⟩, rfl, fun x hx => by
      obtain rfl := List.mem_singleton.1 hx
      exact ⟨rfl, fun _ => ⟨q, 0, rfl, fun k' y hy j u hu => by
        have := (h1.but hw hq).cell (0 + k' * 1 + j)
        have h3 := flat_at i64c_len [k] k' y j u hy hu
        rw [this, Nat.zero_add, ← h3, ← Array.getElem?_toList]
        rfl⟩⟩⟩, (h w' hw).hs⟩
theorem TbZ.chks {S : Nat → Prop} {w : World} {e : TbE} (h : TbZ S w e) {q : Nat} {y : PdE} {cells : Array Value} (h1 : Blk w q 71 cells) (hc : cells.toList = PdE.cs y) (hy : ∀ w', But S w w' → PrdS w' y.A y.n y.c y.p) (hq : ¬ S q) : TbZ S w ⟨⟨e.T.nm, e.T.cols, e.T.key, e.T.refs, [y.p]⟩, e.c, e.r, (some ⟨q, 0, none⟩, 1, 1)⟩ := fun w' hw =>
  ⟨(h w' hw).cs, (h w' hw).rs, ⟨[y], ⟨rfl, fun _ => ⟨q, 0, rfl, fun k x hx j u hu => by
    have := (h1.but hw hq).cell (0 + k * 13 + j)
    have h3 := flat_at PdE.cs_len [y] k x j u hx hu
    rw [this, Nat.zero_add, ← h3, ← Array.getElem?_toList, hc]
    simp⟩⟩, rfl, fun x hx => by
      obtain rfl := List.mem_singleton.1 hx
      exact hy w' hw⟩⟩
/-- the columns' blocks in the making -/
structure Mk5 (w : World) (g R : Nat) (wc : World) (bs : List (Nat × List Cm)) : Prop where
  r : Blk wc R 30 #[.int .i64 0, .slice none 0 0]
  ca : CaseAt wc g
  bu : But (· = g) w wc
  hR : R = w.heap.size
  gl : g < R
  bl : ∀ p ∈ bs, Blk wc p.1 56 (p.2.flatMap Cm.cs).toArray ∧ R < p.1
theorem Mk5.below {w wc w' : World} {g R : Nat} {bs : List (Nat × List Cm)} (h : Mk5 w g R wc bs) (hb : Below wc.heap.size wc w') : Mk5 w g R w' bs :=
  ⟨h.r.below hb, h.ca.below hb, h.bu.trans (But.ofB hb), h.hR, h.gl, fun p hp => ⟨(h.bl p hp).1.below hb, (h.bl p hp).2⟩⟩
theorem Mk5.alloc {w wc : World} {g R : Nat} {bs : List (Nat × List Cm)} (h : Mk5 w g R wc bs) (cells : Array Value) (l : List Cm) (hc : cells = (l.flatMap Cm.cs).toArray) : Mk5 w g R (wc.alloc (.cells cells 56)) ((wc.heap.size, l) :: bs) := by
  have h1 := h.below ((Below.refl wc.heap.size wc).alloc (Nat.le_refl _) (.cells cells 56))
  refine ⟨h1.r, h1.ca, h1.bu, h1.hR, h1.gl, fun p hp => ?_⟩
  rcases List.mem_cons.1 hp with rfl | hp
  · exact ⟨by rw [← hc]; exact Blk.new wc _ cells, h.r.lt⟩
  · exact h1.bl p hp
def eT0 (id : Int) (b : Nat) : TbE := ⟨sT0 id [] [], (some ⟨b, 0, none⟩, 2, 2), (none, 0, 0), (none, 0, 0)⟩
def eT1 (id : Int) (b : Nat) : TbE := ⟨sT1 id [] [], (some ⟨b, 0, none⟩, 4, 4), (none, 0, 0), (none, 0, 0)⟩
def eT2 (id : Int) (b : Nat) : TbE := ⟨sT2 id [] [], (some ⟨b, 0, none⟩, 2, 2), (none, 0, 0), (none, 0, 0)⟩
def eT3 (id : Int) (b : Nat) : TbE := ⟨sT3 id [] [], (some ⟨b, 0, none⟩, 1, 1), (none, 0, 0), (none, 0, 0)⟩
theorem Mk5.made {w wA : World} {g c0 c1 c2 c3 : Nat} {id : Int} (ver : Int) (m : Nat) (cells : Array Value) (h : Mk5 w g w.heap.size wA [(c3, (sT3 id [] []).cols), (c2, (sT2 id [] []).cols), (c1, (sT1 id [] []).cols), (c0, (sT0 id [] []).cols)]) (hs : wA.heap.size = c3 + 1) (hce : cells = ([eT0 id c0, eT1 id c1, eT2 id c2, eT3 id c3].flatMap TbE.cs).toArray) :
    SchI w g w.heap.size (c3 + 1) (c3 + 1 + 1) ver m ((wA.alloc (.cells cells 62)).alloc (.cells #[.int .i64 ver, .slice (some ⟨c3 + 1, 0, none⟩) m 4] 30)) [eT0 id c0, eT1 id c1, eT2 id c2, eT3 id c3] := by
  subst hce
  have hb1 : Below wA.heap.size wA ((wA.alloc (.cells ([eT0 id c0, eT1 id c1, eT2 id c2, eT3 id c3].flatMap TbE.cs).toArray 62)).alloc (.cells #[.int .i64 ver, .slice (some ⟨c3 + 1, 0, none⟩) m 4] 30)) := ((Below.refl _ _).alloc (Nat.le_refl _) _).alloc (by simp) _
  have k3 := h.bl (c3, (sT3 id [] []).cols) (by simp)
  have k2 := h.bl (c2, (sT2 id [] []).cols) (by simp)
  have k1 := h.bl (c1, (sT1 id [] []).cols) (by simp)
  have k0 := h.bl (c0, (sT0 id [] []).cols) (by simp)
  have h2 := h.below hb1
  have l3 := k3.1.lt
  have l2 := k2.1.lt
  have l1 := k1.1.lt
  have l0 := k0.1.lt
  have j3 := k3.2
  have j2 := k2.2
  have j1 := k1.2
  have j0 := k0.2
  have hg := h.gl
  simp only [] at l3 l2 l1 l0 j3 j2 j1 j0
  refine ⟨rfl, ?_, ?_, ?_, h2.r, h2.ca, h2.bu, rfl, h.gl, by omega, by omega⟩
  · have := (Blk.new wA 62 ([eT0 id c0, eT1 id c1, eT2 id c2, eT3 id c3].flatMap TbE.cs).toArray).alloc (.cells #[.int .i64 ver, .slice (some ⟨c3 + 1, 0, none⟩) m 4] 30)
    rw [hs] at this
    exact this
  · intro e he
    simp only [List.mem_cons, List.not_mem_nil, or_false] at he
    rcases he with rfl | rfl | rfl | rfl
    · exact tb_new (T := sT0 id [] []) rfl rfl (h2.bl (c0, (sT0 id [] []).cols) (by simp)).1 (by omega)
    · exact tb_new (T := sT1 id [] []) rfl rfl (h2.bl (c1, (sT1 id [] []).cols) (by simp)).1 (by omega)
    · exact tb_new (T := sT2 id [] []) rfl rfl (h2.bl (c2, (sT2 id [] []).cols) (by simp)).1 (by omega)
    · exact tb_new (T := sT3 id [] []) rfl rfl (h2.bl (c3, (sT3 id [] []).cols) (by simp)).1 (by omega)
  · have := Blk.new (wA.alloc (.cells ([eT0 id c0, eT1 id c1, eT2 id c2, eT3 id c3].flatMap TbE.cs).toArray 62)) 30 #[.int .i64 ver, .slice (some ⟨c3 + 1, 0, none⟩) m 4]
    rw [World.size_alloc, hs] at this
    exact this
theorem SchI.at {w wr : World} {g R tb X m : Nat} {ver : Int} {es : List TbE} (h : SchI w g R tb X ver m wr es) {i j o : Nat} (hi : i < 4) (hj : j < 5) (ho : o = i * 5 + j) : ∃ v, wr.cell? ⟨tb, o, none⟩ = some v := by
  obtain ⟨e, he⟩ : ∃ e, es[i]? = some e := ⟨_, List.getElem?_eq_getElem (by rw [h.len]; exact hi)⟩
  have := h.tbl.cell o
  have h1 := flat_at TbE.cs_len es i e j _ he (List.getElem?_eq_getElem (by rw [TbE.cs_len]; exact hj))
  exact ⟨_, by rw [this, ho, List.getElem?_toArray, h1]⟩
/-- a reference is set -/
theorem sch_ref {w wr : World} {g R tb X m q p o i : Nat} {ver k t : Int} {es : List TbE} {Ts Ts' : List Tb} {T : Tb} (h : SchI w g R tb X ver m wr es) (hi : i < 4) (ho : o = i * 5 + 3) (hT : es.map (·.T) = Ts) (hTs : Ts[i]? = some T ∧ Ts.set i ⟨T.nm, T.cols, T.key, [⟨[k], t⟩], T.chks⟩ = Ts') (h1 : Blk wr q 3 #[.int .i64 k]) (h2 : Blk wr p 65 #[.slice (some ⟨q, 0, none⟩) 1 1, .int .i64 t]) (hq : X < q ∧ X < p) :
    ∃ es', Hid (SchI w g R tb X ver m (wr.setCell ⟨tb, o, none⟩ (.slice (some ⟨p, 0, none⟩) 1 1)) es' ∧ es'.map (·.T) = Ts') := by
  have l1 := h.gl
  have l2 := h.rt
  have l3 := h.tx
  obtain ⟨e, he⟩ : ∃ e, es[i]? = some e := ⟨_, List.getElem?_eq_getElem (by rw [h.len]; exact hi)⟩
  have hTe : T = e.T := by
    have := hTs.1
    rw [← hT, List.getElem?_map, he] at this
    injection this with this
    exact this.symm
  refine ⟨_, Lib.hid ⟨h.put he (j := 3) (by omega) ho rfl ((h.ok e (List.mem_of_getElem? he)).refs h1 h2 (by omega) (by omega)), ?_⟩⟩
  rw [List.map_set, hT, ← hTs.2, hTe]
/-- a check is set -/
theorem sch_chk {w wr : World} {g R tb X m q o i : Nat} {ver : Int} {es : List TbE} {Ts Ts' : List Tb} {T : Tb} {y : PdE} {cells : Array Value} (h : SchI w g R tb X ver m wr es) (hi : i < 4) (ho : o = i * 5 + 4) (hT : es.map (·.T) = Ts) (hTs : Ts[i]? = some T ∧ Ts.set i ⟨T.nm, T.cols, T.key, T.refs, [y.p]⟩ = Ts') (h1 : Blk wr q 71 cells) (hc : cells.toList = PdE.cs y) (hy : ∀ w', But (SSc g R tb X) wr w' → PrdS w' y.A y.n y.c y.p) (hq : X < q) :
    ∃ es', Hid (SchI w g R tb X ver m (wr.setCell ⟨tb, o, none⟩ (.slice (some ⟨q, 0, none⟩) 1 1)) es' ∧ es'.map (·.T) = Ts') := by
  have l1 := h.gl
  have l2 := h.rt
  have l3 := h.tx
  obtain ⟨e, he⟩ : ∃ e, es[i]? = some e := ⟨_, List.getElem?_eq_getElem (by rw [h.len]; exact hi)⟩
  have hTe : T = e.T := by
    have := hTs.1
    rw [← hT, List.getElem?_map, he] at this
    injection this with this
    exact this.symm
  refine ⟨_, Lib.hid ⟨h.put he (j := 4) (by omega) ho rfl ((h.ok e (List.mem_of_getElem? he)).chks h1 hc hy (by omega)), ?_⟩⟩
  rw [List.map_set, hT, ← hTs.2, hTe]
/-- the checks of the second table -/
def ckOk (id : Int) (ck : List Pd) : Prop := ck = [] ∨ ∃ p, ck = [p] ∧ checkE (sT1 id [] []).kinds [] p = 0 ∧ p.nodes ≤ 40
theorem depth_nodes : ∀ p : Pd, p.depth ≤ p.nodes
  | .nil _ => Nat.le_refl _
  | .cons a t => by
    have := depth_nodes a
    have := depth_nodes t
    have : 1 ≤ t.nodes := by
      have := depth_pos t
      omega
    simp only [Pd.depth, Pd.nodes]
    omega
theorem SchI.sc {w wr : World} {g R tb X m : Nat} {ver : Int} {es : List TbE} (h : SchI w g R tb X ver m wr es) (hm : m ≤ 4) : ScN g wr (some ⟨tb, 0, none⟩) m ((es.map (·.T)).take m) := fun w' hw => by
  have l1 := h.gl
  have l2 := h.rt
  have l3 := h.tx
  refine ⟨es.take m, ⟨by rw [List.length_take, h.len]; omega, fun _ => ⟨tb, 0, rfl, fun k x hx j u hu => ?_⟩⟩, by rw [List.map_take], fun e he => h.ok e (List.mem_of_mem_take he) w' (hw.wide fun k hk => .inl hk)⟩
  have h1 := (h.tbl.but hw (by omega)).cell (0 + k * 5 + j)
  have hx2 : es[k]? = some x := by
    rw [List.getElem?_take] at hx
    split at hx
    · exact hx
    · cases hx
  have h3 := flat_at TbE.cs_len es k x j u hx2 hu
  rw [h1, Nat.zero_add, List.getElem?_toArray, h3]
theorem SchI.fin {w wr wf : World} {g R tb X m : Nat} {ver : Int} {es : List TbE} {Ts : List Tb} (h : SchI w g R tb X ver m wr es) (hm : m ≤ 4) (hT : es.map (·.T) = Ts) (hb : But (· = R) wr wf) : ScN g wf (some ⟨tb, 0, none⟩) m (Ts.take m) ∧ CaseAt wf g ∧ But (· = g) w wf := by
  have l1 := h.gl
  have l2 := h.rt
  have l3 := h.tx
  have l4 := h.hR
  refine ⟨fun w' hw => ?_, h.ca.far hb (fun b e => by subst e; omega), ⟨hb.os.trans h.bu.os, hb.tape.trans h.bu.tape, hb.output.trans h.bu.output, Nat.le_trans h.bu.size hb.size, fun k hk hs => (hb.block k (Nat.lt_of_lt_of_le hk h.bu.size) (by omega)).trans (h.bu.block k hk hs)⟩⟩
  have hb2 : But (fun k => k = g ∨ k = R) wr w' := (hb.wide fun k hk => .inr hk).trans (hw.wide fun k hk => .inl hk)
  refine ⟨es.take m, ⟨by rw [List.length_take, h.len]; omega, fun _ => ⟨tb, 0, rfl, fun k x hx j u hu => ?_⟩⟩, by rw [List.map_take, hT], fun e he => h.ok e (List.mem_of_mem_take he) w' (hb2.wide fun k hk => by rcases hk with hk | hk; exact .inl hk; exact .inr (.inr (.inr hk)))⟩
  have h1 := (h.tbl.but hb2 (by omega)).cell (0 + k * 5 + j)
  have hx2 : es[k]? = some x := by
    rw [List.getElem?_take] at hx
    split at hx
    · exact hx
    · cases hx
  have h3 := flat_at TbE.cs_len es k x j u hx2 hu
  rw [h1, Nat.zero_add, List.getElem?_toArray, h3]
def SchemaO (g : Nat) (w : World) (e : Ending) (w' : World) : Prop := ∃ (ver : Int) (b n : Nat) (tbs : List Tb), e = .returned (.agg #[.int .i64 ver, .slice (some ⟨b, 0, none⟩) n 4]) ∧ ScN g w' (some ⟨b, 0, none⟩) n tbs ∧ GoodS ver tbs ∧ 2 ≤ n ∧ n ≤ 4 ∧ CaseAt w' g ∧ But (· = g) w w'
theorem schL_nd (id : Int) (b1 b2 b3 : Bool) (ck : List Pd) : ((schL id b1 b2 b3 ck).map fun T => T.nm.data.toList).Nodup := by
  show ([[112, 114, 111, 106, 101, 99, 116, 115], [116, 97, 115, 107, 115], [109, 101, 109, 98, 101, 114, 115], [97, 114, 99, 104, 105, 118, 101, 100]] : List (List UInt8)).Nodup
  decide
theorem schL_cols {id : Int} {b1 b2 b3 : Bool} {ck : List Pd} (hid : id = 4 ∨ id = 5) {T : Tb} (hT : T ∈ schL id b1 b2 b3 ck) : nameB T.nm = true ∧ (∀ c ∈ T.cols, nameB c.nm = true ∧ kindB c.k = true) ∧ (T.cols.map fun c => c.nm.data.toList).Nodup ∧ 1 ≤ T.key ∧ T.key ≤ (T.cols.length : Int) ∧ T.cols.length ≤ 8 ∧ T.refs.length ≤ 1 := by
  have h1 : nameB ⟨#[112, 114, 111, 106, 101, 99, 116, 115]⟩ = true := by kernel_rfl
  have h2 : nameB ⟨#[116, 97, 115, 107, 115]⟩ = true := by kernel_rfl
  have h3 : nameB ⟨#[109, 101, 109, 98, 101, 114, 115]⟩ = true := by kernel_rfl
  have h4 : nameB ⟨#[97, 114, 99, 104, 105, 118, 101, 100]⟩ = true := by kernel_rfl
  have h5 : nameB ⟨#[105, 100]⟩ = true := by kernel_rfl
  have h6 : nameB ⟨#[111, 119, 110, 101, 114]⟩ = true := by kernel_rfl
  have h7 : nameB ⟨#[112, 114, 111, 106, 101, 99, 116]⟩ = true := by kernel_rfl
  have h8 : nameB ⟨#[116, 105, 116, 108, 101]⟩ = true := by kernel_rfl
  have h9 : nameB ⟨#[100, 111, 110, 101]⟩ = true := by kernel_rfl
  have ha : nameB ⟨#[112, 101, 114, 115, 111, 110]⟩ = true := by kernel_rfl
  have hb : nameB ⟨#[116, 97, 115, 107]⟩ = true := by kernel_rfl
  have hk : kindB id = true := by rcases hid with rfl | rfl <;> rfl
  have k3 : kindB 3 = true := rfl
  have k4 : kindB 4 = true := rfl
  have k5 : kindB 5 = true := rfl
  simp only [schL, List.mem_cons, List.not_mem_nil, or_false] at hT
  rcases hT with rfl | rfl | rfl | rfl
  · refine ⟨h1, ?_, ?_, by show (1 : Int) ≤ 1; decide, by show (1 : Int) ≤ 2; decide, by show 2 ≤ 8; decide, Nat.zero_le _⟩
    · simp only [sT0, List.forall_mem_cons]
      exact ⟨⟨h5, k4⟩, ⟨h6, k4⟩, fun _ h => absurd h List.not_mem_nil⟩
    · show ([[105, 100], [111, 119, 110, 101, 114]] : List (List UInt8)).Nodup
      decide
  · refine ⟨h2, ?_, ?_, by show (1 : Int) ≤ 1; decide, by show (1 : Int) ≤ 4; decide, by show 4 ≤ 8; decide, by show (if b1 = true then _ else _ : List Rf).length ≤ 1; split <;> decide⟩
    · simp only [sT1, List.forall_mem_cons]
      exact ⟨⟨h5, hk⟩, ⟨h7, k4⟩, ⟨h8, k5⟩, ⟨h9, k3⟩, fun _ h => absurd h List.not_mem_nil⟩
    · show ([[105, 100], [112, 114, 111, 106, 101, 99, 116], [116, 105, 116, 108, 101], [100, 111, 110, 101]] : List (List UInt8)).Nodup
      decide
  · refine ⟨h3, ?_, ?_, by show (1 : Int) ≤ 2; decide, by show (2 : Int) ≤ 2; decide, by show 2 ≤ 8; decide, by show (if b2 = true then _ else _ : List Rf).length ≤ 1; split <;> decide⟩
    · simp only [sT2, List.forall_mem_cons]
      exact ⟨⟨h7, k4⟩, ⟨ha, k4⟩, fun _ h => absurd h List.not_mem_nil⟩
    · show ([[112, 114, 111, 106, 101, 99, 116], [112, 101, 114, 115, 111, 110]] : List (List UInt8)).Nodup
      decide
  · refine ⟨h4, ?_, ?_, by show (1 : Int) ≤ 1; decide, by show (1 : Int) ≤ 1; decide, by show 1 ≤ 8; decide, by show (if b3 = true then _ else _ : List Rf).length ≤ 1; split <;> decide⟩
    · simp only [sT3, List.forall_mem_cons]
      exact ⟨⟨hb, hk⟩, fun _ h => absurd h List.not_mem_nil⟩
    · show ([[116, 97, 115, 107]] : List (List UInt8)).Nodup
      decide
theorem schL_good {id : Int} {b1 b2 b3 : Bool} {ck : List Pd} {m : Nat} {ver : Int} (hid : id = 4 ∨ id = 5) (hck : ckOk id ck) (hm : 2 ≤ m ∧ m ≤ 4) (hv : 0 ≤ ver ∧ ver ≤ 1000) : GoodS ver ((schL id b1 b2 b3 ck).take m) := by
  have h0 : ((schL id b1 b2 b3 ck).take m)[0]? = some (sT0 id [] []) := by rw [List.getElem?_take, if_pos (by omega)]; rfl
  have h1 : ((schL id b1 b2 b3 ck).take m)[1]? = some (sT1 id (if b1 then [⟨[1], 0⟩] else []) ck) := by rw [List.getElem?_take, if_pos (by omega)]; rfl
  refine ⟨hv.1, hv.2, ?_, fun T hT => ?_, ?_, fun T hT x hx => ?_⟩
  · rw [List.length_take]
    show min m 4 ≤ 8
    omega
  · obtain ⟨a1, a2, a3, a4, a5, a6, a7⟩ := schL_cols hid (List.mem_of_mem_take hT)
    have hc : T.chks = [] ∨ (T.chks = ck ∧ T.kinds = (sT1 id [] []).kinds) := by
      have := List.mem_of_mem_take hT
      simp only [schL, List.mem_cons, List.not_mem_nil, or_false] at this
      rcases this with rfl | rfl | rfl | rfl
      · exact .inl rfl
      · exact .inr ⟨rfl, rfl⟩
      · exact .inl rfl
      · exact .inl rfl
    refine ⟨a1, a2, a3, a4, a5, a6, by omega, ?_, fun p hp => ?_⟩
    · rcases hc with h | ⟨h, _⟩
      · rw [h]; exact Nat.zero_le _
      · rw [h]
        rcases hck with h | ⟨p, h, _⟩
        · rw [h]; exact Nat.zero_le _
        · rw [h]; exact (by decide : 1 ≤ 4)
    · rcases hc with h | ⟨h, h2⟩
      · rw [h] at hp; cases hp
      · rw [h] at hp
        rw [h2]
        rcases hck with h | ⟨q, h, h3⟩
        · rw [h] at hp; cases hp
        · rw [h] at hp
          obtain rfl := List.mem_singleton.1 hp
          exact h3
  · exact ((List.take_sublist m (schL id b1 b2 b3 ck)).map _).nodup (schL_nd id b1 b2 b3 ck)
  · have := List.mem_of_mem_take hT
    simp only [schL, List.mem_cons, List.not_mem_nil, or_false] at this
    rcases this with rfl | rfl | rfl | rfl
    · cases hx
    · have hx' : x ∈ (if b1 = true then [⟨[1], 0⟩] else [] : List Rf) := hx
      split at hx'
      · obtain rfl := List.mem_singleton.1 hx'
        refine ⟨Int.le_refl _, _, h0, rfl, fun i c h => ?_⟩
        cases i with
        | zero =>
          obtain rfl : 1 = c := by simpa using h
          exact ⟨by decide, _, _, rfl, rfl, rfl⟩
        | succ i => cases h
      · cases hx'
    · have hx' : x ∈ (if b2 = true then [⟨[0], 0⟩] else [] : List Rf) := hx
      split at hx'
      · obtain rfl := List.mem_singleton.1 hx'
        refine ⟨Int.le_refl _, _, h0, rfl, fun i c h => ?_⟩
        cases i with
        | zero =>
          obtain rfl : 0 = c := by simpa using h
          exact ⟨by decide, _, _, rfl, rfl, rfl⟩
        | succ i => cases h
      · cases hx'
    · have hx' : x ∈ (if b3 = true then [⟨[0], 1⟩] else [] : List Rf) := hx
      split at hx'
      · obtain rfl := List.mem_singleton.1 hx'
        refine ⟨by decide, _, h1, rfl, fun i c h => ?_⟩
        cases i with
        | zero =>
          obtain rfl : 0 = c := by simpa using h
          exact ⟨by decide, _, _, rfl, rfl, rfl⟩
        | succ i => cases h
      · cases hx'
theorem ck_one {id : Int} {p : Pd} (hid : id = 4 ∨ id = 5) (hv : validB (sT1 id [] []).kinds [] p = true) (hn : p.nodes ≤ 4) : ckOk id [p] := by
  refine .inr ⟨p, rfl, ?_, by omega⟩
  have h1 : colB (sT1 id [] []).kinds = true := by rcases hid with rfl | rfl <;> decide
  have h2 := depth_nodes p
  unfold checkE
  rw [h1, if_pos (by decide), if_pos (by omega), if_pos hv]
set_option maxRecDepth 100000 in
set_option maxHeartbeats 16000000 in
theorem cschema_any (g : Nat) (w : World) (hc : CaseAt w g) :
    Calls Tryz.prog 7 #[.pointer (some ⟨g, 0, none⟩)] w fun e w' => SchemaO g w e w' := by
  have hgl := hc.lt
  have HR := Lib.hid (Blk.new w 30 #[.int .i64 0, .slice none 0 0])
  have HB := Lib.hid ((Below.refl w.heap.size w).alloc (Nat.le_refl _) (.cells #[.int .i64 0, .slice none 0 0] 30))
  have HC := Lib.hid (hc.below HB.out)
  clear hc
  go_enter Tryz.func7, Tryz.ntmps7
  go_wp2_with fail
  refine (int_any g 3 _ HC.out (by omega) (by omega)).mono ?_
  rintro e w1 ⟨⟨y, hy1, hy2, rfl⟩, hc1, hb1⟩
  obtain ⟨yn, rfl⟩ := Int.eq_ofNat_of_zero_le hy1
  have HY : Hid (yn ≤ 2) := Lib.hid (by omega)
  have HR1 := Lib.hid (HR.out.but hb1 (by omega))
  have HC1 := Lib.hid hc1
  have HB1 : Hid (But (· = g) w w1) := Lib.hid ((But.ofB HB.out).trans hb1)
  clear hy1 hy2 hc1 hb1 HR HC HB
  go_wp2_with fail
  refine (bool_any g 5 _ HC1.out (by omega) (by omega)).mono ?_
  rintro e w2 ⟨⟨b0, rfl⟩, hc2, hb2⟩
  have HR2 := Lib.hid (HR1.out.but hb2 (by omega))
  have HC2 := Lib.hid hc2
  have HB2 := Lib.hid (HB1.out.trans hb2)
  clear hc2 hb2 HR1 HC1 HB1
  go_upto_if 10 with fail
  go_cut [4] from 6 (fun v wc => wc = w2 ∧ ∃ id : Int, v = .int .i64 id ∧ Hid (id = 4 ∨ id = 5))
  case first =>
    cases b0
    · go_wp2
      go_meet
      case rel => exact ⟨rfl, 4, rfl, Lib.hid (.inl rfl)⟩
    · go_wp2
      go_meet
      case rel => exact ⟨rfl, 5, rfl, Lib.hid (.inr rfl)⟩
  case rest =>
  obtain ⟨rfl, id, rfl, Hid4⟩ := hcut
  obtain ⟨m, HM2, hwm⟩ : ∃ m : Nat, Hid (2 ≤ m ∧ m ≤ 4) ∧ wrap64 (2 + (yn : Int)) = (m : Int) := ⟨2 + yn, Lib.hid (by have := HY.out; omega), by have := HY.out; unfold wrap64; omega⟩
  rw [hwm]
  clear hwm HY
  go_wp2_with fail
  refine (int_any g 3 _ HC2.out (by omega) (by omega)).mono ?_
  rintro e w3 ⟨⟨ver, hv1, hv2, rfl⟩, hc3, hb3⟩
  have HVer : Hid (0 ≤ ver ∧ ver ≤ 1000) := Lib.hid ⟨hv1, by omega⟩
  have HM : Hid (Mk5 w g w.heap.size w3 []) := Lib.hid ⟨HR2.out.but hb3 (by omega), hc3, HB2.out.trans hb3, rfl, hgl, fun _ h => absurd h List.not_mem_nil⟩
  clear hv1 hv2 hc3 hb3 HR2 HC2 HB2
  go_wp2_with fail
  refine (column_any _ _ _).mono ?_
  rintro e w4 ⟨rfl, hb⟩
  replace HM := Lib.hid (HM.out.below hb)
  clear hb
  go_wp2_with fail
  refine (column_any _ _ _).mono ?_
  rintro e w5 ⟨rfl, hb⟩
  replace HM := Lib.hid (HM.out.below hb)
  clear hb
  replace HM := Lib.hid (HM.out.alloc #[.string ⟨#[105, 100]⟩, .int .i64 4, .string ⟨#[111, 119, 110, 101, 114]⟩, .int .i64 4] [⟨⟨#[105, 100]⟩, 4⟩, ⟨⟨#[111, 119, 110, 101, 114]⟩, 4⟩] (by rfl))
  obtain ⟨c0, hc0⟩ : ∃ z, w5.heap.size = z := ⟨_, rfl⟩
  rw [hc0] at HM
  go_wp2_with fail
  refine (column_any _ _ _).mono ?_
  rintro e w6 ⟨rfl, hb⟩
  replace HM := Lib.hid (HM.out.below hb)
  clear hb
  go_wp2_with fail
  refine (column_any _ _ _).mono ?_
  rintro e w7 ⟨rfl, hb⟩
  replace HM := Lib.hid (HM.out.below hb)
  clear hb
  go_wp2_with fail
  refine (column_any _ _ _).mono ?_
  rintro e w8 ⟨rfl, hb⟩
  replace HM := Lib.hid (HM.out.below hb)
  clear hb
  go_wp2_with fail
  refine (column_any _ _ _).mono ?_
  rintro e w9 ⟨rfl, hb⟩
  replace HM := Lib.hid (HM.out.below hb)
  clear hb
  replace HM := Lib.hid (HM.out.alloc #[.string ⟨#[105, 100]⟩, .int .i64 id, .string ⟨#[112, 114, 111, 106, 101, 99, 116]⟩, .int .i64 4, .string ⟨#[116, 105, 116, 108, 101]⟩, .int .i64 5, .string ⟨#[100, 111, 110, 101]⟩, .int .i64 3] [⟨⟨#[105, 100]⟩, id⟩, ⟨⟨#[112, 114, 111, 106, 101, 99, 116]⟩, 4⟩, ⟨⟨#[116, 105, 116, 108, 101]⟩, 5⟩, ⟨⟨#[100, 111, 110, 101]⟩, 3⟩] (by rfl))
  obtain ⟨c1, hc1⟩ : ∃ z, w9.heap.size = z := ⟨_, rfl⟩
  rw [hc1] at HM
  go_wp2_with fail
  refine (column_any _ _ _).mono ?_
  rintro e w10 ⟨rfl, hb⟩
  replace HM := Lib.hid (HM.out.below hb)
  clear hb
  go_wp2_with fail
  refine (column_any _ _ _).mono ?_
  rintro e w11 ⟨rfl, hb⟩
  replace HM := Lib.hid (HM.out.below hb)
  clear hb
  replace HM := Lib.hid (HM.out.alloc #[.string ⟨#[112, 114, 111, 106, 101, 99, 116]⟩, .int .i64 4, .string ⟨#[112, 101, 114, 115, 111, 110]⟩, .int .i64 4] [⟨⟨#[112, 114, 111, 106, 101, 99, 116]⟩, 4⟩, ⟨⟨#[112, 101, 114, 115, 111, 110]⟩, 4⟩] (by rfl))
  obtain ⟨c2, hc2⟩ : ∃ z, w11.heap.size = z := ⟨_, rfl⟩
  rw [hc2] at HM
  go_wp2_with fail
  refine (column_any _ _ _).mono ?_
  rintro e w12 ⟨rfl, hb⟩
  replace HM := Lib.hid (HM.out.below hb)
  clear hb
  replace HM := Lib.hid (HM.out.alloc #[.string ⟨#[116, 97, 115, 107]⟩, .int .i64 id] [⟨⟨#[116, 97, 115, 107]⟩, id⟩] (by rfl))
  obtain ⟨c3, hc3⟩ : ∃ z, w12.heap.size = z := ⟨_, rfl⟩
  rw [hc3] at HM
  go_upto_region 6 with fail
  have HI := Lib.hid (HM.out.made ver 4 #[.string ⟨#[112, 114, 111, 106, 101, 99, 116, 115]⟩, .slice (some ⟨c0, 0, none⟩) 2 2, .int .i64 1, .slice none 0 0, .slice none 0 0, .string ⟨#[116, 97, 115, 107, 115]⟩, .slice (some ⟨c1, 0, none⟩) 4 4, .int .i64 1, .slice none 0 0, .slice none 0 0, .string ⟨#[109, 101, 109, 98, 101, 114, 115]⟩, .slice (some ⟨c2, 0, none⟩) 2 2, .int .i64 2, .slice none 0 0, .slice none 0 0, .string ⟨#[97, 114, 99, 104, 105, 118, 101, 100]⟩, .slice (some ⟨c3, 0, none⟩) 1 1, .int .i64 1, .slice none 0 0, .slice none 0 0] (by rw [World.size_alloc, hc3]) (by rfl))
  have zx := HI.out.x.cell
  have zf := HI.out.x.free
  replace HI := Lib.hid (HM.out.made ver m #[.string ⟨#[112, 114, 111, 106, 101, 99, 116, 115]⟩, .slice (some ⟨c0, 0, none⟩) 2 2, .int .i64 1, .slice none 0 0, .slice none 0 0, .string ⟨#[116, 97, 115, 107, 115]⟩, .slice (some ⟨c1, 0, none⟩) 4 4, .int .i64 1, .slice none 0 0, .slice none 0 0, .string ⟨#[109, 101, 109, 98, 101, 114, 115]⟩, .slice (some ⟨c2, 0, none⟩) 2 2, .int .i64 2, .slice none 0 0, .slice none 0 0, .string ⟨#[97, 114, 99, 104, 105, 118, 101, 100]⟩, .slice (some ⟨c3, 0, none⟩) 1 1, .int .i64 1, .slice none 0 0, .slice none 0 0] (by rw [World.size_alloc, hc3]) (by rfl))
  clear HM
  have HM4 := HM2.out
  have HM5 := HM4.1
  have HM6 := HM4.2
  have hdm : decide (1 < m) = true := by simp; omega
  go_upto_region 7 with fail
  generalize (((w12.alloc (.cells #[.string ⟨#[116, 97, 115, 107]⟩, .int .i64 id] 56)).alloc (.cells #[.string ⟨#[112, 114, 111, 106, 101, 99, 116, 115]⟩, .slice (some ⟨c0, 0, none⟩) 2 2, .int .i64 1, .slice none 0 0, .slice none 0 0, .string ⟨#[116, 97, 115, 107, 115]⟩, .slice (some ⟨c1, 0, none⟩) 4 4, .int .i64 1, .slice none 0 0, .slice none 0 0, .string ⟨#[109, 101, 109, 98, 101, 114, 115]⟩, .slice (some ⟨c2, 0, none⟩) 2 2, .int .i64 2, .slice none 0 0, .slice none 0 0, .string ⟨#[97, 114, 99, 104, 105, 118, 101, 100]⟩, .slice (some ⟨c3, 0, none⟩) 1 1, .int .i64 1, .slice none 0 0, .slice none 0 0] 62)).alloc (.cells #[.int .i64 ver, .slice (some ⟨c3 + 1, 0, none⟩) m 4] 30)) = w13 at HI ⊢
  clear zx zf
  go_wp2_with fail
  refine (bool_any g 2 _ HI.out.ca (by omega) (by omega)).mono ?_
  rintro e w14 ⟨⟨b1, rfl⟩, hc2, hb2⟩
  replace HI := Lib.hid (HI.out.case hc2 hb2)
  clear hc2 hb2
  go_upto_if 40 with fail
  go_cut [] from 39 (fun wc => ∃ es, Hid (SchI w g w.heap.size (c3 + 1) (c3 + 1 + 1) ver m wc es ∧ es.map (·.T) = schL id b1 false false []))
  case first =>
    cases b1
    · go_wp2
      go_meet
      case rel => exact ⟨_, Lib.hid ⟨HI.out, rfl⟩⟩
    · have zx := HI.out.x.cell
      have hal : Below w14.heap.size w14 ((w14.alloc (.cells #[.int .i64 1] 3)).alloc (.cells #[.slice (some ⟨w14.heap.size, 0, none⟩) 1 1, .int .i64 0] 65)) := ((Below.refl _ _).alloc (Nat.le_refl _) _).alloc (by simp) _
      have zt := (HI.out.below hal).tbl.free
      obtain ⟨v, zv⟩ := (HI.out.below hal).at (i := 1) (j := 3) (o := 8) (by omega) (by omega) rfl
      replace hal := Lib.hid hal
      go_wp2
      go_meet
      case rel =>
        have h1 := (Blk.new w14 3 #[.int .i64 1]).alloc (.cells #[.slice (some ⟨w14.heap.size, 0, none⟩) 1 1, .int .i64 0] 65)
        have h2 := Blk.new (w14.alloc (.cells #[.int .i64 1] 3)) 65 #[.slice (some ⟨w14.heap.size, 0, none⟩) 1 1, .int .i64 0]
        rw [World.size_alloc] at h2
        exact sch_ref (HI.out.below hal.out) (i := 1) (by omega) rfl (Ts := schL id false false false []) rfl ⟨rfl, rfl⟩ h1 h2 (by have := HI.out.x.lt; omega)
  case rest =>
  clear HI
  obtain ⟨es, HE⟩ := hcut
  have HI := Lib.hid HE.out.1
  have HT := Lib.hid HE.out.2
  clear HE
  go_upto_region 9 with fail
  go_cut [53] from 48 (fun v wc => ∃ bb : Bool, v = .bool bb ∧ Hid (bb = true → 2 < m) ∧ Hid (SchI w g w.heap.size (c3 + 1) (c3 + 1 + 1) ver m wc es))
  case first =>
    by_cases hlt : 2 < m
    · have hdt : decide (2 < m) = true := by simp [hlt]
      go_wp2_with fail
      refine (bool_any g 3 _ HI.out.ca (by omega) (by omega)).mono ?_
      rintro e w14 ⟨⟨bb, rfl⟩, hc2, hb2⟩
      replace HI := Lib.hid (HI.out.case hc2 hb2)
      clear hc2 hb2
      go_wp2
      go_meet
      case rel => exact ⟨bb, rfl, Lib.hid (fun _ => hlt), HI⟩
    · have hdt : decide (2 < m) = false := by simp [hlt]
      go_wp2
      go_meet
      case rel => exact ⟨false, rfl, Lib.hid (fun h => by cases h), HI⟩
  case rest =>
  clear HI
  obtain ⟨b2, rfl, HBB, HI⟩ := hcut
  go_upto_if 53 with fail
  go_cut [] from 48 (fun wc => ∃ es, Hid (SchI w g w.heap.size (c3 + 1) (c3 + 1 + 1) ver m wc es ∧ es.map (·.T) = schL id b1 b2 false []))
  case first =>
    cases b2
    · go_wp2
      go_meet
      case rel => exact ⟨_, Lib.hid ⟨HI.out, HT.out⟩⟩
    · have hlt := HBB.out rfl
      have hdt : decide (2 < m) = true := by simp [hlt]
      have zx := HI.out.x.cell
      have hal : Below wc.heap.size wc ((wc.alloc (.cells #[.int .i64 0] 3)).alloc (.cells #[.slice (some ⟨wc.heap.size, 0, none⟩) 1 1, .int .i64 0] 65)) := ((Below.refl _ _).alloc (Nat.le_refl _) _).alloc (by simp) _
      have zt := (HI.out.below hal).tbl.free
      obtain ⟨v, zv⟩ := (HI.out.below hal).at (i := 2) (j := 3) (o := 13) (by omega) (by omega) rfl
      replace hal := Lib.hid hal
      go_wp2
      go_meet
      case rel =>
        have h1 := (Blk.new wc 3 #[.int .i64 0]).alloc (.cells #[.slice (some ⟨wc.heap.size, 0, none⟩) 1 1, .int .i64 0] 65)
        have h2 := Blk.new (wc.alloc (.cells #[.int .i64 0] 3)) 65 #[.slice (some ⟨wc.heap.size, 0, none⟩) 1 1, .int .i64 0]
        rw [World.size_alloc] at h2
        exact sch_ref (HI.out.below hal.out) (i := 2) (by omega) rfl HT.out ⟨rfl, rfl⟩ h1 h2 (by have := HI.out.x.lt; omega)
  case rest =>
  clear HI HT HBB
  obtain ⟨es, HE⟩ := hcut
  have HI := Lib.hid HE.out.1
  have HT := Lib.hid HE.out.2
  clear HE
  go_upto_region 11 with fail
  go_cut [66] from 61 (fun v wc => ∃ bb : Bool, v = .bool bb ∧ Hid (bb = true → 3 < m) ∧ Hid (SchI w g w.heap.size (c3 + 1) (c3 + 1 + 1) ver m wc es))
  case first =>
    by_cases hlt : 3 < m
    · have hdt : decide (3 < m) = true := by simp [hlt]
      go_wp2_with fail
      refine (bool_any g 3 _ HI.out.ca (by omega) (by omega)).mono ?_
      rintro e w14 ⟨⟨bb, rfl⟩, hc2, hb2⟩
      replace HI := Lib.hid (HI.out.case hc2 hb2)
      clear hc2 hb2
      go_wp2
      go_meet
      case rel => exact ⟨bb, rfl, Lib.hid (fun _ => hlt), HI⟩
    · have hdt : decide (3 < m) = false := by simp [hlt]
      go_wp2
      go_meet
      case rel => exact ⟨false, rfl, Lib.hid (fun h => by cases h), HI⟩
  case rest =>
  clear HI
  obtain ⟨b3, rfl, HBB, HI⟩ := hcut
  go_upto_if 66 with fail
  go_cut [] from 61 (fun wc => ∃ es, Hid (SchI w g w.heap.size (c3 + 1) (c3 + 1 + 1) ver m wc es ∧ es.map (·.T) = schL id b1 b2 b3 []))
  case first =>
    cases b3
    · go_wp2
      go_meet
      case rel => exact ⟨_, Lib.hid ⟨HI.out, HT.out⟩⟩
    · have hlt := HBB.out rfl
      have hdt : decide (3 < m) = true := by simp [hlt]
      have zx := HI.out.x.cell
      have hal : Below wc.heap.size wc ((wc.alloc (.cells #[.int .i64 0] 3)).alloc (.cells #[.slice (some ⟨wc.heap.size, 0, none⟩) 1 1, .int .i64 1] 65)) := ((Below.refl _ _).alloc (Nat.le_refl _) _).alloc (by simp) _
      have zt := (HI.out.below hal).tbl.free
      obtain ⟨v, zv⟩ := (HI.out.below hal).at (i := 3) (j := 3) (o := 18) (by omega) (by omega) rfl
      replace hal := Lib.hid hal
      go_wp2
      go_meet
      case rel =>
        have h1 := (Blk.new wc 3 #[.int .i64 0]).alloc (.cells #[.slice (some ⟨wc.heap.size, 0, none⟩) 1 1, .int .i64 1] 65)
        have h2 := Blk.new (wc.alloc (.cells #[.int .i64 0] 3)) 65 #[.slice (some ⟨wc.heap.size, 0, none⟩) 1 1, .int .i64 1]
        rw [World.size_alloc] at h2
        exact sch_ref (HI.out.below hal.out) (i := 3) (by omega) rfl HT.out ⟨rfl, rfl⟩ h1 h2 (by have := HI.out.x.lt; omega)
  case rest =>
  clear HI HT HBB
  obtain ⟨es, HE⟩ := hcut
  have HI := Lib.hid HE.out.1
  have HT := Lib.hid HE.out.2
  clear HE
  go_wp2_with fail
  refine (bool_any g 3 _ HI.out.ca (by omega) (by omega)).mono ?_
  rintro e w20 ⟨⟨b4, rfl⟩, hc2, hb2⟩
  replace HI := Lib.hid (HI.out.case hc2 hb2)
  clear hc2 hb2
  go_upto_if 75 with fail
  go_cut [] from 74 (fun wc => ∃ es ck, Hid (ckOk id ck) ∧ Hid (SchI w g w.heap.size (c3 + 1) (c3 + 1 + 1) ver m wc es ∧ es.map (·.T) = schL id b1 b2 b3 ck))
  case first =>
    cases b4
    · go_wp2
      go_meet
      case rel => exact ⟨_, [], Lib.hid (.inl rfl), Lib.hid ⟨HI.out, HT.out⟩⟩
    · have zx := HI.out.x.cell
      go_upto_region 14 with fail
      have HI5 := Lib.hid (HI.out.below ((Below.refl _ _).drew))
      clear HI zx
      generalize hWn : w20.drew = Wn at *
      have hXg : ¬ (c3 + 1 + 1 = g ∨ c3 + 1 + 1 = c3 + 1) := by have h1 := HI5.out.gl; have h2 := HI5.out.rt; omega
      have qx : ∀ (x : LaterS (fun k => k = g ∨ k = c3 + 1) Wn) j, (afterS (fun k => k = g ∨ k = c3 + 1) Wn x).cell? ⟨c3 + 1 + 1, j, none⟩ = (#[.int .i64 ver, .slice (some ⟨c3 + 1, 0, none⟩) m 4] : Array Value)[j]? := fun x j => (HI5.out.x.but x.but hXg).cell j
      refine wp_region_segS (fun k => k = g ∨ k = c3 + 1) [([0, 1, 2, 3], 4), ([], 5), ([], 6), ([7, 8], 9)] [] (by kernel_rfl) (by kernel_rfl) (fun _ _ d _ _ h => by cases d <;> exact h) ?_
      rw [hWn]
      clear hWn
      simp only [pickSegs, pickOps, opAt, List.map_cons, List.map_nil, List.getElem?_toArray, List.getElem?_cons_zero, List.getElem?_cons_succ, Option.getD_some]
      unfold wpBlocksS
      repeat (go_big_quiet_step (fail))
      refine wpQuiet_nil ?_
      clear qx hXg
      go_wp2_with fail
      obtain ⟨R1, HR1⟩ : ∃ R1, Hid ((if b1 = true then [⟨[1], 0⟩] else [] : List Rf) = R1) := ⟨_, Lib.hid rfl⟩
      refine (rkinds_any ver _ m 4 _ 1 (sT1 id R1 []) _ (HI5.out.sc HM6 _ (But.refl _ _)) (by omega) (by rw [List.getElem?_take, if_pos (by omega), HT.out, ← HR1.out]; rfl) (by show 4 ≤ 8; decide)).mono ?_
      rintro e w5 ⟨KA, kc, rfl, hown, hb5⟩
      have HI6 := Lib.hid (HI5.out.below hb5)
      have HKd : Hid (ClJ w5.heap.size g w5 KA 4 (sT1 id [] []).kinds) := Lib.hid ⟨KdsO.cl hown, fun hn b o hA => by
        have h1 := (own_lt hown (k := b) (by rw [hA]; rfl)).1
        have h2 := (own_lt hown (k := b) (by rw [hA]; rfl)).2
        have h3 := HI5.out.bu.size
        exact ⟨by omega, .inl h2.1⟩⟩
      clear hown
      go_wp2_with fail
      refine ⟨But.ofB hb5, ?_⟩
      unfold wpBlocksS
      refine wpQuiet_nil ?_
      clear hb5 HI5
      go_wp2_with fail
      refine (predicateK_any 4 (sT1 id [] []).kinds 1 (by decide) (by decide) (by decide) w5.heap.size g KA 4 kc 1 _ rfl HI6.out.ca HKd.out (by decide) (by rcases Hid4.out with h | h <;> rw [h] <;> decide)).mono ?_
      rintro e w6 ⟨p, PA, pn, pc, rfl, hp, hpv, hpw, hc6, hb6, hpn⟩
      have HI7 := Lib.hid (HI6.out.case hc6 hb6)
      have HCk := Lib.hid (ck_one Hid4.out hpv hpn)
      have HP := Lib.hid hp
      have HXs : Hid (c3 + 1 + 1 < w5.heap.size) := Lib.hid HI6.out.x.lt
      clear hp hpv hpw hc6 hpn HI6 HKd
      unfold pdV
      go_wp2_with fail
      refine ⟨hb6.wide (fun k hk => .inl hk), ?_⟩
      unfold wpBlocksS
      refine wpQuiet_nil ?_
      clear hb6
      go_wp2_with fail
      refine ⟨But.alloc _ _, ?_⟩
      unfold wpBlocksS
      have hal : Below w6.heap.size w6 (w6.alloc (.cells #[.int .i64 p.h.op, .int .i64 p.h.cm, .int .i64 p.h.l.k, .int .i64 p.h.l.ix, .int .i64 p.h.l.v.k, .int .i64 p.h.l.v.i, .string p.h.l.v.t, .int .i64 p.h.r.k, .int .i64 p.h.r.ix, .int .i64 p.h.r.v.k, .int .i64 p.h.r.v.i, .string p.h.r.v.t, .slice PA pn pc] 71)) := (Below.refl _ _).alloc (Nat.le_refl _) _
      have hbl := Lib.hid (Blk.new w6 71 #[.int .i64 p.h.op, .int .i64 p.h.cm, .int .i64 p.h.l.k, .int .i64 p.h.l.ix, .int .i64 p.h.l.v.k, .int .i64 p.h.l.v.i, .string p.h.l.v.t, .int .i64 p.h.r.k, .int .i64 p.h.r.ix, .int .i64 p.h.r.v.k, .int .i64 p.h.r.v.i, .string p.h.r.v.t, .slice PA pn pc])
      have HI8 := Lib.hid (HI7.out.below hal)
      have HP8 := Lib.hid (HP.out.below hal)
      have h6 : Hid (w6.heap.size + 1 = (w6.alloc (.cells #[.int .i64 p.h.op, .int .i64 p.h.cm, .int .i64 p.h.l.k, .int .i64 p.h.l.ix, .int .i64 p.h.l.v.k, .int .i64 p.h.l.v.i, .string p.h.l.v.t, .int .i64 p.h.r.k, .int .i64 p.h.r.ix, .int .i64 p.h.r.v.k, .int .i64 p.h.r.v.i, .string p.h.r.v.t, .slice PA pn pc] 71)).heap.size) := Lib.hid (by simp)
      have h7 : Hid (c3 + 1 + 1 < w6.heap.size) := Lib.hid HI7.out.x.lt
      clear hal HI7 HP
      generalize w6.alloc (.cells #[.int .i64 p.h.op, .int .i64 p.h.cm, .int .i64 p.h.l.k, .int .i64 p.h.l.ix, .int .i64 p.h.l.v.k, .int .i64 p.h.l.v.i, .string p.h.l.v.t, .int .i64 p.h.r.k, .int .i64 p.h.r.ix, .int .i64 p.h.r.v.k, .int .i64 p.h.r.v.i, .string p.h.r.v.t, .slice PA pn pc] 71) = w8 at *
      repeat (go_big_quiet_step (fail))
      refine wpQuiet_nil ?_
      have zt := HI8.out.tbl.free
      obtain ⟨v, zv⟩ := HI8.out.at (i := 1) (j := 4) (o := 9) (by omega) (by omega) rfl
      go_wp2_with fail
      refine ⟨But.set (S := fun k => k = g ∨ k = c3 + 1) w8 (p := ⟨c3 + 1, 9, none⟩) (.inr rfl) _, ?_⟩
      unfold wpBlocksS
      refine wpQuiet_nil ?_
      go_wp2
      go_meet
      case rel =>
        obtain ⟨es', he'⟩ := sch_chk (y := ⟨p, PA, pn, pc⟩) HI8.out (i := 1) (by omega) rfl HT.out ⟨rfl, rfl⟩ hbl.out rfl (fun w' hw => (HP8.out.but hw (fun b hb _ hs => by have h1 := HI8.out.gl; have h2 := HI8.out.rt; have h3 := HI8.out.tx; have h4 := HXs.out; omega)).s) h7.out
        exact ⟨es', _, HCk, he'⟩
  case rest =>
  clear HI HT
  obtain ⟨es, ck, HCk, HE⟩ := hcut
  have HI := Lib.hid HE.out.1
  have HT := Lib.hid HE.out.2
  clear HE
  have zx := HI.out.x.cell
  have zr := HI.out.r.cell
  have zf := HI.out.r.free
  go_wp2
  have hbf : But (· = w.heap.size) wc ((wc.setCell ⟨w.heap.size, 0, none⟩ (.int .i64 ver)).setCell ⟨w.heap.size, 1, none⟩ (.slice (some ⟨c3 + 1, 0, none⟩) m 4)) := (But.set (S := (· = w.heap.size)) wc (p := ⟨w.heap.size, 0, none⟩) rfl _).trans (But.set (S := (· = w.heap.size)) _ (p := ⟨w.heap.size, 1, none⟩) rfl _)
  exact bodyPost_ret (v := .agg #[.int .i64 ver, .slice (some ⟨c3 + 1, 0, none⟩) m 4]) (by simp [results, Tryz.results7, go_sem, zr]) rfl ⟨ver, c3 + 1, m, (schL id b1 b2 b3 ck).take m, rfl, (HI.out.fin HM6 HT.out hbf).1, schL_good Hid4.out HCk.out HM2.out HVer.out, HM5, HM6, (HI.out.fin HM6 HT.out hbf).2⟩
end Go.Proofs.YtponkkljlbifmaaGreat
