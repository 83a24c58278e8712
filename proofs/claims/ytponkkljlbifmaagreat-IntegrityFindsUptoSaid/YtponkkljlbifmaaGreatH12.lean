/-
  Texts: IgRPut, IgVio, IgGet.
-/
import Derived.Test.YtponkkljlbifmaaGreatH11
import Derived.Lib.SliceRun
set_option linter.unusedVariables false
/-
  The reference's Put of a row into a state, in place.
-/
namespace Go.Proofs.YtponkkljlbifmaaGreat
open Go.RowKit
set_option maxRecDepth 100000
open Pd

/-- a row that reads wherever the blocks outside S stay -/
def RowZ (S : Nat → Prop) (w : World) (q : RowP) : Prop := ∀ w', But S w w' → RowOk w' q
def TlT (S : Nat → Prop) (w : World) (p : TlP) : Prop := ∀ w', But S w w' → TlOk w' p
/-- the block of a state's lists; pad: what stands behind them -/
structure StP (S : Nat → Prop) (w : World) (b n : Nat) (ls : List TlP) (pad : List Value) : Prop where
  blk : Blk w b 79 ((ls.map fun p => Value.slice p.1.1 p.1.2.1 p.1.2.2) ++ pad).toArray
  len : ls.length = n
  ok : ∀ p ∈ ls, TlT S w p
abbrev StB (S : Nat → Prop) (w : World) (b n : Nat) (ls : List TlP) : Prop := StP S w b n ls []
theorem But.ofB {S : Nat → Prop} {w w' : World} (h : Below w.heap.size w w') : But S w w' := ⟨h.os, h.tape, h.output, h.size, fun k hk _ => h.block k hk⟩
theorem TlT.row {S : Nat → Prop} {w : World} {p : TlP} (h : TlT S w p) {q : RowP} (hq : q ∈ p.2) : RowZ S w q := fun w' hb => (h w' hb).rd.ok q hq
theorem RowZ.step {S : Nat → Prop} {w w' : World} {q : RowP} (h : RowZ S w q) (hb : But S w w') : RowZ S w' q := fun w2 h2 => h w2 (hb.trans h2)
theorem TlT.step {S : Nat → Prop} {w w' : World} {q : TlP} (h : TlT S w q) (hb : But S w w') : TlT S w' q := fun w2 h2 => h w2 (hb.trans h2)
theorem StP.st {S : Nat → Prop} {w : World} {b n : Nat} {ls : List TlP} {pad : List Value} (h : StP S w b n ls pad) : StS w (some ⟨b, 0, none⟩) n ls := by
  refine ⟨⟨h.len, fun _ => ⟨b, 0, rfl, fun k x hx j u hu => ?_⟩⟩, fun p hp => h.ok p hp w (But.refl _ _)⟩
  have hc := h.blk.cell (0 + k * 1 + j)
  rcases j with _ | j
  · simp only [tlc, List.getElem?_cons_zero, Option.some.injEq] at hu
    subst hu
    have hk := (List.getElem?_eq_some_iff.1 hx).1
    rw [hc, List.getElem?_toArray, List.getElem?_append_left (by rw [List.length_map]; omega)]
    simp [hx]
  · simp [tlc] at hu
theorem StP.below {S : Nat → Prop} {w w' : World} {b n : Nat} {ls : List TlP} {pad : List Value} (h : StP S w b n ls pad) (hb : Below w.heap.size w w') : StP S w' b n ls pad :=
  ⟨h.blk.below hb, h.len, fun p hp => (h.ok p hp).step (But.ofB hb)⟩
theorem OwnRow.rowZ {S : Nat → Prop} {w : World} {base : Nat} {q : RowP} (h : OwnRow w base q) (hS : ∀ k, S k → k < base) : RowZ S w q := fun w' hb =>
  OwnRow.ok (base := base) ⟨own_at h.1 (fun g hg hlt _ => hb.block g hlt (fun hs => by have := hS g hs; omega)), h.2⟩
/-- what Put holds: the rows so far, in a row of its own -/
structure PutS (S : Nat → Prop) (w1 wr : World) (O : Option Addr) (n c : Nat) (qs : List RowP) : Prop where
  own : wr.ownsRow w1.heap.size 75 1 (.slice O n c) n (qs.flatMap rowc)
  len : qs.length = n
  rows : ∀ q ∈ qs, RowZ S w1 q ∨ OwnRow wr w1.heap.size q
  be : Below w1.heap.size w1 wr
section
variable {S : Nat → Prop} {w1 wr wr' : World} {O : Option Addr} {n c : Nat} {qs : List RowP}
theorem PutS.nil (w1 : World) : PutS S w1 w1 none 0 0 [] := ⟨⟨by simp, .inl ⟨rfl, rfl⟩⟩, rfl, fun _ h => absurd h List.not_mem_nil, Below.refl _ _⟩
theorem PutS.below (h : PutS S w1 wr O n c qs) (hb : Below wr.heap.size wr wr') : PutS S w1 wr' O n c qs :=
  ⟨own_at h.own (fun g _ hlt _ => hb.block g hlt), h.len, fun q hq => (h.rows q hq).imp id (fun k => k.below hb), Below.next h.be hb⟩
theorem PutS.add (h : PutS S w1 wr O n c qs) {q : RowP} (hq : RowZ S w1 q ∨ OwnRow wr w1.heap.size q) {o : Obj} {g cap : Nat} (ho : wr'.ownsRow w1.heap.size 75 1 (.slice (some ⟨g, 0, none⟩) (n + 1) cap) (n + 1) (qs.flatMap rowc ++ rowc q)) (hg : (wr.alloc o).grownBy wr' (Value.slice O n c).ownBlock) (hB : Below w1.heap.size wr wr') : PutS S w1 wr' (some ⟨g, 0, none⟩) (n + 1) cap (qs ++ [q]) := by
  have hg2 := grown_of_alloc hg
  refine ⟨by rw [List.flatMap_append]; simpa using ho, by rw [List.length_append, h.len]; rfl, fun y hy => ?_, h.be.trans hB⟩
  rcases List.mem_append.1 hy with hy | hy
  · exact (h.rows y hy).imp id (fun k => k.grown h.own hg2)
  · rw [List.mem_singleton.1 hy]
    exact hq.imp id (fun k => k.grown h.own hg2)
/-- the list that is made -/
theorem PutS.tl (h : PutS S w1 wr O n c qs) (hS : ∀ k, S k → k < w1.heap.size) : TlT S wr ((O, n, c), qs) := fun w' hb => by
  obtain ⟨f1, f2, f3⟩ := own_forms h.own
  have ho : w'.ownsRow w1.heap.size 75 1 (.slice O n c) n (qs.flatMap rowc) := own_at h.own (fun g hg hlt _ => hb.block g hlt (fun hs => by have := hS g hs; omega))
  refine ⟨⟨Sl.of_own (cs := rowc) (fun _ => rfl) h.len ho, fun q hq => ?_⟩, f1, f3, ?_⟩
  · rcases h.rows q hq with k | k
    · exact k w' ((But.ofB (h.be.mono (Nat.le_refl _))).trans hb)
    · exact (k.rowZ hS) w' hb
  · rcases h.own.2 with ⟨hv, _⟩ | ⟨g, cap, cur, hv, _, _, _, hm, _⟩
    · injection hv with _ _ h3; simp only; omega
    · injection hv with _ _ h3; simp only [maxLen] at hm; simp only; omega
end
theorem putF_step {T : Tb} {key row : Rw} {d : Bool} {l : List Rw} {k : Nat} {x : Rw} {acc L : List Rw} (h : l[k]? = some x) (hq : acc ++ putF T key row d (l.drop k) = L) :
    acc ++ (if decide (0 ≤ cmpR (keyT T x) key) && !d then [row] else []) ++ (if cmpR (keyT T x) key = 0 then [] else [x]) ++ putF T key row (d || decide (0 ≤ cmpR (keyT T x) key)) (l.drop (k + 1)) = L := by
  rw [drop_at' h] at hq
  rw [← hq]
  simp [putF]
theorem but_from {S S' : Nat → Prop} {w w1 w' : World} (hb : Below w.heap.size w w1) (h : But S' w1 w') (hS : ∀ k, k < w.heap.size → S' k → S k) : But S w w' :=
  ⟨h.os.trans hb.os, h.tape.trans hb.tape, h.output.trans hb.output, Nat.le_trans hb.size h.size, fun k hk hs => (h.block k (Nat.lt_of_lt_of_le hk hb.size) (fun hs' => hs (hS k hk hs'))).trans (hb.block k hk)⟩
theorem set_tl (ls : List TlP) (t : Nat) (O : Option Addr) (n c : Nat) (qs : List RowP) : (ls.map fun p => Value.slice p.1.1 p.1.2.1 p.1.2.2).toArray.setIfInBounds t (.slice O n c) = ((ls.set t ((O, n, c), qs)).map fun p => Value.slice p.1.1 p.1.2.1 p.1.2.2).toArray := by
  rw [List.setIfInBounds_toArray, List.map_set]
theorem set_tlp (ls : List TlP) (pad : List Value) (t : Nat) (ht : t < ls.length) (O : Option Addr) (n c : Nat) (qs : List RowP) : ((ls.map fun p => Value.slice p.1.1 p.1.2.1 p.1.2.2) ++ pad).toArray.setIfInBounds t (.slice O n c) = (((ls.set t ((O, n, c), qs)).map fun p => Value.slice p.1.1 p.1.2.1 p.1.2.2) ++ pad).toArray := by
  rw [List.setIfInBounds_toArray, List.map_set, List.set_append_left _ _ (by rw [List.length_map]; exact ht)]
theorem put_end {pad : List Value} {S S' : Nat → Prop} {w w1 wr : World} {b n t on oc cb : Nat} {ls : List TlP} {O : Option Addr} {qs : List RowP} (hbw : b < w.heap.size) (hSb : S b) (hS' : (fun k => S k ∨ k = w.heap.size + 1 + 1) = S') (hS : ∀ k, S k → k < w.heap.size) (hS1 : ∀ k, S' k → k < w1.heap.size) (ht : t < n) (hst : StP S w b n ls pad) (hb : Below w.heap.size w w1) (hp : PutS S' w1 wr O on oc qs) (hx : Blk w1 (w.heap.size + 1 + 1) 25 #[.slice none 0 0]) (h2 : w.heap.size + 1 + 1 < w1.heap.size) :
    let wf := (wr.setCell ⟨b, t, none⟩ (.slice O on oc)).setCell ⟨w.heap.size + 1 + 1, 0, none⟩ (.slice (some ⟨b, 0, none⟩) n cb); But (· = b) w wf ∧ Blk wf (w.heap.size + 1 + 1) 25 #[.slice (some ⟨b, 0, none⟩) n cb] ∧ StP S wf b n (ls.set t ((O, on, oc), qs)) pad := by
  intro wf
  have hsz : w.heap.size ≤ wr.heap.size := by have := hb.size; have := hp.be.size; omega
  have hbut : But (· = b) w wf := by
    have h1 : But (· = b) w wr := (But.ofB hb).trans (But.ofB hp.be)
    have h2 := h1.trans (But.set (S := (· = b)) wr (p := ⟨b, t, none⟩) rfl (.slice O on oc))
    exact gbut_belowB h2 ((Below.refl w.heap.size _).setCell (p := ⟨w.heap.size + 1 + 1, 0, none⟩) (by show w.heap.size ≤ w.heap.size + 1 + 1; omega) _) (Nat.le_refl _)
  have hbt2 : But S' wr wf := by
    subst hS'
    exact (But.set _ (p := ⟨b, t, none⟩) (.inl hSb) _).trans (But.set _ (p := ⟨w.heap.size + 1 + 1, 0, none⟩) (.inr rfl) _)
  have hxr := hx.below hp.be
  refine ⟨hbut, ?_, ?_, by rw [List.length_set]; exact hst.len, fun p hp2 => ?_⟩
  · have h := (hxr.far (p := ⟨b, t, none⟩) (by show w.heap.size + 1 + 1 ≠ b; omega) (.slice O on oc)).set_ 0 (.slice (some ⟨b, 0, none⟩) n cb)
    simpa using h
  · have h0 : Blk wr b 79 ((ls.map fun p => Value.slice p.1.1 p.1.2.1 p.1.2.2) ++ pad).toArray := (hst.blk.below hb).below hp.be
    have h := (h0.set_ t (.slice O on oc)).far (p := ⟨w.heap.size + 1 + 1, 0, none⟩) (by show b ≠ w.heap.size + 1 + 1; omega) (.slice (some ⟨b, 0, none⟩) n cb)
    rw [set_tlp ls pad t (by rw [hst.len]; exact ht) O on oc qs] at h
    exact h
  · rcases List.mem_or_eq_of_mem_set hp2 with hp2 | rfl
    · exact (hst.ok p hp2).step ⟨hbut.os, hbut.tape, hbut.output, hbut.size, fun k hk hs => hbut.block k hk (fun e => hs (by rw [e]; exact hSb))⟩
    · intro w2 hw2
      refine ((hp.tl hS1).step hbt2) w2 ⟨hw2.os, hw2.tape, hw2.output, hw2.size, fun k hk hs => hw2.block k hk (fun e => hs (by subst hS'; exact .inl e))⟩
set_option maxHeartbeats 8000000 in
theorem rput_any (ver : Int) (A : Option Addr) (n c : Nat) (tbs : List Tb) (b cb : Nat) (ls : List TlP) (t : Nat) (T : Tb) (pl : TlP) (K : Option Addr) (kn kc : Nat) (key : Rw) (R : Option Addr) (rn rc : Nat) (row : Rw) (S : Nat → Prop) (w : World) {pad : List Value} (hs : ScS w A n tbs) (hn : n ≤ 8) (hT : tbs[t]? = some T) (h0 : 0 ≤ T.key) (h8 : T.key ≤ 8) (hst : StP S w b n ls pad) (hl : ls[t]? = some pl) (hSb : S b) (hS : ∀ k, S k → k < w.heap.size) (hk : RowOk w ((K, kn, kc), key)) (hr : RowOk w ((R, rn, rc), row)) (hr8 : rn ≤ 8) (hm : (tlR pl).length ≤ 1000) :
    Calls Tryz.prog 25 #[.agg #[.int .i64 ver, .slice A n c], .agg #[.slice (some ⟨b, 0, none⟩) n cb], .int .i64 (t : Int), .slice K kn kc, .slice R rn rc] w fun e w' => e = .returned (.agg #[.slice (some ⟨b, 0, none⟩) n cb]) ∧ But (· = b) w w' ∧ ∃ pn : TlP, tlR pn = putRw T key row (tlR pl) ∧ StP S w' b n (ls.set t pn) pad := by
  obtain ⟨i0, hi, hz0, hz1, hz2⟩ := info_parts info_row
  have htn : t < n := by rw [← hst.len]; exact (List.getElem?_eq_some_iff.1 hl).1
  have HB : Hid (Below w.heap.size w (((w.alloc (.cells #[.int .i64 ver, .slice A n c] 30)).alloc (.cells #[.slice (some ⟨b, 0, none⟩) n cb] 25)).alloc (.cells #[.slice none 0 0] 25))) := Lib.hid ((((Below.refl _ _).alloc (Nat.le_refl _) _).alloc (by simp) _).alloc (by simp; omega) _)
  have HS := Lib.hid (hs.keep (keeps_of HB.out))
  have HST := Lib.hid (hst.below HB.out)
  have HST0 := Lib.hid hst
  obtain ⟨S', HS'⟩ : ∃ z, Hid ((fun k => S k ∨ k = w.heap.size + 1 + 1) = z) := ⟨_, Lib.hid rfl⟩
  have HK := Lib.hid (hk.keep (keeps_of HB.out))
  have HR := Lib.hid (hr.keep (keeps_of HB.out))
  have HZ := Lib.hid (((Blk.new w 30 #[.int .i64 ver, .slice A n c]).alloc (.cells #[.slice (some ⟨b, 0, none⟩) n cb] 25)).alloc (.cells #[.slice none 0 0] 25))
  have HY := Lib.hid ((Blk.new (w.alloc (.cells #[.int .i64 ver, .slice A n c] 30)) 25 #[.slice (some ⟨b, 0, none⟩) n cb]).alloc (.cells #[.slice none 0 0] 25))
  have HX := Lib.hid (Blk.new ((w.alloc (.cells #[.int .i64 ver, .slice A n c] 30)).alloc (.cells #[.slice (some ⟨b, 0, none⟩) n cb] 25)) 25 #[.slice none 0 0])
  have hW1 : (((w.alloc (.cells #[.int .i64 ver, .slice A n c] 30)).alloc (.cells #[.slice (some ⟨b, 0, none⟩) n cb] 25)).alloc (.cells #[.slice none 0 0] 25)).heap.size = w.heap.size + 3 := by simp
  rw [World.size_alloc] at HY
  rw [World.size_alloc, World.size_alloc] at HX
  have Hl := Lib.hid hl
  have HT := Lib.hid hT
  have HSS := Lib.hid hS
  have Hrn := Lib.hid hr.rd.len
  have hbw : b < w.heap.size := hS b hSb
  obtain ⟨L, HL⟩ : ∃ z, Hid (putRw T key row (tlR pl) = z) := ⟨_, Lib.hid rfl⟩
  have Hq0 : Hid (([] : List RowP).map (·.2) ++ putF T key row (decide (rn = 0)) ((tlR pl).drop 0) = L) := Lib.hid (by
    rw [← HL.out]
    have : row.length = rn := hr.rd.len
    unfold putRw
    rw [this]
    rfl)
  rw [HL.out]
  clear hs hst hk hr hl hT hS
  go_enter Tryz.func25, Tryz.ntmps25
  go_upto_region 1 with fail
  generalize hW : ((w.alloc (.cells #[.int .i64 ver, .slice A n c] 30)).alloc (.cells #[.slice (some ⟨b, 0, none⟩) n cb] 25)).alloc (.cells #[.slice none 0 0] 25) = w1 at *
  have zy := HY.out.cell
  obtain ⟨b', o', ⟨⟨Lp, ln, lc⟩, ps⟩, e1, hl2, hok, c0⟩ := HST.out.st.at htn
  injection e1 with e1
  injection e1 with e1 e2
  subst e1 e2
  obtain rfl : pl = ((Lp, ln, lc), ps) := by have := Hl.out; rw [hl2] at this; injection this with this; exact this.symm
  dsimp only at c0
  have hT0 : Hid (TlT S' w1 ((Lp, ln, lc), ps)) := Lib.hid (fun w' hb => HST0.out.ok _ (List.mem_of_getElem? hl2) w' (but_from HB.out hb (fun k hk hs => by rw [← HS'.out] at hs; exact hs.resolve_right (by omega))))
  have HRD := Lib.hid hok.rd
  have Hll := Lib.hid hok.len
  dsimp only at HRD Hll
  have hln : ln ≤ 1000 := by have := Hll.out; omega
  rw [Nat.zero_add] at c0
  obtain ⟨d0, hd0⟩ : ∃ d, ((rn : Int) == 0) = d := ⟨_, rfl⟩
  have hd1 : decide (rn = 0) = d0 := by rw [← hd0]; by_cases h : rn = 0 <;> simp [h]
  rw [hd1] at Hq0
  have HS1 : Hid (∀ k, S' k → k < w1.heap.size) := Lib.hid (fun k hk => by
    rw [← HS'.out] at hk
    rcases hk with hk | hk
    · have := HSS.out k hk; omega
    · omega)
  clear hl2 hok hd1 hW
  go_wp2_with fail
  clear zy c0 hd0
  go_loopw [11, 12, 25] (fun v dn i wr => ∃ (k : Nat) (d : Bool) (O : Option Addr) (on oc : Nat) (qs : List RowP), k ≤ ln ∧ i = .int .i64 (k : Int) ∧ dn = .bool d ∧ v = .slice O on oc ∧ on ≤ 2 * k ∧ Hid (PutS S' w1 wr O on oc qs) ∧ Hid (qs.map (·.2) ++ putF T key row d ((tlR ((Lp, ln, lc), ps)).drop k) = L)) (fun _ _ i _ => ln - (intOf i).toNat)
  case atStart => exact ⟨0, d0, none, 0, 0, [], by omega, rfl, rfl, rfl, by omega, Lib.hid (PutS.nil w1), Hq0⟩
  case round =>
    obtain ⟨k, d, O, on, oc, qs, hk, rfl, rfl, rfl, hon, HP, Hq⟩ := hrel
    clear Hq0
    by_cases hlt : k < ln
    · obtain ⟨b2, o2, ⟨⟨X, xn, xc⟩, x⟩, rfl, c1, hro, hp⟩ := (HRD.out.keep (keeps_of HP.out.be)).get2 hlt
      dsimp only at c1
      have Hst := Lib.hid (putF_step (tlR_at hp) Hq.out)
      have HO1 : Hid (RowZ S' w1 ((X, xn, xc), x)) := Lib.hid (hT0.out.row (List.mem_of_getElem? hp))
      have HRO := Lib.hid hro
      have zb := (HZ.out.below HP.out.be).cell
      clear hro hp Hq
      go_wp2_with fail
      refine (rkey_any ver A n c tbs t T X xn xc x _ (HS.out.keep (keeps_of HP.out.be)) hn HT.out h0 h8 HRO.out).mono ?_
      rintro e w2 ⟨K2, c2, rfl, hko, hb2⟩
      have HP2 := Lib.hid (HP.out.below hb2)
      have HK2 := Lib.hid hko.ok
      clear zb hb2 hko HP HRO c1
      go_wp2_with fail
      refine (rcomp_rw K2 _ c2 (keyT T x) K kn kc key _ HK2.out (HK.out.keep (keeps_of HP2.out.be))).mono ?_
      rintro e w3 ⟨rfl, hb3⟩
      have HP3 := Lib.hid (HP2.out.below hb3)
      clear hb3 HP2 HK2
      obtain ⟨cc, Hcc⟩ : ∃ z, Hid (cmpR (keyT T x) key = z) := ⟨_, Lib.hid rfl⟩
      rw [Hcc.out] at Hst ⊢
      by_cases hcc : 0 ≤ cc
      · have g1 : decide ((0 : Int) ≤ cc) = true := by simp [hcc]
        rw [g1] at Hst
        cases d
        · go_wp2_with fail
          refine (copy_any ((R, rn, rc), row) _ (HR.out.keep (keeps_of HP3.out.be)) (by show rn ≤ _; omega)).mono ?_
          rintro e w4 ⟨A', c', rfl, hown, hb4⟩
          have HN : Hid (OwnRow w4 w1.heap.size ((A', rn, c'), row)) := Lib.hid ⟨own_weaken hown HP3.out.be.size, Hrn.out⟩
          have HP4 := Lib.hid (HP3.out.below hb4)
          clear hown hb4 HP3
          dsimp only
          go_upto_region 9 with (at_builtin; refine wpList_append_one2 (by rfl) (.tmp 41) (.tmp 44) _ (by rfl) w1.heap.size 75 i0 _ 1 24 Tryz.underlying79 hi hz0 hz1 hz2 (by rfl) (by omega) (.slice O (on) oc) (on) _ (by rfl) w4 #[.slice A' rn c'] HP4.out.own w4.heap.size (by rfl) (by rfl) (by rfl) (one_row ((A', rn, c'), row)) (by simp only [maxLen]; omega) (by omega) HP4.out.be.size ?_; intro g6 cap6 w7 hown6 hg6 hB6 hat6 hlt6)
          have HP7 := Lib.hid (HP4.out.add (q := ((A', rn, c'), row)) (.inr HN.out) hown6 hg6 hB6)
          clear hown6 hg6 hB6 hat6 hlt6 HP4 HN
          by_cases hc : cc = 0
          · have g2 : (cc != 0) = false := by simp [hc]
            have Hs2 : Hid ((qs ++ [((A', rn, c'), row)]).map (·.2) ++ putF T key row (true) ((tlR ((some ⟨b2, o2, none⟩, ln, lc), ps)).drop (k + 1)) = L) := Lib.hid (by have h := Hst.out; simpa [hc] using h)
            clear hc
            go_wp2
            go_roundw
            case rel => exact ⟨k + 1, true, (some ⟨g6, 0, none⟩), on + 1, cap6, qs ++ [((A', rn, c'), row)], by omega, by go_num, rfl, rfl, by omega, HP7, Hs2⟩
            case measure => simp [intOf]; omega
          · have g2 : (cc != 0) = true := by simp [hc]
            have Hs2 : Hid ((qs ++ [((A', rn, c'), row)] ++ [((X, xn, xc), x)]).map (·.2) ++ putF T key row (true) ((tlR ((some ⟨b2, o2, none⟩, ln, lc), ps)).drop (k + 1)) = L) := Lib.hid (by have h := Hst.out; simpa [hc] using h)
            clear hc
            go_wp2_with (at_builtin; refine wpList_append_one2 (by rfl) (.tmp 48) (.tmp 50) _ (by rfl) w1.heap.size 75 i0 _ 1 24 Tryz.underlying79 hi hz0 hz1 hz2 (by rfl) (by omega) (.slice (some ⟨g6, 0, none⟩) (on + 1) cap6) (on + 1) _ (by rfl) w7 #[.slice X xn xc] HP7.out.own w7.heap.size (by rfl) (by rfl) (by rfl) (one_row ((X, xn, xc), x)) (by simp only [maxLen]; omega) (by omega) HP7.out.be.size ?_; intro g8 cap8 w8 hown6 hg6 hB6 hat6 hlt6)
            have HP8 := Lib.hid (HP7.out.add (q := ((X, xn, xc), x)) (.inl HO1.out) hown6 hg6 hB6)
            clear hown6 hg6 hB6 hat6 hlt6
            go_roundw
            case rel => exact ⟨k + 1, true, _, on + 1 + 1, cap8, _, by omega, by go_num, rfl, rfl, by omega, HP8, Hs2⟩
            case measure => simp [intOf]; omega
        · by_cases hc : cc = 0
          · have g2 : (cc != 0) = false := by simp [hc]
            have Hs2 : Hid ((qs).map (·.2) ++ putF T key row (true) ((tlR ((some ⟨b2, o2, none⟩, ln, lc), ps)).drop (k + 1)) = L) := Lib.hid (by have h := Hst.out; simpa [hc] using h)
            clear hc
            go_wp2
            go_roundw
            case rel => exact ⟨k + 1, true, O, on, oc, qs, by omega, by go_num, rfl, rfl, by omega, HP3, Hs2⟩
            case measure => simp [intOf]; omega
          · have g2 : (cc != 0) = true := by simp [hc]
            have Hs2 : Hid ((qs ++ [((X, xn, xc), x)]).map (·.2) ++ putF T key row (true) ((tlR ((some ⟨b2, o2, none⟩, ln, lc), ps)).drop (k + 1)) = L) := Lib.hid (by have h := Hst.out; simpa [hc] using h)
            clear hc
            go_wp2_with (at_builtin; refine wpList_append_one2 (by rfl) (.tmp 48) (.tmp 50) _ (by rfl) w1.heap.size 75 i0 _ 1 24 Tryz.underlying79 hi hz0 hz1 hz2 (by rfl) (by omega) (.slice O (on) oc) (on) _ (by rfl) w3 #[.slice X xn xc] HP3.out.own w3.heap.size (by rfl) (by rfl) (by rfl) (one_row ((X, xn, xc), x)) (by simp only [maxLen]; omega) (by omega) HP3.out.be.size ?_; intro g6 cap6 w8 hown6 hg6 hB6 hat6 hlt6)
            have HP8 := Lib.hid (HP3.out.add (q := ((X, xn, xc), x)) (.inl HO1.out) hown6 hg6 hB6)
            clear hown6 hg6 hB6 hat6 hlt6
            go_roundw
            case rel => exact ⟨k + 1, true, _, on + 1, cap6, _, by omega, by go_num, rfl, rfl, by omega, HP8, Hs2⟩
            case measure => simp [intOf]; omega
      · have g1 : decide ((0 : Int) ≤ cc) = false := by simp [hcc]
        rw [g1, Bool.or_false] at Hst
        by_cases hc : cc = 0
        · have g2 : (cc != 0) = false := by simp [hc]
          have Hs2 : Hid ((qs).map (·.2) ++ putF T key row (d) ((tlR ((some ⟨b2, o2, none⟩, ln, lc), ps)).drop (k + 1)) = L) := Lib.hid (by have h := Hst.out; simpa [hc] using h)
          clear hc
          go_wp2
          go_roundw
          case rel => exact ⟨k + 1, d, O, on, oc, qs, by omega, by go_num, rfl, rfl, by omega, HP3, Hs2⟩
          case measure => simp [intOf]; omega
        · have g2 : (cc != 0) = true := by simp [hc]
          have Hs2 : Hid ((qs ++ [((X, xn, xc), x)]).map (·.2) ++ putF T key row (d) ((tlR ((some ⟨b2, o2, none⟩, ln, lc), ps)).drop (k + 1)) = L) := Lib.hid (by have h := Hst.out; simpa [hc] using h)
          clear hc
          go_wp2_with (at_builtin; refine wpList_append_one2 (by rfl) (.tmp 48) (.tmp 50) _ (by rfl) w1.heap.size 75 i0 _ 1 24 Tryz.underlying79 hi hz0 hz1 hz2 (by rfl) (by omega) (.slice O (on) oc) (on) _ (by rfl) w3 #[.slice X xn xc] HP3.out.own w3.heap.size (by rfl) (by rfl) (by rfl) (one_row ((X, xn, xc), x)) (by simp only [maxLen]; omega) (by omega) HP3.out.be.size ?_; intro g6 cap6 w8 hown6 hg6 hB6 hat6 hlt6)
          have HP8 := Lib.hid (HP3.out.add (q := ((X, xn, xc), x)) (.inl HO1.out) hown6 hg6 hB6)
          clear hown6 hg6 hB6 hat6 hlt6
          go_roundw
          case rel => exact ⟨k + 1, d, _, on + 1, cap6, _, by omega, by go_num, rfl, rfl, by omega, HP8, Hs2⟩
          case measure => simp [intOf]; omega
    · obtain rfl : k = ln := by omega
      have Hq2 : Hid (qs.map (·.2) ++ (if d then [] else [row]) = L) := Lib.hid (by
        have h := Hq.out
        rw [List.drop_of_length_le (by rw [Hll.out]; exact Nat.le_refl _)] at h
        exact h)
      clear Hq
      cases d
      · go_wp2_with fail
        refine (copy_any ((R, rn, rc), row) _ (HR.out.keep (keeps_of HP.out.be)) (by show rn ≤ _; omega)).mono ?_
        rintro e w4 ⟨A', c', rfl, hown, hb4⟩
        have HN : Hid (OwnRow w4 w1.heap.size ((A', rn, c'), row)) := Lib.hid ⟨own_weaken hown HP.out.be.size, Hrn.out⟩
        have HP4 := Lib.hid (HP.out.below hb4)
        clear hown hb4 HP
        dsimp only
        go_upto_region 14 with (at_builtin; refine wpList_append_one2 (by rfl) (.tmp 55) (.tmp 58) _ (by rfl) w1.heap.size 75 i0 _ 1 24 Tryz.underlying79 hi hz0 hz1 hz2 (by rfl) (by omega) (.slice O on oc) on _ (by rfl) w4 #[.slice A' rn c'] HP4.out.own w4.heap.size (by rfl) (by rfl) (by rfl) (one_row ((A', rn, c'), row)) (by simp only [maxLen]; omega) (by omega) HP4.out.be.size ?_; intro g6 cap6 w7 hown6 hg6 hB6 hat6 hlt6)
        have HP7 := Lib.hid (HP4.out.add (q := ((A', rn, c'), row)) (.inr HN.out) hown6 hg6 hB6)
        clear hown6 hg6 hB6 hat6 hlt6 HP4 HN
        have HF : Hid (let wf := (w7.setCell ⟨b, t, none⟩ (.slice (some ⟨g6, 0, none⟩) (on + 1) cap6)).setCell ⟨w.heap.size + 1 + 1, 0, none⟩ (.slice (some ⟨b, 0, none⟩) n cb); But (· = b) w wf ∧ Blk wf (w.heap.size + 1 + 1) 25 #[.slice (some ⟨b, 0, none⟩) n cb] ∧ StP S wf b n (ls.set t (((some ⟨g6, 0, none⟩), (on + 1), cap6), (qs ++ [((A', rn, c'), row)]))) pad) := Lib.hid (put_end hbw hSb HS'.out HSS.out HS1.out htn HST0.out HB.out HP7.out HX.out (by omega))
        have zs := (HY.out.below HP7.out.be).cell
        have zb := (HST.out.below HP7.out.be).blk.cell
        have zt : w7.cell? ⟨b, t, none⟩ = some (.slice Lp _ lc) := (zb t).trans (by rw [List.getElem?_toArray, List.getElem?_append_left (by rw [List.length_map, HST0.out.len]; exact htn)]; simp [Hl.out]; rfl)
        clear zb
        have zf := (HST.out.below HP7.out.be).blk.free
        have zx := (HX.out.below HP7.out.be).cell
        have zg := (HX.out.below HP7.out.be).free
        go_wp2
        have zc := HF.out.2.1.cell
        exact bodyPost_ret (v := .agg #[.slice (some ⟨b, 0, none⟩) n cb]) (by simp [results, Tryz.results25, go_sem, zc]) rfl ⟨rfl, HF.out.1, some ⟨g6, 0, none⟩, on + 1, cap6, qs ++ [((A', rn, c'), row)], by have h := Hq2.out; simpa [tlR] using h, HF.out.2.2⟩
      · have HF : Hid (let wf := (wr.setCell ⟨b, t, none⟩ (.slice O on oc)).setCell ⟨w.heap.size + 1 + 1, 0, none⟩ (.slice (some ⟨b, 0, none⟩) n cb); But (· = b) w wf ∧ Blk wf (w.heap.size + 1 + 1) 25 #[.slice (some ⟨b, 0, none⟩) n cb] ∧ StP S wf b n (ls.set t ((O, on, oc), qs)) pad) := Lib.hid (put_end hbw hSb HS'.out HSS.out HS1.out htn HST0.out HB.out HP.out HX.out (by omega))
        go_upto_region 14 with fail
        have zs := (HY.out.below HP.out.be).cell
        have zb := (HST.out.below HP.out.be).blk.cell
        have zt : wr.cell? ⟨b, t, none⟩ = some (.slice Lp _ lc) := (zb t).trans (by rw [List.getElem?_toArray, List.getElem?_append_left (by rw [List.length_map, HST0.out.len]; exact htn)]; simp [Hl.out]; rfl)
        clear zb
        have zf := (HST.out.below HP.out.be).blk.free
        have zx := (HX.out.below HP.out.be).cell
        have zg := (HX.out.below HP.out.be).free
        go_wp2
        have zc := HF.out.2.1.cell
        exact bodyPost_ret (v := .agg #[.slice (some ⟨b, 0, none⟩) n cb]) (by simp [results, Tryz.results25, go_sem, zc]) rfl ⟨rfl, HF.out.1, O, on, oc, qs, by have h := Hq2.out; simpa [tlR] using h, HF.out.2.2⟩
end Go.Proofs.YtponkkljlbifmaaGreat

/-
  Violations in memory; the program's violation and compare.
-/
namespace Go.Proofs.YtponkkljlbifmaaGreat
open Go.RowKit
set_option maxRecDepth 100000
open Pd

/-- a violation and where its key lies -/
structure VoE where
  v : Vo
  A : Option Addr
  n : Nat
  c : Nat
def VoE.cs (x : VoE) : List Value := [.int .i64 x.v.k, .int .i64 x.v.t, .slice x.A x.n x.c, .int .i64 x.v.ix]
theorem VoE.cs_len (x : VoE) : x.cs.length = 4 := rfl
theorem one_vo (x : VoE) : ∀ u ∈ VoE.cs x, u.oneCell' = true := by simp [VoE.cs, Value.oneCell']
def VoE.p (x : VoE) : RowP := ((x.A, x.n, x.c), x.v.key)
abbrev VoE.val (x : VoE) : Value := .agg #[.int .i64 x.v.k, .int .i64 x.v.t, .slice x.A x.n x.c, .int .i64 x.v.ix]
/-- the new violation -/
def VioN (v : Vo) (w : World) (e : Ending) (w' : World) : Prop := ∃ (A : Option Addr) (c : Nat), e = .returned (.agg #[.int .i64 v.k, .int .i64 v.t, .slice A v.key.length c, .int .i64 v.ix]) ∧ OwnRow w' w.heap.size ((A, v.key.length, c), v.key) ∧ Below w.heap.size w w'

set_option maxHeartbeats 2000000 in
theorem cloneRow_any (A : Option Addr) (n c : Nat) (r : Rw) (w : World) (hp : RowOk w ((A, n, c), r)) (hn : n ≤ 4398046511104) :
    Calls Tryz.prog 89 #[.slice A n c] w fun e w' => RowN r w e w' := by
  obtain ⟨i0, hi, hz0, hz1, hz2⟩ := info_parts info_vl
  have HL := hp.rd.len
  have hnl := hp.nl
  simp only at HL hnl
  have HB2 := Lib.hid ((Below.refl w.heap.size w).alloc (Nat.le_refl _) (.cells #[] 67))
  have HP := Lib.hid (hp.keep (keeps_of HB2.out))
  have hown : (w.alloc (.cells #[] 67)).ownsRow w.heap.size 67 3 (.slice (some ⟨w.heap.size, 0, none⟩) 0 0) 0 (([] : List Vl).flatMap Vl.cs) :=
    ⟨rfl, .inr ⟨w.heap.size, 0, _, rfl, Nat.le_refl _, Blk.new w 67 #[], Nat.le_refl 0, Nat.zero_le _, rfl, rfl⟩⟩
  clear hp
  have hq := fun (W : World) (a : Option Addr) (n c : Nat) => Lib.run_eql_slice_nil W 75 67 a n c 0 0 Tryz.underlying75
  go_enter Tryz.func89, Tryz.ntmps89
  cases A with
  | none =>
    obtain ⟨rfl, rfl⟩ := hnl rfl
    have hl0 : r = [] := List.eq_nil_of_length_eq_zero HL
    subst hl0
    clear hown
    go_wp2
    go_ret
    exact ⟨none, 0, rfl, ⟨⟨by simp, .inl ⟨rfl, rfl⟩⟩, rfl⟩, Below.refl _ _⟩
  | some ad =>
    subst HL
    go_wp2_with (at_builtin; refine wpList_append_sf (cs := Vl.cs) (w.alloc (.cells #[] 67)) (by rfl) _ (.tmp 6) _ (by rfl) w.heap.size 67 i0 _ 3 32 Tryz.underlying75 hi hz0 hz1 hz2 (by rfl) (by omega) (.slice (some ⟨w.heap.size, 0, none⟩) 0 0) 0 [] (by rfl) hown (some ad) r.length c r (by rfl) HP.out.rd HP.out.nl Vl.cs_len one_vl (by simp only [maxLen]; omega) (by omega) (by simp) ?_; intro A4 c4 w3 hown3 hg3 hB3 hat3 hnil3; simp only [Nat.zero_add, List.nil_append] at hown3)
    go_ret
    exact ⟨A4, c4, rfl, ⟨hown3, rfl⟩, HB2.out.trans hB3⟩
set_option maxHeartbeats 2000000 in
theorem violation_any (v : Vo) (A : Option Addr) (n c : Nat) (w : World) (hp : RowOk w ((A, n, c), v.key)) (hn : n ≤ 4398046511104) :
    Calls Tryz.prog 58 #[.int .i64 v.k, .int .i64 v.t, .slice A n c, .int .i64 v.ix] w fun e w' => VioN v w e w' := by
  obtain ⟨k, t, key, ix⟩ := v
  dsimp only at hp ⊢
  have HB := Lib.hid ((Below.refl w.heap.size w).alloc (Nat.le_refl _) (.cells #[.int .i64 0, .int .i64 0, .slice none 0 0, .int .i64 0] 88))
  have HP := Lib.hid (hp.keep (keeps_of HB.out))
  clear hp
  go_enter Tryz.func58, Tryz.ntmps58
  go_wp2_with fail
  refine (cloneRow_any A n c key _ HP.out hn).mono ?_
  rintro e w1 ⟨A1, c1, rfl, hown, hb1⟩
  have HE := Lib.hid (Below.next HB.out hb1)
  have HO : Hid (OwnRow w1 (w.heap.size + 1) ((A1, key.length, c1), key)) := Lib.hid (by have := hown; rwa [World.size_alloc] at this)
  have z := ((Blk.new w 88 #[.int .i64 0, .int .i64 0, .slice none 0 0, .int .i64 0]).below hb1).cell
  have zf := ((Blk.new w 88 #[.int .i64 0, .int .i64 0, .slice none 0 0, .int .i64 0]).below hb1).free
  have h0 := (Blk.new w 88 #[.int .i64 0, .int .i64 0, .slice none 0 0, .int .i64 0]).below hb1
  have HV := Lib.hid ((((h0.set_ 0 (.int .i64 k)).set_ 1 (.int .i64 t)).set_ 2 (.slice A1 key.length c1)).set_ 3 (.int .i64 ix))
  clear h0
  simp only [List.setIfInBounds_toArray, List.set_cons_succ, List.set_cons_zero] at HV
  have hsz : w.heap.size < w1.heap.size := by have := hb1.size; rw [World.size_alloc] at this; omega
  have HO2 : Hid (OwnRow ((((w1.setCell ⟨w.heap.size, 0, none⟩ (.int .i64 k)).setCell ⟨w.heap.size, 1, none⟩ (.int .i64 t)).setCell ⟨w.heap.size, 2, none⟩ (.slice A1 key.length c1)).setCell ⟨w.heap.size, 3, none⟩ (.int .i64 ix)) w.heap.size ((A1, key.length, c1), key)) := Lib.hid (by
    obtain ⟨h1, h2⟩ := HO.out
    refine ⟨own_weaken (base := w.heap.size + 1) ?_ (by omega), h2⟩
    exact ownsRow_setCell_below (ownsRow_setCell_below (ownsRow_setCell_below (ownsRow_setCell_below h1 (by simp) _) (by simp) _) (by simp) _) (by simp) _)
  clear hown hb1 HB HP HO
  go_wp2
  have zc := HV.out.cell
  exact bodyPost_ret (v := .agg #[.int .i64 k, .int .i64 t, .slice A1 key.length c1, .int .i64 ix]) (by simp [results, Tryz.results58, go_sem, zc]) rfl ⟨A1, c1, rfl, HO2.out, (((HE.out.setCell (p := ⟨w.heap.size, 0, none⟩) (Nat.le_refl _) _).setCell (p := ⟨w.heap.size, 1, none⟩) (Nat.le_refl _) _).setCell (p := ⟨w.heap.size, 2, none⟩) (Nat.le_refl _) _).setCell (p := ⟨w.heap.size, 3, none⟩) (Nat.le_refl _) _⟩
end Go.Proofs.YtponkkljlbifmaaGreat

/-
  The program's get and Get: the row with a key.
-/
namespace Go.Proofs.YtponkkljlbifmaaGreat
open Go.RowKit
set_option maxRecDepth 100000
open Pd

/-- the row with a key, wherever it lies -/
def GetO (T : Tb) (l : List Rw) (key : Rw) (w : World) (e : Ending) (w' : World) : Prop :=
  ((∃ (R : Option Addr) (rn rc : Nat) (r : Rw), e = .returned (.tuple #[.slice R rn rc, .bool true]) ∧ getT T l key = some r ∧ RowOk w' ((R, rn, rc), r)) ∨ (e = .returned (.tuple #[.slice none 0 0, .bool false]) ∧ getT T l key = none)) ∧ Below w.heap.size w w'
theorem getT_step {T : Tb} {l : List Rw} {k : Nat} {r key : Rw} {o : Option Rw} (h : l[k]? = some r) (hg : getT T (l.drop k) key = o) : (if cmpR (keyT T r) key = 0 then some r else getT T (l.drop (k + 1)) key) = o := by
  rw [drop_at' h] at hg
  unfold getT at hg ⊢
  rw [List.find?_cons] at hg
  by_cases hc : cmpR (keyT T r) key = 0
  · rw [if_pos hc]; simpa [hc] using hg
  · rw [if_neg hc]; simpa [hc] using hg
set_option maxHeartbeats 4000000 in
theorem tget_any (ver : Int) (A : Option Addr) (n c : Nat) (tbs : List Tb) (B : Option Addr) (m cb : Nat) (ls : List TlP) (t : Nat) (T : Tb) (pl : TlP) (K : Option Addr) (kn kc : Nat) (key : Rw) (w : World) (hs : ScS w A n tbs) (hn : n ≤ 8) (hT : tbs[t]? = some T) (h0 : 0 ≤ T.key) (hst : StS w B m ls) (hl : ls[t]? = some pl) (hk : RowOk w ((K, kn, kc), key)) :
    Calls Tryz.prog 88 #[.agg #[.int .i64 ver, .slice A n c], .agg #[.slice B m cb], .int .i64 (t : Int), .slice K kn kc] w fun e w' => GetO T (tlR pl) key w e w' := by
  have ht : t < n := by rw [← hs.len]; exact (List.getElem?_eq_some_iff.1 hT).1
  have htm : t < m := by rw [← hst.sl.len]; exact (List.getElem?_eq_some_iff.1 hl).1
  have g0 : decide ((t : Int) < 0) = false := by simp
  have g1 : decide (n ≤ t) = false := by simp; omega
  have g2 : decide (m ≤ t) = false := by simp; omega
  have HB : Hid (Below w.heap.size w ((w.alloc (.cells #[.int .i64 ver, .slice A n c] 30)).alloc (.cells #[.slice B m cb] 25))) := Lib.hid (((Below.refl _ _).alloc (Nat.le_refl _) _).alloc (by simp) _)
  have HS := Lib.hid (hs.keep (keeps_of HB.out))
  have HST := Lib.hid (hst.keep (keeps_of HB.out))
  have HK := Lib.hid (hk.keep (keeps_of HB.out))
  have HZ := Lib.hid ((Blk.new w 30 #[.int .i64 ver, .slice A n c]).alloc (.cells #[.slice B m cb] 25))
  have HY := Lib.hid (Blk.new (w.alloc (.cells #[.int .i64 ver, .slice A n c] 30)) 25 #[.slice B m cb])
  rw [World.size_alloc] at HY
  have Hl := Lib.hid hl
  have HT := Lib.hid hT
  clear hs hst hk hl hT
  go_enter Tryz.func88, Tryz.ntmps88
  go_upto_region 1 with fail
  generalize hW : (w.alloc (.cells #[.int .i64 ver, .slice A n c] 30)).alloc (.cells #[.slice B m cb] 25) = w1 at *
  have z := HZ.out.cell
  have zy := HY.out.cell
  obtain ⟨b, o, ⟨⟨L, ln, lc⟩, ps⟩, rfl, hl2, hok, c0⟩ := HST.out.at htm
  obtain rfl : pl = ((L, ln, lc), ps) := by have := Hl.out; rw [hl2] at this; injection this with this; exact this.symm
  dsimp only at c0
  have HR := Lib.hid hok.rd
  have Hf : Hid (getT T ((tlR ((L, ln, lc), ps)).drop 0) key = getT T (tlR ((L, ln, lc), ps)) key) := Lib.hid rfl
  have Hlen := Lib.hid hok.len
  dsimp only at HR Hlen
  generalize hrr : getT T (tlR ((L, ln, lc), ps)) key = rr at *
  have hlm : ln ≤ 9223372036854775807 := Nat.le_trans hok.le hok.mx
  clear hl2 hok
  go_wp2_with fail
  clear z zy c0
  go_loopw [34] (fun i wr => ∃ k : Nat, k ≤ ln ∧ i = .int .i64 (k : Int) ∧ Hid (getT T ((tlR ((L, ln, lc), ps)).drop k) key = rr) ∧ Hid (Below w1.heap.size w1 wr)) (fun i _ => ln - (intOf i).toNat)
  case atStart => exact ⟨0, by omega, rfl, Hf, Lib.hid (Below.refl _ _)⟩
  case round =>
    obtain ⟨k, hk, rfl, Hq, HBr⟩ := hrel
    have z := (HZ.out.below HBr.out).cell
    by_cases hlt : k < ln
    · obtain ⟨b2, o2, ⟨⟨R, rn, rc⟩, r⟩, rfl, c1, hro, hp⟩ := (HR.out.keep (keeps_of HBr.out)).get2 hlt
      dsimp only at c1
      have Hst := Lib.hid (getT_step (tlR_at hp) Hq.out)
      have HRO := Lib.hid hro
      clear hro hp Hq
      go_wp2_with fail
      refine (prefix_any ver A n c tbs t T R rn rc r _ (HS.out.keep (keeps_of HBr.out)) hn HT.out h0 HRO.out).mono ?_
      rintro e w2 ⟨⟨⟨Q, qn, qc⟩, q⟩, rfl, hq, hqo, hb2⟩
      dsimp only at hq
      subst hq
      have HB2 := Lib.hid (Below.next HBr.out hb2)
      have HQ := Lib.hid hqo
      have HR2 := Lib.hid (HRO.out.keep (keeps_of hb2))
      clear z hb2 hqo HBr c1 HRO
      go_wp2_with fail
      refine (comp_rw Q qn qc (keyT T r) K kn kc key _ HQ.out (HK.out.keep (keeps_of HB2.out))).mono ?_
      rintro e w3 ⟨rfl, hb3⟩
      have HB3 := Lib.hid (Below.next HB2.out hb3)
      have HR3 := Lib.hid (HR2.out.keep (keeps_of hb3))
      clear hb3 HB2 HR2 HQ
      by_cases hc : cmpR (keyT T r) key = 0
      · have Hs2 := Hst.out
        rw [if_pos hc] at Hs2
        rw [hc]
        have HE : Hid (GetO T (tlR ((some ⟨b2, o2, none⟩, ln, lc), ps)) key w (.returned (.tuple #[.slice R rn rc, .bool true])) w3) := Lib.hid ⟨.inl ⟨R, rn, rc, r, rfl, by rw [hrr, ← Hs2], HR3.out⟩, HB.out.trans (HB3.out.mono HB.out.size)⟩
        subst Hs2
        clear hc
        go_wp2
        exact bodyPost_ret (v := .tuple #[.slice R rn rc, .bool true]) (by simp [results, Tryz.results88, go_sem]) rfl HE.out
      · have g3 : (cmpR (keyT T r) key == 0) = false := by simp [hc]
        have Hs2 := Lib.hid Hst.out
        rw [if_neg hc] at Hs2
        clear hc
        go_wp2
        go_roundw
        case rel => exact ⟨k + 1, by omega, by go_num, Hs2, HB3⟩
        case measure => simp [intOf]; omega
    · obtain rfl : k = ln := by omega
      have hf : rr = none := by
        rw [← Hq.out, List.drop_of_length_le (by rw [Hlen.out]; exact Nat.le_refl _)]
        rfl
      have HE : Hid (GetO T (tlR ((L, k, lc), ps)) key w (.returned (.tuple #[.slice none 0 0, .bool false])) wr) := Lib.hid ⟨.inr ⟨rfl, by rw [hrr, hf]⟩, HB.out.trans (HBr.out.mono HB.out.size)⟩
      clear z
      go_wp2
      exact bodyPost_ret (v := .tuple #[.slice none 0 0, .bool false]) (by simp [results, Tryz.results88, go_sem]) rfl HE.out
theorem getT_mem {T : Tb} {l : List Rw} {key r : Rw} (h : getT T l key = some r) : r ∈ l := List.mem_of_find?_eq_some h
set_option maxHeartbeats 2000000 in
theorem tGet_any (ver : Int) (A : Option Addr) (n c : Nat) (tbs : List Tb) (B : Option Addr) (m cb : Nat) (ls : List TlP) (t : Nat) (T : Tb) (pl : TlP) (K : Option Addr) (kn kc : Nat) (key : Rw) (w : World) (hs : ScS w A n tbs) (hn : n ≤ 8) (hT : tbs[t]? = some T) (h0 : 0 ≤ T.key) (hst : StS w B m ls) (hl : ls[t]? = some pl) (hk : RowOk w ((K, kn, kc), key)) (h8 : ∀ r ∈ tlR pl, r.length ≤ 8) :
    Calls Tryz.prog 57 #[.agg #[.int .i64 ver, .slice A n c], .agg #[.slice B m cb], .int .i64 (t : Int), .slice K kn kc] w fun e w' => (∃ v, e = .returned (.tuple #[v, .bool (getT T (tlR pl) key).isSome])) ∧ Below w.heap.size w w' := by
  have HB : Hid (Below w.heap.size w ((w.alloc (.cells #[.int .i64 ver, .slice A n c] 30)).alloc (.cells #[.slice B m cb] 25))) := Lib.hid (((Below.refl _ _).alloc (Nat.le_refl _) _).alloc (by simp) _)
  have HS := Lib.hid (hs.keep (keeps_of HB.out))
  have HST := Lib.hid (hst.keep (keeps_of HB.out))
  have HK := Lib.hid (hk.keep (keeps_of HB.out))
  clear hs hst hk
  go_enter Tryz.func57, Tryz.ntmps57
  go_wp2_with fail
  refine (tget_any ver A n c tbs B m cb ls t T pl K kn kc key _ HS.out hn hT h0 HST.out hl HK.out).mono ?_
  rintro e w1 ⟨⟨R, rn, rc, r, rfl, hg, hr⟩ | ⟨rfl, hg⟩, hb1⟩
  · have HB1 := Lib.hid (Below.next HB.out hb1)
    have HR := Lib.hid hr
    have hrn : rn ≤ 8 := by have := h8 _ (getT_mem hg); have := hr.rd.len; simp only at *; omega
    have Hg := Lib.hid (show (getT T (tlR pl) key).isSome = true by rw [hg]; rfl)
    clear hr hb1 hg
    go_wp2_with fail
    refine (tclone_any R rn rc r _ HR.out (by omega)).mono ?_
    rintro e w2 ⟨A2, c2, rfl, _, hb2⟩
    have HE := Lib.hid (Below.next HB1.out hb2)
    go_wp2
    exact bodyPost_ret (v := .tuple #[.slice A2 r.length c2, .bool true]) (by simp [results, Tryz.results57, go_sem]) rfl ⟨⟨_, by rw [Hg.out]⟩, HE.out⟩
  · have HB1 := Lib.hid (Below.next HB.out hb1)
    have Hg := Lib.hid (show (getT T (tlR pl) key).isSome = false by rw [hg]; rfl)
    clear hb1 hg
    go_wp2_with fail
    refine (tclone_any none 0 0 [] _ ⟨Sl.nil, fun _ => ⟨rfl, rfl⟩, Nat.le_refl _, Nat.zero_le _⟩ (by omega)).mono ?_
    rintro e w2 ⟨A2, c2, rfl, _, hb2⟩
    have HE := Lib.hid (Below.next HB1.out hb2)
    go_wp2
    exact bodyPost_ret (v := .tuple #[.slice A2 0 c2, .bool false]) (by simp [results, Tryz.results57, go_sem]) rfl ⟨⟨_, by rw [Hg.out]⟩, HE.out⟩
end Go.Proofs.YtponkkljlbifmaaGreat
