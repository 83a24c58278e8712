/-
  Texts: IgApp.
-/
import Derived.Test.YtponkkljlbifmaaGreatH31
import Derived.Test.YtponkkljlbifmaaGreatH32
set_option linter.unusedVariables false
/-
  The program's Apply: the state after changes, or an error.
-/
namespace Go.Proofs.YtponkkljlbifmaaGreat
open Go.RowKit
set_option maxRecDepth 100000
open Pd

def belB (B : Nat) (a b : World) : Prop := Below B a b
theorem belB_trans (B : Nat) : ∀ a b c, belB B a b → belB B b c → belB B a c := fun _ _ _ h k => Below.trans h k
def stB (g : Nat) (a b : World) : Prop := b.heap[g]? = a.heap[g]?
theorem stB_trans (g : Nat) : ∀ a b c, stB g a b → stB g b c → stB g a c := fun _ _ _ h k => Eq.trans k h
theorem cntS_le {st : List (List Rw)} {i : Nat} {l : List Rw} (h : st[i]? = some l) : l.length ≤ cntS st := by
  have := cntS_set st i l [] h
  simp at this
  omega
theorem OkS.row8 {ver : Int} {tbs : List Tb} {st : List (List Rw)} (h : OkS tbs st) (hg : GoodS ver tbs) {k : Nat} {l : List Rw} (hl : st[k]? = some l) : ∀ x ∈ l, x.length ≤ 8 := fun x hx => by
  have hk : k < tbs.length := by rw [← h.ln]; exact (List.getElem?_eq_some_iff.1 hl).1
  have h1 := fitL_len (rowsB_fit _ none (tabsB_at _ _ _ _ l h.tb (List.getElem?_eq_getElem hk) hl) x hx)
  unfold Tb.kinds at h1
  rw [List.length_map] at h1
  have := (hg.tb _ (List.getElem_mem hk)).cl
  omega
def ApplyO (tbs : List Tb) (st : List (List Rw)) (cs : List Ch) (n : Nat) (w : World) (e : Ending) (w' : World) : Prop :=
  (((applyS tbs st cs).1 = 0 ∧ ∃ (b : Nat) (ls : List TlP), e = .returned (.tuple #[.agg #[.slice (some ⟨b, 0, none⟩) n n], .int .i64 0]) ∧ StS w' (some ⟨b, 0, none⟩) n ls ∧ stR ls = (applyS tbs st cs).2 ∧ w.heap.size ≤ b) ∨
    ((applyS tbs st cs).1 ≠ 0 ∧ e = .returned (.tuple #[.agg #[.slice none 0 0], .int .i64 (applyS tbs st cs).1]))) ∧ Below w.heap.size w w'
theorem ApI.st {w wr : World} {b h3 n : Nat} {sc st : Array Value} {ls : List TlP} (h : ApI w b h3 n sc st wr ls) : StS wr (some ⟨b, 0, none⟩) n ls := by
  refine ⟨⟨h.len, fun _ => ⟨b, 0, rfl, fun k x hx j u hu => ?_⟩⟩, fun p hp => (h.ok p hp).ok⟩
  rcases j with _ | j
  · simp only [tlc, List.getElem?_cons_zero, Option.some.injEq] at hu
    subst hu
    rw [h.blk.cell]
    simp [hx]
  · simp [tlc] at hu
/-- an error is returned: the result's box is cleared -/
theorem ApI.err {w wr : World} {b h3 n : Nat} {sc st : Array Value} {ls : List TlP} {n' : Nat} {tbs : List Tb} {sr : List (List Rw)} {cs : List Ch} {e : Int} (h : ApI w b h3 n sc st wr ls) (he : (applyS tbs sr cs).1 = e) (h0 : e ≠ 0) : ApplyO tbs sr cs n' w (.returned (.tuple #[.agg #[.slice none 0 0], .int .i64 e])) (wr.setCell ⟨w.heap.size + 2, 0, none⟩ (.slice none 0 0)) ∧ Blk (wr.setCell ⟨w.heap.size + 2, 0, none⟩ (.slice none 0 0)) (w.heap.size + 2) 25 #[.slice none 0 0] := by
  refine ⟨⟨.inr ⟨by rw [he]; exact h0, by rw [he]⟩, h.be.setCell (p := ⟨w.heap.size + 2, 0, none⟩) (by show w.heap.size ≤ w.heap.size + 2; omega) _⟩, ?_⟩
  have := h.r.set_ 0 (.slice none 0 0)
  simpa using this
set_option maxHeartbeats 4000000 in
theorem tapply_any (ver : Int) (A : Option Addr) (n c : Nat) (tbs : List Tb) (B : Option Addr) (m cb : Nat) (ls0 : List TlP) (C : Option Addr) (cn cc : Nat) (es : List ChE) (w : World) (hs : ScS w A n tbs) (hg : GoodS ver tbs) (hst : StS w B m ls0) (hb : cntS (stR ls0) ≤ 4611686018427387904) (hm : m ≤ 1000000) (hch : ChsS w C cn es) (hcn : cn ≤ 1000000) :
    Calls Tryz.prog 19 #[.agg #[.int .i64 ver, .slice A n c], .int .i64 1, .agg #[.slice B m cb], .slice C cn cc] w fun e w' => ApplyO tbs (stR ls0) (es.map (·.c)) m w e w' := by
  obtain ⟨il, hil, hl0, hl1, hl2⟩ := info_parts (show (Tryz.prog.info? 79).map (fun i => (i.zero, i.size, i.bytes)) = some (some (.slice none 0 0), 1, 24) by kernel_rfl)
  obtain ⟨i0, hi0, hz0, hz1, hz2⟩ := info_parts info_row
  have HB : Hid (Below w.heap.size w (((w.alloc (.cells #[.int .i64 ver, .slice A n c] 30)).alloc (.cells #[.slice B m cb] 25)).alloc (.cells #[.slice none 0 0] 25))) := Lib.hid ((((Below.refl _ _).alloc (Nat.le_refl _) _).alloc (by simp) _).alloc (by simp; omega) _)
  have HS0 := Lib.hid hs
  have HST0 := Lib.hid hst
  have HCH0 := Lib.hid hch
  have HZ := Lib.hid (((Blk.new w 30 #[.int .i64 ver, .slice A n c]).alloc (.cells #[.slice B m cb] 25)).alloc (.cells #[.slice none 0 0] 25))
  have HY := Lib.hid ((Blk.new (w.alloc (.cells #[.int .i64 ver, .slice A n c] 30)) 25 #[.slice B m cb]).alloc (.cells #[.slice none 0 0] 25))
  have HX := Lib.hid (Blk.new ((w.alloc (.cells #[.int .i64 ver, .slice A n c] 30)).alloc (.cells #[.slice B m cb] 25)) 25 #[.slice none 0 0])
  rw [World.size_alloc] at HY
  rw [World.size_alloc, World.size_alloc] at HX
  have HG := Lib.hid hg
  have Hln := Lib.hid hs.len
  have Hlm := Lib.hid hst.sl.len
  have hn8 : n ≤ 8 := by have := hg.ln; have := Hln.out; omega
  obtain ⟨R, HR⟩ : ∃ z, Hid (applyS tbs (stR ls0) (es.map (·.c)) = z) := ⟨_, Lib.hid rfl⟩
  clear hs hst hch hg
  go_enter Tryz.func19, Tryz.ntmps19
  go_upto_region 1 with fail
  generalize hW : ((w.alloc (.cells #[.int .i64 ver, .slice A n c] 30)).alloc (.cells #[.slice B m cb] 25)).alloc (.cells #[.slice none 0 0] 25) = w1 at *
  have z := HZ.out.cell
  have zy := HY.out.cell
  go_wp2_with fail
  refine (tcheck_any ver A n c tbs B m cb ls0 _ (HS0.out.keep (keeps_of HB.out)) HG.out (HST0.out.keep (keeps_of HB.out)) hb hm).mono ?_
  rintro e w2 ⟨rfl, hb2⟩
  have HB2 := Lib.hid (HB.out.trans (hb2.mono HB.out.size))
  have HZ2 := Lib.hid (HZ.out.below hb2)
  have HY2 := Lib.hid (HY.out.below hb2)
  have HX2 := Lib.hid (HX.out.below hb2)
  clear z zy hb2 HB HZ HY HX hW
  by_cases he : chkS tbs (stR ls0) = 0
  rotate_left
  · have HE : Hid (ApplyO tbs (stR ls0) (es.map (·.c)) m w (.returned (.tuple #[.agg #[.slice none 0 0], .int .i64 (chkS tbs (stR ls0))])) (w2.setCell ⟨w.heap.size + 1 + 1, 0, none⟩ (.slice none 0 0))) := Lib.hid ⟨.inr ⟨by unfold applyS; rw [if_pos he]; exact he, by unfold applyS; rw [if_pos he]⟩, HB2.out.setCell (p := ⟨w.heap.size + 1 + 1, 0, none⟩) (by show w.heap.size ≤ w.heap.size + 1 + 1; omega) _⟩
    have HF : Hid (Blk (w2.setCell ⟨w.heap.size + 1 + 1, 0, none⟩ (.slice none 0 0)) (w.heap.size + 1 + 1) 25 #[.slice none 0 0]) := Lib.hid (by have := HX2.out.set_ 0 (.slice none 0 0); simpa using this)
    have g : (chkS tbs (stR ls0) != 0) = true := by simpa using he
    generalize chkS tbs (stR ls0) = ee at *
    clear he
    have zr := HX2.out.cell
    have zf := HX2.out.free
    go_wp2
    have zc := HF.out.cell
    exact bodyPost_ret (v := .tuple #[.agg #[.slice none 0 0], .int .i64 ee]) (by simp [results, Tryz.results19, go_sem, zc]) rfl HE.out
  have HOK := Lib.hid (chkS_ok he)
  have hls : (stR ls0).length = m := by unfold stR; rw [List.length_map]; exact Hlm.out
  have HMN : Hid (m = n) := Lib.hid (by rw [← hls, HOK.out.ln, Hln.out])
  replace HR : Hid (appS tbs (es.map (·.c)) (stR ls0) = R) := Lib.hid (by rw [← HR.out]; unfold applyS; rw [if_neg (by rw [he]; simp)])
  have HRR : Hid (applyS tbs (stR ls0) (es.map (·.c)) = R) := Lib.hid (by rw [← HR.out]; unfold applyS; rw [if_neg (by rw [he]; simp)])
  have hm8 : m ≤ 8 := by have := HMN.out; omega
  clear hls
  rw [he]
  clear he
  have zy := HY2.out.cell
  go_upto_region 5 with (at_make; go_loud (refine wpList_make_full _ rfl _ _ 23 rfl w2.heap.size 79 il (.slice none 0 0) 1 Tryz.underlying23 hil hl0 hl1 .i64 .i64 _ _ m rfl rfl rfl rfl (by rw [hl2]; omega) (by unfold maxLen; omega) (Nat.le_refl _) ?_; intro w3 hown hg3))
  have hb3 : Below w2.heap.size w2 w3 := (Below.refl _ _).grown hg3 (Nat.le_refl _) (fun k hk => by cases hk)
  rw [mk_slices] at hown
  obtain ⟨h3, hh3⟩ : ∃ z, w3.heap.size = z := ⟨_, rfl⟩
  obtain ⟨b, hbb⟩ : ∃ z, w2.heap.size = z := ⟨_, rfl⟩
  rw [hh3]
  rw [hbb] at hown ⊢
  have hbh : b < h3 := by
    rcases hown.2 with ⟨hv, _⟩ | ⟨g', cap, cur, hv, _, hh, _⟩
    · cases hv
    · injection hv with hv
      injection hv with hv
      injection hv with hv
      have := (Array.getElem?_eq_some_iff.1 hh).1
      omega
  have HI : Hid (ApI w b h3 m #[.int .i64 ver, .slice A n c] #[.slice B m cb] (w3.alloc (.cells #[.slice (some ⟨b, 0, none⟩) m m] 25)) (List.replicate m ((none, 0, 0), []))) := Lib.hid (by
    refine ⟨?_, by simp, fun p hp => ?_, (HZ2.out.below hb3).alloc _, (HY2.out.below hb3).alloc _, (HX2.out.below hb3).alloc _, ?_, (HB2.out.trans (hb3.mono HB2.out.size)).alloc (by have := HB2.out.size; have := hb3.size; omega) _, by have := HX2.out.lt; omega, hbh⟩
    · rcases hown.2 with ⟨hv, _⟩ | ⟨g', cap, cur, hv, _, hh, _, _, hcs, htk⟩
      · cases hv
      · injection hv with hv _ hv3
        injection hv with hv
        injection hv with hv
        subst hv hv3
        have hcur : cur = (List.replicate m (Value.slice none 0 0)).toArray := by
          have h1 : cur.toList = List.replicate m (Value.slice none 0 0) := by
            rw [← htk, List.take_of_length_le (by simp; omega)]
          rw [← h1]
        rw [hcur] at hh
        have : Blk w3 b 79 (List.replicate m (Value.slice none 0 0)).toArray := hh
        have h2 := this.alloc (.cells #[.slice (some ⟨b, 0, none⟩) m m] 25)
        simpa using h2
    · obtain rfl := List.eq_of_mem_replicate hp
      exact ⟨⟨⟨Sl.nil, fun q h => absurd h List.not_mem_nil⟩, fun _ => ⟨rfl, rfl⟩, Nat.le_refl _, Nat.zero_le _⟩, fun h => absurd h (by simp), fun ad h => (by cases h)⟩
    · have := Blk.new w3 25 #[.slice (some ⟨b, 0, none⟩) m m]
      rwa [hh3] at this)
  clear hown hg3 hb3 HZ2 HY2 HX2 HB2 zy hbb hbh
  generalize w3.alloc (.cells #[.slice (some ⟨b, 0, none⟩) m m] 25) = w4 at *
  clear hh3
  have zy := HI.out.s.cell
  have HF0 : Hid (∀ j, j < m → (j < 0 → ((List.replicate m ((none, 0, 0), []) : List TlP)[j]?).map tlR = (ls0[j]?).map tlR) ∧ (0 ≤ j → (List.replicate m ((none, 0, 0), []) : List TlP)[j]? = some ((none, 0, 0), []))) := Lib.hid (fun j hj => ⟨fun h => absurd h (by omega), fun _ => by simp [hj]⟩)
  go_wp2_with fail
  clear zy
  go_loopw [37] (fun i wr => ∃ (k : Nat) (ls : List TlP), k ≤ m ∧ i = .int .i64 (k : Int) ∧ Hid (ApI w b h3 m #[.int .i64 ver, .slice A n c] #[.slice B m cb] wr ls) ∧ Hid (∀ j, j < m → (j < k → (ls[j]?).map tlR = (ls0[j]?).map tlR) ∧ (k ≤ j → ls[j]? = some ((none, 0, 0), [])))) (fun i _ => m - (intOf i).toNat)
  case atStart => exact ⟨0, _, by omega, rfl, HI, HF0⟩
  case round =>
    clear HI HF0
    obtain ⟨k, ls, hk, rfl, HI, HF⟩ := hrel
    by_cases hlt : k < m
    · obtain ⟨bs, os, ⟨⟨L0, ln0, lc0⟩, ps0⟩, rfl, hl, hok, c0⟩ := (HST0.out.keep (keeps_of HI.out.be)).at hlt
      obtain ⟨_, _, p0', e0, hl', hok0, _⟩ := HST0.out.at hlt
      obtain rfl : p0' = ((L0, ln0, lc0), ps0) := by rw [hl] at hl'; injection hl' with hl'; exact hl'.symm
      dsimp only at c0
      have HRS : Hid (RowsS w L0 ln0 ps0) := Lib.hid hok0.rd
      have Hl0 := Lib.hid hl
      have hln0 : ln0 ≤ 512 := by
        have h1 := HOK.out.ct
        have h2 := cntS_le (stR_at hl)
        have h3 := hok0.len
        dsimp only at h3
        omega
      have H8 : Hid (∀ x ∈ ps0.map (·.2), x.length ≤ 8) := Lib.hid (HOK.out.row8 HG.out (stR_at hl))
      have HC0 : Hid (CpS wr b k ls none 0 0 [] wr) := Lib.hid (CpS.start HI.out ((HF.out k hlt).2 (Nat.le_refl _)))
      have hbl : b < wr.heap.size := HI.out.blk.lt
      clear hl hok e0 hl' hok0
      obtain ⟨wt, HWT⟩ : ∃ z, Hid (wr = z) := ⟨_, Lib.hid rfl⟩
      go_wp2_with fail
      clear c0
      rw [HWT.out] at HI HC0 hbl
      go_loopw [44] (fun i wr => ∃ (j : Nat) (L : Option Addr) (lc : Nat) (qs : List RowP), j ≤ ln0 ∧ i = .int .i64 (j : Int) ∧ Hid (CpS wt b k ls L j lc qs wr) ∧ Hid (qs.map (·.2) = (ps0.map (·.2)).take j)) (fun i _ => ln0 - (intOf i).toNat)
      case atStart => exact ⟨0, none, 0, [], by omega, rfl, by rw [HWT.out]; exact HC0, Lib.hid rfl⟩
      case round =>
        clear HC0 HWT
        obtain ⟨j, L, lc, qs, hj, rfl, HC, Hq⟩ := hrel
        have HBw : Hid (Below w.heap.size w wr) := Lib.hid (HC.out.bu.below HI.out.be HI.out.be.size (fun k hk => by have := HI.out.hb; omega))
        by_cases hjn : j < ln0
        · obtain ⟨b2, o2, ⟨⟨X, xn, xc⟩, x⟩, rfl, c1, hro, hp⟩ := (HRS.out.keep (keeps_of HBw.out)).get2 hjn
          dsimp only at c1
          have HRO : Hid (RowOk wr.drew ((X, xn, xc), x)) := Lib.hid (hro.keep (Keeps.refl _).drew)
          have Hx : Hid ((qs.map (·.2)) ++ [x] = (ps0.map (·.2)).take (j + 1)) := Lib.hid (by rw [Hq.out, take_snoc' (by rw [List.getElem?_map, hp]; rfl)])
          have hp2 : (ps0.map (·.2))[j]? = some x := by rw [List.getElem?_map, hp]; rfl
          clear hro hp
          have Hp2 := Lib.hid hp2
          clear hp2
          go_wp2_with fail
          clear c1
          refine wp_region_planR [11, 13] (belB wr.drew.heap.size) (stB h3) (belB_trans _) (stB_trans h3) (.one [3, 4, 5, 6, 7, 8] [0, 1, 2] 9 (.one [] [] 10 (.one [] [] 11 (.one [] [12] 13 (.last [] []))))) (by kernel_rfl) (by kernel_rfl) (fun _ _ d _ _ h => by cases d <;> exact h) ?_
          replace HC := Lib.hid (HC.out.below (Below.refl wr.heap.size wr).drew)
          clear HBw
          generalize hWd : wr.drew = wd at *
          clear hWd
          have HX3 : Hid (Blk wd h3 25 #[.slice (some ⟨b, 0, none⟩) m m]) := Lib.hid (HI.out.x.but HC.out.bu (by have := HI.out.hx; omega))
          have hkl : k < ls.length := by rw [HI.out.len]; exact hlt
          have HCb : Hid (wd.cell? ⟨b, k, none⟩ = some (.slice L j lc)) := Lib.hid (by rw [HC.out.blk.cell]; simp [hkl])
          have qx : ∀ (y : LaterR (belB wd.heap.size) wd) i, (afterR (belB wd.heap.size) wd y).cell? ⟨h3, i, none⟩ = (#[.slice (some ⟨b, 0, none⟩) m m] : Array Value)[i]? := fun y i => y.cell (HX3.out.cell i) (fun W h => (HX3.out.below h).cell i)
          have qx2 : ∀ (y : LaterR (stB h3) wd) i, (afterR (stB h3) wd y).cell? ⟨h3, i, none⟩ = (#[.slice (some ⟨b, 0, none⟩) m m] : Array Value)[i]? := fun y i => y.cell (HX3.out.cell i) (fun W h => (World.cell?_of_block (w := wd) (a := ⟨h3, i, none⟩) (show W.heap[h3]? = wd.heap[h3]? from h)).trans (HX3.out.cell i))
          have qb : ∀ (y : LaterR (belB wd.heap.size) wd), (afterR (belB wd.heap.size) wd y).cell? ⟨b, k, none⟩ = some (.slice L j lc) := fun y => y.cell HCb.out (fun W h => (h.cell (p := ⟨b, k, none⟩) HC.out.blk.lt).trans HCb.out)
          unfold wpPlanR
          simp only [pickOps, opAt, List.map_cons, List.map_nil, List.getElem?_toArray, List.getElem?_cons_zero, List.getElem?_cons_succ, Option.getD_some]
          repeat (go_big_quiet_step (fail))
          refine wpQuiet_nil ?_
          repeat (go_big_quiet_step (fail))
          refine wpQuiet_nil ?_
          clear qx qb qx2
          go_wp2_with fail
          refine (tclone_any X xn xc x _ HRO.out (by have h1 := H8.out x (List.mem_of_getElem? Hp2.out); have h2 := HRO.out.rd.len; dsimp only at h2; omega)).mono ?_
          rintro e w6 ⟨A6, c6, rfl, hown6, hb6⟩
          go_wp2_with fail
          refine ⟨⟨fun _ => hb6, hb6.block h3 HX3.out.lt⟩, ?_⟩
          have hh6 : h3 < w6.heap.size := Nat.lt_of_lt_of_le HX3.out.lt hb6.size
          have hht : h3 < wt.heap.size := HI.out.x.lt
          have hsz : wt.heap.size ≤ wd.heap.size := HC.out.bu.size
          have HN : Hid (OwnRow w6 wt.heap.size ((A6, x.length, c6), x)) := Lib.hid ⟨own_weaken hown6.1 hsz, hown6.2⟩
          replace HC := Lib.hid (HC.out.below hb6)
          have hsz6 : wt.heap.size ≤ w6.heap.size := HC.out.bu.size
          clear hown6 HX3 HCb HRO
          unfold wpPlanR
          simp only [pickOps, opAt, List.map_nil, List.getElem?_toArray, List.getElem?_cons_zero, List.getElem?_cons_succ, Option.getD_some]
          repeat (go_big_quiet_step (fail))
          refine wpQuiet_nil ?_
          repeat (go_big_quiet_step (fail))
          refine wpQuiet_nil ?_
          go_wp2_with fail
          refine ⟨⟨fun _ => (Below.refl _ _).alloc hb6.size _, Below.heap_alloc _ _ _ hh6⟩, ?_⟩
          clear hb6
          unfold wpPlanR
          simp only [pickOps, opAt, List.map_nil, List.getElem?_toArray, List.getElem?_cons_zero, List.getElem?_cons_succ, Option.getD_some]
          repeat (go_big_quiet_step (fail))
          refine wpQuiet_nil ?_
          repeat (go_big_quiet_step (fail))
          refine wpQuiet_nil ?_
          go_wp2_with (at_builtin; refine wpList_append_one2 (by rfl) (.tmp 55) (.tmp 58) _ (by rfl) wt.heap.size 75 i0 _ 1 24 Tryz.underlying79 hi0 hz0 hz1 hz2 (by rfl) (by omega) (.slice L j lc) j _ (by rfl) w6 #[.slice A6 x.length c6] HC.out.own w6.heap.size (by rfl) (by rfl) (by rfl) (one_row ((A6, x.length, c6), x)) (by simp only [maxLen]; omega) (by omega) hsz6 ?_; intro g7 cap7 w7 hown7 hg7 hB7 hat7 hlt7)
          refine ⟨⟨fun h => (h (by decide)).elim, (hB7.block h3 hht).trans (Below.heap_alloc _ _ _ hh6).symm⟩, ?_⟩
          have HCN := Lib.hid (HC.out.add hbl (q := ((A6, x.length, c6), x)) HN.out hown7 hg7 hB7)
          have HX7 : Hid (Blk w7 b 79 ((ls.set k ((L, j, lc), qs)).map hdc).toArray) := Lib.hid ((hB7.block b hbl).trans HC.out.blk)
          clear HC HN hown7 hg7 hB7 hat7 hlt7
          have zc := HX7.out.cell k
          have zt : w7.cell? ⟨b, k, none⟩ = some (.slice L j lc) := zc.trans (by simp [hkl])
          clear zc
          have zf := HX7.out.free
          unfold wpPlanR
          simp only [pickOps, opAt, List.map_cons, List.map_nil, List.getElem?_toArray, List.getElem?_cons_zero, List.getElem?_cons_succ, Option.getD_some]
          repeat (go_big_quiet_step (fail))
          refine wpQuiet_nil ?_
          repeat (go_big_quiet_step (fail))
          refine wpQuiet_nil ?_
          go_wp2_with fail
          refine ⟨⟨fun h => (h (by decide)).elim, Below.heap_setCell _ _ _ _ (by have := HI.out.hx; show h3 ≠ b; omega)⟩, ?_⟩
          clear zt zf
          unfold wpPlanR
          simp only [pickOps, List.map_nil]
          refine wpQuiet_nil ?_
          refine wpQuiet_nil ?_
          go_wp2
          go_roundw
          case rel => exact ⟨j + 1, _, cap7, _, by omega, by go_num, HCN, Lib.hid (by rw [List.map_append]; exact Hx.out)⟩
          case measure => simp [intOf]; omega
        · obtain rfl : j = ln0 := by omega
          have HI2 := Lib.hid (HC.out.done HI.out)
          have HF2 : Hid (∀ i, i < m → (i < k + 1 → ((ls.set k ((L, j, lc), qs))[i]?).map tlR = (ls0[i]?).map tlR) ∧ (k + 1 ≤ i → (ls.set k ((L, j, lc), qs))[i]? = some ((none, 0, 0), []))) := Lib.hid (fun i hi => by
            have hkl : k < ls.length := by rw [HI.out.len]; exact hlt
            by_cases hik : i = k
            · subst hik
              refine ⟨fun _ => ?_, fun h => by omega⟩
              rw [List.getElem?_set, if_pos rfl, if_pos hkl, Hl0.out]
              show some (qs.map (·.2)) = some (ps0.map (·.2))
              rw [Hq.out, List.take_of_length_le (by rw [List.length_map]; exact Nat.le_of_eq HRS.out.sl.len)]
            · rw [List.getElem?_set, if_neg (fun e => hik e.symm)]
              exact ⟨fun h => (HF.out i hi).1 (by omega), fun h => (HF.out i hi).2 (by omega)⟩)
          clear HC HI HF HBw
          go_wp2
          go_roundw
          case rel => exact ⟨k + 1, _, by omega, by go_num, HI2, HF2⟩
          case measure => simp [intOf]; omega
    · obtain rfl : k = m := by omega
      have HLS : Hid (stR ls = stR ls0) := Lib.hid (by
        apply List.ext_getElem?
        intro i
        unfold stR
        rw [List.getElem?_map, List.getElem?_map]
        by_cases hi : i < k
        · exact (HF.out i hi).1 hi
        · rw [List.getElem?_eq_none (by rw [HI.out.len]; omega), List.getElem?_eq_none (by rw [Hlm.out]; omega)])
      clear HF
      have HOK2 : Hid (OkS tbs (stR ls)) := Lib.hid (by rw [HLS.out]; exact HOK.out)
      have HRd : Hid (appS tbs ((es.map (·.c)).drop 0) (stR ls) = R) := Lib.hid (by rw [HLS.out]; exact HR.out)
      have hct : cntS (stR ls) ≤ 512 := HOK2.out.ct
      clear HLS HR HOK hb
      have zx := HI.out.x.cell
      go_wp2_with fail
      refine (count_any (some ⟨b, 0, none⟩) k k ls _ HI.out.st (by omega) (by omega)).mono ?_
      rintro e w5 ⟨rfl, hb5⟩
      have HI5 := Lib.hid (HI.out.below hb5)
      clear hb5 HI zx
      have hcl : cn ≤ 9223372036854775807 := by omega
      go_wp2_with fail
      go_loopw [16, 67] (fun cv i wr => ∃ (q : Nat) (ls : List TlP), q ≤ cn ∧ i = .int .i64 (q : Int) ∧ cv = .int .i64 (cntS (stR ls) : Int) ∧ Hid (ApI w b h3 k #[.int .i64 ver, .slice A n c] #[.slice B k cb] wr ls) ∧ Hid (OkS tbs (stR ls)) ∧ Hid (appS tbs ((es.map (·.c)).drop q) (stR ls) = R)) (fun _ i _ => cn - (intOf i).toNat)
      case atStart => exact ⟨0, ls, by omega, rfl, rfl, HI5, HOK2, HRd⟩
      case round =>
        clear HI5 HOK2 HRd hct
        obtain ⟨q, ls, hq, rfl, rfl, HI, HOK, HQ⟩ := hrel
        by_cases hqn : q < cn
        · obtain ⟨bc, oc', ⟨⟨t, o, r⟩, ⟨OA, on, oc⟩, ⟨NA, nn, nc⟩⟩, rfl, hee, hok, c0, c1, c2⟩ := (HCH0.out.keep (keeps_of HI.out.be)).at hqn
          obtain ⟨b9, o9, e', e9, hee', hok0, f9⟩ := HCH0.out.at hqn
          obtain rfl : e' = ⟨⟨t, o, r⟩, ⟨OA, on, oc⟩, ⟨NA, nn, nc⟩⟩ := by rw [hee] at hee'; injection hee' with hee'; exact hee'.symm
          dsimp only at c0 c1 c2
          have HO0 : Hid (RowOk w ((OA, on, oc), o)) := Lib.hid hok0.o
          have HN0 : Hid (RowOk w ((NA, nn, nc), r)) := Lib.hid hok0.n
          have Hst : Hid ((if (stepC tbs ⟨t, o, r⟩ (stR ls)).1 ≠ 0 then stepC tbs ⟨t, o, r⟩ (stR ls) else appS tbs ((es.map (·.c)).drop (q + 1)) (stepC tbs ⟨t, o, r⟩ (stR ls)).2) = R) := Lib.hid (by
            have h := HQ.out
            rw [drop_at' (v := ⟨t, o, r⟩) (by rw [List.getElem?_map, hee]; rfl)] at h
            exact h)
          clear hee hok hee' hok0 HQ e9 f9
          have HX : Hid (Blk (wr.alloc (.cells #[.int .i64 t, .slice OA on oc, .slice NA nn nc] 91)) wr.heap.size 91 #[.int .i64 t, .slice OA on oc, .slice NA nn nc]) := Lib.hid (Blk.new wr _ _)
          replace HI := Lib.hid (HI.out.below ((Below.refl _ _).alloc (Nat.le_refl _) (.cells #[.int .i64 t, .slice OA on oc, .slice NA nn nc] 91)))
          obtain ⟨hx, Hhx⟩ : ∃ z, Hid (wr.heap.size = z) := ⟨_, Lib.hid rfl⟩
          rw [Hhx.out] at HX
          go_upto_region 18 with fail
          rw [Hhx.out]
          generalize wr.alloc (.cells #[.int .i64 t, .slice OA on oc, .slice NA nn nc] 91) = w6 at *
          clear Hhx c0 c1 c2
          have zx := HX.out.cell
          have zz := HI.out.z.cell
          go_wp2_with fail
          refine (tvalid_any ver A n c tbs t OA on oc o NA nn nc r _ (HS0.out.keep (keeps_of HI.out.be)) HG.out (HO0.out.keep (keeps_of HI.out.be)) (HN0.out.keep (keeps_of HI.out.be))).mono ?_
          rintro e w7 ⟨rfl, hb7⟩
          replace HI := Lib.hid (HI.out.below hb7)
          replace HX := Lib.hid (HX.out.below hb7)
          clear hb7 zx zz
          obtain ⟨vb, Hvb⟩ : ∃ z, Hid (validC tbs ⟨t, o, r⟩ = z) := ⟨_, Lib.hid rfl⟩
          rw [Hvb.out]
          cases vb
          · have HER : Hid ((applyS tbs (stR ls0) (es.map (·.c))).1 = 71) := Lib.hid (by
              rw [HRR.out, ← Hst.out]
              have : stepC tbs ⟨t, o, r⟩ (stR ls) = (71, []) := by unfold stepC; rw [if_pos Hvb.out]
              rw [this]
              rfl)
            have HE := Lib.hid (HI.out.err (n' := k) (HER.out) (by decide))
            have zr := HI.out.r.cell
            have zf := HI.out.r.free
            go_wp2
            have zc := HE.out.2.cell
            exact bodyPost_ret (v := .tuple #[.agg #[.slice none 0 0], .int .i64 71]) (by simp [results, Tryz.results19, go_sem, zc]) rfl HE.out.1

          · obtain ⟨ht0, T, hT, hok⟩ := validC_at Hvb.out
            obtain ⟨t, rfl⟩ := Int.eq_ofNat_of_zero_le ht0
            simp only [Int.toNat_natCast] at hT
            have htk : t < k := by
              have h1 := (List.getElem?_eq_some_iff.1 hT).1
              have h2 := HOK.out.ln
              have h3 := HI.out.len
              unfold stR at h2
              rw [List.length_map] at h2
              omega
            have HT := Lib.hid hT
            have HOC := Lib.hid hok
            have HGT := Lib.hid (HG.out.tb T (List.mem_of_getElem? hT))
            obtain ⟨⟨⟨L, ln, lc⟩, ps⟩, hl, htl, zl⟩ := HI.out.at htk
            have HL := Lib.hid hl
            have HTL := Lib.hid htl
            have HCl : Hid ((ps.map (·.2)).length = ln) := Lib.hid htl.ok.len
            have hln : ln ≤ 512 := by
              have h1 := HOK.out.ct
              have h2 := cntS_le (stR_at hl)
              have h3 := htl.ok.len
              dsimp only at h3
              omega
            have hnn : nn ≤ 8 := by
              have h1 := HN0.out.rd.len
              dsimp only at h1
              by_cases hr : r.length = 0
              · omega
              · have h2 := fitL_len (okC_new HOC.out hr).1
                unfold Tb.kinds at h2
                rw [List.length_map] at h2
                have h3 := HGT.out.cl
                dsimp only at h2
                omega
            have HRB : Hid (rowsB T none (ps.map (·.2)) = true) := Lib.hid (tabsB_at _ _ _ T _ HOK.out.tb hT (stR_at hl))
            clear ht0 hT hok hl htl Hvb
            go_wp2_with fail
            have HId : Hid (ApI w b h3 k #[.int .i64 ver, .slice A n c] #[.slice B k cb] w7.drew ls) := Lib.hid (HI.out.below (Below.refl w7.heap.size w7).drew)
            have HXd : Hid (Blk w7.drew hx 91 #[.int .i64 (t : Int), .slice OA on oc, .slice NA nn nc]) := Lib.hid HX.out
            have HTLd : Hid (TlW w7.drew w.heap.size ((L, ln, lc), ps)) := Lib.hid (HTL.out.below (Below.refl w7.heap.size w7).drew)
            have zb : w7.drew.cell? ⟨b, t, none⟩ = some (.slice L ln lc) := zl
            clear HI HX HTL zl
            generalize hWn : w7.drew = Wn at *
            have hca := @cell_after Wn
            have z1 := HId.out.z.cell
            have z2 := HId.out.x.cell
            have z3 := HXd.out.cell
            refine wp_region_seg [([0, 1, 2, 3, 4, 5, 6, 7], 8)] [9, 10, 11, 12, 13] (by kernel_rfl) (by kernel_rfl) (fun _ _ d _ _ h => by cases d <;> exact h) ?_
            rw [hWn]
            clear hWn
            simp only [pickSegs, pickOps, opAt, List.map_cons, List.map_nil, List.getElem?_toArray, List.getElem?_cons_zero, List.getElem?_cons_succ, Option.getD_some]
            unfold wpBlocks
            repeat (go_big_quiet_step (fail))
            refine wpQuiet_nil ?_
            clear hca z1 z2 z3 zb
            go_wp2_with fail
            refine (applied_any ver A n c tbs t T L ln lc ps OA on oc o NA nn nc r w _ HId.out.be HS0.out HG.out HT.out HTLd.out HRB.out HO0.out HN0.out hln hnn).mono ?_
            rintro e w8 ⟨⟨hno, rfl⟩ | ⟨⟨⟨L2, ln2, lc2⟩, ps2⟩, hno, rfl, htl2⟩, hb8⟩
            · have HER : Hid ((applyS tbs (stR ls0) (es.map (·.c))).1 = 81) := Lib.hid (by
                rw [HRR.out, ← Hst.out]
                have : stepC tbs ⟨t, o, r⟩ (stR ls) = (81, []) := by
                  unfold stepC
                  rw [if_neg (by rw [show validC tbs ⟨t, o, r⟩ = true by unfold validC tabC; rw [if_pos (by show 0 ≤ (t : Int); omega)]; show (match tbs[(t : Int).toNat]? with | none => false | some T => _) = true; rw [Int.toNat_natCast, HT.out]; exact HOC.out]; simp)]
                  show (match tbs[(t : Int).toNat]?, (stR ls)[(t : Int).toNat]? with | some T, some l => _ | _, _ => _) = _
                  rw [Int.toNat_natCast, HT.out, stR_at HL.out]
                  show (match listC T ⟨t, o, r⟩ (tlR ((L, ln, lc), ps)) with | none => _ | some m => _) = _
                  rw [show listC T ⟨t, o, r⟩ (tlR ((L, ln, lc), ps)) = none from hno]
                rw [this]
                rfl)
              have HI := Lib.hid (HId.out.below hb8)
              clear hno
              go_wp2_with fail
              refine ⟨hb8, ?_⟩
              unfold wpBlocks
              repeat (go_big_quiet_step (fail))
              refine wpQuiet_nil ?_
              clear hb8
              have HE := Lib.hid (HI.out.err (n' := k) (HER.out) (by decide))
              have zr := HI.out.r.cell
              have zf := HI.out.r.free
              go_wp2
              have zc := HE.out.2.cell
              exact bodyPost_ret (v := .tuple #[.agg #[.slice none 0 0], .int .i64 81]) (by simp [results, Tryz.results19, go_sem, zc]) rfl HE.out.1

            · have HM : Hid (listC T ⟨t, o, r⟩ (tlR ((L, ln, lc), ps)) = some (tlR ((L2, ln2, lc2), ps2))) := Lib.hid hno
              have HT2 := Lib.hid htl2
              have HI := Lib.hid (HId.out.below hb8)
              have HX := Lib.hid (HXd.out.below hb8)
              have HTL := Lib.hid (HTLd.out.below hb8)
              have hl2 : Hid ((ps2.map (·.2)).length = ln2) := Lib.hid htl2.ok.len
              have hln2 : ln2 ≤ 513 := by
                have h1 := hl2.out
                have h2 := hno
                unfold listC at h2
                split at h2
                · injection h2 with h2
                  have h3 := putRw_len (T := T) (key := keyC T ⟨t, o, r⟩) (row := r) (ps.map (·.2))
                  rw [h2, HCl.out] at h3
                  have h4 : (tlR ((L2, ln2, lc2), ps2)).length = ln2 := h1
                  omega
                · cases h2
              have hct : cntS (stR ls) ≤ 512 := HOK.out.ct
              clear hno htl2 HId HXd HTLd
              go_wp2_with fail
              refine ⟨hb8, ?_⟩
              unfold wpBlocks
              repeat (go_big_quiet_step (fail))
              refine wpQuiet_nil ?_
              clear hb8
              have z2 := HI.out.x.cell
              have z3 := HX.out.cell
              have zb : w8.cell? ⟨b, t, none⟩ = some (.slice L ln lc) := by rw [HI.out.blk.cell]; simp [HL.out]
              obtain ⟨N, HN⟩ : ∃ z, Hid (cntS ((stR ls).set t (tlR ((L2, ln2, lc2), ps2))) = z) := ⟨_, Lib.hid rfl⟩
              have hN : (cntS (stR ls) : Int) + ((ln2 : Int) - (ln : Int)) = (N : Int) := by
                have h1 := cntS_set (stR ls) t _ (tlR ((L2, ln2, lc2), ps2)) (stR_at HL.out)
                have h2 : (tlR ((L2, ln2, lc2), ps2)).length = ln2 := hl2.out
                have h3 : (tlR ((L, ln, lc), ps)).length = ln := HCl.out
                rw [HN.out, h2, h3] at h1
                omega
              have HSC : Hid (stepC tbs ⟨t, o, r⟩ (stR ls) = if 512 < N then (2, []) else (0, (stR ls).set t (tlR ((L2, ln2, lc2), ps2)))) := Lib.hid (by
                unfold stepC
                rw [if_neg (by rw [show validC tbs ⟨t, o, r⟩ = true by unfold validC tabC; rw [if_pos (by show 0 ≤ (t : Int); omega)]; show (match tbs[(t : Int).toNat]? with | none => false | some T => _) = true; rw [Int.toNat_natCast, HT.out]; exact HOC.out]; simp)]
                show (match tbs[(t : Int).toNat]?, (stR ls)[(t : Int).toNat]? with | some T, some l => _ | _, _ => _) = _
                rw [Int.toNat_natCast, HT.out, stR_at HL.out]
                show (match listC T ⟨t, o, r⟩ (tlR ((L, ln, lc), ps)) with | none => _ | some m => _) = _
                rw [HM.out, ← HN.out])
              have HSt : Hid (stR (ls.set t ((L2, ln2, lc2), ps2)) = (stR ls).set t (tlR ((L2, ln2, lc2), ps2))) := Lib.hid (by unfold stR; rw [List.map_set])
              go_upto_region 24 with fail
              clear hN z2 z3 hct hln2
              by_cases h5 : 512 < N
              · have g5 : decide ((512 : Int) < (N : Int)) = true := by simp; omega
                have HER : Hid ((applyS tbs (stR ls0) (es.map (·.c))).1 = 2) := Lib.hid (by
                  rw [HRR.out, ← Hst.out, HSC.out, if_pos h5]
                  rfl)
                clear h5 zb
                have HE := Lib.hid (HI.out.err (n' := k) (HER.out) (by decide))
                have zr := HI.out.r.cell
                have zf := HI.out.r.free
                go_wp2
                have zc := HE.out.2.cell
                exact bodyPost_ret (v := .tuple #[.agg #[.slice none 0 0], .int .i64 2]) (by simp [results, Tryz.results19, go_sem, zc]) rfl HE.out.1
              · have g5 : decide ((512 : Int) < (N : Int)) = false := by simp; omega
                have h0 : (stepC tbs ⟨t, o, r⟩ (stR ls)).1 = 0 := by rw [HSC.out, if_neg h5]
                have hs2 : (stepC tbs ⟨t, o, r⟩ (stR ls)).2 = stR (ls.set t ((L2, ln2, lc2), ps2)) := by rw [HSC.out, if_neg h5, HSt.out]
                have HQ2 : Hid (appS tbs ((es.map (·.c)).drop (q + 1)) (stR (ls.set t ((L2, ln2, lc2), ps2))) = R) := Lib.hid (by
                  have h := Hst.out
                  rw [if_neg (by rw [h0]; simp), hs2] at h
                  exact h)
                have HO2 : Hid (OkS tbs (stR (ls.set t ((L2, ln2, lc2), ps2)))) := Lib.hid (by
                  have h := stepC_ok HOK.out h0
                  rw [hs2] at h
                  exact h)
                have HIP := Lib.hid (HI.out.put (t := t) HT2.out)
                have HNc : Hid (cntS (stR (ls.set t ((L2, ln2, lc2), ps2))) = N) := Lib.hid (by rw [HSt.out, HN.out])
                have zf := HI.out.blk.free
                have z2 := HI.out.x.cell
                have z3 := HX.out.cell
                clear h5 h0 hs2
                go_wp2
                go_roundw
                case rel => exact ⟨q + 1, _, by omega, by go_num, by rw [HNc.out], HIP, HO2, HQ2⟩
                case measure => simp [intOf]; omega
        · obtain rfl : q = cn := by omega
          have HF := HQ.out
          rw [List.drop_of_length_le (by rw [List.length_map, HCH0.out.sl.len]; exact Nat.le_refl _)] at HF
          have HAP : Hid (applyS tbs (stR ls0) (es.map (·.c)) = (0, stR ls)) := Lib.hid (by rw [HRR.out, ← HF]; rfl)
          have HE : Hid (ApplyO tbs (stR ls0) (es.map (·.c)) k w (.returned (.tuple #[.agg #[.slice (some ⟨b, 0, none⟩) k k], .int .i64 0])) (wr.setCell ⟨w.heap.size + 2, 0, none⟩ (.slice (some ⟨b, 0, none⟩) k k))) := Lib.hid (by
            have hbl : Below w.heap.size wr (wr.setCell ⟨w.heap.size + 2, 0, none⟩ (.slice (some ⟨b, 0, none⟩) k k)) := (Below.refl _ _).setCell (p := ⟨w.heap.size + 2, 0, none⟩) (by show w.heap.size ≤ w.heap.size + 2; omega) _
            have hbt : But (· = w.heap.size + 2) wr (wr.setCell ⟨w.heap.size + 2, 0, none⟩ (.slice (some ⟨b, 0, none⟩) k k)) := But.set (S := (· = w.heap.size + 2)) wr (p := ⟨w.heap.size + 2, 0, none⟩) rfl _
            refine ⟨.inl ⟨by rw [HAP.out], b, ls, rfl, ⟨HI.out.st.sl.but hbt (fun _ b' o e hs => ?_), fun p hp => ((HI.out.ok p hp).but HI.out.r (fun u hu => ?_) hbt).ok⟩, by rw [HAP.out], ?_⟩, HI.out.be.trans hbl⟩
            · injection e with e
              injection e with e
              have := HI.out.hb
              omega
            · simp only [List.mem_singleton] at hu
              exact ⟨_, _, _, hu⟩
            · have := HI.out.hb
              omega)
          have HC : Hid (Blk (wr.setCell ⟨w.heap.size + 2, 0, none⟩ (.slice (some ⟨b, 0, none⟩) k k)) (w.heap.size + 2) 25 #[.slice (some ⟨b, 0, none⟩) k k]) := Lib.hid (by have := HI.out.r.set_ 0 (.slice (some ⟨b, 0, none⟩) k k); simpa using this)
          clear HF
          have zx := HI.out.x.cell
          have zr := HI.out.r.cell
          have zf := HI.out.r.free
          go_wp2
          have zc := HC.out.cell
          exact bodyPost_ret (v := .tuple #[.agg #[.slice (some ⟨b, 0, none⟩) k k], .int .i64 0]) (by simp [results, Tryz.results19, go_sem, zc]) rfl HE.out
end Go.Proofs.YtponkkljlbifmaaGreat
