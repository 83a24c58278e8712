/-
  Texts: IgState, PdL.
-/
import Derived.Test.YtponkkljlbifmaaGreatH21
set_option linter.unusedVariables false
/-
  Case.State in the mode of the server: a valid state of few rows.
-/
namespace Go.Proofs.YtponkkljlbifmaaGreat
open Go.RowKit
set_option maxRecDepth 100000
open Pd

def onlyB (g : Nat) (a b : World) : Prop := But (· = g) a b
theorem onlyB_trans (g : Nat) : ∀ a b c, onlyB g a b → onlyB g b c → onlyB g a c := fun _ _ _ h k => But.trans h k
/-- a schema that reads whatever becomes of block g -/
def ScN (g : Nat) (w : World) (A : Option Addr) (n : Nat) (tbs : List Tb) : Prop := ∀ w', But (· = g) w w' → ScS w' A n tbs
abbrev SSt (g _H h3 : Nat) : Nat → Prop := fun k => k = g ∨ k ≤ h3
/-- the state in the making -/
structure StI (w : World) (g h3 n : Nat) (sc : Array Value) (wr : World) (ls : List TlP) : Prop where
  st : StB (SSt g w.heap.size h3) wr (w.heap.size + 2) n ls
  z : Blk wr w.heap.size 30 sc
  r : Blk wr (w.heap.size + 1) 25 #[.slice none 0 0]
  x : Blk wr h3 25 #[.slice (some ⟨w.heap.size + 2, 0, none⟩) n n]
  ca : CaseAt wr g
  bu : But (· = g) w wr
  gl : g < w.heap.size
  hl : w.heap.size + 2 < h3
section
variable {w wr w' : World} {g h3 n : Nat} {sc : Array Value} {ls : List TlP}
theorem StP.but {pad : List Value} {S S' : Nat → Prop} {b : Nat} (h : StP S wr b n ls pad) (hb : But S' wr w') (hS : ∀ k, S' k → S k) (hne : ¬ S' b) : StP S w' b n ls pad :=
  ⟨h.blk.but hb hne, h.len, fun p hp => (h.ok p hp).step ⟨hb.os, hb.tape, hb.output, hb.size, fun k hk hs => hb.block k hk (fun e => hs (hS k e))⟩⟩
theorem StI.case (h : StI w g h3 n sc wr ls) (hc : CaseAt w' g) (hb : But (· = g) wr w') : StI w g h3 n sc w' ls :=
  ⟨h.st.but hb (fun k hk => .inl hk) (by have := h.gl; omega), h.z.but hb (by have := h.gl; omega), h.r.but hb (by have := h.gl; omega), h.x.but hb (by have := h.gl; have := h.hl; omega), hc, h.bu.trans hb, h.gl, h.hl⟩
theorem StI.below (h : StI w g h3 n sc wr ls) (hb : Below wr.heap.size wr w') : StI w g h3 n sc w' ls := h.case (h.ca.below hb) (But.ofB hb)
theorem StI.put (h : StI w g h3 n sc wr ls) (hb : But (· = w.heap.size + 2) wr w') {ls' : List TlP} (hs : StB (SSt g w.heap.size h3) w' (w.heap.size + 2) n ls') : StI w g h3 n sc w' ls' :=
  ⟨hs, h.z.but hb (by omega), h.r.but hb (by omega), h.x.but hb (by have := h.hl; omega), h.ca.far hb (fun b e => by have := h.gl; omega), ⟨hb.os.trans h.bu.os, hb.tape.trans h.bu.tape, hb.output.trans h.bu.output, Nat.le_trans h.bu.size hb.size, fun k hk hs => (hb.block k (Nat.lt_of_lt_of_le hk h.bu.size) (by omega)).trans (h.bu.block k hk hs)⟩, h.gl, h.hl⟩
/-- the state's box is stored again -/
theorem StI.again (h : StI w g h3 n sc wr ls) : StI w g h3 n sc (wr.setCell ⟨h3, 0, none⟩ (.slice (some ⟨w.heap.size + 2, 0, none⟩) n n)) ls := by
  have hb : But (· = h3) wr (wr.setCell ⟨h3, 0, none⟩ (.slice (some ⟨w.heap.size + 2, 0, none⟩) n n)) := But.set (S := (· = h3)) wr (p := ⟨h3, 0, none⟩) rfl _
  refine ⟨h.st.but hb (fun k hk => .inr (by have := h.hl; omega)) (by have := h.hl; omega), h.z.but hb (by have := h.hl; omega), h.r.but hb (by have := h.hl; omega), ?_, h.ca.far hb (fun b e => by have := h.gl; have := h.hl; omega), ⟨hb.os.trans h.bu.os, hb.tape.trans h.bu.tape, hb.output.trans h.bu.output, Nat.le_trans h.bu.size hb.size, fun k hk hs => (hb.block k (Nat.lt_of_lt_of_le hk h.bu.size) (by have := h.hl; omega)).trans (h.bu.block k hk hs)⟩, h.gl, h.hl⟩
  have := h.x.set_ 0 (.slice (some ⟨w.heap.size + 2, 0, none⟩) n n)
  simpa using this
end
/-- a valid state was made -/
def StateO (tbs : List Tb) (n : Nat) (w : World) (g : Nat) (e : Ending) (w' : World) : Prop := ∃ (b : Nat) (ls : List TlP), e = .returned (.agg #[.slice (some ⟨b, 0, none⟩) n n]) ∧ w.heap.size ≤ b ∧ StB (fun k => k = g ∨ k = b ∨ k < w.heap.size) w' b n ls ∧ tabsB tbs (stR ls) = true ∧ cntS (stR ls) ≤ 4 * n ∧ CaseAt w' g ∧ But (· = g) w w'
theorem tabsB_nil : ∀ (tbs : List Tb) (n : Nat), tabsB tbs (List.replicate n []) = true
  | [], _ => by cases ‹Nat› <;> rfl
  | _ :: _, 0 => rfl
  | T :: tbs, n + 1 => by rw [List.replicate_succ]; simp [tabsB, rowsB, tabsB_nil tbs n]
def lens (st : List (List Rw)) (k c : Nat) : Prop := ∀ (i : Nat) (l : List Rw), st[i]? = some l → (i < k → l.length ≤ 4) ∧ (i = k → l.length + c ≤ 4) ∧ (k < i → l = [])
theorem cnt_lens : ∀ {st : List (List Rw)}, (∀ l ∈ st, l.length ≤ 4) → cntS st ≤ 4 * st.length
  | [], _ => Nat.zero_le _
  | x :: st, h => by
    have h1 := h x (by simp)
    have h2 := cnt_lens (st := st) (fun l hl => h l (by simp [hl]))
    simp only [cntS, List.map_cons, List.sum_cons, List.length_cons] at h2 ⊢
    omega
set_option maxRecDepth 100000 in
set_option maxHeartbeats 8000000 in
theorem cstate_any (g : Nat) (ver : Int) (A : Option Addr) (n c : Nat) (tbs : List Tb) (w : World) (hc : CaseAt w g) (hs : ScN g w A n tbs) (hg : GoodS ver tbs) :
    Calls Tryz.prog 8 #[.pointer (some ⟨g, 0, none⟩), .agg #[.int .i64 ver, .slice A n c], .int .i64 1] w fun e w' => StateO tbs n w g e w' := by
  obtain ⟨il, hil, hl0, hl1, hl2⟩ := info_parts (show (Tryz.prog.info? 79).map (fun i => (i.zero, i.size, i.bytes)) = some (some (.slice none 0 0), 1, 24) by kernel_rfl)
  have hgl := hc.lt
  have HS0 := Lib.hid hs
  have HG := Lib.hid hg
  have Hln := Lib.hid ((hs w (But.refl _ _)).len)
  have hn8 : n ≤ 8 := by have := hg.ln; have := Hln.out; omega
  have HC := Lib.hid hc
  have HB : Hid (Below w.heap.size w ((w.alloc (.cells #[.int .i64 ver, .slice A n c] 30)).alloc (.cells #[.slice none 0 0] 25))) := Lib.hid (((Below.refl _ _).alloc (Nat.le_refl _) _).alloc (by simp) _)
  have HZ := Lib.hid ((Blk.new w 30 #[.int .i64 ver, .slice A n c]).alloc (.cells #[.slice none 0 0] 25))
  have HY := Lib.hid (Blk.new (w.alloc (.cells #[.int .i64 ver, .slice A n c] 30)) 25 #[.slice none 0 0])
  have hW1 : ((w.alloc (.cells #[.int .i64 ver, .slice A n c] 30)).alloc (.cells #[.slice none 0 0] 25)).heap.size = w.heap.size + 2 := by simp
  rw [World.size_alloc] at HY
  clear hs hg hc
  go_enter Tryz.func8, Tryz.ntmps8
  go_upto_region 1 with fail
  generalize hW : (w.alloc (.cells #[.int .i64 ver, .slice A n c] 30)).alloc (.cells #[.slice none 0 0] 25) = w1 at *
  have z := HZ.out.cell
  go_upto_region 2 with (at_make; refine wpList_make_full _ rfl _ _ 23 rfl w1.heap.size 79 il (.slice none 0 0) 1 Tryz.underlying23 hil hl0 hl1 .i64 .i64 _ _ n rfl rfl rfl rfl (by rw [hl2]; omega) (by unfold maxLen; omega) (Nat.le_refl _) ?_; intro w2 hown hg2)
  have hb2 : Below w1.heap.size w1 w2 := (Below.refl _ _).grown hg2 (Nat.le_refl _) (fun k hk => by cases hk)
  rw [mk_slices] at hown
  obtain ⟨h3, hh3⟩ : ∃ z, w2.heap.size = z := ⟨_, rfl⟩
  rw [hh3]
  have hl3 : w.heap.size + 2 < h3 := by
    rcases hown.2 with ⟨hv, _⟩ | ⟨g', cap, cur, hv, _, hh, _⟩
    · cases hv
    · injection hv with hv
      injection hv with hv
      injection hv with hv
      have := (Array.getElem?_eq_some_iff.1 hh).1
      omega
  have HI : Hid (StI w g h3 n #[.int .i64 ver, .slice A n c] (w2.alloc (.cells #[.slice (some ⟨w.heap.size + 2, 0, none⟩) n n] 25)) (List.replicate n ((none, 0, 0), []))) := Lib.hid (by
    refine ⟨⟨?_, by simp, fun p hp => ?_⟩, (HZ.out.below hb2).alloc _, (HY.out.below hb2).alloc _, ?_, (HC.out.below ((HB.out.trans (hb2.mono HB.out.size)).alloc (by have := HB.out.size; have := hb2.size; omega) _)), But.ofB ((HB.out.trans (hb2.mono HB.out.size)).alloc (by have := HB.out.size; have := hb2.size; omega) _), hgl, hl3⟩
    · rcases hown.2 with ⟨hv, _⟩ | ⟨g', cap, cur, hv, _, hh, _, _, hcs, htk⟩
      · cases hv
      · injection hv with hv _ hv3
        injection hv with hv
        injection hv with hv
        subst hv hv3
        rw [← hW1]
        have hcur : cur = (List.replicate n (Value.slice none 0 0)).toArray := by
          have h1 : cur.toList = List.replicate n (Value.slice none 0 0) := by
            rw [← htk, List.take_of_length_le (by simp; omega)]
          rw [← h1]
        rw [hcur] at hh
        have : Blk w2 w1.heap.size 79 (List.replicate n (Value.slice none 0 0)).toArray := hh
        have h2 := this.alloc (.cells #[.slice (some ⟨w1.heap.size, 0, none⟩) n n] 25)
        simpa using h2
    · obtain rfl := List.eq_of_mem_replicate hp
      exact fun w' _ => ⟨⟨Sl.nil, fun q h => absurd h List.not_mem_nil⟩, fun _ => ⟨rfl, rfl⟩, Nat.le_refl _, Nat.zero_le _⟩
    · have := Blk.new w2 25 #[.slice (some ⟨w.heap.size + 2, 0, none⟩) n n]
      rwa [hh3] at this)
  clear hown hg2 hb2 HZ HY HC z
  generalize w2.alloc (.cells #[.slice (some ⟨w.heap.size + 2, 0, none⟩) n n] 25) = w3 at *
  have z := HI.out.z.cell
  have hr0 : stR (List.replicate n ((none, 0, 0), [])) = List.replicate n [] := by simp [stR, tlR]
  have HL0 : Hid (tabsB tbs (stR (List.replicate n ((none, 0, 0), []))) = true ∧ lens (stR (List.replicate n ((none, 0, 0), []))) 0 4) := Lib.hid (by
    rw [hr0]
    refine ⟨tabsB_nil _ _, fun i l h => ?_⟩
    obtain rfl := List.eq_of_mem_replicate (List.mem_of_getElem? h)
    exact ⟨fun _ => by simp, fun _ => by simp, fun _ => rfl⟩)
  go_wp2_with fail
  clear z
  go_loopw [19] (fun i wr => ∃ (k : Nat) (ls : List TlP), k ≤ n ∧ i = .int .i64 (k : Int) ∧ Hid (StI w g h3 n #[.int .i64 ver, .slice A n c] wr ls) ∧ Hid (tabsB tbs (stR ls) = true ∧ lens (stR ls) k 4)) (fun i _ => n - (intOf i).toNat)
  case atStart => exact ⟨0, _, by omega, rfl, HI, HL0⟩
  case round =>
    obtain ⟨k, ls, hk, rfl, HI, HL⟩ := hrel
    clear HL0 hr0
    by_cases hlt : k < n
    · go_wp2_with fail
      refine (int_any g 5 _ HI.out.ca (by omega) (by omega)).mono ?_
      rintro e w4 ⟨⟨y, hy1, hy2, rfl⟩, hc4, hb4⟩
      obtain ⟨cn, rfl⟩ := Int.eq_ofNat_of_zero_le hy1
      have HI4 := Lib.hid (HI.out.case hc4 hb4)
      have HL4 : Hid (tabsB tbs (stR ls) = true ∧ lens (stR ls) k cn) := Lib.hid ⟨HL.out.1, fun i l h => ⟨(HL.out.2 i l h).1, fun e => by have := (HL.out.2 i l h).2.1 e; omega, (HL.out.2 i l h).2.2⟩⟩
      have hcn : cn ≤ 4 := by omega
      clear hy1 hy2 hc4 hb4 HI HL
      obtain ⟨T, hT⟩ : ∃ T, tbs[k]? = some T := ⟨_, List.getElem?_eq_getElem (by rw [Hln.out]; exact hlt)⟩
      have HT := Lib.hid hT
      have HGT := Lib.hid (HG.out.tb T (List.mem_of_getElem? hT))
      clear hT
      go_wp2_with fail
      go_loopw [9] (fun i wr => ∃ (q : Nat) (ls : List TlP), q ≤ 4 ∧ i = .int .i64 (q : Int) ∧ Hid (StI w g h3 n #[.int .i64 ver, .slice A n c] wr ls) ∧ Hid (tabsB tbs (stR ls) = true ∧ lens (stR ls) k q)) (fun i _ => (intOf i).toNat)
      case atStart => exact ⟨cn, ls, hcn, rfl, HI4, HL4⟩
      case round =>
        clear HI4 HL4
        obtain ⟨q, ls, hq, rfl, HI, HL⟩ := hrel
        by_cases hq0 : 0 < q
        · have z := HI.out.z.cell
          go_wp2_with fail
          clear z
          have HI5 : Hid (StI w g h3 n #[.int .i64 ver, .slice A n c] wr.drew ls) := Lib.hid (HI.out.below ((Below.refl _ _).drew))
          clear HI
          generalize hWn : wr.drew = Wn at *
          obtain ⟨b', o', e', rfl, hT', _, _, _, hkc, _, _⟩ := (HS0.out _ HI5.out.bu).at hlt
          have qk : ∀ x : LaterS (fun k => k = g) Wn, (afterS (fun k => k = g) Wn x).cell? ⟨b', o' + k * 5 + 2, none⟩ = some (.int .i64 T.key) := fun x => by
            obtain ⟨b2, o2, e2, hA, hT2, _, _, _, hk2, _, _⟩ := (HS0.out _ (HI5.out.bu.trans x.but)).at hlt
            injection hA with hA
            injection hA with h1 h2
            subst h1 h2
            rw [HT.out] at hT2
            injection hT2 with hT2
            rw [hT2]
            exact hk2
          have qz : ∀ (x : LaterS (fun k => k = g) Wn) j, (afterS (fun k => k = g) Wn x).cell? ⟨w.heap.size, j, none⟩ = (#[.int .i64 ver, .slice (some ⟨b', o', none⟩) n c] : Array Value)[j]? := fun x j => (HI5.out.z.but x.but (by show ¬ w.heap.size = g; omega)).cell j
          clear hT' hkc
          refine wp_region_segS (fun k => k = g) [([0, 1, 2, 4, 5, 6, 7, 8, 9, 10], 3), ([], 11)] [12] (by kernel_rfl) (by kernel_rfl) (fun _ _ d _ _ h => by cases d <;> exact h) ?_
          rw [hWn]
          clear hWn
          simp only [pickSegs, pickOps, opAt, List.map_cons, List.map_nil, List.getElem?_toArray, List.getElem?_cons_zero, List.getElem?_cons_succ, Option.getD_some]
          unfold wpBlocksS
          repeat (go_big_quiet_step (fail))
          refine wpQuiet_nil ?_
          clear qk qz
          go_wp2_with fail
          refine (rkinds_any ver _ n c tbs k T _ (HS0.out _ HI5.out.bu) hn8 HT.out HGT.out.cl).mono ?_
          rintro e w5 ⟨KA, kc, rfl, hown, hb5⟩
          have HI6 := Lib.hid (HI5.out.below hb5)
          have HKd : Hid (ClN g w5 KA T.cols.length T.kinds) := Lib.hid ⟨KdsO.cl hown, fun hn b o hA => by
            have := (own_lt hown (k := b) (by rw [hA]; rfl)).1
            have := HI5.out.bu.size
            omega⟩
          clear hown
          go_wp2_with fail
          refine ⟨But.ofB hb5, ?_⟩
          unfold wpBlocksS
          refine wpQuiet_nil ?_
          clear hb5 HI5
          go_wp2_with fail
          refine (crow_any g T.kinds KA _ kc T.key _ HI6.out.ca HKd.out (by have := HGT.out.cl; omega) (fun x hx => ?_)).mono ?_
          · unfold Tb.kinds at hx
            obtain ⟨y, hy, rfl⟩ := List.mem_map.1 hx
            have := (HGT.out.cn y hy).2
            unfold kindB at this
            simpa using this
          rintro e w6 ⟨RA, rc, r, rfl, hro, hrf, hc6, hb6⟩
          have HI7 := Lib.hid (HI6.out.case hc6 hb6)
          have HRO := Lib.hid (hro.mono HI6.out.bu.size)
          have HRF : Hid (fitsB T r = true) := Lib.hid hrf
          have hr8 : r.length ≤ 8 := by have := fitL_len hrf; unfold Tb.kinds at this; rw [List.length_map] at this; have := HGT.out.cl; omega
          clear hro hrf hc6 HI6 HKd
          go_wp2_with fail
          refine ⟨hb6, ?_⟩
          unfold wpBlocksS
          repeat (go_big_quiet_step (fail))
          refine wpQuiet_nil ?_
          clear hb6
          have z := HI7.out.z.cell
          have zx := HI7.out.x.cell
          go_wp2_with fail
          clear z zx
          refine wp_region_planR [9] (onlyB (w.heap.size + 2)) anyW (onlyB_trans _) anyW_trans (.one [0, 1, 2, 3, 4, 5, 7] [] 6 (.one [] [] 8 (.one [] [] 9 (.last [] [])))) (by kernel_rfl) (by kernel_rfl) (fun _ _ d _ _ h => by cases d <;> exact h) ?_
          have HI8 : Hid (StI w g h3 n #[.int .i64 ver, .slice (some ⟨b', o', none⟩) n c] w6.drew ls) := Lib.hid (HI7.out.below ((Below.refl _ _).drew))
          have HRO8 : Hid (OwnRow w6.drew w.heap.size ((RA, r.length, rc), r)) := Lib.hid (HRO.out.below ((Below.refl _ _).drew))
          clear HI7 HRO
          generalize hWd : w6.drew = wd at *
          clear hWd
          have qz : ∀ (y : LaterR (onlyB (w.heap.size + 2)) wd) j, (afterR (onlyB (w.heap.size + 2)) wd y).cell? ⟨w.heap.size, j, none⟩ = (#[.int .i64 ver, .slice (some ⟨b', o', none⟩) n c] : Array Value)[j]? := fun y j => y.cell (HI8.out.z.cell j) (fun W h => (HI8.out.z.but h (by show ¬ w.heap.size = w.heap.size + 2; omega)).cell j)
          have qx : ∀ (y : LaterR (onlyB (w.heap.size + 2)) wd) j, (afterR (onlyB (w.heap.size + 2)) wd y).cell? ⟨h3, j, none⟩ = (#[.slice (some ⟨w.heap.size + 2, 0, none⟩) n n] : Array Value)[j]? := fun y j => y.cell (HI8.out.x.cell j) (fun W h => (HI8.out.x.but h (by show ¬ h3 = w.heap.size + 2; omega)).cell j)
          unfold wpPlanR
          simp only [pickOps, opAt, List.map_cons, List.map_nil, List.getElem?_toArray, List.getElem?_cons_zero, List.getElem?_cons_succ, Option.getD_some]
          repeat (go_big_quiet_step (fail))
          refine wpQuiet_nil ?_
          repeat (go_big_quiet_step (fail))
          refine wpQuiet_nil ?_
          clear qz qx
          go_wp2_with fail
          have hk1 := HGT.out.k1
          have hk8 : T.key ≤ 8 := by have := HGT.out.k2; have := HGT.out.cl; omega
          refine (rkey_any ver _ n c tbs k T RA _ rc r _ (HS0.out _ HI8.out.bu) hn8 HT.out (by omega) hk8 HRO8.out.ok).mono ?_
          rintro e w8 ⟨KA2, kc2, rfl, hko, hb8⟩
          have HI9 := Lib.hid (HI8.out.below hb8)
          have HRO9 := Lib.hid (HRO8.out.below hb8)
          have HKO := Lib.hid hko.ok
          clear hko HI8 HRO8
          go_wp2_with fail
          refine ⟨⟨fun _ => But.ofB hb8, trivial⟩, ?_⟩
          unfold wpPlanR
          simp only [pickOps, opAt, List.map_nil, List.getElem?_toArray, List.getElem?_cons_zero, List.getElem?_cons_succ, Option.getD_some]
          refine wpQuiet_nil ?_
          refine wpQuiet_nil ?_
          clear hb8
          obtain ⟨pl, hpl⟩ : ∃ pl, ls[k]? = some pl := ⟨_, List.getElem?_eq_getElem (by rw [HI9.out.st.len]; exact hlt)⟩
          have Hpl := Lib.hid hpl
          have Hlp : Hid ((tlR pl).length + q ≤ 4) := Lib.hid ((HL.out.2 k _ (stR_at hpl)).2.1 rfl)
          clear hpl
          go_wp2_with fail
          refine (rput_any ver _ n c tbs (w.heap.size + 2) n ls k T pl KA2 _ kc2 (keyT T r) RA _ rc r (SSt g w.heap.size h3) _ (HS0.out _ HI9.out.bu) hn8 HT.out (by omega) hk8 HI9.out.st Hpl.out (.inr (by have := HI9.out.hl; omega)) (fun x hx => ?_) HKO.out HRO9.out.ok hr8 (by have := Hlp.out; omega)).mono ?_
          · have h1 := HI9.out.x.lt
            have h2 := HI9.out.bu.size
            rcases hx with hx | hx <;> omega
          rintro e w9 ⟨rfl, hbt, pn, hpn, hst⟩
          have HIA := Lib.hid (HI9.out.put hbt hst)
          have HP : Hid (tlR pn = putRw T (keyT T r) r (tlR pl)) := Lib.hid hpn
          clear hst hpn HI9 HRO9 HKO
          go_wp2_with fail
          refine ⟨⟨fun _ => hbt, trivial⟩, ?_⟩
          unfold wpPlanR
          simp only [pickOps, opAt, List.map_nil, List.getElem?_toArray, List.getElem?_cons_zero, List.getElem?_cons_succ, Option.getD_some]
          refine wpQuiet_nil ?_
          refine wpQuiet_nil ?_
          clear hbt
          have zx := HIA.out.x.cell
          have zf := HIA.out.x.free
          have HIB := Lib.hid HIA.out.again
          have HLB : Hid (tabsB tbs (stR (ls.set k pn)) = true ∧ lens (stR (ls.set k pn)) k (q - 1)) := Lib.hid (by
            have e1 : stR (ls.set k pn) = (stR ls).set k (putRw T (keyT T r) r (tlR pl)) := by unfold stR; rw [List.map_set, HP.out]
            have hr1 : ¬ r.length = 0 := by
              have h1 := fitL_len HRF.out
              unfold Tb.kinds at h1
              rw [List.length_map] at h1
              have := HGT.out.k2
              omega
            rw [e1]
            refine ⟨tabsB_set _ _ _ T _ HL.out.1 HT.out ?_, fun i l h => ?_⟩
            · unfold putRw
              rw [decide_eq_false hr1]
              exact rowsB_put HRF.out rfl _ none (tabsB_at _ _ _ T _ HL.out.1 HT.out (stR_at Hpl.out)) (fun x hx => by cases hx)
            · rw [List.getElem?_set] at h
              split at h
              · rename_i e
                subst e
                split at h
                · injection h with h
                  subst h
                  have h2 := putRw_len (T := T) (key := keyT T r) (row := r) (tlR pl)
                  have := Hlp.out
                  exact ⟨fun e => by omega, fun _ => by omega, fun e => by omega⟩
                · cases h
              · exact ⟨(HL.out.2 i l h).1, fun e => by omega, (HL.out.2 i l h).2.2⟩)
          go_wp2_with fail
          refine ⟨⟨fun h => (h (by decide)).elim, trivial⟩, ?_⟩
          unfold wpPlanR
          simp only [pickOps, List.map_nil]
          refine wpQuiet_nil ?_
          refine wpQuiet_nil ?_
          clear zx zf
          go_wp2
          go_roundw
          case rel => exact ⟨q - 1, _, by omega, congrArg (Value.int .i64) (by omega), HIB, HLB⟩
          case measure => simp [intOf]; omega
        · obtain rfl : q = 0 := by omega
          go_wp2
          go_roundw
          case rel => exact ⟨k + 1, ls, by omega, by go_num, HI, Lib.hid ⟨HL.out.1, fun i l h => ⟨fun e => by
            rcases Nat.lt_or_ge i k with h1 | h1
            · exact (HL.out.2 i l h).1 h1
            · have := (HL.out.2 i l h).2.1 (by omega); omega, fun e => by rw [(HL.out.2 i l h).2.2 (by omega)]; simp, fun e => (HL.out.2 i l h).2.2 (by omega)⟩⟩⟩
          case measure => simp [intOf]; omega
    · obtain rfl : k = n := by omega
      have zr := HI.out.r.cell
      have zf := HI.out.r.free
      have zx := HI.out.x.cell
      have HF : Hid (let wf := wr.setCell ⟨w.heap.size + 1, 0, none⟩ (.slice (some ⟨w.heap.size + 2, 0, none⟩) k k); Blk wf (w.heap.size + 1) 25 #[.slice (some ⟨w.heap.size + 2, 0, none⟩) k k] ∧ StateO tbs k w g (.returned (.agg #[.slice (some ⟨w.heap.size + 2, 0, none⟩) k k])) wf) := Lib.hid (by
        intro wf
        have hb : But (· = w.heap.size + 1) wr wf := But.set (S := (· = w.heap.size + 1)) wr (p := ⟨w.heap.size + 1, 0, none⟩) rfl _
        have hll : (stR ls).length = k := by unfold stR; rw [List.length_map]; exact HI.out.st.len
        refine ⟨?_, w.heap.size + 2, ls, rfl, by omega, ⟨HI.out.st.blk.but hb (by omega), HI.out.st.len, fun p hp => ?_⟩, HL.out.1, ?_, HI.out.ca.far hb (fun b e => by omega), ⟨hb.os.trans HI.out.bu.os, hb.tape.trans HI.out.bu.tape, hb.output.trans HI.out.bu.output, Nat.le_trans HI.out.bu.size hb.size, fun x hx hs => (hb.block x (Nat.lt_of_lt_of_le hx HI.out.bu.size) (by omega)).trans (HI.out.bu.block x hx hs)⟩⟩
        · have := HI.out.r.set_ 0 (.slice (some ⟨w.heap.size + 2, 0, none⟩) k k)
          simpa using this
        · intro w2 hw2
          refine ((HI.out.st.ok p hp).step ⟨hb.os, hb.tape, hb.output, hb.size, fun x hx hs => hb.block x hx (fun e => hs (.inr (by have := HI.out.hl; omega)))⟩) w2 ⟨hw2.os, hw2.tape, hw2.output, hw2.size, fun x hx hs => hw2.block x hx (fun e => hs ?_)⟩
          rcases e with e | e | e
          · exact .inl e
          · exact .inr (by have := HI.out.hl; omega)
          · exact .inr (by have := HI.out.hl; omega)
        · have := cnt_lens (st := stR ls) (fun l hl => by
            obtain ⟨i, hi⟩ := List.mem_iff_getElem?.1 hl
            have h1 := (List.getElem?_eq_some_iff.1 hi).1
            exact (HL.out.2 i l hi).1 (by omega))
          omega)
      go_wp2
      have zc := HF.out.1.cell
      exact bodyPost_ret (v := .agg #[.slice (some ⟨w.heap.size + 2, 0, none⟩) k k]) (by simp [results, Tryz.results8, go_sem, zc]) rfl HF.out.2
end Go.Proofs.YtponkkljlbifmaaGreat

/-
  Trees of nodes whose blocks all lie in a set L: how they stay, how they are made. No program here.
-/
namespace Go.Proofs.YtponkkljlbifmaaGreat
open Go.RowKit
set_option maxRecDepth 100000
open Pd

/-- as PdP; every block of the tree is in L -/
def PdPL (L : Nat → Prop) (w : World) : Pd → Nat → Nat → Prop
  | .nil _, _, _ => True
  | .cons a t, b, o => L b ∧ (∀ (j : Nat) (u : Value), a.h.cs[j]? = some u → w.cell? ⟨b, o + j, none⟩ = some u) ∧
    (∃ A n c, w.cell? ⟨b, o + 12, none⟩ = some (.slice A n c) ∧ okS A n c ∧ n = a.len ∧ (0 < n → ∃ b' o', A = some ⟨b', o', none⟩ ∧ PdPL L w a b' o')) ∧ PdPL L w t b (o + 13)
structure PrdL (L : Nat → Prop) (w : World) (A : Option Addr) (n c : Nat) (p : Pd) : Prop where
  ok : okS A n c
  len : n = p.len
  ex : 0 < n → ∃ b o, A = some ⟨b, o, none⟩ ∧ PdPL L w p b o
theorem PdPL.s {L : Nat → Prop} {w : World} : ∀ {p : Pd} {b o : Nat}, PdPL L w p b o → PdP w p b o
  | .nil _, _, _, _ => trivial
  | .cons a t, b, o, ⟨_, h1, ⟨A, n, c, h2, h3, h4, h5⟩, h6⟩ => ⟨h1, ⟨A, n, c, h2, h3, h4, fun hn => by
    obtain ⟨b', o', e, h⟩ := h5 hn
    exact ⟨b', o', e, h.s⟩⟩, h6.s⟩
theorem PdPL.imp {L L' : Nat → Prop} {w w' : World} (hk : ∀ (b j : Nat) (v : Value), L b → w.cell? ⟨b, j, none⟩ = some v → L' b ∧ w'.cell? ⟨b, j, none⟩ = some v) : ∀ {p : Pd} {b o : Nat}, PdPL L w p b o → PdPL L' w' p b o
  | .nil _, _, _, _ => trivial
  | .cons a t, b, o, ⟨h0, h1, ⟨A, n, c, h2, h3, h4, h5⟩, h6⟩ => by
    refine ⟨(hk b _ _ h0 h2).1, fun j u hu => (hk b _ _ h0 (h1 j u hu)).2, ⟨A, n, c, (hk b _ _ h0 h2).2, h3, h4, fun hn => ?_⟩, PdPL.imp hk h6⟩
    obtain ⟨b', o', e, h⟩ := h5 hn
    exact ⟨b', o', e, PdPL.imp hk h⟩
theorem PdPL.mk {L : Nat → Prop} {w : World} : ∀ {p : Pd} {b o : Nat}, L b → (∀ k q, p.args[k]? = some q → ∃ A n c, ArgAt w b (o + k * 13) q A n c ∧ PrdL L w A n c q) → PdPL L w p b o
  | .nil _, _, _, _, _ => trivial
  | .cons a t, b, o, hb, h => by
    obtain ⟨A, n, c, h0, hL⟩ := h 0 a rfl
    simp only [Nat.zero_mul, Nat.add_zero] at h0
    have hP : PdP w (.cons a (.nil a.h)) b o := PdP.of fun k q hq => by
      cases k with
      | zero =>
        simp only [args, List.getElem?_cons_zero, Option.some.injEq] at hq
        subst hq
        rw [Nat.zero_mul, Nat.add_zero]
        exact ⟨A, n, c, h0⟩
      | succ k => simp [args] at hq
    refine ⟨hb, hP.1, ⟨A, n, c, h0.c12, hL.ok, hL.len, hL.ex⟩, PdPL.mk hb fun k q hq => ?_⟩
    have := h (k + 1) q (by simpa [args] using hq)
    rw [show o + 13 + k * 13 = o + (k + 1) * 13 by omega]
    exact this
section
variable {L L' : Nat → Prop} {w w' : World} {A : Option Addr} {n c : Nat} {p : Pd}
theorem PrdL.s (h : PrdL L w A n c p) : PrdS w A n c p := ⟨h.ok, h.len, fun hn => by
  obtain ⟨b, o, e, h⟩ := h.ex hn
  exact ⟨b, o, e, h.s⟩⟩
theorem PrdL.imp (h : PrdL L w A n c p) (hk : ∀ (b j : Nat) (v : Value), L b → w.cell? ⟨b, j, none⟩ = some v → L' b ∧ w'.cell? ⟨b, j, none⟩ = some v) : PrdL L' w' A n c p := ⟨h.ok, h.len, fun hn => by
  obtain ⟨b, o, e, h⟩ := h.ex hn
  exact ⟨b, o, e, h.imp hk⟩⟩
theorem PrdL.but {S : Nat → Prop} (h : PrdL L w A n c p) (hb : But S w w') (hS : ∀ b, L b → b < w.heap.size → ¬ S b) : PrdL L w' A n c p := h.imp fun b j v hl hv => by
  have hlt := cell_lt (w := w) (a := ⟨b, j, none⟩) (by rw [hv]; rfl)
  exact ⟨hl, (World.cell?_of_block (a := ⟨b, j, none⟩) (hb.block b hlt (hS b hl hlt))).trans hv⟩
theorem PrdL.below (h : PrdL L w A n c p) (hb : Below w.heap.size w w') : PrdL L w' A n c p := h.but (S := fun _ => False) (But.of_below hb) fun _ _ _ h => h
theorem PrdL.mono (h : PrdL L w A n c p) (hL : ∀ b, L b → b < w.heap.size → L' b) : PrdL L' w A n c p := h.imp fun b j v hl hv => by
  have hlt := cell_lt (w := w) (a := ⟨b, j, none⟩) (by rw [hv]; rfl)
  exact ⟨hL b hl hlt, hv⟩
theorem PrdL.nil (L : Nat → Prop) (w : World) (h : Nd) : PrdL L w none 0 0 (.nil h) := ⟨⟨Nat.le_refl _, fun _ => ⟨rfl, rfl⟩⟩, rfl, fun h => absurd h (by omega)⟩
/-- a tree whose blocks are known nowhere -/
theorem PdP.any : ∀ {p : Pd} {b o : Nat}, PdP w p b o → PdPL (fun _ => True) w p b o
  | .nil _, _, _, _ => trivial
  | .cons a t, b, o, ⟨h1, ⟨A, n, c, h2, h3, h4, h5⟩, h6⟩ => ⟨trivial, h1, ⟨A, n, c, h2, h3, h4, fun hn => by
    obtain ⟨b', o', e, h⟩ := h5 hn
    exact ⟨b', o', e, PdP.any h⟩⟩, PdP.any h6⟩
theorem PrdS.any (h : PrdS w A n c p) : PrdL (fun b => b < w.heap.size) w A n c p := by
  refine PrdL.mono (L := fun _ => True) ⟨h.ok, h.len, fun hn => ?_⟩ fun _ _ h => h
  obtain ⟨b, o, e, h⟩ := h.ex hn
  exact ⟨b, o, e, h.any⟩
end
theorem pdl_sl {L : Nat → Prop} {w : World} {A : Option Addr} {n c : Nat} {es : List PdE} (hd : Nd) (h : Sl 13 PdE.cs w A n es) (ho : okS A n c) (hL : 0 < n → ∀ b o, A = some ⟨b, o, none⟩ → L b) (he : ∀ e ∈ es, PrdL L w e.A e.n e.c e.p) : PrdL L w A n c (mkP hd (es.map PdE.p)) := by
  refine ⟨ho, by rw [Pd.len_mk, List.length_map, h.1], fun hn => ?_⟩
  obtain ⟨b, o, e, hc⟩ := h.2 hn
  refine ⟨b, o, e, PdPL.mk (hL hn b o e) fun k q hq => ?_⟩
  rw [args_mk, List.getElem?_map] at hq
  obtain ⟨d, hd', rfl⟩ := Option.map_eq_some_iff.1 hq
  have at_ : ∀ (j : Nat) (u : Value), (PdE.cs d)[j]? = some u → w.cell? ⟨b, o + k * 13 + j, none⟩ = some u := fun j u hu => hc k d hd' j u hu
  have hD := he d (List.mem_of_getElem? hd')
  exact ⟨d.A, d.n, d.c, ⟨at_ 0 _ rfl, at_ 1 _ rfl, at_ 2 _ rfl, at_ 3 _ rfl, at_ 4 _ rfl, at_ 5 _ rfl, at_ 6 _ rfl, at_ 7 _ rfl, at_ 8 _ rfl, at_ 9 _ rfl, at_ 10 _ rfl, at_ 11 _ rfl, at_ 12 _ rfl, hD.s⟩, hD⟩
/-- nodes in a row of the call's own -/
theorem pdl_own {L : Nat → Prop} {w : World} {base : Nat} {A : Option Addr} {n c : Nat} {es : List PdE} (hd : Nd) (h : w.ownsRow base 71 13 (.slice A n c) n (es.flatMap PdE.cs)) (hn : es.length = n) (hL : ∀ b, (Value.slice A n c).ownBlock = some b → L b) (he : ∀ e ∈ es, PrdL L w e.A e.n e.c e.p) : PrdL L w A n c (mkP hd (es.map PdE.p)) :=
  pdl_sl hd (Sl.of_own PdE.cs_len hn h) (own_okS h) (fun _ b o hA => hL b (by rw [hA]; rfl)) he
/-- nodes in a new block -/
theorem pdl_blk {L : Nat → Prop} {w : World} {H : Nat} {cells : Array Value} {es : List PdE} (hd : Nd) (h : Blk w H 71 cells) (hc : cells.toList = es.flatMap PdE.cs) {n : Nat} (hn : es.length = n) (hL : L H) (he : ∀ e ∈ es, PrdL L w e.A e.n e.c e.p) : PrdL L w (some ⟨H, 0, none⟩) n n (mkP hd (es.map PdE.p)) := by
  refine pdl_sl hd ⟨hn, fun _ => ⟨H, 0, rfl, fun k x hx j u hu => ?_⟩⟩ ⟨Nat.le_refl _, fun h => by cases h⟩ (fun _ b o hA => ?_) he
  · rw [h.cell, ← Array.getElem?_toList, hc, Nat.zero_add]
    exact flat_at PdE.cs_len es k x j u hx hu
  · injection hA with hA
    injection hA with hA
    subst hA
    exact hL
/-- cells of one block are overwritten from o on -/
def putL (w : World) (U : Nat) : Nat → List Value → World
  | _, [] => w
  | o, v :: vs => putL (w.setCell ⟨U, o, none⟩ v) U (o + 1) vs
def putA (cs : Array Value) : Nat → List Value → Array Value
  | _, [] => cs
  | o, v :: vs => putA (cs.setIfInBounds o v) (o + 1) vs
theorem putL_but (U : Nat) : ∀ (vs : List Value) (w : World) (o : Nat), But (· = U) w (putL w U o vs)
  | [], _, _ => But.refl _ _
  | v :: vs, w, o => (But.set (S := fun k => k = U) w (p := ⟨U, o, none⟩) rfl v).trans (putL_but U vs _ _)
theorem putL_blk {U : Nat} {T : TypeId} : ∀ (vs : List Value) {w : World} {cs : Array Value} (o : Nat), Blk w U T cs → Blk (putL w U o vs) U T (putA cs o vs)
  | [], _, _, _, h => h
  | v :: vs, _, _, o, h => putL_blk vs (o + 1) (h.set_ o v)
end Go.Proofs.YtponkkljlbifmaaGreat
