/-
  Texts: IgChg, IgRName.
-/
import Derived.Test.YtponkkljlbifmaaGreatG37
import Derived.Deep.CutRange
set_option linter.unusedVariables false
/-
  Case.Changes: valid changes, one after another, and the state after them.
-/
namespace Go.Proofs.YtponkkljlbifmaaGreat
open Go.RowKit
set_option maxRecDepth 100000
open Pd

def ChangesO (tbs : List Tb) (st0 : List (List Rw)) (n : Nat) (w : World) (g : Nat) (e : Ending) (w' : World) : Prop :=
  ∃ (O : Option Addr) (cn oc b cb : Nat) (es : List ChE) (ls : List TlP), e = .returned (.tuple #[.slice O cn oc, .agg #[.slice (some ⟨b, 0, none⟩) n cb]]) ∧ ChsS w' O cn es ∧ StS w' (some ⟨b, 0, none⟩) n ls ∧ cn ≤ 6 ∧
    appS tbs (es.map (·.c)) st0 = (0, stR ls) ∧ OkS tbs (stR ls) ∧ cntS (stR ls) ≤ cntS st0 + cn ∧ CaseAt w' g ∧ But (· = g) w w'
theorem row_nil (w : World) (base : Nat) : OwnRow w base ((none, 0, 0), []) := ⟨⟨by simp, .inl ⟨rfl, rfl⟩⟩, rfl⟩
theorem RGetO.one {T : Tb} {l : List Rw} {key : Rw} {w : World} {e : Ending} {w' : World} (h : RGetO T l key w e w') : ∃ (o : Rw) (OA : Option Addr) (on oc : Nat) (ok : Bool), e = .returned (.tuple #[.slice OA on oc, .bool ok]) ∧ (getT T l key).getD [] = o ∧ OwnRow w' w.heap.size ((OA, on, oc), o) ∧ Below w.heap.size w w' := by
  obtain ⟨⟨r, R, rc, he, hg, ho⟩ | ⟨he, hg⟩, hb⟩ := h
  · exact ⟨r, R, r.length, rc, true, he, by rw [hg]; rfl, ho, hb⟩
  · exact ⟨[], none, 0, 0, false, he, by rw [hg]; rfl, row_nil _ _, hb⟩
theorem info_chg : (Tryz.prog.info? 91).map (fun i => (i.zero, i.size, i.bytes)) = some (some (.agg #[.int .i64 0, .slice none 0 0, .slice none 0 0]), 3, 56) := by kernel_rfl
/-- the row in the making: w4 the world before it -/
structure RwI (w4 : World) (base g hx : Nat) (ch : Array Value) (T : Tb) (RA : Option Addr) (rl rc : Nat) (r : Rw) (wc : World) : Prop where
  ca : CaseAt wc g
  bu : But (· = g) w4 wc
  x : Blk wc hx 91 ch
  row : OwnRow wc base ((RA, rl, rc), r)
  fit : fitsB T r = true
theorem RwI.case {w4 wc w' : World} {base g hx : Nat} {ch : Array Value} {T : Tb} {RA : Option Addr} {rl rc : Nat} {r : Rw} (h : RwI w4 base g hx ch T RA rl rc r wc) (hg : g < base) (hc : CaseAt w' g) (hb : But (· = g) wc w') (hx' : hx ≠ g) : RwI w4 base g hx ch T RA rl rc r w' :=
  ⟨hc, h.bu.trans hb, h.x.but hb hx', ⟨own_at h.row.1 (fun k hk hlt _ => hb.block k hlt (by omega)), h.row.2⟩, h.fit⟩
theorem RwI.below {w4 wc w' : World} {base g hx : Nat} {ch : Array Value} {T : Tb} {RA : Option Addr} {rl rc : Nat} {r : Rw} (h : RwI w4 base g hx ch T RA rl rc r wc) (hb : Below wc.heap.size wc w') : RwI w4 base g hx ch T RA rl rc r w' :=
  ⟨h.ca.below hb, h.bu.trans (But.ofB hb), h.x.below hb, h.row.below hb, h.fit⟩
/-- the change's box is written -/
theorem RwI.set {w4 wc : World} {base g hx j : Nat} {ch : Array Value} {T : Tb} {RA : Option Addr} {rl rc : Nat} {r : Rw} (h : RwI w4 base g hx ch T RA rl rc r wc) (h4 : w4.heap.size ≤ hx) (hg : g < w4.heap.size) (u : Value) : RwI w4 base g hx (ch.setIfInBounds j u) T RA rl rc r (wc.setCell ⟨hx, j, none⟩ u) := by
  have hb : But (· = hx) wc (wc.setCell ⟨hx, j, none⟩ u) := But.set (S := (· = hx)) wc (p := ⟨hx, j, none⟩) rfl _
  exact ⟨h.ca.far hb (fun k e => by omega), ⟨hb.os.trans h.bu.os, hb.tape.trans h.bu.tape, hb.output.trans h.bu.output, Nat.le_trans h.bu.size hb.size, fun k hk hne => (hb.block k (Nat.lt_of_lt_of_le hk h.bu.size) (by omega)).trans (h.bu.block k hk hne)⟩, h.x.set_ j u, ⟨own_bne h.row.1 h.x (by decide) hb, h.row.2⟩, h.fit⟩
/-- the key's cells go over the row's -/
theorem RwI.copy {w4 wc w' : World} {base g hx : Nat} {ch : Array Value} {T : Tb} {RA : Option Addr} {rl rc : Nat} {r x : Rw} (h : RwI w4 base g hx ch T RA rl rc r wc) (hg : g < base) (h4 : w4.heap.size = base) (hx2 : fitsB T x = true) (hkn : (keyT T x).length ≤ rl) (ho : w'.ownsRow base 67 3 (.slice RA rl rc) rl ((keyT T x ++ r.drop (keyT T x).length).flatMap Vl.cs)) (hb : Below base wc w') (hk : ∀ k, (Value.slice RA rl rc).ownBlock ≠ some k → w'.heap[k]? = wc.heap[k]?) : RwI w4 base g hx ch T RA rl rc (keyT T x ++ r.drop (keyT T x).length) w' := by
  refine ⟨h.ca.belowB hb hg, ⟨hb.os.trans h.bu.os, hb.tape.trans h.bu.tape, hb.output.trans h.bu.output, Nat.le_trans h.bu.size hb.size, fun k hk2 hne => (hb.block k (by omega)).trans (h.bu.block k hk2 hne)⟩, ?_, ⟨ho, ?_⟩, fits_key hx2 h.fit⟩
  · refine (hk hx (fun e => ?_)).trans h.x
    rcases h.row.1.2 with ⟨hv, _⟩ | ⟨g1, cap1, cur1, hv, _, hh1, _⟩
    · rw [hv] at e; simp [Value.ownBlock] at e
    · rw [hv] at e
      simp only [Value.ownBlock, Option.some.injEq] at e
      subst e
      have hbx := h.x
      unfold Blk at hbx
      rw [hh1] at hbx
      injection hbx with hbx
      injection hbx with _ ht
      exact absurd ht (by decide)
  · show (keyT T x ++ r.drop (keyT T x).length).length = rl
    have h1 : r.length = rl := h.row.2
    rw [List.length_append, List.length_drop, h1]
    omega
set_option maxRecDepth 100000 in
set_option maxHeartbeats 4000000 in
theorem cchanges_any (g : Nat) (ver : Int) (A : Option Addr) (n c : Nat) (tbs : List Tb) (B : Option Addr) (m0 : Nat) (ls0 : List TlP) (w : World) (hc : CaseAt w g) (hs : ScN g w A n tbs) (hg : GoodS ver tbs) (hst : StS w B n ls0) (hok : OkS tbs (stR ls0)) (hct : cntS (stR ls0) ≤ 100) (hn0 : 0 < n) :
    Calls Tryz.prog 14 #[.pointer (some ⟨g, 0, none⟩), .agg #[.int .i64 ver, .slice A n c], .int .i64 1, .agg #[.slice B n m0], .int .i64 6] w fun e w' => ChangesO tbs (stR ls0) n w g e w' := by
  obtain ⟨i0, hi0, hz0, hz1, hz2⟩ := info_parts info_chg
  have hgl := hc.lt
  have HB : Hid (Below w.heap.size w (((w.alloc (.cells #[.int .i64 ver, .slice A n c] 30)).alloc (.cells #[.slice B n m0] 25)).alloc (.cells #[.slice none 0 0] 25))) := Lib.hid ((((Below.refl _ _).alloc (Nat.le_refl _) _).alloc (by simp) _).alloc (by simp; omega) _)
  have HST := Lib.hid (hst.keep (keeps_of HB.out))
  have HS0 := Lib.hid hs
  have HG := Lib.hid hg
  have HC := Lib.hid (hc.below HB.out)
  have HZ := Lib.hid (((Blk.new w 30 #[.int .i64 ver, .slice A n c]).alloc (.cells #[.slice B n m0] 25)).alloc (.cells #[.slice none 0 0] 25))
  have HY := Lib.hid ((Blk.new (w.alloc (.cells #[.int .i64 ver, .slice A n c] 30)) 25 #[.slice B n m0]).alloc (.cells #[.slice none 0 0] 25))
  have HR := Lib.hid (Blk.new ((w.alloc (.cells #[.int .i64 ver, .slice A n c] 30)).alloc (.cells #[.slice B n m0] 25)) 25 #[.slice none 0 0])
  rw [World.size_alloc] at HY
  rw [World.size_alloc, World.size_alloc] at HR
  have HOK := Lib.hid hok
  have Hln := Lib.hid ((hs w (But.refl _ _)).len)
  have hn8 : n ≤ 8 := by have := hg.ln; have := Hln.out; omega
  have H8 : Hid (∀ l ∈ stR ls0, ∀ r ∈ l, r.length ≤ 1000) := Lib.hid (fun l hl r hr => by
    obtain ⟨i, hi⟩ := List.mem_iff_getElem?.1 hl
    have := hok.row8' hg hi r hr
    omega)
  clear hs hg hc hst hok
  go_enter Tryz.func14, Tryz.ntmps14
  go_upto_region 2 with fail
  generalize hW : ((w.alloc (.cells #[.int .i64 ver, .slice A n c] 30)).alloc (.cells #[.slice B n m0] 25)).alloc (.cells #[.slice none 0 0] 25) = w1 at *
  clear hW
  have HLt : Hid (w.heap.size + 1 + 1 < w1.heap.size) := Lib.hid HR.out.lt
  have zy := HY.out.cell
  go_wp2_with fail
  refine (rcopy_any B n m0 ls0 _ HST.out (by omega) hn0 (by omega) H8.out).mono ?_
  rintro e w2 ⟨b, cb, pad, ls, rfl, hbb, hsp, hls, hb2⟩
  have HI : Hid (ChI w w1 (fun k => k = b ∨ k < w1.heap.size) g b n cb pad #[.int .i64 ver, .slice A n c] (w2.setCell ⟨w.heap.size + 1, 0, none⟩ (.slice (some ⟨b, 0, none⟩) n cb)) ls none 0 0 []) := Lib.hid (by
    have hlt := HLt.out
    have hset : But (· = w.heap.size + 1) w2 (w2.setCell ⟨w.heap.size + 1, 0, none⟩ (.slice (some ⟨b, 0, none⟩) n cb)) := But.set (S := (· = w.heap.size + 1)) w2 (p := ⟨w.heap.size + 1, 0, none⟩) rfl _
    have hbw := HB.out.trans (hb2.mono HB.out.size)
    refine ⟨hsp.but hset (fun k hk => .inr (by omega)) (by omega), ?_, (HZ.out.below hb2).but hset (by omega), (HR.out.below hb2).but hset (by omega), (HC.out.below hb2).far hset (fun k e => by omega), ⟨hset.os.trans hbw.os, hset.tape.trans hbw.tape, hset.output.trans hbw.output, Nat.le_trans hbw.size hset.size, fun k hk hne => (hset.block k (Nat.lt_of_lt_of_le hk hbw.size) (by omega)).trans (hbw.block k hk)⟩, hbb, hgl, hlt, Nat.le_trans hb2.size hset.size, .inl rfl, fun k hk => .inr hk, fun k hk => ?_, fun k hk => (by cases hk), ⟨by simp, .inl ⟨rfl, rfl⟩⟩, rfl, fun _ h => absurd h List.not_mem_nil⟩
    · have := (HY.out.below hb2).set_ 0 (.slice (some ⟨b, 0, none⟩) n cb)
      simpa using this
    · rcases hk with hk | hk
      · rw [hk]; exact Nat.lt_of_lt_of_le hsp.blk.lt hset.size
      · exact Nat.lt_of_lt_of_le hk (Nat.le_trans hb2.size hset.size))
  have HP : Hid (appS tbs (([] : List ChE).map (·.c)) (stR ls0) = (0, stR ls) ∧ OkS tbs (stR ls) ∧ cntS (stR ls) ≤ cntS (stR ls0) + 0) := Lib.hid ⟨by rw [hls]; rfl, by rw [hls]; exact HOK.out, by rw [hls]; exact Nat.le_refl _⟩
  have zy2 := (HY.out.below hb2).cell
  have zyf := (HY.out.below hb2).free
  clear zy hb2 hsp hls hbb HZ HY HR HC HB HST H8
  go_upto_region 3 with fail
  clear zy2 zyf
  generalize w2.setCell ⟨w.heap.size + 1, 0, none⟩ (.slice (some ⟨b, 0, none⟩) n cb) = w3 at *
  go_wp2_with fail
  refine (int_any g 7 _ HI.out.ca (by omega) (by omega)).mono ?_
  rintro e w4 ⟨⟨y, hy1, hy2, rfl⟩, hc4, hb4⟩
  obtain ⟨q0, rfl⟩ := Int.eq_ofNat_of_zero_le hy1
  replace HI := Lib.hid (HI.out.case hc4 hb4)
  have hq06 : q0 + 0 ≤ 6 := by omega
  clear hy1 hy2 hc4 hb4
  go_wp2_with fail
  go_loopw [12, 13] (fun v i wr => ∃ (q : Nat) (S : Nat → Prop) (ls : List TlP) (O : Option Addr) (cn oc : Nat) (es : List ChE), q + cn ≤ 6 ∧ i = .int .i64 (q : Int) ∧ v = .slice O cn oc ∧ Hid (ChI w w1 S g b n cb pad #[.int .i64 ver, .slice A n c] wr ls O cn oc es) ∧ Hid (appS tbs (es.map (·.c)) (stR ls0) = (0, stR ls) ∧ OkS tbs (stR ls) ∧ cntS (stR ls) ≤ cntS (stR ls0) + cn)) (fun _ i _ => (intOf i).toNat)
  case atStart => exact ⟨q0, _, ls, none, 0, 0, [], hq06, rfl, rfl, HI, HP⟩
  case round =>
    clear HI HP hq06
    obtain ⟨q, S, ls, O, cn, oc, es, hqc, rfl, rfl, HI, HP⟩ := hrel
    have zz := HI.out.z.cell
    have gn : decide (0 < n) = true := by simp [hn0]
    by_cases hq0 : 0 < q
    · have g0 : decide (0 < q) = true := by simp [hq0]
      go_wp2_with fail
      refine (int_any g (n : Int) _ HI.out.ca (by omega) (by omega)).mono ?_
      rintro e w5 ⟨⟨y, hy1, hy2, rfl⟩, hc5, hb5⟩
      obtain ⟨t, rfl⟩ := Int.eq_ofNat_of_zero_le hy1
      have htn : t < n := by omega
      replace HI := Lib.hid (HI.out.case hc5 hb5)
      clear zz hy1 hy2 hc5 hb5
      obtain ⟨T, hT⟩ : ∃ T, tbs[t]? = some T := ⟨_, List.getElem?_eq_getElem (by rw [Hln.out]; exact htn)⟩
      have HT := Lib.hid hT
      have HGT := Lib.hid (HG.out.tb T (List.mem_of_getElem? hT))
      clear hT
      have HX : Hid (Blk (w5.alloc (.cells #[.int .i64 (t : Int), .slice none 0 0, .slice none 0 0] 91)) w5.heap.size 91 #[.int .i64 (t : Int), .slice none 0 0, .slice none 0 0]) := Lib.hid (Blk.new w5 _ _)
      have HI6 := Lib.hid (HI.out.below ((Below.refl w5.heap.size w5).alloc (Nat.le_refl _) (.cells #[.int .i64 (t : Int), .slice none 0 0, .slice none 0 0] 91)))
      have HB6 : Hid (But (· = g) w5 (w5.alloc (.cells #[.int .i64 (t : Int), .slice none 0 0, .slice none 0 0] 91))) := Lib.hid (But.alloc _ _)
      obtain ⟨hx, Hhx⟩ : ∃ z, Hid (w5.heap.size = z) := ⟨_, Lib.hid rfl⟩
      have Hxg : Hid (hx ≠ g ∧ w1.heap.size ≤ hx ∧ g < w1.heap.size ∧ g < w5.heap.size) := Lib.hid ⟨by have := HI.out.ca.lt; have := Hhx.out; omega, by have := HI.out.sz; have := Hhx.out; omega, by have := HI.out.gl; have := HI.out.s1; omega, HI.out.ca.lt⟩
      rw [Hhx.out] at HX
      go_upto_region 7 with fail
      rw [Hhx.out]
      generalize w5.alloc (.cells #[.int .i64 (t : Int), .slice none 0 0, .slice none 0 0] 91) = w6 at *
      have zz := HI6.out.z.cell
      go_wp2_with fail
      clear zz
      have HI7 : Hid (ChI w w1 S g b n cb pad #[.int .i64 ver, .slice A n c] w6.drew ls O cn oc es) := Lib.hid (HI6.out.below ((Below.refl _ _).drew))
      have HX7 : Hid (Blk w6.drew hx 91 #[.int .i64 (t : Int), .slice none 0 0, .slice none 0 0]) := Lib.hid HX.out
      have HB7 : Hid (But (· = g) w5 w6.drew) := Lib.hid HB6.out.drew
      clear HI6 HX HB6
      generalize hWn : w6.drew = Wn at *
      obtain ⟨b', o', e', rfl, hT', _, _, _, hkc, _, _⟩ := (HS0.out _ HI7.out.bu).at htn
      have qk : ∀ x : LaterS (fun k => k = g) Wn, (afterS (fun k => k = g) Wn x).cell? ⟨b', o' + t * 5 + 2, none⟩ = some (.int .i64 T.key) := fun x => by
        obtain ⟨b2, o2, e2, hA, hT2, _, _, _, hk2, _, _⟩ := (HS0.out _ (HI7.out.bu.trans x.but)).at htn
        injection hA with hA
        injection hA with h1 h2
        subst h1 h2
        rw [HT.out] at hT2
        injection hT2 with hT2
        rw [hT2]
        exact hk2
      have qz : ∀ (x : LaterS (fun k => k = g) Wn) j, (afterS (fun k => k = g) Wn x).cell? ⟨w.heap.size, j, none⟩ = (#[.int .i64 ver, .slice (some ⟨b', o', none⟩) n c] : Array Value)[j]? := fun x j => (HI7.out.z.but x.but (by show ¬ w.heap.size = g; omega)).cell j
      have qh : ∀ (x : LaterS (fun k => k = g) Wn) j, (afterS (fun k => k = g) Wn x).cell? ⟨hx, j, none⟩ = (#[.int .i64 (t : Int), .slice none 0 0, .slice none 0 0] : Array Value)[j]? := fun x j => (HX7.out.but x.but Hxg.out.1).cell j
      clear hT' hkc
      refine wp_region_segS (fun k => k = g) [([0, 1, 2, 3, 5, 6, 7, 8, 9, 10, 11, 12], 4), ([], 13)] [14] (by kernel_rfl) (by kernel_rfl) (fun _ _ d _ _ h => by cases d <;> exact h) ?_
      rw [hWn]
      clear hWn
      simp only [pickSegs, pickOps, opAt, List.map_cons, List.map_nil, List.getElem?_toArray, List.getElem?_cons_zero, List.getElem?_cons_succ, Option.getD_some]
      unfold wpBlocksS
      repeat (go_big_quiet_step (fail))
      refine wpQuiet_nil ?_
      clear qk qz qh
      go_wp2_with fail
      refine (rkinds_any ver _ n c tbs t T _ (HS0.out _ HI7.out.bu) hn8 HT.out HGT.out.cl).mono ?_
      rintro e w7 ⟨KA, kc, rfl, hown, hb7⟩
      have HX8 := Lib.hid (HX7.out.below hb7)
      have HB8 : Hid (But (· = g) w5 w7) := Lib.hid (HB7.out.trans (But.ofB hb7))
      have HC8 := Lib.hid (HI7.out.ca.below hb7)
      have HKd : Hid (ClN g w7 KA T.cols.length T.kinds) := Lib.hid ⟨KdsO.cl hown, fun hn b o hA => by
        have := (own_lt hown (k := b) (by rw [hA]; rfl)).1
        have := HI7.out.ca.lt
        omega⟩
      have hsz7 : w1.heap.size ≤ w7.heap.size := Nat.le_trans HI7.out.sz hb7.size
      clear hown
      go_wp2_with fail
      refine ⟨But.ofB hb7, ?_⟩
      unfold wpBlocksS
      refine wpQuiet_nil ?_
      clear hb7 HX7 HB7 HI7
      go_wp2_with fail
      refine (crow_any g T.kinds KA _ kc T.key _ HC8.out HKd.out (by have := HGT.out.cl; omega) (fun x hx => ?_)).mono ?_
      · unfold Tb.kinds at hx
        obtain ⟨y, hy, rfl⟩ := List.mem_map.1 hx
        have := (HGT.out.cn y hy).2
        unfold kindB at this
        simpa using this
      rintro e w8 ⟨RA, rc, r, rfl, hro, hrf, hc8, hb8⟩
      have HRw : Hid (RwI w5 w5.heap.size g hx #[.int .i64 (t : Int), .slice none 0 0, .slice none 0 0] T RA r.length rc r w8) := Lib.hid ⟨hc8, HB8.out.trans hb8, HX8.out.but hb8 Hxg.out.1, ⟨own_weaken hro.1 HB8.out.size, hro.2⟩, hrf⟩
      obtain ⟨rl, Hrl⟩ : ∃ z, Hid (r.length = z) := ⟨_, Lib.hid rfl⟩
      have hrl8 : rl ≤ 8 := by have := fitL_len hrf; unfold Tb.kinds at this; rw [List.length_map] at this; have := HGT.out.cl; have := Hrl.out; omega
      rw [Hrl.out] at HRw ⊢
      go_wp2_with fail
      refine ⟨hb8, ?_⟩
      unfold wpBlocksS
      repeat (go_big_quiet_step (fail))
      refine wpQuiet_nil ?_
      clear hro hrf hc8 hb8 HX8 HB8 HC8 HKd hsz7 Hrl
      have HI8 := Lib.hid (HI.out.case HRw.out.ca HRw.out.bu)
      obtain ⟨b2, o2, ⟨⟨L, ln, lc⟩, ps⟩, e1, hl, hok, c0⟩ := HI8.out.st.st.at htn
      injection e1 with e1
      injection e1 with e1 e2
      subst e1 e2
      rw [Nat.zero_add] at c0
      dsimp only at c0
      have Hl := Lib.hid hl
      have Hll : Hid ((ps.map (·.2)).length = ln) := Lib.hid hok.len
      have hln : ln ≤ 106 := by
        have h1 := HP.out.2.2
        have h2 := cntS_le2 (stR_at hl)
        have h3 : (tlR ((L, ln, lc), ps)).length = ln := hok.len
        omega
      clear hl hok
      have zy := HI8.out.y.cell
      have zh := HRw.out.x.cell
      go_upto_region 9 with fail
      clear zy zh c0 HI8
      go_cut [67] from 25 to 119 (fun v wc => ∃ bb : Bool, v = .bool bb ∧ Hid (bb = true → 0 < ln) ∧ Hid (RwI w5 w5.heap.size g hx #[.int .i64 (t : Int), .slice none 0 0, .slice none 0 0] T RA rl rc r wc))
      case first =>
        by_cases h0 : ln = 0
        · have g1 : decide (0 < ln) = false := by simp [h0]
          clear h0
          go_wp2
          go_meet
          case rel => exact ⟨false, rfl, Lib.hid (fun h => by cases h), HRw⟩
        · have g1 : decide (0 < ln) = true := by simp; omega
          have H0 : Hid (0 < ln) := Lib.hid (by omega)
          clear h0
          go_wp2_with fail
          refine (bool_any g 2 _ HRw.out.ca (by omega) (by omega)).mono ?_
          rintro e w9 ⟨⟨bb, rfl⟩, hc9, hb9⟩
          have HRw2 := Lib.hid (HRw.out.case Hxg.out.2.2.2 hc9 hb9 Hxg.out.1)
          clear hc9 hb9
          go_wp2
          go_meet
          case rel => exact ⟨bb, rfl, Lib.hid (fun _ => H0.out), HRw2⟩
      case rest =>
      clear HRw
      obtain ⟨bb, rfl, HBB, HRw⟩ := hcut
      go_upto_if 67 with fail
      go_cut [] from 25 to 119 (fun wc => ∃ r : Rw, Hid (RwI w5 w5.heap.size g hx #[.int .i64 (t : Int), .slice none 0 0, .slice none 0 0] T RA rl rc r wc))
      case first =>
        cases bb
        · go_wp2
          go_meet
          case rel => exact ⟨r, HRw⟩
        · have hlp := HBB.out rfl
          go_wp2_with fail
          refine (int_any g (ln : Int) _ HRw.out.ca (by omega) (by omega)).mono ?_
          rintro e w9 ⟨⟨y, hy1, hy2, rfl⟩, hc9, hb9⟩
          obtain ⟨j, rfl⟩ := Int.eq_ofNat_of_zero_le hy1
          have hjl : j < ln := by omega
          have HRw2 := Lib.hid (HRw.out.case Hxg.out.2.2.2 hc9 hb9 Hxg.out.1)
          have HI9 := Lib.hid (HI.out.case HRw2.out.ca HRw2.out.bu)
          clear hy1 hy2 hc9 hb9 HRw
          obtain ⟨b2, o2, p2, e1, hl2, hok2, _⟩ := HI9.out.st.st.at htn
          obtain rfl : p2 = ((L, ln, lc), ps) := by have := Hl.out; rw [hl2] at this; injection this
          obtain ⟨b3, o3, ⟨⟨X, xn, xc⟩, x⟩, rfl, c1, hro2, hp⟩ := hok2.rd.get2 hjl
          dsimp only at c1
          have HXo := Lib.hid hro2
          have HXf : Hid (fitsB T x = true) := Lib.hid (rowsB_fit _ none (tabsB_at _ _ _ T _ HP.out.2.1.tb HT.out (stR_at hl2)) x (List.mem_of_getElem? (tlR_at hp)))
          clear e1 hl2 hok2 hro2 hp
          have zz := HI9.out.z.cell
          have zh := HRw2.out.x.cell
          go_wp2_with fail
          refine (rkey_any ver _ n c tbs t T X xn xc x _ (HS0.out _ HI9.out.bu) hn8 HT.out (by have := HGT.out.k1; omega) (by have := HGT.out.k2; have := HGT.out.cl; omega) HXo.out).mono ?_
          rintro e w10 ⟨KA, kc, rfl, hko, hb10⟩
          have HRw3 := Lib.hid (HRw2.out.below hb10)
          have HKo := Lib.hid hko.ok
          have hkn : (keyT T x).length ≤ rl := by
            have h1 := keyT_len T x
            have h2 := fitL_len HXf.out
            have h3 := fitL_len HRw3.out.fit
            have h4 : r.length = rl := HRw3.out.row.2
            omega
          clear hko hb10 zz zh c1 HI9 HRw2 HXo
          go_wp2_with (refine wpList_copy_vl _ (by rfl) (.tmp 75) (.tmp 80) _ _ (by rfl) 67 Tryz.underlying75 (by kernel_rfl) RA rl rc r KA _ kc (keyT T x) (by rfl) (by rfl) w5.heap.size HRw3.out.row.1 HRw3.out.row.2 HKo.out.rd hkn ?_; intro w11 hown11 hb11 hk11; have HRw4 := Lib.hid (HRw3.out.copy Hxg.out.2.2.2 rfl HXf.out hkn hown11 hb11 hk11); clear hown11 hb11 hk11)
          go_meet
          case rel => exact ⟨_, HRw4⟩
      case rest =>
      clear HRw HBB
      obtain ⟨r, HRw⟩ := hcut
      have HI12 := Lib.hid (HI.out.case HRw.out.ca HRw.out.bu)
      have zz := HI12.out.z.cell
      have zh := HRw.out.x.cell
      have hk1 : 0 ≤ T.key := by have := HGT.out.k1; omega
      have hk8 : T.key ≤ 8 := by have := HGT.out.k2; have := HGT.out.cl; omega
      go_wp2_with fail
      refine (rkey_any ver _ n c tbs t T RA rl rc r _ (HS0.out _ HI12.out.bu) hn8 HT.out hk1 hk8 HRw.out.row.ok).mono ?_
      rintro e w12 ⟨KA, kc, rfl, hko, hb12⟩
      have hw5 : w5.heap.size ≤ wc.heap.size := HRw.out.bu.size
      have HKo : Hid (OwnRow w12 w5.heap.size ((KA, (keyT T r).length, kc), keyT T r)) := Lib.hid ⟨own_weaken hko.1 hw5, hko.2⟩
      replace HRw := Lib.hid (HRw.out.below hb12)
      replace HI12 := Lib.hid (HI12.out.below hb12)
      obtain ⟨key, Hkey⟩ : ∃ z, Hid (keyT T r = z) := ⟨_, Lib.hid rfl⟩
      rw [Hkey.out] at HKo ⊢
      obtain ⟨kl, Hkl⟩ : ∃ z, Hid (key.length = z) := ⟨_, Lib.hid rfl⟩
      rw [Hkl.out] at HKo ⊢
      clear hko hb12 zz zh hw5
      have zz := HI12.out.z.cell
      have zy := HI12.out.y.cell
      have zh := HRw.out.x.cell
      have Hr8 : Hid (∀ x ∈ tlR ((L, ln, lc), ps), x.length ≤ 1000) := Lib.hid (fun x hx => by
        have := HP.out.2.1.row8' HG.out (stR_at Hl.out) x hx
        omega)
      go_wp2_with fail
      refine (rget_any ver _ n c tbs (some ⟨b, 0, none⟩) n cb ls t T _ KA kl kc key _ (HS0.out _ HI12.out.bu) hn8 HT.out hk1 hk8 HI12.out.st.st Hl.out HKo.out.ok Hr8.out).mono ?_
      intro e w13 h13
      obtain ⟨o, OA, on, oc2, okb, rfl, hgo, hoo, hb13⟩ := h13.one
      have hw5 : w5.heap.size ≤ w12.heap.size := HRw.out.bu.size
      have HOo : Hid (OwnRow w13 w5.heap.size ((OA, on, oc2), o)) := Lib.hid ⟨own_weaken hoo.1 hw5, hoo.2⟩
      have HGo : Hid ((getT T (ps.map (·.2)) key).getD [] = o) := Lib.hid hgo
      replace HRw := Lib.hid (HRw.out.below hb13)
      replace HKo := Lib.hid (HKo.out.below hb13)
      clear h13 hgo hoo hb13 zz zy zh HI12 hw5
      have HRs := Lib.hid (HRw.out.set (j := 1) (by rw [Hhx.out]; exact Nat.le_refl _) Hxg.out.2.2.2 (.slice OA on oc2))
      have hbx : But (· = hx) w13 (w13.setCell ⟨hx, 1, none⟩ (.slice OA on oc2)) := But.set (S := (· = hx)) w13 (p := ⟨hx, 1, none⟩) rfl _
      have HOs : Hid (OwnRow (w13.setCell ⟨hx, 1, none⟩ (.slice OA on oc2)) w5.heap.size ((OA, on, oc2), o)) := Lib.hid ⟨own_bne HOo.out.1 HRw.out.x (by decide) hbx, HOo.out.2⟩
      have HKs : Hid (OwnRow (w13.setCell ⟨hx, 1, none⟩ (.slice OA on oc2)) w5.heap.size ((KA, kl, kc), key)) := Lib.hid ⟨own_bne HKo.out.1 HRw.out.x (by decide) hbx, HKo.out.2⟩
      have HRw1 : Hid (RwI w5 w5.heap.size g hx #[.int .i64 (t : Int), .slice OA on oc2, .slice none 0 0] T RA rl rc r (w13.setCell ⟨hx, 1, none⟩ (.slice OA on oc2))) := Lib.hid (by have h := HRs.out; simpa using h)
      have zh := HRw.out.x.cell
      have zf := HRw.out.x.free
      clear hbx HRs
      go_upto_region 14 with fail
      clear zh zf HRw HKo HOo
      generalize w13.setCell ⟨hx, 1, none⟩ (.slice OA on oc2) = w14 at *
      have zh := HRw1.out.x.cell
      have Hon : Hid (o.length = on) := Lib.hid HOs.out.2
      go_cut [105] from 25 to 119 (fun v wc => ∃ bb : Bool, v = .bool bb ∧ Hid (bb = false → ¬ on = 0) ∧ Hid (RwI w5 w5.heap.size g hx #[.int .i64 (t : Int), .slice OA on oc2, .slice none 0 0] T RA rl rc r wc) ∧ Hid (OwnRow wc w5.heap.size ((OA, on, oc2), o)) ∧ Hid (OwnRow wc w5.heap.size ((KA, kl, kc), key)))
      case first =>
        by_cases h0 : on = 0
        · have g1 : ((on : Int) == 0) = true := by simp [h0]
          clear h0
          go_wp2
          go_meet
          case rel => exact ⟨true, rfl, Lib.hid (fun h => by cases h), HRw1, HOs, HKs⟩
        · have g1 : ((on : Int) == 0) = false := by simp; omega
          have H0 : Hid (¬ on = 0) := Lib.hid h0
          clear h0
          go_wp2_with fail
          refine (bool_any g 3 _ HRw1.out.ca (by omega) (by omega)).mono ?_
          rintro e w15 ⟨⟨bb, rfl⟩, hc15, hb15⟩
          have HRw2 := Lib.hid (HRw1.out.case Hxg.out.2.2.2 hc15 hb15 Hxg.out.1)
          have hg5 := Hxg.out.2.2.2
          have HOt : Hid (OwnRow w15 w5.heap.size ((OA, on, oc2), o)) := Lib.hid ⟨own_at HOs.out.1 (fun k hk hlt _ => hb15.block k hlt (by omega)), HOs.out.2⟩
          have HKt : Hid (OwnRow w15 w5.heap.size ((KA, kl, kc), key)) := Lib.hid ⟨own_at HKs.out.1 (fun k hk hlt _ => hb15.block k hlt (by omega)), HKs.out.2⟩
          clear hc15 hb15 hg5
          go_wp2
          go_meet
          case rel => exact ⟨!bb, rfl, Lib.hid (fun _ => H0.out), HRw2, HOt, HKt⟩
      case rest =>
      clear HRw1 HOs HKs zh
      obtain ⟨bb, rfl, HBB, HRw, HOo, HKo⟩ := hcut
      go_upto_if 105 with fail
      go_cut [] from 25 to 119 (fun wc => ∃ (nn : Rw) (NA : Option Addr) (nl nc : Nat), Hid (nn = r ∨ (nn = [] ∧ ¬ o.length = 0)) ∧ Hid (RwI w5 w5.heap.size g hx #[.int .i64 (t : Int), .slice OA on oc2, .slice NA nl nc] T RA rl rc r wc) ∧ Hid (OwnRow wc w5.heap.size ((OA, on, oc2), o)) ∧ Hid (OwnRow wc w5.heap.size ((NA, nl, nc), nn)) ∧ Hid (OwnRow wc w5.heap.size ((KA, kl, kc), key)))
      case first =>
        cases bb
        · go_wp2
          go_meet
          case rel => exact ⟨[], none, 0, 0, Lib.hid (.inr ⟨rfl, by rw [Hon.out]; exact HBB.out (by simp)⟩), HRw, HOo, Lib.hid (row_nil _ _), HKo⟩
        · have zh := HRw.out.x.cell
          have zf := HRw.out.x.free
          have HRs := Lib.hid (HRw.out.set (j := 2) (by rw [Hhx.out]; exact Nat.le_refl _) Hxg.out.2.2.2 (.slice RA rl rc))
          have hbx : But (· = hx) wc (wc.setCell ⟨hx, 2, none⟩ (.slice RA rl rc)) := But.set (S := (· = hx)) wc (p := ⟨hx, 2, none⟩) rfl _
          have HOs : Hid (OwnRow (wc.setCell ⟨hx, 2, none⟩ (.slice RA rl rc)) w5.heap.size ((OA, on, oc2), o)) := Lib.hid ⟨own_bne HOo.out.1 HRw.out.x (by decide) hbx, HOo.out.2⟩
          have HKs : Hid (OwnRow (wc.setCell ⟨hx, 2, none⟩ (.slice RA rl rc)) w5.heap.size ((KA, kl, kc), key)) := Lib.hid ⟨own_bne HKo.out.1 HRw.out.x (by decide) hbx, HKo.out.2⟩
          have HRw2 : Hid (RwI w5 w5.heap.size g hx #[.int .i64 (t : Int), .slice OA on oc2, .slice RA rl rc] T RA rl rc r (wc.setCell ⟨hx, 2, none⟩ (.slice RA rl rc))) := Lib.hid (by have h := HRs.out; simpa using h)
          clear hbx HRs
          go_wp2
          go_meet
          case rel => exact ⟨r, RA, rl, rc, Lib.hid (.inl rfl), HRw2, HOs, HRw2.out.row |> Lib.hid, HKs⟩
      case rest =>
      clear HRw HOo HKo HBB
      obtain ⟨nn, NA, nl, nc, HNN, HRw, HOo, HNo, HKo⟩ := hcut
      have HI16 := Lib.hid (HI.out.case HRw.out.ca HRw.out.bu)
      have hw15 : w1.heap.size ≤ w5.heap.size := HI.out.sz
      have hcn6 : cn ≤ 6 := by omega
      have hszc : w1.heap.size ≤ wc.heap.size := HI16.out.sz
      have zh := HRw.out.x.cell
      have HOw := Lib.hid HI16.out.own
      go_upto_region 17 with (at_builtin; refine wpList_append_one2 (by rfl) (.tmp 108) (.tmp 110) _ (by rfl) w1.heap.size 91 i0 _ 3 56 Tryz.underlying42 hi0 hz0 hz1 hz2 (by rfl) (by omega) (.slice O cn oc) cn _ (by rfl) wc #[.int .i64 (t : Int), .slice OA on oc2, .slice NA nl nc] HOw.out wc.heap.size (by rfl) (by rfl) (by rfl) (one_ch ⟨⟨(t : Int), o, nn⟩, (OA, on, oc2), (NA, nl, nc)⟩) (by simp only [maxLen]; omega) (by omega) hszc ?_; intro g7 cap7 w17 hown7 hg7 hB7 hat7 hlt7)
      have hg72 := grown_of_alloc hg7
      have HI17 := Lib.hid (HI16.out.add (e := ⟨⟨(t : Int), o, nn⟩, (OA, on, oc2), (NA, nl, nc)⟩) ⟨own_weaken HOo.out.1 hw15, HOo.out.2⟩ ⟨own_weaken HNo.out.1 hw15, HNo.out.2⟩ hown7 hg7 hB7 hat7 hlt7)
      have HK17 : Hid (RowOk w17 ((KA, kl, kc), key)) := Lib.hid (OwnRow.ok (base := w5.heap.size) ⟨own_type HKo.out.1 HOw.out (by decide) hg72, HKo.out.2⟩)
      have HN17 : Hid (RowOk w17 ((NA, nl, nc), nn)) := Lib.hid (OwnRow.ok (base := w5.heap.size) ⟨own_type HNo.out.1 HOw.out (by decide) hg72, HNo.out.2⟩)
      have HX17 : Hid (Blk w17 hx 91 #[.int .i64 (t : Int), .slice OA on oc2, .slice NA nl nc]) := Lib.hid (by
        have hne : some hx ≠ (Value.slice O cn oc).ownBlock := fun e => by
          have h1 := (own_lt HI.out.own e.symm).2.1
          have h2 := Hhx.out
          omega
        exact (hg72.block hx HRw.out.x.lt hne).trans HRw.out.x)
      have HFit := Lib.hid HRw.out.fit
      have hnl8 : nl ≤ 8 := by
        have h1 : nn.length = nl := HNo.out.2
        rcases HNN.out with h | ⟨h, _⟩
        · have h2 : r.length = rl := HRw.out.row.2
          rw [h, h2] at h1
          omega
        · rw [h] at h1
          simp at h1
          omega
      clear hown7 hg7 hg72 hB7 hat7 hlt7 zh HRw HOo HNo HKo HI16 HOw hszc
      have zz := HI17.out.z.cell
      have zy := HI17.out.y.cell
      have zh := HX17.out.cell
      have hlm : (tlR ((L, ln, lc), ps)).length ≤ 1000 := by have := Hll.out; show (ps.map (·.2)).length ≤ 1000; omega
      go_wp2_with fail
      refine (rput_any ver _ n c tbs b cb ls t T _ KA kl kc key NA nl nc nn _ _ (HS0.out _ HI17.out.bu) hn8 HT.out hk1 hk8 HI17.out.st Hl.out HI17.out.sb HI17.out.shi HK17.out HN17.out hnl8 hlm).mono ?_
      rintro e w18 ⟨rfl, hbt, pn, hpn, hst⟩
      have HI18 := Lib.hid (HI17.out.put hbt hst)
      have zy2 := HI18.out.y.cell
      have zyf := HI18.out.y.free
      have HI19 := Lib.hid HI18.out.again
      have hct1 : cntS (stR ls) + 1 ≤ 512 := by have := HP.out.2.2; omega
      have HStep := Lib.hid (change_step HP.out.2.1 HG.out HT.out (stR_at Hl.out) HFit.out (nn := nn) (by rw [Hkey.out]; rcases HNN.out with h | ⟨h, h2⟩; exact .inl h; exact .inr ⟨h, by show ¬ ((getT T (ps.map (·.2)) key).getD []).length = 0; rw [HGo.out]; exact h2⟩) hct1)
      have HSt : Hid (stR (ls.set t pn) = (stR ls).set t (putRw T (keyT T r) nn (tlR ((L, ln, lc), ps)))) := Lib.hid (by unfold stR; rw [List.map_set, hpn, Hkey.out])
      have HP2 : Hid (appS tbs ((es ++ ([⟨⟨(t : Int), o, nn⟩, (OA, on, oc2), (NA, nl, nc)⟩] : List ChE)).map (·.c)) (stR ls0) = (0, stR (ls.set t pn)) ∧ OkS tbs (stR (ls.set t pn)) ∧ cntS (stR (ls.set t pn)) ≤ cntS (stR ls0) + (cn + 1)) := Lib.hid (chP_step HP.out (by rw [Hkey.out]; exact HGo.out) HStep.out HSt.out)
      clear hbt hst hpn zz zy zh HI17 HI18 HK17 HN17 HX17 HStep HSt
      go_wp2
      go_roundw
      case rel => exact ⟨q - 1, _, ls.set t pn, _, cn + 1, cap7, _, by omega, congrArg (Value.int .i64) (by omega), rfl, HI19, HP2⟩
      case measure => simp [intOf]; omega
    · have g0 : decide (0 < q) = false := by simp [hq0]
      clear hq0
      go_upto_region 18 with fail
      clear zz
      have HI2 : Hid (ChI w w1 S g b n cb pad #[.int .i64 ver, .slice A n c] wr.drew ls O cn oc es) := Lib.hid (HI.out.below ((Below.refl _ _).drew))
      clear HI
      generalize hWn : wr.drew = Wn at *
      obtain ⟨rb, hrb⟩ : ∃ z, w.heap.size + 1 + 1 = z := ⟨_, rfl⟩
      have qy : ∀ (x : LaterS (fun k => k = w.heap.size + 1 + 1) Wn) j, (afterS (fun k => k = w.heap.size + 1 + 1) Wn x).cell? ⟨w.heap.size + 1, j, none⟩ = (#[.slice (some ⟨b, 0, none⟩) n cb] : Array Value)[j]? := fun x j => (HI2.out.y.but x.but (by show ¬ w.heap.size + 1 = w.heap.size + 1 + 1; omega)).cell j
      clear hrb rb
      refine wp_region_segS (fun k => k = w.heap.size + 1 + 1) [([0, 1, 2], 3)] [] (by kernel_rfl) (by kernel_rfl) (fun _ _ d _ _ h => by cases d <;> exact h) ?_
      rw [hWn]
      clear hWn
      simp only [pickSegs, pickOps, opAt, List.map_cons, List.map_nil, List.getElem?_toArray, List.getElem?_cons_zero, List.getElem?_cons_succ, Option.getD_some]
      unfold wpBlocksS
      repeat (go_big_quiet_step (fail))
      refine wpQuiet_nil ?_
      clear qy
      have zf := HI2.out.r.free
      have zr := HI2.out.r.cell
      go_wp2_with fail
      have hbr : But (· = w.heap.size + 1 + 1) Wn (Wn.setCell ⟨w.heap.size + 1 + 1, 0, none⟩ (.slice (some ⟨b, 0, none⟩) n cb)) := But.set (S := (· = w.heap.size + 1 + 1)) Wn (p := ⟨w.heap.size + 1 + 1, 0, none⟩) rfl _
      refine ⟨hbr, ?_⟩
      obtain ⟨hF1, hF2, hF3, hF4, hF5⟩ := HI2.out.fin (.slice (some ⟨b, 0, none⟩) n cb)
      have hcn6 : cn ≤ 6 := by omega
      unfold wpBlocksS
      refine wpQuiet_nil ?_
      clear zf zr hbr
      generalize Wn.setCell ⟨w.heap.size + 1 + 1, 0, none⟩ (.slice (some ⟨b, 0, none⟩) n cb) = wf at *
      go_wp2
      exact bodyPost_ret (v := .tuple #[.slice O cn oc, .agg #[.slice (some ⟨b, 0, none⟩) n cb]]) (by simp [results, Tryz.results14, go_sem, hF5]) rfl ⟨O, cn, oc, b, cb, es, ls, rfl, hF1, hF2, hcn6, HP.out.1, HP.out.2.1, HP.out.2.2, hF3, hF4⟩
end Go.Proofs.YtponkkljlbifmaaGreat

/-
  The reference's Name of a name of small letters.
-/
namespace Go.Proofs.YtponkkljlbifmaaGreat
open Go.RowKit
set_option maxRecDepth 100000
open Pd

set_option maxHeartbeats 4000000 in
theorem rname_any (s : ByteArray) (w : World) (h : nameB s = true) :
    Calls Tryz.prog 133 #[.string s] w fun e w' => e = .returned (.bool true) ∧ Below w.heap.size w w' := by
  have hsz : 1 ≤ s.size ∧ s.size ≤ 32 := by
    unfold nameB at h
    rw [Bool.and_eq_true] at h
    simpa using h.1
  have ix : ∀ (k : Nat) (hk : k < s.size) (wa : World), (Instr.index 9 (.string s) (.int .i64 (k : Int))).run Tryz.prog wa = .ok (.int .u8 ((s[k]'hk).toNat : Int)) wa := fun k hk wa => by
    rw [run_index_string wa 9 s .i64 (k : Int) Tryz.underlying9, dif_pos ⟨by omega, by omega⟩]
    rfl
  have g0 : ((s.size : Int) == 0) = false := by rw [beq_eq_false_iff_ne]; omega
  have g1 : decide ((32 : Int) < (s.size : Int)) = false := by simp; omega
  obtain ⟨c0, hc0⟩ : ∃ z, (s[0]'(by omega)).toNat = z := ⟨_, rfl⟩
  have i0 : ∀ wa : World, (Instr.index 9 (.string s) (.int .i64 0)).run Tryz.prog wa = .ok (.int .u8 (c0 : Int)) wa := fun wa => by rw [← hc0]; exact ix 0 (show 0 < s.size by omega) wa
  have h0 := nameB_at h 0 (by omega)
  rw [hc0] at h0
  have g2 : decide ((c0 : Int) < 97) = false := by simp; omega
  have g3 : decide ((122 : Int) < (c0 : Int)) = false := by simp; omega
  have Hix := Lib.hid ix
  clear ix hc0
  go_enter Tryz.func133, Tryz.ntmps133
  go_wp2_with fail
  go_loopw [3] (fun i wr => ∃ pos : Nat, pos ≤ s.size ∧ i = .int .i64 (pos : Int) ∧ wr = w) (fun i _ => s.size - (intOf i).toNat)
  case atStart => exact ⟨0, Nat.zero_le _, rfl, rfl⟩
  case round =>
    obtain ⟨pos, hps, rfl, rfl⟩ := hrel
    clear i0 g2 g3 h0
    by_cases hp : pos < s.size
    · have h1 := nameB_at h pos hp
      obtain ⟨c1, hc1⟩ : ∃ z, (s[pos]'hp).toNat = z := ⟨_, rfl⟩
      have i1 : ∀ wa : World, (Instr.index 9 (.string s) (.int .i64 (pos : Int))).run Tryz.prog wa = .ok (.int .u8 (c1 : Int)) wa := fun wa => by rw [← hc1]; exact Hix.out pos hp wa
      rw [hc1] at h1
      have g2 : decide ((c1 : Int) < 97) = false := by simp; omega
      have g3 : decide ((122 : Int) < (c1 : Int)) = false := by simp; omega
      clear hc1
      go_wp2
      go_roundw
      case rel => exact ⟨pos + 1, by omega, by go_num, trivial⟩
      case measure => simp [intOf]; omega
    · obtain rfl : pos = s.size := by omega
      go_wp2
      go_ret
      exact ⟨rfl, Below.refl _ _⟩
end Go.Proofs.YtponkkljlbifmaaGreat
