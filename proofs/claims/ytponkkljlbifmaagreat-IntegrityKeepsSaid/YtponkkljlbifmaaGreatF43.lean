/-
  Texts: IgCons, IgSame, IgF.
-/
import Derived.Test.YtponkkljlbifmaaGreatF42
set_option linter.unusedVariables false
/-
  Case.Consistent: a valid state of few rows without violations.
-/
namespace Go.Proofs.YtponkkljlbifmaaGreat
open Go.RowKit
set_option maxRecDepth 100000
open Pd

/-- the four blocks that may change under the state's lists -/
abbrev SCn (g b X H : Nat) : Nat → Prop := fun k => k = g ∨ k = b ∨ k = X ∨ k < H
/-- what Consistent holds -/
structure CnI (w : World) (g b X n : Nat) (sc : Array Value) (wr : World) (ls : List TlP) : Prop where
  st : StB (SCn g b X (w.heap.size + 2)) wr b n ls
  z : Blk wr w.heap.size 30 sc
  r : Blk wr (w.heap.size + 1) 25 #[.slice none 0 0]
  x : Blk wr X 25 #[.slice (some ⟨b, 0, none⟩) n n]
  ca : CaseAt wr g
  bu : But (· = g) w wr
  gl : g < w.heap.size
  hb : w.heap.size + 1 < b
  hx : w.heap.size + 1 < X
  ne : b ≠ X
section
variable {w wr w' : World} {g b X n : Nat} {sc : Array Value} {ls ls' : List TlP}
theorem CnI.below (h : CnI w g b X n sc wr ls) (hb : Below wr.heap.size wr w') : CnI w g b X n sc w' ls :=
  ⟨h.st.below hb, h.z.below hb, h.r.below hb, h.x.below hb, h.ca.below hb, h.bu.trans (But.ofB hb), h.gl, h.hb, h.hx, h.ne⟩
theorem CnI.far {k : Nat} (h : CnI w g b X n sc wr ls) (hk : w.heap.size ≤ k) (hb : But (· = k) wr w') : But (· = g) w w' :=
  ⟨hb.os.trans h.bu.os, hb.tape.trans h.bu.tape, hb.output.trans h.bu.output, Nat.le_trans h.bu.size hb.size, fun i hi hne => (hb.block i (Nat.lt_of_lt_of_le hi h.bu.size) (by omega)).trans (h.bu.block i hi hne)⟩
theorem CnI.put (h : CnI w g b X n sc wr ls) (hb : But (· = b) wr w') (hs : StB (SCn g b X (w.heap.size + 2)) w' b n ls') : CnI w g b X n sc w' ls' :=
  ⟨hs, h.z.but hb (by have := h.hb; omega), h.r.but hb (by have := h.hb; omega), h.x.but hb (fun e => h.ne e.symm), h.ca.far hb (fun b e => by have := h.gl; have := h.hb; omega), h.far (by have := h.hb; omega) hb, h.gl, h.hb, h.hx, h.ne⟩
theorem CnI.again (h : CnI w g b X n sc wr ls) : CnI w g b X n sc (wr.setCell ⟨X, 0, none⟩ (.slice (some ⟨b, 0, none⟩) n n)) ls := by
  have hb : But (· = X) wr (wr.setCell ⟨X, 0, none⟩ (.slice (some ⟨b, 0, none⟩) n n)) := But.set (S := (· = X)) wr (p := ⟨X, 0, none⟩) rfl _
  refine ⟨h.st.but hb (fun k hk => .inr (.inr (.inl hk))) h.ne, h.z.but hb (by have := h.hx; omega), h.r.but hb (by have := h.hx; omega), ?_, h.ca.far hb (fun b e => by have := h.gl; have := h.hx; omega), h.far (by have := h.hx; omega) hb, h.gl, h.hb, h.hx, h.ne⟩
  have := h.x.set_ 0 (.slice (some ⟨b, 0, none⟩) n n)
  simpa using this
end
theorem VosN.but2 {base : Nat} {w w' : World} {V : Option Addr} {n : Nat} {xs : List VoE} {S : Nat → Prop} (h : VosN base w V n xs) (hb : But S w w') (hS : ∀ k, S k → k < base) : VosN base w' V n xs :=
  ⟨h.sl.but hb (fun hn b o e hs => by have h1 := h.far hn b o e; have h2 := hS b hs; omega), h.far, fun x hx => ⟨own_at (h.keys x hx).1 (fun g hg hlt _ => hb.block g hlt (fun hs => by have := hS g hs; omega)), (h.keys x hx).2⟩⟩
theorem VosN.at {base : Nat} {w : World} {V : Option Addr} {n : Nat} {xs : List VoE} (h : VosN base w V n xs) {k : Nat} (hk : k < n) : ∃ (b o : Nat) (x : VoE), V = some ⟨b, o, none⟩ ∧ xs[k]? = some x ∧ OwnRow w base x.p ∧
    w.cell? ⟨b, o + k * 4, none⟩ = some (.int .i64 x.v.k) ∧ w.cell? ⟨b, o + k * 4 + 1, none⟩ = some (.int .i64 x.v.t) ∧ w.cell? ⟨b, o + k * 4 + 2, none⟩ = some (.slice x.A x.n x.c) ∧ w.cell? ⟨b, o + k * 4 + 3, none⟩ = some (.int .i64 x.v.ix) := by
  obtain ⟨b, o, x, hV, hx, hc⟩ := h.sl.at hk
  exact ⟨b, o, x, hV, hx, h.keys x (List.mem_of_getElem? hx), by simpa using hc 0 _ rfl, hc 1 _ rfl, hc 2 _ rfl, hc 3 _ rfl⟩
/-- a valid state without violations was made -/
def ConsO (tbs : List Tb) (n : Nat) (w : World) (g : Nat) (e : Ending) (w' : World) : Prop := ∃ (b : Nat) (ls : List TlP), e = .returned (.agg #[.slice (some ⟨b, 0, none⟩) n n]) ∧ w.heap.size ≤ b ∧ StB (fun k => k = g ∨ k = b ∨ k < w.heap.size) w' b n ls ∧ tabsB tbs (stR ls) = true ∧ cntS (stR ls) ≤ 16 ∧ allV tbs (stR ls) = [] ∧ CaseAt w' g ∧ But (· = g) w w'
theorem cntS_le1 : ∀ {st : List (List Rw)} {t : Nat} {l : List Rw}, st[t]? = some l → l.length ≤ cntS st
  | [], _, _, h => by simp at h
  | x :: st, 0, l, h => by
    simp only [List.getElem?_cons_zero, Option.some.injEq] at h
    subst h
    simp [cntS]
  | x :: st, t + 1, l, h => by
    have := cntS_le1 (st := st) h
    simp only [cntS, List.map_cons, List.sum_cons] at this ⊢
    omega
theorem chkS_of2 {tbs : List Tb} {st : List (List Rw)} (h1 : cntS st ≤ 512) (h2 : st.length = tbs.length) (h3 : tabsB tbs st = true) : chkS tbs st = 0 := by
  unfold chkS
  rw [if_neg (by omega), if_neg (by omega), if_pos h3]
/-- the rows with a violation's key are taken away -/
theorem repair_step {wr rm : Int → Rw → Bool} {tbs : List Tb} {st0 st : List (List Rw)} {v : Vo} (hv : v ∈ vioS wr rm tbs st0) (hln : st.length = st0.length) (hb : tabsB tbs st = true) : ∃ (t : Nat) (T : Tb) (l : List Rw), v.t = (t : Int) ∧ tbs[t]? = some T ∧ st[t]? = some l ∧
    tabsB tbs (st.set t (dropL T v.key l)) = true ∧ cntS (st.set t (dropL T v.key l)) ≤ cntS st := by
  obtain ⟨t, T, l, h1, h2, h3, x, hx, h4⟩ := vTabs_from _ _ _ _ hv
  have hlt : t < st.length := by rw [hln]; exact (List.getElem?_eq_some_iff.1 h3).1
  obtain ⟨m, hm⟩ : ∃ m, st[t]? = some m := ⟨_, List.getElem?_eq_getElem hlt⟩
  refine ⟨t, T, m, by rw [h1]; simp, h2, hm, tabsB_set _ _ _ T _ hb h2 (rowsB_filter _ m none (tabsB_at _ _ _ T m hb h2 hm)), ?_⟩
  have h5 := cntS_set st t m (dropL T v.key m) hm
  have h6 := dropL_len (T := T) (key := v.key) m
  omega
set_option maxRecDepth 100000 in
set_option maxHeartbeats 8000000 in
theorem ccons_any (g : Nat) (ver : Int) (A : Option Addr) (n c : Nat) (tbs : List Tb) (w : World) (hc : CaseAt w g) (hs : ScN g w A n tbs) (hg : GoodS ver tbs) (hn4 : n ≤ 4) :
    Calls Tryz.prog 18 #[.pointer (some ⟨g, 0, none⟩), .agg #[.int .i64 ver, .slice A n c]] w fun e w' => ConsO tbs n w g e w' := by
  have hgl := hc.lt
  have HS0 := Lib.hid hs
  have HGS := Lib.hid hg
  have Hln := Lib.hid ((hs w (But.refl _ _)).len)
  have HB : Hid (Below w.heap.size w ((w.alloc (.cells #[.int .i64 ver, .slice A n c] 30)).alloc (.cells #[.slice none 0 0] 25))) := Lib.hid (((Below.refl _ _).alloc (Nat.le_refl _) _).alloc (by simp) _)
  have HC := Lib.hid (hc.below HB.out)
  have HS := Lib.hid (show ScN g ((w.alloc (.cells #[.int .i64 ver, .slice A n c] 30)).alloc (.cells #[.slice none 0 0] 25)) A n tbs from fun w' hw => hs w' ((But.ofB HB.out).trans hw))
  have HZ := Lib.hid ((Blk.new w 30 #[.int .i64 ver, .slice A n c]).alloc (.cells #[.slice none 0 0] 25))
  have HY := Lib.hid (Blk.new (w.alloc (.cells #[.int .i64 ver, .slice A n c] 30)) 25 #[.slice none 0 0])
  rw [World.size_alloc] at HY
  have hW1 : ((w.alloc (.cells #[.int .i64 ver, .slice A n c] 30)).alloc (.cells #[.slice none 0 0] 25)).heap.size = w.heap.size + 2 := by simp
  have HW1 := Lib.hid hW1
  clear hs hg hc hW1
  go_enter Tryz.func18, Tryz.ntmps18
  go_upto_region 1 with fail
  generalize hW : (w.alloc (.cells #[.int .i64 ver, .slice A n c] 30)).alloc (.cells #[.slice none 0 0] 25) = w1 at *
  clear hW
  have z := HZ.out.cell
  go_wp2_with fail
  refine (cstate_any g ver A n c tbs _ HC.out HS.out HGS.out).mono ?_
  rintro e w3 ⟨b, ls, rfl, hbb, hst, htb, hct, hc3, hb3⟩
  have HXn := Lib.hid (Blk.new w3 25 #[.slice (some ⟨b, 0, none⟩) n n])
  obtain ⟨X, HX⟩ : ∃ z, Hid (w3.heap.size = z) := ⟨_, Lib.hid rfl⟩
  have HI : Hid (CnI w g b X n #[.int .i64 ver, .slice A n c] (w3.alloc (.cells #[.slice (some ⟨b, 0, none⟩) n n] 25)) ls) := Lib.hid (by
    have h2 := HXn.out
    rw [HX.out] at h2
    have h3 := HX.out
    have h4 := hst.blk.lt
    have h5 := HW1.out
    have h6 := hb3.size
    have hal : Below w3.heap.size w3 (w3.alloc (.cells #[.slice (some ⟨b, 0, none⟩) n n] 25)) := (Below.refl _ _).alloc (Nat.le_refl _) _
    refine ⟨⟨(hst.below hal).blk, hst.len, fun p hp w' hb => ?_⟩, (HZ.out.but hb3 (by omega)).below hal, (HY.out.but hb3 (by omega)).below hal, h2, hc3.below hal, (But.ofB HB.out).trans (hb3.trans (But.ofB hal)), hgl, by omega, by omega, by omega⟩
    exact hst.ok p hp w' (but_from hal hb (fun k hk hs => by
      rcases hs with hs | hs | hs | hs
      · exact .inl hs
      · exact .inr (.inl hs)
      · omega
      · exact .inr (.inr (by omega)))))
  have HL : Hid (tabsB tbs (stR ls) = true) := Lib.hid htb
  have hcn : cntS (stR ls) + 0 ≤ 16 := by omega
  clear hbb hst htb hct hc3 hb3 HXn HC HZ HY HB HS HW1 z
  go_upto_region 2 with fail
  rw [HX.out]
  generalize w3.alloc (.cells #[.slice (some ⟨b, 0, none⟩) n n] 25) = w4 at *
  clear HX
  go_wp2_with fail
  go_loopw [6] (fun i wr => ∃ (k : Nat) (ls : List TlP), cntS (stR ls) + k ≤ 16 ∧ i = .int .i64 (k : Int) ∧ Hid (CnI w g b X n #[.int .i64 ver, .slice A n c] wr ls) ∧ Hid (tabsB tbs (stR ls) = true)) (fun i _ => 30 - (intOf i).toNat)
  case atStart => exact ⟨0, ls, hcn, rfl, HI, HL⟩
  case round =>
    clear HI HL hcn
    obtain ⟨k, ls, hck, rfl, HI, HL⟩ := hrel
    have g1 : decide (k < 30) = true := by simp; omega
    have HSc : Hid (ScS wr A n tbs) := Lib.hid (HS0.out wr HI.out.bu)
    have hls : (stR ls).length = n := by unfold stR; rw [List.length_map]; exact HI.out.st.len
    have HCk : Hid (chkS tbs (stR ls) = 0) := Lib.hid (chkS_of2 (by omega) (by rw [hls, ← HSc.out.len]) HL.out)
    clear hls
    have z := HI.out.z.cell
    have zx := HI.out.x.cell
    go_wp2_with fail
    refine (rviol_any ver A n c tbs (some ⟨b, 0, none⟩) n n ls _ HSc.out HGS.out HI.out.st.st (by omega)).mono ?_
    rintro e w5 ⟨h5, hb5⟩
    rcases h5 with ⟨_, V, vn, vc, xs, rfl, hvn, hxs⟩ | ⟨h5, _⟩
    rotate_left
    · exact absurd HCk.out h5
    have HI5 := Lib.hid (HI.out.below hb5)
    have HXS := Lib.hid hxs
    have hbs : b < wr.heap.size ∧ X < wr.heap.size := ⟨HI.out.st.blk.lt, HI.out.x.lt⟩
    obtain ⟨Bs, HBs⟩ : ∃ z, Hid (wr.heap.size = z) := ⟨_, Lib.hid rfl⟩
    rw [HBs.out] at hbs hvn
    have hvb : vn ≤ 4096 := by
      have h1 : (allV tbs (stR ls)).length ≤ 8 * cntS (stR ls) := vTabs_len _ _ _ HGS.out.tb
      rw [← hxs, List.length_map, hvn.sl.len] at h1
      omega
    have HVN := Lib.hid hvn
    clear z zx hb5 hvn hxs HI HSc
    by_cases hv0 : vn = 0
    · subst hv0
      have hx0 : xs = [] := List.eq_nil_of_length_eq_zero HVN.out.sl.len
      have HV0 : Hid (allV tbs (stR ls) = []) := Lib.hid (by rw [← HXS.out, hx0]; rfl)
      have zx := HI5.out.x.cell
      have zr := HI5.out.r.cell
      have zf := HI5.out.r.free
      have HF : Hid (let wf := w5.setCell ⟨w.heap.size + 1, 0, none⟩ (.slice (some ⟨b, 0, none⟩) n n); Blk wf (w.heap.size + 1) 25 #[.slice (some ⟨b, 0, none⟩) n n] ∧ ConsO tbs n w g (.returned (.agg #[.slice (some ⟨b, 0, none⟩) n n])) wf) := Lib.hid (by
        intro wf
        have hb : But (· = w.heap.size + 1) w5 wf := But.set (S := (· = w.heap.size + 1)) w5 (p := ⟨w.heap.size + 1, 0, none⟩) rfl _
        have hB := HI5.out.hb
        refine ⟨?_, b, ls, rfl, by omega, (HI5.out.st.but hb (fun k hk => .inr (.inr (.inr (by omega)))) (by omega)).weak (fun k hk => ?_), HL.out, by omega, HV0.out, HI5.out.ca.far hb (fun b e => by omega), HI5.out.far (by omega) hb⟩
        · have := HI5.out.r.set_ 0 (.slice (some ⟨b, 0, none⟩) n n)
          simpa using this
        · rcases hk with hk | hk | hk
          · exact .inl hk
          · exact .inr (.inl hk)
          · exact .inr (.inr (.inr (by omega))))
      clear HI5 HVN HXS hx0 HV0
      go_wp2
      have zc := HF.out.1.cell
      exact bodyPost_ret (v := .agg #[.slice (some ⟨b, 0, none⟩) n n]) (by simp [results, Tryz.results18, go_sem, zc]) rfl HF.out.2
    · have hvp : 0 < vn := by omega
      have gv : ((vn : Int) == 0) = false := by simp; omega
      have HR0 : Hid (∀ y ∈ xs, y.v ∈ allV tbs (stR ls)) := Lib.hid (fun y hy => by rw [← HXS.out]; exact List.mem_map_of_mem hy)
      have HLn : Hid ((stR ls).length = n) := Lib.hid (by unfold stR; rw [List.length_map]; exact HI5.out.st.len)
      have HF0 : Hid (∀ y, xs[0]? = some y → ∃ (t : Nat) (T : Tb) (l : List Rw), y.v.t = (t : Int) ∧ tbs[t]? = some T ∧ (stR ls)[t]? = some l ∧ cntS ((stR ls).set t (dropL T y.v.key l)) < cntS (stR ls)) := Lib.hid (fun y hy => by
        obtain ⟨t, T, l, h1, h2, h3, _, h5⟩ := repair (HR0.out y (List.mem_of_getElem? hy)) HL.out
        exact ⟨t, T, l, h1, h2, h3, h5⟩)
      clear HXS hv0
      obtain ⟨ls0, HLs0⟩ : ∃ z, Hid (z = ls) := ⟨_, Lib.hid rfl⟩
      go_wp2_with fail
      go_loopw [29] (fun i wq => ∃ (j : Nat) (ls' : List TlP), j ≤ vn ∧ i = .int .i64 (j : Int) ∧ Hid (CnI w g b X n #[.int .i64 ver, .slice A n c] wq ls') ∧ Hid (VosN Bs wq V vn xs) ∧ Hid (tabsB tbs (stR ls') = true) ∧ Hid ((j = 0 ∧ ls' = ls) ∨ (0 < j ∧ cntS (stR ls') + 1 ≤ cntS (stR ls)))) (fun i _ => vn - (intOf i).toNat)
      case atStart => exact ⟨0, ls, by omega, rfl, HI5, HVN, HL, Lib.hid (.inl ⟨rfl, rfl⟩)⟩
      case round =>
        clear HI5 HVN
        have HL0 := HL
        clear HL
        obtain ⟨j, ls', hj, rfl, HI, HV, HL, HD⟩ := hrel
        by_cases hjn : j < vn
        · obtain ⟨vb, vo, ⟨⟨vk, vt, key, vi⟩, XA, xn, xc⟩, rfl, hx, hkey, c0, c1, c2, c3⟩ := HV.out.at hjn
          dsimp only at c0 c1 c2 c3
          have hls : (stR ls').length = (stR ls).length := by rw [HLn.out]; unfold stR; rw [List.length_map]; exact HI.out.st.len
          obtain ⟨t, T, l, h1, h2, h3, h4, h5⟩ := repair_step (HR0.out _ (List.mem_of_getElem? hx)) hls HL.out
          simp only at h1
          subst h1
          obtain ⟨pl, hpl, hpr⟩ : ∃ pl, ls'[t]? = some pl ∧ tlR pl = l := by
            unfold stR at h3
            rw [List.getElem?_map, Option.map_eq_some_iff] at h3
            exact h3
          subst hpr
          have hcd : cntS ((stR ls').set t (dropL T key (tlR pl))) + 1 ≤ cntS (stR ls) := by
            rcases HD.out with ⟨rfl, rfl⟩ | ⟨_, hd⟩
            · obtain ⟨t', T', l', e1, e2, e3, e5⟩ := HF0.out _ hx
              simp only at e1 e5
              obtain rfl : t = t' := by omega
              rw [h2] at e2
              injection e2 with e2
              subst e2
              rw [h3] at e3
              injection e3 with e3
              subst e3
              omega
            · simp only at h5; omega
          have HT := Lib.hid h2
          have HGT := Lib.hid (HGS.out.tb T (List.mem_of_getElem? h2))
          have Hpl := Lib.hid hpl
          have HTB := Lib.hid h4
          have HCD := Lib.hid hcd
          have hl16 : (tlR pl).length ≤ 16 := by
            have h6 := cntS_le1 h3
            have h7 : cntS (stR ls') ≤ cntS (stR ls) := by
              rcases HD.out with ⟨_, rfl⟩ | ⟨_, hd⟩
              · exact Nat.le_refl _
              · omega
            omega
          have HK := Lib.hid hkey.ok
          have hal : Below wr.heap.size wr (wr.alloc (.cells #[.int .i64 vk, .int .i64 (t : Int), .slice XA xn xc, .int .i64 vi] 88)) := (Below.refl _ _).alloc (Nat.le_refl _) _
          have HY := Lib.hid (Blk.new wr 88 #[.int .i64 vk, .int .i64 (t : Int), .slice XA xn xc, .int .i64 vi])
          have HI2 := Lib.hid (HI.out.below hal)
          have HV2 := Lib.hid (HV.out.but2 (But.ofB hal : But (fun _ => False) wr _) (fun k hk => hk.elim))
          have HK2 := Lib.hid (HK.out.keep (keeps_of hal))
          have HS2 : Hid (ScS (wr.alloc (.cells #[.int .i64 vk, .int .i64 (t : Int), .slice XA xn xc, .int .i64 vi] 88)) A n tbs) := Lib.hid (HS0.out _ HI2.out.bu)
          obtain ⟨Y, HYY⟩ : ∃ z, Hid (wr.heap.size = z) := ⟨_, Lib.hid rfl⟩
          rw [HYY.out] at HY
          dsimp only [VoE.p] at HK HK2
          clear hx hkey h2 h3 h4 h5 hls hpl hcd hal HI HV HK
          go_upto_region 10 with fail
          rw [HYY.out]
          clear c0 c1 c2 c3 HYY
          generalize wr.alloc (.cells #[.int .i64 vk, .int .i64 (t : Int), .slice XA xn xc, .int .i64 vi] 88) = wy at *
          have z := HI2.out.z.cell
          have zx := HI2.out.x.cell
          have zy := HY.out.cell
          go_wp2_with fail
          refine (rput_any ver A n c tbs b n ls' t T pl XA xn xc key none 0 0 [] (SCn g b X (w.heap.size + 2)) _ HS2.out (by omega) HT.out (by have := HGT.out.k1; omega) (by have := HGT.out.k2; have := HGT.out.cl; omega) HI2.out.st Hpl.out (.inr (.inl rfl)) (fun k hk => ?_) HK2.out ⟨Sl.nil, fun _ => ⟨rfl, rfl⟩, Nat.le_refl _, by simp⟩ (by omega) (by omega)).mono ?_
          · have h1 := HI2.out.st.blk.lt
            have h2 := HI2.out.x.lt
            have h3 := HI2.out.r.lt
            have h4 := HI2.out.gl
            rcases hk with hk | hk | hk | hk <;> omega
          rintro e w8 ⟨rfl, hbt, pn, hpn, hst⟩
          have HI8 := Lib.hid (HI2.out.put hbt hst)
          have HV8 := Lib.hid (HV2.out.but2 hbt (fun k hk => by subst hk; exact hbs.1))
          have HSt : Hid (stR (ls'.set t pn) = (stR ls').set t (dropL T key (tlR pl))) := Lib.hid (by unfold stR; rw [List.map_set, hpn, putRw_nil])
          have HL8 : Hid (tabsB tbs (stR (ls'.set t pn)) = true) := Lib.hid (by rw [HSt.out]; exact HTB.out)
          have HD8 : Hid ((j + 1 = 0 ∧ ls'.set t pn = ls) ∨ (0 < j + 1 ∧ cntS (stR (ls'.set t pn)) + 1 ≤ cntS (stR ls))) := Lib.hid (.inr ⟨by omega, by rw [HSt.out]; exact HCD.out⟩)
          clear z zx zy hbt hpn hst HSt HI2 HV2 HS2 HK2 HY HTB HCD HD HL
          have zx := HI8.out.x.cell
          have zf := HI8.out.x.free
          have HI9 := Lib.hid HI8.out.again
          have HV9 := Lib.hid (HV8.out.but2 (But.set (S := (· = X)) w8 (p := ⟨X, 0, none⟩) rfl (.slice (some ⟨b, 0, none⟩) n n)) (fun k hk => by subst hk; exact hbs.2))
          clear HI8 HV8
          go_wp2
          go_roundw
          case rel => exact ⟨j + 1, _, by omega, by go_num, HI9, HV9, HL8, HD8⟩
          case measure => simp [intOf]; omega
        · obtain rfl : j = vn := by omega
          have hcd : cntS (stR ls') + (k + 1) ≤ 16 := by
            rcases HD.out with ⟨h0, _⟩ | ⟨_, hd⟩
            · omega
            · omega
          clear HD
          go_wp2
          go_roundw
          case rel => exact ⟨k + 1, ls', hcd, by go_num, HI, HL⟩
          case measure => simp [intOf]; omega
end Go.Proofs.YtponkkljlbifmaaGreat

/-
  The reference's Same of two lists of violations.
-/
namespace Go.Proofs.YtponkkljlbifmaaGreat
open Go.RowKit
set_option maxRecDepth 100000
open Pd

/-- a list of violations -/
structure VosS (w : World) (V : Option Addr) (n : Nat) (xs : List VoE) : Prop where
  sl : Sl 4 VoE.cs w V n xs
  ok : ∀ x ∈ xs, RowOk w x.p
theorem VosS.keep {w w' : World} {V : Option Addr} {n : Nat} {xs : List VoE} (h : VosS w V n xs) (hk : Keeps w w') : VosS w' V n xs := ⟨h.sl.keep hk, fun x hx => (h.ok x hx).keep hk⟩
theorem VosN.s {base : Nat} {w : World} {V : Option Addr} {n : Nat} {xs : List VoE} (h : VosN base w V n xs) : VosS w V n xs := ⟨h.sl, fun x hx => (h.keys x hx).ok⟩
theorem VosS.at {w : World} {V : Option Addr} {n : Nat} {xs : List VoE} (h : VosS w V n xs) {k : Nat} (hk : k < n) : ∃ (b o : Nat) (x : VoE), V = some ⟨b, o, none⟩ ∧ xs[k]? = some x ∧ RowOk w x.p ∧
    w.cell? ⟨b, o + k * 4, none⟩ = some (.int .i64 x.v.k) ∧ w.cell? ⟨b, o + k * 4 + 1, none⟩ = some (.int .i64 x.v.t) ∧ w.cell? ⟨b, o + k * 4 + 2, none⟩ = some (.slice x.A x.n x.c) ∧ w.cell? ⟨b, o + k * 4 + 3, none⟩ = some (.int .i64 x.v.ix) := by
  obtain ⟨b, o, x, hV, hx, hc⟩ := h.sl.at hk
  exact ⟨b, o, x, hV, hx, h.ok x (List.mem_of_getElem? hx), by simpa using hc 0 _ rfl, hc 1 _ rfl, hc 2 _ rfl, hc 3 _ rfl⟩
set_option maxHeartbeats 4000000 in
theorem rsame9_any (V : Option Addr) (n vc : Nat) (xs : List VoE) (U : Option Addr) (m uc : Nat) (ys : List VoE) (w : World) (hx : VosS w V n xs) (hy : VosS w U m ys) (hn : n ≤ 1000000) :
    Calls Tryz.prog 12 #[.slice V n vc, .slice U m uc] w fun e w' => e = .returned (.bool (decide (xs.map (·.v) = ys.map (·.v)))) ∧ Below w.heap.size w w' := by
  have HX := Lib.hid hx
  have HY := Lib.hid hy
  obtain ⟨q, Hq⟩ : ∃ z, Hid (decide (xs.map (·.v) = ys.map (·.v)) = z) := ⟨_, Lib.hid rfl⟩
  rw [Hq.out]
  clear hx hy
  go_enter Tryz.func12, Tryz.ntmps12
  by_cases hnm : n = m
  rotate_left
  · have g1 : ((n : Int) != (m : Int)) = true := by simp; omega
    have hq : false = q := by
      rw [← Hq.out]
      refine (decide_eq_false fun e => hnm ?_).symm
      have := congrArg List.length e
      rw [List.length_map, List.length_map, HX.out.sl.len, HY.out.sl.len] at this
      exact this
    subst hq
    clear hnm
    go_wp2
    go_ret
    exact ⟨rfl, Below.refl _ _⟩
  subst hnm
  have g1 : ((n : Int) != (n : Int)) = false := by simp
  go_wp2_with fail
  go_loopw [13] (fun i wr => ∃ k : Nat, k ≤ n ∧ i = .int .i64 (k : Int) ∧ Hid ((xs.map (·.v)).take k = (ys.map (·.v)).take k) ∧ Hid (Below w.heap.size w wr)) (fun i _ => n - (intOf i).toNat)
  case atStart => exact ⟨0, by omega, rfl, Lib.hid rfl, Lib.hid (Below.refl _ _)⟩
  case round =>
    obtain ⟨k, hk, rfl, Ht, HB⟩ := hrel
    by_cases hkn : k < n
    · obtain ⟨b, o, ⟨⟨xk, xt, xkey, xi⟩, XA, xn, xc⟩, rfl, hx, hxo, c0, c1, c2, c3⟩ := (HX.out.keep (keeps_of HB.out)).at hkn
      obtain ⟨b2, o2, ⟨⟨yk, yt, ykey, yi⟩, YA, yn, yc⟩, rfl, hy, hyo, d0, d1, d2, d3⟩ := (HY.out.keep (keeps_of HB.out)).at hkn
      dsimp only at c0 c1 c2 c3 d0 d1 d2 d3
      have HXo : Hid (RowOk wr.drew ((XA, xn, xc), xkey)) := Lib.hid (hxo.keep (Keeps.refl _).drew)
      have HYo : Hid (RowOk wr.drew ((YA, yn, yc), ykey)) := Lib.hid (hyo.keep (Keeps.refl _).drew)
      have hx1 : (xs.map (·.v))[k]? = some ⟨xk, xt, xkey, xi⟩ := by rw [List.getElem?_map, hx]; rfl
      have hy1 : (ys.map (·.v))[k]? = some ⟨yk, yt, ykey, yi⟩ := by rw [List.getElem?_map, hy]; rfl
      have Hne : Hid (∀ h : (⟨xk, xt, xkey, xi⟩ : Vo) ≠ ⟨yk, yt, ykey, yi⟩, false = q) := Lib.hid (fun h => by
        rw [← Hq.out]
        refine (decide_eq_false fun e => h ?_).symm
        rw [e, hy1] at hx1
        injection hx1 with hx1
        exact hx1.symm)
      have Heq : Hid ((⟨xk, xt, xkey, xi⟩ : Vo) = ⟨yk, yt, ykey, yi⟩ → (xs.map (·.v)).take (k + 1) = (ys.map (·.v)).take (k + 1)) := Lib.hid (fun h => by rw [take_snoc' hx1, take_snoc' hy1, h, Ht.out])
      have HBd : Hid (Below w.heap.size w wr.drew) := Lib.hid HB.out.drew
      clear hx hy hxo hyo hx1 hy1
      have e0 : wr.drew.cell? ⟨b, o + k * 4, none⟩ = some (.int .i64 xk) := c0
      have e1 : wr.drew.cell? ⟨b, o + k * 4 + 1, none⟩ = some (.int .i64 xt) := c1
      have e2 : wr.drew.cell? ⟨b, o + k * 4 + 2, none⟩ = some (.slice XA xn xc) := c2
      have e3 : wr.drew.cell? ⟨b, o + k * 4 + 3, none⟩ = some (.int .i64 xi) := c3
      have f0 : wr.drew.cell? ⟨b2, o2 + k * 4, none⟩ = some (.int .i64 yk) := d0
      have f1 : wr.drew.cell? ⟨b2, o2 + k * 4 + 1, none⟩ = some (.int .i64 yt) := d1
      have f2 : wr.drew.cell? ⟨b2, o2 + k * 4 + 2, none⟩ = some (.slice YA yn yc) := d2
      have f3 : wr.drew.cell? ⟨b2, o2 + k * 4 + 3, none⟩ = some (.int .i64 yi) := d3
      clear c0 c1 c2 c3 d0 d1 d2 d3
      obtain ⟨p0, hp0⟩ : ∃ p, (xk != yk) = p := ⟨_, rfl⟩
      obtain ⟨p1, hp1⟩ : ∃ p, (xt != yt) = p := ⟨_, rfl⟩
      obtain ⟨p2, hp2⟩ : ∃ p, (xi != yi) = p := ⟨_, rfl⟩
      have Hp : Hid ((p0 = false → xk = yk) ∧ (p0 = true → xk ≠ yk) ∧ (p1 = false → xt = yt) ∧ (p1 = true → xt ≠ yt) ∧ (p2 = false → xi = yi) ∧ (p2 = true → xi ≠ yi)) := Lib.hid (by subst hp0 hp1 hp2; simp)
      rcases p0 with _ | _
      rotate_left
      · go_wp2_with fail
        generalize hWn : wr.drew = Wn at *
        have hca := @cell_after Wn
        refine wp_region_seg [([0, 1, 2, 3, 4, 5, 6, 7, 8, 9, 10, 11, 12, 13, 14, 15, 16, 17, 18, 19, 20, 21, 22, 23, 24, 25, 26, 27, 28, 29, 30, 31, 32, 33, 34, 35, 36, 37, 38, 39, 40, 41, 42, 43, 44, 45, 46, 47], 48)] [49, 50] (by kernel_rfl) (by kernel_rfl) (fun _ _ d _ _ h => by cases d <;> exact h) ?_
        rw [hWn]
        clear hWn
        simp only [pickSegs, pickOps, opAt, List.map_cons, List.map_nil, List.getElem?_toArray, List.getElem?_cons_zero, List.getElem?_cons_succ, Option.getD_some]
        unfold wpBlocks
        repeat (go_big_quiet_step (fail))
        refine wpQuiet_nil ?_
        clear hca e0 e1 e2 e3 f0 f1 f2 f3
        have hq : false = q := Hne.out (fun e => Hp.out.2.1 (by simp) (by injection e))
        subst hq
        go_wp2_with fail
        refine ⟨Below.refl _ _, ?_⟩
        unfold wpBlocks
        repeat (go_big_quiet_step (fail))
        refine wpQuiet_nil ?_
        go_wp2
        go_ret
        exact ⟨rfl, HBd.out⟩
      rcases p1 with _ | _
      rotate_left
      · go_wp2_with fail
        generalize hWn : wr.drew = Wn at *
        have hca := @cell_after Wn
        refine wp_region_seg [([0, 1, 2, 3, 4, 5, 6, 7, 8, 9, 10, 11, 12, 13, 14, 15, 16, 17, 18, 19, 20, 21, 22, 23, 24, 25, 26, 27, 28, 29, 30, 31, 32, 33, 34, 35, 36, 37, 38, 39, 40, 41, 42, 43, 44, 45, 46, 47], 48)] [49, 50] (by kernel_rfl) (by kernel_rfl) (fun _ _ d _ _ h => by cases d <;> exact h) ?_
        rw [hWn]
        clear hWn
        simp only [pickSegs, pickOps, opAt, List.map_cons, List.map_nil, List.getElem?_toArray, List.getElem?_cons_zero, List.getElem?_cons_succ, Option.getD_some]
        unfold wpBlocks
        repeat (go_big_quiet_step (fail))
        refine wpQuiet_nil ?_
        clear hca e0 e1 e2 e3 f0 f1 f2 f3
        have hq : false = q := Hne.out (fun e => Hp.out.2.2.2.1 (by simp) (by injection e))
        subst hq
        go_wp2_with fail
        refine ⟨Below.refl _ _, ?_⟩
        unfold wpBlocks
        repeat (go_big_quiet_step (fail))
        refine wpQuiet_nil ?_
        go_wp2
        go_ret
        exact ⟨rfl, HBd.out⟩
      rcases p2 with _ | _
      rotate_left
      · go_wp2_with fail
        generalize hWn : wr.drew = Wn at *
        have hca := @cell_after Wn
        refine wp_region_seg [([0, 1, 2, 3, 4, 5, 6, 7, 8, 9, 10, 11, 12, 13, 14, 15, 16, 17, 18, 19, 20, 21, 22, 23, 24, 25, 26, 27, 28, 29, 30, 31, 32, 33, 34, 35, 36, 37, 38, 39, 40, 41, 42, 43, 44, 45, 46, 47], 48)] [49, 50] (by kernel_rfl) (by kernel_rfl) (fun _ _ d _ _ h => by cases d <;> exact h) ?_
        rw [hWn]
        clear hWn
        simp only [pickSegs, pickOps, opAt, List.map_cons, List.map_nil, List.getElem?_toArray, List.getElem?_cons_zero, List.getElem?_cons_succ, Option.getD_some]
        unfold wpBlocks
        repeat (go_big_quiet_step (fail))
        refine wpQuiet_nil ?_
        clear hca e0 e1 e2 e3 f0 f1 f2 f3
        have hq : false = q := Hne.out (fun e => Hp.out.2.2.2.2.2 (by simp) (by injection e))
        subst hq
        go_wp2_with fail
        refine ⟨Below.refl _ _, ?_⟩
        unfold wpBlocks
        repeat (go_big_quiet_step (fail))
        refine wpQuiet_nil ?_
        go_wp2
        go_ret
        exact ⟨rfl, HBd.out⟩
      go_wp2_with fail
      generalize hWn : wr.drew = Wn at *
      have hca := @cell_after Wn
      refine wp_region_seg [([0, 1, 2, 3, 4, 5, 6, 7, 8, 9, 10, 11, 12, 13, 14, 15, 16, 17, 18, 19, 20, 21, 22, 23, 24, 25, 26, 27, 28, 29, 30, 31, 32, 33, 34, 35, 36, 37, 38, 39, 40, 41, 42, 43, 44, 45, 46, 47], 48)] [49, 50] (by kernel_rfl) (by kernel_rfl) (fun _ _ d _ _ h => by cases d <;> exact h) ?_
      rw [hWn]
      clear hWn
      simp only [pickSegs, pickOps, opAt, List.map_cons, List.map_nil, List.getElem?_toArray, List.getElem?_cons_zero, List.getElem?_cons_succ, Option.getD_some]
      unfold wpBlocks
      repeat (go_big_quiet_step (fail))
      refine wpQuiet_nil ?_
      clear hca e0 e1 e2 e3 f0 f1 f2 f3
      go_wp2_with fail
      refine (rcomp_rw XA xn xc xkey YA yn yc ykey _ HXo.out HYo.out).mono ?_
      rintro e w2 ⟨rfl, hb2⟩
      have HB2 := Lib.hid (Below.next HBd.out hb2)
      by_cases hc : cmpR xkey ykey = 0
      · have hk : xkey = ykey := (cmpR_zero _ _).1 hc
        have Ht2 := Lib.hid (Heq.out (by have h1 := Hp.out; simp at h1; simp [h1, hk]))
        rw [hc]
        clear hc hk
        go_wp2_with fail
        refine ⟨hb2, ?_⟩
        unfold wpBlocks
        repeat (go_big_quiet_step (fail))
        refine wpQuiet_nil ?_
        clear hb2
        go_wp2
        go_roundw
        case rel => exact ⟨k + 1, by omega, by go_num, Ht2, HB2⟩
        case measure => simp [intOf]; omega
      · have g5 : (cmpR xkey ykey != 0) = true := by simpa using hc
        have hq : false = q := Hne.out (fun e => hc (by injection e with _ _ e _; rw [e, cmpR_self]))
        subst hq
        generalize cmpR xkey ykey = cc at *
        clear hc
        go_wp2_with fail
        refine ⟨hb2, ?_⟩
        unfold wpBlocks
        repeat (go_big_quiet_step (fail))
        refine wpQuiet_nil ?_
        clear hb2
        go_wp2
        go_ret
        exact ⟨rfl, HB2.out⟩
    · obtain rfl : k = n := by omega
      have hq : true = q := by
        rw [← Hq.out]
        refine (decide_eq_true ?_).symm
        have h := Ht.out
        rw [List.take_of_length_le (by rw [List.length_map, HX.out.sl.len]; exact Nat.le_refl _), List.take_of_length_le (by rw [List.length_map, HY.out.sl.len]; exact Nat.le_refl _)] at h
        exact h
      subst hq
      go_wp2
      go_ret
      exact ⟨rfl, HB.out⟩
end Go.Proofs.YtponkkljlbifmaaGreat

/-
  Plain mathematics: the violations that changes may have caused, as those of all that are kept. No program here.
-/
namespace Go.Proofs.YtponkkljlbifmaaGreat
open Go.RowKit
set_option maxRecDepth 100000
open Pd

section
variable {hit : Bool} {wr rm rm' gt : Int → Rw → Bool} {t : Int} {key r : Rw} {T : Tb} {keep : Vo → Bool}
end
end Go.Proofs.YtponkkljlbifmaaGreat
