/-
  Texts: IgRAp.
-/
import Derived.Test.YtponkkljlbifmaaGreatG41
set_option linter.unusedVariables false
/-
  The reference's Count of a state and Apply of changes.
-/
namespace Go.Proofs.YtponkkljlbifmaaGreat
open Go.RowKit
set_option maxRecDepth 100000
open Pd

set_option maxHeartbeats 2000000 in
theorem rcount_any (A : Option Addr) (n c : Nat) (ls : List TlP) (w : World) (hs : StS w A n ls) (hb : cntS (stR ls) ≤ 4611686018427387904) (hn : n ≤ 1000000) :
    Calls Tryz.prog 70 #[.agg #[.slice A n c]] w fun e w' => e = .returned (.int .i64 (cntS (stR ls) : Int)) ∧ Below w.heap.size w w' := by
  have HS := Lib.hid (hs.keep (keeps_alloc w (.cells #[.slice A n c] 25)))
  have HB := Lib.hid ((Below.refl w.heap.size w).alloc (Nat.le_refl _) (.cells #[.slice A n c] 25))
  have Hln := Lib.hid hs.sl.len
  clear hs
  go_enter Tryz.func70, Tryz.ntmps70
  go_wp2_with fail
  generalize hW : w.alloc (.cells #[.slice A n c] 25) = w1 at *
  go_loopw [3, 9] (fun v i wr => ∃ k : Nat, k ≤ n ∧ i = .int .i64 (k : Int) ∧ v = .int .i64 (cntS (stR (ls.take k)) : Int) ∧ wr = w1) (fun _ i _ => n - (intOf i).toNat)
  case atStart => exact ⟨0, by omega, rfl, rfl, rfl⟩
  case round =>
    obtain ⟨k, hk, rfl, rfl, rfl⟩ := hrel
    by_cases hlt : k < n
    · obtain ⟨b, o, ⟨⟨B, m, cb⟩, ps⟩, rfl, hp, hok, c0⟩ := HS.out.at hlt
      dsimp only at c0
      have hc := cnt_take hp
      have hle := cnt_le (ls := ls) (k + 1)
      rw [hok.len] at hc
      dsimp only at hc
      have Hc := Lib.hid hc
      generalize cntS (stR (ls.take k)) = x at *
      have hbb : x + m ≤ 4611686018427387904 := by omega
      clear hp hok hc
      go_wp2
      go_roundw
      case rel => exact ⟨k + 1, by omega, by go_num, by rw [Hc.out]; go_num, trivial⟩
      case measure => simp [intOf]; omega
    · obtain rfl : k = n := by omega
      rw [List.take_of_length_le (by rw [Hln.out]; exact Nat.le_refl _)]
      go_wp2
      go_ret
      exact ⟨rfl, HB.out⟩
theorem okS_row8 {ver : Int} {tbs : List Tb} {st : List (List Rw)} (h : OkS tbs st) (hg : GoodS ver tbs) {k : Nat} {l : List Rw} (hl : st[k]? = some l) : ∀ x ∈ l, x.length ≤ 8 := fun x hx => by
  have hk : k < tbs.length := by rw [← h.ln]; exact (List.getElem?_eq_some_iff.1 hl).1
  have h1 := fitL_len (rowsB_fit _ none (tabsB_at _ _ _ _ l h.tb (List.getElem?_eq_getElem hk) hl) x hx)
  unfold Tb.kinds at h1
  rw [List.length_map] at h1
  have := (hg.tb _ (List.getElem_mem hk)).cl
  omega
/-- how the count changes -/
theorem cnt_step {ver : Int} {tbs : List Tb} {st : List (List Rw)} (hok : OkS tbs st) (hg : GoodS ver tbs) {t : Nat} {T : Tb} {l : List Rw} {c : Ch} (hT : tbs[t]? = some T) (hl : st[t]? = some l) (ho : (getT T l (keyC T c)).getD [] = c.o) :
    cntS (st.set t (putRw T (keyC T c) c.n l)) + (if c.n.length = 0 then 1 else 0) = cntS st + (if c.o.length = 0 then 1 else 0) := by
  have hrows := tabsB_at _ _ _ T l hok.tb hT hl
  have h5 := cntS_set st t l (putRw T (keyC T c) c.n l) hl
  have hnl : (newL c.n).length + (if c.n.length = 0 then 1 else 0) = 1 := by unfold newL; split <;> simp
  have hGT := hg.tb T (List.mem_of_getElem? hT)
  rcases putRw_pos (k := keyC T c) (row := c.n) l none hrows with ⟨r, h1, h2, h3, h4⟩ | ⟨h1, h2, h3⟩
  · have hlt := (List.getElem?_eq_some_iff.1 h1).1
    rw [h3] at ho
    simp only [Option.getD_some] at ho
    have hf := rowsB_fit _ none hrows r (List.mem_of_getElem? h1)
    have hr0 := fits_ne (by have := hGT.k1; have := hGT.k2; omega) hf
    rw [ho] at hr0
    rw [if_neg hr0]
    have h6 := congrArg List.length h4
    rw [List.length_append, List.length_append, List.length_take, List.length_drop] at h6
    omega
  · have hlt := posT_le (T := T) (k := keyC T c) l
    rw [h2] at ho
    simp only [Option.getD_none] at ho
    rw [← ho]
    rw [if_pos (show ([] : Rw).length = 0 from rfl)]
    have h6 := congrArg List.length h3
    rw [List.length_append, List.length_append, List.length_take, List.length_drop] at h6
    omega
theorem rget_one {T : Tb} {l : List Rw} {key : Rw} {w : World} {e : Ending} {w' : World} (h : RGetO T l key w e w') : ∃ (o : Rw) (OA : Option Addr) (on oc : Nat) (ok : Bool), e = .returned (.tuple #[.slice OA on oc, .bool ok]) ∧ (getT T l key).getD [] = o ∧ OwnRow w' w.heap.size ((OA, on, oc), o) ∧ Below w.heap.size w w' := by
  obtain ⟨⟨r, R, rc, he, hg, ho⟩ | ⟨he, hg⟩, hb⟩ := h
  · exact ⟨r, R, r.length, rc, true, he, by rw [hg]; rfl, ho, hb⟩
  · exact ⟨[], none, 0, 0, false, he, by rw [hg]; rfl, ⟨⟨by simp, .inl ⟨rfl, rfl⟩⟩, rfl⟩, hb⟩
/-- what Apply holds; w2: the world before the copy -/
structure RaI (w2 : World) (b X n cb : Nat) (pad : List Value) (wr : World) (ls : List TlP) : Prop where
  st : StP (fun k => k = b ∨ k = X ∨ k < w2.heap.size) wr b n ls pad
  x : Blk wr X 25 #[.slice (some ⟨b, 0, none⟩) n cb]
  be : Below w2.heap.size w2 wr
  hb : w2.heap.size ≤ b
  hx : b < X
section
variable {w2 wr w' : World} {b X n cb : Nat} {pad : List Value} {ls ls' : List TlP}
theorem RaI.below (h : RaI w2 b X n cb pad wr ls) (hb : Below wr.heap.size wr w') : RaI w2 b X n cb pad w' ls :=
  ⟨h.st.below hb, h.x.below hb, Below.next h.be hb, h.hb, h.hx⟩
theorem RaI.put (h : RaI w2 b X n cb pad wr ls) (hb : But (· = b) wr w') (hs : StP (fun k => k = b ∨ k = X ∨ k < w2.heap.size) w' b n ls' pad) : RaI w2 b X n cb pad w' ls' :=
  ⟨hs, h.x.but hb (fun e => by have := h.hx; omega), h.be.trans (below_of_but hb h.hb h.be.size), h.hb, h.hx⟩
theorem RaI.again (h : RaI w2 b X n cb pad wr ls) : RaI w2 b X n cb pad (wr.setCell ⟨X, 0, none⟩ (.slice (some ⟨b, 0, none⟩) n cb)) ls := by
  have h1 := h.hb
  have h2 := h.hx
  have hb : But (· = X) wr (wr.setCell ⟨X, 0, none⟩ (.slice (some ⟨b, 0, none⟩) n cb)) := But.set (S := (· = X)) wr (p := ⟨X, 0, none⟩) rfl _
  refine ⟨⟨h.st.blk.but hb (by omega), h.st.len, fun p hp => (h.st.ok p hp).step (hb.wide (fun k hk => .inr (.inl hk)))⟩, ?_, h.be.trans (below_of_but hb (by omega) h.be.size), h1, h2⟩
  have := h.x.set_ 0 (.slice (some ⟨b, 0, none⟩) n cb)
  simpa using this
end
def RApO (tbs : List Tb) (st : List (List Rw)) (cs : List Ch) (n : Nat) (w : World) (e : Ending) (w' : World) : Prop :=
  (((applyS tbs st cs).1 = 0 ∧ ∃ (b cb : Nat) (ls : List TlP), e = .returned (.tuple #[.agg #[.slice (some ⟨b, 0, none⟩) n cb], .int .i64 0]) ∧ StS w' (some ⟨b, 0, none⟩) n ls ∧ stR ls = (applyS tbs st cs).2 ∧ w.heap.size ≤ b) ∨
    ((applyS tbs st cs).1 ≠ 0 ∧ e = .returned (.tuple #[.agg #[.slice none 0 0], .int .i64 (applyS tbs st cs).1]))) ∧ Below w.heap.size w w'
/-- an error: the result's box is cleared -/
theorem rap_err {tbs : List Tb} {sr : List (List Rw)} {cs : List Ch} {e : Int} {n : Nat} {w wr : World} (he : (applyS tbs sr cs).1 = e) (h0 : e ≠ 0) (hb : Below w.heap.size w wr) (hr : Blk wr (w.heap.size + 2) 25 #[.slice none 0 0]) :
    RApO tbs sr cs n w (.returned (.tuple #[.agg #[.slice none 0 0], .int .i64 e])) (wr.setCell ⟨w.heap.size + 2, 0, none⟩ (.slice none 0 0)) ∧ Blk (wr.setCell ⟨w.heap.size + 2, 0, none⟩ (.slice none 0 0)) (w.heap.size + 2) 25 #[.slice none 0 0] := by
  refine ⟨⟨.inr ⟨by rw [he]; exact h0, by rw [he]⟩, hb.setCell (p := ⟨w.heap.size + 2, 0, none⟩) (by show w.heap.size ≤ w.heap.size + 2; omega) _⟩, ?_⟩
  have := hr.set_ 0 (.slice none 0 0)
  simpa using this
theorem appS_bad {tbs : List Tb} {c : Ch} {cs : List Ch} {st : List (List Rw)} {e : Int} (h : (stepC tbs c st).1 = e) (h0 : e ≠ 0) : (appS tbs (c :: cs) st).1 = e := by
  unfold appS
  rw [if_pos (by rw [h]; exact h0), h]
theorem appS_good {tbs : List Tb} {c : Ch} {cs : List Ch} {st st1 : List (List Rw)} (h : stepC tbs c st = (0, st1)) : appS tbs (c :: cs) st = appS tbs cs st1 := by
  show (if (stepC tbs c st).1 ≠ 0 then stepC tbs c st else appS tbs cs (stepC tbs c st).2) = _
  rw [h, if_neg (fun h => h rfl)]
theorem stepC_run {tbs : List Tb} {c : Ch} {st : List (List Rw)} {t : Nat} {T : Tb} {l : List Rw} (hv : validC tbs c = true) (ht : c.t = (t : Int)) (hT : tbs[t]? = some T) (hl : st[t]? = some l) :
    stepC tbs c st = if (getT T l (keyC T c)).getD [] = c.o then (if 512 < cntS (st.set t (putRw T (keyC T c) c.n l)) then (2, []) else (0, st.set t (putRw T (keyC T c) c.n l))) else (81, []) := by
  unfold stepC
  rw [if_neg (by rw [hv]; simp), ht, Int.toNat_natCast, hT, hl]
  show (match listC T c l with | none => _ | some m => _) = _
  unfold listC
  by_cases h : (getT T l (keyC T c)).getD [] = c.o
  · rw [if_pos h, if_pos h]
  · rw [if_neg h, if_neg h]
set_option maxRecDepth 100000 in
set_option maxHeartbeats 8000000 in
theorem rapply_any (ver : Int) (A : Option Addr) (n c : Nat) (tbs : List Tb) (B : Option Addr) (m cb : Nat) (ls0 : List TlP) (C : Option Addr) (cn cc : Nat) (es : List ChE) (w : World) (hs : ScS w A n tbs) (hg : GoodS ver tbs) (hn0 : 0 < n) (hst : StS w B m ls0) (hm : m ≤ 9223372036854775807) (hch : ChsS w C cn es) (hcn : cn ≤ 1000000) :
    Calls Tryz.prog 41 #[.agg #[.int .i64 ver, .slice A n c], .int .i64 1, .agg #[.slice B m cb], .slice C cn cc] w fun e w' => RApO tbs (stR ls0) (es.map (·.c)) m w e w' := by
  have HB : Hid (Below w.heap.size w (((w.alloc (.cells #[.int .i64 ver, .slice A n c] 30)).alloc (.cells #[.slice B m cb] 25)).alloc (.cells #[.slice none 0 0] 25))) := Lib.hid ((((Below.refl _ _).alloc (Nat.le_refl _) _).alloc (by simp) _).alloc (by simp; omega) _)
  have HS := Lib.hid (hs.keep (keeps_of HB.out))
  have HST := Lib.hid (hst.keep (keeps_of HB.out))
  have HCH := Lib.hid (hch.keep (keeps_of HB.out))
  have HZ := Lib.hid (((Blk.new w 30 #[.int .i64 ver, .slice A n c]).alloc (.cells #[.slice B m cb] 25)).alloc (.cells #[.slice none 0 0] 25))
  have HY := Lib.hid ((Blk.new (w.alloc (.cells #[.int .i64 ver, .slice A n c] 30)) 25 #[.slice B m cb]).alloc (.cells #[.slice none 0 0] 25))
  have HR := Lib.hid (Blk.new ((w.alloc (.cells #[.int .i64 ver, .slice A n c] 30)).alloc (.cells #[.slice B m cb] 25)) 25 #[.slice none 0 0])
  rw [World.size_alloc] at HY
  rw [World.size_alloc, World.size_alloc] at HR
  have HG := Lib.hid hg
  have Hln := Lib.hid hs.len
  have Hlm := Lib.hid hst.sl.len
  have hn8 : n ≤ 8 := by have := hg.ln; have := Hln.out; omega
  obtain ⟨RR, HRR⟩ : ∃ z, Hid (applyS tbs (stR ls0) (es.map (·.c)) = z) := ⟨_, Lib.hid rfl⟩
  clear hs hg hst hch
  go_enter Tryz.func41, Tryz.ntmps41
  go_upto_region 1 with fail
  generalize hW : ((w.alloc (.cells #[.int .i64 ver, .slice A n c] 30)).alloc (.cells #[.slice B m cb] 25)).alloc (.cells #[.slice none 0 0] 25) = w1 at *
  clear hW
  have z := HZ.out.cell
  have zy := HY.out.cell
  go_wp2_with fail
  refine (rcheck8_any ver A n c tbs B m cb ls0 _ HS.out HG.out HST.out hm).mono ?_
  rintro e w2 ⟨rfl, hb2⟩
  have HB2 := Lib.hid (HB.out.trans (hb2.mono HB.out.size))
  have HS2 := Lib.hid (HS.out.keep (keeps_of hb2))
  have HST2 := Lib.hid (HST.out.keep (keeps_of hb2))
  have HCH2 := Lib.hid (HCH.out.keep (keeps_of hb2))
  have HZ2 := Lib.hid (HZ.out.below hb2)
  have HY2 := Lib.hid (HY.out.below hb2)
  have HR2 := Lib.hid (HR.out.below hb2)
  clear z zy hb2 HB HS HST HCH HZ HY HR
  by_cases he : chkS tbs (stR ls0) = 0
  rotate_left
  · have HE := Lib.hid (rap_err (n := m) (show (applyS tbs (stR ls0) (es.map (·.c))).1 = chkS tbs (stR ls0) by unfold applyS; rw [if_pos he]) he HB2.out HR2.out)
    have g : (chkS tbs (stR ls0) != 0) = true := by simpa using he
    have zr := HR2.out.cell
    have zf := HR2.out.free
    generalize chkS tbs (stR ls0) = ee at *
    clear he
    go_wp2
    have zc := HE.out.2.cell
    exact bodyPost_ret (v := .tuple #[.agg #[.slice none 0 0], .int .i64 ee]) (by simp [results, Tryz.results41, go_sem, zc]) rfl HE.out.1
  have HOK0 := Lib.hid (chkS_ok he)
  have HRA : Hid (appS tbs (es.map (·.c)) (stR ls0) = RR) := Lib.hid (by rw [← HRR.out]; unfold applyS; rw [if_neg (by rw [he]; simp)])
  have hmn : m = n := by
    have h1 := HOK0.out.ln
    unfold stR at h1
    rw [List.length_map, Hlm.out, Hln.out] at h1
    exact h1
  subst hmn
  rw [he]
  clear he
  have H8 : Hid (∀ l ∈ stR ls0, ∀ r ∈ l, r.length ≤ 1000) := Lib.hid (fun l hl r hr => by
    obtain ⟨i, hi⟩ := List.mem_iff_getElem?.1 hl
    have := okS_row8 HOK0.out HG.out hi r hr
    omega)
  have hct := HOK0.out.ct
  have zy := HY2.out.cell
  go_wp2_with fail
  refine (rcopy_any B m cb ls0 _ HST2.out (by omega) hn0 (by omega) H8.out).mono ?_
  rintro e w3 ⟨b, cb', pad, ls, rfl, hbb, hsp, hls, hb3⟩
  have hal : Below w3.heap.size w3 (w3.alloc (.cells #[.slice (some ⟨b, 0, none⟩) m cb'] 25)) := (Below.refl _ _).alloc (Nat.le_refl _) _
  have HXn := Lib.hid (Blk.new w3 25 #[.slice (some ⟨b, 0, none⟩) m cb'])
  obtain ⟨X, HX⟩ : ∃ z, Hid (w3.heap.size = z) := ⟨_, Lib.hid rfl⟩
  have HI : Hid (RaI w2 b X m cb' pad (w3.alloc (.cells #[.slice (some ⟨b, 0, none⟩) m cb'] 25)) ls) := Lib.hid (by
    have h2 := HXn.out
    rw [HX.out] at h2
    have h3 := HX.out
    have h4 := hsp.blk.lt
    refine ⟨⟨(hsp.below hal).blk, hsp.len, fun p hp w' hb => ?_⟩, h2, Below.next hb3 hal, hbb, by omega⟩
    exact hsp.ok p hp w' (but_from hal hb (fun k hk hs => by
      rcases hs with hs | hs | hs
      · exact .inl hs
      · omega
      · exact .inr hs)))
  have HLS : Hid (stR ls = stR ls0) := Lib.hid hls
  have hbe := Below.next hb3 hal
  have HZ4 := Lib.hid ((HZ2.out.below hb3).below hal)
  have HY4 := Lib.hid ((HY2.out.below hb3).below hal)
  have HST4 := Lib.hid (HST2.out.keep (keeps_of hbe))
  clear hbb hsp hls hb3 hal hbe HXn H8 zy
  go_upto_region 5 with fail
  rw [HX.out]
  generalize w3.alloc (.cells #[.slice (some ⟨b, 0, none⟩) m cb'] 25) = w4 at *
  clear HX
  have zy := HY4.out.cell
  go_wp2_with fail
  refine (rcount_any B m cb ls0 _ HST4.out (by omega) (by omega)).mono ?_
  rintro e w5 ⟨rfl, hb5⟩
  have HI5 := Lib.hid (HI.out.below hb5)
  have HOK : Hid (OkS tbs (stR ls)) := Lib.hid (by rw [HLS.out]; exact HOK0.out)
  have HAP : Hid (appS tbs ((es.map (·.c)).drop 0) (stR ls) = RR) := Lib.hid (by rw [HLS.out]; exact HRA.out)
  rw [← HLS.out]
  clear zy hb5 HI HST4 HY4 HZ4 HLS hct HOK0 HRA HST2 HY2
  go_wp2_with fail
  go_loopw [12, 32] (fun v i wr => ∃ (k : Nat) (ls : List TlP), k ≤ cn ∧ i = .int .i64 (k : Int) ∧ v = .int .i64 (cntS (stR ls) : Int) ∧ Hid (RaI w2 b X m cb' pad wr ls) ∧ Hid (OkS tbs (stR ls)) ∧ Hid (appS tbs ((es.map (·.c)).drop k) (stR ls) = RR)) (fun _ i _ => cn - (intOf i).toNat)
  case atStart => exact ⟨0, ls, by omega, rfl, rfl, HI5, HOK, HAP⟩
  case round =>
    clear HI5 HOK HAP
    obtain ⟨k, ls, hk, rfl, rfl, HI, HOK, HAP⟩ := hrel
    by_cases hkn : k < cn
    · obtain ⟨b2, o2, ⟨⟨ct, o, r⟩, ⟨OA, on, oc⟩, ⟨NA, nn, nc⟩⟩, rfl, he, hok, c0, c1, c2⟩ := (HCH2.out.keep (keeps_of HI.out.be)).at hkn
      dsimp only at c0 c1 c2
      have hdr : (es.map (·.c)).drop k = ⟨ct, o, r⟩ :: (es.map (·.c)).drop (k + 1) := drop_at' (by rw [List.getElem?_map, he]; rfl)
      have HAP2 := Lib.hid HAP.out
      rw [hdr] at HAP2
      have hal : Below wr.heap.size wr (wr.alloc (.cells #[.int .i64 ct, .slice OA on oc, .slice NA nn nc] 91)) := (Below.refl _ _).alloc (Nat.le_refl _) _
      have HX := Lib.hid (Blk.new wr 91 #[.int .i64 ct, .slice OA on oc, .slice NA nn nc])
      have HI2 := Lib.hid (HI.out.below hal)
      have HO2 := Lib.hid (hok.o.keep (keeps_of hal))
      have HN2 := Lib.hid (hok.n.keep (keeps_of hal))
      dsimp only at HO2 HN2
      obtain ⟨Y, HYY⟩ : ∃ z, Hid (wr.heap.size = z) := ⟨_, Lib.hid rfl⟩
      rw [HYY.out] at HX
      clear he hok hdr hal HAP HI
      go_upto_region 9 with fail
      rw [HYY.out]
      clear c0 c1 c2 HYY
      generalize wr.alloc (.cells #[.int .i64 ct, .slice OA on oc, .slice NA nn nc] 91) = wy at *
      have z := (HZ2.out.below HI2.out.be).cell
      have zy := HX.out.cell
      go_wp2_with fail
      refine (rvalid8_any ver A m c tbs ct OA on oc o NA nn nc r _ (HS2.out.keep (keeps_of HI2.out.be)) HG.out HO2.out HN2.out).mono ?_
      rintro e w6 ⟨rfl, hb6⟩
      have HI6 := Lib.hid (HI2.out.below hb6)
      have HO6 := Lib.hid (HO2.out.keep (keeps_of hb6))
      have HN6 := Lib.hid (HN2.out.keep (keeps_of hb6))
      have HX6 := Lib.hid (HX.out.below hb6)
      have HBw := Lib.hid (HB2.out.trans (HI6.out.be.mono HB2.out.size))
      have HR6 := Lib.hid (HR2.out.below HI6.out.be)
      clear hb6 HI2 HO2 HN2 HX z zy
      cases hv : validC tbs ⟨ct, o, r⟩
      · have HE := Lib.hid (rap_err (n := m) (e := 71) (tbs := tbs) (sr := stR ls0) (cs := es.map (·.c)) (by rw [HRR.out, ← HAP2.out]; exact appS_bad (by unfold stepC; rw [if_pos hv]) (by omega)) (by omega) HBw.out HR6.out)
        have zr := HR6.out.cell
        have zf := HR6.out.free
        clear hv
        go_wp2
        have zc := HE.out.2.cell
        exact bodyPost_ret (v := .tuple #[.agg #[.slice none 0 0], .int .i64 71]) (by simp [results, Tryz.results41, go_sem, zc]) rfl HE.out.1
      obtain ⟨ht0, T, hT, _⟩ := validC_at hv
      obtain ⟨t, rfl⟩ := Int.eq_ofNat_of_zero_le (show 0 ≤ ct from ht0)
      simp only [Int.toNat_natCast] at hT
      have htm : t < m := by rw [← Hln.out]; exact (List.getElem?_eq_some_iff.1 hT).1
      obtain ⟨pl, hpl⟩ : ∃ pl, ls[t]? = some pl := ⟨_, List.getElem?_eq_getElem (by rw [HI6.out.st.len]; exact htm)⟩
      have HT := Lib.hid hT
      have HGT := Lib.hid (HG.out.tb T (List.mem_of_getElem? hT))
      have Hpl := Lib.hid hpl
      have hk0 : 0 ≤ T.key := by have := HGT.out.k1; omega
      have hk8 : T.key ≤ 8 := by have := HGT.out.k2; have := HGT.out.cl; omega
      have Hrun := Lib.hid (stepC_run (st := stR ls) hv rfl hT (stR_at hpl))
      have Hcnt : Hid ((getT T (tlR pl) (keyC T ⟨(t : Int), o, r⟩)).getD [] = o → cntS ((stR ls).set t (putRw T (keyC T ⟨(t : Int), o, r⟩) r (tlR pl))) + (if r.length = 0 then 1 else 0) = cntS (stR ls) + (if o.length = 0 then 1 else 0)) := Lib.hid (fun h => cnt_step (c := ⟨(t : Int), o, r⟩) HOK.out HG.out hT (stR_at hpl) h)
      have Hsok : Hid (∀ st1, stepC tbs ⟨(t : Int), o, r⟩ (stR ls) = (0, st1) → OkS tbs st1) := Lib.hid (fun st1 h => by have := stepC_ok HOK.out (c := ⟨(t : Int), o, r⟩) (by rw [h]); rwa [h] at this)
      have Hrl : Hid (o.length = on ∧ r.length = nn) := Lib.hid ⟨HO6.out.rd.len, HN6.out.rd.len⟩
      have Hr8 : Hid (nn = 0 ∨ nn ≤ 8) := Lib.hid (by
        by_cases h0 : nn = 0
        · exact .inl h0
        · right
          obtain ⟨_, T', hT', hokc⟩ := validC_at hv
          simp only [Int.toNat_natCast] at hT'
          obtain rfl : T = T' := by rw [hT] at hT'; injection hT'
          have h1 := fitL_len (okC_new hokc (by show ¬ r.length = 0; rw [Hrl.out.2]; exact h0)).1
          unfold Tb.kinds at h1
          rw [List.length_map] at h1
          have h2 := HGT.out.cl
          have h3 := Hrl.out.2
          simp only at h1
          omega)
      have HV0 : Hid (¬ (on = 0 ∧ nn = 0)) := Lib.hid (fun h0 => by
        obtain ⟨_, T', hT', hokc⟩ := validC_at hv
        unfold okC at hokc
        simp only [Hrl.out.1, Hrl.out.2, h0.1, h0.2] at hokc
        simp at hokc)
      obtain ⟨key, Hky⟩ : ∃ z, Hid (keyC T ⟨(t : Int), o, r⟩ = z) := ⟨_, Lib.hid rfl⟩
      rw [Hky.out] at Hrun Hcnt
      have z := (HZ2.out.below HI6.out.be).cell
      have zy := HX6.out.cell
      clear hT hpl hv ht0
      go_wp2_with fail
      refine (rkeyof_any ver A m c tbs t T OA on oc o NA nn nc r _ (HS2.out.keep (keeps_of HI6.out.be)) hn8 HT.out hk0 hk8 HO6.out HN6.out).mono ?_
      rintro e w7 ⟨KA, kc, rfl, hko, hb7⟩
      rw [Hky.out] at hko ⊢
      have HI7 := Lib.hid (HI6.out.below hb7)
      have HO7 := Lib.hid (HO6.out.keep (keeps_of hb7))
      have HN7 := Lib.hid (HN6.out.keep (keeps_of hb7))
      have HX7 := Lib.hid (HX6.out.below hb7)
      have HK7 := Lib.hid hko.ok
      clear hb7 hko HI6 HO6 HN6 HX6 HBw HR6 z zy
      have z := (HZ2.out.below HI7.out.be).cell
      have zy := HX7.out.cell
      have zx := HI7.out.x.cell
      go_wp2_with fail
      refine (rget_any ver A m c tbs (some ⟨b, 0, none⟩) m cb' ls t T pl KA _ kc key _ (HS2.out.keep (keeps_of HI7.out.be)) hn8 HT.out hk0 hk8 HI7.out.st.st Hpl.out HK7.out (fun y hy => Nat.le_trans (okS_row8 HOK.out HG.out (stR_at Hpl.out) y hy) (by omega))).mono ?_
      rintro e w8 hgo
      obtain ⟨go, GA, gn, gc, gk, rfl, hgo, hown, hb8⟩ := rget_one hgo
      have HI8 := Lib.hid (HI7.out.below hb8)
      have HO8 := Lib.hid (HO7.out.keep (keeps_of hb8))
      have HN8 := Lib.hid (HN7.out.keep (keeps_of hb8))
      have HX8 := Lib.hid (HX7.out.below hb8)
      have HK8 := Lib.hid (HK7.out.keep (keeps_of hb8))
      have HGo := Lib.hid hgo
      have HG8 := Lib.hid hown.ok
      clear hb8 hgo hown HI7 HO7 HN7 HX7 HK7 z zy zx
      have zy := HX8.out.cell
      go_wp2_with fail
      refine (rcomp_rw GA gn gc go OA on oc o _ HG8.out HO8.out).mono ?_
      rintro e w9 ⟨rfl, hb9⟩
      have HI9 := Lib.hid (HI8.out.below hb9)
      have HN9 := Lib.hid (HN8.out.keep (keeps_of hb9))
      have HX9 := Lib.hid (HX8.out.below hb9)
      have HK9 := Lib.hid (HK8.out.keep (keeps_of hb9))
      have HBw := Lib.hid (HB2.out.trans (HI9.out.be.mono HB2.out.size))
      have HR9 := Lib.hid (HR2.out.below HI9.out.be)
      clear hb9 HI8 HO8 HN8 HX8 HK8 HG8 zy
      by_cases hcmp : cmpR go o = 0
      rotate_left
      · have hne : ¬ (getT T (tlR pl) key).getD [] = o := fun e => hcmp (by rw [← HGo.out, e]; exact cmpR_self _)
        have HE := Lib.hid (rap_err (n := m) (e := 81) (tbs := tbs) (sr := stR ls0) (cs := es.map (·.c)) (by rw [HRR.out, ← HAP2.out]; exact appS_bad (by rw [Hrun.out, if_neg hne]) (by omega)) (by omega) HBw.out HR9.out)
        have g : (cmpR go o != 0) = true := by simp [hcmp]
        have zr := HR9.out.cell
        have zf := HR9.out.free
        generalize cmpR go o = cc at *
        clear hcmp hne
        go_wp2
        have zc := HE.out.2.cell
        exact bodyPost_ret (v := .tuple #[.agg #[.slice none 0 0], .int .i64 81]) (by simp [results, Tryz.results41, go_sem, zc]) rfl HE.out.1
      have hgeq : (getT T (tlR pl) key).getD [] = o := by rw [HGo.out]; exact (cmpR_zero _ _).1 hcmp
      have Hc2 := Lib.hid (Hcnt.out hgeq)
      have Hr2 := Lib.hid Hrun.out
      rw [if_pos hgeq] at Hr2
      obtain ⟨nct, Hnct⟩ : ∃ z, Hid (cntS ((stR ls).set t (putRw T key r (tlR pl))) = z) := ⟨_, Lib.hid rfl⟩
      rw [Hnct.out] at Hc2 Hr2
      have hc5 := HOK.out.ct
      obtain ⟨oct, Hoct⟩ : ∃ z, Hid (cntS (stR ls) = z) := ⟨_, Lib.hid rfl⟩
      rw [Hoct.out] at Hc2 hc5 ⊢
      rw [hcmp]
      clear hcmp hgeq Hcnt Hrun HGo
      by_cases hon : on = 0 <;> by_cases hnn : nn = 0
      · exact absurd ⟨hon, hnn⟩ HV0.out
      · obtain rfl : nct = oct + 1 := by have h := Hc2.out; rw [Hrl.out.1, Hrl.out.2] at h; simp only [hon, if_neg hnn, if_true] at h; omega
        have g3 : ((on : Int) == 0) = true := by simp [hon]
        have g4 : ((nn : Int) == 0) = false := by simp; omega
        have zy := HX9.out.cell
        clear Hc2 hon hnn
        by_cases hlim : 512 < oct + 1
        · have HE := Lib.hid (rap_err (n := m) (e := 2) (tbs := tbs) (sr := stR ls0) (cs := es.map (·.c)) (by rw [HRR.out, ← HAP2.out]; exact appS_bad (by rw [Hr2.out, if_pos hlim]) (by omega)) (by omega) HBw.out HR9.out)
          have g5 : decide ((512 : Int) < (oct : Int) + 1) = true := by rw [decide_eq_true_eq]; omega
          have zr := HR9.out.cell
          have zf := HR9.out.free
          clear hlim
          go_wp2
          clear zy
          have zc := HE.out.2.cell
          exact bodyPost_ret (v := .tuple #[.agg #[.slice none 0 0], .int .i64 2]) (by simp [results, Tryz.results41, go_sem, zc]) rfl HE.out.1
        · have g5 : decide ((512 : Int) < (oct : Int) + 1) = false := by rw [decide_eq_false_iff_not]; omega
          have Hs1 : Hid (stepC tbs ⟨(t : Int), o, r⟩ (stR ls) = (0, (stR ls).set t (putRw T key r (tlR pl)))) := Lib.hid (by rw [Hr2.out, if_neg hlim])
          have hpl5 : (tlR pl).length ≤ 512 := Nat.le_trans (cntS_le2 (stR_at Hpl.out)) (by rw [Hoct.out]; omega)
          have hnn8 : nn ≤ 8 := by rcases Hr8.out with h | h <;> omega
          have z := (HZ2.out.below HI9.out.be).cell
          have zx := HI9.out.x.cell
          clear hlim Hr2
          go_wp2_with fail
          refine (rput_any ver A m c tbs b cb' ls t T pl KA _ kc key NA nn nc r (fun k => k = b ∨ k = X ∨ k < w2.heap.size) _ (HS2.out.keep (keeps_of HI9.out.be)) hn8 HT.out hk0 hk8 HI9.out.st Hpl.out (.inl rfl) (fun k hk => ?_) HK9.out HN9.out hnn8 (by omega)).mono ?_
          · have h1 := HI9.out.st.blk.lt
            have h2 := HI9.out.x.lt
            have h3 := HI9.out.be.size
            rcases hk with hk | hk | hk <;> omega
          rintro e w10 ⟨rfl, hbt, pn, hpn, hst⟩
          have HI10 := Lib.hid (HI9.out.put hbt hst)
          have HSt : Hid (stR (ls.set t pn) = (stR ls).set t (putRw T key r (tlR pl))) := Lib.hid (by unfold stR; rw [List.map_set, hpn])
          have HOK10 : Hid (OkS tbs (stR (ls.set t pn))) := Lib.hid (by rw [HSt.out]; exact Hsok.out _ Hs1.out)
          have HAP10 : Hid (appS tbs ((es.map (·.c)).drop (k + 1)) (stR (ls.set t pn)) = RR) := Lib.hid (by rw [HSt.out, ← appS_good Hs1.out]; exact HAP2.out)
          have HC10 : Hid ((cntS (stR (ls.set t pn)) : Int) = (oct : Int) + 1) := Lib.hid (by rw [HSt.out]; have := Hnct.out; omega)
          clear hbt hpn hst HSt HI9 HX9 HK9 HN9 HAP2 Hs1 Hsok z zy zx
          have zx := HI10.out.x.cell
          have zf := HI10.out.x.free
          have HI11 := Lib.hid HI10.out.again
          clear HI10
          go_wp2
          go_roundw
          case rel => exact ⟨k + 1, _, by omega, by go_num, by rw [HC10.out], HI11, HOK10, HAP10⟩
          case measure => simp [intOf]; omega
      · obtain rfl : oct = nct + 1 := by have h := Hc2.out; rw [Hrl.out.1, Hrl.out.2] at h; simp only [if_neg hon, hnn, if_true] at h; omega
        have g3 : ((on : Int) == 0) = false := by simp; omega
        have g4 : ((nn : Int) == 0) = true := by simp [hnn]
        have zy := HX9.out.cell
        clear Hc2 hon hnn
        by_cases hlim : 512 < nct
        · have HE := Lib.hid (rap_err (n := m) (e := 2) (tbs := tbs) (sr := stR ls0) (cs := es.map (·.c)) (by rw [HRR.out, ← HAP2.out]; exact appS_bad (by rw [Hr2.out, if_pos hlim]) (by omega)) (by omega) HBw.out HR9.out)
          have g5 : decide ((512 : Int) < (nct : Int)) = true := by rw [decide_eq_true_eq]; omega
          have zr := HR9.out.cell
          have zf := HR9.out.free
          clear hlim
          go_wp2
          clear zy
          have zc := HE.out.2.cell
          exact bodyPost_ret (v := .tuple #[.agg #[.slice none 0 0], .int .i64 2]) (by simp [results, Tryz.results41, go_sem, zc]) rfl HE.out.1
        · have g5 : decide ((512 : Int) < (nct : Int)) = false := by rw [decide_eq_false_iff_not]; omega
          have Hs1 : Hid (stepC tbs ⟨(t : Int), o, r⟩ (stR ls) = (0, (stR ls).set t (putRw T key r (tlR pl)))) := Lib.hid (by rw [Hr2.out, if_neg hlim])
          have hpl5 : (tlR pl).length ≤ 512 := Nat.le_trans (cntS_le2 (stR_at Hpl.out)) (by rw [Hoct.out]; omega)
          have hnn8 : nn ≤ 8 := by rcases Hr8.out with h | h <;> omega
          have z := (HZ2.out.below HI9.out.be).cell
          have zx := HI9.out.x.cell
          clear hlim Hr2
          go_wp2_with fail
          refine (rput_any ver A m c tbs b cb' ls t T pl KA _ kc key NA nn nc r (fun k => k = b ∨ k = X ∨ k < w2.heap.size) _ (HS2.out.keep (keeps_of HI9.out.be)) hn8 HT.out hk0 hk8 HI9.out.st Hpl.out (.inl rfl) (fun k hk => ?_) HK9.out HN9.out hnn8 (by omega)).mono ?_
          · have h1 := HI9.out.st.blk.lt
            have h2 := HI9.out.x.lt
            have h3 := HI9.out.be.size
            rcases hk with hk | hk | hk <;> omega
          rintro e w10 ⟨rfl, hbt, pn, hpn, hst⟩
          have HI10 := Lib.hid (HI9.out.put hbt hst)
          have HSt : Hid (stR (ls.set t pn) = (stR ls).set t (putRw T key r (tlR pl))) := Lib.hid (by unfold stR; rw [List.map_set, hpn])
          have HOK10 : Hid (OkS tbs (stR (ls.set t pn))) := Lib.hid (by rw [HSt.out]; exact Hsok.out _ Hs1.out)
          have HAP10 : Hid (appS tbs ((es.map (·.c)).drop (k + 1)) (stR (ls.set t pn)) = RR) := Lib.hid (by rw [HSt.out, ← appS_good Hs1.out]; exact HAP2.out)
          have HC10 : Hid ((cntS (stR (ls.set t pn)) : Int) = (nct : Int)) := Lib.hid (by rw [HSt.out]; have := Hnct.out; omega)
          clear hbt hpn hst HSt HI9 HX9 HK9 HN9 HAP2 Hs1 Hsok z zy zx
          have zx := HI10.out.x.cell
          have zf := HI10.out.x.free
          have HI11 := Lib.hid HI10.out.again
          clear HI10
          go_wp2
          go_roundw
          case rel => exact ⟨k + 1, _, by omega, by go_num, by rw [HC10.out], HI11, HOK10, HAP10⟩
          case measure => simp [intOf]; omega
      · obtain rfl : oct = nct := by have h := Hc2.out; rw [Hrl.out.1, Hrl.out.2] at h; simp only [if_neg hon, if_neg hnn] at h; omega
        have g3 : ((on : Int) == 0) = false := by simp; omega
        have g4 : ((nn : Int) == 0) = false := by simp; omega
        have zy := HX9.out.cell
        clear Hc2 hon hnn
        by_cases hlim : 512 < oct
        · have HE := Lib.hid (rap_err (n := m) (e := 2) (tbs := tbs) (sr := stR ls0) (cs := es.map (·.c)) (by rw [HRR.out, ← HAP2.out]; exact appS_bad (by rw [Hr2.out, if_pos hlim]) (by omega)) (by omega) HBw.out HR9.out)
          have g5 : decide ((512 : Int) < (oct : Int)) = true := by rw [decide_eq_true_eq]; omega
          have zr := HR9.out.cell
          have zf := HR9.out.free
          clear hlim
          go_wp2
          clear zy
          have zc := HE.out.2.cell
          exact bodyPost_ret (v := .tuple #[.agg #[.slice none 0 0], .int .i64 2]) (by simp [results, Tryz.results41, go_sem, zc]) rfl HE.out.1
        · have g5 : decide ((512 : Int) < (oct : Int)) = false := by rw [decide_eq_false_iff_not]; omega
          have Hs1 : Hid (stepC tbs ⟨(t : Int), o, r⟩ (stR ls) = (0, (stR ls).set t (putRw T key r (tlR pl)))) := Lib.hid (by rw [Hr2.out, if_neg hlim])
          have hpl5 : (tlR pl).length ≤ 512 := Nat.le_trans (cntS_le2 (stR_at Hpl.out)) (by rw [Hoct.out]; omega)
          have hnn8 : nn ≤ 8 := by rcases Hr8.out with h | h <;> omega
          have z := (HZ2.out.below HI9.out.be).cell
          have zx := HI9.out.x.cell
          clear hlim Hr2
          go_wp2_with fail
          refine (rput_any ver A m c tbs b cb' ls t T pl KA _ kc key NA nn nc r (fun k => k = b ∨ k = X ∨ k < w2.heap.size) _ (HS2.out.keep (keeps_of HI9.out.be)) hn8 HT.out hk0 hk8 HI9.out.st Hpl.out (.inl rfl) (fun k hk => ?_) HK9.out HN9.out hnn8 (by omega)).mono ?_
          · have h1 := HI9.out.st.blk.lt
            have h2 := HI9.out.x.lt
            have h3 := HI9.out.be.size
            rcases hk with hk | hk | hk <;> omega
          rintro e w10 ⟨rfl, hbt, pn, hpn, hst⟩
          have HI10 := Lib.hid (HI9.out.put hbt hst)
          have HSt : Hid (stR (ls.set t pn) = (stR ls).set t (putRw T key r (tlR pl))) := Lib.hid (by unfold stR; rw [List.map_set, hpn])
          have HOK10 : Hid (OkS tbs (stR (ls.set t pn))) := Lib.hid (by rw [HSt.out]; exact Hsok.out _ Hs1.out)
          have HAP10 : Hid (appS tbs ((es.map (·.c)).drop (k + 1)) (stR (ls.set t pn)) = RR) := Lib.hid (by rw [HSt.out, ← appS_good Hs1.out]; exact HAP2.out)
          have HC10 : Hid ((cntS (stR (ls.set t pn)) : Int) = (oct : Int)) := Lib.hid (by rw [HSt.out]; have := Hnct.out; omega)
          clear hbt hpn hst HSt HI9 HX9 HK9 HN9 HAP2 Hs1 Hsok z zy zx
          have zx := HI10.out.x.cell
          have zf := HI10.out.x.free
          have HI11 := Lib.hid HI10.out.again
          clear HI10
          go_wp2
          go_roundw
          case rel => exact ⟨k + 1, _, by omega, by go_num, by rw [HC10.out], HI11, HOK10, HAP10⟩
          case measure => simp [intOf]; omega
    · obtain rfl : k = cn := by omega
      have hrr : (0, stR ls) = RR := by
        rw [← HAP.out, List.drop_of_length_le (by rw [List.length_map, HCH2.out.sl.len]; exact Nat.le_refl _)]
        rfl
      have HBw := Lib.hid (HB2.out.trans (HI.out.be.mono HB2.out.size))
      have HR9 := Lib.hid (HR2.out.below HI.out.be)
      have HF : Hid (let wf := wr.setCell ⟨w.heap.size + 2, 0, none⟩ (.slice (some ⟨b, 0, none⟩) m cb'); Blk wf (w.heap.size + 2) 25 #[.slice (some ⟨b, 0, none⟩) m cb'] ∧ RApO tbs (stR ls0) (es.map (·.c)) m w (.returned (.tuple #[.agg #[.slice (some ⟨b, 0, none⟩) m cb'], .int .i64 0])) wf) := Lib.hid (by
        intro wf
        have hb : But (· = w.heap.size + 2) wr wf := But.set (S := (· = w.heap.size + 2)) wr (p := ⟨w.heap.size + 2, 0, none⟩) rfl _
        have h1 := HI.out.hb
        have h2 := HR2.out.lt
        refine ⟨?_, .inl ⟨by rw [HRR.out, ← hrr], b, cb', ls, rfl, ?_, by rw [HRR.out, ← hrr], by omega⟩, HBw.out.setCell (p := ⟨w.heap.size + 2, 0, none⟩) (by show w.heap.size ≤ w.heap.size + 2; omega) _⟩
        · have := HR9.out.set_ 0 (.slice (some ⟨b, 0, none⟩) m cb')
          simpa using this
        · have h3 : StP (fun k => k = b ∨ k = X ∨ k < w2.heap.size) wf b m ls pad := ⟨HI.out.st.blk.but hb (by omega), HI.out.st.len, fun p hp => (HI.out.st.ok p hp).step (hb.wide (fun k hk => .inr (.inr (by omega))))⟩
          exact h3.st)
      have zx := HI.out.x.cell
      have zr := HR9.out.cell
      have zf := HR9.out.free
      clear hrr HI HOK HAP
      go_wp2
      have zc := HF.out.1.cell
      exact bodyPost_ret (v := .tuple #[.agg #[.slice (some ⟨b, 0, none⟩) m cb'], .int .i64 0]) (by simp [results, Tryz.results41, go_sem, zc]) rfl HF.out.2
end Go.Proofs.YtponkkljlbifmaaGreat
