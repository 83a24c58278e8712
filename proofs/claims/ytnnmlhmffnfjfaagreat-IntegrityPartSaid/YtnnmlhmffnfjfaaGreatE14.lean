/-
  Texts: IgVio, IgGet, IgFnP, ShelfO, IgCmp.
-/
import Derived.Lib.SliceRun
import Derived.Test.YtnnmlhmffnfjfaaGreatE13
set_option linter.unusedVariables false
/-
  Violations in memory; the program's violation and compare.
-/
namespace Go.Proofs.YtnnmlhmffnfjfaaGreat
open Go.RowKit
set_option maxRecDepth 100000
open Pd

/-- a violation and where its key lies -/
structure VoE where
  v : Vo
  A : Option Addr
  n : Nat
  c : Nat
def VoE.cs (x : VoE) : List Value := [.int .i64 x.v.k, .int .i64 x.v.t, .slice x.A x.n x.c, .int .i64 x.v.ix]
theorem VoE.cs_len (x : VoE) : x.cs.length = 4 := rfl
theorem one_vo (x : VoE) : ∀ u ∈ VoE.cs x, u.oneCell' = true := by simp [VoE.cs, Value.oneCell']
def VoE.p (x : VoE) : RowP := ((x.A, x.n, x.c), x.v.key)
abbrev VoE.val (x : VoE) : Value := .agg #[.int .i64 x.v.k, .int .i64 x.v.t, .slice x.A x.n x.c, .int .i64 x.v.ix]
/-- the new violation -/
def VioN (v : Vo) (w : World) (e : Ending) (w' : World) : Prop := ∃ (A : Option Addr) (c : Nat), e = .returned (.agg #[.int .i64 v.k, .int .i64 v.t, .slice A v.key.length c, .int .i64 v.ix]) ∧ OwnRow w' w.heap.size ((A, v.key.length, c), v.key) ∧ Below w.heap.size w w'

set_option maxHeartbeats 2000000 in
theorem cloneRow_any (A : Option Addr) (n c : Nat) (r : Rw) (w : World) (hp : RowOk w ((A, n, c), r)) (hn : n ≤ 4398046511104) :
    Calls Tryz.prog 166 #[.slice A n c] w fun e w' => RowN r w e w' := by
  obtain ⟨i0, hi, hz0, hz1, hz2⟩ := info_parts info_vl
  have HL := hp.rd.len
  have hnl := hp.nl
  simp only at HL hnl
  have HB2 := Lib.hid ((Below.refl w.heap.size w).alloc (Nat.le_refl _) (.cells #[] 59))
  have HP := Lib.hid (hp.keep (keeps_of HB2.out))
  have hown : (w.alloc (.cells #[] 59)).ownsRow w.heap.size 59 3 (.slice (some ⟨w.heap.size, 0, none⟩) 0 0) 0 (([] : List Vl).flatMap Vl.cs) :=
    ⟨rfl, .inr ⟨w.heap.size, 0, _, rfl, Nat.le_refl _, Blk.new w 59 #[], Nat.le_refl 0, Nat.zero_le _, rfl, rfl⟩⟩
  clear hp
  have hq := fun (W : World) (a : Option Addr) (n c : Nat) => Lib.run_eql_slice_nil W 53 59 a n c 0 0 Tryz.underlying53
  go_enter Tryz.func166, Tryz.ntmps166
  cases A with
  | none =>
    obtain ⟨rfl, rfl⟩ := hnl rfl
    have hl0 : r = [] := List.eq_nil_of_length_eq_zero HL
    subst hl0
    clear hown
    go_wp2
    go_ret
    exact ⟨none, 0, rfl, ⟨⟨by simp, .inl ⟨rfl, rfl⟩⟩, rfl⟩, Below.refl _ _⟩
  | some ad =>
    subst HL
    go_wp2_with (at_builtin; refine wpList_append_sf (cs := Vl.cs) (w.alloc (.cells #[] 59)) (by rfl) _ (.tmp 6) _ (by rfl) w.heap.size 59 i0 _ 3 32 Tryz.underlying53 hi hz0 hz1 hz2 (by rfl) (by omega) (.slice (some ⟨w.heap.size, 0, none⟩) 0 0) 0 [] (by rfl) hown (some ad) r.length c r (by rfl) HP.out.rd HP.out.nl Vl.cs_len one_vl (by simp only [maxLen]; omega) (by omega) (by simp) ?_; intro A4 c4 w3 hown3 hg3 hB3 hat3 hnil3; simp only [Nat.zero_add, List.nil_append] at hown3)
    go_ret
    exact ⟨A4, c4, rfl, ⟨hown3, rfl⟩, HB2.out.trans hB3⟩
set_option maxHeartbeats 2000000 in
theorem violation_any (v : Vo) (A : Option Addr) (n c : Nat) (w : World) (hp : RowOk w ((A, n, c), v.key)) (hn : n ≤ 4398046511104) :
    Calls Tryz.prog 106 #[.int .i64 v.k, .int .i64 v.t, .slice A n c, .int .i64 v.ix] w fun e w' => VioN v w e w' := by
  obtain ⟨k, t, key, ix⟩ := v
  dsimp only at hp ⊢
  have HB := Lib.hid ((Below.refl w.heap.size w).alloc (Nat.le_refl _) (.cells #[.int .i64 0, .int .i64 0, .slice none 0 0, .int .i64 0] 55))
  have HP := Lib.hid (hp.keep (keeps_of HB.out))
  clear hp
  go_enter Tryz.func106, Tryz.ntmps106
  go_wp2_with fail
  refine (cloneRow_any A n c key _ HP.out hn).mono ?_
  rintro e w1 ⟨A1, c1, rfl, hown, hb1⟩
  have HE := Lib.hid (Below.next HB.out hb1)
  have HO : Hid (OwnRow w1 (w.heap.size + 1) ((A1, key.length, c1), key)) := Lib.hid (by have := hown; rwa [World.size_alloc] at this)
  have z := ((Blk.new w 55 #[.int .i64 0, .int .i64 0, .slice none 0 0, .int .i64 0]).below hb1).cell
  have zf := ((Blk.new w 55 #[.int .i64 0, .int .i64 0, .slice none 0 0, .int .i64 0]).below hb1).free
  have h0 := (Blk.new w 55 #[.int .i64 0, .int .i64 0, .slice none 0 0, .int .i64 0]).below hb1
  have HV := Lib.hid ((((h0.set_ 0 (.int .i64 k)).set_ 1 (.int .i64 t)).set_ 2 (.slice A1 key.length c1)).set_ 3 (.int .i64 ix))
  clear h0
  simp only [List.setIfInBounds_toArray, List.set_cons_succ, List.set_cons_zero] at HV
  have hsz : w.heap.size < w1.heap.size := by have := hb1.size; rw [World.size_alloc] at this; omega
  have HO2 : Hid (OwnRow ((((w1.setCell ⟨w.heap.size, 0, none⟩ (.int .i64 k)).setCell ⟨w.heap.size, 1, none⟩ (.int .i64 t)).setCell ⟨w.heap.size, 2, none⟩ (.slice A1 key.length c1)).setCell ⟨w.heap.size, 3, none⟩ (.int .i64 ix)) w.heap.size ((A1, key.length, c1), key)) := Lib.hid (by
    obtain ⟨h1, h2⟩ := HO.out
    refine ⟨own_weaken (base := w.heap.size + 1) ?_ (by omega), h2⟩
    exact ownsRow_setCell_below (ownsRow_setCell_below (ownsRow_setCell_below (ownsRow_setCell_below h1 (by simp) _) (by simp) _) (by simp) _) (by simp) _)
  clear hown hb1 HB HP HO
  go_wp2
  have zc := HV.out.cell
  exact bodyPost_ret (v := .agg #[.int .i64 k, .int .i64 t, .slice A1 key.length c1, .int .i64 ix]) (by simp [results, Tryz.results106, go_sem, zc]) rfl ⟨A1, c1, rfl, HO2.out, (((HE.out.setCell (p := ⟨w.heap.size, 0, none⟩) (Nat.le_refl _) _).setCell (p := ⟨w.heap.size, 1, none⟩) (Nat.le_refl _) _).setCell (p := ⟨w.heap.size, 2, none⟩) (Nat.le_refl _) _).setCell (p := ⟨w.heap.size, 3, none⟩) (Nat.le_refl _) _⟩
end Go.Proofs.YtnnmlhmffnfjfaaGreat

/-
  The program's get and Get: the row with a key.
-/
namespace Go.Proofs.YtnnmlhmffnfjfaaGreat
open Go.RowKit
set_option maxRecDepth 100000
open Pd

/-- the row with a key, wherever it lies -/
def GetO (T : Tb) (l : List Rw) (key : Rw) (w : World) (e : Ending) (w' : World) : Prop :=
  ((∃ (R : Option Addr) (rn rc : Nat) (r : Rw), e = .returned (.tuple #[.slice R rn rc, .bool true]) ∧ getT T l key = some r ∧ RowOk w' ((R, rn, rc), r)) ∨ (e = .returned (.tuple #[.slice none 0 0, .bool false]) ∧ getT T l key = none)) ∧ Below w.heap.size w w'
theorem getT_step {T : Tb} {l : List Rw} {k : Nat} {r key : Rw} {o : Option Rw} (h : l[k]? = some r) (hg : getT T (l.drop k) key = o) : (if cmpR (keyT T r) key = 0 then some r else getT T (l.drop (k + 1)) key) = o := by
  rw [drop_at' h] at hg
  unfold getT at hg ⊢
  rw [List.find?_cons] at hg
  by_cases hc : cmpR (keyT T r) key = 0
  · rw [if_pos hc]; simpa [hc] using hg
  · rw [if_neg hc]; simpa [hc] using hg
set_option maxHeartbeats 4000000 in
theorem tget_any (ver : Int) (A : Option Addr) (n c : Nat) (tbs : List Tb) (B : Option Addr) (m cb : Nat) (ls : List TlP) (t : Nat) (T : Tb) (pl : TlP) (K : Option Addr) (kn kc : Nat) (key : Rw) (w : World) (hs : ScS w A n tbs) (hn : n ≤ 8) (hT : tbs[t]? = some T) (h0 : 0 ≤ T.key) (hst : StS w B m ls) (hl : ls[t]? = some pl) (hk : RowOk w ((K, kn, kc), key)) :
    Calls Tryz.prog 165 #[.agg #[.int .i64 ver, .slice A n c], .agg #[.slice B m cb], .int .i64 (t : Int), .slice K kn kc] w fun e w' => GetO T (tlR pl) key w e w' := by
  have ht : t < n := by rw [← hs.len]; exact (List.getElem?_eq_some_iff.1 hT).1
  have htm : t < m := by rw [← hst.sl.len]; exact (List.getElem?_eq_some_iff.1 hl).1
  have g0 : decide ((t : Int) < 0) = false := by simp
  have g1 : decide (n ≤ t) = false := by simp; omega
  have g2 : decide (m ≤ t) = false := by simp; omega
  have HB : Hid (Below w.heap.size w ((w.alloc (.cells #[.int .i64 ver, .slice A n c] 30)).alloc (.cells #[.slice B m cb] 25))) := Lib.hid (((Below.refl _ _).alloc (Nat.le_refl _) _).alloc (by simp) _)
  have HS := Lib.hid (hs.keep (keeps_of HB.out))
  have HST := Lib.hid (hst.keep (keeps_of HB.out))
  have HK := Lib.hid (hk.keep (keeps_of HB.out))
  have HZ := Lib.hid ((Blk.new w 30 #[.int .i64 ver, .slice A n c]).alloc (.cells #[.slice B m cb] 25))
  have HY := Lib.hid (Blk.new (w.alloc (.cells #[.int .i64 ver, .slice A n c] 30)) 25 #[.slice B m cb])
  rw [World.size_alloc] at HY
  have Hl := Lib.hid hl
  have HT := Lib.hid hT
  clear hs hst hk hl hT
  go_enter Tryz.func165, Tryz.ntmps165
  go_upto_region 1 with fail
  generalize hW : (w.alloc (.cells #[.int .i64 ver, .slice A n c] 30)).alloc (.cells #[.slice B m cb] 25) = w1 at *
  have z := HZ.out.cell
  have zy := HY.out.cell
  obtain ⟨b, o, ⟨⟨L, ln, lc⟩, ps⟩, rfl, hl2, hok, c0⟩ := HST.out.at htm
  obtain rfl : pl = ((L, ln, lc), ps) := by have := Hl.out; rw [hl2] at this; injection this with this; exact this.symm
  dsimp only at c0
  have HR := Lib.hid hok.rd
  have Hf : Hid (getT T ((tlR ((L, ln, lc), ps)).drop 0) key = getT T (tlR ((L, ln, lc), ps)) key) := Lib.hid rfl
  have Hlen := Lib.hid hok.len
  dsimp only at HR Hlen
  generalize hrr : getT T (tlR ((L, ln, lc), ps)) key = rr at *
  have hlm : ln ≤ 9223372036854775807 := Nat.le_trans hok.le hok.mx
  clear hl2 hok
  go_wp2_with fail
  clear z zy c0
  go_loopw [34] (fun i wr => ∃ k : Nat, k ≤ ln ∧ i = .int .i64 (k : Int) ∧ Hid (getT T ((tlR ((L, ln, lc), ps)).drop k) key = rr) ∧ Hid (Below w1.heap.size w1 wr)) (fun i _ => ln - (intOf i).toNat)
  case atStart => exact ⟨0, by omega, rfl, Hf, Lib.hid (Below.refl _ _)⟩
  case round =>
    obtain ⟨k, hk, rfl, Hq, HBr⟩ := hrel
    have z := (HZ.out.below HBr.out).cell
    by_cases hlt : k < ln
    · obtain ⟨b2, o2, ⟨⟨R, rn, rc⟩, r⟩, rfl, c1, hro, hp⟩ := (HR.out.keep (keeps_of HBr.out)).get2 hlt
      dsimp only at c1
      have Hst := Lib.hid (getT_step (tlR_at hp) Hq.out)
      have HRO := Lib.hid hro
      clear hro hp Hq
      go_wp2_with fail
      refine (prefix_any ver A n c tbs t T R rn rc r _ (HS.out.keep (keeps_of HBr.out)) hn HT.out h0 HRO.out).mono ?_
      rintro e w2 ⟨⟨⟨Q, qn, qc⟩, q⟩, rfl, hq, hqo, hb2⟩
      dsimp only at hq
      subst hq
      have HB2 := Lib.hid (Below.next HBr.out hb2)
      have HQ := Lib.hid hqo
      have HR2 := Lib.hid (HRO.out.keep (keeps_of hb2))
      clear z hb2 hqo HBr c1 HRO
      go_wp2_with fail
      refine (comp_rw Q qn qc (keyT T r) K kn kc key _ HQ.out (HK.out.keep (keeps_of HB2.out))).mono ?_
      rintro e w3 ⟨rfl, hb3⟩
      have HB3 := Lib.hid (Below.next HB2.out hb3)
      have HR3 := Lib.hid (HR2.out.keep (keeps_of hb3))
      clear hb3 HB2 HR2 HQ
      by_cases hc : cmpR (keyT T r) key = 0
      · have Hs2 := Hst.out
        rw [if_pos hc] at Hs2
        rw [hc]
        have HE : Hid (GetO T (tlR ((some ⟨b2, o2, none⟩, ln, lc), ps)) key w (.returned (.tuple #[.slice R rn rc, .bool true])) w3) := Lib.hid ⟨.inl ⟨R, rn, rc, r, rfl, by rw [hrr, ← Hs2], HR3.out⟩, HB.out.trans (HB3.out.mono HB.out.size)⟩
        subst Hs2
        clear hc
        go_wp2
        exact bodyPost_ret (v := .tuple #[.slice R rn rc, .bool true]) (by simp [results, Tryz.results165, go_sem]) rfl HE.out
      · have g3 : (cmpR (keyT T r) key == 0) = false := by simp [hc]
        have Hs2 := Lib.hid Hst.out
        rw [if_neg hc] at Hs2
        clear hc
        go_wp2
        go_roundw
        case rel => exact ⟨k + 1, by omega, by go_num, Hs2, HB3⟩
        case measure => simp [intOf]; omega
    · obtain rfl : k = ln := by omega
      have hf : rr = none := by
        rw [← Hq.out, List.drop_of_length_le (by rw [Hlen.out]; exact Nat.le_refl _)]
        rfl
      have HE : Hid (GetO T (tlR ((L, k, lc), ps)) key w (.returned (.tuple #[.slice none 0 0, .bool false])) wr) := Lib.hid ⟨.inr ⟨rfl, by rw [hrr, hf]⟩, HB.out.trans (HBr.out.mono HB.out.size)⟩
      clear z
      go_wp2
      exact bodyPost_ret (v := .tuple #[.slice none 0 0, .bool false]) (by simp [results, Tryz.results165, go_sem]) rfl HE.out
theorem getT_mem {T : Tb} {l : List Rw} {key r : Rw} (h : getT T l key = some r) : r ∈ l := List.mem_of_find?_eq_some h
set_option maxHeartbeats 2000000 in
theorem tGet_any (ver : Int) (A : Option Addr) (n c : Nat) (tbs : List Tb) (B : Option Addr) (m cb : Nat) (ls : List TlP) (t : Nat) (T : Tb) (pl : TlP) (K : Option Addr) (kn kc : Nat) (key : Rw) (w : World) (hs : ScS w A n tbs) (hn : n ≤ 8) (hT : tbs[t]? = some T) (h0 : 0 ≤ T.key) (hst : StS w B m ls) (hl : ls[t]? = some pl) (hk : RowOk w ((K, kn, kc), key)) (h8 : ∀ r ∈ tlR pl, r.length ≤ 8) :
    Calls Tryz.prog 105 #[.agg #[.int .i64 ver, .slice A n c], .agg #[.slice B m cb], .int .i64 (t : Int), .slice K kn kc] w fun e w' => (∃ v, e = .returned (.tuple #[v, .bool (getT T (tlR pl) key).isSome])) ∧ Below w.heap.size w w' := by
  have HB : Hid (Below w.heap.size w ((w.alloc (.cells #[.int .i64 ver, .slice A n c] 30)).alloc (.cells #[.slice B m cb] 25))) := Lib.hid (((Below.refl _ _).alloc (Nat.le_refl _) _).alloc (by simp) _)
  have HS := Lib.hid (hs.keep (keeps_of HB.out))
  have HST := Lib.hid (hst.keep (keeps_of HB.out))
  have HK := Lib.hid (hk.keep (keeps_of HB.out))
  clear hs hst hk
  go_enter Tryz.func105, Tryz.ntmps105
  go_wp2_with fail
  refine (tget_any ver A n c tbs B m cb ls t T pl K kn kc key _ HS.out hn hT h0 HST.out hl HK.out).mono ?_
  rintro e w1 ⟨⟨R, rn, rc, r, rfl, hg, hr⟩ | ⟨rfl, hg⟩, hb1⟩
  · have HB1 := Lib.hid (Below.next HB.out hb1)
    have HR := Lib.hid hr
    have hrn : rn ≤ 8 := by have := h8 _ (getT_mem hg); have := hr.rd.len; simp only at *; omega
    have Hg := Lib.hid (show (getT T (tlR pl) key).isSome = true by rw [hg]; rfl)
    clear hr hb1 hg
    go_wp2_with fail
    refine (tclone_any R rn rc r _ HR.out (by omega)).mono ?_
    rintro e w2 ⟨A2, c2, rfl, _, hb2⟩
    have HE := Lib.hid (Below.next HB1.out hb2)
    go_wp2
    exact bodyPost_ret (v := .tuple #[.slice A2 r.length c2, .bool true]) (by simp [results, Tryz.results105, go_sem]) rfl ⟨⟨_, by rw [Hg.out]⟩, HE.out⟩
  · have HB1 := Lib.hid (Below.next HB.out hb1)
    have Hg := Lib.hid (show (getT T (tlR pl) key).isSome = false by rw [hg]; rfl)
    clear hb1 hg
    go_wp2_with fail
    refine (tclone_any none 0 0 [] _ ⟨Sl.nil, fun _ => ⟨rfl, rfl⟩, Nat.le_refl _, Nat.zero_le _⟩ (by omega)).mono ?_
    rintro e w2 ⟨A2, c2, rfl, _, hb2⟩
    have HE := Lib.hid (Below.next HB1.out hb2)
    go_wp2
    exact bodyPost_ret (v := .tuple #[.slice A2 0 c2, .bool false]) (by simp [results, Tryz.results105, go_sem]) rfl ⟨⟨_, by rw [Hg.out]⟩, HE.out⟩
end Go.Proofs.YtnnmlhmffnfjfaaGreat

/-
  Plain steps of the search for violations; what the search holds in memory.
-/
namespace Go.Proofs.YtnnmlhmffnfjfaaGreat
open Go.RowKit
set_option maxRecDepth 100000
open Pd

section
variable {hit : Bool} {wr rm gt : Int → Rw → Bool} {t : Int} {key r : Rw} {T : Tb} {acc R V : List Vo}
theorem vRefs_step {l : List Rf} {i : Nat} {x : Rf} (h : l[i]? = some x) (hq : acc ++ (vRefs hit rm gt t key r i (l.drop i) ++ R) = V) :
    acc ++ (if (hit || rm x.t (cellsR r x.cols)) && !gt x.t (cellsR r x.cols) then [⟨1, t, key, i⟩] else []) ++ (vRefs hit rm gt t key r ((i + 1 : Nat) : Int) (l.drop (i + 1)) ++ R) = V := by
  rw [drop_at' h] at hq
  rw [← hq]
  simp [vRefs]
theorem vChks_step {l : List Pd} {i : Nat} {x : Pd} (h : l[i]? = some x) (hq : acc ++ (vChks hit t key r i (l.drop i) ++ R) = V) :
    acc ++ (if hit && !holdsB r [] x then [⟨2, t, key, i⟩] else []) ++ (vChks hit t key r ((i + 1 : Nat) : Int) (l.drop (i + 1)) ++ R) = V := by
  rw [drop_at' h] at hq
  rw [← hq]
  simp [vChks]
theorem vRows_step {l : List Rw} {j : Nat} {x : Rw} (h : l[j]? = some x) (hq : acc ++ (vRows wr rm gt t T (l.drop j) ++ R) = V) :
    acc ++ (vRefs (wr t (keyT T x)) rm gt t (keyT T x) x ((0 : Nat) : Int) (T.refs.drop 0) ++ (vChks (wr t (keyT T x)) t (keyT T x) x ((0 : Nat) : Int) (T.chks.drop 0) ++ (vRows wr rm gt t T (l.drop (j + 1)) ++ R))) = V := by
  rw [drop_at' h] at hq
  rw [← hq]
  simp [vRows, vRow]
theorem vTabs_step {ts : List Tb} {ls : List (List Rw)} {k : Nat} {l : List Rw} (h : ts[k]? = some T) (hl : ls[k]? = some l) (hq : acc ++ vTabs wr rm gt k (ts.drop k) (ls.drop k) = V) :
    acc ++ (vRows wr rm gt k T (l.drop 0) ++ vTabs wr rm gt ((k + 1 : Nat) : Int) (ts.drop (k + 1)) (ls.drop (k + 1))) = V := by
  rw [drop_at' h, drop_at' hl] at hq
  rw [← hq]
  simp [vTabs]
theorem vRefs_len : ∀ (l : List Rf) (i : Int), (vRefs hit rm gt t key r i l).length ≤ l.length
  | [], _ => Nat.le_refl _
  | x :: l, i => by
    have := vRefs_len l (i + 1)
    simp only [vRefs, List.length_append, List.length_cons]
    split <;> simp <;> omega
theorem vChks_len : ∀ (l : List Pd) (i : Int), (vChks hit t key r i l).length ≤ l.length
  | [], _ => Nat.le_refl _
  | x :: l, i => by
    have := vChks_len l (i + 1)
    simp only [vChks, List.length_append, List.length_cons]
    split <;> simp <;> omega
theorem vRows_len (hT : GoodT T) : ∀ l : List Rw, (vRows wr rm gt t T l).length ≤ 8 * l.length
  | [] => Nat.le_refl _
  | x :: l => by
    have h1 := vRows_len hT l
    have h2 := vRefs_len (hit := wr t (keyT T x)) (rm := rm) (gt := gt) (t := t) (key := keyT T x) (r := x) T.refs 0
    have h3 := vChks_len (hit := wr t (keyT T x)) (t := t) (key := keyT T x) (r := x) T.chks 0
    have := hT.rl
    have := hT.hl
    simp only [vRows, vRow, List.length_append, List.length_cons]
    omega
end
theorem vTabs_len {wr rm gt : Int → Rw → Bool} : ∀ (ts : List Tb) (ls : List (List Rw)) (t : Int), (∀ T ∈ ts, GoodT T) → (vTabs wr rm gt t ts ls).length ≤ 8 * cntS ls
  | [], _, _, _ => Nat.zero_le _
  | _ :: _, [], _, _ => Nat.zero_le _
  | T :: ts, l :: ls, t, h => by
    have h1 := vTabs_len (wr := wr) (rm := rm) (gt := gt) ts ls (t + 1) (fun U hU => h U (by simp [hU]))
    have h2 := vRows_len (wr := wr) (rm := rm) (gt := gt) (t := t) (h T (by simp)) l
    simp only [vTabs, List.length_append, cntS, List.map_cons, List.sum_cons] at h1 ⊢
    omega
theorem cells_take {r : Rw} {cs : List Int} {j : Nat} {c : Int} {v : Vl} (h : cs[j]? = some c) (hv : r[c.toNat]? = some v) : cellsR r (cs.take (j + 1)) = cellsR r (cs.take j) ++ [v] := by
  unfold cellsR
  rw [take_snocI h, List.map_append]
  simp [List.getD, hv]
/-- a test of keys: a closure that answers p -/
def TestOk (F : Nat) (cb : Array Value) (w0 : World) (N : Nat) (p : Int → Rw → Bool) : Prop :=
  ∀ W, Below w0.heap.size w0 W → ∀ (t : Nat) (K : Option Addr) (kn kc : Nat) (key : Rw), t < N → RowOk W ((K, kn, kc), key) →
    Calls Tryz.prog F (#[.int .i64 (t : Int), .slice K kn kc] ++ cb) W fun e w' => e = .returned (.bool (p t key)) ∧ Below W.heap.size W w'
theorem TestOk.below {F : Nat} {cb : Array Value} {w0 w1 : World} {N : Nat} {p : Int → Rw → Bool} (h : TestOk F cb w0 N p) (hb : Below w0.heap.size w0 w1) : TestOk F cb w1 N p :=
  fun W hW => h W (hb.trans (hW.mono hb.size))
theorem info_vo : (Tryz.prog.info? 55).map (fun i => (i.zero, i.size, i.bytes)) = some (some (.agg #[.int .i64 0, .int .i64 0, .slice none 0 0, .int .i64 0]), 4, 48) := by kernel_rfl
/-- an own row of another type does not lie in the block of a row that grows -/
theorem OwnRow.grownT {w w' : World} {base : Nat} {q : RowP} (h : OwnRow w base q) {base' : Nat} {T : TypeId} {v : Value} {n size : Nat} {xs : List Value} (ho : w.ownsRow base' T size v n xs) (hT : T ≠ 59) (hg : w.grownBy w' v.ownBlock) : OwnRow w' base q := by
  refine ⟨own_at h.1 (fun g _ hlt hv => hg.block g hlt (fun e => ?_)), h.2⟩
  rcases h.1.2 with ⟨hq, _⟩ | ⟨g1, cap1, cur1, hq, _, hh1, _⟩
  · rw [hq] at hv; simp [Value.ownBlock] at hv
  · rw [hq] at hv
    simp only [Value.ownBlock, Option.some.injEq] at hv
    rcases ho.2 with ⟨hv2, _⟩ | ⟨g2, cap2, cur2, hv2, _, hh2, _⟩
    · rw [hv2] at e; simp [Value.ownBlock] at e
    · rw [hv2] at e
      simp only [Value.ownBlock, Option.some.injEq] at e
      rw [← hv] at e
      subst e
      rw [hh1] at hh2
      injection hh2 with hh2
      injection hh2 with _ ht
      exact absurd ht.symm hT
theorem OwnRow.mono {w : World} {b b' : Nat} {q : RowP} (h : OwnRow w b q) (hb : b' ≤ b) : OwnRow w b' q := ⟨own_weaken h.1 hb, h.2⟩
/-- what the search holds: the violations so far, of its own -/
structure FndS (w1 wr : World) (V : Option Addr) (n vc : Nat) (xs : List VoE) : Prop where
  own : wr.ownsRow w1.heap.size 55 4 (.slice V n vc) n (xs.flatMap VoE.cs)
  len : xs.length = n
  keys : ∀ x ∈ xs, OwnRow wr w1.heap.size x.p
  be : Below w1.heap.size w1 wr
section
variable {w1 wr wr' : World} {V : Option Addr} {n vc : Nat} {xs : List VoE}
theorem FndS.nil (w1 : World) : FndS w1 w1 none 0 0 [] := ⟨⟨by simp, .inl ⟨rfl, rfl⟩⟩, rfl, fun _ h => absurd h List.not_mem_nil, Below.refl _ _⟩
theorem FndS.below (h : FndS w1 wr V n vc xs) (hb : Below wr.heap.size wr wr') : FndS w1 wr' V n vc xs :=
  ⟨own_at h.own (fun g _ hlt _ => hb.block g hlt), h.len, fun x hx => (h.keys x hx).below hb, Below.next h.be hb⟩
/-- one more -/
theorem FndS.add (h : FndS w1 wr V n vc xs) {x : VoE} (hx : OwnRow wr w1.heap.size x.p) {o : Obj} {g cap : Nat} (ho : wr'.ownsRow w1.heap.size 55 4 (.slice (some ⟨g, 0, none⟩) (n + 1) cap) (n + 1) (xs.flatMap VoE.cs ++ VoE.cs x)) (hg : (wr.alloc o).grownBy wr' (Value.slice V n vc).ownBlock) (hB : Below w1.heap.size wr wr') : FndS w1 wr' (some ⟨g, 0, none⟩) (n + 1) cap (xs ++ [x]) := by
  refine ⟨by rw [List.flatMap_append]; simpa using ho, by rw [List.length_append, h.len]; rfl, fun y hy => ?_, h.be.trans hB⟩
  have hg2 := grown_of_alloc hg
  rcases List.mem_append.1 hy with hy | hy
  · exact (h.keys y hy).grownT h.own (by decide) hg2
  · rw [List.mem_singleton.1 hy]
    exact hx.grownT h.own (by decide) hg2
end
end Go.Proofs.YtnnmlhmffnfjfaaGreat

/-
  The shelf's laying of slices.SortFunc over violations at this seat, in plain words, written by the kit's lay-plain.mjs. Turned into a template by name.
-/
namespace Go.Proofs
open Go.Shelf
def Tryz.sortO_ren : Go.Shelf.Ren := ⟨fun | 6 => 107 | 15 => 168 | 14 => 167 | 28 => 214 | 29 => 215 | 20 => 206 | 21 => 207 | 22 => 208 | 23 => 209 | 24 => 210 | 25 => 211 | 26 => 212 | 27 => 213 | 46 => 247 | 47 => 248 | 48 => 249 | 49 => 250 | 50 => 251 | 57 => 268 | n => n, fun | 22 => 35 | 24 => 55 | 25 => 160 | 3 => 3 | 39 => 203 | 0 => 0 | 53 => 238 | 55 => 240 | 4 => 4 | 46 => 232 | 45 => 231 | 50 => 164 | 5 => 5 | 9 => 9 | 66 => 264 | 70 => 173 | 76 => 278 | 77 => 279 | n => n, fun | n => n⟩
theorem Tryz.sortO : Go.Proofs.SlLaysF0.n6 Tryz.prog Tryz.sortO_ren := {
  mixed := by kernel_rfl
  f6 := ⟨Tryz.f107.name, by decide, Tryz.func107.trans (congrArg some (by kernel_rfl))⟩
  f14 := ⟨Tryz.f167.name, by decide, Tryz.func167.trans (congrArg some (by kernel_rfl))⟩
  f15 := Tryz.func168.trans (congrArg some (by kernel_rfl))
  f20 := ⟨Tryz.f206.name, by decide, Tryz.func206.trans (congrArg some (by kernel_rfl))⟩
  f21 := ⟨Tryz.f207.name, by decide, Tryz.func207.trans (congrArg some (by kernel_rfl))⟩
  f22 := ⟨Tryz.f208.name, by decide, Tryz.func208.trans (congrArg some (by kernel_rfl))⟩
  f23 := ⟨Tryz.f209.name, by decide, Tryz.func209.trans (congrArg some (by kernel_rfl))⟩
  f24 := ⟨Tryz.f210.name, by decide, Tryz.func210.trans (congrArg some (by kernel_rfl))⟩
  f25 := ⟨Tryz.f211.name, by decide, Tryz.func211.trans (congrArg some (by kernel_rfl))⟩
  f26 := ⟨Tryz.f212.name, by decide, Tryz.func212.trans (congrArg some (by kernel_rfl))⟩
  f27 := ⟨Tryz.f213.name, by decide, Tryz.func213.trans (congrArg some (by kernel_rfl))⟩
  f28 := Tryz.func214.trans (congrArg some (by kernel_rfl))
  f29 := Tryz.func215.trans (congrArg some (by kernel_rfl))
  f46 := ⟨Tryz.f247.name, by decide, Tryz.func247.trans (congrArg some (by kernel_rfl))⟩
  f47 := Tryz.func248.trans (congrArg some (by kernel_rfl))
  f48 := Tryz.func249.trans (congrArg some (by kernel_rfl))
  f49 := ⟨Tryz.f250.name, by decide, Tryz.func250.trans (congrArg some (by kernel_rfl))⟩
  f50 := ⟨Tryz.f251.name, by decide, Tryz.func251.trans (congrArg some (by kernel_rfl))⟩
  f57 := ⟨Tryz.f268.name, by decide, Tryz.func268.trans (congrArg some (by kernel_rfl))⟩
  t0 := Tryz.underlying0
  a0 := Tryz.isAgg0
  z0 := Tryz.sizeOf0
  v0 := Tryz.zeroValue0
  t3 := Tryz.underlying3
  a3 := Tryz.isAgg3
  z3 := Tryz.sizeOf3
  v3 := Tryz.zeroValue3
  t4 := Tryz.underlying4
  a4 := Tryz.isAgg4
  z4 := Tryz.sizeOf4
  v4 := Tryz.zeroValue4
  t5 := Tryz.underlying5
  a5 := Tryz.isAgg5
  z5 := Tryz.sizeOf5
  v5 := Tryz.zeroValue5
  t9 := Tryz.underlying9
  a9 := Tryz.isAgg9
  z9 := Tryz.sizeOf9
  v9 := Tryz.zeroValue9
  t22 := Tryz.underlying35
  a22 := Tryz.isAgg35
  z22 := Tryz.sizeOf35
  v22 := Tryz.zeroValue35
  t25 := Tryz.underlying160
  a25 := Tryz.isAgg160
  z25 := Tryz.sizeOf160
  v25 := Tryz.zeroValue160
  t39 := Tryz.underlying203
  a39 := Tryz.isAgg203
  z39 := Tryz.sizeOf203
  v39 := Tryz.zeroValue203
  t45 := Tryz.underlying231
  a45 := Tryz.isAgg231
  z45 := Tryz.sizeOf231
  v45 := Tryz.zeroValue231
  t46 := Tryz.underlying232
  a46 := Tryz.isAgg232
  z46 := Tryz.sizeOf232
  v46 := Tryz.zeroValue232
  t50 := Tryz.underlying164
  a50 := Tryz.isAgg164
  z50 := Tryz.sizeOf164
  v50 := Tryz.zeroValue164
  t53 := Tryz.underlying238
  a53 := Tryz.isAgg238
  z53 := Tryz.sizeOf238
  v53 := Tryz.zeroValue238
  t55 := Tryz.underlying240
  a55 := Tryz.isAgg240
  z55 := Tryz.sizeOf240
  v55 := Tryz.zeroValue240
  t66 := Tryz.underlying264
  a66 := Tryz.isAgg264
  z66 := Tryz.sizeOf264
  v66 := Tryz.zeroValue264
  t70 := Tryz.underlying173
  a70 := Tryz.isAgg173
  z70 := Tryz.sizeOf173
  v70 := Tryz.zeroValue173
  t76 := Tryz.underlying278
  a76 := Tryz.isAgg278
  z76 := Tryz.sizeOf278
  v76 := Tryz.zeroValue278
  t77 := Tryz.underlying279
  a77 := Tryz.isAgg279
  z77 := Tryz.sizeOf279
  v77 := Tryz.zeroValue279 }
end Go.Proofs

/-
  The program's comparison of violations.
-/
namespace Go.Proofs.YtnnmlhmffnfjfaaGreat
open Go.RowKit
set_option maxRecDepth 100000
open Pd

set_option maxHeartbeats 1000000 in
theorem cmpv1_any (x y : VoE) (w : World) (hx : RowOk w x.p) (hy : RowOk w y.p) :
    Calls Tryz.prog 169 #[x.val, y.val] w fun e w' => e = .returned (.int .i64 (cmpI x.v.t y.v.t)) ∧ Lay w w' := by
  obtain ⟨⟨k1, t1, key1, i1⟩, A1, n1, c1⟩ := x
  obtain ⟨⟨k2, t2, key2, i2⟩, A2, n2, c2⟩ := y
  have HB : Hid (Lay w ((w.alloc (.cells #[.int .i64 k1, .int .i64 t1, .slice A1 n1 c1, .int .i64 i1] 55)).alloc (.cells #[.int .i64 k2, .int .i64 t2, .slice A2 n2 c2, .int .i64 i2] 55))) := Lib.hid (((Lay.refl _).alloc _).alloc _)
  have HX := Lib.hid (hx.keep (keeps_of HB.out.bel))
  have HY := Lib.hid (hy.keep (keeps_of HB.out.bel))
  clear hx hy
  dsimp only [VoE.val]
  go_enter Tryz.func169, Tryz.ntmps169
  go_wp2_with fail
  refine (cmpInt_any _ _ _).mono ?_
  rintro e w1 ⟨rfl, rfl⟩
  go_wp2
  go_ret
  exact ⟨rfl, HB.out⟩
set_option maxHeartbeats 1000000 in
theorem cmpv2_any (x y : VoE) (w : World) (hx : RowOk w x.p) (hy : RowOk w y.p) :
    Calls Tryz.prog 170 #[x.val, y.val] w fun e w' => e = .returned (.int .i64 (cmpR x.v.key y.v.key)) ∧ Lay w w' := by
  obtain ⟨⟨k1, t1, key1, i1⟩, A1, n1, c1⟩ := x
  obtain ⟨⟨k2, t2, key2, i2⟩, A2, n2, c2⟩ := y
  have HB : Hid (Lay w ((w.alloc (.cells #[.int .i64 k1, .int .i64 t1, .slice A1 n1 c1, .int .i64 i1] 55)).alloc (.cells #[.int .i64 k2, .int .i64 t2, .slice A2 n2 c2, .int .i64 i2] 55))) := Lib.hid (((Lay.refl _).alloc _).alloc _)
  have HX := Lib.hid (hx.keep (keeps_of HB.out.bel))
  have HY := Lib.hid (hy.keep (keeps_of HB.out.bel))
  clear hx hy
  dsimp only [VoE.val]
  go_enter Tryz.func170, Tryz.ntmps170
  go_wp2_with fail
  refine (comprowsL_any A1 A2 n1 n2 c1 c2 key1 key2 _ HX.out.rd HY.out.rd HX.out.lenle HY.out.lenle).mono ?_
  rintro e w1 ⟨rfl, hb1⟩
  have HE := Lib.hid (HB.out.trans hb1)
  go_wp2
  go_ret
  exact ⟨rfl, HE.out⟩
set_option maxHeartbeats 1000000 in
theorem cmpv3_any (x y : VoE) (w : World) (hx : RowOk w x.p) (hy : RowOk w y.p) :
    Calls Tryz.prog 171 #[x.val, y.val] w fun e w' => e = .returned (.int .i64 (cmpI x.v.k y.v.k)) ∧ Lay w w' := by
  obtain ⟨⟨k1, t1, key1, i1⟩, A1, n1, c1⟩ := x
  obtain ⟨⟨k2, t2, key2, i2⟩, A2, n2, c2⟩ := y
  have HB : Hid (Lay w ((w.alloc (.cells #[.int .i64 k1, .int .i64 t1, .slice A1 n1 c1, .int .i64 i1] 55)).alloc (.cells #[.int .i64 k2, .int .i64 t2, .slice A2 n2 c2, .int .i64 i2] 55))) := Lib.hid (((Lay.refl _).alloc _).alloc _)
  have HX := Lib.hid (hx.keep (keeps_of HB.out.bel))
  have HY := Lib.hid (hy.keep (keeps_of HB.out.bel))
  clear hx hy
  dsimp only [VoE.val]
  go_enter Tryz.func171, Tryz.ntmps171
  go_wp2_with fail
  refine (cmpInt_any _ _ _).mono ?_
  rintro e w1 ⟨rfl, rfl⟩
  go_wp2
  go_ret
  exact ⟨rfl, HB.out⟩
set_option maxHeartbeats 1000000 in
theorem cmpv4_any (x y : VoE) (w : World) (hx : RowOk w x.p) (hy : RowOk w y.p) :
    Calls Tryz.prog 172 #[x.val, y.val] w fun e w' => e = .returned (.int .i64 (cmpI x.v.ix y.v.ix)) ∧ Lay w w' := by
  obtain ⟨⟨k1, t1, key1, i1⟩, A1, n1, c1⟩ := x
  obtain ⟨⟨k2, t2, key2, i2⟩, A2, n2, c2⟩ := y
  have HB : Hid (Lay w ((w.alloc (.cells #[.int .i64 k1, .int .i64 t1, .slice A1 n1 c1, .int .i64 i1] 55)).alloc (.cells #[.int .i64 k2, .int .i64 t2, .slice A2 n2 c2, .int .i64 i2] 55))) := Lib.hid (((Lay.refl _).alloc _).alloc _)
  have HX := Lib.hid (hx.keep (keeps_of HB.out.bel))
  have HY := Lib.hid (hy.keep (keeps_of HB.out.bel))
  clear hx hy
  dsimp only [VoE.val]
  go_enter Tryz.func172, Tryz.ntmps172
  go_wp2_with fail
  refine (cmpInt_any _ _ _).mono ?_
  rintro e w1 ⟨rfl, rfl⟩
  go_wp2
  go_ret
  exact ⟨rfl, HB.out⟩
def fldO (x y : Vo) : Nat → Int
  | 0 => cmpI x.t y.t
  | 1 => cmpR x.key y.key
  | 2 => cmpI x.k y.k
  | _ => cmpI x.ix y.ix
theorem cmpO_fld (x y : Vo) : cmpO x y = if fldO x y 0 ≠ 0 then fldO x y 0 else if fldO x y 1 ≠ 0 then fldO x y 1 else if fldO x y 2 ≠ 0 then fldO x y 2 else fldO x y 3 := rfl
theorem fld_ne {x y : Vo} {j : Nat} {v : Int} (hj : j < 4) (h : ∀ q, q < j → fldO x y q = 0) (hv : fldO x y j = v) (h0 : v ≠ 0) : cmpO x y = v := by
  rw [cmpO_fld]
  have : j = 0 ∨ j = 1 ∨ j = 2 ∨ j = 3 := by omega
  rcases this with rfl | rfl | rfl | rfl
  · rw [hv, if_pos h0]
  · rw [h 0 (by omega), hv, if_neg (by simp), if_pos h0]
  · rw [h 0 (by omega), h 1 (by omega), hv, if_neg (by simp), if_neg (by simp), if_pos h0]
  · rw [h 0 (by omega), h 1 (by omega), h 2 (by omega), hv, if_neg (by simp), if_neg (by simp), if_neg (by simp)]
set_option maxHeartbeats 4000000 in
theorem cmpvio_any (x y : VoE) (w : World) (hx : RowOk w x.p) (hy : RowOk w y.p) :
    Calls Tryz.prog 108 #[x.val, y.val] w fun e w' => e = .returned (.int .i64 (cmpO x.v y.v)) ∧ Lay w w' := by
  have HX := Lib.hid hx
  have HY := Lib.hid hy
  clear hx hy
  obtain ⟨r, Hr⟩ : ∃ z, Hid (cmpO x.v y.v = z) := ⟨_, Lib.hid rfl⟩
  rw [Hr.out]
  have Hx := Lib.hid (Blk.new w 55 #[.int .i64 x.v.k, .int .i64 x.v.t, .slice x.A x.n x.c, .int .i64 x.v.ix])
  have Hy := Lib.hid (Blk.new (w.alloc (.cells #[.int .i64 x.v.k, .int .i64 x.v.t, .slice x.A x.n x.c, .int .i64 x.v.ix] 55)) 55 #[.int .i64 y.v.k, .int .i64 y.v.t, .slice y.A y.n y.c, .int .i64 y.v.ix])
  dsimp only [VoE.val]
  go_enter Tryz.func108, Tryz.ntmps108
  go_upto_region 2 with fail
  have Hf := Lib.hid (Blk.new ((w.alloc (.cells #[.int .i64 x.v.k, .int .i64 x.v.t, .slice x.A x.n x.c, .int .i64 x.v.ix] 55)).alloc (.cells #[.int .i64 y.v.k, .int .i64 y.v.t, .slice y.A y.n y.c, .int .i64 y.v.ix] 55)) 160 #[.func (.func 169) #[] #[], .func (.func 170) #[] #[], .func (.func 171) #[] #[], .func (.func 172) #[] #[]])
  replace Hx := Lib.hid ((Hx.out.alloc (.cells #[.int .i64 y.v.k, .int .i64 y.v.t, .slice y.A y.n y.c, .int .i64 y.v.ix] 55)).alloc (.cells #[.func (.func 169) #[] #[], .func (.func 170) #[] #[], .func (.func 171) #[] #[], .func (.func 172) #[] #[]] 160))
  replace Hy := Lib.hid (Hy.out.alloc (.cells #[.func (.func 169) #[] #[], .func (.func 170) #[] #[], .func (.func 171) #[] #[], .func (.func 172) #[] #[]] 160))
  have HB : Hid (Lay w (((w.alloc (.cells #[.int .i64 x.v.k, .int .i64 x.v.t, .slice x.A x.n x.c, .int .i64 x.v.ix] 55)).alloc (.cells #[.int .i64 y.v.k, .int .i64 y.v.t, .slice y.A y.n y.c, .int .i64 y.v.ix] 55)).alloc (.cells #[.func (.func 169) #[] #[], .func (.func 170) #[] #[], .func (.func 171) #[] #[], .func (.func 172) #[] #[]] 160))) := Lib.hid ((((Lay.refl _).alloc _).alloc _).alloc _)
  rw [World.size_alloc] at Hy
  rw [World.size_alloc, World.size_alloc] at Hf
  generalize ((w.alloc (.cells #[.int .i64 x.v.k, .int .i64 x.v.t, .slice x.A x.n x.c, .int .i64 x.v.ix] 55)).alloc (.cells #[.int .i64 y.v.k, .int .i64 y.v.t, .slice y.A y.n y.c, .int .i64 y.v.ix] 55)).alloc (.cells #[.func (.func 169) #[] #[], .func (.func 170) #[] #[], .func (.func 171) #[] #[], .func (.func 172) #[] #[]] 160) = w1 at *
  have zf := Hf.out.cell
  go_wp2_with fail
  go_loopw [12] (fun i wr => ∃ j : Nat, j ≤ 4 ∧ i = .int .i64 (j : Int) ∧ Hid (∀ q, q < j → fldO x.v y.v q = 0) ∧ Hid (Lay w1 wr)) (fun i _ => 4 - (intOf i).toNat)
  case atStart => exact ⟨0, by omega, rfl, Lib.hid (fun q h => absurd h (by omega)), Lib.hid (Lay.refl _)⟩
  case round =>
    obtain ⟨j, hj, rfl, Hq, HBr⟩ := hrel
    clear zf
    have zf := (Hf.out.below HBr.out.bel).cell
    have zx := (Hx.out.below HBr.out.bel).cell
    have zy := (Hy.out.below HBr.out.bel).cell
    have HXr := Lib.hid (HX.out.keep (keeps_of (HB.out.trans HBr.out).bel))
    have HYr := Lib.hid (HY.out.keep (keeps_of (HB.out.trans HBr.out).bel))
    have hj5 : j = 0 ∨ j = 1 ∨ j = 2 ∨ j = 3 ∨ j = 4 := by omega
    rcases hj5 with rfl | rfl | rfl | rfl | rfl
    · go_wp2_with fail
      refine (cmpv1_any x y _ HXr.out HYr.out).mono ?_
      rintro e w2 ⟨rfl, hb2⟩
      have HB2 := Lib.hid (HBr.out.trans hb2)
      obtain ⟨v, Hv⟩ : ∃ z, Hid (cmpI x.v.t y.v.t = z) := ⟨_, Lib.hid rfl⟩
      rw [Hv.out]
      by_cases h0 : v = 0
      · have g : (v != 0) = false := by simp [h0]
        have Hq2 : Hid (∀ q, q < 1 → fldO x.v y.v q = 0) := Lib.hid (fun q hq => by
          rcases Nat.lt_or_ge q 0 with h | h
          · exact Hq.out q h
          · obtain rfl : q = 0 := by omega
            exact Hv.out.trans h0)
        clear h0
        go_wp2
        go_roundw
        case rel => exact ⟨1, by omega, by go_num, Hq2, HB2⟩
        case measure => simp [intOf]
      · have g : (v != 0) = true := by simp [h0]
        have hr : r = v := by rw [← Hr.out]; exact fld_ne (j := 0) (by omega) Hq.out Hv.out h0
        have HE := Lib.hid (HB.out.trans HB2.out)
        subst hr
        clear h0
        go_wp2
        go_ret
        exact ⟨rfl, HE.out⟩
    · go_wp2_with fail
      refine (cmpv2_any x y _ HXr.out HYr.out).mono ?_
      rintro e w2 ⟨rfl, hb2⟩
      have HB2 := Lib.hid (HBr.out.trans hb2)
      obtain ⟨v, Hv⟩ : ∃ z, Hid (cmpR x.v.key y.v.key = z) := ⟨_, Lib.hid rfl⟩
      rw [Hv.out]
      by_cases h0 : v = 0
      · have g : (v != 0) = false := by simp [h0]
        have Hq2 : Hid (∀ q, q < 2 → fldO x.v y.v q = 0) := Lib.hid (fun q hq => by
          rcases Nat.lt_or_ge q 1 with h | h
          · exact Hq.out q h
          · obtain rfl : q = 1 := by omega
            exact Hv.out.trans h0)
        clear h0
        go_wp2
        go_roundw
        case rel => exact ⟨2, by omega, by go_num, Hq2, HB2⟩
        case measure => simp [intOf]
      · have g : (v != 0) = true := by simp [h0]
        have hr : r = v := by rw [← Hr.out]; exact fld_ne (j := 1) (by omega) Hq.out Hv.out h0
        have HE := Lib.hid (HB.out.trans HB2.out)
        subst hr
        clear h0
        go_wp2
        go_ret
        exact ⟨rfl, HE.out⟩
    · go_wp2_with fail
      refine (cmpv3_any x y _ HXr.out HYr.out).mono ?_
      rintro e w2 ⟨rfl, hb2⟩
      have HB2 := Lib.hid (HBr.out.trans hb2)
      obtain ⟨v, Hv⟩ : ∃ z, Hid (cmpI x.v.k y.v.k = z) := ⟨_, Lib.hid rfl⟩
      rw [Hv.out]
      by_cases h0 : v = 0
      · have g : (v != 0) = false := by simp [h0]
        have Hq2 : Hid (∀ q, q < 3 → fldO x.v y.v q = 0) := Lib.hid (fun q hq => by
          rcases Nat.lt_or_ge q 2 with h | h
          · exact Hq.out q h
          · obtain rfl : q = 2 := by omega
            exact Hv.out.trans h0)
        clear h0
        go_wp2
        go_roundw
        case rel => exact ⟨3, by omega, by go_num, Hq2, HB2⟩
        case measure => simp [intOf]
      · have g : (v != 0) = true := by simp [h0]
        have hr : r = v := by rw [← Hr.out]; exact fld_ne (j := 2) (by omega) Hq.out Hv.out h0
        have HE := Lib.hid (HB.out.trans HB2.out)
        subst hr
        clear h0
        go_wp2
        go_ret
        exact ⟨rfl, HE.out⟩
    · go_wp2_with fail
      refine (cmpv4_any x y _ HXr.out HYr.out).mono ?_
      rintro e w2 ⟨rfl, hb2⟩
      have HB2 := Lib.hid (HBr.out.trans hb2)
      obtain ⟨v, Hv⟩ : ∃ z, Hid (cmpI x.v.ix y.v.ix = z) := ⟨_, Lib.hid rfl⟩
      rw [Hv.out]
      by_cases h0 : v = 0
      · have g : (v != 0) = false := by simp [h0]
        have Hq2 : Hid (∀ q, q < 4 → fldO x.v y.v q = 0) := Lib.hid (fun q hq => by
          rcases Nat.lt_or_ge q 3 with h | h
          · exact Hq.out q h
          · obtain rfl : q = 3 := by omega
            exact Hv.out.trans h0)
        clear h0
        go_wp2
        go_roundw
        case rel => exact ⟨4, by omega, by go_num, Hq2, HB2⟩
        case measure => simp [intOf]
      · have g : (v != 0) = true := by simp [h0]
        have hr : r = v := by rw [← Hr.out]; exact fld_ne (j := 3) (by omega) Hq.out Hv.out h0
        have HE := Lib.hid (HB.out.trans HB2.out)
        subst hr
        clear h0
        go_wp2
        go_ret
        exact ⟨rfl, HE.out⟩
    · have hr : r = 0 := by rw [← Hr.out, cmpO_fld, Hq.out 0 (by omega), Hq.out 1 (by omega), Hq.out 2 (by omega), Hq.out 3 (by omega)]; rfl
      have HE := Lib.hid (HB.out.trans HBr.out)
      subst hr
      go_wp2
      go_ret
      exact ⟨rfl, HE.out⟩
end Go.Proofs.YtnnmlhmffnfjfaaGreat
