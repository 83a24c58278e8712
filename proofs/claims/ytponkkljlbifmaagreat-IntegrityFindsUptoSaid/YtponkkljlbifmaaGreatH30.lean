/-
  Texts: IgApl.
-/
import Derived.Test.YtponkkljlbifmaaGreatH29
set_option linter.unusedVariables false
/-
  The program's applied: the list of rows after a valid change.
-/
namespace Go.Proofs.YtponkkljlbifmaaGreat
open Go.RowKit
set_option maxRecDepth 100000
open Pd

/-- a list of rows in a block of its own -/
structure TlW (w : World) (B : Nat) (p : TlP) : Prop where
  ok : TlOk w p
  bl : SlB w 75 B p.1.1 p.1.2.1
  sp : ∀ ad, p.1.1 = some ad → ad.spot = none
theorem TlW.below {w w' : World} {B : Nat} {p : TlP} (h : TlW w B p) (hb : Below w.heap.size w w') : TlW w' B p := ⟨h.ok.keep (keeps_of hb), h.bl.below hb, h.sp⟩
theorem TlW.free {w : World} {B : Nat} {p : TlP} (h : TlW w B p) (hn : 0 < p.1.2.1) : ∀ b o, p.1.1 = some ⟨b, o, none⟩ → ∀ j, w.frozen? ⟨b, j, none⟩ = false := fun b o hA => by
  obtain ⟨b', o', cs, h1, h2, _⟩ := h.bl hn
  rw [hA] at h1
  injection h1 with h1
  injection h1 with h1
  subst h1
  exact h2.free
theorem TlW.at {w : World} {B : Nat} {p : TlP} (h : TlW w B p) (hn : 0 < p.1.2.1) : ∀ b o, p.1.1 = some ⟨b, o, none⟩ → B ≤ b := fun b o hA => by
  obtain ⟨b', o', cs, h1, _, h2⟩ := h.bl hn
  rw [hA] at h1
  injection h1 with h1
  injection h1 with h1
  omega
theorem sl_dropA {w : World} {L : Option Addr} {ln lc : Nat} {ps : List RowP} (h : Sl 1 rowc w L ln ps) (hc : ln ≤ lc) (i : Nat) : Sl 1 rowc w (if lc = i then L else Option.map (fun x => x.add i) L) (ln - i) (ps.drop i) := by
  refine ⟨by rw [List.length_drop, h.len], fun hn => ?_⟩
  obtain ⟨b, o, rfl, hx⟩ := h.2 (by omega)
  rw [if_neg (by omega)]
  refine ⟨b, o + i, by rw [← add_at]; rfl, fun k x hk j u hu => ?_⟩
  rw [List.getElem?_drop] at hk
  have := hx (i + k) x hk j u hu
  rw [show o + i + k * 1 + j = o + (i + k) * 1 + j by omega]
  exact this
def ApplO (T : Tb) (c : Ch) (l : List Rw) (B : Nat) (w : World) (e : Ending) (w' : World) : Prop :=
  ((listC T c l = none ∧ e = .returned (.tuple #[.slice none 0 0, .bool false])) ∨ ∃ p : TlP, listC T c l = some (tlR p) ∧ e = .returned (.tuple #[.slice p.1.1 p.1.2.1 p.1.2.2, .bool true]) ∧ TlW w' B p) ∧ Below w.heap.size w w'
set_option maxHeartbeats 8000000 in
theorem applied_any (ver : Int) (A : Option Addr) (n c : Nat) (tbs : List Tb) (t : Nat) (T : Tb) (L : Option Addr) (ln lc : Nat) (ps : List RowP) (OA : Option Addr) (on oc : Nat) (o : Rw) (NA : Option Addr) (nn nc : Nat) (r : Rw) (w0 w : World)
    (hb : Below w0.heap.size w0 w) (hs : ScS w0 A n tbs) (hg : GoodS ver tbs) (hT : tbs[t]? = some T) (hl : TlW w w0.heap.size ((L, ln, lc), ps)) (hv : rowsB T none (ps.map (·.2)) = true) (ho : RowOk w0 ((OA, on, oc), o)) (hr : RowOk w0 ((NA, nn, nc), r)) (hln : ln ≤ 512) (hnn : nn ≤ 8) :
    Calls Tryz.prog 48 #[.agg #[.int .i64 ver, .slice A n c], .slice L ln lc, .agg #[.int .i64 (t : Int), .slice OA on oc, .slice NA nn nc]] w fun e w' => ApplO T ⟨t, o, r⟩ (ps.map (·.2)) w0.heap.size w e w' := by
  obtain ⟨i0, hi0, hz0, hz1, hz2⟩ := info_parts info_row
  have HB : Hid (Below w.heap.size w ((w.alloc (.cells #[.int .i64 ver, .slice A n c] 30)).alloc (.cells #[.int .i64 (t : Int), .slice OA on oc, .slice NA nn nc] 91))) := Lib.hid (((Below.refl _ _).alloc (Nat.le_refl _) _).alloc (by simp) _)
  have HB0 := Lib.hid (hb.trans (HB.out.mono hb.size))
  have HS0 := Lib.hid hs
  have HS := Lib.hid (hs.keep (keeps_of HB0.out))
  have HO := Lib.hid (ho.keep (keeps_of HB0.out))
  have HR := Lib.hid (hr.keep (keeps_of HB0.out))
  have HL := Lib.hid (hl.below HB.out)
  have HZ := Lib.hid ((Blk.new w 30 #[.int .i64 ver, .slice A n c]).alloc (.cells #[.int .i64 (t : Int), .slice OA on oc, .slice NA nn nc] 91))
  have HY := Lib.hid (Blk.new (w.alloc (.cells #[.int .i64 ver, .slice A n c] 30)) 91 #[.int .i64 (t : Int), .slice OA on oc, .slice NA nn nc])
  rw [World.size_alloc] at HY
  have HG := Lib.hid hg
  have HT := Lib.hid hT
  have HGT := Lib.hid (hg.tb T (List.mem_of_getElem? hT))
  have Hln := Lib.hid hs.len
  have Hol := Lib.hid ho.rd.len
  have Hrl := Lib.hid hr.rd.len
  have Hpl := Lib.hid hl.ok.len
  have HLb : Hid (0 < ln → ∀ b o, L = some ⟨b, o, none⟩ → b < w.heap.size) := Lib.hid (fun hp b o hA => Sl.lt (sz := 1) (cs := rowc) (fun _ => rfl) (by omega) hl.ok.rd.sl hp b o hA)
  have HO0 := Lib.hid ho
  have HR0 := Lib.hid hr
  have hn8 : n ≤ 8 := by have := hg.ln; have := Hln.out; omega
  have HV := Lib.hid hv
  have hlc : ln ≤ lc := hl.ok.le
  have hlx : lc ≤ 9223372036854775807 := hl.ok.mx
  have h0 : 0 ≤ T.key := by have := HGT.out.k1; omega
  clear hs ho hr hg hl hb hT hv
  go_enter Tryz.func48, Tryz.ntmps48
  go_upto_region 1 with fail
  generalize hW : (w.alloc (.cells #[.int .i64 ver, .slice A n c] 30)).alloc (.cells #[.int .i64 (t : Int), .slice OA on oc, .slice NA nn nc] 91) = w1 at *
  have z := HZ.out.cell
  have zy := HY.out.cell
  go_wp2_with fail
  refine (ckey_any ver A n c tbs t T OA on oc o NA nn nc r _ HS.out hn8 HT.out h0 HO.out HR.out).mono ?_
  rintro e w2 ⟨⟨⟨K, kn, kc⟩, key⟩, rfl, hq, hko, hb2⟩
  dsimp only at hq
  have HQ := Lib.hid hq
  have HK := Lib.hid hko
  have HB2 := Lib.hid (Below.next HB.out hb2)
  have HB02 := Lib.hid (HB0.out.trans (hb2.mono HB0.out.size))
  have HL2 := Lib.hid (HL.out.below hb2)
  have HZ2 := Lib.hid (HZ.out.below hb2)
  have HY2 := Lib.hid (HY.out.below hb2)
  clear hq hko hb2 z zy HB HB0 HL HZ HY HS HO HR hW
  go_wp2_with fail
  refine (search_any 75 #[.pointer (some ⟨w.heap.size, 0, none⟩), .pointer (some ⟨w.heap.size + 1, 0, none⟩)] (fun x => cmpR (keyT T x) key) L ln lc ps (.slice K kn kc) _ HL2.out.ok.rd (fun h => HL2.out.free h) (by omega) ent_appcl (fun hp b o' S hA hS hrow x hx => ?_) (fun a b x y hab hx hy hc => ?_)).mono ?_
  · have h1 : w0.heap.size ≤ b := HL2.out.at hp b o' hA
    have h2 : b < w.heap.size := HLb.out hp b o' hA
    exact appcl_any ver A n c tbs t T w.heap.size (w.heap.size + 1) _ _ x.1.1 x.1.2.1 x.1.2.2 x.2 K kn kc key S (HS0.out.keep (keeps_of (hS.below HB02.out HB02.out.size (fun k hk => by omega)))) hn8 HT.out h0 (HZ2.out.but hS (by omega)) (HY2.out.but hS (by omega)) (hrow x hx) (hrow _ HK.out)
  · exact rows_mono HV.out hab (by rw [List.getElem?_map, hx]; rfl) (by rw [List.getElem?_map, hy]; rfl) hc
  rintro e w3 ⟨rfl, hb3⟩
  obtain ⟨i, Hi⟩ : ∃ z, Hid ((ps.map (·.2)).countP (fun r => decide (cmpR (keyT T r) key < 0)) = z) := ⟨_, Lib.hid rfl⟩
  rw [Hi.out]
  have Hi2 : Hid (posT T (ps.map (·.2)) key = i) := Lib.hid Hi.out
  have HB3 : Hid (Below w.heap.size w w3.drew) := Lib.hid (Below.next HB2.out hb3).drew
  have HB03 : Hid (Below w0.heap.size w0 w3.drew) := Lib.hid (HB02.out.trans (hb3.mono HB02.out.size)).drew
  have HL3 : Hid (TlW w3.drew w0.heap.size ((L, ln, lc), ps)) := Lib.hid ⟨(HL2.out.below hb3).ok.keep (Keeps.refl _).drew, (HL2.out.below hb3).bl, HL2.out.sp⟩
  have HY3 : Hid (Blk w3.drew (w.heap.size + 1) 91 #[.int .i64 (t : Int), .slice OA on oc, .slice NA nn nc]) := Lib.hid (HY2.out.below hb3.drew)
  have zy : ∀ i, w3.drew.cell? ⟨w.heap.size + 1, i, none⟩ = (#[.int .i64 (t : Int), .slice OA on oc, .slice NA nn nc] : Array Value)[i]? := HY3.out.cell
  have Hpm : Hid ((ps.map (·.2)).length = ln) := Lib.hid (by rw [List.length_map]; exact HL2.out.ok.rd.sl.len)
  clear hb3 Hi HB2 HB02 HL2 HY2 HZ2 HK
  rcases putRw_pos (k := key) (row := r) (ps.map (·.2)) none HV.out with ⟨x, hx, hc, hgt, hput⟩ | ⟨hne, hgt, hput⟩
  · rw [Hi2.out] at hx hput
    have hf : foundF (fun x => cmpR (keyT T x) key) (ps.map (·.2)) i = true := by unfold foundF; rw [hx]; exact decide_eq_true hc
    rw [hf]
    have hi : i < ln := by have := (List.getElem?_eq_some_iff.1 hx).1; rw [Hpm.out] at this; exact this
    have Hne : Hid (¬ x.length = 0) := Lib.hid (fits_ne (T := T) (by have := HGT.out.k1; have := HGT.out.k2; omega) (rowsB_fit _ none HV.out x (List.mem_of_getElem? hx)))
    have HP := Lib.hid hput
    have HGE := Lib.hid hgt
    obtain ⟨b, o', ⟨⟨X, xn, xc⟩, x'⟩, rfl, c1, hro, hp⟩ := HL3.out.ok.rd.get2 hi
    obtain rfl : x' = x := by rw [List.getElem?_map, hp] at hx; injection hx
    dsimp only at c1
    have HRO := Lib.hid hro
    clear hf hc hgt hput hx hro hp
    by_cases hon : on = 0
    · have g1 : decide (0 < on) = false := by simp [hon]
      have Ho0 : Hid (o = []) := Lib.hid (List.eq_nil_of_length_eq_zero (by have := Hol.out; omega))
      clear hon
      go_wp2_with fail
      generalize hWn : w3.drew = Wn at *
      have hca := @cell_after Wn
      refine wp_region_seg [([0, 1, 2, 3, 4, 5, 6, 7, 8, 9, 10, 11, 12, 13, 14], 15)] [16, 17, 18] (by kernel_rfl) (by kernel_rfl) (fun _ _ d _ _ h => by cases d <;> exact h) ?_
      rw [hWn]
      clear hWn
      simp only [pickSegs, pickOps, opAt, List.map_cons, List.map_nil, List.getElem?_toArray, List.getElem?_cons_zero, List.getElem?_cons_succ, Option.getD_some]
      unfold wpBlocks
      repeat (go_big_quiet_step (fail))
      refine wpQuiet_nil ?_
      clear hca

      have hnone : listC T ⟨t, o, r⟩ (ps.map (·.2)) = none := by
        unfold listC
        rw [← HQ.out, HGE.out, if_neg (fun e => Hne.out (by show x'.length = 0; rw [show x' = o from e, Ho0.out]; rfl))]
      have HE : Hid (ApplO T ⟨t, o, r⟩ (ps.map (·.2)) w0.heap.size w (.returned (.tuple #[.slice none 0 0, .bool false])) Wn) := Lib.hid ⟨.inl ⟨hnone, rfl⟩, HB3.out⟩
      clear hnone

      go_wp2_with fail
      refine ⟨Below.refl _ _, ?_⟩
      unfold wpBlocks
      repeat (go_big_quiet_step (fail))
      refine wpQuiet_nil ?_

      go_wp2
      exact bodyPost_ret (v := .tuple #[.slice none 0 0, .bool false]) (by simp [results, Tryz.results48, go_sem]) rfl HE.out

    · have g1 : decide (0 < on) = true := by simp; omega
      clear hon
      go_wp2_with fail
      generalize hWn : w3.drew = Wn at *
      have hca := @cell_after Wn
      refine wp_region_seg [([0, 1, 2, 3, 4, 5, 6, 7, 8, 9, 10, 11, 12, 13, 14], 15)] [16, 17, 18] (by kernel_rfl) (by kernel_rfl) (fun _ _ d _ _ h => by cases d <;> exact h) ?_
      rw [hWn]
      clear hWn
      simp only [pickSegs, pickOps, opAt, List.map_cons, List.map_nil, List.getElem?_toArray, List.getElem?_cons_zero, List.getElem?_cons_succ, Option.getD_some]
      unfold wpBlocks
      repeat (go_big_quiet_step (fail))
      refine wpQuiet_nil ?_
      clear hca

      go_wp2_with fail
      refine (tequal_any X xn xc x' OA on oc o _ HRO.out (HO0.out.keep (keeps_of HB03.out))).mono ?_
      rintro e w4 ⟨rfl, hb4⟩
      by_cases he : cmpR x' o = 0
      · have Heq : Hid (x' = o) := Lib.hid ((cmpR_zero _ _).1 he)
        rw [decide_eq_true he]
        clear he
        go_wp2_with fail
        refine ⟨hb4, ?_⟩
        unfold wpBlocks
        repeat (go_big_quiet_step (fail))
        refine wpQuiet_nil ?_
        have HB4 := Lib.hid (Below.next HB3.out hb4)
        have HB04 := Lib.hid (HB03.out.trans (hb4.mono HB03.out.size))
        have HL4 := Lib.hid (HL3.out.below hb4)
        have HY4 := Lib.hid (HY3.out.below hb4)
        clear hb4 HB3 HB03 HL3 HY3 c1 zy HRO
        go_wp2_with fail
        have HB5 : Hid (Below w.heap.size w w4.drew) := Lib.hid HB4.out.drew
        have HB05 : Hid (Below w0.heap.size w0 w4.drew) := Lib.hid HB04.out.drew
        have HL5 : Hid (TlW w4.drew w0.heap.size (((some ⟨b, o', none⟩), ln, lc), ps)) := Lib.hid ⟨HL4.out.ok.keep (Keeps.refl _).drew, HL4.out.bl, HL4.out.sp⟩
        have HY5 : Hid (Blk w4.drew (w.heap.size + 1) 91 #[.int .i64 (t : Int), .slice OA on oc, .slice NA nn nc]) := Lib.hid HY4.out
        clear HB4 HB04 HL4 HY4
        generalize hWn : w4.drew = Wd at *
        refine wp_region_seg [] [0, 1, 2, 3, 4, 5, 6, 7, 8] (by kernel_rfl) (by kernel_rfl) (fun _ _ d _ _ h => by cases d <;> exact h) ?_
        rw [hWn]
        clear hWn
        simp only [pickSegs, pickOps, opAt, List.map_cons, List.map_nil, List.getElem?_toArray, List.getElem?_cons_zero, List.getElem?_cons_succ, Option.getD_some]
        unfold wpBlocks
        repeat (go_big_quiet_step (fail))
        refine wpQuiet_nil ?_
        go_upto_region 7 with fail
        obtain ⟨TA, HTA⟩ : ∃ z, Hid ((if lc = i + 1 then some ⟨b, o', none⟩ else some ⟨b, o' + (i + 1), none⟩ : Option Addr) = z) := ⟨_, Lib.hid rfl⟩
        rw [HTA.out]
        have HTail : Hid (Sl 1 rowc Wd TA (ln - (i + 1)) (ps.drop (i + 1))) := Lib.hid (by
          have h := sl_dropA HL5.out.ok.rd.sl hlc (i + 1)
          rw [show Option.map (fun x => x.add (i + 1)) (some (⟨b, o', none⟩ : Addr)) = some ⟨b, o' + (i + 1), none⟩ by rw [← add_at]; rfl, HTA.out] at h
          exact h)
        have HHead : Hid (Sl 1 rowc Wd (some ⟨b, o', none⟩) i (ps.take i)) := Lib.hid (HL5.out.ok.rd.sl.take i (show i ≤ ln by omega))
        have HSB : Hid (SlB Wd 75 w0.heap.size (some ⟨b, o', none⟩) i) := Lib.hid (fun h => HL5.out.bl (show 0 < ln by omega))
        have HN : Hid (((some ⟨b, o', none⟩) : Option Addr) = none → i = 0) := Lib.hid (fun e => by have := (HL5.out.ok.nl e).1; dsimp only at this; omega)
        have HSp : Hid (∀ ad, ((some ⟨b, o', none⟩) : Option Addr) = some ad → ad.spot = none) := Lib.hid HL5.out.sp
        have hsz : w0.heap.size ≤ Wd.heap.size := HB05.out.size
        have zy : ∀ i, Wd.cell? ⟨w.heap.size + 1, i, none⟩ = (#[.int .i64 (t : Int), .slice OA on oc, .slice NA nn nc] : Array Value)[i]? := HY5.out.cell
        by_cases hnn0 : nn = 0
        · have g2 : decide (0 < nn) = false := by simp [hnn0]
          have Hr0 : Hid (r = []) := Lib.hid (List.eq_nil_of_length_eq_zero (by have := Hrl.out; omega))
          clear hnn0
          go_wp2_with (at_builtin; refine wpList_append_cap (cs := rowc) Wd (by rfl) (.tmp 67) (.tmp 68) _ (by rfl) 75 i0 _ 1 24 Tryz.underlying79 hi0 hz0 hz1 hz2 (by rfl) (by omega) (fun _ => rfl) one_row ((some ⟨b, o', none⟩)) i (ps.take i) (by rfl) HHead.out HN.out HSp.out (TA) (ln - (i + 1)) (lc - (i + 1)) (ps.drop (i + 1)) (by rfl) HTail.out w0.heap.size hsz HSB.out (by simp only [maxLen]; omega) (by omega) ?_; intro A2 c2 w9 hsl hnl hsp2 hle hmx hsb hb9; generalize hNN : i + (ln - (i + 1)) = N2 at hsl hnl hle hsb ⊢)
          have HF : Hid (TlW w9 w0.heap.size ((A2, N2, c2), ps.take i ++ ps.drop (i + 1))) := Lib.hid ⟨⟨⟨hsl, fun q hq => ((HL5.out.ok.rd.ok q (by rcases List.mem_append.1 hq with h | h; exact List.mem_of_mem_take h; exact List.mem_of_mem_drop h))).keep (keeps_of hb9)⟩, hnl, hle, hmx⟩, hsb, hsp2⟩
          have HE : Hid (ApplO T ⟨t, o, r⟩ (ps.map (·.2)) w0.heap.size w (.returned (.tuple #[.slice A2 N2 c2, .bool true])) w9) := Lib.hid ⟨.inr ⟨((A2, N2, c2), ps.take i ++ ps.drop (i + 1)), (by unfold listC; rw [← HQ.out, HGE.out, if_pos (by show x' = o; exact Heq.out)]; show some (putRw T key r (ps.map (·.2))) = _; rw [HP.out, Hr0.out]; simp [tlR, newL, List.map_take, List.map_drop]), rfl, HF.out⟩, Below.next HB5.out hb9⟩
          clear hsl hnl hsp2 hle hmx hsb hb9
          go_wp2
          exact bodyPost_ret (v := .tuple #[.slice A2 N2 c2, .bool true]) (by simp [results, Tryz.results48, go_sem]) rfl HE.out
        · have g2 : decide (0 < nn) = true := by simp; omega
          have Hr0 : Hid (¬ r.length = 0) := Lib.hid (by have := Hrl.out; omega)
          clear hnn0
          go_wp2_with fail
          refine (tclone_any NA nn nc r _ (HR0.out.keep (keeps_of HB05.out)) (by omega)).mono ?_
          rintro e w6 ⟨A6, c6, rfl, hown6, hb6⟩
          have HRO6 : Hid (RowOk w6 ((A6, r.length, c6), r)) := Lib.hid hown6.ok
          have HB6 := Lib.hid (Below.next HB5.out hb6)
          have HL6 := Lib.hid (HL5.out.below hb6)
          have HT6 := Lib.hid (HTail.out.keep (keeps_of hb6))
          have HH6 := Lib.hid (HHead.out.keep (keeps_of hb6))
          have HSB6 := Lib.hid (HSB.out.below hb6)
          have hsz6 : w0.heap.size ≤ w6.heap.size := Nat.le_trans hsz hb6.size
          clear hown6 hb6 zy HB5 HL5 HTail HHead HSB HY5 HB05
          have HQ1 : Hid (Below w6.heap.size w6 (w6.alloc (.cells #[.slice A6 r.length c6] 75))) := Lib.hid ((Below.refl _ _).alloc (Nat.le_refl _) _)
          have HNew : Hid (Sl 1 rowc (w6.alloc (.cells #[.slice A6 r.length c6] 75)) (some ⟨w6.heap.size, 0, none⟩) 1 [((A6, r.length, c6), r)]) := Lib.hid ⟨rfl, fun _ => ⟨w6.heap.size, 0, rfl, fun k x hk j u hu => by
            have h1 := (Blk.new w6 75 #[.slice A6 r.length c6]).cell (0 + k * 1 + j)
            have h2 := flat_at (cs := rowc) (sz := 1) (fun _ => rfl) [((A6, r.length, c6), r)] k x j u hk hu
            rw [h1, Nat.zero_add, ← h2, ← Array.getElem?_toList]
            rfl⟩⟩
          go_upto_region 9 with (at_builtin; refine wpList_append_cap (cs := rowc) _ (by rfl) (.tmp 56) (.tmp 60) _ (by rfl) 75 i0 _ 1 24 Tryz.underlying79 hi0 hz0 hz1 hz2 (by rfl) (by omega) (fun _ => rfl) one_row ((some ⟨b, o', none⟩)) i (ps.take i) (by rfl) (HH6.out.keep (keeps_of HQ1.out)) HN.out HSp.out (some ⟨w6.heap.size, 0, none⟩) 1 1 [((A6, r.length, c6), r)] (by rfl) HNew.out w0.heap.size (Nat.le_trans hsz6 HQ1.out.size) (HSB6.out.below HQ1.out) (by simp only [maxLen]; omega) (by omega) ?_; intro A2 c2 w7 hsl hnl hsp2 hle hmx hsb hb9)
          have HH7 : Hid (Sl 1 rowc w7 A2 (i + 1) (ps.take i ++ [((A6, r.length, c6), r)])) := Lib.hid hsl
          have HSB7 := Lib.hid hsb
          have HN7 : Hid (A2 = none → i + 1 = 0) := Lib.hid (fun e => (hnl e).1)
          have HSp7 := Lib.hid hsp2
          have hle7 : i + 1 ≤ c2 := hle
          have HB7 := Lib.hid (Below.next HB6.out (Below.next HQ1.out hb9))
          have HL7 := Lib.hid ((HL6.out.below HQ1.out).below hb9)
          have HT7 := Lib.hid ((HT6.out.keep (keeps_of HQ1.out)).keep (keeps_of hb9))
          have HRO7 := Lib.hid ((HRO6.out.keep (keeps_of HQ1.out)).keep (keeps_of hb9))
          have hsz7 : w0.heap.size ≤ w7.heap.size := Nat.le_trans hsz6 (Nat.le_trans HQ1.out.size hb9.size)
          clear hsl hsb hnl hsp2 hle hb9 HB6 HL6 HT6 HRO6 HQ1 HH6 HSB6 HNew
          go_wp2_with (at_builtin; refine wpList_append_cap (cs := rowc) w7 (by rfl) (.tmp 67) (.tmp 68) _ (by rfl) 75 i0 _ 1 24 Tryz.underlying79 hi0 hz0 hz1 hz2 (by rfl) (by omega) (fun _ => rfl) one_row (A2) (i + 1) (ps.take i ++ [((A6, r.length, c6), r)]) (by rfl) HH7.out HN7.out HSp7.out (TA) (ln - (i + 1)) (lc - (i + 1)) (ps.drop (i + 1)) (by rfl) HT7.out w0.heap.size hsz7 HSB7.out (by simp only [maxLen]; omega) (by omega) ?_; intro A3 c3 w9 hsl hnl hsp2 hle hmx3 hsb hb9; generalize hNN : i + 1 + (ln - (i + 1)) = N2 at hsl hnl hle hsb ⊢)
          have HF : Hid (TlW w9 w0.heap.size ((A3, N2, c3), ps.take i ++ [((A6, r.length, c6), r)] ++ ps.drop (i + 1))) := Lib.hid ⟨⟨⟨hsl, fun q hq => by
            rcases List.mem_append.1 hq with h | h
            · rcases List.mem_append.1 h with h | h
              · exact (HL7.out.ok.rd.ok q (List.mem_of_mem_take h)).keep (keeps_of hb9)
              · rw [List.mem_singleton.1 h]
                exact HRO7.out.keep (keeps_of hb9)
            · exact (HL7.out.ok.rd.ok q (List.mem_of_mem_drop h)).keep (keeps_of hb9)⟩, hnl, hle, hmx3⟩, hsb, hsp2⟩
          have HE : Hid (ApplO T ⟨t, o, r⟩ (ps.map (·.2)) w0.heap.size w (.returned (.tuple #[.slice A3 N2 c3, .bool true])) w9) := Lib.hid ⟨.inr ⟨((A3, N2, c3), ps.take i ++ [((A6, r.length, c6), r)] ++ ps.drop (i + 1)), (by unfold listC; rw [← HQ.out, HGE.out, if_pos (by show x' = o; exact Heq.out)]; show some (putRw T key r (ps.map (·.2))) = _; rw [HP.out]; unfold newL; rw [if_neg Hr0.out]; simp [tlR, List.map_take, List.map_drop]), rfl, HF.out⟩, Below.next HB7.out hb9⟩
          clear hsl hnl hsp2 hle hsb hb9
          go_wp2
          exact bodyPost_ret (v := .tuple #[.slice A3 N2 c3, .bool true]) (by simp [results, Tryz.results48, go_sem]) rfl HE.out

      · rw [decide_eq_false he]
        have hnone : listC T ⟨t, o, r⟩ (ps.map (·.2)) = none := by
          unfold listC
          rw [← HQ.out, HGE.out, if_neg (fun e => he (by rw [show x' = o from e, cmpR_self]))]
        have HE : Hid (ApplO T ⟨t, o, r⟩ (ps.map (·.2)) w0.heap.size w (.returned (.tuple #[.slice none 0 0, .bool false])) w4) := Lib.hid ⟨.inl ⟨hnone, rfl⟩, Below.next HB3.out hb4⟩
        clear hnone

        go_wp2_with fail
        refine ⟨hb4, ?_⟩
        unfold wpBlocks
        repeat (go_big_quiet_step (fail))
        refine wpQuiet_nil ?_
        clear hb4
        go_wp2
        exact bodyPost_ret (v := .tuple #[.slice none 0 0, .bool false]) (by simp [results, Tryz.results48, go_sem]) rfl HE.out

  · rw [Hi2.out] at hne hput
    have hf : foundF (fun x => cmpR (keyT T x) key) (ps.map (·.2)) i = false := by
      unfold foundF
      cases hx : (ps.map (·.2))[i]? with
      | none => rfl
      | some y => exact decide_eq_false (hne y hx)
    rw [hf]
    have hi : i ≤ ln := by have := posT_le (T := T) (k := key) (ps.map (·.2)); rw [Hi2.out, Hpm.out] at this; exact this
    have HP := Lib.hid hput
    have HGE := Lib.hid hgt
    clear hf hgt hput hne
    by_cases hon : on = 0
    · have g1 : decide (0 < on) = false := by simp [hon]
      have Ho0 : Hid (o = []) := Lib.hid (List.eq_nil_of_length_eq_zero (by have := Hol.out; omega))
      clear hon
      go_wp2_with fail
      generalize hWn : w3.drew = Wn at *
      have hca := @cell_after Wn
      refine wp_region_seg [([0, 1, 2, 3, 4, 5, 6, 7, 8, 9, 10, 11, 12, 13, 14], 15)] [16, 17, 18] (by kernel_rfl) (by kernel_rfl) (fun _ _ d _ _ h => by cases d <;> exact h) ?_
      rw [hWn]
      clear hWn
      simp only [pickSegs, pickOps, opAt, List.map_cons, List.map_nil, List.getElem?_toArray, List.getElem?_cons_zero, List.getElem?_cons_succ, Option.getD_some]
      unfold wpBlocks
      repeat (go_big_quiet_step (fail))
      refine wpQuiet_nil ?_
      clear hca

      go_wp2_with fail
      refine ⟨Below.refl _ _, ?_⟩
      unfold wpBlocks
      repeat (go_big_quiet_step (fail))
      refine wpQuiet_nil ?_

      have HB4 := HB3
      have HB04 := HB03
      have HL4 := HL3
      have HY4 := HY3
      clear HB3 HB03 HL3 HY3 zy
      go_wp2_with fail
      have HB5 : Hid (Below w.heap.size w Wn.drew) := Lib.hid HB4.out.drew
      have HB05 : Hid (Below w0.heap.size w0 Wn.drew) := Lib.hid HB04.out.drew
      have HL5 : Hid (TlW Wn.drew w0.heap.size ((L, ln, lc), ps)) := Lib.hid ⟨HL4.out.ok.keep (Keeps.refl _).drew, HL4.out.bl, HL4.out.sp⟩
      have HY5 : Hid (Blk Wn.drew (w.heap.size + 1) 91 #[.int .i64 (t : Int), .slice OA on oc, .slice NA nn nc]) := Lib.hid HY4.out
      clear HB4 HB04 HL4 HY4
      generalize hWn : Wn.drew = Wd at *
      refine wp_region_seg [] [0, 1, 2, 3, 4, 5, 6, 7, 8] (by kernel_rfl) (by kernel_rfl) (fun _ _ d _ _ h => by cases d <;> exact h) ?_
      rw [hWn]
      clear hWn
      simp only [pickSegs, pickOps, opAt, List.map_cons, List.map_nil, List.getElem?_toArray, List.getElem?_cons_zero, List.getElem?_cons_succ, Option.getD_some]
      unfold wpBlocks
      repeat (go_big_quiet_step (fail))
      refine wpQuiet_nil ?_
      go_upto_region 7 with fail
      obtain ⟨TA, HTA⟩ : ∃ z, Hid ((if lc = i then L else Option.map (fun x => x.add i) L : Option Addr) = z) := ⟨_, Lib.hid rfl⟩
      rw [HTA.out]
      have HTail : Hid (Sl 1 rowc Wd TA (ln - i) (ps.drop i)) := Lib.hid (by
        have h := sl_dropA HL5.out.ok.rd.sl hlc i
        rw [HTA.out] at h
        exact h)
      have HHead : Hid (Sl 1 rowc Wd L i (ps.take i)) := Lib.hid (HL5.out.ok.rd.sl.take i (show i ≤ ln by omega))
      have HSB : Hid (SlB Wd 75 w0.heap.size L i) := Lib.hid (fun h => HL5.out.bl (show 0 < ln by omega))
      have HN : Hid ((L : Option Addr) = none → i = 0) := Lib.hid (fun e => by have := (HL5.out.ok.nl e).1; dsimp only at this; omega)
      have HSp : Hid (∀ ad, (L : Option Addr) = some ad → ad.spot = none) := Lib.hid HL5.out.sp
      have hsz : w0.heap.size ≤ Wd.heap.size := HB05.out.size
      have zy : ∀ i, Wd.cell? ⟨w.heap.size + 1, i, none⟩ = (#[.int .i64 (t : Int), .slice OA on oc, .slice NA nn nc] : Array Value)[i]? := HY5.out.cell
      by_cases hnn0 : nn = 0
      · have g2 : decide (0 < nn) = false := by simp [hnn0]
        have Hr0 : Hid (r = []) := Lib.hid (List.eq_nil_of_length_eq_zero (by have := Hrl.out; omega))
        clear hnn0
        go_wp2_with (at_builtin; refine wpList_append_cap (cs := rowc) Wd (by rfl) (.tmp 67) (.tmp 68) _ (by rfl) 75 i0 _ 1 24 Tryz.underlying79 hi0 hz0 hz1 hz2 (by rfl) (by omega) (fun _ => rfl) one_row (L) i (ps.take i) (by rfl) HHead.out HN.out HSp.out (TA) (ln - i) (lc - i) (ps.drop i) (by rfl) HTail.out w0.heap.size hsz HSB.out (by simp only [maxLen]; omega) (by omega) ?_; intro A2 c2 w9 hsl hnl hsp2 hle hmx hsb hb9; generalize hNN : i + (ln - i) = N2 at hsl hnl hle hsb ⊢)
        have HF : Hid (TlW w9 w0.heap.size ((A2, N2, c2), ps.take i ++ ps.drop i)) := Lib.hid ⟨⟨⟨hsl, fun q hq => ((HL5.out.ok.rd.ok q (by rcases List.mem_append.1 hq with h | h; exact List.mem_of_mem_take h; exact List.mem_of_mem_drop h))).keep (keeps_of hb9)⟩, hnl, hle, hmx⟩, hsb, hsp2⟩
        have HE : Hid (ApplO T ⟨t, o, r⟩ (ps.map (·.2)) w0.heap.size w (.returned (.tuple #[.slice A2 N2 c2, .bool true])) w9) := Lib.hid ⟨.inr ⟨((A2, N2, c2), ps.take i ++ ps.drop i), (by unfold listC; rw [← HQ.out, HGE.out, if_pos (by show ([] : Rw) = o; exact Ho0.out.symm)]; show some (putRw T key r (ps.map (·.2))) = _; rw [HP.out, Hr0.out]; simp [tlR, newL]), rfl, HF.out⟩, Below.next HB5.out hb9⟩
        clear hsl hnl hsp2 hle hmx hsb hb9
        go_wp2
        exact bodyPost_ret (v := .tuple #[.slice A2 N2 c2, .bool true]) (by simp [results, Tryz.results48, go_sem]) rfl HE.out
      · have g2 : decide (0 < nn) = true := by simp; omega
        have Hr0 : Hid (¬ r.length = 0) := Lib.hid (by have := Hrl.out; omega)
        clear hnn0
        go_wp2_with fail
        refine (tclone_any NA nn nc r _ (HR0.out.keep (keeps_of HB05.out)) (by omega)).mono ?_
        rintro e w6 ⟨A6, c6, rfl, hown6, hb6⟩
        have HRO6 : Hid (RowOk w6 ((A6, r.length, c6), r)) := Lib.hid hown6.ok
        have HB6 := Lib.hid (Below.next HB5.out hb6)
        have HL6 := Lib.hid (HL5.out.below hb6)
        have HT6 := Lib.hid (HTail.out.keep (keeps_of hb6))
        have HH6 := Lib.hid (HHead.out.keep (keeps_of hb6))
        have HSB6 := Lib.hid (HSB.out.below hb6)
        have hsz6 : w0.heap.size ≤ w6.heap.size := Nat.le_trans hsz hb6.size
        clear hown6 hb6 zy HB5 HL5 HTail HHead HSB HY5 HB05
        have HQ1 : Hid (Below w6.heap.size w6 (w6.alloc (.cells #[.slice A6 r.length c6] 75))) := Lib.hid ((Below.refl _ _).alloc (Nat.le_refl _) _)
        have HNew : Hid (Sl 1 rowc (w6.alloc (.cells #[.slice A6 r.length c6] 75)) (some ⟨w6.heap.size, 0, none⟩) 1 [((A6, r.length, c6), r)]) := Lib.hid ⟨rfl, fun _ => ⟨w6.heap.size, 0, rfl, fun k x hk j u hu => by
          have h1 := (Blk.new w6 75 #[.slice A6 r.length c6]).cell (0 + k * 1 + j)
          have h2 := flat_at (cs := rowc) (sz := 1) (fun _ => rfl) [((A6, r.length, c6), r)] k x j u hk hu
          rw [h1, Nat.zero_add, ← h2, ← Array.getElem?_toList]
          rfl⟩⟩
        go_upto_region 9 with (at_builtin; refine wpList_append_cap (cs := rowc) _ (by rfl) (.tmp 56) (.tmp 60) _ (by rfl) 75 i0 _ 1 24 Tryz.underlying79 hi0 hz0 hz1 hz2 (by rfl) (by omega) (fun _ => rfl) one_row (L) i (ps.take i) (by rfl) (HH6.out.keep (keeps_of HQ1.out)) HN.out HSp.out (some ⟨w6.heap.size, 0, none⟩) 1 1 [((A6, r.length, c6), r)] (by rfl) HNew.out w0.heap.size (Nat.le_trans hsz6 HQ1.out.size) (HSB6.out.below HQ1.out) (by simp only [maxLen]; omega) (by omega) ?_; intro A2 c2 w7 hsl hnl hsp2 hle hmx hsb hb9)
        have HH7 : Hid (Sl 1 rowc w7 A2 (i + 1) (ps.take i ++ [((A6, r.length, c6), r)])) := Lib.hid hsl
        have HSB7 := Lib.hid hsb
        have HN7 : Hid (A2 = none → i + 1 = 0) := Lib.hid (fun e => (hnl e).1)
        have HSp7 := Lib.hid hsp2
        have hle7 : i + 1 ≤ c2 := hle
        have HB7 := Lib.hid (Below.next HB6.out (Below.next HQ1.out hb9))
        have HL7 := Lib.hid ((HL6.out.below HQ1.out).below hb9)
        have HT7 := Lib.hid ((HT6.out.keep (keeps_of HQ1.out)).keep (keeps_of hb9))
        have HRO7 := Lib.hid ((HRO6.out.keep (keeps_of HQ1.out)).keep (keeps_of hb9))
        have hsz7 : w0.heap.size ≤ w7.heap.size := Nat.le_trans hsz6 (Nat.le_trans HQ1.out.size hb9.size)
        clear hsl hsb hnl hsp2 hle hb9 HB6 HL6 HT6 HRO6 HQ1 HH6 HSB6 HNew
        go_wp2_with (at_builtin; refine wpList_append_cap (cs := rowc) w7 (by rfl) (.tmp 67) (.tmp 68) _ (by rfl) 75 i0 _ 1 24 Tryz.underlying79 hi0 hz0 hz1 hz2 (by rfl) (by omega) (fun _ => rfl) one_row (A2) (i + 1) (ps.take i ++ [((A6, r.length, c6), r)]) (by rfl) HH7.out HN7.out HSp7.out (TA) (ln - i) (lc - i) (ps.drop i) (by rfl) HT7.out w0.heap.size hsz7 HSB7.out (by simp only [maxLen]; omega) (by omega) ?_; intro A3 c3 w9 hsl hnl hsp2 hle hmx3 hsb hb9; generalize hNN : i + 1 + (ln - i) = N2 at hsl hnl hle hsb ⊢)
        have HF : Hid (TlW w9 w0.heap.size ((A3, N2, c3), ps.take i ++ [((A6, r.length, c6), r)] ++ ps.drop i)) := Lib.hid ⟨⟨⟨hsl, fun q hq => by
          rcases List.mem_append.1 hq with h | h
          · rcases List.mem_append.1 h with h | h
            · exact (HL7.out.ok.rd.ok q (List.mem_of_mem_take h)).keep (keeps_of hb9)
            · rw [List.mem_singleton.1 h]
              exact HRO7.out.keep (keeps_of hb9)
          · exact (HL7.out.ok.rd.ok q (List.mem_of_mem_drop h)).keep (keeps_of hb9)⟩, hnl, hle, hmx3⟩, hsb, hsp2⟩
        have HE : Hid (ApplO T ⟨t, o, r⟩ (ps.map (·.2)) w0.heap.size w (.returned (.tuple #[.slice A3 N2 c3, .bool true])) w9) := Lib.hid ⟨.inr ⟨((A3, N2, c3), ps.take i ++ [((A6, r.length, c6), r)] ++ ps.drop i), (by unfold listC; rw [← HQ.out, HGE.out, if_pos (by show ([] : Rw) = o; exact Ho0.out.symm)]; show some (putRw T key r (ps.map (·.2))) = _; rw [HP.out]; unfold newL; rw [if_neg Hr0.out]; simp [tlR, List.map_take, List.map_drop]), rfl, HF.out⟩, Below.next HB7.out hb9⟩
        clear hsl hnl hsp2 hle hsb hb9
        go_wp2
        exact bodyPost_ret (v := .tuple #[.slice A3 N2 c3, .bool true]) (by simp [results, Tryz.results48, go_sem]) rfl HE.out

    · have g1 : decide (0 < on) = true := by simp; omega
      have Ho0 : Hid (¬ o = []) := Lib.hid (fun e => by have := Hol.out; rw [e] at this; simp at this; omega)
      clear hon
      go_wp2_with fail
      generalize hWn : w3.drew = Wn at *
      have hca := @cell_after Wn
      refine wp_region_seg [([0, 1, 2, 3, 4, 5, 6, 7, 8, 9, 10, 11, 12, 13, 14], 15)] [16, 17, 18] (by kernel_rfl) (by kernel_rfl) (fun _ _ d _ _ h => by cases d <;> exact h) ?_
      rw [hWn]
      clear hWn
      simp only [pickSegs, pickOps, opAt, List.map_cons, List.map_nil, List.getElem?_toArray, List.getElem?_cons_zero, List.getElem?_cons_succ, Option.getD_some]
      unfold wpBlocks
      repeat (go_big_quiet_step (fail))
      refine wpQuiet_nil ?_
      clear hca

      have hnone : listC T ⟨t, o, r⟩ (ps.map (·.2)) = none := by
        unfold listC
        rw [← HQ.out, HGE.out, if_neg (fun e => Ho0.out e.symm)]
      have HE : Hid (ApplO T ⟨t, o, r⟩ (ps.map (·.2)) w0.heap.size w (.returned (.tuple #[.slice none 0 0, .bool false])) Wn) := Lib.hid ⟨.inl ⟨hnone, rfl⟩, HB3.out⟩
      clear hnone

      go_wp2_with fail
      refine ⟨Below.refl _ _, ?_⟩
      unfold wpBlocks
      repeat (go_big_quiet_step (fail))
      refine wpQuiet_nil ?_

      go_wp2
      exact bodyPost_ret (v := .tuple #[.slice none 0 0, .bool false]) (by simp [results, Tryz.results48, go_sem]) rfl HE.out
end Go.Proofs.YtponkkljlbifmaaGreat
