/-
  Texts: IgRWr, IgF, IgRkP, IgRCells.
-/
import Derived.Test.YtponkkljlbifmaaGreatG42
set_option linter.unusedVariables false
/-
  The reference's written and removed: is a key among those of the changes' rows?
-/
namespace Go.Proofs.YtponkkljlbifmaaGreat
open Go.RowKit
set_option maxRecDepth 100000
open Pd

def anyK (T : Tb) (sel : Ch → Rw) (t : Int) (key : Rw) (cs : List Ch) : Bool := cs.any fun c => decide (c.t = t) && decide (0 < (sel c).length) && decide (cmpR (keyT T (sel c)) key = 0)
theorem memK_any {tbs : List Tb} {T : Tb} {sel : Ch → Rw} {t : Nat} {key : Rw} {cs : List Ch} (hT : tbs[t]? = some T) : memK tbs sel cs (t : Int) key = anyK T sel (t : Int) key cs := by
  unfold memK
  rw [Int.toNat_natCast, hT]
  rfl
set_option maxHeartbeats 4000000 in
theorem written_any (ver : Int) (A : Option Addr) (n c : Nat) (tbs : List Tb) (C : Option Addr) (cn cc : Nat) (es : List ChE) (t : Nat) (T : Tb) (K : Option Addr) (kn kc : Nat) (key : Rw) (w : World) (hs : ScS w A n tbs) (hn : n ≤ 8) (hT : tbs[t]? = some T) (h0 : 0 ≤ T.key) (h8 : T.key ≤ 8) (hch : ChsS w C cn es) (hcn : cn ≤ 1000000) (hk : RowOk w ((K, kn, kc), key)) :
    Calls Tryz.prog 42 #[.agg #[.int .i64 ver, .slice A n c], .slice C cn cc, .int .i64 (t : Int), .slice K kn kc] w fun e w' => e = .returned (.bool (memK tbs Ch.n (es.map (·.c)) (t : Int) key)) ∧ Below w.heap.size w w' := by
  rw [memK_any hT]
  obtain ⟨rr, Hrr⟩ : ∃ z, Hid (anyK T Ch.n (t : Int) key (es.map (·.c)) = z) := ⟨_, Lib.hid rfl⟩
  rw [Hrr.out]
  have HB : Hid (Below w.heap.size w (w.alloc (.cells #[.int .i64 ver, .slice A n c] 30))) := Lib.hid ((Below.refl _ _).alloc (Nat.le_refl _) _)
  have HS := Lib.hid (hs.keep (keeps_of HB.out))
  have HCH := Lib.hid (hch.keep (keeps_of HB.out))
  have HK := Lib.hid (hk.keep (keeps_of HB.out))
  have HZ := Lib.hid (Blk.new w 30 #[.int .i64 ver, .slice A n c])
  have HT := Lib.hid hT
  have Hq : Hid (anyK T Ch.n (t : Int) key ((es.map (·.c)).drop 0) = rr) := Lib.hid Hrr.out
  clear hs hch hk hT
  go_enter Tryz.func42, Tryz.ntmps42
  go_upto_region 1 with fail
  generalize hW : w.alloc (.cells #[.int .i64 ver, .slice A n c] 30) = w1 at *
  clear hW
  have HB1 : Hid (Below w1.heap.size w1 w1) := Lib.hid (Below.refl _ _)
  go_wp2_with fail
  go_loopw [13] (fun i wr => ∃ k : Nat, k ≤ cn ∧ i = .int .i64 (k : Int) ∧ Hid (anyK T Ch.n (t : Int) key ((es.map (·.c)).drop k) = rr) ∧ Hid (Below w1.heap.size w1 wr)) (fun i _ => cn - (intOf i).toNat)
  case atStart => exact ⟨0, by omega, rfl, Hq, HB1⟩
  case round =>
    clear Hq HB1
    obtain ⟨k, hk, rfl, Hq, HBr⟩ := hrel
    by_cases hkn : k < cn
    · obtain ⟨b2, o2, ⟨⟨ct, o, r⟩, ⟨OA, on, oc⟩, ⟨NA, nn, nc⟩⟩, rfl, he, hok, c0, c1, c2⟩ := (HCH.out.keep (keeps_of HBr.out)).at hkn
      dsimp only at c0 c1 c2
      have hdr : (es.map (·.c)).drop k = ⟨ct, o, r⟩ :: (es.map (·.c)).drop (k + 1) := drop_at' (by rw [List.getElem?_map, he]; rfl)
      have hrl : r.length = nn := hok.n.rd.len
      obtain ⟨rest, Hrest⟩ : ∃ z, Hid (anyK T Ch.n (t : Int) key ((es.map (·.c)).drop (k + 1)) = z) := ⟨_, Lib.hid rfl⟩
      have Hq2 : Hid ((decide (ct = (t : Int)) && decide (0 < nn) && decide (cmpR (keyT T r) key = 0) || rest) = rr) := Lib.hid (by
        rw [← Hq.out, hdr, ← Hrest.out, ← hrl]
        rfl)
      have hal : Below wr.heap.size wr (wr.alloc (.cells #[.int .i64 ct, .slice OA on oc, .slice NA nn nc] 91)) := (Below.refl _ _).alloc (Nat.le_refl _) _
      have HX := Lib.hid (Blk.new wr 91 #[.int .i64 ct, .slice OA on oc, .slice NA nn nc])
      have HR2 := Lib.hid (hok.n.keep (keeps_of hal))
      have HB2 := Lib.hid (Below.next HBr.out hal)
      dsimp only at HR2
      obtain ⟨Y, HYY⟩ : ∃ z, Hid (wr.heap.size = z) := ⟨_, Lib.hid rfl⟩
      rw [HYY.out] at HX
      clear he hok hdr hal hrl Hq HBr
      go_upto_region 4 with fail
      rw [HYY.out]
      clear c0 c1 c2 HYY
      generalize wr.alloc (.cells #[.int .i64 ct, .slice OA on oc, .slice NA nn nc] 91) = wy at *
      have z := (HZ.out.below HB2.out).cell
      have zy := HX.out.cell
      by_cases hct : ct = (t : Int)
      · have g1 : (ct == (t : Int)) = true := by simp [hct]
        rw [decide_eq_true hct, Bool.true_and] at Hq2
        subst hct
        by_cases hnn : 0 < nn
        · have g2 : decide (0 < nn) = true := by simp [hnn]
          rw [decide_eq_true hnn, Bool.true_and] at Hq2
          clear hnn
          go_wp2_with fail
          refine (rkey_any ver A n c tbs t T NA nn nc r _ (HS.out.keep (keeps_of HB2.out)) hn HT.out h0 h8 HR2.out).mono ?_
          rintro e w3 ⟨QA, qc, rfl, hqo, hb3⟩
          have HB3 := Lib.hid (Below.next HB2.out hb3)
          have HQ := Lib.hid hqo.ok
          clear hb3 hqo HB2 HR2 HX z zy
          go_wp2_with fail
          refine (rcomp_rw QA _ qc (keyT T r) K kn kc key _ HQ.out (HK.out.keep (keeps_of HB3.out))).mono ?_
          rintro e w4 ⟨rfl, hb4⟩
          have HB4 := Lib.hid (Below.next HB3.out hb4)
          clear hb4 HB3 HQ
          by_cases hc : cmpR (keyT T r) key = 0
          · rw [decide_eq_true hc, Bool.true_or] at Hq2
            have hr := Hq2.out
            subst hr
            rw [hc]
            have HE : Hid (Below w.heap.size w w4) := Lib.hid (HB.out.trans (HB4.out.mono HB.out.size))
            clear hc
            go_wp2
            go_ret
            exact ⟨rfl, HE.out⟩
          · rw [decide_eq_false hc, Bool.false_or] at Hq2
            have g3 : (cmpR (keyT T r) key == 0) = false := by simp [hc]
            generalize cmpR (keyT T r) key = cc at *
            have Hq3 := Lib.hid (Hrest.out.trans Hq2.out)
            clear hc Hq2 Hrest
            go_wp2
            go_roundw
            case rel => exact ⟨k + 1, by omega, by go_num, Hq3, HB4⟩
            case measure => simp [intOf]; omega
        · have g2 : decide (0 < nn) = false := by simp; omega
          rw [decide_eq_false hnn, Bool.false_and, Bool.false_or] at Hq2
          have Hq3 := Lib.hid (Hrest.out.trans Hq2.out)
          clear hnn Hq2 Hrest
          go_wp2
          go_roundw
          case rel => exact ⟨k + 1, by omega, by go_num, Hq3, HB2⟩
          case measure => simp [intOf]; omega
      · have g1 : (ct == (t : Int)) = false := by simp [hct]
        rw [decide_eq_false hct, Bool.false_and, Bool.false_and, Bool.false_or] at Hq2
        have Hq3 := Lib.hid (Hrest.out.trans Hq2.out)
        clear hct Hq2 Hrest
        go_wp2
        go_roundw
        case rel => exact ⟨k + 1, by omega, by go_num, Hq3, HB2⟩
        case measure => simp [intOf]; omega
    · obtain rfl : k = cn := by omega
      have hr : false = rr := by
        rw [← Hq.out, List.drop_of_length_le (by rw [List.length_map, HCH.out.sl.len]; exact Nat.le_refl _)]
        rfl
      subst hr
      have HE : Hid (Below w.heap.size w wr) := Lib.hid (HB.out.trans (HBr.out.mono HB.out.size))
      go_wp2
      go_ret
      exact ⟨rfl, HE.out⟩
set_option maxHeartbeats 4000000 in
theorem removed_any (ver : Int) (A : Option Addr) (n c : Nat) (tbs : List Tb) (B : Option Addr) (m cb : Nat) (ls : List TlP) (pl : TlP) (C : Option Addr) (cn cc : Nat) (es : List ChE) (t : Nat) (T : Tb) (K : Option Addr) (kn kc : Nat) (key : Rw) (w : World) (hs : ScS w A n tbs) (hn : n ≤ 8) (hT : tbs[t]? = some T) (h0 : 0 ≤ T.key) (h8 : T.key ≤ 8) (hst : StS w B m ls) (hl : ls[t]? = some pl) (hl8 : ∀ r ∈ tlR pl, r.length ≤ 1000) (hch : ChsS w C cn es) (hcn : cn ≤ 1000000) (hk : RowOk w ((K, kn, kc), key)) :
    Calls Tryz.prog 43 #[.agg #[.int .i64 ver, .slice A n c], .agg #[.slice B m cb], .slice C cn cc, .int .i64 (t : Int), .slice K kn kc] w fun e w' => e = .returned (.bool (!(getT T (tlR pl) key).isSome && memK tbs Ch.o (es.map (·.c)) (t : Int) key)) ∧ Below w.heap.size w w' := by
  rw [memK_any hT]
  obtain ⟨rr, Hrr⟩ : ∃ z, Hid (anyK T Ch.o (t : Int) key (es.map (·.c)) = z) := ⟨_, Lib.hid rfl⟩
  rw [Hrr.out]
  have HB0 : Hid (Below w.heap.size w ((w.alloc (.cells #[.int .i64 ver, .slice A n c] 30)).alloc (.cells #[.slice B m cb] 25))) := Lib.hid (((Below.refl _ _).alloc (Nat.le_refl _) _).alloc (by simp) _)
  have HS0 := Lib.hid (hs.keep (keeps_of HB0.out))
  have HCH0 := Lib.hid (hch.keep (keeps_of HB0.out))
  have HST := Lib.hid (hst.keep (keeps_of HB0.out))
  have HK0 := Lib.hid (hk.keep (keeps_of HB0.out))
  have HZ0 := Lib.hid ((Blk.new w 30 #[.int .i64 ver, .slice A n c]).alloc (.cells #[.slice B m cb] 25))
  have HY := Lib.hid (Blk.new (w.alloc (.cells #[.int .i64 ver, .slice A n c] 30)) 25 #[.slice B m cb])
  rw [World.size_alloc] at HY
  have HT := Lib.hid hT
  have Hq : Hid (anyK T Ch.o (t : Int) key ((es.map (·.c)).drop 0) = rr) := Lib.hid Hrr.out
  obtain ⟨gb, Hgb⟩ : ∃ z, Hid ((getT T (tlR pl) key).isSome = z) := ⟨_, Lib.hid rfl⟩
  rw [Hgb.out]
  have Hl := Lib.hid hl
  have Hl8 := Lib.hid hl8
  clear hs hch hk hT hst hl hl8
  go_enter Tryz.func43, Tryz.ntmps43
  go_upto_region 1 with fail
  generalize hW : (w.alloc (.cells #[.int .i64 ver, .slice A n c] 30)).alloc (.cells #[.slice B m cb] 25) = w0 at *
  clear hW
  have z := HZ0.out.cell
  have zy := HY.out.cell
  go_wp2_with fail
  refine (rget_any ver A n c tbs B m cb ls t T pl K kn kc key _ HS0.out hn HT.out h0 h8 HST.out Hl.out HK0.out Hl8.out).mono ?_
  rintro e w1 ⟨hgo, hb1⟩
  have HB := Lib.hid (HB0.out.trans (hb1.mono HB0.out.size))
  have HS := Lib.hid (HS0.out.keep (keeps_of hb1))
  have HCH := Lib.hid (HCH0.out.keep (keeps_of hb1))
  have HK := Lib.hid (HK0.out.keep (keeps_of hb1))
  have HZ := Lib.hid (HZ0.out.below hb1)
  clear hb1 z zy HB0 HS0 HCH0 HK0 HZ0 HY HST
  rcases hgo with ⟨y, YA, yc, rfl, hy, _⟩ | ⟨rfl, hy⟩
  · have hgb : true = gb := by rw [← Hgb.out, hy]; rfl
    subst hgb
    clear hy
    go_wp2
    go_ret
    exact ⟨rfl, HB.out⟩
  · have hgb : false = gb := by rw [← Hgb.out, hy]; rfl
    subst hgb
    clear hy
    have HB1 : Hid (Below w1.heap.size w1 w1) := Lib.hid (Below.refl _ _)
    go_wp2_with fail
    go_loopw [26] (fun i wr => ∃ k : Nat, k ≤ cn ∧ i = .int .i64 (k : Int) ∧ Hid (anyK T Ch.o (t : Int) key ((es.map (·.c)).drop k) = rr) ∧ Hid (Below w1.heap.size w1 wr)) (fun i _ => cn - (intOf i).toNat)
    case atStart => exact ⟨0, by omega, rfl, Hq, HB1⟩
    case round =>
      clear Hq HB1
      obtain ⟨k, hk, rfl, Hq, HBr⟩ := hrel
      by_cases hkn : k < cn
      · obtain ⟨b2, o2, ⟨⟨ct, o, r⟩, ⟨OA, on, oc⟩, ⟨NA, nn, nc⟩⟩, rfl, he, hok, c0, c1, c2⟩ := (HCH.out.keep (keeps_of HBr.out)).at hkn
        dsimp only at c0 c1 c2
        have hdr : (es.map (·.c)).drop k = ⟨ct, o, r⟩ :: (es.map (·.c)).drop (k + 1) := drop_at' (by rw [List.getElem?_map, he]; rfl)
        have hrl : o.length = on := hok.o.rd.len
        obtain ⟨rest, Hrest⟩ : ∃ z, Hid (anyK T Ch.o (t : Int) key ((es.map (·.c)).drop (k + 1)) = z) := ⟨_, Lib.hid rfl⟩
        have Hq2 : Hid ((decide (ct = (t : Int)) && decide (0 < on) && decide (cmpR (keyT T o) key = 0) || rest) = rr) := Lib.hid (by
          rw [← Hq.out, hdr, ← Hrest.out, ← hrl]
          rfl)
        have hal : Below wr.heap.size wr (wr.alloc (.cells #[.int .i64 ct, .slice OA on oc, .slice NA nn nc] 91)) := (Below.refl _ _).alloc (Nat.le_refl _) _
        have HX := Lib.hid (Blk.new wr 91 #[.int .i64 ct, .slice OA on oc, .slice NA nn nc])
        have HR2 := Lib.hid (hok.o.keep (keeps_of hal))
        have HB2 := Lib.hid (Below.next HBr.out hal)
        dsimp only at HR2
        obtain ⟨Y, HYY⟩ : ∃ z, Hid (wr.heap.size = z) := ⟨_, Lib.hid rfl⟩
        rw [HYY.out] at HX
        clear he hok hdr hal hrl Hq HBr
        go_upto_region 7 with fail
        rw [HYY.out]
        clear c0 c1 c2 HYY
        generalize wr.alloc (.cells #[.int .i64 ct, .slice OA on oc, .slice NA nn nc] 91) = wy at *
        have z := (HZ.out.below HB2.out).cell
        have zy := HX.out.cell
        by_cases hct : ct = (t : Int)
        · have g1 : (ct == (t : Int)) = true := by simp [hct]
          rw [decide_eq_true hct, Bool.true_and] at Hq2
          subst hct
          by_cases hnn : 0 < on
          · have g2 : decide (0 < on) = true := by simp [hnn]
            rw [decide_eq_true hnn, Bool.true_and] at Hq2
            clear hnn
            go_wp2_with fail
            refine (rkey_any ver A n c tbs t T OA on oc o _ (HS.out.keep (keeps_of HB2.out)) hn HT.out h0 h8 HR2.out).mono ?_
            rintro e w3 ⟨QA, qc, rfl, hqo, hb3⟩
            have HB3 := Lib.hid (Below.next HB2.out hb3)
            have HQ := Lib.hid hqo.ok
            clear hb3 hqo HB2 HR2 HX z zy
            go_wp2_with fail
            refine (rcomp_rw QA _ qc (keyT T o) K kn kc key _ HQ.out (HK.out.keep (keeps_of HB3.out))).mono ?_
            rintro e w4 ⟨rfl, hb4⟩
            have HB4 := Lib.hid (Below.next HB3.out hb4)
            clear hb4 HB3 HQ
            by_cases hc : cmpR (keyT T o) key = 0
            · rw [decide_eq_true hc, Bool.true_or] at Hq2
              have hr := Hq2.out
              subst hr
              rw [hc]
              have HE : Hid (Below w.heap.size w w4) := Lib.hid (HB.out.trans (HB4.out.mono HB.out.size))
              clear hc
              go_wp2
              go_ret
              exact ⟨rfl, HE.out⟩
            · rw [decide_eq_false hc, Bool.false_or] at Hq2
              have g3 : (cmpR (keyT T o) key == 0) = false := by simp [hc]
              generalize cmpR (keyT T o) key = cc at *
              have Hq3 := Lib.hid (Hrest.out.trans Hq2.out)
              clear hc Hq2 Hrest
              go_wp2
              go_roundw
              case rel => exact ⟨k + 1, by omega, by go_num, Hq3, HB4⟩
              case measure => simp [intOf]; omega
          · have g2 : decide (0 < on) = false := by simp; omega
            rw [decide_eq_false hnn, Bool.false_and, Bool.false_or] at Hq2
            have Hq3 := Lib.hid (Hrest.out.trans Hq2.out)
            clear hnn Hq2 Hrest
            go_wp2
            go_roundw
            case rel => exact ⟨k + 1, by omega, by go_num, Hq3, HB2⟩
            case measure => simp [intOf]; omega
        · have g1 : (ct == (t : Int)) = false := by simp [hct]
          rw [decide_eq_false hct, Bool.false_and, Bool.false_and, Bool.false_or] at Hq2
          have Hq3 := Lib.hid (Hrest.out.trans Hq2.out)
          clear hct Hq2 Hrest
          go_wp2
          go_roundw
          case rel => exact ⟨k + 1, by omega, by go_num, Hq3, HB2⟩
          case measure => simp [intOf]; omega
      · obtain rfl : k = cn := by omega
        have hr : false = rr := by
          rw [← Hq.out, List.drop_of_length_le (by rw [List.length_map, HCH.out.sl.len]; exact Nat.le_refl _)]
          rfl
        subst hr
        have HE : Hid (Below w.heap.size w wr) := Lib.hid (HB.out.trans (HBr.out.mono HB.out.size))
        go_wp2
        go_ret
        exact ⟨rfl, HE.out⟩
end Go.Proofs.YtponkkljlbifmaaGreat

/-
  Plain mathematics: the violations that changes may have caused, as those of all that are kept. No program here.
-/
namespace Go.Proofs.YtponkkljlbifmaaGreat
open Go.RowKit
set_option maxRecDepth 100000
open Pd

section
variable {hit : Bool} {wr rm rm' gt : Int → Rw → Bool} {t : Int} {key r : Rw} {T : Tb} {keep : Vo → Bool}
theorem vRefs_filter : ∀ (l : List Rf) (i : Int), (∀ (j : Nat) (x : Rf), l[j]? = some x → gt x.t (cellsR r x.cols) = false → keep ⟨1, t, key, i + j⟩ = (hit || rm x.t (cellsR r x.cols))) →
    (vRefs true rm' gt t key r i l).filter keep = vRefs hit rm gt t key r i l
  | [], _, _ => rfl
  | x :: l, i, h => by
    have h0 := h 0 x rfl
    have ih := vRefs_filter l (i + 1) (fun j y hj hy => by have := h (j + 1) y hj hy; rw [← this]; congr 2; omega)
    simp only [vRefs, List.filter_append, ih]
    congr 1
    cases hg : gt x.t (cellsR r x.cols)
    · have h0 := h0 hg
      simp at h0
      cases hk : (hit || rm x.t (cellsR r x.cols)) <;> rw [hk] at h0 <;> simp_all
    · simp
theorem vChks_filter : ∀ (l : List Pd) (i : Int), (∀ (j : Nat) (x : Pd), l[j]? = some x → keep ⟨2, t, key, i + j⟩ = hit) → (vChks true t key r i l).filter keep = vChks hit t key r i l
  | [], _, _ => rfl
  | x :: l, i, h => by
    have h0 := h 0 x rfl
    have ih := vChks_filter l (i + 1) (fun j y hj => by have := h (j + 1) y hj; rw [← this]; congr 2; omega)
    simp only [vChks, List.filter_append, ih]
    congr 1
    simp at h0
    cases hh : holdsB r [] x <;> cases hit <;> simp_all
theorem vRow_filter (h1 : ∀ (j : Nat) (x : Rf), T.refs[j]? = some x → gt x.t (cellsR r x.cols) = false → keep ⟨1, t, keyT T r, (j : Int)⟩ = (wr t (keyT T r) || rm x.t (cellsR r x.cols)))
    (h2 : ∀ (j : Nat) (x : Pd), T.chks[j]? = some x → keep ⟨2, t, keyT T r, (j : Int)⟩ = wr t (keyT T r)) : (vRow (fun _ _ => true) rm' gt t T r).filter keep = vRow wr rm gt t T r := by
  unfold vRow
  rw [List.filter_append, vRefs_filter (hit := wr t (keyT T r)) (rm := rm) T.refs 0 (fun j x hj hx => by rw [Int.zero_add]; exact h1 j x hj hx), vChks_filter (hit := wr t (keyT T r)) T.chks 0 (fun j x hj => by rw [Int.zero_add]; exact h2 j x hj)]
theorem vRows_filter : ∀ (l : List Rw), (∀ r ∈ l, (∀ (j : Nat) (x : Rf), T.refs[j]? = some x → gt x.t (cellsR r x.cols) = false → keep ⟨1, t, keyT T r, (j : Int)⟩ = (wr t (keyT T r) || rm x.t (cellsR r x.cols))) ∧
    (∀ (j : Nat) (x : Pd), T.chks[j]? = some x → keep ⟨2, t, keyT T r, (j : Int)⟩ = wr t (keyT T r))) → (vRows (fun _ _ => true) rm' gt t T l).filter keep = vRows wr rm gt t T l
  | [], _ => rfl
  | r :: l, h => by
    have h0 := h r (by simp)
    simp only [vRows, List.filter_append]
    rw [vRow_filter h0.1 h0.2, vRows_filter l (fun x hx => h x (by simp [hx]))]
end
theorem vTabs_filter {wr rm rm' gt : Int → Rw → Bool} {keep : Vo → Bool} : ∀ (ts : List Tb) (ls : List (List Rw)) (t : Int), (∀ (k : Nat) (T : Tb) (l : List Rw), ts[k]? = some T → ls[k]? = some l → ∀ r ∈ l, (∀ (j : Nat) (x : Rf), T.refs[j]? = some x → gt x.t (cellsR r x.cols) = false → keep ⟨1, t + k, keyT T r, (j : Int)⟩ = (wr (t + k) (keyT T r) || rm x.t (cellsR r x.cols))) ∧
    (∀ (j : Nat) (x : Pd), T.chks[j]? = some x → keep ⟨2, t + k, keyT T r, (j : Int)⟩ = wr (t + k) (keyT T r))) → (vTabs (fun _ _ => true) rm' gt t ts ls).filter keep = vTabs wr rm gt t ts ls
  | [], _, _, _ => by simp [vTabs]
  | _ :: _, [], _, _ => by simp [vTabs]
  | T :: ts, l :: ls, t, h => by
    have h0 := h 0 T l rfl rfl
    simp at h0
    simp only [vTabs, List.filter_append]
    rw [vRows_filter l h0, vTabs_filter ts ls (t + 1) (fun k U m hk hm r hr => by
      have := h (k + 1) U m hk hm r hr
      rw [show t + 1 + (k : Int) = t + ((k + 1 : Nat) : Int) by omega]
      exact this)]
/-- a key is unique in a valid list -/
theorem getT_self {T : Tb} : ∀ (l : List Rw) (p : Option Rw), rowsB T p l = true → ∀ r ∈ l, getT T l (keyT T r) = some r
  | [], _, _, r, hr => by cases hr
  | x :: l, p, h, r, hr => by
    obtain ⟨_, _, h3⟩ := rowsB_cons h
    unfold getT
    rcases List.mem_cons.1 hr with rfl | hr
    · rw [List.find?_cons_of_pos (by simp [cmpR_self])]
    · have := rowsB_lt l x h3 r hr
      rw [List.find?_cons_of_neg (by simp; omega)]
      exact getT_self l _ h3 r hr
end Go.Proofs.YtponkkljlbifmaaGreat

/-
  Plain mathematics: what the reference's Recheck keeps of all violations. No program here.
-/
namespace Go.Proofs.YtponkkljlbifmaaGreat
open Go.RowKit
set_option maxRecDepth 100000
open Pd

/-- is a violation of the state after the changes one that they may have caused? -/
def keepRf (tbs : List Tb) (st : List (List Rw)) (cs : List Ch) (v : Vo) : Bool := match tbs[v.t.toNat]?, getS tbs st v.t.toNat v.key with
  | some T, some r => (match T.refs[v.ix.toNat]? with
    | some x => !gtS tbs st x.t (cellsR r x.cols) && memK tbs Ch.o cs x.t (cellsR r x.cols)
    | none => false)
  | _, _ => false
def keepV (tbs : List Tb) (st : List (List Rw)) (cs : List Ch) (v : Vo) : Bool := memK tbs Ch.n cs v.t v.key || (decide (v.k = 1) && keepRf tbs st cs v)
theorem keepRf_at {tbs : List Tb} {st : List (List Rw)} {cs : List Ch} {v : Vo} {t j : Nat} {T : Tb} {r : Rw} {x : Rf} (ht : v.t = (t : Int)) (hT : tbs[t]? = some T) (hr : getS tbs st t v.key = some r) (hj : v.ix = (j : Int)) (hx : T.refs[j]? = some x) : keepRf tbs st cs v = (!gtS tbs st x.t (cellsR r x.cols) && memK tbs Ch.o cs x.t (cellsR r x.cols)) := by
  unfold keepRf
  rw [ht, hj, Int.toNat_natCast, Int.toNat_natCast, hT, hr]
  show (match T.refs[j]? with | some x => _ | none => _) = _
  rw [hx]
theorem recheck_filter {tbs : List Tb} {st : List (List Rw)} {cs : List Ch} (hok : OkS tbs st) : (vioS (fun _ _ => true) (fun _ _ => true) tbs st).filter (keepV tbs st cs) = vioS (memK tbs Ch.n cs) (memK tbs Ch.o cs) tbs st := by
  refine vTabs_filter (wr := memK tbs Ch.n cs) (rm := memK tbs Ch.o cs) _ _ _ fun k T l hT hl r hr => ?_
  rw [Int.zero_add]
  have hg : getS tbs st k (keyT T r) = some r := by
    unfold getS
    rw [hT, hl]
    exact getT_self l none (tabsB_at _ _ _ T l hok.tb hT hl) r hr
  refine ⟨fun j x hx hgt => ?_, fun j x hx => ?_⟩
  · unfold keepV
    rw [keepRf_at (v := ⟨1, (k : Int), keyT T r, (j : Int)⟩) rfl hT hg rfl hx, hgt]
    simp
  · unfold keepV
    simp
section
variable {hit : Bool} {wr rm gt : Int → Rw → Bool} {t : Int} {key r : Rw} {T : Tb}
theorem vRefs_at : ∀ (l : List Rf) (i : Int) (v : Vo), v ∈ vRefs hit rm gt t key r i l → v.k = 1 ∧ v.t = t ∧ v.key = key ∧ ∃ (j : Nat) (x : Rf), v.ix = i + j ∧ l[j]? = some x
  | [], _, _, h => by simp [vRefs] at h
  | x :: l, i, v, h => by
    simp only [vRefs, List.mem_append] at h
    rcases h with h | h
    · split at h
      · simp only [List.mem_singleton] at h
        subst h
        exact ⟨rfl, rfl, rfl, 0, x, by simp, rfl⟩
      · simp at h
    · obtain ⟨h1, h2, h3, j, y, h4, h5⟩ := vRefs_at l (i + 1) v h
      exact ⟨h1, h2, h3, j + 1, y, by rw [h4]; omega, h5⟩
theorem vRow_at {v : Vo} (h : v ∈ vRow wr rm gt t T r) : v.t = t ∧ v.key = keyT T r ∧ ((v.k = 1 ∧ ∃ (j : Nat) (x : Rf), v.ix = (j : Int) ∧ T.refs[j]? = some x) ∨ v.k = 2) := by
  rcases List.mem_append.1 h with h | h
  · obtain ⟨h1, h2, h3, j, x, h4, h5⟩ := vRefs_at _ _ _ h
    exact ⟨h2, h3, .inl ⟨h1, j, x, by rw [h4]; omega, h5⟩⟩
  · have := vChks_mem _ _ _ h
    exact ⟨this.2.1, this.2.2.1, .inr this.1⟩
theorem vRows_at : ∀ (l : List Rw) (v : Vo), v ∈ vRows wr rm gt t T l → v.t = t ∧ ∃ x ∈ l, v.key = keyT T x ∧ ((v.k = 1 ∧ ∃ (j : Nat) (y : Rf), v.ix = (j : Int) ∧ T.refs[j]? = some y) ∨ v.k = 2)
  | [], _, h => by simp [vRows] at h
  | x :: l, v, h => by
    rcases List.mem_append.1 h with h | h
    · have := vRow_at h
      exact ⟨this.1, x, by simp, this.2⟩
    · obtain ⟨h1, y, hy, h2⟩ := vRows_at l v h
      exact ⟨h1, y, by simp [hy], h2⟩
end
theorem vTabs_at {wr rm gt : Int → Rw → Bool} : ∀ (ts : List Tb) (ls : List (List Rw)) (i : Int) (v : Vo), v ∈ vTabs wr rm gt i ts ls → ∃ (t : Nat) (T : Tb) (l : List Rw), v.t = i + t ∧ ts[t]? = some T ∧ ls[t]? = some l ∧ ∃ x ∈ l, v.key = keyT T x ∧ ((v.k = 1 ∧ ∃ (j : Nat) (y : Rf), v.ix = (j : Int) ∧ T.refs[j]? = some y) ∨ v.k = 2)
  | [], _, _, _, h => by simp [vTabs] at h
  | _ :: _, [], _, _, h => by simp [vTabs] at h
  | T :: ts, l :: ls, i, v, h => by
    rcases List.mem_append.1 h with h | h
    · have := vRows_at l v h
      exact ⟨0, T, l, by rw [this.1]; simp, rfl, rfl, this.2⟩
    · obtain ⟨t, U, m, h1, h2, h3, h4⟩ := vTabs_at ts ls (i + 1) v h
      exact ⟨t + 1, U, m, by rw [h1]; omega, h2, h3, h4⟩
end Go.Proofs.YtponkkljlbifmaaGreat

/-
  The reference's cells: the cells of a row that a reference names.
-/
namespace Go.Proofs.YtponkkljlbifmaaGreat
open Go.RowKit
set_option maxRecDepth 100000
open Pd

set_option maxRecDepth 100000 in
set_option maxHeartbeats 4000000 in
theorem rcells_any (RA : Option Addr) (rn rc : Nat) (r : Rw) (CA : Option Addr) (n cc : Nat) (cs : List Int) (w : World) (hr : RowOk w ((RA, rn, rc), r)) (hrl : rn ≤ 1000) (hc : ClS w CA n cs) (hn : n ≤ 1000) (hin : ∀ c ∈ cs, 0 ≤ c ∧ c < (rn : Int)) :
    Calls Tryz.prog 44 #[.slice RA rn rc, .slice CA n cc] w fun e w' => RowN (cellsR r cs) w e w' := by
  obtain ⟨i1, hi1, hy0, hy1, hy2⟩ := info_parts info_vl
  have HR := Lib.hid hr
  have HC := Lib.hid hc
  have HN := Lib.hid hin
  have Hrn : Hid (r.length = rn) := Lib.hid hr.rd.len
  clear hr hc hin
  go_enter Tryz.func44, Tryz.ntmps44
  go_wp2_with fail
  go_loopw [5, 10] (fun v i wr => ∃ (jj : Nat) (TA : Option Addr) (tc : Nat), jj ≤ n ∧ i = .int .i64 (jj : Int) ∧ v = .slice TA jj tc ∧ Hid (wr.ownsRow w.heap.size 67 3 (.slice TA jj tc) jj ((cellsR r (cs.take jj)).flatMap Vl.cs)) ∧ Hid (Below w.heap.size w wr)) (fun _ i _ => n - (intOf i).toNat)
  case atStart => exact ⟨0, none, 0, by omega, rfl, rfl, Lib.hid ⟨by simp [cellsR], .inl ⟨rfl, rfl⟩⟩, Lib.hid (Below.refl _ _)⟩
  case round =>
    obtain ⟨jj, TA, tc, hjj, rfl, rfl, HO, HBj⟩ := hrel
    by_cases hjx : jj < n
    · obtain ⟨b5, o5, cz, rfl, hcc, hcx⟩ := (HC.out.keep (keeps_of HBj.out)).at hjx
      have y0 := hcx 0 _ rfl
      simp only [Nat.mul_one, Nat.add_zero] at y0
      obtain ⟨h0, h1⟩ := HN.out cz (List.mem_of_getElem? hcc)
      obtain ⟨cn, rfl⟩ := Int.eq_ofNat_of_zero_le h0
      have hcn : cn < rn := by omega
      obtain ⟨b6, o6, v, rfl, hv, hvc⟩ := (HR.out.rd.keep (keeps_of HBj.out)).at hcn
      have Htk := Lib.hid (cells_take hcc (by rw [Int.toNat_natCast]; exact hv))
      obtain ⟨vk, vi, vt⟩ := v
      have d0 : wr.cell? ⟨b6, o6 + cn * 3, none⟩ = some (.int .i64 vk) := hvc 0 (.int .i64 vk) rfl
      have d1 : wr.cell? ⟨b6, o6 + cn * 3 + 1, none⟩ = some (.int .i64 vi) := hvc 1 (.int .i64 vi) rfl
      have d2 : wr.cell? ⟨b6, o6 + cn * 3 + 2, none⟩ = some (.string vt) := hvc 2 (.string vt) rfl
      clear hcc hcx h0 h1 hv hvc
      go_wp2_with (at_builtin; refine wpList_append_one2 (by rfl) (.tmp 14) (.tmp 19) _ (by rfl) w.heap.size 67 i1 _ 3 32 Tryz.underlying75 hi1 hy0 hy1 hy2 (by rfl) (by omega) (.slice TA jj tc) jj _ (by rfl) wr #[.int .i64 vk, .int .i64 vi, .string vt] HO.out wr.heap.size (by rfl) (by rfl) (by rfl) (one_vl ⟨vk, vi, vt⟩) (by simp only [maxLen]; omega) (by omega) HBj.out.size ?_; intro g6 cap6 w7 hown6 hg6 hB6 hat6 hlt6)
      have HB7 := Lib.hid (HBj.out.trans hB6)
      have HO7 := Lib.hid hown6
      clear hown6 hg6 hB6 hat6 hlt6 d0 d1 d2 y0
      go_roundw
      case rel => exact ⟨jj + 1, _, cap6, by omega, by go_num, rfl, Lib.hid (by rw [Htk.out, List.flatMap_append]; exact HO7.out), HB7⟩
      case measure => simp [intOf]; omega
    · obtain rfl : jj = n := by omega
      have hxl := HC.out.len
      have HTA : Hid (OwnRow wr w.heap.size ((TA, jj, tc), cellsR r cs)) := Lib.hid (by
        have h1 := HO.out
        rw [List.take_of_length_le (by omega)] at h1
        exact ⟨h1, by unfold cellsR; rw [List.length_map]; exact hxl⟩)
      have hcl : (cellsR r cs).length = jj := by unfold cellsR; rw [List.length_map]; exact hxl
      go_wp2
      go_ret
      exact ⟨TA, tc, by rw [hcl]; rfl, by rw [hcl]; exact HTA.out, HBj.out⟩
end Go.Proofs.YtponkkljlbifmaaGreat
