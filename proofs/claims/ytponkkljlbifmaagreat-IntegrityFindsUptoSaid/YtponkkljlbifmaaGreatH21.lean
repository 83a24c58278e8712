/-
  Texts: IgTChk, IgVls.
-/
import Derived.Test.YtponkkljlbifmaaGreatH20
set_option linter.unusedVariables false
/-
  The program's Check of a state, in the mode of the server.
-/
namespace Go.Proofs.YtponkkljlbifmaaGreat
open Go.RowKit
set_option maxRecDepth 100000
open Pd

def prv (l : List Rw) (j : Nat) : Option Rw := if j = 0 then none else l[j - 1]?
def nxtB (T : Tb) (p : Option Rw) (r : Rw) : Bool := match p with
  | none => true
  | some q => decide (cmpR (keyT T q) (keyT T r) < 0)
theorem rows_step {T : Tb} {l : List Rw} {j : Nat} {r : Rw} {x rr : Bool} (h : l[j]? = some r) (hq : (rowsB T (prv l j) (l.drop j) && x) = rr) : (fitsB T r && nxtB T (prv l j) r && (rowsB T (prv l (j + 1)) (l.drop (j + 1)) && x)) = rr := by
  rw [drop_at' h] at hq
  have e : prv l (j + 1) = some r := by unfold prv; simp [h]
  rw [e, ← hq]
  cases prv l j <;> simp [rowsB, nxtB, Bool.and_assoc]
theorem tabs_step {tbs : List Tb} {ls : List (List Rw)} {k : Nat} {T : Tb} {l : List Rw} {rr : Bool} (hT : tbs[k]? = some T) (hl : ls[k]? = some l) (hq : tabsB (tbs.drop k) (ls.drop k) = rr) : (rowsB T (prv l 0) (l.drop 0) && tabsB (tbs.drop (k + 1)) (ls.drop (k + 1))) = rr := by
  rw [drop_at' hT, drop_at' hl] at hq
  exact hq
set_option maxHeartbeats 8000000 in
theorem tcheck_any (ver : Int) (A : Option Addr) (n c : Nat) (tbs : List Tb) (B : Option Addr) (m cb : Nat) (ls : List TlP) (w : World) (hs : ScS w A n tbs) (hg : GoodS ver tbs) (hst : StS w B m ls) (hb : cntS (stR ls) ≤ 4611686018427387904) (hm : m ≤ 1000000) :
    Calls Tryz.prog 31 #[.agg #[.int .i64 ver, .slice A n c], .int .i64 1, .agg #[.slice B m cb]] w fun e w' => e = .returned (.int .i64 (chkS tbs (stR ls))) ∧ Below w.heap.size w w' := by
  have HB : Hid (Below w.heap.size w ((w.alloc (.cells #[.int .i64 ver, .slice A n c] 30)).alloc (.cells #[.slice B m cb] 25))) := Lib.hid (((Below.refl _ _).alloc (Nat.le_refl _) _).alloc (by simp) _)
  have HS := Lib.hid (hs.keep (keeps_of HB.out))
  have HST := Lib.hid (hst.keep (keeps_of HB.out))
  have HZ := Lib.hid ((Blk.new w 30 #[.int .i64 ver, .slice A n c]).alloc (.cells #[.slice B m cb] 25))
  have HY := Lib.hid (Blk.new (w.alloc (.cells #[.int .i64 ver, .slice A n c] 30)) 25 #[.slice B m cb])
  rw [World.size_alloc] at HY
  have HG := Lib.hid hg
  have Hln := Lib.hid hs.len
  have Hlm := Lib.hid hst.sl.len
  have hn8 : n ≤ 8 := by have := hg.ln; have := Hln.out; omega
  obtain ⟨ee, Hee⟩ : ∃ z, Hid (chkS tbs (stR ls) = z) := ⟨_, Lib.hid rfl⟩
  rw [Hee.out]
  clear hs hst hg
  go_enter Tryz.func31, Tryz.ntmps31
  go_upto_region 1 with fail
  generalize hW : (w.alloc (.cells #[.int .i64 ver, .slice A n c] 30)).alloc (.cells #[.slice B m cb] 25) = w1 at *
  have z := HZ.out.cell
  have zy := HY.out.cell
  go_wp2_with fail
  refine (checkmode_any ver A n c tbs _ HS.out HG.out).mono ?_
  rintro e w2 ⟨rfl, hb2⟩
  have HZ2 := Lib.hid (HZ.out.below hb2)
  have HY2 := Lib.hid (HY.out.below hb2)
  have HB2 := Lib.hid (HB.out.trans (hb2.mono HB.out.size))
  have HS2 := Lib.hid (HS.out.keep (keeps_of hb2))
  have HST2 := Lib.hid (HST.out.keep (keeps_of hb2))
  clear z zy hb2 HZ HY HB HS HST hW
  have z := HZ2.out.cell
  have zy := HY2.out.cell
  go_wp2_with fail
  refine (count_any B m cb ls _ HST2.out hb hm).mono ?_
  rintro e w3 ⟨rfl, hb3⟩
  have HZ3 := Lib.hid (HZ2.out.below hb3)
  have HY3 := Lib.hid (HY2.out.below hb3)
  have HB3 := Lib.hid (HB2.out.trans (hb3.mono HB2.out.size))
  have HS3 := Lib.hid (HS2.out.keep (keeps_of hb3))
  have HST3 := Lib.hid (HST2.out.keep (keeps_of hb3))
  clear z zy hb3 HZ2 HY2 HB2 HS2 HST2
  have z := HZ3.out.cell
  have zy := HY3.out.cell
  unfold chkS at Hee
  by_cases hc : 512 < cntS (stR ls)
  · have g1 : decide (512 < (cntS (stR ls) : Int)) = true := by simp; omega
    rw [if_pos hc] at Hee
    have he := Hee.out
    subst he
    clear hc
    go_wp2
    go_ret
    exact ⟨rfl, HB3.out⟩
  · have g1 : decide (512 < (cntS (stR ls) : Int)) = false := by simp; omega
    rw [if_neg hc] at Hee
    have hls : (stR ls).length = m := by unfold stR; rw [List.length_map]; exact Hlm.out
    rw [hls, Hln.out] at Hee
    by_cases hmn : m = n
    · subst hmn
      rw [if_neg (by simp)] at Hee
      obtain ⟨rr, Hrr⟩ : ∃ z, Hid (tabsB (tbs.drop 0) ((stR ls).drop 0) = z) := ⟨_, Lib.hid rfl⟩
      have Hee2 : Hid ((if rr = true then (0 : Int) else 80) = ee) := Lib.hid (by rw [← Hee.out, ← Hrr.out]; rfl)
      have g2 : ((m : Int) != (m : Int)) = false := by simp
      clear hc Hee
      go_wp2_with fail
      go_loopw [31] (fun i wr => ∃ k : Nat, k ≤ m ∧ i = .int .i64 (k : Int) ∧ Hid (tabsB (tbs.drop k) ((stR ls).drop k) = rr) ∧ Hid (Below w3.heap.size w3 wr)) (fun i _ => m - (intOf i).toNat)
      case atStart => exact ⟨0, by omega, rfl, Hrr, Lib.hid (Below.refl _ _)⟩
      case round =>
        obtain ⟨k, hk, rfl, Hq, HBr⟩ := hrel
        clear z zy Hrr
        by_cases hlt : k < m
        · obtain ⟨T, hT⟩ : ∃ T, tbs[k]? = some T := ⟨_, List.getElem?_eq_getElem (by rw [Hln.out]; exact hlt)⟩
          obtain ⟨b, o, ⟨⟨L, ln, lc⟩, ps⟩, rfl, hl, hok, c0⟩ := (HST3.out.keep (keeps_of HBr.out)).at hlt
          dsimp only at c0
          have HT := Lib.hid hT
          have HGT := Lib.hid (HG.out.tb T (List.mem_of_getElem? hT))
          obtain ⟨x, Hx⟩ : ∃ z, Hid (tabsB (tbs.drop (k + 1)) ((stR ls).drop (k + 1)) = z) := ⟨_, Lib.hid rfl⟩
          have Hst := Lib.hid (tabs_step hT (stR_at hl) Hq.out)
          rw [Hx.out] at Hst
          have HR := Lib.hid hok.rd
          have Hll := Lib.hid hok.len
          dsimp only at HR Hll
          have hlm : ln ≤ 9223372036854775807 := Nat.le_trans hok.le hok.mx
          have zy := (HY3.out.below HBr.out).cell
          clear hT hl hok Hq
          obtain ⟨w4, HW4⟩ : ∃ z, Hid (wr = z) := ⟨_, Lib.hid rfl⟩
          go_wp2_with fail
          go_loopw [38] (fun i wr => ∃ j : Nat, j ≤ ln ∧ i = .int .i64 (j : Int) ∧ Hid ((rowsB T (prv (tlR ((L, ln, lc), ps)) j) ((tlR ((L, ln, lc), ps)).drop j) && x) = rr) ∧ Hid (Below w4.heap.size w4 wr)) (fun i _ => ln - (intOf i).toNat)
          case atStart => exact ⟨0, by omega, rfl, Hst, Lib.hid (by rw [← HW4.out]; exact Below.refl _ _)⟩
          case round =>
            obtain ⟨j, hj, rfl, Hqj, HBj⟩ := hrel
            clear zy Hst c0
            rw [HW4.out] at HBr HR
            have HB4 := Lib.hid (HBr.out.trans (HBj.out.mono HBr.out.size))
            by_cases hjn : j < ln
            · obtain ⟨b2, o2, ⟨⟨R, rn, rc⟩, r⟩, rfl, c1, hro, hp⟩ := (HR.out.keep (keeps_of HBj.out)).get2 hjn
              dsimp only at c1
              have Hs := Lib.hid (rows_step (tlR_at hp) Hqj.out)
              have HRO := Lib.hid hro
              have zb := (HZ3.out.below HB4.out).cell
              clear hro hp Hqj
              go_wp2_with fail
              refine (fits_any ver A m c tbs k T R rn rc r _ (HS3.out.keep (keeps_of HB4.out)) hn8 HT.out HGT.out.cl HRO.out.rd).mono ?_
              rintro e w5 ⟨rfl, hb5⟩
              have HB5 := Lib.hid (Below.next HBj.out hb5)
              have HB6 := Lib.hid (Below.next HB4.out hb5)
              have HRO5 := Lib.hid (HRO.out.keep (keeps_of hb5))
              clear zb hb5 HBj HB4 HRO c1
              cases hfit : fitsB T r
              · rw [hfit, Bool.false_and] at Hs
                have he := Hee2.out
                rw [if_neg (by rw [← Hs.out]; simp)] at he
                subst he
                have HE := Lib.hid (HB3.out.trans (HB6.out.mono HB3.out.size))
                clear hfit
                go_wp2
                go_ret
                exact ⟨rfl, HE.out⟩
              · rw [hfit, Bool.true_and] at Hs
                clear hfit
                have zb : ∀ i, w5.drew.cell? ⟨w.heap.size, i, none⟩ = (#[.int .i64 ver, .slice A m c] : Array Value)[i]? := (HZ3.out.below HB6.out).cell
                have HB5d : Hid (Below w4.heap.size w4 w5.drew) := Lib.hid HB5.out.drew
                have HB6d : Hid (Below w3.heap.size w3 w5.drew) := Lib.hid HB6.out.drew
                have HRd : Hid (RowOk w5.drew ((R, rn, rc), r)) := Lib.hid (HRO5.out.keep (Keeps.refl _).drew)
                clear HB5 HB6 HRO5
                rcases j with _ | q
                · have Hs2 : Hid ((rowsB T (prv (tlR ((some ⟨b2, o2, none⟩, ln, lc), ps)) 1) ((tlR ((some ⟨b2, o2, none⟩, ln, lc), ps)).drop 1) && x) = rr) := Lib.hid (by have := Hs.out; unfold prv nxtB at this; simpa [prv] using this)
                  clear Hs
                  go_wp2_with fail
                  generalize hWn : w5.drew = Wn at *
                  have hca := @cell_after Wn
                  refine wp_region_seg [([0, 1, 2, 3, 4, 5, 6, 7, 8, 9, 11, 12, 13], 10), ([], 14), ([], 15)] [16, 17] (by kernel_rfl) (by kernel_rfl) (fun _ _ d _ _ h => by cases d <;> exact h) ?_
                  rw [hWn]
                  clear hWn
                  simp only [pickSegs, pickOps, opAt, List.map_cons, List.map_nil, List.getElem?_toArray, List.getElem?_cons_zero, List.getElem?_cons_succ, Option.getD_some]
                  unfold wpBlocks
                  repeat (go_big_quiet_step (fail))
                  refine wpQuiet_nil ?_
                  clear hca zb
                  go_wp2_with fail
                  refine ⟨Below.refl _ _, ?_⟩
                  unfold wpBlocks
                  refine wpQuiet_nil ?_
                  go_wp2_with fail
                  refine ⟨Below.refl _ _, ?_⟩
                  unfold wpBlocks
                  refine wpQuiet_nil ?_
                  go_wp2_with fail
                  refine ⟨Below.refl _ _, ?_⟩
                  unfold wpBlocks
                  repeat (go_big_quiet_step (fail))
                  refine wpQuiet_nil ?_
                  go_wp2
                  go_roundw
                  case rel => exact ⟨1, by omega, by go_num, Hs2, HB5d⟩
                  case measure => simp [intOf]; omega
                · obtain ⟨b6, o6, ⟨⟨R', rn', rc'⟩, r'⟩, e6, c6, hro, hp⟩ := (HR.out.keep (keeps_of HB5d.out)).get2 (show q < ln by omega)
                  injection e6 with e6
                  injection e6 with e6 e7
                  subst e6 e7
                  dsimp only at c6
                  have HP : Hid (RowOk w5.drew ((R', rn', rc'), r')) := Lib.hid hro
                  have hn : nxtB T (prv (tlR ((some ⟨b2, o2, none⟩, ln, lc), ps)) (q + 1)) r = decide (cmpR (keyT T r') (keyT T r) < 0) := by
                    have : prv (tlR ((some ⟨b2, o2, none⟩, ln, lc), ps)) (q + 1) = some r' := by unfold prv; rw [if_neg (by omega), Nat.add_sub_cancel]; exact tlR_at hp
                    rw [this]
                    rfl
                  rw [hn] at Hs
                  clear hro hp hn
                  go_wp2_with fail
                  generalize hWn : w5.drew = Wn at *
                  have hca := @cell_after Wn
                  refine wp_region_seg [([0, 1, 2, 3, 4, 5, 6, 7, 8, 9, 11, 12, 13], 10), ([], 14), ([], 15)] [16, 17] (by kernel_rfl) (by kernel_rfl) (fun _ _ d _ _ h => by cases d <;> exact h) ?_
                  rw [hWn]
                  clear hWn
                  simp only [pickSegs, pickOps, opAt, List.map_cons, List.map_nil, List.getElem?_toArray, List.getElem?_cons_zero, List.getElem?_cons_succ, Option.getD_some]
                  unfold wpBlocks
                  repeat (go_big_quiet_step (fail))
                  refine wpQuiet_nil ?_
                  clear hca zb c6
                  go_wp2_with fail
                  refine (prefix_any ver A m c tbs k T R' rn' rc' r' _ (HS3.out.keep (keeps_of HB6d.out)) hn8 HT.out (by have := HGT.out.k1; omega) HP.out).mono ?_
                  rintro e w6 ⟨⟨⟨Q, qn, qc⟩, y⟩, rfl, hq, hqo, hb6⟩
                  dsimp only at hq
                  subst hq
                  have HQ := Lib.hid hqo
                  have HR6 := Lib.hid (HRd.out.keep (keeps_of hb6))
                  have HB6 := Lib.hid (Below.next HB6d.out hb6)
                  have HB7 := Lib.hid (Below.next HB5d.out hb6)
                  clear hqo HRd HP HB6d HB5d
                  go_wp2_with fail
                  refine ⟨hb6, ?_⟩
                  unfold wpBlocks
                  refine wpQuiet_nil ?_
                  clear hb6
                  go_wp2_with fail
                  refine (prefix_any ver A m c tbs k T R rn rc r _ (HS3.out.keep (keeps_of HB6.out)) hn8 HT.out (by have := HGT.out.k1; omega) HR6.out).mono ?_
                  rintro e w7 ⟨⟨⟨Q2, qn2, qc2⟩, y⟩, rfl, hq, hqo, hb7⟩
                  dsimp only at hq
                  subst hq
                  have HQ2 := Lib.hid hqo
                  have HQ1 := Lib.hid (HQ.out.keep (keeps_of hb7))
                  have HB8 := Lib.hid (Below.next HB6.out hb7)
                  have HB9 := Lib.hid (Below.next HB7.out hb7)
                  clear hqo HQ HB6 HB7
                  go_wp2_with fail
                  refine ⟨hb7, ?_⟩
                  unfold wpBlocks
                  refine wpQuiet_nil ?_
                  clear hb7
                  go_wp2_with fail
                  refine (comp_rw Q qn qc (keyT T r') Q2 qn2 qc2 (keyT T r) _ HQ1.out HQ2.out).mono ?_
                  rintro e w8 ⟨rfl, hb8⟩
                  have HBA := Lib.hid (Below.next HB8.out hb8)
                  have HBC := Lib.hid (Below.next HB9.out hb8)
                  clear HB8 HB9 HQ1 HQ2
                  by_cases hc : cmpR (keyT T r') (keyT T r) < 0
                  · have g5 : decide ((0 : Int) ≤ cmpR (keyT T r') (keyT T r)) = false := by simp; omega
                    rw [decide_eq_true hc, Bool.true_and] at Hs
                    clear hc
                    go_wp2_with fail
                    refine ⟨hb8, ?_⟩
                    unfold wpBlocks
                    repeat (go_big_quiet_step (fail))
                    refine wpQuiet_nil ?_
                    clear hb8
                    go_wp2
                    go_roundw
                    case rel => exact ⟨q + 1 + 1, by omega, by go_num, Lib.hid Hs.out, HBC⟩
                    case measure => simp [intOf]; omega
                  · have g5 : decide ((0 : Int) ≤ cmpR (keyT T r') (keyT T r)) = true := by simp; omega
                    rw [decide_eq_false hc, Bool.false_and] at Hs
                    have he := Hee2.out
                    rw [if_neg (by rw [← Hs.out]; simp)] at he
                    subst he
                    have HE := Lib.hid (HB3.out.trans (HBA.out.mono HB3.out.size))
                    clear hc
                    go_wp2_with fail
                    refine ⟨hb8, ?_⟩
                    unfold wpBlocks
                    repeat (go_big_quiet_step (fail))
                    refine wpQuiet_nil ?_
                    clear hb8
                    go_wp2
                    go_ret
                    exact ⟨rfl, HE.out⟩
            · obtain rfl : j = ln := by omega
              have Hx2 : Hid (tabsB (tbs.drop (k + 1)) ((stR ls).drop (k + 1)) = rr) := Lib.hid (by
                have := Hqj.out
                rw [List.drop_of_length_le (by rw [Hll.out]; exact Nat.le_refl _)] at this
                rw [Hx.out, ← this]
                rfl)
              go_wp2
              go_roundw
              case rel => exact ⟨k + 1, by omega, by go_num, Hx2, HB4⟩
              case measure => simp [intOf]; omega
        · obtain rfl : k = m := by omega
          have hf : rr = true := by
            rw [← Hq.out, List.drop_of_length_le (by rw [Hln.out]; exact Nat.le_refl _)]
            rfl
          have he := Hee2.out
          rw [if_pos hf] at he
          subst he
          have HE := Lib.hid (HB3.out.trans (HBr.out.mono HB3.out.size))
          go_wp2
          go_ret
          exact ⟨rfl, HE.out⟩
    · have g2 : ((m : Int) != (n : Int)) = true := by simp; omega
      rw [if_pos hmn] at Hee
      have he := Hee.out
      subst he
      clear hc
      go_wp2
      go_ret
      exact ⟨rfl, HB3.out⟩
end Go.Proofs.YtponkkljlbifmaaGreat

/-
  The program's Violations of a state.
-/
namespace Go.Proofs.YtponkkljlbifmaaGreat
open Go.RowKit
set_option maxRecDepth 100000
open Pd

theorem every_any (t : Int) (K : Option Addr) (kn kc : Nat) (w : World) : Calls Tryz.prog 32 #[.int .i64 t, .slice K kn kc] w fun e w' => e = .returned (.bool true) ∧ w' = w := by
  go_enter Tryz.func32, Tryz.ntmps32
  go_wp2
  go_ret
  exact ⟨rfl, rfl⟩
theorem every_ok (w : World) (n : Nat) : TestOk 32 #[] w n (fun _ _ => true) := fun W _ t K kn kc key _ _ =>
  (every_any t K kn kc W).mono fun _ _ ⟨he, hw⟩ => ⟨he, by rw [hw]; exact Below.refl _ _⟩
theorem ent_every : ∀ args w, (callFunc 32 args).run Tryz.prog w = .ok (.enter 32 args) w := Go.Proofs.enters_of Tryz.func32 (by kernel_rfl) rfl
abbrev allV (tbs : List Tb) (st : List (List Rw)) : List Vo := vioS (fun _ _ => true) (fun _ _ => true) tbs st
def ViolO (tbs : List Tb) (st : List (List Rw)) (w : World) (e : Ending) (w' : World) : Prop :=
  ((chkS tbs st = 0 ∧ ∃ (V : Option Addr) (n vc : Nat) (xs : List VoE), e = .returned (.tuple #[.slice V n vc, .int .i64 0]) ∧ VosN w.heap.size w' V n xs ∧ xs.map (·.v) = allV tbs st) ∨ (chkS tbs st ≠ 0 ∧ e = .returned (.tuple #[.slice none 0 0, .int .i64 (chkS tbs st)]))) ∧ Below w.heap.size w w'
theorem chkS_zero {tbs : List Tb} {st : List (List Rw)} (h : chkS tbs st = 0) : cntS st ≤ 512 ∧ st.length = tbs.length ∧ tabsB tbs st = true := by
  unfold chkS at h
  split at h
  · omega
  · split at h
    · omega
    · split at h
      · exact ⟨by omega, by omega, by assumption⟩
      · omega
theorem VosN.mono {b b' : Nat} {w : World} {V : Option Addr} {n : Nat} {xs : List VoE} (h : VosN b w V n xs) (hb : b' ≤ b) : VosN b' w V n xs := ⟨h.sl, fun hn g o e => by have := h.far hn g o e; omega, fun x hx => (h.keys x hx).mono hb⟩
set_option maxHeartbeats 4000000 in
theorem viol_any (ver : Int) (A : Option Addr) (n c : Nat) (tbs : List Tb) (B : Option Addr) (m cb : Nat) (ls : List TlP) (w : World) (hs : ScS w A n tbs) (hg : GoodS ver tbs) (hst : StS w B m ls) (hb : cntS (stR ls) ≤ 4611686018427387904) (hm : m ≤ 1000000) :
    Calls Tryz.prog 10 #[.agg #[.int .i64 ver, .slice A n c], .agg #[.slice B m cb]] w fun e w' => ViolO tbs (stR ls) w e w' := by
  have HB : Hid (Below w.heap.size w ((w.alloc (.cells #[.int .i64 ver, .slice A n c] 30)).alloc (.cells #[.slice B m cb] 25))) := Lib.hid (((Below.refl _ _).alloc (Nat.le_refl _) _).alloc (by simp) _)
  have HS := Lib.hid (hs.keep (keeps_of HB.out))
  have HST := Lib.hid (hst.keep (keeps_of HB.out))
  have HZ := Lib.hid ((Blk.new w 30 #[.int .i64 ver, .slice A n c]).alloc (.cells #[.slice B m cb] 25))
  have HY := Lib.hid (Blk.new (w.alloc (.cells #[.int .i64 ver, .slice A n c] 30)) 25 #[.slice B m cb])
  rw [World.size_alloc] at HY
  have HG := Lib.hid hg
  have Hln := Lib.hid hs.len
  have Hlm := Lib.hid hst.sl.len
  clear hs hst hg
  go_enter Tryz.func10, Tryz.ntmps10
  go_upto_region 1 with fail
  generalize hW : (w.alloc (.cells #[.int .i64 ver, .slice A n c] 30)).alloc (.cells #[.slice B m cb] 25) = w1 at *
  have z := HZ.out.cell
  have zy := HY.out.cell
  go_wp2_with fail
  refine (tcheck_any ver A n c tbs B m cb ls _ HS.out HG.out HST.out hb hm).mono ?_
  rintro e w2 ⟨rfl, hb2⟩
  have HB2 := Lib.hid (HB.out.trans (hb2.mono HB.out.size))
  have HS2 := Lib.hid (HS.out.keep (keeps_of hb2))
  have HST2 := Lib.hid (HST.out.keep (keeps_of hb2))
  have z2 := (HZ.out.below hb2).cell
  have zy2 := (HY.out.below hb2).cell
  clear z zy hb2
  by_cases he : chkS tbs (stR ls) = 0
  · obtain ⟨h5, hl, hv⟩ := chkS_zero he
    have hls : (stR ls).length = m := by unfold stR; rw [List.length_map]; exact Hlm.out
    obtain rfl : m = n := by rw [← hls, hl, Hln.out]
    have HE := Lib.hid he
    rw [he]
    clear he hls hl
    go_wp2_with fail
    refine (find_any ver A m c tbs B cb ls 32 32 #[] #[] (fun _ _ => true) (fun _ _ => true) _ HS2.out HG.out HST2.out hv h5 ent_every ent_every (every_ok _ _) (every_ok _ _)).mono ?_
    rintro e w3 ⟨V, vn, vc, xs, rfl, hvn, hxs, hb3⟩
    have HR : Hid (ViolO tbs (stR ls) w (.returned (.tuple #[.slice V vn vc, .int .i64 0])) w3) := Lib.hid ⟨.inl ⟨HE.out, V, vn, vc, xs, rfl, hvn.mono HB2.out.size, hxs⟩, Below.next HB2.out hb3⟩
    clear hvn hxs hb3
    go_wp2
    exact bodyPost_ret (v := .tuple #[.slice V vn vc, .int .i64 0]) (by simp [results, Tryz.results10, go_sem]) rfl HR.out
  · have HR : Hid (ViolO tbs (stR ls) w (.returned (.tuple #[.slice none 0 0, .int .i64 (chkS tbs (stR ls))])) w2) := Lib.hid ⟨.inr ⟨he, rfl⟩, HB2.out⟩
    have g : (chkS tbs (stR ls) != 0) = true := by simpa using he
    generalize chkS tbs (stR ls) = ee at *
    clear he
    go_wp2
    exact bodyPost_ret (v := .tuple #[.slice none 0 0, .int .i64 ee]) (by simp [results, Tryz.results10, go_sem]) rfl HR.out
end Go.Proofs.YtponkkljlbifmaaGreat
