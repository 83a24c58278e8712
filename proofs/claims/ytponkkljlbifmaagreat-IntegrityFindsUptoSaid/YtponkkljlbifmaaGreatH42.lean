/-
  Texts: IgAll, IgRVl.
-/
import Derived.Test.YtponkkljlbifmaaGreatH40
import Derived.Test.YtponkkljlbifmaaGreatH41
set_option linter.unusedVariables false
/-
  The reference's all: the violations of a valid state; its Violations of a state.
-/
namespace Go.Proofs.YtponkkljlbifmaaGreat
open Go.RowKit
set_option maxRecDepth 100000
open Pd

set_option maxHeartbeats 16000000 in
theorem rall9_any (ver : Int) (A : Option Addr) (n c : Nat) (tbs : List Tb) (B : Option Addr) (cb : Nat) (ls : List TlP) (w : World) (hs : ScS w A n tbs) (hg : GoodS ver tbs) (hst : StS w B n ls) (hv : tabsB tbs (stR ls) = true) (hc : cntS (stR ls) ≤ 512) :
    Calls Tryz.prog 35 #[.agg #[.int .i64 ver, .slice A n c], .agg #[.slice B n cb]] w fun e w' => VioO (allV tbs (stR ls)) w e w' := by
  obtain ⟨i0, hi, hz0, hz1, hz2⟩ := info_parts info_vo
  have HB : Hid (Below w.heap.size w ((w.alloc (.cells #[.int .i64 ver, .slice A n c] 30)).alloc (.cells #[.slice B n cb] 25))) := Lib.hid (((Below.refl _ _).alloc (Nat.le_refl _) _).alloc (by simp) _)
  have HS := Lib.hid (hs.keep (keeps_of HB.out))
  have HST := Lib.hid (hst.keep (keeps_of HB.out))
  have HZ := Lib.hid ((Blk.new w 30 #[.int .i64 ver, .slice A n c]).alloc (.cells #[.slice B n cb] 25))
  have HY := Lib.hid (Blk.new (w.alloc (.cells #[.int .i64 ver, .slice A n c] 30)) 25 #[.slice B n cb])
  have hW1 : ((w.alloc (.cells #[.int .i64 ver, .slice A n c] 30)).alloc (.cells #[.slice B n cb] 25)).heap.size = w.heap.size + 2 := by simp
  rw [World.size_alloc] at HY
  have HG := Lib.hid hg
  have Hln := Lib.hid hs.len
  have Hlm := Lib.hid hst.sl.len
  have HV := Lib.hid hv
  have hn8 : n ≤ 8 := by have := hg.ln; have := Hln.out; omega
  obtain ⟨vs, Hvs⟩ : ∃ z, Hid (allV tbs (stR ls) = z) := ⟨_, Lib.hid rfl⟩
  have Hvl : Hid (vs.length ≤ 4096) := Lib.hid (by
    rw [← Hvs.out]
    have := vTabs_len (wr := fun _ _ => true) (rm := fun _ _ => true) (gt := gtS tbs (stR ls)) tbs (stR ls) 0 hg.tb
    unfold allV vioS
    omega)
  obtain ⟨gt, Hgt⟩ : ∃ z, Hid (gtS tbs (stR ls) = z) := ⟨_, Lib.hid rfl⟩
  have Hv0 : Hid (([] : List VoE).map (·.v) ++ vTabs (fun _ _ => true) (fun _ _ => true) gt ((0 : Nat) : Int) (tbs.drop 0) ((stR ls).drop 0) = vs) := Lib.hid (by rw [← Hvs.out, ← Hgt.out]; rfl)
  rw [Hvs.out]
  clear hs hst hg hv Hvs hc
  go_enter Tryz.func35, Tryz.ntmps35
  go_upto_region 2 with fail
  generalize hW : (w.alloc (.cells #[.int .i64 ver, .slice A n c] 30)).alloc (.cells #[.slice B n cb] 25) = w1 at *
  have zy := HY.out.cell
  go_wp2_with fail
  go_loopw [5, 20] (fun v i wr => ∃ (k : Nat) (V : Option Addr) (vn vc : Nat) (xs : List VoE), k ≤ n ∧ i = .int .i64 (k : Int) ∧ v = .slice V vn vc ∧ Hid (FndS w1 wr V vn vc xs) ∧ Hid (xs.map (·.v) ++ vTabs (fun _ _ => true) (fun _ _ => true) gt (k : Int) (tbs.drop k) ((stR ls).drop k) = vs)) (fun _ i _ => n - (intOf i).toNat)
  case atStart => exact ⟨0, none, 0, 0, [], by omega, rfl, rfl, Lib.hid (FndS.nil w1), Hv0⟩
  case round =>
    obtain ⟨k, V, vn, vc, xs, hk, rfl, rfl, HF, Hq⟩ := hrel
    clear zy Hv0
    by_cases hlt : k < n
    · obtain ⟨T, hT⟩ : ∃ T, tbs[k]? = some T := ⟨_, List.getElem?_eq_getElem (by rw [Hln.out]; exact hlt)⟩
      obtain ⟨b, o, ⟨⟨L, ln, lc⟩, ps⟩, rfl, hl, hok, c0⟩ := (HST.out.keep (keeps_of HF.out.be)).at hlt
      dsimp only at c0
      have HT := Lib.hid hT
      have HGT := Lib.hid (HG.out.tb T (List.mem_of_getElem? hT))
      have HGR := Lib.hid (HG.out.rf T (List.mem_of_getElem? hT))
      have Hst := Lib.hid (vTabs_step hT (stR_at hl) Hq.out)
      have HFit := Lib.hid (rowsB_fit _ none (tabsB_at _ _ _ T _ HV.out hT (stR_at hl)))
      obtain ⟨R1, HR1⟩ : ∃ z, Hid (vTabs (fun _ _ => true) (fun _ _ => true) gt ((k + 1 : Nat) : Int) (tbs.drop (k + 1)) ((stR ls).drop (k + 1)) = z) := ⟨_, Lib.hid rfl⟩
      rw [HR1.out] at Hst
      have hll : Hid ((tlR ((L, ln, lc), ps)).length = ln) := Lib.hid hok.len
      have HR := Lib.hid ((HST.out.at hlt))
      have hlm : ln ≤ 9223372036854775807 := Nat.le_trans hok.le hok.mx
      have HRS : Hid (RowsS w1 L ln ps) := Lib.hid (by
        obtain ⟨b', o', pl, e, hl', hok', _⟩ := HR.out
        rw [hl] at hl'
        injection hl' with hl'
        subst hl'
        exact hok'.rd)
      clear hT hl hok Hq HR
      go_wp2_with fail
      go_loopw [5, 27] (fun v i wr => ∃ (j : Nat) (V : Option Addr) (vn vc : Nat) (xs : List VoE), j ≤ ln ∧ i = .int .i64 (j : Int) ∧ v = .slice V vn vc ∧ Hid (FndS w1 wr V vn vc xs) ∧ Hid (xs.map (·.v) ++ (vRows (fun _ _ => true) (fun _ _ => true) gt (k : Int) T ((tlR ((L, ln, lc), ps)).drop j) ++ R1) = vs)) (fun _ i _ => ln - (intOf i).toNat)
      case atStart => exact ⟨0, V, vn, vc, xs, by omega, rfl, rfl, HF, Hst⟩
      case round =>
        obtain ⟨j, V, vn, vc, xs, hj, rfl, rfl, HF, Hqj⟩ := hrel
        clear c0 Hst
        by_cases hjn : j < ln
        · obtain ⟨b2, o2, ⟨⟨R, rn, rc⟩, r⟩, rfl, c1, hro, hp⟩ := (HRS.out.keep (keeps_of HF.out.be)).get2 hjn
          dsimp only at c1
          have hrm : r ∈ tlR ((some ⟨b2, o2, none⟩, ln, lc), ps) := List.mem_of_getElem? (tlR_at hp)
          have hrf := HFit.out r hrm
          have hrn : Hid (rn = T.cols.length ∧ r.length = T.cols.length) := Lib.hid (by
            have h1 := fitL_len hrf
            have h2 := hro.rd.len
            unfold Tb.kinds at h1
            rw [List.length_map] at h1
            simp only at h2
            omega)
          have Hs0 : Hid (xs.map (·.v) ++ (vRefs true (fun _ _ => true) gt (k : Int) (keyT T r) r ((0 : Nat) : Int) (T.refs.drop 0) ++ (vChks true (k : Int) (keyT T r) r ((0 : Nat) : Int) (T.chks.drop 0) ++ (vRows (fun _ _ => true) (fun _ _ => true) gt (k : Int) T ((tlR ((some ⟨b2, o2, none⟩, ln, lc), ps)).drop (j + 1)) ++ R1))) = vs) := Lib.hid (vRows_step (tlR_at hp) Hqj.out)
          obtain ⟨R2, HR2⟩ : ∃ z, Hid (vRows (fun _ _ => true) (fun _ _ => true) gt (k : Int) T ((tlR ((some ⟨b2, o2, none⟩, ln, lc), ps)).drop (j + 1)) ++ R1 = z) := ⟨_, Lib.hid rfl⟩
          rw [HR2.out] at Hs0
          have HRO := Lib.hid hro
          have HRO1 := Lib.hid (HRS.out.ok _ (List.mem_of_getElem? hp))
          have zb := (HZ.out.below HF.out.be).cell
          clear hro hp Hqj hrm hrf
          go_wp2_with fail
          refine (rkey_any ver A n c tbs k T R rn rc r _ (HS.out.keep (keeps_of HF.out.be)) hn8 HT.out (by have := HGT.out.k1; omega) (by have := HGT.out.k2; have := HGT.out.cl; omega) HRO.out).mono ?_
          rintro e w2 ⟨K, kc, rfl, hko, hb2⟩
          obtain ⟨key, Hky⟩ : ∃ z, Hid (keyT T r = z) := ⟨_, Lib.hid rfl⟩
          rw [Hky.out] at hko Hs0 ⊢
          have HF2 := Lib.hid (HF.out.below hb2)
          have HRO2 := Lib.hid (HRO.out.keep (keeps_of hb2))
          have HKO : Hid (OwnRow w2 w1.heap.size ((K, key.length, kc), key)) := Lib.hid (hko.mono HF.out.be.size)
          have hk8 : key.length ≤ 8 := by have := keyT_len T r; have := HGT.out.cl; have := hrn.out.2; rw [Hky.out] at *; omega
          clear c1 zb hb2 hko HF HRO
          have HF3 := HF2
          have HK3 := HKO
          obtain ⟨b3, o3, ⟨T', ⟨A1, n1, k1⟩, ⟨A2, n2, k2⟩, ⟨A3, n3, k3⟩⟩, rfl, hT', hok, u0, u1, u2, u3, u4⟩ := HS.out.at hlt
          obtain rfl : T = T' := by have := HT.out; rw [hT'] at this; injection this with this; exact this.symm
          dsimp only at u0 u1 u2 u3 u4
          obtain ⟨rs, hrs⟩ := hok.rs
          obtain ⟨es, hhs⟩ := hok.hs
          have HRs := Lib.hid hrs
          have HEs := Lib.hid hhs
          have hn2 : n2 ≤ 4 := by have := hrs.len; have := HGT.out.rl; simp only at *; omega
          have hn3 : n3 ≤ 4 := by have := hhs.len; have := HGT.out.hl; simp only at *; omega
          have hkp := keeps_of HF3.out.be
          have v3 := (hkp _ (by rw [u3]; rfl)).trans u3
          have zb := (HZ.out.below HF3.out.be).cell
          obtain ⟨R3, HR3⟩ : ∃ z, Hid (vChks true (k : Int) key r ((0 : Nat) : Int) (T.chks.drop 0) ++ R2 = z) := ⟨_, Lib.hid rfl⟩
          rw [HR3.out] at Hs0
          clear HF2 HKO HRO2 hT' hok hrs hhs hkp u0 u1 u2
          go_wp2_with fail
          go_loopw [5, 42] (fun v i wr => ∃ (i' : Nat) (V : Option Addr) (vn vc : Nat) (xs : List VoE), i' ≤ n2 ∧ i = .int .i64 (i' : Int) ∧ v = .slice V vn vc ∧ Hid (FndS w1 wr V vn vc xs) ∧ Hid (OwnRow wr w1.heap.size ((K, key.length, kc), key)) ∧ Hid (xs.map (·.v) ++ (vRefs true (fun _ _ => true) gt (k : Int) key r (i' : Int) (T.refs.drop i') ++ R3) = vs)) (fun _ i _ => n2 - (intOf i).toNat)
          case atStart => exact ⟨0, V, vn, vc, xs, by omega, rfl, rfl, HF3, HK3, Hs0⟩
          case round =>
            obtain ⟨i, V, vn, vc, xs, hi', rfl, rfl, HF, HK, Hqi⟩ := hrel
            clear zb v3 Hs0 HF3 HK3
            by_cases hin : i < n2
            · obtain ⟨b4, o4, ⟨x, XA, xn, xc⟩, rfl, hx, hcl, x0, x1⟩ := (HRs.out.keep (keeps_of HF.out.be)).at hin
              dsimp only at hx hcl x0 x1
              obtain ⟨ht0, U, hU, hUk, hUc⟩ := HGR.out x (List.mem_of_getElem? hx)
              obtain ⟨tt, htt⟩ := Int.eq_ofNat_of_zero_le ht0
              rw [htt, Int.toNat_natCast] at hU
              rw [htt] at x1
              have htn : tt < n := by rw [← Hln.out]; exact (List.getElem?_eq_some_iff.1 hU).1
              obtain ⟨pu, hpu⟩ : ∃ pu, ls[tt]? = some pu := ⟨_, List.getElem?_eq_getElem (by rw [Hlm.out]; exact htn)⟩
              have Hst := Lib.hid (vRefs_step hx Hqi.out)
              have HU := Lib.hid (And.intro hU hpu)
              have hvn : vn ≤ 4096 := by
                have h := congrArg List.length Hqi.out
                have := HF.out.len
                have := Hvl.out
                simp only [List.length_append, List.length_map] at h
                omega
              have Htt := Lib.hid htt
              have HUG := Lib.hid (HG.out.tb U (List.mem_of_getElem? hU))
              have Hgu : Hid (gt (tt : Int) = fun kk => (getT U (tlR pu) kk).isSome) := Lib.hid (by
                rw [← Hgt.out]
                funext kk
                unfold gtS getS
                rw [Int.toNat_natCast, hU, stR_at hpu])
              have Hu8 : Hid (∀ y ∈ tlR pu, y.length ≤ 8) := Lib.hid (fun y hy => by
                have h1 := fitL_len (rowsB_fit _ none (tabsB_at _ _ _ U _ HV.out hU (stR_at hpu)) y hy)
                unfold Tb.kinds at h1
                rw [List.length_map] at h1
                have := HUG.out.cl
                omega)
              have hx8 : xn ≤ 8 := by
                have h1 := hcl.len
                have h2 := HUG.out.k2
                have h3 := HUG.out.cl
                omega
              have Hin : Hid (∀ cc ∈ x.cols, 0 ≤ cc ∧ cc < (rn : Int)) := Lib.hid (fun cc h => by
                obtain ⟨jj, hjj⟩ := List.mem_iff_getElem?.1 h
                obtain ⟨h1, a, b, h2, _⟩ := hUc jj cc hjj
                have h3 := (List.getElem?_eq_some_iff.1 h2).1
                have h4 := hrn.out.1
                exact ⟨h1, by omega⟩)
              have HCl := Lib.hid (hcl.keep (keeps_alloc wr (.cells #[.slice XA xn xc, .int .i64 (tt : Int)] 65)))
              have HX := Lib.hid (Blk.new wr 65 #[.slice XA xn xc, .int .i64 (tt : Int)])
              have HF4 := Lib.hid (HF.out.below ((Below.refl _ _).alloc (Nat.le_refl _) (.cells #[.slice XA xn xc, .int .i64 (tt : Int)] 65)))
              have HK4 := Lib.hid (HK.out.below ((Below.refl _ _).alloc (Nat.le_refl _) (.cells #[.slice XA xn xc, .int .i64 (tt : Int)] 65)))
              have zX := HX.out.cell
              obtain ⟨X, hX⟩ : ∃ z, wr.heap.size = z := ⟨_, rfl⟩
              clear hx hcl ht0 hU hUk hUc hpu htt Hqi HF HK
              rw [hX] at HX zX
              have HY4 := Lib.hid (HY.out.below HF4.out.be)
              have HZ4 := Lib.hid (HZ.out.below HF4.out.be)
              have HRO4 := Lib.hid (HRO1.out.keep (keeps_of HF4.out.be))
              rw [Htt.out, Hgu.out] at Hst
              obtain ⟨ck, Hck⟩ : ∃ z, Hid (cellsR r x.cols = z) := ⟨_, Lib.hid rfl⟩
              go_upto_region 12 with fail
              clear x0 x1 zX hX
              generalize wr.alloc (.cells #[.slice XA xn xc, .int .i64 (tt : Int)] 65) = w5 at *
              have zx : ∀ i, w5.drew.cell? ⟨X, i, none⟩ = (#[.slice XA xn xc, .int .i64 (tt : Int)] : Array Value)[i]? := HX.out.cell
              have zy : ∀ i, w5.drew.cell? ⟨w.heap.size + 1, i, none⟩ = (#[.slice (some ⟨b, o, none⟩) n cb] : Array Value)[i]? := HY4.out.cell
              have zz : ∀ i, w5.drew.cell? ⟨w.heap.size, i, none⟩ = (#[.int .i64 ver, .slice (some ⟨b3, o3, none⟩) n c] : Array Value)[i]? := HZ4.out.cell
              have HF5 : Hid (FndS w1 w5.drew V vn vc xs) := Lib.hid (HF4.out.below (Below.refl _ _).drew)
              have HK5 : Hid (OwnRow w5.drew w1.heap.size ((K, key.length, kc), key)) := Lib.hid (HK4.out.below (Below.refl _ _).drew)
              have HR5 : Hid (RowOk w5.drew ((R, rn, rc), r)) := Lib.hid (HRO4.out.keep (Keeps.refl _).drew)
              have HC5 : Hid (ClS w5.drew XA xn x.cols) := Lib.hid (HCl.out.keep (Keeps.refl _).drew)
              clear HX HY4 HZ4 HF4 HK4 HRO4 HCl
              generalize hWn : w5.drew = Wn at *
              have hca := @cell_after Wn
              refine wp_region_seg [([0, 1, 2, 3, 4, 5, 6], 7), ([], 8)] [9, 10, 11, 12, 13] (by kernel_rfl) (by kernel_rfl) (fun _ _ d _ _ h => by cases d <;> exact h) ?_
              rw [hWn]
              clear hWn
              simp only [pickSegs, pickOps, opAt, List.map_cons, List.map_nil, List.getElem?_toArray, List.getElem?_cons_zero, List.getElem?_cons_succ, Option.getD_some]
              unfold wpBlocks
              repeat (go_big_quiet_step (fail))
              refine wpQuiet_nil ?_
              clear hca zx zy zz
              go_wp2_with fail
              refine (rcells_any R rn rc r XA xn xc x.cols _ HR5.out (by have := hrn.out.1; have := HGT.out.cl; omega) HC5.out (by omega) Hin.out).mono ?_
              rintro e w6 ⟨TA, tc, rfl, hto, hb6⟩
              rw [Hck.out] at hto ⊢
              rw [Hck.out] at Hst
              have HF6 := Lib.hid (HF5.out.below hb6)
              have HK6 := Lib.hid (HK5.out.below hb6)
              have HT6 := Lib.hid hto.ok
              clear hto HF5 HK5 HR5 HC5 Hin
              go_wp2_with fail
              refine ⟨hb6, ?_⟩
              unfold wpBlocks
              refine wpQuiet_nil ?_
              clear hb6
              go_wp2_with fail
              refine (rget_any ver _ n c tbs _ n cb ls tt U pu TA _ tc ck _ (HS.out.keep (keeps_of HF6.out.be)) hn8 HU.out.1 (by have := HUG.out.k1; omega) (by have := HUG.out.k2; have := HUG.out.cl; omega) (HST.out.keep (keeps_of HF6.out.be)) HU.out.2 HT6.out (fun y hy => Nat.le_trans (Hu8.out y hy) (by omega))).mono ?_
              rintro e w9 ⟨hgt, hb9⟩
              have HF9 := Lib.hid (HF6.out.below hb9)
              have HK9 := Lib.hid (HK6.out.below hb9)
              clear HF6 HK6 HT6
              rcases hgt with ⟨y, YA, yc, rfl, hy, _⟩ | ⟨rfl, hy⟩
              · have Hs2 : Hid (xs.map (·.v) ++ (vRefs true (fun _ _ => true) gt (k : Int) key r ((i + 1 : Nat) : Int) (T.refs.drop (i + 1)) ++ R3) = vs) := Lib.hid (by have h := Hst.out; simpa [hy] using h)
                clear hy Hst
                go_wp2_with fail
                refine ⟨hb9, ?_⟩
                unfold wpBlocks
                repeat (go_big_quiet_step (fail))
                refine wpQuiet_nil ?_
                clear hb9
                go_wp2
                go_roundw
                case rel => exact ⟨i + 1, V, vn, vc, xs, by omega, by go_num, rfl, HF9, HK9, Hs2⟩
                case measure => simp [intOf]; omega
              · have Hs2 : Hid (xs.map (·.v) ++ [⟨1, (k : Int), key, (i : Int)⟩] ++ (vRefs true (fun _ _ => true) gt (k : Int) key r ((i + 1 : Nat) : Int) (T.refs.drop (i + 1)) ++ R3) = vs) := Lib.hid (by have h := Hst.out; simpa [hy] using h)
                clear hy Hst
                go_wp2_with fail
                refine ⟨hb9, ?_⟩
                unfold wpBlocks
                repeat (go_big_quiet_step (fail))
                refine wpQuiet_nil ?_
                clear hb9
                go_wp2_with fail
                refine (copy_any ((K, key.length, kc), key) _ HK9.out.ok (by show key.length ≤ _; omega)).mono ?_
                rintro e w10 ⟨A', c', rfl, hvo, hb10⟩
                have HVO : Hid (OwnRow w10 w1.heap.size ((A', key.length, c'), key)) := Lib.hid ⟨own_weaken hvo HF9.out.be.size, rfl⟩
                have HF10 := Lib.hid (HF9.out.below hb10)
                have HK10 := Lib.hid (HK9.out.below hb10)
                clear hvo hb10 HF9 HK9
                dsimp only
                go_wp2_with (at_builtin; refine wpList_append_one2 (by rfl) (.tmp 61) (.tmp 67) _ (by rfl) w1.heap.size 88 i0 _ 4 48 Tryz.underlying35 hi hz0 hz1 hz2 (by rfl) (by omega) (.slice V vn vc) vn _ (by rfl) w10 #[.int .i64 1, .int .i64 (k : Int), .slice A' key.length c', .int .i64 (i : Int)] HF10.out.own w10.heap.size (by rfl) (by rfl) (by rfl) (one_vo ⟨⟨1, (k : Int), key, (i : Int)⟩, A', key.length, c'⟩) (by simp only [maxLen]; omega) (by omega) HF10.out.be.size ?_; intro g6 cap6 w11 hown6 hg6 hB6 hat6 hlt6)
                have HF11 := Lib.hid (HF10.out.add (x := ⟨⟨1, (k : Int), key, (i : Int)⟩, A', key.length, c'⟩) HVO.out hown6 hg6 hB6)
                have HK11 := Lib.hid (HK10.out.grownT HF10.out.own (by decide) (grown_of_alloc hg6))
                clear hown6 hg6 hB6 hat6 hlt6 HF10 HK10 HVO
                go_roundw
                case rel => exact ⟨i + 1, _, vn + 1, cap6, _, by omega, by go_num, rfl, HF11, HK11, Lib.hid (by have h := Hs2.out; rw [List.map_append]; exact h)⟩
                case measure => simp [intOf]; omega
            · obtain rfl : i = n2 := by omega
              have Hs0 : Hid (xs.map (·.v) ++ (vChks true (k : Int) key r ((0 : Nat) : Int) (T.chks.drop 0) ++ R2) = vs) := Lib.hid (by
                have h := Hqi.out
                rw [List.drop_of_length_le (by rw [HRs.out.len]; exact Nat.le_refl _)] at h
                rw [HR3.out, ← h]
                rfl)
              have v4 := (keeps_of HF.out.be _ (by rw [u4]; rfl)).trans u4
              have zb := (HZ.out.below HF.out.be).cell
              clear Hqi
              go_wp2_with fail
              go_loopw [5, 77] (fun v i wr => ∃ (i' : Nat) (V : Option Addr) (vn vc : Nat) (xs : List VoE), i' ≤ n3 ∧ i = .int .i64 (i' : Int) ∧ v = .slice V vn vc ∧ Hid (FndS w1 wr V vn vc xs) ∧ Hid (OwnRow wr w1.heap.size ((K, key.length, kc), key)) ∧ Hid (xs.map (·.v) ++ (vChks true (k : Int) key r (i' : Int) (T.chks.drop i') ++ R2) = vs)) (fun _ i _ => n3 - (intOf i).toNat)
              case atStart => exact ⟨0, V, vn, vc, xs, by omega, rfl, rfl, HF, HK, Hs0⟩
              case round =>
                clear HF HK Hs0 v4 zb
                obtain ⟨i, V, vn, vc, xs, hi', rfl, rfl, HF, HK, Hqi⟩ := hrel
                by_cases hin : i < n3
                · obtain ⟨b4, o4, pq, A4, n4, k4, rfl, hp, d⟩ := (HEs.out.keep (keeps_of HF.out.be)).arg hin
                  have Hst := Lib.hid (vChks_step hp Hqi.out)
                  have hvn : vn ≤ 4096 := by
                    have h := congrArg List.length Hqi.out
                    have := HF.out.len
                    have := Hvl.out
                    simp only [List.length_append, List.length_map] at h
                    omega
                  have Hnd := Lib.hid (HGT.out.ck pq (List.mem_of_getElem? hp)).2
                  have HSp := Lib.hid (d.s.keep (keeps_alloc wr (.cells (pdV pq.h A4 n4 k4) 71)))
                  have HX := Lib.hid (Blk.new wr 71 (pdV pq.h A4 n4 k4))
                  have HF4 := Lib.hid (HF.out.below ((Below.refl _ _).alloc (Nat.le_refl _) (.cells (pdV pq.h A4 n4 k4) 71)))
                  have HK4 := Lib.hid (HK.out.below ((Below.refl _ _).alloc (Nat.le_refl _) (.cells (pdV pq.h A4 n4 k4) 71)))
                  obtain ⟨d0, d1, d2, d3, d4, d5, d6, d7, d8, d9, d10, d11, d12, ds⟩ := d
                  unfold pdV at HSp HX HF4 HK4
                  have zX := HX.out.cell
                  clear ds hp Hqi HF HK
                  go_wp2_with fail
                  refine (rholds_any r [] 40 pq A4 n4 k4 R rn rc none 0 0 _ Hnd.out (by omega) HSp.out (HRO1.out.rd.keep (keeps_of HF4.out.be)) Sl.nil).mono ?_
                  rintro e w8 ⟨rfl, hb8⟩
                  have HF8 := Lib.hid (HF4.out.below hb8)
                  have HK8 := Lib.hid (HK4.out.below hb8)
                  clear hb8 zX HX HF4 HK4 HSp d0 d1 d2 d3 d4 d5 d6 d7 d8 d9 d10 d11 d12
                  cases hg : holdsB r [] pq
                  · have Hs2 : Hid (xs.map (·.v) ++ [⟨2, (k : Int), key, (i : Int)⟩] ++ (vChks true (k : Int) key r ((i + 1 : Nat) : Int) (T.chks.drop (i + 1)) ++ R2) = vs) := Lib.hid (by have h := Hst.out; simpa [hg] using h)
                    clear hg Hst
                    go_wp2_with fail
                    refine (copy_any ((K, key.length, kc), key) _ HK8.out.ok (by show key.length ≤ _; omega)).mono ?_
                    rintro e w10 ⟨A', c', rfl, hvo, hb10⟩
                    have HVO : Hid (OwnRow w10 w1.heap.size ((A', key.length, c'), key)) := Lib.hid ⟨own_weaken hvo HF8.out.be.size, rfl⟩
                    have HF10 := Lib.hid (HF8.out.below hb10)
                    have HK10 := Lib.hid (HK8.out.below hb10)
                    clear hvo hb10 HF8 HK8
                    dsimp only
                    go_wp2_with (at_builtin; refine wpList_append_one2 (by rfl) (.tmp 86) (.tmp 92) _ (by rfl) w1.heap.size 88 i0 _ 4 48 Tryz.underlying35 hi hz0 hz1 hz2 (by rfl) (by omega) (.slice V vn vc) vn _ (by rfl) w10 #[.int .i64 2, .int .i64 (k : Int), .slice A' key.length c', .int .i64 (i : Int)] HF10.out.own w10.heap.size (by rfl) (by rfl) (by rfl) (one_vo ⟨⟨2, (k : Int), key, (i : Int)⟩, A', key.length, c'⟩) (by simp only [maxLen]; omega) (by omega) HF10.out.be.size ?_; intro g6 cap6 w11 hown6 hg6 hB6 hat6 hlt6)
                    have HF11 := Lib.hid (HF10.out.add (x := ⟨⟨2, (k : Int), key, (i : Int)⟩, A', key.length, c'⟩) HVO.out hown6 hg6 hB6)
                    have HK11 := Lib.hid (HK10.out.grownT HF10.out.own (by decide) (grown_of_alloc hg6))
                    clear hown6 hg6 hB6 hat6 hlt6 HF10 HK10 HVO
                    go_roundw
                    case rel => exact ⟨i + 1, _, vn + 1, cap6, _, by omega, by go_num, rfl, HF11, HK11, Lib.hid (by have h := Hs2.out; rw [List.map_append]; exact h)⟩
                    case measure => simp [intOf]; omega
                  · have Hs2 : Hid (xs.map (·.v) ++ (vChks true (k : Int) key r ((i + 1 : Nat) : Int) (T.chks.drop (i + 1)) ++ R2) = vs) := Lib.hid (by have h := Hst.out; simpa [hg] using h)
                    clear hg Hst
                    go_wp2
                    go_roundw
                    case rel => exact ⟨i + 1, V, vn, vc, xs, by omega, by go_num, rfl, HF8, HK8, Hs2⟩
                    case measure => simp [intOf]; omega
                · obtain rfl : i = n3 := by omega
                  have Hs2 : Hid (xs.map (·.v) ++ (vRows (fun _ _ => true) (fun _ _ => true) gt (k : Int) T ((tlR ((some ⟨b2, o2, none⟩, ln, lc), ps)).drop (j + 1)) ++ R1) = vs) := Lib.hid (by
                    have h := Hqi.out
                    rw [List.drop_of_length_le (by rw [HEs.out.len]; exact Nat.le_refl _)] at h
                    rw [HR2.out, ← h]
                    rfl)
                  clear Hqi
                  go_wp2
                  go_roundw
                  case rel => exact ⟨j + 1, V, vn, vc, xs, by omega, by go_num, rfl, HF, Hs2⟩
                  case measure => simp [intOf]; omega
        · obtain rfl : j = ln := by omega
          have Hx2 : Hid (xs.map (·.v) ++ vTabs (fun _ _ => true) (fun _ _ => true) gt ((k + 1 : Nat) : Int) (tbs.drop (k + 1)) ((stR ls).drop (k + 1)) = vs) := Lib.hid (by
            have := Hqj.out
            rw [List.drop_of_length_le (by rw [hll.out]; exact Nat.le_refl _)] at this
            rw [HR1.out, ← this]
            rfl)
          go_wp2
          go_roundw
          case rel => exact ⟨k + 1, V, vn, vc, xs, by omega, by go_num, rfl, HF, Hx2⟩
          case measure => simp [intOf]; omega
    · obtain rfl : k = n := by omega
      have hvs : Hid (xs.map (·.v) = vs) := Lib.hid (by
        have h := Hq.out
        rw [List.drop_of_length_le (by rw [Hln.out]; exact Nat.le_refl _)] at h
        simpa [vTabs] using h)
      have hvn : vn ≤ 4096 := by
        have h := congrArg List.length hvs.out
        have := HF.out.len
        have := Hvl.out
        simp only [List.length_map] at h
        omega
      have hBB := HB.out.size
      clear Hq
      have HE : Hid (VioO vs w (.returned (.slice V vn vc)) wr) := Lib.hid ⟨V, vn, vc, xs, rfl, ⟨Sl.of_own VoE.cs_len HF.out.len HF.out.own, fun hn b o hA => by
        obtain ⟨g, cur, hV, hgB, _⟩ := HF.out.blk hn
        rw [hV] at hA; injection hA with hA; injection hA with hA; omega, fun x hx => (HF.out.keys x hx).mono hBB⟩, hvs.out, HB.out.trans (HF.out.be.mono hBB)⟩
      go_wp2
      go_ret
      exact HE.out
end Go.Proofs.YtponkkljlbifmaaGreat

/-
  The reference's Violations of a state.
-/
namespace Go.Proofs.YtponkkljlbifmaaGreat
open Go.RowKit
set_option maxRecDepth 100000
open Pd

set_option maxHeartbeats 4000000 in
theorem rviol_any (ver : Int) (A : Option Addr) (n c : Nat) (tbs : List Tb) (B : Option Addr) (m cb : Nat) (ls : List TlP) (w : World) (hs : ScS w A n tbs) (hg : GoodS ver tbs) (hst : StS w B m ls) (hm : m ≤ 9223372036854775807) :
    Calls Tryz.prog 11 #[.agg #[.int .i64 ver, .slice A n c], .agg #[.slice B m cb]] w fun e w' => ViolO tbs (stR ls) w e w' := by
  have HB : Hid (Below w.heap.size w ((w.alloc (.cells #[.int .i64 ver, .slice A n c] 30)).alloc (.cells #[.slice B m cb] 25))) := Lib.hid (((Below.refl _ _).alloc (Nat.le_refl _) _).alloc (by simp) _)
  have HS := Lib.hid (hs.keep (keeps_of HB.out))
  have HST := Lib.hid (hst.keep (keeps_of HB.out))
  have HZ := Lib.hid ((Blk.new w 30 #[.int .i64 ver, .slice A n c]).alloc (.cells #[.slice B m cb] 25))
  have HY := Lib.hid (Blk.new (w.alloc (.cells #[.int .i64 ver, .slice A n c] 30)) 25 #[.slice B m cb])
  rw [World.size_alloc] at HY
  have HG := Lib.hid hg
  have Hln := Lib.hid hs.len
  have Hlm := Lib.hid hst.sl.len
  clear hs hst hg
  go_enter Tryz.func11, Tryz.ntmps11
  go_upto_region 1 with fail
  generalize hW : (w.alloc (.cells #[.int .i64 ver, .slice A n c] 30)).alloc (.cells #[.slice B m cb] 25) = w1 at *
  have z := HZ.out.cell
  have zy := HY.out.cell
  go_wp2_with fail
  refine (rcheck8_any ver A n c tbs B m cb ls _ HS.out HG.out HST.out hm).mono ?_
  rintro e w2 ⟨rfl, hb2⟩
  have HB2 := Lib.hid (HB.out.trans (hb2.mono HB.out.size))
  have HS2 := Lib.hid (HS.out.keep (keeps_of hb2))
  have HST2 := Lib.hid (HST.out.keep (keeps_of hb2))
  have z2 := (HZ.out.below hb2).cell
  have zy2 := (HY.out.below hb2).cell
  clear z zy hb2
  by_cases he : chkS tbs (stR ls) = 0
  · obtain ⟨h5, hl, hv⟩ := chkS_zero he
    have hls : (stR ls).length = m := by unfold stR; rw [List.length_map]; exact Hlm.out
    obtain rfl : m = n := by rw [← hls, hl, Hln.out]
    have HE := Lib.hid he
    rw [he]
    clear he hls hl
    go_wp2_with fail
    refine (rall9_any ver A m c tbs B cb ls _ HS2.out HG.out HST2.out hv h5).mono ?_
    rintro e w3 ⟨V, vn, vc, xs, rfl, hvn, hxs, hb3⟩
    have HR : Hid (ViolO tbs (stR ls) w (.returned (.tuple #[.slice V vn vc, .int .i64 0])) w3) := Lib.hid ⟨.inl ⟨HE.out, V, vn, vc, xs, rfl, hvn.mono HB2.out.size, hxs⟩, Below.next HB2.out hb3⟩
    clear hvn hxs hb3
    go_wp2
    exact bodyPost_ret (v := .tuple #[.slice V vn vc, .int .i64 0]) (by simp [results, Tryz.results11, go_sem]) rfl HR.out
  · have HR : Hid (ViolO tbs (stR ls) w (.returned (.tuple #[.slice none 0 0, .int .i64 (chkS tbs (stR ls))])) w2) := Lib.hid ⟨.inr ⟨he, rfl⟩, HB2.out⟩
    have g : (chkS tbs (stR ls) != 0) = true := by simpa using he
    generalize chkS tbs (stR ls) = ee at *
    clear he
    go_wp2
    exact bodyPost_ret (v := .tuple #[.slice none 0 0, .int .i64 ee]) (by simp [results, Tryz.results11, go_sem]) rfl HR.out
end Go.Proofs.YtponkkljlbifmaaGreat
