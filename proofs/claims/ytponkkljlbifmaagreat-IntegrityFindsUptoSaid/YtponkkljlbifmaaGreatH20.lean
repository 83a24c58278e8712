/-
  Texts: IgFind.
-/
import Derived.Test.YtponkkljlbifmaaGreatH13
import Derived.Test.YtponkkljlbifmaaGreatH19
set_option linter.unusedVariables false
/-
  The program's find: the violations of a valid state.
-/
namespace Go.Proofs.YtponkkljlbifmaaGreat
open Go.RowKit
set_option maxRecDepth 100000
open Pd

/-- a list of violations of the call's own -/
structure VosN (base : Nat) (w : World) (V : Option Addr) (n : Nat) (xs : List VoE) : Prop where
  sl : Sl 4 VoE.cs w V n xs
  far : 0 < n → ∀ b o, V = some ⟨b, o, none⟩ → base ≤ b
  keys : ∀ x ∈ xs, OwnRow w base x.p
/-- a row of values does not lie in the block of violations -/
theorem OwnRow.apart {w : World} {B g : Nat} {q : RowP} (h : OwnRow w B q) {cur : Array Value} (hg : Blk w g 88 cur) : ∀ b, (Value.slice q.1.1 q.1.2.1 q.1.2.2).ownBlock = some b → b ≠ g := by
  intro b hb e
  subst e
  rcases h.1.2 with ⟨hq, _⟩ | ⟨g1, cap1, cur1, hq, _, hh1, _⟩
  · rw [hq] at hb; simp [Value.ownBlock] at hb
  · rw [hq] at hb
    simp only [Value.ownBlock, Option.some.injEq] at hb
    subst hb
    unfold Blk at hg
    rw [hg] at hh1
    injection hh1 with hh1
    injection hh1 with _ ht
    exact absurd ht (by decide)
theorem OwnRow.sorted {w w' : World} {B g : Nat} {q : RowP} (h : OwnRow w B q) {cur : Array Value} (hg : Blk w g 88 cur) (hb : But (· = g) w w') : OwnRow w' B q :=
  ⟨own_at h.1 (fun b _ hlt hv => hb.block b hlt (h.apart hg b hv)), h.2⟩
theorem FndS.blk {w1 wr : World} {V : Option Addr} {n vc : Nat} {xs : List VoE} (h : FndS w1 wr V n vc xs) (hn : 0 < n) : ∃ (g : Nat) (cur : Array Value), V = some ⟨g, 0, none⟩ ∧ w1.heap.size ≤ g ∧ Blk wr g 88 cur := by
  rcases h.own.2 with ⟨_, h2⟩ | ⟨g, cap, cur, hv, hg, hh, _⟩
  · omega
  · injection hv with h1
    exact ⟨g, cur, h1, hg, hh⟩
theorem below_of_but {g B : Nat} {w w' : World} (h : But (· = g) w w') (hg : B ≤ g) (hB : B ≤ w.heap.size) : Below B w w' := ⟨h.os, h.tape, h.output, h.size, fun k hk => h.block k (by omega) (by omega)⟩
def VioO (vs : List Vo) (w : World) (e : Ending) (w' : World) : Prop := ∃ (V : Option Addr) (n vc : Nat) (xs : List VoE), e = .returned (.slice V n vc) ∧ VosN w.heap.size w' V n xs ∧ xs.map (·.v) = vs ∧ Below w.heap.size w w'
set_option maxHeartbeats 16000000 in
theorem find_any (ver : Int) (A : Option Addr) (n c : Nat) (tbs : List Tb) (B : Option Addr) (cb : Nat) (ls : List TlP) (F G : Nat) (cf cg : Array Value) (p q : Int → Rw → Bool) (w : World) (hs : ScS w A n tbs) (hg : GoodS ver tbs) (hst : StS w B n ls) (hv : tabsB tbs (stR ls) = true) (hc : cntS (stR ls) ≤ 512)
    (hF : ∀ args w, (callFunc F args).run Tryz.prog w = .ok (.enter F args) w) (hG : ∀ args w, (callFunc G args).run Tryz.prog w = .ok (.enter G args) w) (tF : TestOk F cf w n p) (tG : TestOk G cg w n q) :
    Calls Tryz.prog 33 #[.agg #[.int .i64 ver, .slice A n c], .agg #[.slice B n cb], .func (.func F) #[] cf, .func (.func G) #[] cg] w fun e w' => VioO (vioS p q tbs (stR ls)) w e w' := by
  obtain ⟨i0, hi, hz0, hz1, hz2⟩ := info_parts info_vo
  obtain ⟨i1, hi1, hy0, hy1, hy2⟩ := info_parts info_vl
  have HB : Hid (Below w.heap.size w ((w.alloc (.cells #[.int .i64 ver, .slice A n c] 30)).alloc (.cells #[.slice B n cb] 25))) := Lib.hid (((Below.refl _ _).alloc (Nat.le_refl _) _).alloc (by simp) _)
  have HS := Lib.hid (hs.keep (keeps_of HB.out))
  have HST := Lib.hid (hst.keep (keeps_of HB.out))
  have TF := Lib.hid (tF.below HB.out)
  have TG := Lib.hid (tG.below HB.out)
  have HZ := Lib.hid ((Blk.new w 30 #[.int .i64 ver, .slice A n c]).alloc (.cells #[.slice B n cb] 25))
  have HY := Lib.hid (Blk.new (w.alloc (.cells #[.int .i64 ver, .slice A n c] 30)) 25 #[.slice B n cb])
  have hW1 : ((w.alloc (.cells #[.int .i64 ver, .slice A n c] 30)).alloc (.cells #[.slice B n cb] 25)).heap.size = w.heap.size + 2 := by simp
  rw [World.size_alloc] at HY
  have HG := Lib.hid hg
  have Hln := Lib.hid hs.len
  have Hlm := Lib.hid hst.sl.len
  have HV := Lib.hid hv
  have hn8 : n ≤ 8 := by have := hg.ln; have := Hln.out; omega
  obtain ⟨vs, Hvs⟩ : ∃ z, Hid (vioS p q tbs (stR ls) = z) := ⟨_, Lib.hid rfl⟩
  have Hvl : Hid (vs.length ≤ 4096) := Lib.hid (by
    rw [← Hvs.out]
    have := vTabs_len (wr := p) (rm := q) (gt := gtS tbs (stR ls)) tbs (stR ls) 0 hg.tb
    unfold vioS
    omega)
  have Hasc : Hid (ascO vs) := Lib.hid (by rw [← Hvs.out]; exact vioS_asc HV.out)
  obtain ⟨gt, Hgt⟩ : ∃ z, Hid (gtS tbs (stR ls) = z) := ⟨_, Lib.hid rfl⟩
  have Hv0 : Hid (([] : List VoE).map (·.v) ++ vTabs p q gt ((0 : Nat) : Int) (tbs.drop 0) ((stR ls).drop 0) = vs) := Lib.hid (by rw [← Hvs.out, ← Hgt.out]; rfl)
  rw [Hvs.out]
  clear hs hst hg hv tF tG Hvs hc
  go_enter Tryz.func33, Tryz.ntmps33
  go_upto_region 2 with fail
  generalize hW : (w.alloc (.cells #[.int .i64 ver, .slice A n c] 30)).alloc (.cells #[.slice B n cb] 25) = w1 at *
  have zy := HY.out.cell
  go_wp2_with fail
  go_loopw [9, 28] (fun v i wr => ∃ (k : Nat) (V : Option Addr) (vn vc : Nat) (xs : List VoE), k ≤ n ∧ i = .int .i64 (k : Int) ∧ v = .slice V vn vc ∧ Hid (FndS w1 wr V vn vc xs) ∧ Hid (xs.map (·.v) ++ vTabs p q gt (k : Int) (tbs.drop k) ((stR ls).drop k) = vs)) (fun _ i _ => n - (intOf i).toNat)
  case atStart => exact ⟨0, none, 0, 0, [], by omega, rfl, rfl, Lib.hid (FndS.nil w1), Hv0⟩
  case round =>
    obtain ⟨k, V, vn, vc, xs, hk, rfl, rfl, HF, Hq⟩ := hrel
    clear zy Hv0
    by_cases hlt : k < n
    · obtain ⟨T, hT⟩ : ∃ T, tbs[k]? = some T := ⟨_, List.getElem?_eq_getElem (by rw [Hln.out]; exact hlt)⟩
      obtain ⟨b, o, ⟨⟨L, ln, lc⟩, ps⟩, rfl, hl, hok, c0⟩ := (HST.out.keep (keeps_of HF.out.be)).at hlt
      dsimp only at c0
      have HT := Lib.hid hT
      have HGT := Lib.hid (HG.out.tb T (List.mem_of_getElem? hT))
      have HGR := Lib.hid (HG.out.rf T (List.mem_of_getElem? hT))
      have Hst := Lib.hid (vTabs_step hT (stR_at hl) Hq.out)
      have HFit := Lib.hid (rowsB_fit _ none (tabsB_at _ _ _ T _ HV.out hT (stR_at hl)))
      obtain ⟨R1, HR1⟩ : ∃ z, Hid (vTabs p q gt ((k + 1 : Nat) : Int) (tbs.drop (k + 1)) ((stR ls).drop (k + 1)) = z) := ⟨_, Lib.hid rfl⟩
      rw [HR1.out] at Hst
      have hll : Hid ((tlR ((L, ln, lc), ps)).length = ln) := Lib.hid hok.len
      have HR := Lib.hid ((HST.out.at hlt))
      have hlm : ln ≤ 9223372036854775807 := Nat.le_trans hok.le hok.mx
      have HRS : Hid (RowsS w1 L ln ps) := Lib.hid (by
        obtain ⟨b', o', pl, e, hl', hok', _⟩ := HR.out
        rw [hl] at hl'
        injection hl' with hl'
        subst hl'
        exact hok'.rd)
      clear hT hl hok Hq HR
      go_wp2_with fail
      go_loopw [9, 35] (fun v i wr => ∃ (j : Nat) (V : Option Addr) (vn vc : Nat) (xs : List VoE), j ≤ ln ∧ i = .int .i64 (j : Int) ∧ v = .slice V vn vc ∧ Hid (FndS w1 wr V vn vc xs) ∧ Hid (xs.map (·.v) ++ (vRows p q gt (k : Int) T ((tlR ((L, ln, lc), ps)).drop j) ++ R1) = vs)) (fun _ i _ => ln - (intOf i).toNat)
      case atStart => exact ⟨0, V, vn, vc, xs, by omega, rfl, rfl, HF, Hst⟩
      case round =>
        obtain ⟨j, V, vn, vc, xs, hj, rfl, rfl, HF, Hqj⟩ := hrel
        clear c0 Hst
        by_cases hjn : j < ln
        · obtain ⟨b2, o2, ⟨⟨R, rn, rc⟩, r⟩, rfl, c1, hro, hp⟩ := (HRS.out.keep (keeps_of HF.out.be)).get2 hjn
          dsimp only at c1
          have hrm : r ∈ tlR ((some ⟨b2, o2, none⟩, ln, lc), ps) := List.mem_of_getElem? (tlR_at hp)
          have hrf := HFit.out r hrm
          have hrn : Hid (rn = T.cols.length ∧ r.length = T.cols.length) := Lib.hid (by
            have h1 := fitL_len hrf
            have h2 := hro.rd.len
            unfold Tb.kinds at h1
            rw [List.length_map] at h1
            simp only at h2
            omega)
          have Hs0 := Lib.hid (vRows_step (tlR_at hp) Hqj.out)
          obtain ⟨R2, HR2⟩ : ∃ z, Hid (vRows p q gt (k : Int) T ((tlR ((some ⟨b2, o2, none⟩, ln, lc), ps)).drop (j + 1)) ++ R1 = z) := ⟨_, Lib.hid rfl⟩
          rw [HR2.out] at Hs0
          have HRO := Lib.hid hro
          have HRO1 := Lib.hid (HRS.out.ok _ (List.mem_of_getElem? hp))
          have zb := (HZ.out.below HF.out.be).cell
          clear hro hp Hqj hrm hrf
          go_wp2_with fail
          refine (skey_any ver A n c tbs k T R rn rc r _ (HS.out.keep (keeps_of HF.out.be)) hn8 HT.out (by have := HGT.out.k1; omega) (by have := HGT.out.k2; have := HGT.out.cl; omega) HRO.out).mono ?_
          rintro e w2 ⟨K, kc, rfl, hko, hb2⟩
          obtain ⟨key, Hky⟩ : ∃ z, Hid (keyT T r = z) := ⟨_, Lib.hid rfl⟩
          rw [Hky.out] at hko Hs0 ⊢
          have HF2 := Lib.hid (HF.out.below hb2)
          have HRO2 := Lib.hid (HRO.out.keep (keeps_of hb2))
          have HKO : Hid (OwnRow w2 w1.heap.size ((K, key.length, kc), key)) := Lib.hid (hko.mono HF.out.be.size)
          have hk8 : key.length ≤ 8 := by have := keyT_len T r; have := HGT.out.cl; have := hrn.out.2; rw [Hky.out] at *; omega
          clear c1 zb hb2 hko HF HRO
          go_wp2_with fail
          refine (TF.out w2 HF2.out.be k K _ kc key hlt HKO.out.ok).mono ?_
          rintro e w3 ⟨rfl, hb3⟩
          obtain ⟨hit, Hh⟩ : ∃ z, Hid (p k key = z) := ⟨_, Lib.hid rfl⟩
          rw [Hh.out] at Hs0 ⊢
          have HF3 := Lib.hid (HF2.out.below hb3)
          have HK3 := Lib.hid (HKO.out.below hb3)
          obtain ⟨b3, o3, ⟨T', ⟨A1, n1, k1⟩, ⟨A2, n2, k2⟩, ⟨A3, n3, k3⟩⟩, rfl, hT', hok, u0, u1, u2, u3, u4⟩ := HS.out.at hlt
          obtain rfl : T = T' := by have := HT.out; rw [hT'] at this; injection this with this; exact this.symm
          dsimp only at u0 u1 u2 u3 u4
          obtain ⟨rs, hrs⟩ := hok.rs
          obtain ⟨es, hhs⟩ := hok.hs
          have HRs := Lib.hid hrs
          have HEs := Lib.hid hhs
          have hn2 : n2 ≤ 4 := by have := hrs.len; have := HGT.out.rl; simp only at *; omega
          have hn3 : n3 ≤ 4 := by have := hhs.len; have := HGT.out.hl; simp only at *; omega
          have hkp := keeps_of HF3.out.be
          have v3 := (hkp _ (by rw [u3]; rfl)).trans u3
          have zb := (HZ.out.below HF3.out.be).cell
          obtain ⟨R3, HR3⟩ : ∃ z, Hid (vChks hit (k : Int) key r ((0 : Nat) : Int) (T.chks.drop 0) ++ R2 = z) := ⟨_, Lib.hid rfl⟩
          rw [HR3.out] at Hs0
          clear hb3 HF2 HKO HRO2 hT' hok hrs hhs hkp u0 u1 u2
          go_wp2_with fail
          go_loopw [9, 54] (fun v i wr => ∃ (i' : Nat) (V : Option Addr) (vn vc : Nat) (xs : List VoE), i' ≤ n2 ∧ i = .int .i64 (i' : Int) ∧ v = .slice V vn vc ∧ Hid (FndS w1 wr V vn vc xs) ∧ Hid (OwnRow wr w1.heap.size ((K, key.length, kc), key)) ∧ Hid (xs.map (·.v) ++ (vRefs hit q gt (k : Int) key r (i' : Int) (T.refs.drop i') ++ R3) = vs)) (fun _ i _ => n2 - (intOf i).toNat)
          case atStart => exact ⟨0, V, vn, vc, xs, by omega, rfl, rfl, HF3, HK3, Hs0⟩
          case round =>
            obtain ⟨i, V, vn, vc, xs, hi', rfl, rfl, HF, HK, Hqi⟩ := hrel
            clear zb v3 Hs0 HF3 HK3
            by_cases hin : i < n2
            · obtain ⟨b4, o4, ⟨x, XA, xn, xc⟩, rfl, hx, hcl, x0, x1⟩ := (HRs.out.keep (keeps_of HF.out.be)).at hin
              dsimp only at hx hcl x0 x1
              obtain ⟨ht0, U, hU, hUk, hUc⟩ := HGR.out x (List.mem_of_getElem? hx)
              obtain ⟨tt, htt⟩ := Int.eq_ofNat_of_zero_le ht0
              rw [htt, Int.toNat_natCast] at hU
              rw [htt] at x1
              have htn : tt < n := by rw [← Hln.out]; exact (List.getElem?_eq_some_iff.1 hU).1
              obtain ⟨pu, hpu⟩ : ∃ pu, ls[tt]? = some pu := ⟨_, List.getElem?_eq_getElem (by rw [Hlm.out]; exact htn)⟩
              have Hst := Lib.hid (vRefs_step hx Hqi.out)
              have HU := Lib.hid (And.intro hU hpu)
              have hvn : vn ≤ 4096 := by
                have h := congrArg List.length Hqi.out
                have := HF.out.len
                have := Hvl.out
                simp only [List.length_append, List.length_map] at h
                omega
              have Htt := Lib.hid htt
              have HUG := Lib.hid (HG.out.tb U (List.mem_of_getElem? hU))
              have Hgu : Hid (gt (tt : Int) = fun kk => (getT U (tlR pu) kk).isSome) := Lib.hid (by
                rw [← Hgt.out]
                funext kk
                unfold gtS getS
                rw [Int.toNat_natCast, hU, stR_at hpu])
              have Hu8 : Hid (∀ y ∈ tlR pu, y.length ≤ 8) := Lib.hid (fun y hy => by
                have h1 := fitL_len (rowsB_fit _ none (tabsB_at _ _ _ U _ HV.out hU (stR_at hpu)) y hy)
                unfold Tb.kinds at h1
                rw [List.length_map] at h1
                have := HUG.out.cl
                omega)
              have hx8 : xn ≤ 8 := by
                have h1 := hcl.len
                have h2 := HUG.out.k2
                have h3 := HUG.out.cl
                omega
              have Hcs : Hid (∀ (jj : Nat) (cc : Int), x.cols[jj]? = some cc → 0 ≤ cc ∧ ∃ v, r[cc.toNat]? = some v) := Lib.hid (fun jj cc h => by
                obtain ⟨h1, a, b, h2, _⟩ := hUc jj cc h
                refine ⟨h1, _, List.getElem?_eq_getElem (?_ : cc.toNat < r.length)⟩
                rw [hrn.out.2]
                exact (List.getElem?_eq_some_iff.1 h2).1)
              have HCl := Lib.hid (hcl.keep (keeps_alloc wr (.cells #[.slice XA xn xc, .int .i64 (tt : Int)] 65)))
              have HX := Lib.hid (Blk.new wr 65 #[.slice XA xn xc, .int .i64 (tt : Int)])
              have HF4 := Lib.hid (HF.out.below ((Below.refl _ _).alloc (Nat.le_refl _) (.cells #[.slice XA xn xc, .int .i64 (tt : Int)] 65)))
              have HK4 := Lib.hid (HK.out.below ((Below.refl _ _).alloc (Nat.le_refl _) (.cells #[.slice XA xn xc, .int .i64 (tt : Int)] 65)))
              have zX := HX.out.cell
              obtain ⟨X, hX⟩ : ∃ z, wr.heap.size = z := ⟨_, rfl⟩
              clear hx hcl ht0 hU hUk hUc hpu htt Hqi HF HK
              rw [hX] at HX zX
              go_upto_region 13 with fail
              generalize hW5 : wr.alloc (.cells #[.slice XA xn xc, .int .i64 (tt : Int)] 65) = w5 at *
              have hXl := HX.out.lt
              clear x0 x1 hW5
              go_wp2_with (at_make; refine wpList_make_own w5 rfl _ _ _ rfl w5.heap.size 67 i1 _ 3 Tryz.underlying75 hi1 hy0 hy1 .i64 .i64 _ xn rfl rfl (by omega) (by rw [hy2]; omega) (by simp only [maxLen]; omega) (Nat.le_refl _) ?_; intro w6 hown hg6; have hb6 : Below w5.heap.size w5 w6 := (Below.refl _ _).grown hg6 (Nat.le_refl _) (fun k hk => by cases hk); have z6 := (HX.out.below hb6).cell)
              have HO6 := Lib.hid hown
              have HB6 := Lib.hid hb6
              clear zX hown hg6 hb6
              go_loopw [18, 66] (fun v i wr => ∃ (jj : Nat) (TA : Option Addr) (tc : Nat), jj ≤ xn ∧ i = .int .i64 (jj : Int) ∧ v = .slice TA jj tc ∧ Hid (wr.ownsRow w5.heap.size 67 3 (.slice TA jj tc) jj ((cellsR r (x.cols.take jj)).flatMap Vl.cs)) ∧ Hid (Below w5.heap.size w5 wr)) (fun _ i _ => xn - (intOf i).toNat)
              case atStart => exact ⟨0, _, _, by omega, rfl, rfl, HO6, HB6⟩
              case round =>
                obtain ⟨jj, TA, tc, hjj, rfl, rfl, HO, HBj⟩ := hrel
                clear z6
                by_cases hjx : jj < xn
                · obtain ⟨b5, o5, cc, rfl, hcc, hcx⟩ := (HCl.out.keep (keeps_of HBj.out)).at hjx
                  have y0 := hcx 0 _ rfl
                  simp only [Nat.mul_one, Nat.add_zero] at y0
                  obtain ⟨h0, v, hv⟩ := Hcs.out jj cc hcc
                  have Htk := Lib.hid (cells_take hcc hv)
                  obtain ⟨cn, rfl⟩ := Int.eq_ofNat_of_zero_le h0
                  rw [Int.toNat_natCast] at hv
                  have hcn : cn < rn := by have := (List.getElem?_eq_some_iff.1 hv).1; have := hrn.out; omega
                  obtain ⟨b6, o6, v', rfl, hv', hvc⟩ := (HRO1.out.rd.keep (keeps_of (HF4.out.be.trans (HBj.out.mono HF4.out.be.size)))).at hcn
                  obtain rfl : v = v' := by rw [hv] at hv'; injection hv'
                  obtain ⟨vk, vi, vt⟩ := v
                  have d0 : wr.cell? ⟨b6, o6 + cn * 3, none⟩ = some (.int .i64 vk) := hvc 0 (.int .i64 vk) rfl
                  have d1 : wr.cell? ⟨b6, o6 + cn * 3 + 1, none⟩ = some (.int .i64 vi) := hvc 1 (.int .i64 vi) rfl
                  have d2 : wr.cell? ⟨b6, o6 + cn * 3 + 2, none⟩ = some (.string vt) := hvc 2 (.string vt) rfl
                  clear hcc hcx h0 hv hv' hvc
                  go_wp2_with (at_builtin; refine wpList_append_one2 (by rfl) (.tmp 70) (.tmp 75) _ (by rfl) w5.heap.size 67 i1 _ 3 32 Tryz.underlying75 hi1 hy0 hy1 hy2 (by rfl) (by omega) (.slice TA jj tc) jj _ (by rfl) wr #[.int .i64 vk, .int .i64 vi, .string vt] HO.out wr.heap.size (by rfl) (by rfl) (by rfl) (one_vl ⟨vk, vi, vt⟩) (by simp only [maxLen]; omega) (by omega) HBj.out.size ?_; intro g6 cap6 w7 hown6 hg6 hB6 hat6 hlt6)
                  have HB7 := Lib.hid (HBj.out.trans hB6)
                  have HO7 := Lib.hid hown6
                  clear hown6 hg6 hB6 hat6 hlt6 d0 d1 d2 y0
                  go_roundw
                  case rel => exact ⟨jj + 1, _, cap6, by omega, by go_num, rfl, Lib.hid (by rw [Htk.out, List.flatMap_append]; exact HO7.out), HB7⟩
                  case measure => simp [intOf]; omega
                · obtain rfl : jj = xn := by omega
                  have hxl := HCl.out.len
                  have HTA : Hid (OwnRow wr w5.heap.size ((TA, jj, tc), cellsR r x.cols)) := Lib.hid (by
                    have h1 := HO.out
                    rw [List.take_of_length_le (by omega)] at h1
                    exact ⟨h1, by unfold cellsR; rw [List.length_map]; exact hxl⟩)
                  obtain ⟨ck, Hck⟩ : ∃ z, Hid (cellsR r x.cols = z) := ⟨_, Lib.hid rfl⟩
                  rw [Hck.out] at HTA Hst
                  have HXB := Lib.hid HBj.out
                  have HF7 : Hid (FndS w1 wr V vn vc xs) := Lib.hid (HF4.out.below HBj.out)
                  have HK7 : Hid (OwnRow wr w1.heap.size ((K, key.length, kc), key)) := Lib.hid (HK4.out.below HBj.out)
                  have zX := (HX.out.below HBj.out).cell
                  rw [Htt.out, Hgu.out] at Hst
                  have hwb : w1.heap.size ≤ w5.heap.size := HF4.out.be.size
                  clear HO hxl HF4 HK4 HBj HB6 HO6
                  cases hit
                  · go_wp2_with fail
                    refine (TG.out wr HF7.out.be tt TA jj tc ck htn HTA.out.ok).mono ?_
                    rintro e w8 ⟨rfl, hb8⟩
                    have HF8 := Lib.hid (HF7.out.below hb8)
                    have HK8 := Lib.hid (HK7.out.below hb8)
                    have HTA8 := Lib.hid (HTA.out.below hb8)
                    have zX8 := (HX.out.below (HXB.out.trans (hb8.mono HXB.out.size))).cell
                    clear hb8 zX HF7 HK7 HTA
                    have zX := zX8
                    clear zX8
                    cases hqk : q (tt : Int) ck
                    · have Hs2 : Hid (xs.map (·.v) ++ (vRefs false q gt (k : Int) key r ((i + 1 : Nat) : Int) (T.refs.drop (i + 1)) ++ R3) = vs) := Lib.hid (by have h := Hst.out; simpa [hqk] using h)
                      clear hqk Hst zX
                      go_wp2
                      go_roundw
                      case rel => exact ⟨i + 1, V, vn, vc, xs, by omega, by go_num, rfl, HF8, HK8, Hs2⟩
                      case measure => simp [intOf]; omega
                    · rw [hqk] at Hst
                      clear hqk
                      have zb8 := (HZ.out.below HF8.out.be).cell
                      have zy8 := (HY.out.below HF8.out.be).cell
                      go_wp2_with fail
                      refine (tGet_any ver _ n c tbs _ n cb ls tt U pu TA jj tc ck _ (HS.out.keep (keeps_of HF8.out.be)) hn8 HU.out.1 (by have := HUG.out.k1; omega) (HST.out.keep (keeps_of HF8.out.be)) HU.out.2 HTA8.out.ok Hu8.out).mono ?_
                      rintro e w9 ⟨⟨v9, rfl⟩, hb9⟩
                      have HF9 := Lib.hid (HF8.out.below hb9)
                      have HK9 := Lib.hid (HK8.out.below hb9)
                      clear zb8 zy8 zX hb9 HF8 HK8 HTA8
                      cases hg : (getT U (tlR pu) ck).isSome
                      · have Hs2 : Hid (xs.map (·.v) ++ [⟨1, (k : Int), key, (i : Int)⟩] ++ (vRefs false q gt (k : Int) key r ((i + 1 : Nat) : Int) (T.refs.drop (i + 1)) ++ R3) = vs) := Lib.hid (by have h := Hst.out; simpa [hg] using h)
                        clear hg Hst
                        go_wp2_with fail
                        refine (violation_any ⟨1, (k : Int), key, (i : Int)⟩ K _ kc _ HK9.out.ok (by omega)).mono ?_
                        rintro e w10 ⟨A', c', rfl, hvo, hb10⟩
                        have HVO := Lib.hid (hvo.mono HF9.out.be.size)
                        have HF10 := Lib.hid (HF9.out.below hb10)
                        have HK10 := Lib.hid (HK9.out.below hb10)
                        clear hvo hb10 HF9 HK9
                        dsimp only at HVO
                        go_wp2_with (at_builtin; refine wpList_append_one2 (by rfl) (.tmp 99) (.tmp 104) _ (by rfl) w1.heap.size 88 i0 _ 4 48 Tryz.underlying35 hi hz0 hz1 hz2 (by rfl) (by omega) (.slice V vn vc) vn _ (by rfl) w10 #[.int .i64 1, .int .i64 (k : Int), .slice A' key.length c', .int .i64 (i : Int)] HF10.out.own w10.heap.size (by rfl) (by rfl) (by rfl) (one_vo ⟨⟨1, (k : Int), key, (i : Int)⟩, A', key.length, c'⟩) (by simp only [maxLen]; omega) (by omega) HF10.out.be.size ?_; intro g6 cap6 w11 hown6 hg6 hB6 hat6 hlt6)
                        have HF11 := Lib.hid (HF10.out.add (x := ⟨⟨1, (k : Int), key, (i : Int)⟩, A', key.length, c'⟩) HVO.out hown6 hg6 hB6)
                        have HK11 := Lib.hid (HK10.out.grownT HF10.out.own (by decide) (grown_of_alloc hg6))
                        clear hown6 hg6 hB6 hat6 hlt6 HF10 HK10 HVO
                        go_roundw
                        case rel => exact ⟨i + 1, _, vn + 1, cap6, _, by omega, by go_num, rfl, HF11, HK11, Lib.hid (by have h := Hs2.out; rw [List.map_append]; exact h)⟩
                        case measure => simp [intOf]; omega
                      · have Hs2 : Hid (xs.map (·.v) ++ (vRefs false q gt (k : Int) key r ((i + 1 : Nat) : Int) (T.refs.drop (i + 1)) ++ R3) = vs) := Lib.hid (by have h := Hst.out; simpa [hg] using h)
                        clear hg Hst
                        go_wp2
                        go_roundw
                        case rel => exact ⟨i + 1, V, vn, vc, xs, by omega, by go_num, rfl, HF9, HK9, Hs2⟩
                        case measure => simp [intOf]; omega
                  · have HF8 := HF7
                    have HK8 := HK7
                    have HTA8 := HTA
                    clear HF7 HK7 HTA
                    have zb8 := (HZ.out.below HF8.out.be).cell
                    have zy8 := (HY.out.below HF8.out.be).cell
                    go_wp2_with fail
                    refine (tGet_any ver _ n c tbs _ n cb ls tt U pu TA jj tc ck _ (HS.out.keep (keeps_of HF8.out.be)) hn8 HU.out.1 (by have := HUG.out.k1; omega) (HST.out.keep (keeps_of HF8.out.be)) HU.out.2 HTA8.out.ok Hu8.out).mono ?_
                    rintro e w9 ⟨⟨v9, rfl⟩, hb9⟩
                    have HF9 := Lib.hid (HF8.out.below hb9)
                    have HK9 := Lib.hid (HK8.out.below hb9)
                    clear zb8 zy8 zX hb9 HF8 HK8 HTA8
                    cases hg : (getT U (tlR pu) ck).isSome
                    · have Hs2 : Hid (xs.map (·.v) ++ [⟨1, (k : Int), key, (i : Int)⟩] ++ (vRefs true q gt (k : Int) key r ((i + 1 : Nat) : Int) (T.refs.drop (i + 1)) ++ R3) = vs) := Lib.hid (by have h := Hst.out; simpa [hg] using h)
                      clear hg Hst
                      go_wp2_with fail
                      refine (violation_any ⟨1, (k : Int), key, (i : Int)⟩ K _ kc _ HK9.out.ok (by omega)).mono ?_
                      rintro e w10 ⟨A', c', rfl, hvo, hb10⟩
                      have HVO := Lib.hid (hvo.mono HF9.out.be.size)
                      have HF10 := Lib.hid (HF9.out.below hb10)
                      have HK10 := Lib.hid (HK9.out.below hb10)
                      clear hvo hb10 HF9 HK9
                      dsimp only at HVO
                      go_wp2_with (at_builtin; refine wpList_append_one2 (by rfl) (.tmp 99) (.tmp 104) _ (by rfl) w1.heap.size 88 i0 _ 4 48 Tryz.underlying35 hi hz0 hz1 hz2 (by rfl) (by omega) (.slice V vn vc) vn _ (by rfl) w10 #[.int .i64 1, .int .i64 (k : Int), .slice A' key.length c', .int .i64 (i : Int)] HF10.out.own w10.heap.size (by rfl) (by rfl) (by rfl) (one_vo ⟨⟨1, (k : Int), key, (i : Int)⟩, A', key.length, c'⟩) (by simp only [maxLen]; omega) (by omega) HF10.out.be.size ?_; intro g6 cap6 w11 hown6 hg6 hB6 hat6 hlt6)
                      have HF11 := Lib.hid (HF10.out.add (x := ⟨⟨1, (k : Int), key, (i : Int)⟩, A', key.length, c'⟩) HVO.out hown6 hg6 hB6)
                      have HK11 := Lib.hid (HK10.out.grownT HF10.out.own (by decide) (grown_of_alloc hg6))
                      clear hown6 hg6 hB6 hat6 hlt6 HF10 HK10 HVO
                      go_roundw
                      case rel => exact ⟨i + 1, _, vn + 1, cap6, _, by omega, by go_num, rfl, HF11, HK11, Lib.hid (by have h := Hs2.out; rw [List.map_append]; exact h)⟩
                      case measure => simp [intOf]; omega
                    · have Hs2 : Hid (xs.map (·.v) ++ (vRefs true q gt (k : Int) key r ((i + 1 : Nat) : Int) (T.refs.drop (i + 1)) ++ R3) = vs) := Lib.hid (by have h := Hst.out; simpa [hg] using h)
                      clear hg Hst
                      go_wp2
                      go_roundw
                      case rel => exact ⟨i + 1, V, vn, vc, xs, by omega, by go_num, rfl, HF9, HK9, Hs2⟩
                      case measure => simp [intOf]; omega
            · obtain rfl : i = n2 := by omega
              have Hs0 : Hid (xs.map (·.v) ++ (vChks hit (k : Int) key r ((0 : Nat) : Int) (T.chks.drop 0) ++ R2) = vs) := Lib.hid (by
                have h := Hqi.out
                rw [List.drop_of_length_le (by rw [HRs.out.len]; exact Nat.le_refl _)] at h
                rw [HR3.out, ← h]
                rfl)
              have v4 := (keeps_of HF.out.be _ (by rw [u4]; rfl)).trans u4
              have zb := (HZ.out.below HF.out.be).cell
              clear Hqi
              go_wp2_with fail
              go_loopw [9, 114] (fun v i wr => ∃ (i' : Nat) (V : Option Addr) (vn vc : Nat) (xs : List VoE), i' ≤ n3 ∧ i = .int .i64 (i' : Int) ∧ v = .slice V vn vc ∧ Hid (FndS w1 wr V vn vc xs) ∧ Hid (OwnRow wr w1.heap.size ((K, key.length, kc), key)) ∧ Hid (xs.map (·.v) ++ (vChks hit (k : Int) key r (i' : Int) (T.chks.drop i') ++ R2) = vs)) (fun _ i _ => n3 - (intOf i).toNat)
              case atStart => exact ⟨0, V, vn, vc, xs, by omega, rfl, rfl, HF, HK, Hs0⟩
              case round =>
                clear HF HK Hs0 v4 zb
                obtain ⟨i, V, vn, vc, xs, hi', rfl, rfl, HF, HK, Hqi⟩ := hrel
                by_cases hin : i < n3
                · obtain ⟨b4, o4, pq, A4, n4, k4, rfl, hp, d⟩ := (HEs.out.keep (keeps_of HF.out.be)).arg hin
                  have Hst := Lib.hid (vChks_step hp Hqi.out)
                  have hvn : vn ≤ 4096 := by
                    have h := congrArg List.length Hqi.out
                    have := HF.out.len
                    have := Hvl.out
                    simp only [List.length_append, List.length_map] at h
                    omega
                  have Hnd := Lib.hid (HGT.out.ck pq (List.mem_of_getElem? hp)).2
                  have HSp := Lib.hid (d.s.keep (keeps_alloc wr (.cells (pdV pq.h A4 n4 k4) 71)))
                  have HX := Lib.hid (Blk.new wr 71 (pdV pq.h A4 n4 k4))
                  have HF4 := Lib.hid (HF.out.below ((Below.refl _ _).alloc (Nat.le_refl _) (.cells (pdV pq.h A4 n4 k4) 71)))
                  have HK4 := Lib.hid (HK.out.below ((Below.refl _ _).alloc (Nat.le_refl _) (.cells (pdV pq.h A4 n4 k4) 71)))
                  obtain ⟨d0, d1, d2, d3, d4, d5, d6, d7, d8, d9, d10, d11, d12, ds⟩ := d
                  unfold pdV at HSp HX HF4 HK4
                  have zX := HX.out.cell
                  clear ds hp Hqi HF HK
                  cases hit
                  · have Hs2 : Hid (xs.map (·.v) ++ (vChks false (k : Int) key r ((i + 1 : Nat) : Int) (T.chks.drop (i + 1)) ++ R2) = vs) := Lib.hid (by have h := Hst.out; simpa using h)
                    clear Hst
                    go_wp2
                    go_roundw
                    case rel => exact ⟨i + 1, V, vn, vc, xs, by omega, by go_num, rfl, HF4, HK4, Hs2⟩
                    case measure => simp [intOf]; omega
                  · go_wp2_with fail
                    refine (holds_any r [] 40 pq A4 n4 k4 R rn rc none 0 0 _ Hnd.out (by omega) HSp.out (HRO1.out.rd.keep (keeps_of HF4.out.be)) Sl.nil).mono ?_
                    rintro e w8 ⟨rfl, hb8⟩
                    have HF8 := Lib.hid (HF4.out.below hb8)
                    have HK8 := Lib.hid (HK4.out.below hb8)
                    clear hb8 zX HX HF4 HK4 HSp d0 d1 d2 d3 d4 d5 d6 d7 d8 d9 d10 d11 d12
                    cases hg : holdsB r [] pq
                    · have Hs2 : Hid (xs.map (·.v) ++ [⟨2, (k : Int), key, (i : Int)⟩] ++ (vChks true (k : Int) key r ((i + 1 : Nat) : Int) (T.chks.drop (i + 1)) ++ R2) = vs) := Lib.hid (by have h := Hst.out; simpa [hg] using h)
                      clear hg Hst
                      go_wp2_with fail
                      refine (violation_any ⟨2, (k : Int), key, (i : Int)⟩ K _ kc _ HK8.out.ok (by omega)).mono ?_
                      rintro e w10 ⟨A', c', rfl, hvo, hb10⟩
                      have HVO := Lib.hid (hvo.mono HF8.out.be.size)
                      have HF10 := Lib.hid (HF8.out.below hb10)
                      have HK10 := Lib.hid (HK8.out.below hb10)
                      clear hvo hb10 HF8 HK8
                      dsimp only at HVO
                      go_wp2_with (at_builtin; refine wpList_append_one2 (by rfl) (.tmp 126) (.tmp 131) _ (by rfl) w1.heap.size 88 i0 _ 4 48 Tryz.underlying35 hi hz0 hz1 hz2 (by rfl) (by omega) (.slice V vn vc) vn _ (by rfl) w10 #[.int .i64 2, .int .i64 (k : Int), .slice A' key.length c', .int .i64 (i : Int)] HF10.out.own w10.heap.size (by rfl) (by rfl) (by rfl) (one_vo ⟨⟨2, (k : Int), key, (i : Int)⟩, A', key.length, c'⟩) (by simp only [maxLen]; omega) (by omega) HF10.out.be.size ?_; intro g6 cap6 w11 hown6 hg6 hB6 hat6 hlt6)
                      have HF11 := Lib.hid (HF10.out.add (x := ⟨⟨2, (k : Int), key, (i : Int)⟩, A', key.length, c'⟩) HVO.out hown6 hg6 hB6)
                      have HK11 := Lib.hid (HK10.out.grownT HF10.out.own (by decide) (grown_of_alloc hg6))
                      clear hown6 hg6 hB6 hat6 hlt6 HF10 HK10 HVO
                      go_roundw
                      case rel => exact ⟨i + 1, _, vn + 1, cap6, _, by omega, by go_num, rfl, HF11, HK11, Lib.hid (by have h := Hs2.out; rw [List.map_append]; exact h)⟩
                      case measure => simp [intOf]; omega
                    · have Hs2 : Hid (xs.map (·.v) ++ (vChks true (k : Int) key r ((i + 1 : Nat) : Int) (T.chks.drop (i + 1)) ++ R2) = vs) := Lib.hid (by have h := Hst.out; simpa [hg] using h)
                      clear hg Hst
                      go_wp2
                      go_roundw
                      case rel => exact ⟨i + 1, V, vn, vc, xs, by omega, by go_num, rfl, HF8, HK8, Hs2⟩
                      case measure => simp [intOf]; omega
                · obtain rfl : i = n3 := by omega
                  have Hs2 : Hid (xs.map (·.v) ++ (vRows p q gt (k : Int) T ((tlR ((some ⟨b2, o2, none⟩, ln, lc), ps)).drop (j + 1)) ++ R1) = vs) := Lib.hid (by
                    have h := Hqi.out
                    rw [List.drop_of_length_le (by rw [HEs.out.len]; exact Nat.le_refl _)] at h
                    rw [HR2.out, ← h]
                    rfl)
                  clear Hqi
                  go_wp2
                  go_roundw
                  case rel => exact ⟨j + 1, V, vn, vc, xs, by omega, by go_num, rfl, HF, Hs2⟩
                  case measure => simp [intOf]; omega
        · obtain rfl : j = ln := by omega
          have Hx2 : Hid (xs.map (·.v) ++ vTabs p q gt ((k + 1 : Nat) : Int) (tbs.drop (k + 1)) ((stR ls).drop (k + 1)) = vs) := Lib.hid (by
            have := Hqj.out
            rw [List.drop_of_length_le (by rw [hll.out]; exact Nat.le_refl _)] at this
            rw [HR1.out, ← this]
            rfl)
          go_wp2
          go_roundw
          case rel => exact ⟨k + 1, V, vn, vc, xs, by omega, by go_num, rfl, HF, Hx2⟩
          case measure => simp [intOf]; omega
    · obtain rfl : k = n := by omega
      have hvs : Hid (xs.map (·.v) = vs) := Lib.hid (by
        have h := Hq.out
        rw [List.drop_of_length_le (by rw [Hln.out]; exact Nat.le_refl _)] at h
        simpa [vTabs] using h)
      have hvn : vn ≤ 4096 := by
        have h := congrArg List.length hvs.out
        have := HF.out.len
        have := Hvl.out
        simp only [List.length_map] at h
        omega
      have hBB := HB.out.size
      clear Hq
      by_cases hn0 : 0 < vn
      · obtain ⟨g, cur, rfl, hgB, hbl⟩ := HF.out.blk hn0
        have HBl := Lib.hid hbl
        clear hbl
        go_wp2_with fail
        refine (sortO_any g 0 vc vn xs _ hn0 (Sl.of_own VoE.cs_len HF.out.len HF.out.own) HBl.out.free (fun x hx => ⟨(HF.out.keys x hx).ok, fun hn b o hA => (HF.out.keys x hx).apart HBl.out b (by show (Value.slice x.A x.n x.c).ownBlock = some b; rw [hA]; rfl)⟩) (by rw [hvs.out]; exact Hasc.out) HBl.out.lt (by omega)).mono ?_
        rintro e w5 ⟨rfl, hsl, hbt⟩
        have HE : Hid (VioO vs w (.returned (.slice (some ⟨g, 0, none⟩) vn vc)) w5) := Lib.hid ⟨_, vn, vc, xs, rfl, ⟨hsl, fun _ b o hA => by injection hA with hA; injection hA with hA; omega, fun x hx => ((HF.out.keys x hx).mono hBB).sorted HBl.out hbt⟩, hvs.out, HB.out.trans ((HF.out.be.mono hBB).trans (below_of_but hbt (by omega) (by have := HF.out.be.size; omega)))⟩
        clear hsl hbt
        go_wp2
        go_ret
        exact HE.out
      · obtain rfl : vn = 0 := by omega
        go_wp2_with fail
        refine (sortO_none V vc _).mono ?_
        rintro e w5 ⟨rfl, rfl⟩
        have hx0 : xs = [] := List.eq_nil_of_length_eq_zero HF.out.len
        have HE : Hid (VioO vs w (.returned (.slice V 0 vc)) w5) := Lib.hid ⟨V, 0, vc, xs, rfl, ⟨by rw [hx0]; exact Sl.nil, fun h => absurd h (by omega), fun x hx => by rw [hx0] at hx; cases hx⟩, hvs.out, HB.out.trans (HF.out.be.mono hBB)⟩
        go_wp2
        go_ret
        exact HE.out
end Go.Proofs.YtponkkljlbifmaaGreat
