/-
  Texts: FBox, Oper.
-/
import Derived.Test.YtmnmckblmoalkaaGreatB33
import Derived.Test.YtmnmckblmoalkaaGreatB30
set_option linter.unusedVariables false
/-
  The reference's box, Box and Empty on regions.
-/
namespace Go.Proofs.YtmnmckblmoalkaaGreat
open Go.RowKit
set_option maxRecDepth 100000
open Rg

set_option maxHeartbeats 4000000 in
theorem fbox_any (A : Option Addr) (n c : Nat) (ps : List SetP) (w : World) (hs : SetsS w A n ps) (hn : n ≤ 12) :
    Calls Tryz.prog 63 #[.slice A n c] w fun e w' => ∃ (x : Int) (f : Bool) (A' : Option Addr) (n' c' : Nat), e = .returned (.agg #[.int .i64 x, .bool f, .slice A' n' c']) ∧ RgS w' x f A' n' c' (boxR (ps.map (·.2))) ∧ Below w.heap.size w w' := by
  obtain ⟨i0, hi, hz0, hz1, hz2⟩ := info_parts info_iv
  have HS := Lib.hid hs
  have Hln := Lib.hid hs.sl.len
  clear hs
  go_enter Tryz.func63, Tryz.ntmps63
  go_wp2
  go_loopw [4] (fun i wr => ∃ (k : Nat) (z : Int) (x : Int) (f : Bool) (A' : Option Addr) (n' c' : Nat), k ≤ n ∧ i = .int .i64 z ∧ Hid (z = (k : Int) - 1) ∧ Blk wr (w.heap.size + 1) 27 #[.int .i64 x, .bool f, .slice A' n' c'] ∧ Blk wr w.heap.size 27 #[.int .i64 0, .bool false, .slice none 0 0] ∧ Hid (RgS wr x f A' n' c' (boxR ((ps.map (·.2)).drop k))) ∧ Below w.heap.size w wr) (fun i _ => (intOf i + 1).toNat)
  case atStart =>
    refine ⟨n, (n : Int) - 1, 0, true, none, 0, 0, by omega, rfl, rfl, ?_, ?_, ?_, ?_⟩
    · have := Blk.new (w.alloc (.cells #[.int .i64 0, .bool false, .slice none 0 0] 27)) 27 #[.int .i64 0, .bool true, .slice none 0 0]
      rw [World.size_alloc] at this
      exact this
    · exact (Blk.new w _ _).alloc _
    · show RgS _ _ _ _ _ _ _
      rw [List.drop_eq_nil_of_le (by rw [List.length_map, Hln.out]; omega)]
      exact RgS.nil _ _
    · exact ((Below.refl _ _).alloc (Nat.le_refl _) _).alloc (by simp) _
  case round =>
    obtain ⟨k, z, x, f, A', n', c', hk, rfl, Hz, hbk, hbk0, HRg, hb⟩ := hrel
    have hzz := hbk.cell
    have hlt := hbk.lt
    rcases Nat.eq_zero_or_pos k with hk0 | hk0
    · obtain rfl : z = -1 := by have := Hz.out; omega
      have hy0 := hbk0.cell
      obtain ⟨ff1, ff2, ff3⟩ := put3R_free hbk0 (.int .i64 x) (.bool f)
      have F1 : Hid (Blk _ _ _ #[.int .i64 x, .bool false, .slice none 0 0]) := Lib.hid (hbk0.set_ 0 (.int .i64 x))
      have F2 : Hid (Blk _ _ _ #[.int .i64 x, .bool f, .slice none 0 0]) := Lib.hid (F1.out.set_ 1 (.bool f))
      have F3 : Hid (Blk _ _ _ #[.int .i64 x, .bool f, .slice A' n' c']) := Lib.hid (F2.out.set_ 2 (.slice A' n' c'))
      have y1 := F1.out.cell
      have y2 := F2.out.cell
      have y3 := F3.out.cell
      have HBr := Lib.hid (put3R_below hb (Nat.le_refl _) (.int .i64 x) (.bool f) (.slice A' n' c'))
      have HRr := Lib.hid (RgS.off hbk0 (put3R_but wr w.heap.size (.int .i64 x) (.bool f) (.slice A' n' c')) HRg.out)
      go_wp2
      refine bodyPost_ret (v := .agg #[.int .i64 x, .bool f, .slice A' n' c']) (by simp [results, Tryz.results63, go_sem, y3]) rfl ⟨x, f, A', n', c', rfl, ?_, HBr.out⟩
      have := HRr.out
      rw [hk0, List.drop_zero] at this
      exact this
    · obtain ⟨j, rfl⟩ : ∃ j : Nat, z = (j : Int) := ⟨k - 1, by have := Hz.out; omega⟩
      obtain rfl : k = j + 1 := by have := Hz.out; omega
      clear Hz hk0
      obtain ⟨b, o, p, rfl, hp, hpc⟩ := HS.out.sl.at (show j < n by omega)
      have hpo := HS.out.ok p (List.mem_of_getElem? hp)
      have Hd : Hid ((ps.map (·.2)).drop j = p.2 :: (ps.map (·.2)).drop (j + 1)) := by
        show _ = _
        rw [drop_at (k := j) (x := p.2) (by rw [List.getElem?_map, hp]; rfl)]
      have hx : x = ((n - (j + 1) : Nat) : Int) := by
        have h1 := HRg.out.hw
        rw [box_w] at h1
        have := Hln.out
        simp at h1
        omega
      have hxb : 0 ≤ x ∧ x ≤ 12 := by omega
      clear hx
      have e1 := keep_cell ((keeps_of hb).trans (keeps_alloc wr (.cells #[.int .i64 (x + 1), .bool false, .slice none 0 0] 27))) (hpc 0 _ rfl)
      obtain ⟨⟨A1, n1, c1⟩, l⟩ := p
      dsimp only [setc] at e1 hpo
      simp only [Nat.mul_one, Nat.add_zero] at e1
      have HPO := Lib.hid hpo
      clear hp hpc hpo
      have HT := Lib.hid (hbk.alloc (.cells #[.int .i64 (x + 1), .bool false, .slice none 0 0] 27))
      have HT0 := Lib.hid (hbk0.alloc (.cells #[.int .i64 (x + 1), .bool false, .slice none 0 0] 27))
      have HN := Lib.hid (Blk.new wr 27 #[.int .i64 (x + 1), .bool false, .slice none 0 0])
      have hzt := HT.out.cell
      have HBN := Lib.hid ((Below.refl wr.heap.size wr).alloc (Nat.le_refl _) (.cells #[.int .i64 (x + 1), .bool false, .slice none 0 0] 27))
      by_cases hn1 : n1 = 0
      · have g2 : decide (0 < n1) = false := by simp [hn1]
        have hne : ¬ wr.heap.size = w.heap.size + 1 := by omega
        have hft := HT.out.free
        obtain ⟨ff1, ff2, ff3⟩ := put3R_free hbk (.int .i64 (x + 1)) (.bool false)
        have ff4 := (((hbk.set_ 0 (.int .i64 (x + 1))).set_ 1 (.bool false)).alloc (.cells #[.int .i64 (x + 1), .bool false, .slice none 0 0] 27)).free
        have ff5 := (((hbk.set_ 0 (.int .i64 (x + 1)))).alloc (.cells #[.int .i64 (x + 1), .bool false, .slice none 0 0] 27)).free
        have Hnil : Hid (l = []) := List.eq_nil_of_length_eq_zero (by have := HPO.out.2.2.len; omega)
        clear hn1
        go_wp2
        go_roundw
        case rel =>
          refine ⟨j, _, x + 1, false, none, 0, 0, by omega, rfl, rfl, (put3R_blk hbk).alloc _, (hbk0.but (put3R_but wr _ _ _ _) (by omega)).alloc _, ?_, (put3R_below hb (by omega) _ _ _).alloc (put3R_below hb (by omega) _ _ _).size _⟩
          show RgS _ _ _ _ _ _ _
          rw [Hd.out, box_cons, Hnil.out, HRg.out.hw]
          exact RgS.nil _ _
        case measure => simp [intOf]
      · have g2 : decide (0 < n1) = true := by simp; omega
        go_wp2_with fail
        refine (fnone_any x f A' n' c' _ _ (HRg.out.keep (keeps_of HBN.out))).mono ?_
        rintro e w1 ⟨rfl, hb1⟩
        obtain ⟨v1, Hv1⟩ : ∃ t, Hid ((boxR ((ps.map (·.2)).drop (j + 1))).nix = t) := ⟨_, rfl⟩
        rw [Hv1.out]
        have E1 := Lib.hid e1
        clear hzt e1
        have HT1 := Lib.hid (HT.out.below hb1)
        have HN1 := Lib.hid (HN.out.below hb1)
        have hzt := HT1.out.cell
        have hzn := HN1.out.cell
        have hft := HT1.out.free
        cases v1
        · have hsz1 := hb1.size
          simp only [World.size_alloc] at hsz1
          have hB1 := Below.next HBN.out hb1
          have hblt : b < w1.heap.size := by
            have h := cell_lt (w := wr.alloc (.cells #[.int .i64 (x + 1), .bool false, .slice none 0 0] 27)) (a := ⟨b, o + j, none⟩) (by rw [E1.out]; rfl)
            simp only [World.size_alloc] at h
            omega
          have HB1 := Lib.hid hB1
          have HB1x := Lib.hid hb1
          have hn1b := HPO.out.2.1
          go_upto_region 7 with fail
          refine wp_region_plan (fun _ => False) (.one [0, 1, 2, 3, 5] 4 (.one [] 6 (.one [] 7 (.fin [8] 9)))) (by kernel_rfl) (by kernel_rfl) (fun _ _ d _ _ h => by cases d <;> exact h) ?_
          have qb : ∀ (y : LaterS (fun _ => False) w1.drew), (afterS (fun _ => False) w1.drew y).cell? ⟨b, o + j, none⟩ = some (.slice A1 n1 c1) := fun y => by
            rw [World.cell?_of_block (w := w1.drew) (y.but.block b hblt (fun h => h))]
            show w1.cell? _ = _
            rw [keeps_of hb1 _ (by rw [E1.out]; rfl)]
            exact E1.out
          have qt : ∀ (y : LaterS (fun _ => False) w1.drew) z, (afterS (fun _ => False) w1.drew y).cell? ⟨w.heap.size + 1, z, none⟩ = (#[.int .i64 x, .bool f, .slice A' n' c'] : Array Value)[z]? := fun y z => (HT1.out.drew.but y.but (fun h => h)).cell z
          have hIv := (HPO.out.2.2.keep (keeps_of (Below.next hb hB1))).keep (keeps_of (Below.refl w1.heap.size w1).drew)
          have HIv : Hid (IvS w1.drew A1 n1 l) := Lib.hid hIv
          have HT1d : Hid (Blk w1.drew _ _ _) := Lib.hid HT1.out.drew
          have HN1d : Hid (Blk w1.drew _ _ _) := Lib.hid HN1.out.drew
          have hbd : Below w1.heap.size w1 w1.drew := (Below.refl _ _).drew
          have HBD := Lib.hid hbd
          have hszd : w1.drew.heap.size = w1.heap.size := rfl
          generalize hW : w1.drew = w1d at *
          clear hW hIv hb1 hbd hzt hzn hft HT1 HN1 E1
          unfold wpPlan
          simp only [pickOps, opAt, List.map_cons, List.map_nil, List.getElem?_toArray, List.getElem?_cons_zero, List.getElem?_cons_succ, Option.getD_some]
          repeat (go_big_quiet_step (fail))
          refine wpQuiet_nil ?_
          clear qb qt
          go_wp2_with (at_builtin; refine wpList_append_sf (cs := Iv.cs) w1d (by rfl) _ (.tmp 32) _ (by rfl) w1d.heap.size 90 i0 _ 7 72 Tryz.underlying72 hi hz0 hz1 hz2 (by rfl) (by omega) (.slice none 0 0) 0 [] (by rfl) ⟨by simp, .inl ⟨rfl, rfl⟩⟩ A1 n1 c1 l (by rfl) HIv.out HPO.out.1.2 Iv.cs_len one_iv (by simp only [maxLen]; omega) (by omega) (Nat.le_refl _) ?_; intro A2 c2 w2 hown2 hg2 hB2 hat2 hnl2; simp only [Nat.zero_add, List.nil_append] at hown2 ⊢)
          have hbf := fresh_none hg2
          refine ⟨But.of_below hbf, ?_⟩
          have HB2 : Hid (Below w1.heap.size w1 w2) := Lib.hid (Below.next HBD.out hbf)
          have T2 := Lib.hid (HT1d.out.below hbf)
          have N2 := Lib.hid (HN1d.out.below hbf)
          have hsz2 := HB2.out.size
          have HOWN2 := Lib.hid hown2
          clear hown2 hg2 hB2 hat2 hnl2 hbf HIv HT1d HN1d HBD
          unfold wpPlan
          simp only [pickOps, opAt, List.map_nil, List.getElem?_toArray, List.getElem?_cons_zero, List.getElem?_cons_succ, Option.getD_some]
          refine wpQuiet_nil ?_
          go_wp2_with fail
          refine ⟨But.refl _ _, ?_⟩
          unfold wpPlan
          simp only [pickOps, opAt, List.map_nil, List.getElem?_toArray, List.getElem?_cons_zero, List.getElem?_cons_succ, Option.getD_some]
          refine wpQuiet_nil ?_
          go_wp2_with fail
          refine ⟨But.alloc _ _, ?_⟩
          have hfn2 := (N2.out.alloc (.cells #[.slice A2 n1 c2, .int .i64 x, .bool f, .slice A' n' c'] 86)).free
          have hfn3 := (N2.out.alloc (.cells #[.slice A2 n1 c2, .int .i64 x, .bool f, .slice A' n' c'] 86)).cell
          have hBN : ¬ w.heap.size + 1 = wr.heap.size := (by omega)
          have N3 := Lib.hid ((N2.out.alloc (.cells #[.slice A2 n1 c2, .int .i64 x, .bool f, .slice A' n' c'] 86)).set_ 2 (.slice (some ⟨w2.heap.size, 0, none⟩) 1 1))
          have T3 := Lib.hid ((T2.out.alloc (.cells #[.slice A2 n1 c2, .int .i64 x, .bool f, .slice A' n' c'] 86)).far (p := ⟨wr.heap.size, 2, none⟩) hBN (.slice (some ⟨w2.heap.size, 0, none⟩) 1 1))
          have T4 : Hid (Blk _ _ _ #[.int .i64 (x + 1), .bool f, .slice A' n' c']) := Lib.hid (T3.out.set_ 0 (.int .i64 (x + 1)))
          have T5 : Hid (Blk _ _ _ #[.int .i64 (x + 1), .bool false, .slice A' n' c']) := Lib.hid (T4.out.set_ 1 (.bool false))
          have N4 : Hid (Blk _ _ _ #[.int .i64 (x + 1), .bool false, .slice (some ⟨w2.heap.size, 0, none⟩) 1 1]) := Lib.hid N3.out
          unfold wpPlan
          simp only [pickOps, opAt, List.map_cons, List.map_nil, List.getElem?_toArray, List.getElem?_cons_zero, List.getElem?_cons_succ, Option.getD_some]
          repeat (go_big_quiet_step (fail))
          refine wpQuiet_nil ?_
          have hm0 := N4.out.cell
          have hs1 := T3.out.free
          have hs3 := T4.out.free
          have hs5 := T5.out.free
          have hq0 := T3.out.cell
          have hq1 := T4.out.cell
          have hq2 := T5.out.cell
          go_wp2
          go_roundw
          case rel =>
            have P2 := (Blk.new w2 86 #[.slice A2 n1 c2, .int .i64 x, .bool f, .slice A' n' c']).far (p := ⟨wr.heap.size, 2, none⟩) (by dsimp only; omega) (.slice (some ⟨w2.heap.size, 0, none⟩) 1 1)
            have hBu : But (· = wr.heap.size) (w2.alloc (.cells #[.slice A2 n1 c2, .int .i64 x, .bool f, .slice A' n' c'] 86)) ((w2.alloc (.cells #[.slice A2 n1 c2, .int .i64 x, .bool f, .slice A' n' c'] 86)).setCell ⟨wr.heap.size, 2, none⟩ (.slice (some ⟨w2.heap.size, 0, none⟩) 1 1)) := But.set (S := fun k => k = wr.heap.size) _ (p := ⟨wr.heap.size, 2, none⟩) rfl _
            have hNa := N2.out.alloc (.cells #[.slice A2 n1 c2, .int .i64 x, .bool f, .slice A' n' c'] 86)
            have hI2 := ((Sl.of_own (cs := Iv.cs) Iv.cs_len HPO.out.2.2.len HOWN2.out).keep (keeps_alloc w2 (.cells #[.slice A2 n1 c2, .int .i64 x, .bool f, .slice A' n' c'] 86)))
            have hI3 := IvS.off hNa hBu hI2
            have hR2 := ((HRg.out.keep (keeps_of HB1.out)).keep (keeps_of HB2.out)).keep (keeps_alloc w2 (.cells #[.slice A2 n1 c2, .int .i64 x, .bool f, .slice A' n' c'] 86))
            have hR3 := RgS.off hNa hBu hR2
            have hPB := put3R_but ((w2.alloc (.cells #[.slice A2 n1 c2, .int .i64 x, .bool f, .slice A' n' c'] 86)).setCell ⟨wr.heap.size, 2, none⟩ (.slice (some ⟨w2.heap.size, 0, none⟩) 1 1)) (w.heap.size + 1) (.int .i64 (x + 1)) (.bool false) (.slice (some ⟨w2.heap.size, 0, none⟩) 1 1)
            have hI4 := IvS.off T3.out hPB hI3
            have hR4 := RgS.off T3.out hPB hR3
            have hP4 := P2.but hPB (by omega)
            have hB3 := ((Below.next (Below.next hb HB1.out) HB2.out).alloc (Below.next (Below.next hb HB1.out) HB2.out).size (.cells #[.slice A2 n1 c2, .int .i64 x, .bool f, .slice A' n' c'] 86)).setCell (p := ⟨wr.heap.size, 2, none⟩) (by dsimp only; omega) (.slice (some ⟨w2.heap.size, 0, none⟩) 1 1)
            have hT0 := ((((HT0.out.below HB1x.out).below HB2.out).alloc (.cells #[.slice A2 n1 c2, .int .i64 x, .bool f, .slice A' n' c'] 86)).far (p := ⟨wr.heap.size, 2, none⟩) (by dsimp only; omega) (.slice (some ⟨w2.heap.size, 0, none⟩) 1 1)).but hPB (by omega)
            refine ⟨j, _, x + 1, false, some ⟨w2.heap.size, 0, none⟩, 1, 1, by omega, rfl, rfl, put3R_blk T3.out, hT0, ?_, put3R_below hB3 (by omega) _ _ _⟩
            show RgS _ _ _ _ _ _ _
            have hne : l.isEmpty = false := by
              have := HPO.out.2.2.len
              cases l with
              | nil => simp at this; omega
              | cons y l => rfl
            rw [Hd.out, box_cons, Hv1.out, HRg.out.hw, hne]
            exact RgS.one hP4 (own_okS HOWN2.out) hI4 hR4 _
          case measure => simp [intOf]
        · obtain ⟨ff1, ff2, ff3⟩ := put3R_free HT1.out (.int .i64 (x + 1)) (.bool false)
          have HT01 := Lib.hid (HT0.out.below hb1)
          go_wp2
          go_roundw
          case rel =>
            have hB1 := Below.next hb (Below.next HBN.out hb1)
            refine ⟨j, _, x + 1, false, none, 0, 0, by omega, rfl, rfl, put3R_blk HT1.out, HT01.out.but (put3R_but w1 _ _ _ _) (by omega), ?_, put3R_below hB1 (by omega) _ _ _⟩
            show RgS _ _ _ _ _ _ _
            rw [Hd.out, box_cons, Hv1.out, HRg.out.hw]
            simp only [Bool.not_true, Bool.and_false, Bool.false_eq_true, if_false]
            exact RgS.nil _ _
          case measure => simp [intOf]

set_option maxHeartbeats 4000000 in
theorem fBox_any (A : Option Addr) (n c : Nat) (ps : List SetP) (w : World) (hs : SetsS w A n ps) :
    Calls Tryz.prog 47 #[.slice A n c] w fun e w' => RgRes w (boxRes (ps.map (·.2))) (boxErr (ps.map (·.2))) e w' := by
  have HS := Lib.hid hs
  have Hln := Lib.hid hs.sl.len
  clear hs
  have E0 := Lib.hid (Blk.new w 27 #[.int .i64 0, .bool false, .slice none 0 0])
  have HB0 := Lib.hid ((Below.refl w.heap.size w).alloc (Nat.le_refl _) (.cells #[.int .i64 0, .bool false, .slice none 0 0] 27))
  generalize hre : boxErr (ps.map (·.2)) = re
  generalize hrr : boxRes (ps.map (·.2)) = rr
  have HRE := Lib.hid hre
  have HRR := Lib.hid hrr
  clear hre hrr
  rcases Nat.lt_or_ge 12 n with h12 | h12
  · have g1 : decide (12 < n) = true := by simp; omega
    have e1 : re = 1 := by rw [← HRE.out]; simp [boxErr, Hln.out]; omega
    have e2 : rr = zeroR := by rw [← HRR.out]; simp [boxRes, HRE.out, e1]
    subst e1 e2
    go_enter Tryz.func47, Tryz.ntmps47
    go_wp2
    refine bodyPost_ret (v := .tuple #[.agg #[.int .i64 0, .bool false, .slice none 0 0], .int .i64 1]) (by simp [results, Tryz.results47, go_sem]) rfl ⟨0, false, none, 0, 0, rfl, RgS.nil _ _, ?_⟩
    repeat (first | exact HB0.out | exact Below.refl _ _ | refine Below.setCell ?_ (by simp) _ | refine Below.alloc ?_ (by simp) _)
  · have g1 : decide (12 < n) = false := by simp; omega
    obtain ⟨W0, HW0⟩ : ∃ W : World, Hid (w.alloc (.cells #[.int .i64 0, .bool false, .slice none 0 0] 27) = W) := ⟨_, rfl⟩
    rw [HW0.out] at E0 HB0
    go_enter Tryz.func47, Tryz.ntmps47
    go_wp2
    go_loopw [12] (fun i wr => ∃ k : Nat, k ≤ n ∧ i = .int .i64 (k : Int) ∧ Hid (∀ p ∈ ps.take k, validL p.2 = true) ∧ Below W0.heap.size W0 wr) (fun i _ => n - (intOf i).toNat)
    case atStart => exact ⟨0, by omega, rfl, (by show ∀ p ∈ _, _; simp), by rw [HW0.out]; exact Below.refl _ _⟩
    case round =>
      obtain ⟨k, hk, rfl, hinv, hb⟩ := hrel
      have hbw := Below.next HB0.out hb
      have E1 := Lib.hid (E0.out.below hb)
      have hc1 := E1.out.cell
      obtain ⟨ff1, ff2, ff3⟩ := put3R_free E1.out (.int .i64 0) (.bool false)
      by_cases hlt : k < n
      · obtain ⟨b, o, p, rfl, hp, hpc⟩ := (HS.out.keep (keeps_of hbw)).sl.at hlt
        have hpo := (HS.out.keep (keeps_of hbw)).ok p (List.mem_of_getElem? hp)
        have e1 := hpc 0 _ rfl
        have HP := Lib.hid hp
        obtain ⟨⟨A1, n1, c1⟩, l⟩ := p
        dsimp only [setc] at e1 hpo
        simp only [Nat.mul_one, Nat.add_zero] at e1
        have HPO := Lib.hid hpo
        clear hp hpc hpo
        go_wp2_with fail
        refine (rvalidL_any0 A1 n1 c1 l _ HPO.out.2.2).mono ?_
        rintro e w1 ⟨rfl, hb1⟩
        obtain ⟨v, Hv⟩ : ∃ t, Hid (validL l = t) := ⟨_, rfl⟩
        rw [Hv.out]
        have E2 := Lib.hid (E1.out.below hb1)
        clear hc1 ff1 ff2 ff3 e1
        have hc1 := E2.out.cell
        cases v
        · have e1 : re = 30 := by
            rw [← HRE.out]
            exact boxErr_bad (s := l) (by simp [Hln.out]; omega) (List.mem_map.2 ⟨_, List.mem_of_getElem? HP.out, rfl⟩) Hv.out
          have e2 : rr = zeroR := by rw [← HRR.out]; simp [boxRes, HRE.out, e1]
          subst e1 e2
          obtain ⟨ff1, ff2, ff3⟩ := put3R_free E2.out (.int .i64 0) (.bool false)
          have F1 : Hid (Blk _ _ _ #[.int .i64 0, .bool false, .slice none 0 0]) := Lib.hid (E2.out.set_ 0 (.int .i64 0))
          have F2 : Hid (Blk _ _ _ #[.int .i64 0, .bool false, .slice none 0 0]) := Lib.hid (F1.out.set_ 1 (.bool false))
          have F3 : Hid (Blk _ _ _ #[.int .i64 0, .bool false, .slice none 0 0]) := Lib.hid (F2.out.set_ 2 (.slice none 0 0))
          have y1 := F1.out.cell
          have y2 := F2.out.cell
          have y3 := F3.out.cell
          have HBr := Lib.hid (put3R_below (Below.next hbw hb1) (Nat.le_refl _) (.int .i64 0) (.bool false) (.slice none 0 0))
          go_wp2
          refine bodyPost_ret (v := .tuple #[.agg #[.int .i64 0, .bool false, .slice none 0 0], .int .i64 30]) (by simp [results, Tryz.results47, go_sem, y3]) rfl ⟨0, false, none, 0, 0, rfl, RgS.nil _ _, HBr.out⟩
        · go_wp2
          go_roundw
          case rel =>
            refine ⟨k + 1, by omega, by go_num, ?_, Below.next hb hb1⟩
            show ∀ p ∈ _, _
            rw [take_snoc' HP.out]
            intro q hq
            rcases List.mem_append.1 hq with hq | hq
            · exact hinv.out q hq
            · have : q = ((A1, n1, c1), l) := by simpa using hq
              rw [this]; exact Hv.out
          case measure => simp [intOf]; omega
      · have e1 : re = 0 := by
          rw [← HRE.out]
          have h1 := hinv.out
          rw [List.take_of_length_le (by have := Hln.out; omega)] at h1
          unfold boxErr
          rw [if_neg (by simp [Hln.out]; omega), if_pos]
          rw [List.all_eq_true]
          intro s hs
          obtain ⟨q, hq, rfl⟩ := List.mem_map.1 hs
          exact h1 q hq
        have e2 : boxR (ps.map (·.2)) = rr := by rw [← HRR.out]; simp [boxRes, HRE.out, e1]
        subst e1 e2
        clear ff1 ff2 ff3
        go_wp2_with fail
        refine (fbox_any A n c ps _ (HS.out.keep (keeps_of hbw)) (by omega)).mono ?_
        rintro e w1 ⟨x, f, A', n', c', rfl, hR, hb1⟩
        have E2 := Lib.hid (E1.out.below hb1)
        clear hc1
        have hc1 := E2.out.cell
        have HR1 := Lib.hid hR
        clear hR
        obtain ⟨ff1, ff2, ff3⟩ := put3R_free E2.out (.int .i64 x) (.bool f)
        have F1 : Hid (Blk _ _ _ #[.int .i64 x, .bool false, .slice none 0 0]) := Lib.hid (E2.out.set_ 0 (.int .i64 x))
        have F2 : Hid (Blk _ _ _ #[.int .i64 x, .bool f, .slice none 0 0]) := Lib.hid (F1.out.set_ 1 (.bool f))
        have F3 : Hid (Blk _ _ _ #[.int .i64 x, .bool f, .slice A' n' c']) := Lib.hid (F2.out.set_ 2 (.slice A' n' c'))
        have y1 := F1.out.cell
        have y2 := F2.out.cell
        have y3 := F3.out.cell
        have HBr := Lib.hid (put3R_below (Below.next hbw hb1) (Nat.le_refl _) (.int .i64 x) (.bool f) (.slice A' n' c'))
        have HRr := Lib.hid (RgS.off E2.out (put3R_but w1 w.heap.size (.int .i64 x) (.bool f) (.slice A' n' c')) HR1.out)
        go_wp2
        refine bodyPost_ret (v := .tuple #[.agg #[.int .i64 x, .bool f, .slice A' n' c'], .int .i64 0]) (by simp [results, Tryz.results47, go_sem, y3]) rfl ⟨x, f, A', n', c', rfl, HRr.out, HBr.out⟩
theorem fEmpty_any (x : Int) (w : World) : Calls Tryz.prog 44 #[.int .i64 x] w fun e w' => RgRes w (if 0 ≤ x ∧ x ≤ 12 then .nil x false else zeroR) (if 0 ≤ x ∧ x ≤ 12 then 0 else 1) e w' := by
  have hB0 : ∀ v : Value, Below w.heap.size w (w.alloc (.cells #[v, .bool false, .slice none 0 0] 27)) := fun v => (Below.refl _ _).alloc (Nat.le_refl _) _
  rcases Int.lt_or_le x 0 with h0 | h0
  · have g1 : decide (x < 0) = true := by simp; omega
    rw [if_neg (by omega), if_neg (by omega)]
    go_enter Tryz.func44, Tryz.ntmps44
    go_wp2
    refine bodyPost_ret (v := .tuple #[.agg #[.int .i64 0, .bool false, .slice none 0 0], .int .i64 1]) (by simp [results, Tryz.results44, go_sem]) rfl ⟨0, false, none, 0, 0, rfl, RgS.nil _ _, ?_⟩
    repeat (first | exact Below.refl _ _ | refine Below.setCell ?_ (by simp) _ | refine Below.alloc ?_ (by simp) _)
  · have g1 : decide (x < 0) = false := by simp; omega
    rcases Int.lt_or_le 12 x with h1 | h1
    · have g2 : decide (12 < x) = true := by simp; omega
      rw [if_neg (by omega), if_neg (by omega)]
      go_enter Tryz.func44, Tryz.ntmps44
      go_wp2
      refine bodyPost_ret (v := .tuple #[.agg #[.int .i64 0, .bool false, .slice none 0 0], .int .i64 1]) (by simp [results, Tryz.results44, go_sem]) rfl ⟨0, false, none, 0, 0, rfl, RgS.nil _ _, ?_⟩
      repeat (first | exact Below.refl _ _ | refine Below.setCell ?_ (by simp) _ | refine Below.alloc ?_ (by simp) _)
    · have g2 : decide (12 < x) = false := by simp; omega
      rw [if_pos ⟨h0, h1⟩, if_pos ⟨h0, h1⟩]
      go_enter Tryz.func44, Tryz.ntmps44
      go_wp2
      refine bodyPost_ret (v := .tuple #[.agg #[.int .i64 x, .bool false, .slice none 0 0], .int .i64 0]) (by simp [results, Tryz.results44, go_sem]) rfl ⟨x, false, none, 0, 0, rfl, RgS.nil _ _, ?_⟩
      repeat (first | exact Below.refl _ _ | refine Below.setCell ?_ (by simp) _ | refine Below.alloc ?_ (by simp) _)
end Go.Proofs.YtmnmckblmoalkaaGreat

/-
  The program's region functions operate and Union.
-/
namespace Go.Proofs.YtmnmckblmoalkaaGreat
open Go.RowKit
set_option maxRecDepth 100000
open Rg

/-- the result of an operation, and its error -/
noncomputable def opErr (op : Bool → Bool → Bool) (a b : Rg) : Int := if okB a && okB b && decide (a.w = b.w) then (if (comb op a.w.toNat a b).size ≤ 64 ∧ (comb op a.w.toNat a b).fits = true then 0 else 2) else 40
noncomputable def opRes (op : Bool → Bool → Bool) (a b : Rg) : Rg := if opErr op a b = 0 then comb op a.w.toNat a b else zeroR
theorem RgRes.zero {w w' : World} {er : Int} (hb : Below w.heap.size w w') : RgRes w zeroR er (.returned (.tuple #[.agg #[.int .i64 0, .bool false, .slice none 0 0], .int .i64 er])) w' := ⟨0, false, none, 0, 0, rfl, RgS.nil _ _, hb⟩
theorem ok_form {a : Rg} (h : OkR a) : Form a.w.toNat a ∧ within a := ⟨h.2.2.2.1, h.2.2.1, h.2.2.2.2⟩
set_option maxHeartbeats 2000000 in
theorem operate_any (tb tl tr : Bool) (a : Rg) (xa : Int) (fa : Bool) (Aa : Option Addr) (na ca : Nat) (b : Rg) (xb : Int) (fb : Bool) (Ab : Option Addr) (nb cb : Nat) (w : World) (hA : RgS w xa fa Aa na ca a) (hB : RgS w xb fb Ab nb cb b) (wA : WfR a) (wB : WfR b) :
    Calls Tryz.prog 88 #[.agg #[.int .i64 xa, .bool fa, .slice Aa na ca], .agg #[.int .i64 xb, .bool fb, .slice Ab nb cb], .agg #[.bool tb, .bool tl, .bool tr]] w fun e w' => RgRes w (opRes (ofT tb tl tr) a b) (opErr (ofT tb tl tr) a b) e w' := by
  obtain ⟨er, Her⟩ : ∃ z, Hid (opErr (ofT tb tl tr) a b = z) := ⟨_, rfl⟩
  obtain ⟨rr, Hrr⟩ : ∃ z, Hid (opRes (ofT tb tl tr) a b = z) := ⟨_, rfl⟩
  rw [Her.out, Hrr.out]
  have Hz : er ≠ 0 → rr = zeroR := fun h => by rw [← Hrr.out, opRes, if_neg (by rw [Her.out]; exact h)]
  have HZ := Lib.hid Hz
  have HA := Lib.hid hA
  have HB := Lib.hid hB
  have HW := Lib.hid (And.intro wA wB)
  have hxa := hA.hw
  have hxb := hB.hw
  clear hA hB wA wB Hz
  obtain ⟨W0, HW0⟩ : ∃ W : World, Hid ((((w.alloc (.cells #[.int .i64 xa, .bool fa, .slice Aa na ca] 27)).alloc (.cells #[.int .i64 xb, .bool fb, .slice Ab nb cb] 27)).alloc (.cells #[.bool tb, .bool tl, .bool tr] 114)).alloc (.cells #[.int .i64 0, .bool false, .slice none 0 0] 27) = W) := ⟨_, rfl⟩
  have HC : Hid (Blk W0 w.heap.size 27 #[.int .i64 xa, .bool fa, .slice Aa na ca] ∧ Blk W0 (w.heap.size + 1) 27 #[.int .i64 xb, .bool fb, .slice Ab nb cb] ∧ Blk W0 (w.heap.size + 2) 114 #[.bool tb, .bool tl, .bool tr] ∧ Blk W0 (w.heap.size + 3) 27 #[.int .i64 0, .bool false, .slice none 0 0]) := by
    rw [← HW0.out]
    exact Lib.hid ⟨(((Blk.step rfl).alloc _).alloc _).alloc _, ((Blk.step (by simp)).alloc _).alloc _, (Blk.step (by simp)).alloc _, Blk.step (by simp)⟩
  have HB0 : Hid (Below w.heap.size w W0) := by
    rw [← HW0.out]
    exact Lib.hid (((((Below.refl _ _).alloc (Nat.le_refl _) _).alloc (by simp) _).alloc (by simp; omega) _).alloc (by simp; omega) _)
  obtain ⟨va, Hva⟩ : ∃ t, Hid (okB a = t) := ⟨_, rfl⟩
  obtain ⟨vb, Hvb⟩ : ∃ t, Hid (okB b = t) := ⟨_, rfl⟩
  go_enter Tryz.func88, Tryz.ntmps88
  go_wp2_with fail
  rw [HW0.out]
  refine (rvalidR_any a xa fa Aa na ca _ (HA.out.keep (keeps_of HB0.out))).mono ?_
  rintro e w1 ⟨rfl, hb1⟩
  rw [Hva.out]
  have HC1 := Lib.hid (And.intro (HC.out.1.below hb1) (And.intro (HC.out.2.1.below hb1) (And.intro (HC.out.2.2.1.below hb1) (HC.out.2.2.2.below hb1))))
  have HB1 := Lib.hid (Below.next HB0.out hb1)
  clear hb1 HC HB0
  have z3 := HC1.out.2.2.2.cell
  obtain ⟨ff1, ff2, ff3⟩ := put3R_free HC1.out.2.2.2 (.int .i64 0) (.bool false)
  cases va
  · have y3 := (put3R_blk (a' := .int .i64 0) (b' := .bool false) (c' := .slice none 0 0) HC1.out.2.2.2).cell
    have y1 := (HC1.out.2.2.2.set_ 0 (.int .i64 0)).cell
    have y2 := ((HC1.out.2.2.2.set_ 0 (.int .i64 0)).set_ 1 (.bool false)).cell
    have HBr := Lib.hid (put3R_below HB1.out (show w.heap.size ≤ w.heap.size + 3 by omega) (.int .i64 0) (.bool false) (.slice none 0 0))
    have e1 : er = 40 := by rw [← Her.out]; simp [opErr, Hva.out]
    have e2 := HZ.out (by omega)
    subst e1 e2
    unfold put3R at y3
    go_wp2
    exact bodyPost_ret (v := .tuple #[.agg #[.int .i64 0, .bool false, .slice none 0 0], .int .i64 40]) (by simp [results, Tryz.results88, go_sem, y3]) rfl (RgRes.zero HBr.out)
  · have z2 := HC1.out.2.1.cell
    clear ff1 ff2 ff3 z3
    go_wp2_with fail
    refine (rvalidR_any b xb fb Ab nb cb _ (HB.out.keep (keeps_of HB1.out))).mono ?_
    rintro e w2 ⟨rfl, hb2⟩
    rw [Hvb.out]
    have HC2 := Lib.hid (And.intro (HC1.out.1.below hb2) (And.intro (HC1.out.2.1.below hb2) (And.intro (HC1.out.2.2.1.below hb2) (HC1.out.2.2.2.below hb2))))
    have HB2 := Lib.hid (Below.next HB1.out hb2)
    clear hb2 HC1 HB1 z2
    have z1 := HC2.out.1.cell
    have z2 := HC2.out.2.1.cell
    have z3 := HC2.out.2.2.2.cell
    obtain ⟨ff1, ff2, ff3⟩ := put3R_free HC2.out.2.2.2 (.int .i64 0) (.bool false)
    have bad : ∀ (h : er = 40), rr = zeroR := fun h => HZ.out (by omega)
    have BAD := Lib.hid bad
    clear bad
    have y3 := (put3R_blk (a' := .int .i64 0) (b' := .bool false) (c' := .slice none 0 0) HC2.out.2.2.2).cell
    have y1 := (HC2.out.2.2.2.set_ 0 (.int .i64 0)).cell
    have y2 := ((HC2.out.2.2.2.set_ 0 (.int .i64 0)).set_ 1 (.bool false)).cell
    have HBr := Lib.hid (put3R_below HB2.out (show w.heap.size ≤ w.heap.size + 3 by omega) (.int .i64 0) (.bool false) (.slice none 0 0))
    unfold put3R at y3
    cases vb
    · have e1 : er = 40 := by rw [← Her.out]; simp [opErr, Hvb.out]
      have e2 := BAD.out e1
      subst e1 e2
      go_wp2
      exact bodyPost_ret (v := .tuple #[.agg #[.int .i64 0, .bool false, .slice none 0 0], .int .i64 40]) (by simp [results, Tryz.results88, go_sem, y3]) rfl (RgRes.zero HBr.out)
    · by_cases hw : xa = xb
      · have g1 : (xa != xb) = false := by simp [hw]
        have HWW := Lib.hid hw
        have z5 := HC2.out.2.2.1.cell
        have oka := ok_form (okB_true.1 Hva.out)
        have okb := ok_form (okB_true.1 Hvb.out)
        have hn12 : a.w.toNat ≤ 12 := by have := (okB_true.1 Hva.out).2.1; omega
        have hwb : b.w.toNat = a.w.toNat := by rw [hxa, hxb, hw]
        rw [hwb] at okb
        have HOA := Lib.hid oka
        have HOB := Lib.hid okb
        clear hw oka okb hwb y1 y2 y3 HBr ff1 ff2 ff3 z3 hxa hxb
        go_wp2_with fail
        refine (comb_any tb tl tr a.w.toNat hn12 a b xa fa Aa na ca xb fb Ab nb cb _ (HA.out.keep (keeps_of HB2.out)) (HB.out.keep (keeps_of HB2.out)) HOA.out.1 HOB.out.1 HW.out.1 HW.out.2 HOA.out.2 HOB.out.2).mono ?_
        rintro e w3 ⟨x, f, A, n, c, ok, rfl, hok, hF, hb3⟩
        have HOK := Lib.hid hok
        have HF := Lib.hid hF
        have HT3 := Lib.hid (HC2.out.2.2.2.below hb3)
        have HB3 := Lib.hid (Below.next HB2.out hb3)
        have hE : er = if (comb (ofT tb tl tr) a.w.toNat a b).size ≤ 64 ∧ (comb (ofT tb tl tr) a.w.toNat a b).fits = true then 0 else 2 := by
          rw [← Her.out, opErr, Hva.out, Hvb.out, if_pos]
          simp only [Bool.and_true, Bool.true_and, decide_eq_true_eq]
          rw [HA.out.hw, HB.out.hw]
          exact HWW.out
        have HE := Lib.hid hE
        have HR3 : Hid (ok = true → RgS (w3.alloc (.cells #[.int .i64 x, .bool f, .slice A n c] 27)) x f A n c (comb (ofT tb tl tr) a.w.toNat a b)) := Lib.hid (fun h => (HF.out h).s.keep (keeps_alloc _ _))
        have HT4 := Lib.hid (HT3.out.alloc (.cells #[.int .i64 x, .bool f, .slice A n c] 27))
        have HN4 := Lib.hid (Blk.new w3 27 #[.int .i64 x, .bool f, .slice A n c])
        have HB4 := Lib.hid (HB3.out.alloc HB3.out.size (.cells #[.int .i64 x, .bool f, .slice A n c] 27))
        have hne : ¬ w.heap.size + 3 = w3.heap.size := by have := HT3.out.lt; omega
        clear hok hF hE HC2 HB2 z1 z2 z5 hb3
        go_upto_region 4 with fail
        generalize hW4 : w3.alloc (.cells #[.int .i64 x, .bool f, .slice A n c] 27) = W4 at *
        clear hW4 HF
        have z3 := HT4.out.cell
        cases ok
        · have e1 : er = 2 := by rw [HE.out]; exact if_neg (fun h => by have := HOK.out.2 h; cases this)
          have e2 := HZ.out (by omega)
          subst e1 e2
          obtain ⟨ff1, ff2, ff3⟩ := put3R_free HT4.out (.int .i64 0) (.bool false)
          have y3 := (put3R_blk (a' := .int .i64 0) (b' := .bool false) (c' := .slice none 0 0) HT4.out).cell
          have y1 := (HT4.out.set_ 0 (.int .i64 0)).cell
          have y2 := ((HT4.out.set_ 0 (.int .i64 0)).set_ 1 (.bool false)).cell
          have HBr := Lib.hid (put3R_below HB4.out (show w.heap.size ≤ w.heap.size + 3 by omega) (.int .i64 0) (.bool false) (.slice none 0 0))
          unfold put3R at y3
          go_wp2
          exact bodyPost_ret (v := .tuple #[.agg #[.int .i64 0, .bool false, .slice none 0 0], .int .i64 2]) (by simp [results, Tryz.results88, go_sem, y3]) rfl (RgRes.zero HBr.out)
        · have e1 : er = 0 := by rw [HE.out]; exact if_pos (HOK.out.1 rfl)
          have e2 : rr = comb (ofT tb tl tr) a.w.toNat a b := by rw [← Hrr.out, opRes, if_pos (by rw [Her.out]; exact e1)]
          subst e1 e2
          have z4 := HN4.out.cell
          obtain ⟨ff1, ff2, ff3⟩ := put3R_free HT4.out (.int .i64 x) (.bool f)
          have y3 := (put3R_blk (a' := .int .i64 x) (b' := .bool f) (c' := .slice A n c) HT4.out).cell
          have y1 := (HT4.out.set_ 0 (.int .i64 x)).cell
          have y2 := ((HT4.out.set_ 0 (.int .i64 x)).set_ 1 (.bool f)).cell
          have HBr := Lib.hid (put3R_below HB4.out (show w.heap.size ≤ w.heap.size + 3 by omega) (.int .i64 x) (.bool f) (.slice A n c))
          have HRr := Lib.hid (RgS.off HT4.out (put3R_but _ (w.heap.size + 3) (.int .i64 x) (.bool f) (.slice A n c)) (HR3.out rfl))
          unfold put3R at y3
          go_wp2
          exact bodyPost_ret (v := .tuple #[.agg #[.int .i64 x, .bool f, .slice A n c], .int .i64 0]) (by simp [results, Tryz.results88, go_sem, y3]) rfl ⟨x, f, A, n, c, rfl, HRr.out, HBr.out⟩
      · have g1 : (xa != xb) = true := by simp [hw]
        have e1 : er = 40 := by
          rw [← Her.out]
          simp [opErr, hxa, hxb, hw]
        have e2 := BAD.out e1
        subst e1 e2
        clear hxa hxb
        go_wp2
        exact bodyPost_ret (v := .tuple #[.agg #[.int .i64 0, .bool false, .slice none 0 0], .int .i64 40]) (by simp [results, Tryz.results88, go_sem, y3]) rfl (RgRes.zero HBr.out)
end Go.Proofs.YtmnmckblmoalkaaGreat
