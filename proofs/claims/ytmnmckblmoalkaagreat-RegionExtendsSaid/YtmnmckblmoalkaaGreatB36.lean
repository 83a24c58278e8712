/-
  Texts: AllR.
-/
import Derived.Test.YtmnmckblmoalkaaGreatB35
import Derived.OwnWalk
set_option linter.unusedVariables false
/-
  All rows and the complement: the reference's all, All, Complement, the program's All, Complement.
-/
namespace Go.Proofs.YtmnmckblmoalkaaGreat
open Go.RowKit
set_option maxRecDepth 100000
open Rg

/-- the seven cells of the interval of all values -/
def allC : Array Value := #[.int .i64 1, .int .i64 0, .string ⟨#[]⟩, .int .i64 0, .int .i64 0, .string ⟨#[]⟩, .bool true]
theorem all_iv {w : World} {g : Nat} (h : Blk w g 90 allC) : IvS w (some ⟨g, 0, none⟩) 1 allL := iv_one (T := 90) (x := ⟨⟨1, 0, ⟨#[]⟩⟩, zeroV, true⟩) h
theorem rall2_any (w : World) : Calls Tryz.prog 45 #[] w fun e w' => ∃ g, e = .returned (.slice (some ⟨g, 0, none⟩) 1 1) ∧ Blk w' g 90 allC ∧ Below w.heap.size w w' := by
  go_enter Tryz.func45, Tryz.ntmps45
  go_wp2
  go_ret
  exact ⟨_, rfl, Blk.new _ _ _, (Below.refl _ _).alloc (Nat.le_refl _) _⟩
theorem gall2_any (w : World) : Calls Tryz.prog 59 #[] w fun e w' => ∃ g, e = .returned (.slice (some ⟨g, 0, none⟩) 1 1) ∧ Blk w' g 90 allC ∧ Below w.heap.size w w' := by
  go_enter Tryz.func59, Tryz.ntmps59
  go_wp2_with fail
  refine (first_any 1 _).mono ?_
  rintro e w1 ⟨rfl, hb1⟩
  rw [show firstV 1 = (⟨1, 0, ⟨#[]⟩⟩, true) from rfl]
  dsimp only
  go_wp2
  go_ret
  refine ⟨_, rfl, Blk.step (by simp), ?_⟩
  exact (hb1.alloc hb1.size _).alloc (by have := hb1.size; simp; omega) _
theorem setc_len (p : SetP) : (setc p).length = 1 := rfl
theorem one_set (p : SetP) : ∀ u ∈ setc p, u.oneCell' = true := by simp [setc, Value.oneCell']
/-- a list of sets that all hold every value -/
def AllsS (w : World) (A : Option Addr) (n : Nat) : Prop := ∃ ps : List SetP, SetsS w A n ps ∧ ps.map (·.2) = List.replicate n allL
def AllP (w : World) (p : SetP) : Prop := ∃ g, p = ((some ⟨g, 0, none⟩, 1, 1), allL) ∧ Blk w g 90 allC
theorem AllP.but {w w' : World} {S : Nat → Prop} {p : SetP} (h : AllP w p) (hb : But S w w') (hS : ∀ q, S q → ∀ cs, ¬ Blk w q 90 cs) : AllP w' p := by
  obtain ⟨g, e, h1⟩ := h
  exact ⟨g, e, h1.but hb (fun hs => hS g hs _ h1)⟩
theorem AllP.below {w w' : World} {p : SetP} (h : AllP w p) (hb : Below w.heap.size w w') : AllP w' p := h.but (S := fun _ => False) (But.of_below hb) (fun _ h => h.elim)
theorem own_notI {w : World} {B n k c : Nat} {A : Option Addr} {xs : List Value} (h : w.ownsRow B 72 1 (.slice A n c) k xs) {q : Nat} (hq : (Value.slice A n c).ownBlock = some q) (cs : Array Value) : ¬ Blk w q 90 cs := fun hb => by
  obtain ⟨_, _, cs', h1⟩ := own_lt h hq
  unfold Blk at hb
  rw [h1] at hb
  injection hb with hb
  injection hb with _ hb
  exact absurd hb (by decide)
theorem alls_of {w : World} {A : Option Addr} {n c B : Nat} {ps : List SetP} (hown : w.ownsRow B 72 1 (.slice A n c) n (ps.flatMap setc)) (hl : ps.length = n) (hp : ∀ p ∈ ps, AllP w p) : AllsS w A n := by
  refine ⟨ps, ⟨Sl.of_own setc_len hl hown, fun p h => ?_⟩, ?_⟩
  · obtain ⟨g, rfl, h1⟩ := hp p h
    exact ⟨⟨Nat.le_refl _, fun h => by cases h⟩, by show 1 ≤ 1000000; omega, all_iv h1⟩
  · rw [List.eq_replicate_iff]
    refine ⟨by simp [hl], fun l hl => ?_⟩
    obtain ⟨p, h, rfl⟩ := List.mem_map.1 hl
    obtain ⟨g, rfl, _⟩ := hp p h
    rfl
set_option maxHeartbeats 1000000 in
theorem fall_any (n : Nat) (hn : n ≤ 12) (w : World) : Calls Tryz.prog 65 #[.int .i64 (n : Int)] w fun e w' => ∃ (A : Option Addr) (c : Nat), e = .returned (.slice A n c) ∧ AllsS w' A n ∧ Below w.heap.size w w' := by
  obtain ⟨il, hil, hl0, hl1, hl2⟩ := info_parts info_lst
  go_enter Tryz.func65, Tryz.ntmps65
  go_wp2_with fail
  go_loopw [3, 4] (fun v i wr => ∃ (k : Nat) (A' : Option Addr) (c' : Nat) (ps : List SetP), k ≤ n ∧ i = .int .i64 (k : Int) ∧ v = .slice A' k c' ∧ wr.ownsRow w.heap.size 72 1 (.slice A' k c') k (ps.flatMap setc) ∧ Hid (ps.length = k ∧ ∀ p ∈ ps, AllP wr p) ∧ Below w.heap.size w wr) (fun _ i _ => n - (intOf i).toNat)
  case atStart => exact ⟨0, none, 0, [], by omega, rfl, rfl, ⟨by simp, .inl ⟨rfl, rfl⟩⟩, Lib.hid ⟨rfl, by simp⟩, Below.refl _ _⟩
  case round =>
    obtain ⟨k, A', c', ps, hk, rfl, rfl, hown, HQ, hb⟩ := hrel
    by_cases hlt : k < n
    · have HOW := Lib.hid hown
      have HB := Lib.hid hb
      clear hown hb
      go_wp2_with fail
      refine (rall2_any _).mono ?_
      rintro e w1 ⟨g, rfl, hS, hb1⟩
      have HS1 := Lib.hid hS
      have HOW1 := Lib.hid (own_at HOW.out (fun q _ hl _ => hb1.block q hl))
      have HB1 := Lib.hid (Below.next HB.out hb1)
      have hs1 := HB1.out.size
      have HP1 : Hid (∀ p ∈ ps ++ [((some ⟨g, 0, none⟩, 1, 1), allL)], AllP w1 p) := Lib.hid fun p hp => by
        rcases List.mem_append.1 hp with hp | hp
        · exact (HQ.out.2 p hp).below hb1
        · exact ⟨g, List.mem_singleton.1 hp, hS⟩
      clear hS hb1
      go_wp2_with (at_builtin; refine wpList_append_one2 (by rfl) (.tmp 10) (.tmp 12) _ (by rfl) w.heap.size 72 il _ 1 24 Tryz.underlying71 hil hl0 hl1 hl2 (by rfl) (by omega) (.slice A' k c') k _ (by rfl) w1 #[.slice (some ⟨g, 0, none⟩) 1 1] HOW1.out w1.heap.size (by rfl) (by rfl) (by rfl) (one_set ((some ⟨g, 0, none⟩, 1, 1), allL)) (by simp only [maxLen]; omega) (by omega) hs1 ?_; intro g6 cap6 w6 hown6 hg6 hB6 hat6 hlt6)
      go_roundw
      case rel =>
        have hbu := (But.alloc (S := fun q => (Value.slice A' k c').ownBlock = some q) w1 (.cells #[.slice (some ⟨g, 0, none⟩) 1 1] 72)).trans (But.of_grown hg6 (fun q hq => hq))
        refine ⟨k + 1, _, cap6, ps ++ [((some ⟨g, 0, none⟩, 1, 1), allL)], by omega, by go_num, rfl, ?_, Lib.hid ⟨by simp [HQ.out.1], fun p hp => (HP1.out p hp).but hbu (fun q hq cs => own_notI HOW1.out hq cs)⟩, HB1.out.trans hB6⟩
        rw [List.flatMap_append]
        simpa [setc] using hown6
      case measure => simp [intOf]; omega
    · obtain rfl : k = n := by omega
      have HSS : Hid (AllsS wr A' k) := Lib.hid (alls_of hown HQ.out.1 HQ.out.2)
      have HB := Lib.hid hb
      clear hown hb HQ
      go_wp2
      go_ret
      exact ⟨A', c', rfl, HSS.out, HB.out⟩
theorem set_rep {n k : Nat} {xs : List Value} {v z : Value} (hl : xs.length = k) (hk : k < n) : (xs ++ List.replicate (n - k) z).set k v = xs ++ [v] ++ List.replicate (n - (k + 1)) z := by
  rw [List.set_append_right _ _ (by omega), hl, Nat.sub_self, show n - k = (n - (k + 1)) + 1 by omega, List.replicate_succ]
  simp
/-- all rows, and the error -/
def allErr (x : Int) : Int := if 0 ≤ x ∧ x ≤ 12 then 0 else 1
def allRes (x : Int) : Rg := if 0 ≤ x ∧ x ≤ 12 then allR x.toNat else zeroR
set_option maxHeartbeats 2000000 in
theorem gAll_any (x : Int) (w : World) : Calls Tryz.prog 76 #[.int .i64 x] w fun e w' => RgRes w (allRes x) (allErr x) e w' := by
  obtain ⟨il, hil, hl0, hl1, hl2⟩ := info_parts info_lst
  have HT := Lib.hid (Blk.new w 27 #[.int .i64 0, .bool false, .slice none 0 0])
  have HB0 := Lib.hid ((Below.refl w.heap.size w).alloc (Nat.le_refl _) (.cells #[.int .i64 0, .bool false, .slice none 0 0] 27))
  obtain ⟨W0, HW0⟩ : ∃ W : World, Hid (w.alloc (.cells #[.int .i64 0, .bool false, .slice none 0 0] 27) = W) := ⟨_, rfl⟩
  rw [HW0.out] at HT HB0
  have hs0 : W0.heap.size = w.heap.size + 1 := by rw [← HW0.out]; simp
  rcases Int.lt_or_le x 0 with h0 | h0
  · have g1 : decide (x < 0) = true := by simp; omega
    rw [allRes, allErr, if_neg (by omega), if_neg (by omega)]
    go_enter Tryz.func76, Tryz.ntmps76
    go_wp2
    refine bodyPost_ret (v := .tuple #[.agg #[.int .i64 0, .bool false, .slice none 0 0], .int .i64 1]) (by simp [results, Tryz.results76, go_sem]) rfl ⟨0, false, none, 0, 0, rfl, RgS.nil _ _, ?_⟩
    repeat (first | exact Below.refl _ _ | refine Below.setCell ?_ (by simp) _ | refine Below.alloc ?_ (by simp) _)
  · have g1 : decide (x < 0) = false := by simp; omega
    rcases Int.lt_or_le 12 x with h1 | h1
    · have g2 : decide (12 < x) = true := by simp; omega
      rw [allRes, allErr, if_neg (by omega), if_neg (by omega)]
      go_enter Tryz.func76, Tryz.ntmps76
      go_wp2
      refine bodyPost_ret (v := .tuple #[.agg #[.int .i64 0, .bool false, .slice none 0 0], .int .i64 1]) (by simp [results, Tryz.results76, go_sem]) rfl ⟨0, false, none, 0, 0, rfl, RgS.nil _ _, ?_⟩
      repeat (first | exact Below.refl _ _ | refine Below.setCell ?_ (by simp) _ | refine Below.alloc ?_ (by simp) _)
    · have g2 : decide (12 < x) = false := by simp; omega
      rw [allRes, allErr, if_pos ⟨h0, h1⟩, if_pos ⟨h0, h1⟩]
      obtain ⟨n, rfl⟩ := Int.eq_ofNat_of_zero_le h0
      have hn : n ≤ 12 := by omega
      rw [Int.toNat_natCast]
      clear h0 h1
      go_enter Tryz.func76, Tryz.ntmps76
      go_upto_region 3 with fail
      rw [HW0.out]
      go_wp2_with (at_make; refine wpList_make_full _ rfl _ _ 71 rfl (w.heap.size + 1) 72 il (.slice none 0 0) 1 Tryz.underlying71 hil hl0 hl1 .i64 .i64 _ _ n rfl rfl rfl rfl (by rw [hl2]; omega) (by unfold maxLen; omega) (by omega) ?_; intro w1 hown1 hgrow1)
      rw [hs0] at hown1
      have hmk : (madeCells (Value.slice none 0 0).cells (n * 1)).toList = List.replicate n (Value.slice none 0 0) := by
        have h1 : ∀ i : Nat, (Value.slice none 0 0).cells[i % (Value.slice none 0 0).cells.size]! = Value.slice none 0 0 := fun i => by
          show (#[Value.slice none 0 0] : Array Value)[i % 1]! = _
          rw [Nat.mod_one]
          rfl
        unfold madeCells
        rw [Nat.mul_one, Array.toList_map, List.eq_replicate_iff]
        exact ⟨by simp, fun b hb => by
          obtain ⟨i, _, rfl⟩ := List.mem_map.1 hb
          exact h1 i⟩
      have hb01 : Below W0.heap.size W0 w1 := fresh_none hgrow1
      have HT1 := Lib.hid (HT.out.below hb01)
      have HB1 := Lib.hid (Below.next HB0.out hb01)
      have HOW1 := Lib.hid hown1
      rw [hmk] at HOW1
      have hs1 : w.heap.size + 1 ≤ w1.heap.size := by have := hb01.size; omega
      clear hown1 hgrow1 hmk hb01 HT HB0 hs0
      go_wp2_with fail
      go_loopw [17] (fun i wr => ∃ (k : Nat) (ps : List SetP), k ≤ n ∧ i = .int .i64 (k : Int) ∧ wr.ownsRow (w.heap.size + 1) 72 1 (.slice (some ⟨w.heap.size + 1, 0, none⟩) n n) n (ps.flatMap setc ++ List.replicate (n - k) (Value.slice none 0 0)) ∧ Hid (ps.length = k ∧ ∀ p ∈ ps, AllP wr p) ∧ Blk wr w.heap.size 27 #[.int .i64 0, .bool false, .slice none 0 0] ∧ Below w.heap.size w wr) (fun i _ => n - (intOf i).toNat)
      case atStart => exact ⟨0, [], by omega, rfl, by simpa using HOW1.out, Lib.hid ⟨rfl, by simp⟩, HT1.out, HB1.out⟩
      case round =>
        clear HOW1 HT1 HB1
        obtain ⟨k, ps, hk, rfl, hown, HQ, hbk, hb⟩ := hrel
        by_cases hlt : k < n
        · have HOW := Lib.hid hown
          have HB := Lib.hid hb
          have HK := Lib.hid hbk
          clear hown hb hbk
          go_wp2_with fail
          refine (gall2_any _).mono ?_
          rintro e w2 ⟨g, rfl, hS, hb2⟩
          have HOW2 := Lib.hid (own_at HOW.out (fun q _ hl _ => hb2.block q hl))
          have HB2 := Lib.hid (Below.next HB.out hb2)
          have HK2 := Lib.hid (HK.out.below hb2)
          have HP2 : Hid (∀ p ∈ ps ++ [((some ⟨g, 0, none⟩, 1, 1), allL)], AllP w2 p) := Lib.hid fun p hp => by
            rcases List.mem_append.1 hp with hp | hp
            · exact (HQ.out.2 p hp).below hb2
            · exact ⟨g, List.mem_singleton.1 hp, hS⟩
          have hfl : (ps.flatMap setc).length = k := by rw [flat_len setc_len, HQ.out.1, Nat.mul_one]
          have hc := HOW2.out.cells (g := w.heap.size + 1) rfl k (.slice none 0 0) (by rw [List.getElem?_append_right (by omega), hfl, Nat.sub_self, show n - k = (n - k - 1) + 1 by omega, List.replicate_succ]; rfl)
          rw [add_at, Nat.zero_add] at hc
          have hfz := fun z => HOW2.out.frozenAt z
          have HFL := Lib.hid hfl
          clear hS hb2 HOW HB HK hfl
          go_wp2
          go_roundw
          case rel =>
            have hbz : But (fun q => (Value.slice (some ⟨w.heap.size + 1, 0, none⟩) n n).ownBlock = some q) w2 (w2.setCell ⟨w.heap.size + 1, k, none⟩ (.slice (some ⟨g, 0, none⟩) 1 1)) := But.set (S := fun q => (Value.slice (some ⟨w.heap.size + 1, 0, none⟩) n n).ownBlock = some q) _ (p := ⟨w.heap.size + 1, k, none⟩) rfl _
            refine ⟨k + 1, ps ++ [((some ⟨g, 0, none⟩, 1, 1), allL)], by omega, by go_num, ?_, Lib.hid ⟨by simp [HQ.out.1], fun p hp => (HP2.out p hp).but hbz (fun q hq cs => own_notI HOW2.out hq cs)⟩, HK2.out.but hbz (fun hq => by simp only [Value.ownBlock, Option.some.injEq] at hq; omega), HB2.out.setCell (p := ⟨w.heap.size + 1, k, none⟩) (by dsimp only; omega) _⟩
            have h1 := (HOW2.out.stored k (.slice (some ⟨g, 0, none⟩) 1 1)).1
            rw [set_rep HFL.out hlt] at h1
            rw [List.flatMap_append]
            exact h1
          case measure => simp [intOf]; omega
        · obtain rfl : k = n := by omega
          rw [Nat.sub_self, List.replicate_zero, List.append_nil] at hown
          obtain ⟨ps', hs', hm'⟩ := alls_of hown HQ.out.1 HQ.out.2
          have HSS := Lib.hid hs'
          have HM := Lib.hid hm'
          have HB := Lib.hid hb
          have HK := Lib.hid hbk
          clear hown hb HQ hs' hm' hbk
          go_wp2_with fail
          refine (box_any _ k k ps' _ HSS.out hn).mono ?_
          rintro e w3 ⟨x3, f3, A3, n3, c3, rfl, hR3, hb3⟩
          rw [HM.out] at hR3
          have HT := Lib.hid (HK.out.below hb3)
          have HB3 := Lib.hid (Below.next HB.out hb3)
          have HRr := Lib.hid (RgS.off HT.out (put3R_but _ w.heap.size (.int .i64 x3) (.bool f3) (.slice A3 n3 c3)) hR3)
          clear hR3 hb3 HK HB
          have zr := HT.out.cell
          obtain ⟨ff1, ff2, ff3⟩ := put3R_free HT.out (.int .i64 x3) (.bool f3)
          have y3 := (put3R_blk (a' := .int .i64 x3) (b' := .bool f3) (c' := .slice A3 n3 c3) HT.out).cell
          have y1 := (HT.out.set_ 0 (.int .i64 x3)).cell
          have y2 := ((HT.out.set_ 0 (.int .i64 x3)).set_ 1 (.bool f3)).cell
          have HBr := Lib.hid (put3R_below HB3.out (Nat.le_refl _) (.int .i64 x3) (.bool f3) (.slice A3 n3 c3))
          unfold put3R at y3
          go_wp2
          exact bodyPost_ret (v := .tuple #[.agg #[.int .i64 x3, .bool f3, .slice A3 n3 c3], .int .i64 0]) (by simp [results, Tryz.results76, go_sem, y3]) rfl ⟨x3, f3, A3, n3, c3, rfl, HRr.out, HBr.out⟩
/-- the complement, and the error -/
noncomputable def cpErr (a : Rg) : Int := if okB a then opErr opMr (allR a.w.toNat) a else 40
noncomputable def cpRes (a : Rg) : Rg := if okB a then opRes opMr (allR a.w.toNat) a else zeroR
set_option maxHeartbeats 2000000 in
theorem gcomplement_any (a : Rg) (xa : Int) (fa : Bool) (Aa : Option Addr) (na ca : Nat) (w : World) (hA : RgS w xa fa Aa na ca a) (wA : WfR a) :
    Calls Tryz.prog 39 #[.agg #[.int .i64 xa, .bool fa, .slice Aa na ca]] w fun e w' => RgRes w (cpRes a) (cpErr a) e w' := by
  obtain ⟨er, Her⟩ : ∃ z, Hid (cpErr a = z) := ⟨_, rfl⟩
  obtain ⟨rr, Hrr⟩ : ∃ z, Hid (cpRes a = z) := ⟨_, rfl⟩
  rw [Her.out, Hrr.out]
  have HA := Lib.hid hA
  have hxa := hA.hw
  have HW := Lib.hid wA
  clear hA wA
  obtain ⟨W0, HW0⟩ : ∃ W : World, Hid ((w.alloc (.cells #[.int .i64 xa, .bool fa, .slice Aa na ca] 27)).alloc (.cells #[.int .i64 0, .bool false, .slice none 0 0] 27) = W) := ⟨_, rfl⟩
  have HC : Hid (Blk W0 w.heap.size 27 #[.int .i64 xa, .bool fa, .slice Aa na ca] ∧ Blk W0 (w.heap.size + 1) 27 #[.int .i64 0, .bool false, .slice none 0 0]) := by
    rw [← HW0.out]
    exact Lib.hid ⟨(Blk.step rfl).alloc _, Blk.step (by simp)⟩
  have HB0 : Hid (Below w.heap.size w W0) := by
    rw [← HW0.out]
    exact Lib.hid (((Below.refl _ _).alloc (Nat.le_refl _) _).alloc (by simp) _)
  have hs0 : W0.heap.size = w.heap.size + 2 := by rw [← HW0.out]; simp
  obtain ⟨va, Hva⟩ : ∃ t, Hid (okB a = t) := ⟨_, rfl⟩
  go_enter Tryz.func39, Tryz.ntmps39
  go_wp2_with fail
  rw [HW0.out]
  refine (rvalidR_any a xa fa Aa na ca _ (HA.out.keep (keeps_of HB0.out))).mono ?_
  rintro e w1 ⟨rfl, hb1⟩
  rw [Hva.out]
  have HA1 := Lib.hid (HC.out.1.below hb1)
  have HT1 := Lib.hid (HC.out.2.below hb1)
  have HB1 := Lib.hid (Below.next HB0.out hb1)
  have hs1 := hb1.size
  clear hb1 HC HB0
  cases va
  · have e1 : er = 40 := by rw [← Her.out]; simp [cpErr, Hva.out]
    have e2 : rr = zeroR := by rw [← Hrr.out]; simp [cpRes, Hva.out]
    subst e1 e2
    have zr := HT1.out.cell
    obtain ⟨ff1, ff2, ff3⟩ := put3R_free HT1.out (.int .i64 0) (.bool false)
    have y3 := (put3R_blk (a' := .int .i64 0) (b' := .bool false) (c' := .slice none 0 0) HT1.out).cell
    have y1 := (HT1.out.set_ 0 (.int .i64 0)).cell
    have y2 := ((HT1.out.set_ 0 (.int .i64 0)).set_ 1 (.bool false)).cell
    have HBr := Lib.hid (put3R_below HB1.out (show w.heap.size ≤ w.heap.size + 1 by omega) (.int .i64 0) (.bool false) (.slice none 0 0))
    unfold put3R at y3
    go_wp2
    exact bodyPost_ret (v := .tuple #[.agg #[.int .i64 0, .bool false, .slice none 0 0], .int .i64 40]) (by simp [results, Tryz.results39, go_sem, y3]) rfl ⟨0, false, none, 0, 0, rfl, RgS.nil _ _, HBr.out⟩
  · have hok := okB_true.1 Hva.out
    have Hn : Hid (a.w.toNat ≤ 12 ∧ allRes xa = allR a.w.toNat ∧ er = opErr opMr (allR a.w.toNat) a ∧ rr = opRes opMr (allR a.w.toNat) a) := by
      have h1 := hok.1
      have h2 := hok.2.1
      refine Lib.hid ⟨by omega, ?_, ?_, ?_⟩
      · rw [allRes, ← hxa, if_pos ⟨h1, h2⟩]
      · rw [← Her.out, cpErr, if_pos Hva.out]
      · rw [← Hrr.out, cpRes, if_pos Hva.out]
    clear hok hxa
    have z1 := HA1.out.cell
    go_wp2_with fail
    refine (gAll_any xa _).mono ?_
    rintro e w2 ⟨x2, f2, A2, n2, c2, rfl, hR2, hb2⟩
    rw [Hn.out.2.1] at hR2
    obtain ⟨e2, He2⟩ : ∃ z, Hid (allErr xa = z) := ⟨_, rfl⟩
    rw [He2.out]
    have HR2 := Lib.hid (hR2.keep (keeps_alloc w2 (.cells #[.int .i64 x2, .bool f2, .slice A2 n2 c2] 27)))
    have HV2 := Lib.hid (Blk.new w2 27 #[.int .i64 x2, .bool f2, .slice A2 n2 c2])
    have hb02 := Below.next HB1.out hb2
    have HB2 := Lib.hid (hb02.alloc hb02.size (.cells #[.int .i64 x2, .bool f2, .slice A2 n2 c2] 27))
    have HA2 := Lib.hid ((HA1.out.below hb2).alloc (.cells #[.int .i64 x2, .bool f2, .slice A2 n2 c2] 27))
    have HT2 := Lib.hid ((HT1.out.below hb2).alloc (.cells #[.int .i64 x2, .bool f2, .slice A2 n2 c2] 27))
    have hs2 := hb2.size
    clear hR2 hb2 hb02 HA1 HT1 HB1 z1
    go_upto_region 4 with fail
    generalize hW2 : w2.alloc (.cells #[.int .i64 x2, .bool f2, .slice A2 n2 c2] 27) = W2 at *
    clear hW2
    have z1 := HA2.out.cell
    have z2 := HV2.out.cell
    go_wp2_with fail
    refine (operate_any false true false (allR a.w.toNat) x2 f2 A2 n2 c2 a xa fa Aa na ca _ HR2.out (HA.out.keep (keeps_of HB2.out)) (all_wf _) HW.out).mono ?_
    rintro e w3 ⟨x3, f3, A3, n3, c3, rfl, hR3, hb3⟩
    have HT := Lib.hid (HT2.out.below hb3)
    have HB3 := Lib.hid (Below.next HB2.out hb3)
    have HRr := Lib.hid (RgS.off HT.out (put3R_but _ (w.heap.size + 1) (.int .i64 x3) (.bool f3) (.slice A3 n3 c3)) hR3)
    rw [← Hn.out.2.2.2] at HRr
    rw [← Hn.out.2.2.1]
    clear hR3 hb3 HT2 HB2 z1 z2
    have zr := HT.out.cell
    obtain ⟨ff1, ff2, ff3⟩ := put3R_free HT.out (.int .i64 x3) (.bool f3)
    have y3 := (put3R_blk (a' := .int .i64 x3) (b' := .bool f3) (c' := .slice A3 n3 c3) HT.out).cell
    have y1 := (HT.out.set_ 0 (.int .i64 x3)).cell
    have y2 := ((HT.out.set_ 0 (.int .i64 x3)).set_ 1 (.bool f3)).cell
    have HBr := Lib.hid (put3R_below HB3.out (show w.heap.size ≤ w.heap.size + 1 by omega) (.int .i64 x3) (.bool f3) (.slice A3 n3 c3))
    unfold put3R at y3
    go_wp2
    exact bodyPost_ret (v := .tuple #[.agg #[.int .i64 x3, .bool f3, .slice A3 n3 c3], .int .i64 er]) (by simp [results, Tryz.results39, go_sem, y3]) rfl ⟨x3, f3, A3, n3, c3, rfl, HRr.out, HBr.out⟩
set_option maxHeartbeats 2000000 in
theorem fcomplement_any (a : Rg) (xa : Int) (fa : Bool) (Aa : Option Addr) (na ca : Nat) (w : World) (hA : RgS w xa fa Aa na ca a) :
    Calls Tryz.prog 49 #[.agg #[.int .i64 xa, .bool fa, .slice Aa na ca]] w fun e w' => RgRes w (cpRes a) (cpErr a) e w' := by
  obtain ⟨er, Her⟩ : ∃ z, Hid (cpErr a = z) := ⟨_, rfl⟩
  obtain ⟨rr, Hrr⟩ : ∃ z, Hid (cpRes a = z) := ⟨_, rfl⟩
  rw [Her.out, Hrr.out]
  have HA := Lib.hid hA
  have hxa := hA.hw
  clear hA
  obtain ⟨W0, HW0⟩ : ∃ W : World, Hid ((w.alloc (.cells #[.int .i64 xa, .bool fa, .slice Aa na ca] 27)).alloc (.cells #[.int .i64 0, .bool false, .slice none 0 0] 27) = W) := ⟨_, rfl⟩
  have HC : Hid (Blk W0 w.heap.size 27 #[.int .i64 xa, .bool fa, .slice Aa na ca] ∧ Blk W0 (w.heap.size + 1) 27 #[.int .i64 0, .bool false, .slice none 0 0]) := by
    rw [← HW0.out]
    exact Lib.hid ⟨(Blk.step rfl).alloc _, Blk.step (by simp)⟩
  have HB0 : Hid (Below w.heap.size w W0) := by
    rw [← HW0.out]
    exact Lib.hid (((Below.refl _ _).alloc (Nat.le_refl _) _).alloc (by simp) _)
  obtain ⟨va, Hva⟩ : ∃ t, Hid (okB a = t) := ⟨_, rfl⟩
  go_enter Tryz.func49, Tryz.ntmps49
  go_wp2_with fail
  rw [HW0.out]
  refine (fvalid_any a xa fa Aa na ca _ (HA.out.keep (keeps_of HB0.out))).mono ?_
  rintro e w1 ⟨rfl, hb1⟩
  rw [Hva.out]
  have HA1 := Lib.hid (HC.out.1.below hb1)
  have HT1 := Lib.hid (HC.out.2.below hb1)
  have HB1 := Lib.hid (Below.next HB0.out hb1)
  clear hb1 HC HB0
  cases va
  · have e1 : er = 40 := by rw [← Her.out]; simp [cpErr, Hva.out]
    have e2 : rr = zeroR := by rw [← Hrr.out]; simp [cpRes, Hva.out]
    subst e1 e2
    have zr := HT1.out.cell
    obtain ⟨ff1, ff2, ff3⟩ := put3R_free HT1.out (.int .i64 0) (.bool false)
    have y3 := (put3R_blk (a' := .int .i64 0) (b' := .bool false) (c' := .slice none 0 0) HT1.out).cell
    have y1 := (HT1.out.set_ 0 (.int .i64 0)).cell
    have y2 := ((HT1.out.set_ 0 (.int .i64 0)).set_ 1 (.bool false)).cell
    have HBr := Lib.hid (put3R_below HB1.out (show w.heap.size ≤ w.heap.size + 1 by omega) (.int .i64 0) (.bool false) (.slice none 0 0))
    unfold put3R at y3
    go_wp2
    exact bodyPost_ret (v := .tuple #[.agg #[.int .i64 0, .bool false, .slice none 0 0], .int .i64 40]) (by simp [results, Tryz.results49, go_sem, y3]) rfl ⟨0, false, none, 0, 0, rfl, RgS.nil _ _, HBr.out⟩
  · have hok := okB_true.1 Hva.out
    have h0 : 0 ≤ xa := by rw [← hxa]; exact hok.1
    obtain ⟨n, rfl⟩ := Int.eq_ofNat_of_zero_le h0
    have hn : n ≤ 12 := by have := hok.2.1; omega
    have Hn : Hid (er = opErr opMr (allR n) a ∧ rr = opRes opMr (allR n) a) := by
      have h1 : a.w.toNat = n := by rw [hxa, Int.toNat_natCast]
      refine Lib.hid ⟨?_, ?_⟩
      · rw [← Her.out, cpErr, if_pos Hva.out, h1]
      · rw [← Hrr.out, cpRes, if_pos Hva.out, h1]
    clear hok hxa h0
    obtain ⟨S, HS⟩ : ∃ S : Nat → Prop, Hid ((fun q => q = w.heap.size + 1) = S) := ⟨_, rfl⟩
    have hSA : ¬ S w.heap.size := by rw [← HS.out]; intro h; omega
    go_upto_region 3 with fail
    refine wp_region_plan S (.one [0, 1, 4] 2 (.one [] 3 (.one [] 5 (.one [6, 7] 8 (.last [9]))))) (by kernel_rfl) (by kernel_rfl) (fun _ _ d _ _ h => by cases d <;> exact h) ?_
    have qA : ∀ (y : LaterS S w1.drew) z, (afterS S w1.drew y).cell? ⟨w.heap.size, z, none⟩ = (#[.int .i64 (n : Int), .bool fa, .slice Aa na ca] : Array Value)[z]? := fun y z => (HA1.out.drew.but y.but hSA).cell z
    have HBd : Hid (Below w.heap.size w w1.drew) := Lib.hid HB1.out.drew
    have HTd : Hid (Blk w1.drew _ _ _) := Lib.hid HT1.out.drew
    generalize hW : w1.drew = w1d at *
    clear hW HA1 HT1 HB1
    unfold wpPlan
    simp only [pickOps, opAt, List.map_cons, List.map_nil, List.getElem?_toArray, List.getElem?_cons_zero, List.getElem?_cons_succ, Option.getD_some]
    repeat (go_big_quiet_step (fail))
    refine wpQuiet_nil ?_
    clear qA hSA
    go_wp2_with (first | (go_at_call 65; refine (fall_any n hn _).mono ?_; rintro e w2 ⟨A2, c2, rfl, hS2, hb2⟩))
    refine ⟨But.of_below hb2, ?_⟩
    obtain ⟨ps, hps, hpm⟩ := hS2
    have HPS := Lib.hid hps
    have HPM := Lib.hid hpm
    have HB2 := Lib.hid (Below.next HBd.out hb2)
    have HT2 := Lib.hid (HTd.out.below hb2)
    clear hb2 hps hpm HBd HTd
    unfold wpPlan
    simp only [pickOps, opAt, List.map_nil, List.getElem?_toArray, List.getElem?_cons_zero, List.getElem?_cons_succ, Option.getD_some]
    refine wpQuiet_nil ?_
    go_wp2_with (first | (go_at_call 63; refine (fbox_any A2 n c2 ps _ HPS.out hn).mono ?_; rintro e w3 ⟨x3, f3, A3, n3, c3, rfl, hR3, hb3⟩; rw [HPM.out] at hR3))
    refine ⟨But.of_below hb3, ?_⟩
    have HR3 : Hid (RgS w3 x3 f3 A3 n3 c3 (allR n)) := Lib.hid hR3
    have HB3 := Lib.hid (Below.next HB2.out hb3)
    have HT3 := Lib.hid (HT2.out.below hb3)
    clear hb3 hR3 HB2 HT2 HPS HPM
    unfold wpPlan
    simp only [pickOps, opAt, List.map_nil, List.getElem?_toArray, List.getElem?_cons_zero, List.getElem?_cons_succ, Option.getD_some]
    refine wpQuiet_nil ?_
    go_wp2_with (first | (go_at_call 99; refine (fdo_any 3 (allR n) x3 f3 A3 n3 c3 a (n : Int) fa Aa na ca _ HR3.out (HA.out.keep (keeps_of HB3.out))).mono ?_; rintro e w4 ⟨x4, f4, A4, n4, c4, rfl, hR4, hb4⟩; rw [opR_eq.2.2] at hR4 ⊢; rw [← Hn.out.1]; rw [← Hn.out.2] at hR4))
    refine ⟨But.of_below hb4, ?_⟩
    have HB4 := Lib.hid (Below.next HB3.out hb4)
    have HT4 := Lib.hid (HT3.out.below hb4)
    have HRr := Lib.hid (RgS.off HT4.out (put3R_but _ (w.heap.size + 1) (.int .i64 x4) (.bool f4) (.slice A4 n4 c4)) hR4)
    clear hb4 hR4 HB3 HT3 HR3
    unfold wpPlan
    simp only [pickOps, opAt, List.map_cons, List.map_nil, List.getElem?_toArray, List.getElem?_cons_zero, List.getElem?_cons_succ, Option.getD_some]
    repeat (go_big_quiet_step (fail))
    refine wpQuiet_nil ?_
    have zr := HT4.out.cell
    obtain ⟨ff1, ff2, ff3⟩ := put3R_free HT4.out (.int .i64 x4) (.bool f4)
    have y3 := (put3R_blk (a' := .int .i64 x4) (b' := .bool f4) (c' := .slice A4 n4 c4) HT4.out).cell
    have y1 := (HT4.out.set_ 0 (.int .i64 x4)).cell
    have y2 := ((HT4.out.set_ 0 (.int .i64 x4)).set_ 1 (.bool f4)).cell
    have HBr := Lib.hid (put3R_below HB4.out (show w.heap.size ≤ w.heap.size + 1 by omega) (.int .i64 x4) (.bool f4) (.slice A4 n4 c4))
    have hbS : But S w4 (put3R w4 (w.heap.size + 1) (.int .i64 x4) (.bool f4) (.slice A4 n4 c4)) := by
      rw [← HS.out]
      exact put3R_but w4 (w.heap.size + 1) _ _ _
    unfold put3R at y3 hbS
    go_wp2_with fail
    refine ⟨hbS, ?_⟩
    unfold wpPlan
    simp only [pickOps, opAt, List.map_cons, List.map_nil, List.getElem?_toArray, List.getElem?_cons_zero, List.getElem?_cons_succ, Option.getD_some]
    repeat (go_big_quiet_step (fail))
    refine wpQuiet_nil ?_
    go_wp2
    exact bodyPost_ret (v := .tuple #[.agg #[.int .i64 x4, .bool f4, .slice A4 n4 c4], .int .i64 er]) (by simp [results, Tryz.results49, go_sem, y3]) rfl ⟨x4, f4, A4, n4, c4, rfl, HRr.out, HBr.out⟩
end Go.Proofs.YtmnmckblmoalkaaGreat
