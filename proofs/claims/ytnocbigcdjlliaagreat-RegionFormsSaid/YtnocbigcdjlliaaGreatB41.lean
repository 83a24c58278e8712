/-
  Texts: Case, Case2.
-/
import Derived.Test.YtnocbigcdjlliaaGreatB27
set_option linter.unusedVariables false
namespace Go.Proofs.YtnocbigcdjlliaaGreat
open Go.RowKit
set_option maxRecDepth 100000
set_option linter.unusedVariables false

def u8c (b : Int) : List Value := [.int .u8 b]
/-- block g is a Case: a list of bytes and a place in it -/
structure CaseAt (w : World) (g : Nat) : Prop where
  ex : ∃ (A : Option Addr) (n c k : Nat) (zs : List Int), Blk w g 75 #[.slice A n c, .int .i64 (k : Int)] ∧ Sl 1 u8c w A n zs ∧ (∀ z ∈ zs, 0 ≤ z ∧ z ≤ 255) ∧ n ≤ 1000 ∧ k ≤ n ∧ (0 < n → ∀ b o, A = some ⟨b, o, none⟩ → b < g)
theorem Sl.lt_of {w : World} {A : Option Addr} {n : Nat} {zs : List Int} {b o : Nat} (h : Sl 1 u8c w A n zs) (hA : A = some ⟨b, o, none⟩) (hn : 0 < n) : ∃ z, w.cell? ⟨b, o, none⟩ = some (.int .u8 z) := by
  obtain ⟨b', o', x, hA', hx, hc⟩ := h.at hn
  rw [hA] at hA'
  injection hA' with h1
  injection h1 with h1 h2
  subst h1 h2
  exact ⟨x, by have := hc 0 _ rfl; simpa using this⟩
theorem case_ne {w : World} {g : Nat} {A A' : Option Addr} {n m c k : Nat} {zs : List Int} (hB : Blk w g 75 #[.slice A' m c, .int .i64 (k : Int)]) (h : Sl 1 u8c w A n zs) (hn : 0 < n) : ∀ b o, A = some ⟨b, o, none⟩ → b ≠ g := by
  rintro b o hA rfl
  obtain ⟨z, hz⟩ := h.lt_of hA hn
  rw [hB.cell] at hz
  rcases o with _ | _ | o <;> simp at hz
theorem CaseAt.below {w w' : World} {g : Nat} (h : CaseAt w g) (hb : Below w.heap.size w w') : CaseAt w' g := by
  obtain ⟨A, n, c, k, zs, h1, h2, h3, h4, h5⟩ := h.ex
  exact ⟨A, n, c, k, zs, h1.below hb, h2.keep (keeps_of hb), h3, h4, h5⟩

set_option maxHeartbeats 1000000 in
theorem int_any (g : Nat) (m : Int) (w : World) (hc : CaseAt w g) (hm : 1 ≤ m) (hm2 : m ≤ 1000) :
    Calls Tryz.prog 17 #[.pointer (some ⟨g, 0, none⟩), .int .i64 m] w fun e w' => (∃ x : Int, 0 ≤ x ∧ x < m ∧ e = .returned (.int .i64 x)) ∧ CaseAt w' g ∧ But (· = g) w w' := by
  obtain ⟨A, n, c, k, zs, hB, hS, hz, hn, hk, hlow⟩ := hc.ex
  have HLOW := Lib.hid hlow
  clear hlow
  have e0 := blocks_at hB (i := 0) rfl
  have e1 := blocks_at hB (i := 1) rfl
  rcases Nat.lt_or_ge k n with hkn | hkn
  · obtain ⟨b, o, z, rfl, hzx, hzc⟩ := hS.at hkn
    have hne := case_ne hB hS (by omega) b o rfl
    have hzb : 0 ≤ z ∧ z ≤ 255 := hz z (List.mem_of_getElem? hzx)
    have hcell := hzc 0 _ rfl
    simp only [Nat.mul_one, Nat.add_zero] at hcell
    have g1 : decide (n ≤ k) = false := by simp; omega
    have g2 : decide (m < 1) = false := by simp; omega
    have f1 := hB.free 1
    have hSet := hB.set_ 1 (.int .i64 ((k : Int) + 1))
    have hU : But (· = g) w (w.setCell ⟨g, 1, none⟩ (.int .i64 ((k : Int) + 1))) := But.set (S := fun k => k = g) w (p := ⟨g, 1, none⟩) rfl _
    have hS2 := hS.but hU (fun h b' o' e => by injection e with e; injection e with e1 e2; rw [← e1]; exact hne)
    have d0 := far_cell (p := ⟨g, 1, none⟩) (u := .int .i64 ((k : Int) + 1)) hcell hne
    have HB := Lib.hid (show CaseAt (w.setCell ⟨g, 1, none⟩ (.int .i64 ((k : Int) + 1))) g from ⟨_, n, c, k + 1, zs, hSet, hS2, hz, hn, hkn, HLOW.out⟩)
    have d1 := blocks_at hSet (i := 0) (u := .slice (some ⟨b, o, none⟩) n c) rfl
    have d2 := blocks_at hSet (i := 1) (u := .int .i64 ((k : Int) + 1)) rfl
    have HS := Lib.hid hS
    have HC := Lib.hid hc
    have HU := Lib.hid hU
    clear hB hS hc hSet hU hS2 hzx hzc hz
    go_enter Tryz.func17, Tryz.ntmps17
    go_wp2
    have hca := @cell_after w.drew
    refine wp_region_seg [] [0, 1, 2, 3, 4, 5, 6, 7, 8, 9, 10, 11, 12, 13] (by kernel_rfl) (by kernel_rfl) (fun _ _ d _ _ h => by cases d <;> exact h) ?_
    simp only [pickSegs, pickOps, opAt, List.map_cons, List.map_nil, List.getElem?_toArray, List.getElem?_cons_zero, List.getElem?_cons_succ, Option.getD_some]
    unfold wpBlocks
    repeat (go_big_quiet_step (fail))
    refine wpQuiet_nil ?_
    clear hca
    go_wp2
    generalize w.setCell ⟨g, 1, none⟩ (.int .i64 ((k : Int) + 1)) = W at *
    clear hcell e0 e1 f1
    have hca := @cell_after W.drew.drew
    refine wp_region_seg [] [0, 1, 2, 3, 4, 5, 6, 7, 8, 9, 10, 11, 12, 13, 14] (by kernel_rfl) (by kernel_rfl) (fun _ _ d _ _ h => by cases d <;> exact h) ?_
    simp only [pickSegs, pickOps, opAt, List.map_cons, List.map_nil, List.getElem?_toArray, List.getElem?_cons_zero, List.getElem?_cons_succ, Option.getD_some]
    unfold wpBlocks
    repeat (go_big_quiet_step (fail))
    refine wpQuiet_nil ?_
    clear hca
    go_wp2
    go_ret
    refine ⟨⟨z % m, Int.emod_nonneg z (by omega), ?_, rfl⟩, HB.out.below (Below.refl _ _).drew.drew, HU.out.drew.drew⟩
    exact Int.emod_lt_of_pos z (by omega)
  · have g1 : decide (n ≤ k) = true := by simp; omega
    go_enter Tryz.func17, Tryz.ntmps17
    have HB := Lib.hid hB
    have HS := Lib.hid hS
    have HC := Lib.hid hc
    clear hB hS hc
    go_wp2
    have hca := @cell_after w.drew
    refine wp_region_seg [] [0, 1, 2, 3, 4, 5, 6, 7, 8, 9, 10, 11, 12, 13] (by kernel_rfl) (by kernel_rfl) (fun _ _ d _ _ h => by cases d <;> exact h) ?_
    simp only [pickSegs, pickOps, opAt, List.map_cons, List.map_nil, List.getElem?_toArray, List.getElem?_cons_zero, List.getElem?_cons_succ, Option.getD_some]
    unfold wpBlocks
    repeat (go_big_quiet_step (fail))
    refine wpQuiet_nil ?_
    clear hca
    go_wp2
    go_ret
    exact ⟨⟨0, by omega, by omega, rfl⟩, HC.out.below (Below.refl _ _).drew, (But.refl _ _).drew⟩

theorem info_u8 : (Tryz.prog.info? 5).map (fun i => (i.zero, i.size, i.bytes)) = some (some (.int .u8 0), 1, 1) := by kernel_rfl

set_option maxHeartbeats 1000000 in
theorem new_any (A : Option Addr) (n c : Nat) (zs : List Int) (most : Nat) (w : World) (hs : Sl 1 u8c w A n zs) (hz : ∀ z ∈ zs, 0 ≤ z ∧ z ≤ 255) (hnil : A = none → n = 0 ∧ c = 0) (hsp : ∀ ad, A = some ad → ad.spot = none) (hnc : n ≤ c) (hcm : c ≤ 9223372036854775807) (hmo : most ≤ 1000) :
    Calls Tryz.prog 16 #[.slice A n c, .int .i64 (most : Int)] w fun e w' => ∃ g, w.heap.size ≤ g ∧ e = .returned (.pointer (some ⟨g, 0, none⟩)) ∧ CaseAt w' g ∧ Below w.heap.size w w' := by
  obtain ⟨i0, hi, hz0, hz1, hz2⟩ := info_parts info_u8
  have key : ∀ m : Nat, m ≤ n → m ≤ 1000 → ∀ (A' : Option Addr) (c' : Nat) (w1 : World), w1.ownsRow w.heap.size 5 1 (.slice A' m c') m ((zs.take m).flatMap u8c) → Below w.heap.size w w1 →
      CaseAt (w1.alloc (.cells #[.slice A' m c', .int .i64 0] 75)) w1.heap.size ∧ Below w.heap.size w (w1.alloc (.cells #[.slice A' m c', .int .i64 0] 75)) := by
    intro m h1 h2 A' c' w1 ho hb
    have hl := hs.len
    refine ⟨⟨A', m, c', 0, zs.take m, Blk.new _ _ _, (Sl.of_own (cs := u8c) (fun _ => rfl) (by simp; omega) ho).keep (keeps_alloc _ _), fun z h => hz z (List.mem_of_mem_take h), by omega, by omega, fun hm b o e => Sl.lt (cs := u8c) (sz := 1) (fun _ => rfl) (by decide) (Sl.of_own (cs := u8c) (fun _ => rfl) (by simp; omega) ho) hm b o e⟩, hb.alloc hb.size _⟩
  have Key := Lib.hid key
  have HS := fun (m : Nat) (h : m ≤ n) => Lib.hid (hs.take m h)
  have HN := Lib.hid hnil
  have HSP := Lib.hid hsp
  clear hs hnil hsp hz key
  rcases Nat.lt_or_ge most n with hle | hle
  rotate_left
  · have HS1 := HS n (Nat.le_refl _)
    clear HS
    have hmin : min (n : Int) (most : Int) = (n : Int) := by omega
    go_enter Tryz.func16, Tryz.ntmps16
    go_wp2_with (at_builtin; refine wpList_append_sl (cs := u8c) w (by rfl) _ (.tmp 10) _ (by rfl) w.heap.size 5 i0 _ 1 1 Tryz.underlying22 hi hz0 hz1 hz2 (by rfl) (by omega) (.slice none 0 0) 0 [] (by rfl) ⟨by simp, .inl ⟨rfl, rfl⟩⟩ A n c (zs.take n) (by rfl) HS1.out HN.out HSP.out (fun _ => rfl) (by simp [u8c, Value.oneCell']) (by simp only [maxLen]; omega) (by omega) (Nat.le_refl _) ?_; intro A1 c1 w1 hown1 hg1 hB1 hat1 hn1; simp only [Nat.zero_add, List.nil_append] at hown1)
    go_ret
    obtain ⟨h1, h2⟩ := Key.out n (Nat.le_refl _) (by omega) A1 c1 w1 hown1 hB1
    exact ⟨_, hB1.size, rfl, h1, h2⟩
  · have HS1 := HS most (by omega)
    clear HS
    have hmin : min (n : Int) (most : Int) = (most : Int) := by omega
    go_enter Tryz.func16, Tryz.ntmps16
    go_wp2_with (at_builtin; refine wpList_append_sl (cs := u8c) w (by rfl) _ (.tmp 10) _ (by rfl) w.heap.size 5 i0 _ 1 1 Tryz.underlying22 hi hz0 hz1 hz2 (by rfl) (by omega) (.slice none 0 0) 0 [] (by rfl) ⟨by simp, .inl ⟨rfl, rfl⟩⟩ A most c (zs.take most) (by rfl) HS1.out (fun h => ⟨by have := (HN.out h).1; omega, (HN.out h).2⟩) HSP.out (fun _ => rfl) (by simp [u8c, Value.oneCell']) (by simp only [maxLen]; omega) (by omega) (Nat.le_refl _) ?_; intro A1 c1 w1 hown1 hg1 hB1 hat1 hn1; simp only [Nat.zero_add, List.nil_append] at hown1)
    go_ret
    obtain ⟨h1, h2⟩ := Key.out most (by omega) (by omega) A1 c1 w1 hown1 hB1
    exact ⟨_, hB1.size, rfl, h1, h2⟩

theorem bool_any (g : Nat) (m : Int) (w : World) (hc : CaseAt w g) (hm : 1 ≤ m) (hm2 : m ≤ 1000) :
    Calls Tryz.prog 32 #[.pointer (some ⟨g, 0, none⟩), .int .i64 m] w fun e w' => (∃ x : Bool, e = .returned (.bool x)) ∧ CaseAt w' g ∧ But (· = g) w w' := by
  go_enter Tryz.func32, Tryz.ntmps32
  go_wp2_with fail
  refine (int_any g m _ hc hm hm2).mono ?_
  rintro e w1 ⟨⟨x, hx1, hx2, rfl⟩, hc1, hb1⟩
  go_wp2
  go_ret
  exact ⟨⟨_, rfl⟩, hc1, hb1⟩

def SomeInt (w : World) (g : Nat) (e : Ending) (w' : World) : Prop := (∃ x : Int, e = .returned (.int .i64 x)) ∧ CaseAt w' g ∧ But (· = g) w w'
theorem number_any (g : Nat) (w : World) (hc : CaseAt w g) :
    Calls Tryz.prog 123 #[.pointer (some ⟨g, 0, none⟩)] w fun e w' => SomeInt w g e w' := by
  go_enter Tryz.func123, Tryz.ntmps123
  go_wp2_with fail
  refine (int_any g 12 _ hc (by omega) (by omega)).mono ?_
  rintro e w1 ⟨⟨x, hx1, hx2, rfl⟩, hc1, hb1⟩
  go_wp2
  all_goals
    go_ret
    exact ⟨⟨_, rfl⟩, hc1, hb1⟩

def SomeText (w : World) (g : Nat) (e : Ending) (w' : World) : Prop := (∃ x : ByteArray, x.size ≤ 64 ∧ e = .returned (.string x)) ∧ CaseAt w' g ∧ But (· = g) w w'
set_option maxHeartbeats 1000000 in
theorem text_any (g : Nat) (w : World) (hc : CaseAt w g) :
    Calls Tryz.prog 124 #[.pointer (some ⟨g, 0, none⟩)] w fun e w' => SomeText w g e w' := by
  go_enter Tryz.func124, Tryz.ntmps124
  go_wp2_with fail
  refine (int_any g 10 _ hc (by omega) (by omega)).mono ?_
  rintro e w1 ⟨⟨x, hx1, hx2, rfl⟩, hc1, hb1⟩
  go_wp2
  iterate 8
    · go_ret
      exact ⟨⟨_, by decide, rfl⟩, hc1, hb1⟩
  · go_loop [3, 4] (fun t i => ∃ (k : Nat) (s : ByteArray), k ≤ 64 ∧ i = .int .i64 (k : Int) ∧ t = .string s ∧ s.size ≤ k) (fun _ i => 64 - (intOf i).toNat)
    case atStart => exact ⟨0, ⟨#[]⟩, by omega, rfl, rfl, by decide⟩
    case round =>
      obtain ⟨k, s, hk, rfl, rfl, hsk⟩ := hrel
      have hsk2 : s.size ≤ 64 := by omega
      by_cases hlt : k < 64
      · go_wp2
        go_round
        case rel => exact ⟨k + 1, _, by omega, by go_num, rfl, by have h1 : (⟨#[255]⟩ : ByteArray).size = 1 := rfl; have h2 : (⟨#[98]⟩ : ByteArray).size = 1 := rfl; simp; omega⟩
        case measure => simp [intOf]; omega
      · go_wp2
        go_ret
        exact ⟨⟨s, hsk2, rfl⟩, hc1, hb1⟩
  · go_loop [3, 5] (fun t i => ∃ (k : Nat) (s : ByteArray), k ≤ 64 ∧ i = .int .i64 (k : Int) ∧ t = .string s ∧ s.size ≤ k) (fun _ i => 64 - (intOf i).toNat)
    case atStart => exact ⟨0, ⟨#[]⟩, by omega, rfl, rfl, by decide⟩
    case round =>
      obtain ⟨k, s, hk, rfl, rfl, hsk⟩ := hrel
      have hsk2 : s.size ≤ 64 := by omega
      by_cases hlt : k < 64
      · go_wp2
        go_round
        case rel => exact ⟨k + 1, _, by omega, by go_num, rfl, by have h1 : (⟨#[255]⟩ : ByteArray).size = 1 := rfl; have h2 : (⟨#[98]⟩ : ByteArray).size = 1 := rfl; simp; omega⟩
        case measure => simp [intOf]; omega
      · go_wp2
        go_ret
        exact ⟨⟨s, hsk2, rfl⟩, hc1, hb1⟩

theorem mk_valid {k i : Int} {t : ByteArray} (h : validV ⟨k, i, t⟩ = true) : ∃ v : Vl, validV v = true ∧ (⟨k, i, t⟩ : Vl) = v := ⟨_, h, rfl⟩
def SomeV (w : World) (g : Nat) (e : Ending) (w' : World) : Prop := (∃ v : Vl, validV v = true ∧ e = .returned (.agg #[.int .i64 v.k, .int .i64 v.i, .string v.t])) ∧ CaseAt w' g ∧ But (· = g) w w'
theorem CaseAt.lt {w : World} {g : Nat} (h : CaseAt w g) : g < w.heap.size := by
  obtain ⟨A, n, c, k, zs, h1, _⟩ := h.ex
  exact h1.lt
theorem CaseAt.but {w w' : World} {g : Nat} {S : Nat → Prop} (h : CaseAt w g) (hb : But S w w') (hg : ¬ S g) (hS : ∀ b, S b → ∀ i x, w.cell? ⟨b, i, none⟩ ≠ some (.int .u8 x)) : CaseAt w' g := by
  obtain ⟨A, n, c, k, zs, h1, h2, h3, h4, h5⟩ := h.ex
  refine ⟨A, n, c, k, zs, h1.but hb hg, h2.but hb (fun hn b o e hs => ?_), h3, h4, h5⟩
  obtain ⟨z, hz⟩ := h2.lt_of e hn
  exact hS b hs o z hz
theorem CaseAt.far {w w' : World} {g : Nat} {S : Nat → Prop} (h : CaseAt w g) (hb : But S w w') (hS : ∀ b, S b → g < b) : CaseAt w' g := by
  obtain ⟨A, n, c, k, zs, h1, h2, h3, h4, h5, h6⟩ := h.ex
  exact ⟨A, n, c, k, zs, h1.but hb (fun hs => by have := hS g hs; omega), h2.but hb (fun hn b o e hs => by have := hS b hs; have := h6 hn b o e; omega), h3, h4, h5, h6⟩
theorem But.setNew {S : Nat → Prop} {w w' : World} (h : But S w w') {p : Addr} (hp : w.heap.size ≤ p.block) (u : Value) : But S w (w'.setCell p u) :=
  ⟨h.os, h.tape, h.output, by simpa [World.setCell] using h.size, fun k hk hs => (Below.heap_setCell w' p u k (by omega)).trans (h.block k hk hs)⟩
theorem But.allocNew {S : Nat → Prop} {w w' : World} (h : But S w w') (o : Obj) : But S w (w'.alloc o) := h.trans (But.alloc _ _)
/-- three cells of a box of the call's own are written -/
theorem case_box {w : World} {g z : Nat} {k i : Int} {t : ByteArray} (h : CaseAt w g) (hB : Blk w z 67 #[.int .i64 k, .int .i64 i, .string t]) (hne : g ≠ z) (u0 u1 u2 : Value) :
    CaseAt (((w.setCell ⟨z, 0, none⟩ u0).setCell ⟨z, 1, none⟩ u1).setCell ⟨z, 2, none⟩ u2) g := by
  refine h.but (S := fun b => b = z) (((But.set (S := fun b => b = z) w (p := ⟨z, 0, none⟩) rfl u0).trans (But.set (S := fun b => b = z) _ (p := ⟨z, 1, none⟩) rfl u1)).trans (But.set (S := fun b => b = z) _ (p := ⟨z, 2, none⟩) rfl u2)) hne ?_
  rintro b rfl j x hx
  rw [hB.cell] at hx
  rcases j with _ | _ | _ | j <;> simp at hx
set_option maxHeartbeats 1000000 in
theorem value_any (g : Nat) (k : Int) (w : World) (hc : CaseAt w g) (hk : k = 3 ∨ k = 4 ∨ k = 5) :
    Calls Tryz.prog 105 #[.pointer (some ⟨g, 0, none⟩), .int .i64 k] w fun e w' => SomeV w g e w' := by
  have hlt := hc.lt
  have hc0 := hc.below ((Below.refl _ _).alloc (Nat.le_refl _) (.cells #[.int .i64 0, .int .i64 0, .string ⟨#[]⟩] 67))
  have hX := Blk.new w 67 #[.int .i64 0, .int .i64 0, .string ⟨#[]⟩]
  have hB0 : But (· = g) w (w.alloc (.cells #[.int .i64 0, .int .i64 0, .string ⟨#[]⟩] 67)) := But.alloc _ _
  rcases hk with rfl | rfl | rfl
  · go_enter Tryz.func105, Tryz.ntmps105
    go_wp2_with fail
    refine (int_any g 2 _ hc0 (by omega) (by omega)).mono ?_
    rintro e w1 ⟨⟨x, hx1, hx2, rfl⟩, hc1, hb1⟩
    have hX1 := hX.but hb1 (by omega)
    have hXc := hX1.cell
    have hXf := hX1.free
    go_wp2
    refine bodyPost_ret (v := .agg #[.int .i64 3, .int .i64 x, .string ⟨#[]⟩]) (by simp [results, Tryz.results105, go_sem, hXc]) rfl ⟨⟨⟨3, x, ⟨#[]⟩⟩, ?_, rfl⟩, ?_, ?_⟩
    · have : x = 0 ∨ x = 1 := by omega
      rcases this with rfl | rfl <;> decide +kernel
    · exact case_box hc1 hX1 (by omega) _ _ _
    · exact (((hB0.trans hb1).setNew (p := ⟨w.heap.size, 0, none⟩) (by simp) _).setNew (p := ⟨w.heap.size, 1, none⟩) (by simp) _).setNew (p := ⟨w.heap.size, 2, none⟩) (by simp) _
  · go_enter Tryz.func105, Tryz.ntmps105
    go_wp2_with fail
    refine (number_any g _ hc0).mono ?_
    rintro e w1 ⟨⟨x, rfl⟩, hc1, hb1⟩
    have hX1 := hX.but hb1 (by omega)
    have hXc := hX1.cell
    have hXf := hX1.free
    go_wp2
    refine bodyPost_ret (v := .agg #[.int .i64 4, .int .i64 x, .string ⟨#[]⟩]) (by simp [results, Tryz.results105, go_sem, hXc]) rfl ⟨⟨⟨4, x, ⟨#[]⟩⟩, ?_, rfl⟩, ?_, ?_⟩
    · simp [validV, ByteArray.toList_eq]
    · exact case_box hc1 hX1 (by omega) _ _ _
    · exact (((hB0.trans hb1).setNew (p := ⟨w.heap.size, 0, none⟩) (by simp) _).setNew (p := ⟨w.heap.size, 1, none⟩) (by simp) _).setNew (p := ⟨w.heap.size, 2, none⟩) (by simp) _
  · go_enter Tryz.func105, Tryz.ntmps105
    go_wp2_with fail
    refine (text_any g _ hc0).mono ?_
    rintro e w1 ⟨⟨x, hx, rfl⟩, hc1, hb1⟩
    have hX1 := hX.but hb1 (by omega)
    have hXc := hX1.cell
    have hXf := hX1.free
    go_wp2
    refine bodyPost_ret (v := .agg #[.int .i64 5, .int .i64 0, .string x]) (by simp [results, Tryz.results105, go_sem, hXc]) rfl ⟨⟨⟨5, 0, x⟩, ?_, rfl⟩, ?_, ?_⟩
    · simp [validV]; omega
    · exact case_box hc1 hX1 (by omega) _ _ _
    · exact (((hB0.trans hb1).setNew (p := ⟨w.heap.size, 0, none⟩) (by simp) _).setNew (p := ⟨w.heap.size, 1, none⟩) (by simp) _).setNew (p := ⟨w.heap.size, 2, none⟩) (by simp) _

set_option maxHeartbeats 1000000 in
theorem any_any (g : Nat) (w : World) (hc : CaseAt w g) :
    Calls Tryz.prog 61 #[.pointer (some ⟨g, 0, none⟩)] w fun e w' => SomeV w g e w' := by
  have hlt := hc.lt
  have hc0 := hc.below ((Below.refl _ _).alloc (Nat.le_refl _) (.cells #[.int .i64 0, .int .i64 0, .string ⟨#[]⟩] 67))
  have hX := Blk.new w 67 #[.int .i64 0, .int .i64 0, .string ⟨#[]⟩]
  have hB0 : But (· = g) w (w.alloc (.cells #[.int .i64 0, .int .i64 0, .string ⟨#[]⟩] 67)) := But.alloc _ _
  go_enter Tryz.func61, Tryz.ntmps61
  go_wp2_with fail
  refine (int_any g 5 _ hc0 (by omega) (by omega)).mono ?_
  rintro e w1 ⟨⟨x, hx1, hx2, rfl⟩, hc1, hb1⟩
  have hX1 := hX.but hb1 (by omega)
  have hXc := hX1.cell
  have hXf := hX1.free
  by_cases h3 : 1 + x < 3
  · go_wp2
    refine bodyPost_ret (v := .agg #[.int .i64 (1 + x), .int .i64 0, .string ⟨#[]⟩]) (by simp [results, Tryz.results61, go_sem, hXc]) rfl ⟨⟨⟨1 + x, 0, ⟨#[]⟩⟩, ?_, rfl⟩, ?_, ?_⟩
    · have : x = 0 ∨ x = 1 := by omega
      rcases this with rfl | rfl <;> decide +kernel
    · exact case_box hc1 hX1 (by omega) _ _ _
    · exact (((hB0.trans hb1).setNew (p := ⟨w.heap.size, 0, none⟩) (by simp) _).setNew (p := ⟨w.heap.size, 1, none⟩) (by simp) _).setNew (p := ⟨w.heap.size, 2, none⟩) (by simp) _
  · clear hXc hXf
    go_wp2_with fail
    refine (value_any g (1 + x) _ hc1 (by omega)).mono ?_
    rintro e w2 ⟨⟨v, hv, rfl⟩, hc2, hb2⟩
    have hX2 := hX1.but hb2 (by omega)
    have hXc := hX2.cell
    have hXf := hX2.free
    go_wp2
    refine bodyPost_ret (v := .agg #[.int .i64 v.k, .int .i64 v.i, .string v.t]) (by simp [results, Tryz.results61, go_sem, hXc]) rfl ⟨⟨v, hv, rfl⟩, ?_, ?_⟩
    · exact case_box hc2 hX2 (by omega) _ _ _
    · exact ((((hB0.trans hb1).trans hb2).setNew (p := ⟨w.heap.size, 0, none⟩) (by simp) _).setNew (p := ⟨w.heap.size, 1, none⟩) (by simp) _).setNew (p := ⟨w.heap.size, 2, none⟩) (by simp) _
end Go.Proofs.YtnocbigcdjlliaaGreat

namespace Go.Proofs.YtnocbigcdjlliaaGreat
open Go.RowKit
set_option maxRecDepth 100000
set_option linter.unusedVariables false

/-- the number of a value is an int64 -/
def rngV (v : Vl) : Prop := minI ≤ v.i ∧ v.i ≤ 9223372036854775807
def SomeInt2 (w : World) (g : Nat) (e : Ending) (w' : World) : Prop := (∃ x : Int, (minI ≤ x ∧ x ≤ 9223372036854775807) ∧ e = .returned (.int .i64 x)) ∧ CaseAt w' g ∧ But (· = g) w w'
theorem number2_any (g : Nat) (w : World) (hc : CaseAt w g) :
    Calls Tryz.prog 123 #[.pointer (some ⟨g, 0, none⟩)] w fun e w' => SomeInt2 w g e w' := by
  go_enter Tryz.func123, Tryz.ntmps123
  go_wp2_with fail
  refine (int_any g 12 _ hc (by omega) (by omega)).mono ?_
  rintro e w1 ⟨⟨x, hx1, hx2, rfl⟩, hc1, hb1⟩
  go_wp2
  all_goals
    go_ret
    refine ⟨⟨_, ?_, rfl⟩, hc1, hb1⟩
    unfold minI
    constructor <;> omega
def SomeW (w : World) (g : Nat) (e : Ending) (w' : World) : Prop := (∃ v : Vl, validV v = true ∧ rngV v ∧ e = .returned (.agg #[.int .i64 v.k, .int .i64 v.i, .string v.t])) ∧ CaseAt w' g ∧ But (· = g) w w'
set_option maxHeartbeats 1000000 in
theorem value2_any (g : Nat) (k : Int) (w : World) (hc : CaseAt w g) (hk : k = 3 ∨ k = 4 ∨ k = 5) :
    Calls Tryz.prog 105 #[.pointer (some ⟨g, 0, none⟩), .int .i64 k] w fun e w' => SomeW w g e w' := by
  have hlt := hc.lt
  have hc0 := hc.below ((Below.refl _ _).alloc (Nat.le_refl _) (.cells #[.int .i64 0, .int .i64 0, .string ⟨#[]⟩] 67))
  have hX := Blk.new w 67 #[.int .i64 0, .int .i64 0, .string ⟨#[]⟩]
  have hB0 : But (· = g) w (w.alloc (.cells #[.int .i64 0, .int .i64 0, .string ⟨#[]⟩] 67)) := But.alloc _ _
  rcases hk with rfl | rfl | rfl
  · go_enter Tryz.func105, Tryz.ntmps105
    go_wp2_with fail
    refine (int_any g 2 _ hc0 (by omega) (by omega)).mono ?_
    rintro e w1 ⟨⟨x, hx1, hx2, rfl⟩, hc1, hb1⟩
    have hX1 := hX.but hb1 (by omega)
    have hXc := hX1.cell
    have hXf := hX1.free
    go_wp2
    refine bodyPost_ret (v := .agg #[.int .i64 3, .int .i64 x, .string ⟨#[]⟩]) (by simp [results, Tryz.results105, go_sem, hXc]) rfl ⟨⟨⟨3, x, ⟨#[]⟩⟩, ?_, ⟨by unfold minI; simp; omega, by simp; omega⟩, rfl⟩, ?_, ?_⟩
    · have : x = 0 ∨ x = 1 := by omega
      rcases this with rfl | rfl <;> decide +kernel
    · exact case_box hc1 hX1 (by omega) _ _ _
    · exact (((hB0.trans hb1).setNew (p := ⟨w.heap.size, 0, none⟩) (by simp) _).setNew (p := ⟨w.heap.size, 1, none⟩) (by simp) _).setNew (p := ⟨w.heap.size, 2, none⟩) (by simp) _
  · go_enter Tryz.func105, Tryz.ntmps105
    go_wp2_with fail
    refine (number2_any g _ hc0).mono ?_
    rintro e w1 ⟨⟨x, hxr, rfl⟩, hc1, hb1⟩
    have HXR := Lib.hid hxr
    clear hxr
    have hX1 := hX.but hb1 (by omega)
    have hXc := hX1.cell
    have hXf := hX1.free
    go_wp2
    refine bodyPost_ret (v := .agg #[.int .i64 4, .int .i64 x, .string ⟨#[]⟩]) (by simp [results, Tryz.results105, go_sem, hXc]) rfl ⟨⟨⟨4, x, ⟨#[]⟩⟩, ?_, HXR.out, rfl⟩, ?_, ?_⟩
    · simp [validV, ByteArray.toList_eq]
    · exact case_box hc1 hX1 (by omega) _ _ _
    · exact (((hB0.trans hb1).setNew (p := ⟨w.heap.size, 0, none⟩) (by simp) _).setNew (p := ⟨w.heap.size, 1, none⟩) (by simp) _).setNew (p := ⟨w.heap.size, 2, none⟩) (by simp) _
  · go_enter Tryz.func105, Tryz.ntmps105
    go_wp2_with fail
    refine (text_any g _ hc0).mono ?_
    rintro e w1 ⟨⟨x, hx, rfl⟩, hc1, hb1⟩
    have hX1 := hX.but hb1 (by omega)
    have hXc := hX1.cell
    have hXf := hX1.free
    go_wp2
    refine bodyPost_ret (v := .agg #[.int .i64 5, .int .i64 0, .string x]) (by simp [results, Tryz.results105, go_sem, hXc]) rfl ⟨⟨⟨5, 0, x⟩, ?_, ⟨by unfold minI; simp, by simp⟩, rfl⟩, ?_, ?_⟩
    · simp [validV]; omega
    · exact case_box hc1 hX1 (by omega) _ _ _
    · exact (((hB0.trans hb1).setNew (p := ⟨w.heap.size, 0, none⟩) (by simp) _).setNew (p := ⟨w.heap.size, 1, none⟩) (by simp) _).setNew (p := ⟨w.heap.size, 2, none⟩) (by simp) _

set_option maxHeartbeats 1000000 in
theorem any2_any (g : Nat) (w : World) (hc : CaseAt w g) :
    Calls Tryz.prog 61 #[.pointer (some ⟨g, 0, none⟩)] w fun e w' => SomeW w g e w' := by
  have hlt := hc.lt
  have hc0 := hc.below ((Below.refl _ _).alloc (Nat.le_refl _) (.cells #[.int .i64 0, .int .i64 0, .string ⟨#[]⟩] 67))
  have hX := Blk.new w 67 #[.int .i64 0, .int .i64 0, .string ⟨#[]⟩]
  have hB0 : But (· = g) w (w.alloc (.cells #[.int .i64 0, .int .i64 0, .string ⟨#[]⟩] 67)) := But.alloc _ _
  go_enter Tryz.func61, Tryz.ntmps61
  go_wp2_with fail
  refine (int_any g 5 _ hc0 (by omega) (by omega)).mono ?_
  rintro e w1 ⟨⟨x, hx1, hx2, rfl⟩, hc1, hb1⟩
  have hX1 := hX.but hb1 (by omega)
  have hXc := hX1.cell
  have hXf := hX1.free
  by_cases h3 : 1 + x < 3
  · go_wp2
    refine bodyPost_ret (v := .agg #[.int .i64 (1 + x), .int .i64 0, .string ⟨#[]⟩]) (by simp [results, Tryz.results61, go_sem, hXc]) rfl ⟨⟨⟨1 + x, 0, ⟨#[]⟩⟩, ?_, ⟨by unfold minI; simp, by simp⟩, rfl⟩, ?_, ?_⟩
    · have : x = 0 ∨ x = 1 := by omega
      rcases this with rfl | rfl <;> decide +kernel
    · exact case_box hc1 hX1 (by omega) _ _ _
    · exact (((hB0.trans hb1).setNew (p := ⟨w.heap.size, 0, none⟩) (by simp) _).setNew (p := ⟨w.heap.size, 1, none⟩) (by simp) _).setNew (p := ⟨w.heap.size, 2, none⟩) (by simp) _
  · clear hXc hXf
    go_wp2_with fail
    refine (value2_any g (1 + x) _ hc1 (by omega)).mono ?_
    rintro e w2 ⟨⟨v, hv, hr, rfl⟩, hc2, hb2⟩
    have HR := Lib.hid hr
    have HV := Lib.hid hv
    clear hr hv
    have hX2 := hX1.but hb2 (by omega)
    have hXc := hX2.cell
    have hXf := hX2.free
    go_wp2
    refine bodyPost_ret (v := .agg #[.int .i64 v.k, .int .i64 v.i, .string v.t]) (by simp [results, Tryz.results61, go_sem, hXc]) rfl ⟨⟨v, HV.out, HR.out, rfl⟩, ?_, ?_⟩
    · exact case_box hc2 hX2 (by omega) _ _ _
    · exact ((((hB0.trans hb1).trans hb2).setNew (p := ⟨w.heap.size, 0, none⟩) (by simp) _).setNew (p := ⟨w.heap.size, 1, none⟩) (by simp) _).setNew (p := ⟨w.heap.size, 2, none⟩) (by simp) _
end Go.Proofs.YtnocbigcdjlliaaGreat
