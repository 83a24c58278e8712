/-
  Texts: PdD, PdO, EqF, PdR, ListAt.
-/
import Derived.Test.YtponkkljlbifmaaGreatH7
import Derived.Deep.Cut
import Derived.Laws.EntriesVeiled
set_option linter.unusedVariables false
/-
  What an operand denotes: the program's and the reference's.
-/
namespace Go.Proofs.YtponkkljlbifmaaGreat
open Go.RowKit
set_option maxRecDepth 100000

theorem dnV_val2 {row ps : List Vl} {o : Od} (h : o.k = 3) : dnV row ps o = o.v := by unfold dnV; rw [if_pos h]
theorem dnV_row {row ps : List Vl} {o : Od} (h : o.k = 1) : dnV row ps o = if 0 ≤ o.ix ∧ o.ix < (row.length : Int) then row.getD o.ix.toNat zeroV else zeroV := by unfold dnV; rw [if_neg (by omega), if_pos h]
theorem dnV_par {row ps : List Vl} {o : Od} (h : o.k = 2) : dnV row ps o = if 0 ≤ o.ix ∧ o.ix < (ps.length : Int) then ps.getD o.ix.toNat zeroV else zeroV := by unfold dnV; rw [if_neg (by omega), if_neg (by omega), if_pos h]
theorem dnV_none {row ps : List Vl} {o : Od} (h1 : o.k ≠ 1) (h2 : o.k ≠ 2) (h3 : o.k ≠ 3) : dnV row ps o = zeroV := by unfold dnV; rw [if_neg h3, if_neg h1, if_neg h2]
/-- an operand denotes a value -/
def rdB (row ps : List Vl) (o : Od) : Bool := decide (o.k = 3 ∨ (o.k = 1 ∧ 0 ≤ o.ix ∧ o.ix < (row.length : Int)) ∨ (o.k = 2 ∧ 0 ≤ o.ix ∧ o.ix < (ps.length : Int)))
theorem rdB_none {row ps : List Vl} {o : Od} (h : rdB row ps o = false) : dnV row ps o = zeroV := by
  unfold rdB at h
  have h := of_decide_eq_false h
  unfold dnV
  by_cases h3 : o.k = 3
  · exact absurd (.inl h3) h
  rw [if_neg h3]
  by_cases h1 : o.k = 1
  · rw [if_pos h1, if_neg (fun e => h (.inr (.inl ⟨h1, e⟩)))]
  rw [if_neg h1]
  by_cases h2 : o.k = 2
  · rw [if_pos h2, if_neg (fun e => h (.inr (.inr ⟨h2, e⟩)))]
  rw [if_neg h2]

set_option maxHeartbeats 4000000 in
theorem denoted_any (row ps : List Vl) (o : Od) (Ac : Option Addr) (nc cc : Nat) (Ap : Option Addr) (np cp : Nat) (w : World) (hc : VlS w Ac nc row) (hp : VlS w Ap np ps) :
    Calls Tryz.prog 90 #[.agg #[.int .i64 o.k, .int .i64 o.ix, .int .i64 o.v.k, .int .i64 o.v.i, .string o.v.t], .slice Ac nc cc, .slice Ap np cp] w fun e w' => e = .returned (.agg #[.int .i64 (dnV row ps o).k, .int .i64 (dnV row ps o).i, .string (dnV row ps o).t]) ∧ Below w.heap.size w w' := by
  obtain ⟨k, ix, ⟨vk, vi, vt⟩⟩ := o
  obtain ⟨rr, Hrr⟩ : ∃ z, Hid (dnV row ps ⟨k, ix, ⟨vk, vi, vt⟩⟩ = z) := ⟨_, rfl⟩
  rw [Hrr.out]
  have Hlc := Lib.hid hc.len
  have Hlp := Lib.hid hp.len
  have HC := Lib.hid ((hc.keep (keeps_alloc w (.cells #[.int .i64 k, .int .i64 ix, .int .i64 vk, .int .i64 vi, .string vt] 69))).keep (keeps_alloc _ (.cells #[.int .i64 0, .int .i64 0, .string ⟨#[]⟩] 67)))
  have HP := Lib.hid ((hp.keep (keeps_alloc w (.cells #[.int .i64 k, .int .i64 ix, .int .i64 vk, .int .i64 vi, .string vt] 69))).keep (keeps_alloc _ (.cells #[.int .i64 0, .int .i64 0, .string ⟨#[]⟩] 67)))
  have HX := Lib.hid ((Blk.new w 69 #[.int .i64 k, .int .i64 ix, .int .i64 vk, .int .i64 vi, .string vt]).alloc (.cells #[.int .i64 0, .int .i64 0, .string ⟨#[]⟩] 67))
  have HR := Lib.hid (Blk.new (w.alloc (.cells #[.int .i64 k, .int .i64 ix, .int .i64 vk, .int .i64 vi, .string vt] 69)) 67 #[.int .i64 0, .int .i64 0, .string ⟨#[]⟩])
  rw [show (w.alloc (.cells #[.int .i64 k, .int .i64 ix, .int .i64 vk, .int .i64 vi, .string vt] 69)).heap.size = w.heap.size + 1 by simp] at HR
  have HB0 := (Below.refl w.heap.size w).alloc (Nat.le_refl _) (.cells #[.int .i64 k, .int .i64 ix, .int .i64 vk, .int .i64 vi, .string vt] 69)
  have HB := Lib.hid (HB0.alloc HB0.size (.cells #[.int .i64 0, .int .i64 0, .string ⟨#[]⟩] 67))
  clear HB0 hc hp
  go_enter Tryz.func90, Tryz.ntmps90
  go_upto_region 1 with fail
  generalize hW : (w.alloc (.cells #[.int .i64 k, .int .i64 ix, .int .i64 vk, .int .i64 vi, .string vt] 69)).alloc (.cells #[.int .i64 0, .int .i64 0, .string ⟨#[]⟩] 67) = w1 at *
  clear hW
  have zx := HX.out.cell
  have zr := HR.out.cell
  have zf := HR.out.free
  by_cases h3 : k = 3
  · obtain rfl : ⟨vk, vi, vt⟩ = rr := by rw [← Hrr.out, dnV_val2 h3]
    subst h3
    clear Hrr
    go_wp2
    refine bodyPost_ret (v := .agg #[.int .i64 vk, .int .i64 vi, .string vt]) (by simp [results, Tryz.results90, go_sem, zr]) rfl ⟨rfl, ?_⟩
    repeat (first | exact HB.out | refine Below.setCell ?_ (by simp) _)
  by_cases h1 : k = 1
  · have Hs : Hid ((if 0 ≤ ix ∧ ix < (row.length : Int) then row.getD ix.toNat zeroV else zeroV) = rr) := Lib.hid (by rw [← Hrr.out, dnV_row h1])
    by_cases h0 : ix < 0
    · obtain rfl : zeroV = rr := by rw [← Hs.out, if_neg (fun h => by omega)]
      have g1 : decide (ix < 0) = true := decide_eq_true h0
      have g2 : decide (0 ≤ ix) = false := decide_eq_false (by omega)
      clear Hs h0 Hrr h3
      subst h1
      go_wp2
      refine bodyPost_ret (v := .agg #[.int .i64 0, .int .i64 0, .string ⟨#[]⟩]) (by simp [results, Tryz.results90, go_sem, zr]) rfl ⟨rfl, ?_⟩
      repeat (first | exact HB.out | refine Below.setCell ?_ (by simp) _)
    · have g1 : decide (ix < 0) = false := decide_eq_false h0
      by_cases hn : ix < (nc : Int)
      · obtain ⟨j, rfl⟩ := Int.eq_ofNat_of_zero_le (Int.not_lt.1 h0)
        obtain ⟨b, o, ⟨xk, xi, xt⟩, rfl, hx, hxc⟩ := HC.out.at (show j < nc by omega)
        have c0 : w1.cell? ⟨b, o + j * 3, none⟩ = some (.int .i64 xk) := hxc 0 (.int .i64 xk) rfl
        have c1 : w1.cell? ⟨b, o + j * 3 + 1, none⟩ = some (.int .i64 xi) := hxc 1 (.int .i64 xi) rfl
        have c2 : w1.cell? ⟨b, o + j * 3 + 2, none⟩ = some (.string xt) := hxc 2 (.string xt) rfl
        obtain rfl : ⟨xk, xi, xt⟩ = rr := by rw [← Hs.out, if_pos ⟨by omega, by rw [Hlc.out]; omega⟩, Int.toNat_natCast, List.getD_eq_getElem?_getD, hx]; rfl
        have hjn : j < nc := by omega
        have g3 : decide (nc ≤ j) = false := by simp; omega
        clear hx hxc Hs h0 hn Hrr h3 g1
        subst h1
        go_wp2
        refine bodyPost_ret (v := .agg #[.int .i64 xk, .int .i64 xi, .string xt]) (by simp [results, Tryz.results90, go_sem, zr]) rfl ⟨rfl, ?_⟩
        repeat (first | exact HB.out | refine Below.setCell ?_ (by simp) _)
      · have g2 : decide ((nc : Int) ≤ ix) = true := decide_eq_true (by omega)
        have g3 : decide (0 ≤ ix) = true := decide_eq_true (by omega)
        have g4 : decide (ix < (nc : Int)) = false := decide_eq_false hn
        obtain rfl : zeroV = rr := by rw [← Hs.out, if_neg (fun h => by have := Hlc.out; omega)]
        clear Hs h0 hn Hrr h3
        subst h1
        go_wp2
        refine bodyPost_ret (v := .agg #[.int .i64 0, .int .i64 0, .string ⟨#[]⟩]) (by simp [results, Tryz.results90, go_sem, zr]) rfl ⟨rfl, ?_⟩
        repeat (first | exact HB.out | refine Below.setCell ?_ (by simp) _)
  by_cases h2 : k = 2
  · have Hs : Hid ((if 0 ≤ ix ∧ ix < (ps.length : Int) then ps.getD ix.toNat zeroV else zeroV) = rr) := Lib.hid (by rw [← Hrr.out, dnV_par h2])
    by_cases h0 : ix < 0
    · obtain rfl : zeroV = rr := by rw [← Hs.out, if_neg (fun h => by omega)]
      have g1 : decide (ix < 0) = true := decide_eq_true h0
      have g2 : decide (0 ≤ ix) = false := decide_eq_false (by omega)
      clear Hs h0 Hrr h3 h1
      subst h2
      go_wp2
      refine bodyPost_ret (v := .agg #[.int .i64 0, .int .i64 0, .string ⟨#[]⟩]) (by simp [results, Tryz.results90, go_sem, zr]) rfl ⟨rfl, ?_⟩
      repeat (first | exact HB.out | refine Below.setCell ?_ (by simp) _)
    · have g1 : decide (ix < 0) = false := decide_eq_false h0
      by_cases hn : ix < (np : Int)
      · obtain ⟨j, rfl⟩ := Int.eq_ofNat_of_zero_le (Int.not_lt.1 h0)
        obtain ⟨b, o, ⟨xk, xi, xt⟩, rfl, hx, hxc⟩ := HP.out.at (show j < np by omega)
        have c0 : w1.cell? ⟨b, o + j * 3, none⟩ = some (.int .i64 xk) := hxc 0 (.int .i64 xk) rfl
        have c1 : w1.cell? ⟨b, o + j * 3 + 1, none⟩ = some (.int .i64 xi) := hxc 1 (.int .i64 xi) rfl
        have c2 : w1.cell? ⟨b, o + j * 3 + 2, none⟩ = some (.string xt) := hxc 2 (.string xt) rfl
        obtain rfl : ⟨xk, xi, xt⟩ = rr := by rw [← Hs.out, if_pos ⟨by omega, by rw [Hlp.out]; omega⟩, Int.toNat_natCast, List.getD_eq_getElem?_getD, hx]; rfl
        have hjn : j < np := by omega
        have g3 : decide (np ≤ j) = false := by simp; omega
        clear hx hxc Hs h0 hn Hrr h3 h1 g1
        subst h2
        go_wp2
        refine bodyPost_ret (v := .agg #[.int .i64 xk, .int .i64 xi, .string xt]) (by simp [results, Tryz.results90, go_sem, zr]) rfl ⟨rfl, ?_⟩
        repeat (first | exact HB.out | refine Below.setCell ?_ (by simp) _)
      · have g2 : decide ((np : Int) ≤ ix) = true := decide_eq_true (by omega)
        have g3 : decide (0 ≤ ix) = true := decide_eq_true (by omega)
        have g4 : decide (ix < (np : Int)) = false := decide_eq_false hn
        obtain rfl : zeroV = rr := by rw [← Hs.out, if_neg (fun h => by have := Hlp.out; omega)]
        clear Hs h0 hn Hrr h3 h1
        subst h2
        go_wp2
        refine bodyPost_ret (v := .agg #[.int .i64 0, .int .i64 0, .string ⟨#[]⟩]) (by simp [results, Tryz.results90, go_sem, zr]) rfl ⟨rfl, ?_⟩
        repeat (first | exact HB.out | refine Below.setCell ?_ (by simp) _)
  obtain rfl : zeroV = rr := by rw [← Hrr.out, dnV_none h1 h2 h3]
  have g1 : (k == 1) = false := by simpa using h1
  have g2 : (k == 2) = false := by simpa using h2
  have g3 : (k == 3) = false := by simpa using h3
  clear h1 h2 h3 Hrr
  go_wp2
  refine bodyPost_ret (v := .agg #[.int .i64 0, .int .i64 0, .string ⟨#[]⟩]) (by simp [results, Tryz.results90, go_sem, zr]) rfl ⟨rfl, ?_⟩
  repeat (first | exact HB.out | refine Below.setCell ?_ (by simp) _)
set_option maxHeartbeats 4000000 in
theorem rdenoted_any (row ps : List Vl) (o : Od) (Ac : Option Addr) (nc cc : Nat) (Ap : Option Addr) (np cp : Nat) (w : World) (hc : VlS w Ac nc row) (hp : VlS w Ap np ps) :
    Calls Tryz.prog 103 #[.agg #[.int .i64 o.k, .int .i64 o.ix, .int .i64 o.v.k, .int .i64 o.v.i, .string o.v.t], .slice Ac nc cc, .slice Ap np cp] w fun e w' => e = .returned (.tuple #[.agg #[.int .i64 (dnV row ps o).k, .int .i64 (dnV row ps o).i, .string (dnV row ps o).t], .bool (rdB row ps o)]) ∧ Below w.heap.size w w' := by
  obtain ⟨k, ix, ⟨vk, vi, vt⟩⟩ := o
  obtain ⟨rr, Hrr⟩ : ∃ z, Hid (dnV row ps ⟨k, ix, ⟨vk, vi, vt⟩⟩ = z) := ⟨_, rfl⟩
  rw [Hrr.out]
  obtain ⟨kk, Hkk⟩ : ∃ z, Hid (rdB row ps ⟨k, ix, ⟨vk, vi, vt⟩⟩ = z) := ⟨_, rfl⟩
  rw [Hkk.out]
  have Hlc := Lib.hid hc.len
  have Hlp := Lib.hid hp.len
  have HC := Lib.hid ((hc.keep (keeps_alloc w (.cells #[.int .i64 k, .int .i64 ix, .int .i64 vk, .int .i64 vi, .string vt] 69))).keep (keeps_alloc _ (.cells #[.int .i64 0, .int .i64 0, .string ⟨#[]⟩] 67)))
  have HP := Lib.hid ((hp.keep (keeps_alloc w (.cells #[.int .i64 k, .int .i64 ix, .int .i64 vk, .int .i64 vi, .string vt] 69))).keep (keeps_alloc _ (.cells #[.int .i64 0, .int .i64 0, .string ⟨#[]⟩] 67)))
  have HX := Lib.hid ((Blk.new w 69 #[.int .i64 k, .int .i64 ix, .int .i64 vk, .int .i64 vi, .string vt]).alloc (.cells #[.int .i64 0, .int .i64 0, .string ⟨#[]⟩] 67))
  have HR := Lib.hid (Blk.new (w.alloc (.cells #[.int .i64 k, .int .i64 ix, .int .i64 vk, .int .i64 vi, .string vt] 69)) 67 #[.int .i64 0, .int .i64 0, .string ⟨#[]⟩])
  rw [show (w.alloc (.cells #[.int .i64 k, .int .i64 ix, .int .i64 vk, .int .i64 vi, .string vt] 69)).heap.size = w.heap.size + 1 by simp] at HR
  have HB0 := (Below.refl w.heap.size w).alloc (Nat.le_refl _) (.cells #[.int .i64 k, .int .i64 ix, .int .i64 vk, .int .i64 vi, .string vt] 69)
  have HB := Lib.hid (HB0.alloc HB0.size (.cells #[.int .i64 0, .int .i64 0, .string ⟨#[]⟩] 67))
  clear HB0 hc hp
  go_enter Tryz.func103, Tryz.ntmps103
  go_upto_region 1 with fail
  generalize hW : (w.alloc (.cells #[.int .i64 k, .int .i64 ix, .int .i64 vk, .int .i64 vi, .string vt] 69)).alloc (.cells #[.int .i64 0, .int .i64 0, .string ⟨#[]⟩] 67) = w1 at *
  clear hW
  have zx := HX.out.cell
  have zr := HR.out.cell
  have zf := HR.out.free
  by_cases h3 : k = 3
  · obtain rfl : ⟨vk, vi, vt⟩ = rr := by rw [← Hrr.out, dnV_val2 h3]
    obtain rfl : true = kk := by rw [← Hkk.out]; exact (decide_eq_true (.inl h3)).symm
    subst h3
    clear Hrr Hkk
    go_wp2
    refine bodyPost_ret (v := .tuple #[.agg #[.int .i64 vk, .int .i64 vi, .string vt], .bool true]) (by simp [results, Tryz.results103, go_sem, zr]) rfl ⟨rfl, ?_⟩
    repeat (first | exact HB.out | refine Below.setCell ?_ (by simp) _)
  by_cases h1 : k = 1
  · have Hs : Hid ((if 0 ≤ ix ∧ ix < (row.length : Int) then row.getD ix.toNat zeroV else zeroV) = rr) := Lib.hid (by rw [← Hrr.out, dnV_row h1])
    by_cases h0 : ix < 0
    · obtain rfl : zeroV = rr := by rw [← Hs.out, if_neg (fun h => by omega)]
      obtain rfl : false = kk := by rw [← Hkk.out]; exact (decide_eq_false (fun h => by have := Hlc.out; simp only at h; omega)).symm
      have g1 : decide (ix < 0) = true := decide_eq_true h0
      have g2 : decide (0 ≤ ix) = false := decide_eq_false (by omega)
      clear Hs h0 Hrr Hkk h3
      subst h1
      go_wp2
      refine bodyPost_ret (v := .tuple #[.agg #[.int .i64 0, .int .i64 0, .string ⟨#[]⟩], .bool false]) (by simp [results, Tryz.results103, go_sem, zr]) rfl ⟨rfl, ?_⟩
      repeat (first | exact HB.out | refine Below.setCell ?_ (by simp) _)
    · have g1 : decide (ix < 0) = false := decide_eq_false h0
      by_cases hn : ix < (nc : Int)
      · obtain ⟨j, rfl⟩ := Int.eq_ofNat_of_zero_le (Int.not_lt.1 h0)
        obtain ⟨b, o, ⟨xk, xi, xt⟩, rfl, hx, hxc⟩ := HC.out.at (show j < nc by omega)
        have c0 : w1.cell? ⟨b, o + j * 3, none⟩ = some (.int .i64 xk) := hxc 0 (.int .i64 xk) rfl
        have c1 : w1.cell? ⟨b, o + j * 3 + 1, none⟩ = some (.int .i64 xi) := hxc 1 (.int .i64 xi) rfl
        have c2 : w1.cell? ⟨b, o + j * 3 + 2, none⟩ = some (.string xt) := hxc 2 (.string xt) rfl
        obtain rfl : ⟨xk, xi, xt⟩ = rr := by rw [← Hs.out, if_pos ⟨by omega, by rw [Hlc.out]; omega⟩, Int.toNat_natCast, List.getD_eq_getElem?_getD, hx]; rfl
        obtain rfl : true = kk := by rw [← Hkk.out]; exact (decide_eq_true (.inr (.inl ⟨h1, by simp only; omega, by have := Hlc.out; simp only; omega⟩))).symm
        have hjn : j < nc := by omega
        have g3 : decide (nc ≤ j) = false := by simp; omega
        clear hx hxc Hs h0 hn Hrr Hkk h3 g1
        subst h1
        go_wp2
        refine bodyPost_ret (v := .tuple #[.agg #[.int .i64 xk, .int .i64 xi, .string xt], .bool true]) (by simp [results, Tryz.results103, go_sem, zr]) rfl ⟨rfl, ?_⟩
        repeat (first | exact HB.out | refine Below.setCell ?_ (by simp) _)
      · have g2 : decide ((nc : Int) ≤ ix) = true := decide_eq_true (by omega)
        have g3 : decide (0 ≤ ix) = true := decide_eq_true (by omega)
        have g4 : decide (ix < (nc : Int)) = false := decide_eq_false hn
        obtain rfl : zeroV = rr := by rw [← Hs.out, if_neg (fun h => by have := Hlc.out; omega)]
        obtain rfl : false = kk := by rw [← Hkk.out]; exact (decide_eq_false (fun h => by have := Hlc.out; simp only at h; omega)).symm
        clear Hs h0 hn Hrr Hkk h3
        subst h1
        go_wp2
        refine bodyPost_ret (v := .tuple #[.agg #[.int .i64 0, .int .i64 0, .string ⟨#[]⟩], .bool false]) (by simp [results, Tryz.results103, go_sem, zr]) rfl ⟨rfl, ?_⟩
        repeat (first | exact HB.out | refine Below.setCell ?_ (by simp) _)
  by_cases h2 : k = 2
  · have Hs : Hid ((if 0 ≤ ix ∧ ix < (ps.length : Int) then ps.getD ix.toNat zeroV else zeroV) = rr) := Lib.hid (by rw [← Hrr.out, dnV_par h2])
    by_cases h0 : ix < 0
    · obtain rfl : zeroV = rr := by rw [← Hs.out, if_neg (fun h => by omega)]
      obtain rfl : false = kk := by rw [← Hkk.out]; exact (decide_eq_false (fun h => by have := Hlp.out; simp only at h; omega)).symm
      have g1 : decide (ix < 0) = true := decide_eq_true h0
      have g2 : decide (0 ≤ ix) = false := decide_eq_false (by omega)
      clear Hs h0 Hrr Hkk h3 h1
      subst h2
      go_wp2
      refine bodyPost_ret (v := .tuple #[.agg #[.int .i64 0, .int .i64 0, .string ⟨#[]⟩], .bool false]) (by simp [results, Tryz.results103, go_sem, zr]) rfl ⟨rfl, ?_⟩
      repeat (first | exact HB.out | refine Below.setCell ?_ (by simp) _)
    · have g1 : decide (ix < 0) = false := decide_eq_false h0
      by_cases hn : ix < (np : Int)
      · obtain ⟨j, rfl⟩ := Int.eq_ofNat_of_zero_le (Int.not_lt.1 h0)
        obtain ⟨b, o, ⟨xk, xi, xt⟩, rfl, hx, hxc⟩ := HP.out.at (show j < np by omega)
        have c0 : w1.cell? ⟨b, o + j * 3, none⟩ = some (.int .i64 xk) := hxc 0 (.int .i64 xk) rfl
        have c1 : w1.cell? ⟨b, o + j * 3 + 1, none⟩ = some (.int .i64 xi) := hxc 1 (.int .i64 xi) rfl
        have c2 : w1.cell? ⟨b, o + j * 3 + 2, none⟩ = some (.string xt) := hxc 2 (.string xt) rfl
        obtain rfl : ⟨xk, xi, xt⟩ = rr := by rw [← Hs.out, if_pos ⟨by omega, by rw [Hlp.out]; omega⟩, Int.toNat_natCast, List.getD_eq_getElem?_getD, hx]; rfl
        obtain rfl : true = kk := by rw [← Hkk.out]; exact (decide_eq_true (.inr (.inr ⟨h2, by simp only; omega, by have := Hlp.out; simp only; omega⟩))).symm
        have hjn : j < np := by omega
        have g3 : decide (np ≤ j) = false := by simp; omega
        clear hx hxc Hs h0 hn Hrr Hkk h3 h1 g1
        subst h2
        go_wp2
        refine bodyPost_ret (v := .tuple #[.agg #[.int .i64 xk, .int .i64 xi, .string xt], .bool true]) (by simp [results, Tryz.results103, go_sem, zr]) rfl ⟨rfl, ?_⟩
        repeat (first | exact HB.out | refine Below.setCell ?_ (by simp) _)
      · have g2 : decide ((np : Int) ≤ ix) = true := decide_eq_true (by omega)
        have g3 : decide (0 ≤ ix) = true := decide_eq_true (by omega)
        have g4 : decide (ix < (np : Int)) = false := decide_eq_false hn
        obtain rfl : zeroV = rr := by rw [← Hs.out, if_neg (fun h => by have := Hlp.out; omega)]
        obtain rfl : false = kk := by rw [← Hkk.out]; exact (decide_eq_false (fun h => by have := Hlp.out; simp only at h; omega)).symm
        clear Hs h0 hn Hrr Hkk h3 h1
        subst h2
        go_wp2
        refine bodyPost_ret (v := .tuple #[.agg #[.int .i64 0, .int .i64 0, .string ⟨#[]⟩], .bool false]) (by simp [results, Tryz.results103, go_sem, zr]) rfl ⟨rfl, ?_⟩
        repeat (first | exact HB.out | refine Below.setCell ?_ (by simp) _)
  obtain rfl : zeroV = rr := by rw [← Hrr.out, dnV_none h1 h2 h3]
  obtain rfl : false = kk := by rw [← Hkk.out]; exact (decide_eq_false (fun h => by simp only at h; omega)).symm
  have g1 : (k == 1) = false := by simpa using h1
  have g2 : (k == 2) = false := by simpa using h2
  have g3 : (k == 3) = false := by simpa using h3
  clear h1 h2 h3 Hrr Hkk
  go_wp2
  refine bodyPost_ret (v := .tuple #[.agg #[.int .i64 0, .int .i64 0, .string ⟨#[]⟩], .bool false]) (by simp [results, Tryz.results103, go_sem, zr]) rfl ⟨rfl, ?_⟩
  repeat (first | exact HB.out | refine Below.setCell ?_ (by simp) _)
end Go.Proofs.YtponkkljlbifmaaGreat

/-
  The program's table of comparisons and the methods of order.
-/
namespace Go.Proofs.YtponkkljlbifmaaGreat
open Go.RowKit
set_option maxRecDepth 100000

theorem ord_equal (o : Int) (w : World) : Calls Tryz.prog 116 #[.int .i64 o] w fun e w' => e = .returned (.bool (cmpB2 1 o)) ∧ w = w' := by
  have h : cmpB2 1 o = decide (o = 0) := rfl
  rw [h]
  by_cases h0 : o = 0
  · rw [decide_eq_true h0]
    have g1 : (o == 0) = true := by simpa using h0
    clear h0 h
    go_enter Tryz.func116, Tryz.ntmps116
    go_wp2
    go_ret
    exact ⟨rfl, rfl⟩
  · rw [decide_eq_false h0]
    have g1 : (o == 0) = false := by simpa using h0
    clear h0 h
    go_enter Tryz.func116, Tryz.ntmps116
    go_wp2
    go_ret
    exact ⟨rfl, rfl⟩
theorem ord_different (o : Int) (w : World) : Calls Tryz.prog 117 #[.int .i64 o] w fun e w' => e = .returned (.bool (cmpB2 2 o)) ∧ w = w' := by
  have h : cmpB2 2 o = decide (o ≠ 0) := rfl
  rw [h]
  by_cases h0 : o ≠ 0
  · rw [decide_eq_true h0]
    have g1 : (o != 0) = true := by simpa using h0
    clear h0 h
    go_enter Tryz.func117, Tryz.ntmps117
    go_wp2
    go_ret
    exact ⟨rfl, rfl⟩
  · rw [decide_eq_false h0]
    have g1 : (o != 0) = false := by simpa using h0
    clear h0 h
    go_enter Tryz.func117, Tryz.ntmps117
    go_wp2
    go_ret
    exact ⟨rfl, rfl⟩
theorem ord_less (o : Int) (w : World) : Calls Tryz.prog 118 #[.int .i64 o] w fun e w' => e = .returned (.bool (cmpB2 3 o)) ∧ w = w' := by
  have h : cmpB2 3 o = decide (o < 0) := rfl
  rw [h]
  by_cases h0 : o < 0
  · rw [decide_eq_true h0]
    have g1 : decide (o < 0) = true := by simpa using h0
    clear h0 h
    go_enter Tryz.func118, Tryz.ntmps118
    go_wp2
    go_ret
    exact ⟨rfl, rfl⟩
  · rw [decide_eq_false h0]
    have g1 : decide (o < 0) = false := by simpa using h0
    clear h0 h
    go_enter Tryz.func118, Tryz.ntmps118
    go_wp2
    go_ret
    exact ⟨rfl, rfl⟩
theorem ord_atMost (o : Int) (w : World) : Calls Tryz.prog 119 #[.int .i64 o] w fun e w' => e = .returned (.bool (cmpB2 4 o)) ∧ w = w' := by
  have h : cmpB2 4 o = decide (o ≤ 0) := rfl
  rw [h]
  by_cases h0 : o ≤ 0
  · rw [decide_eq_true h0]
    have g1 : decide (o ≤ 0) = true := by simpa using h0
    clear h0 h
    go_enter Tryz.func119, Tryz.ntmps119
    go_wp2
    go_ret
    exact ⟨rfl, rfl⟩
  · rw [decide_eq_false h0]
    have g1 : decide (o ≤ 0) = false := by simpa using h0
    clear h0 h
    go_enter Tryz.func119, Tryz.ntmps119
    go_wp2
    go_ret
    exact ⟨rfl, rfl⟩
theorem ord_greater (o : Int) (w : World) : Calls Tryz.prog 120 #[.int .i64 o] w fun e w' => e = .returned (.bool (cmpB2 5 o)) ∧ w = w' := by
  have h : cmpB2 5 o = decide (0 < o) := rfl
  rw [h]
  by_cases h0 : 0 < o
  · rw [decide_eq_true h0]
    have g1 : decide (0 < o) = true := by simpa using h0
    clear h0 h
    go_enter Tryz.func120, Tryz.ntmps120
    go_wp2
    go_ret
    exact ⟨rfl, rfl⟩
  · rw [decide_eq_false h0]
    have g1 : decide (0 < o) = false := by simpa using h0
    clear h0 h
    go_enter Tryz.func120, Tryz.ntmps120
    go_wp2
    go_ret
    exact ⟨rfl, rfl⟩
theorem ord_atLeast (o : Int) (w : World) : Calls Tryz.prog 121 #[.int .i64 o] w fun e w' => e = .returned (.bool (cmpB2 6 o)) ∧ w = w' := by
  have h : cmpB2 6 o = decide (0 ≤ o) := rfl
  rw [h]
  by_cases h0 : 0 ≤ o
  · rw [decide_eq_true h0]
    have g1 : decide (0 ≤ o) = true := by simpa using h0
    clear h0 h
    go_enter Tryz.func121, Tryz.ntmps121
    go_wp2
    go_ret
    exact ⟨rfl, rfl⟩
  · rw [decide_eq_false h0]
    have g1 : decide (0 ≤ o) = false := by simpa using h0
    clear h0 h
    go_enter Tryz.func121, Tryz.ntmps121
    go_wp2
    go_ret
    exact ⟨rfl, rfl⟩
/-- the function of a comparison -/
def ordF (cm : Int) : Value := if cm = 1 then .func (.func 116) #[] #[] else if cm = 2 then .func (.func 117) #[] #[] else if cm = 3 then .func (.func 118) #[] #[] else if cm = 4 then .func (.func 119) #[] #[] else if cm = 5 then .func (.func 120) #[] #[] else if cm = 6 then .func (.func 121) #[] #[] else Value.nilFunc
theorem comparison_any (cm : Int) (w : World) : Calls Tryz.prog 92 #[.int .i64 cm] w fun e w' => e = .returned (ordF cm) ∧ Below w.heap.size w w' := by
  have HB := Lib.hid ((Below.refl w.heap.size w).alloc (Nat.le_refl _) (.cells #[Value.nilFunc, (.func (.func 116) #[] #[]), (.func (.func 117) #[] #[]), (.func (.func 118) #[] #[]), (.func (.func 119) #[] #[]), (.func (.func 120) #[] #[]), (.func (.func 121) #[] #[])] 150))
  have HX := Lib.hid (Blk.new w 150 #[Value.nilFunc, (.func (.func 116) #[] #[]), (.func (.func 117) #[] #[]), (.func (.func 118) #[] #[]), (.func (.func 119) #[] #[]), (.func (.func 120) #[] #[]), (.func (.func 121) #[] #[])])
  by_cases h : 1 ≤ cm ∧ cm ≤ 6
  · have h : cm = 1 ∨ cm = 2 ∨ cm = 3 ∨ cm = 4 ∨ cm = 5 ∨ cm = 6 := by omega
    rcases h with rfl | rfl | rfl | rfl | rfl | rfl
    all_goals
      go_enter Tryz.func92, Tryz.ntmps92
      go_upto_region 2 with fail
      generalize hW : w.alloc (.cells #[Value.nilFunc, (.func (.func 116) #[] #[]), (.func (.func 117) #[] #[]), (.func (.func 118) #[] #[]), (.func (.func 119) #[] #[]), (.func (.func 120) #[] #[]), (.func (.func 121) #[] #[])] 150) = w1 at *
      clear hW
      have zx := HX.out.cell
      go_wp2
      go_ret
      exact ⟨rfl, HB.out⟩
  · have hf : ordF cm = Value.nilFunc := by
      unfold ordF
      repeat rw [if_neg (by omega)]
    rw [hf]
    clear hf
    by_cases h0 : cm = 0
    · subst h0
      clear h
      go_enter Tryz.func92, Tryz.ntmps92
      go_upto_region 2 with fail
      generalize hW : w.alloc (.cells #[Value.nilFunc, (.func (.func 116) #[] #[]), (.func (.func 117) #[] #[]), (.func (.func 118) #[] #[]), (.func (.func 119) #[] #[]), (.func (.func 120) #[] #[]), (.func (.func 121) #[] #[])] 150) = w1 at *
      clear hW
      have zx := HX.out.cell
      go_wp2
      go_ret
      exact ⟨rfl, HB.out⟩
    · by_cases h1 : cm < 0
      · have g1 : decide (cm < 0) = true := decide_eq_true h1
        clear h h0 h1
        go_enter Tryz.func92, Tryz.ntmps92
        go_upto_region 2 with fail
        generalize hW : w.alloc (.cells #[Value.nilFunc, (.func (.func 116) #[] #[]), (.func (.func 117) #[] #[]), (.func (.func 118) #[] #[]), (.func (.func 119) #[] #[]), (.func (.func 120) #[] #[]), (.func (.func 121) #[] #[])] 150) = w1 at *
        clear hW
        have zx := HX.out.cell
        go_wp2
        go_ret
        exact ⟨rfl, HB.out⟩
      · have g1 : decide (cm < 0) = false := decide_eq_false h1
        have g2 : decide (7 ≤ cm) = true := decide_eq_true (by omega)
        clear h h0 h1
        go_enter Tryz.func92, Tryz.ntmps92
        go_upto_region 2 with fail
        generalize hW : w.alloc (.cells #[Value.nilFunc, (.func (.func 116) #[] #[]), (.func (.func 117) #[] #[]), (.func (.func 118) #[] #[]), (.func (.func 119) #[] #[]), (.func (.func 120) #[] #[]), (.func (.func 121) #[] #[])] 150) = w1 at *
        clear hW
        have zx := HX.out.cell
        go_wp2
        go_ret
        exact ⟨rfl, HB.out⟩
end Go.Proofs.YtponkkljlbifmaaGreat

/-
  A function against nil.
-/
namespace Go.Proofs.YtponkkljlbifmaaGreat
open Go.RowKit
set_option maxRecDepth 100000

theorem run_neqF (f : Fn) (w : World) : (binOp .neq 132 (.func f #[] #[]) .nilFunc).run Tryz.prog w = .ok (.bool true) w := by
  first
  | rfl
  | (simp [go_sem]; done)
  | (simp only [binOp]; simp [go_sem]; done)
  | skip
theorem run_neqN (w : World) : (binOp .neq 132 .nilFunc .nilFunc).run Tryz.prog w = .ok (.bool false) w := by
  first
  | rfl
  | (simp [go_sem]; done)
  | (simp only [binOp]; simp [go_sem]; done)
  | skip
end Go.Proofs.YtponkkljlbifmaaGreat

/-
  Plain: what is left of the arguments of a node behind the first k of them. No program here.
-/
namespace Go.Proofs.YtponkkljlbifmaaGreat
open Go.RowKit
set_option maxRecDepth 100000
open Pd

namespace Pd
/-- a node of which the first k arguments are struck -/
def rest (p : Pd) (k : Nat) : Pd := mkP p.h (p.args.drop k)
theorem rest_zero (p : Pd) : p.rest 0 = p := by rw [rest, List.drop_zero, mk_args]
theorem rest_at {p q : Pd} {k : Nat} (h : p.args[k]? = some q) : p.rest k = .cons q (p.rest (k + 1)) := by
  have hk : k < p.args.length := (List.getElem?_eq_some_iff.1 h).1
  have he : p.args[k] = q := (List.getElem?_eq_some_iff.1 h).2
  rw [rest, rest, List.drop_eq_getElem_cons hk, he]
  rfl
theorem rest_end {p : Pd} {k : Nat} (h : p.len ≤ k) : p.rest k = .nil p.h := by
  rw [rest, List.drop_eq_nil_of_le (by rw [len_args]; exact h)]
  rfl
theorem len_lt : ∀ p : Pd, p.len < p.nodes
  | nil _ => Nat.lt_succ_self 0
  | cons a t => by have := len_lt t; have := nodes_pos a; simp only [len, nodes]; omega
theorem at_mem {p q : Pd} {k : Nat} (h : p.args[k]? = some q) : q ∈ p.args := List.mem_of_getElem? h
theorem at_nodes {p q : Pd} {k : Nat} (h : p.args[k]? = some q) : q.nodes < p.nodes := nodes_mem (at_mem h)
end Pd
section
variable {p q : Pd} {k : Nat}
theorem sm_rest (h : p.args[k]? = some q) (l : Nat) (b : Int) : smA l b (p.rest k) = match smB l b q with
    | none => none
    | some b' => smA l b' (p.rest (k + 1)) := by
  rw [Pd.rest_at h]
  rfl
theorem val_rest (h : p.args[k]? = some q) (cols ps : List Int) : validA cols ps (p.rest k) = (validB cols ps q && validA cols ps (p.rest (k + 1))) := by
  rw [Pd.rest_at h]
  rfl
theorem hold_rest (h : p.args[k]? = some q) (row ps : List Vl) : holdsA row ps (p.rest k) = (holdsB row ps q && (holdsA row ps (p.rest (k + 1))).1, holdsB row ps q || (holdsA row ps (p.rest (k + 1))).2.1, !holdsB row ps q) := by
  rw [Pd.rest_at h]
  rfl
theorem nodes_rest (h : p.args[k]? = some q) : (p.rest k).nodes = q.nodes + (p.rest (k + 1)).nodes := by
  rw [Pd.rest_at h]
  rfl
theorem depth_rest (h : p.args[k]? = some q) : (p.rest k).depth = max (q.depth + 1) (p.rest (k + 1)).depth := by
  rw [Pd.rest_at h]
  rfl
end
end Go.Proofs.YtponkkljlbifmaaGreat

/-
  A list of operations parted in two: the first part ends in a frame and a world of which a relation holds; the second part goes on from every such frame and world. No program here.
-/
namespace Go.Proofs.YtponkkljlbifmaaGreat
open Go.RowKit
set_option maxRecDepth 100000

/-- the frame a with the values us in the slots D -/
def overU (a : Act) (D : List Nat) (us : Nat → Value) : Act := D.foldl (fun b d => b.put (some d) (us d)) a
/-- the end of a part of a list -/
def EndAt (a0 : Act) (D : List Nat) (rel : (Nat → Value) → World → Prop) : Exit → Act → World → Prop :=
  fun e a w => e = .normal ∧ rel (fun d => a.tmps.getD d undef) w ∧ a = overU a0 D (fun d => a.tmps.getD d undef)
theorem EndAt.intro {a0 a : Act} {D : List Nat} {rel : (Nat → Value) → World → Prop} {w : World} (h1 : rel (fun d => a.tmps.getD d undef) w) (h2 : a = overU a0 D (fun d => a.tmps.getD d undef)) : EndAt a0 D rel .normal a w := ⟨rfl, h1, h2⟩
end Go.Proofs.YtponkkljlbifmaaGreat
