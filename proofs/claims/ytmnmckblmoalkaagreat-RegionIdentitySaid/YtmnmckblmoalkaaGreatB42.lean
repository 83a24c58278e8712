/-
  Texts: Cols, GCols, RgLaw2, RgLaw3, GHas, PtLaw, Graft.
-/
import Derived.Test.YtmnmckblmoalkaaGreatB41
import Derived.Deep.Cut
set_option linter.unusedVariables false
/-
  Columns: lists of numbers, and whether they are distinct indices below a width; the program's distinct and the reference's.
-/
namespace Go.Proofs.YtmnmckblmoalkaaGreat
open Go.RowKit
set_option maxRecDepth 100000

/-- a number's cell -/
def i64c (b : Int) : List Value := [.int .i64 b]
/-- a list of columns lies there -/
abbrev ClS (w : World) (A : Option Addr) (n : Nat) (cs : List Int) : Prop := Sl 1 i64c w A n cs
/-- distinct indices below a width -/
def dstB (W : Int) (cs : List Int) : Bool := cs.all (fun c => decide (0 ≤ c ∧ c < W)) && decide cs.Nodup
theorem dstB_true {W : Int} {cs : List Int} : dstB W cs = true ↔ (∀ c ∈ cs, 0 ≤ c ∧ c < W) ∧ cs.Nodup := by
  unfold dstB
  rw [Bool.and_eq_true, List.all_eq_true]
  simp
theorem dstB_len : ∀ (n : Nat) (l : List Int), l.Nodup → (∀ c ∈ l, 0 ≤ c ∧ c < (n : Int)) → l.length ≤ n
  | 0, l, _, h => by
    cases l with
    | nil => exact Nat.le_refl _
    | cons x l => have := h x List.mem_cons_self; omega
  | n + 1, l, hn, h => by
    by_cases hm : (n : Int) ∈ l
    · have h1 := dstB_len n (l.erase (n : Int)) (hn.erase _) (fun c hc => by
        have h2 := (List.Nodup.mem_erase_iff hn).1 hc
        have := h c h2.2
        omega)
      rw [List.length_erase_of_mem hm] at h1
      omega
    · have h1 := dstB_len n l hn (fun c hc => by
        have h2 := h c hc
        have h3 : c ≠ n := fun e => hm (e ▸ hc)
        omega)
      omega
theorem dst_len {W : Int} {cs : List Int} (h : dstB W cs = true) (hW : W ≤ 12) : cs.length ≤ 12 :=
  dstB_len 12 cs (dstB_true.1 h).2 (fun c hc => by have := (dstB_true.1 h).1 c hc; omega)
theorem take_snocI {l : List Int} {k : Nat} {v : Int} (h : l[k]? = some v) : l.take (k + 1) = l.take k ++ [v] := by
  rw [List.take_add_one, h]
  rfl
theorem dst_bad {W : Int} {cs : List Int} {k : Nat} {c : Int} (h : cs[k]? = some c) (hb : ¬ (0 ≤ c ∧ c < W) ∨ c ∈ cs.take k) : dstB W cs = false := by
  rw [Bool.eq_false_iff]
  intro hd
  have h1 := dstB_true.1 hd
  rcases hb with hb | hb
  · exact hb (h1.1 c (List.mem_of_getElem? h))
  · have h2 : (cs.take (k + 1)).Nodup := h1.2.sublist (List.take_sublist _ _)
    rw [take_snocI h, List.nodup_append] at h2
    exact h2.2.2 c hb c List.mem_cons_self rfl
theorem dst_step {W : Int} {cs : List Int} {k : Nat} {c : Int} (h : cs[k]? = some c) (hd : dstB W (cs.take k) = true) (h1 : 0 ≤ c) (h2 : c < W) (h3 : c ∉ cs.take k) : dstB W (cs.take (k + 1)) = true := by
  have h4 := dstB_true.1 hd
  rw [take_snocI h, dstB_true]
  refine ⟨fun x hx => ?_, ?_⟩
  · rcases List.mem_append.1 hx with hx | hx
    · exact h4.1 x hx
    · rw [List.mem_singleton.1 hx]
      exact ⟨h1, h2⟩
  · rw [List.nodup_append]
    refine ⟨h4.2, by simp, fun a ha b hb e => ?_⟩
    rw [List.mem_singleton.1 hb] at e
    exact h3 (e ▸ ha)
theorem dst_end {W : Int} {cs : List Int} {n : Nat} (hl : cs.length ≤ n) (h : dstB W (cs.take n) = true) : dstB W cs = true := by
  rwa [List.take_of_length_le hl] at h
theorem dst_k {W : Int} {cs : List Int} {k n : Nat} (hl : cs.length = n) (hk : k ≤ n) (hW : W ≤ 12) (h : dstB W (cs.take k) = true) : k ≤ 12 := by
  have := dst_len h hW
  rw [List.length_take] at this
  omega
/-- the marks -/
def marks (cs : List Int) : Nat → Value := fun j => .bool (decide ((j : Int) ∈ cs))
/-- the array of marks -/
def MkS (w : World) (h : Nat) (cs : List Int) : Prop := ∃ m : Array Value, Blk w h 128 m ∧ ∀ j, j < 12 → m[j]? = some (marks cs j)
set_option maxHeartbeats 2000000 in
theorem gdistinct_any (A : Option Addr) (n c : Nat) (cs : List Int) (W : Int) (w : World) (hs : ClS w A n cs) (hW : W ≤ 12) :
    Calls Tryz.prog 51 #[.slice A n c, .int .i64 W] w fun e w' => e = .returned (.bool (dstB W cs)) ∧ Below w.heap.size w w' := by
  have HS := Lib.hid hs
  have Hln := Lib.hid hs.len
  clear hs
  go_enter Tryz.func51, Tryz.ntmps51
  go_wp2_with fail
  go_loopw [10] (fun i wr => ∃ k : Nat, k ≤ n ∧ i = .int .i64 (k : Int) ∧ Hid (dstB W (cs.take k) = true) ∧ Hid (MkS wr w.heap.size (cs.take k)) ∧ Hid (Below w.heap.size w wr)) (fun i _ => n - (intOf i).toNat)
  case atStart => exact ⟨0, by omega, rfl, Lib.hid (by simp [dstB]), Lib.hid ⟨_, Blk.new _ _ _, fun j hj => by
    have : j = 0 ∨ j = 1 ∨ j = 2 ∨ j = 3 ∨ j = 4 ∨ j = 5 ∨ j = 6 ∨ j = 7 ∨ j = 8 ∨ j = 9 ∨ j = 10 ∨ j = 11 := by omega
    rcases this with rfl | rfl | rfl | rfl | rfl | rfl | rfl | rfl | rfl | rfl | rfl | rfl <;> simp [marks]⟩, Lib.hid ((Below.refl _ _).alloc (Nat.le_refl _) _)⟩
  case round =>
    obtain ⟨k, hk, rfl, Hd, HM, HB⟩ := hrel
    have hk12 : k ≤ 12 := dst_k Hln.out hk hW Hd.out
    by_cases hlt : k < n
    · obtain ⟨b, o, x, rfl, hx, hxc⟩ := (HS.out.keep (keeps_of HB.out)).at hlt
      have d0 := hxc 0 _ rfl
      simp only [Nat.mul_one, Nat.add_zero] at d0
      have Hx := Lib.hid hx
      clear hx hxc
      rcases Int.lt_or_le x 0 with h0 | h0
      · have g1 : decide (x < 0) = true := by simp; omega
        have hf := dst_bad (W := W) Hx.out (.inl (by omega))
        go_wp2
        go_ret
        exact ⟨by first | rfl | (rw [hf]; rfl), HB.out⟩
      · have g1 : decide (x < 0) = false := by simp; omega
        rcases Int.lt_or_le x W with h1 | h1
        · have g2 : decide (W ≤ x) = false := by simp; omega
          obtain ⟨j, rfl⟩ := Int.eq_ofNat_of_zero_le h0
          have hj : j < 12 := by omega
          obtain ⟨m, hm, hmj⟩ := HM.out
          have zm := hm.cell
          have zf := hm.free
          have zj := hmj j hj
          unfold marks at zj
          by_cases hin : (j : Int) ∈ cs.take k
          · have hf := dst_bad (W := W) Hx.out (.inr hin)
            rw [decide_eq_true hin] at zj
            go_wp2
            go_ret
            exact ⟨by first | rfl | (rw [hf]; rfl), HB.out⟩
          · rw [decide_eq_false hin] at zj
            have hd' := dst_step Hx.out Hd.out h0 h1 hin
            have Hd' := Lib.hid hd'
            have HM' : Hid (MkS (wr.setCell ⟨w.heap.size, j, none⟩ (.bool true)) w.heap.size (cs.take (k + 1))) := Lib.hid ⟨_, hm.set_ j (.bool true), fun i hi => by
              rw [Array.getElem?_setIfInBounds]
              split
              · rename_i e
                subst e
                have hsz : j < m.size := by
                  rcases Nat.lt_or_ge j m.size with h | h
                  · exact h
                  · rw [Array.getElem?_eq_none h] at zj
                    cases zj
                rw [if_pos hsz]
                simp [marks, take_snocI Hx.out]
              · rename_i e
                rw [hmj i hi]
                have e2 : ¬ ((i : Int) = (j : Int)) := by omega
                simp [marks, take_snocI Hx.out, e2]⟩
            have HB' := Lib.hid (HB.out.setCell (p := ⟨w.heap.size, j, none⟩) (Nat.le_refl _) (.bool true))
            clear hd' hm hmj HM Hd
            go_wp2
            go_roundw
            case rel => exact ⟨k + 1, by omega, by go_num, Hd', HM', HB'⟩
            case measure => simp [intOf]; omega
        · have g2 : decide (W ≤ x) = true := by simp; omega
          have hf := dst_bad (W := W) Hx.out (.inl (by omega))
          go_wp2
          go_ret
          exact ⟨by first | rfl | (rw [hf]; rfl), HB.out⟩
    · obtain rfl : k = n := by omega
      have hf := dst_end (by rw [Hln.out]; exact Nat.le_refl _) Hd.out
      go_wp2
      go_ret
      exact ⟨by first | rfl | (rw [hf]; rfl), HB.out⟩
set_option maxHeartbeats 2000000 in
theorem fdistinct_any (A : Option Addr) (n c : Nat) (cs : List Int) (W : Int) (w : World) (hs : ClS w A n cs) (hW : W ≤ 12) :
    Calls Tryz.prog 61 #[.slice A n c, .int .i64 W] w fun e w' => e = .returned (.bool (dstB W cs)) ∧ Below w.heap.size w w' := by
  have HS := Lib.hid hs
  have Hln := Lib.hid hs.len
  clear hs
  go_enter Tryz.func61, Tryz.ntmps61
  go_wp2_with fail
  go_loopw [10] (fun i wr => ∃ k : Nat, k ≤ n ∧ i = .int .i64 (k : Int) ∧ Hid (dstB W (cs.take k) = true) ∧ wr = w) (fun i _ => n - (intOf i).toNat)
  case atStart => exact ⟨0, by omega, rfl, Lib.hid (by simp [dstB]), rfl⟩
  case round =>
    obtain ⟨k, hk, rfl, Hd, rfl⟩ := hrel
    have hk12 : k ≤ 12 := dst_k Hln.out hk hW Hd.out
    by_cases hlt : k < n
    · obtain ⟨b, o, x, rfl, hx, hxc⟩ := HS.out.at hlt
      have d0 := hxc 0 _ rfl
      simp only [Nat.mul_one, Nat.add_zero] at d0
      have Hx := Lib.hid hx
      clear hx hxc
      rcases Int.lt_or_le x 0 with h0 | h0
      · have g1 : decide (x < 0) = true := by simp; omega
        have hf := dst_bad (W := W) Hx.out (.inl (by omega))
        go_wp2
        go_ret
        exact ⟨by first | rfl | (rw [hf]; rfl), Below.refl _ _⟩
      · have g1 : decide (x < 0) = false := by simp; omega
        rcases Int.lt_or_le x W with h1 | h1
        · have g2 : decide (W ≤ x) = false := by simp; omega
          go_wp2_with fail
          go_loopw [7] (fun i wx => ∃ j : Nat, j ≤ k ∧ i = .int .i64 (j : Int) ∧ Hid (x ∉ cs.take j) ∧ wx = wr) (fun i _ => k - (intOf i).toNat)
          case atStart => exact ⟨0, by omega, rfl, Lib.hid (by simp), rfl⟩
          case round =>
            obtain ⟨j, hj, rfl, Hn, rfl⟩ := hrel
            by_cases hjk : j < k
            · obtain ⟨b', o', y, e2, hy, hyc⟩ := HS.out.at (show j < n by omega)
              injection e2 with e2
              injection e2 with e2 e3
              subst e2 e3
              have d1 := hyc 0 _ rfl
              simp only [Nat.mul_one, Nat.add_zero] at d1
              have Hy := Lib.hid hy
              clear hy hyc
              by_cases hxy : y = x
              · have g3 : (y == x) = true := by simp [hxy]
                have hm : x ∈ cs.take k := by
                  rw [List.mem_take_iff_getElem]
                  refine ⟨j, ?_, ?_⟩
                  · have := Hln.out; omega
                  · have := Hy.out; rw [hxy] at this; rw [List.getElem?_eq_some_iff] at this; exact this.2
                have hf := dst_bad (W := W) Hx.out (.inr hm)
                go_wp2
                go_ret
                exact ⟨by first | rfl | (rw [hf]; rfl), Below.refl _ _⟩
              · have g3 : (y == x) = false := by simp [hxy]
                have Hn' : Hid (x ∉ cs.take (j + 1)) := Lib.hid (by
                  rw [take_snocI Hy.out]
                  simp [Hn.out]
                  exact fun e => hxy e.symm)
                clear hxy
                go_wp2
                go_roundw
                case rel => exact ⟨j + 1, by omega, by go_num, Hn', trivial⟩
                case measure => simp [intOf]; omega
            · obtain rfl : j = k := by omega
              have Hd' := Lib.hid (dst_step Hx.out Hd.out h0 h1 Hn.out)
              go_wp2
              go_roundw
              case rel => exact ⟨j + 1, by omega, by go_num, Hd', trivial⟩
              case measure => simp [intOf]; omega
        · have g2 : decide (W ≤ x) = true := by simp; omega
          have hf := dst_bad (W := W) Hx.out (.inl (by omega))
          go_wp2
          go_ret
          exact ⟨by first | rfl | (rw [hf]; rfl), Below.refl _ _⟩
    · obtain rfl : k = n := by omega
      have hf := dst_end (by rw [Hln.out]; exact Nat.le_refl _) Hd.out
      go_wp2
      go_ret
      exact ⟨by first | rfl | (rw [hf]; rfl), Below.refl _ _⟩
end Go.Proofs.YtmnmckblmoalkaaGreat

/-
  The law's Case: distinct columns below a width.
-/
namespace Go.Proofs.YtmnmckblmoalkaaGreat
open Go.RowKit
set_option maxRecDepth 100000

theorem i64c_len (z : Int) : (i64c z).length = 1 := rfl
theorem one_i64 (z : Int) : ∀ u ∈ i64c z, u.oneCell' = true := by simp [i64c, Value.oneCell']
theorem info_i64 : (Tryz.prog.info? 3).map (fun i => (i.zero, i.size, i.bytes)) = some (some (.int .i64 0), 1, 8) := by kernel_rfl
/-- columns that do not lie in the block g -/
structure ClN (g : Nat) (w : World) (A : Option Addr) (n : Nat) (cs : List Int) : Prop where
  sl : ClS w A n cs
  ne : 0 < n → ∀ b o, A = some ⟨b, o, none⟩ → b ≠ g
theorem ClN.keep {g : Nat} {w w' : World} {A : Option Addr} {n : Nat} {cs : List Int} (h : ClN g w A n cs) (hk : Keeps w w') : ClN g w' A n cs := ⟨h.sl.keep hk, h.ne⟩
theorem ClN.case {g : Nat} {w w' : World} {A : Option Addr} {n : Nat} {cs : List Int} (h : ClN g w A n cs) (hb : But (· = g) w w') : ClN g w' A n cs :=
  ⟨h.sl.but hb (fun hn b o hA => h.ne hn b o hA), h.ne⟩
end Go.Proofs.YtmnmckblmoalkaaGreat

/-
  Plain: what the operations on canonical regions answer; the laws as equalities of answers. No program here.
-/
namespace Go.Proofs.YtmnmckblmoalkaaGreat
open Go.RowKit
set_option maxRecDepth 100000
open Rg

theorem opRes_bad {op : Bool → Bool → Bool} {a b : Rg} (h : ¬ opErr op a b = 0) : opRes op a b = zeroR := by rw [opRes, if_neg h]
section
variable {n : Nat} {a b : Rg} (ha : OkR a) (hwa : a.w = (n : Int))
include ha hwa
theorem ok_formN : Form n a := by
  have := ha.2.2.2.1
  rw [hwa, Int.toNat_natCast] at this
  exact this
theorem ok_n12 : n ≤ 12 := by have := ha.2.1; omega
variable (hb : OkR b) (hwb : b.w = (n : Int))
include hb hwb
theorem op_spec (op : Bool → Bool → Bool) : opErr op a b = (if (comb op n a b).size ≤ 64 ∧ (comb op n a b).fits = true then 0 else 2) ∧ (opErr op a b = 0 → opRes op a b = comb op n a b ∧ OkR (opRes op a b) ∧ (opRes op a b).w = (n : Int)) := by
  have h1 := op_err (op := op) ha hb (hwa.trans hwb.symm)
  rw [hwa, Int.toNat_natCast] at h1
  refine ⟨h1, fun h0 => ?_⟩
  have h2 := op_ok h0
  have h3 := h2.2.1
  rw [hwa, Int.toNat_natCast] at h3
  refine ⟨h3, h2.1, ?_⟩
  rw [h3]
  exact (comb_form _ _ _ _ (ok_formN ha hwa) (ok_formN hb hwb)).width
theorem op_02 (op : Bool → Bool → Bool) : opErr op a b = 0 ∨ opErr op a b = 2 := by
  rw [(op_spec ha hwa hb hwb op).1]
  split
  · exact .inl rfl
  · exact .inr rfl
end
section
variable {n : Nat} {a b c : Rg} (ha : OkR a) (hwa : a.w = (n : Int))
include ha hwa
theorem cp_spec : cpErr a = (if (cplR n a).size ≤ 64 ∧ (cplR n a).fits = true then 0 else 2) ∧ (cpErr a = 0 → cpRes a = cplR n a ∧ OkR (cpRes a) ∧ (cpRes a).w = (n : Int)) := by
  have hv := okB_true.2 ha
  have hn := ok_n12 ha hwa
  have h1 : a.w.toNat = n := by rw [hwa, Int.toNat_natCast]
  have h2 := op_spec (all_ok hn) (all_w n) ha hwa opMr
  rw [cpErr, cpRes, if_pos hv, if_pos hv, h1]
  exact h2
theorem cp_02 : cpErr a = 0 ∨ cpErr a = 2 := by
  rw [(cp_spec ha hwa).1]
  split
  · exact .inl rfl
  · exact .inr rfl
variable (hb : OkR b) (hwb : b.w = (n : Int))
include hb hwb
/-- covering, in both ways -/
theorem cov_spec : covErr a b = 0 ∧ covRes a b = (comb opMr n b a).nix := by
  have h1 : covErr a b = 0 := by simp [covErr, okB_true.2 ha, okB_true.2 hb, hwa, hwb]
  refine ⟨h1, ?_⟩
  rw [covRes, if_pos h1, hwa, Int.toNat_natCast]
variable (hc : OkR c) (hwc : c.w = (n : Int))
include hc hwc
end
end Go.Proofs.YtmnmckblmoalkaaGreat

/-
  Plain: the laws of the algebra of canonical regions, as the program's own equality. No program here.
-/
namespace Go.Proofs.YtmnmckblmoalkaaGreat
open Go.RowKit
set_option maxRecDepth 100000
open Rg

theorem cp_wf {a : Rg} (h : WfR a) : WfR (cpRes a) := by
  unfold cpRes
  split
  · exact op_wf (all_wf _) h
  · trivial
section
variable {n : Nat} {a b r : Rg} (ha : OkR a) (hwa : a.w = (n : Int))
include ha hwa
variable (hb : OkR b) (hwb : b.w = (n : Int))
include hb hwb
end
end Go.Proofs.YtmnmckblmoalkaaGreat

/-
  The program's Has of a region and a row.
-/
namespace Go.Proofs.YtmnmckblmoalkaaGreat
open Go.RowKit
set_option maxRecDepth 100000
open Rg

end Go.Proofs.YtmnmckblmoalkaaGreat

/-
  Plain: which rows the program's Has finds in canonical regions and in what the operations make of them. No program here.
-/
namespace Go.Proofs.YtmnmckblmoalkaaGreat
open Go.RowKit
set_option maxRecDepth 100000
open Rg

end Go.Proofs.YtmnmckblmoalkaaGreat

/-
  Plain: one region in the place of the empty row of another; how many boxes a region has. No walk here.
-/
namespace Go.Proofs.YtmnmckblmoalkaaGreat
open Go.RowKit
set_option maxRecDepth 100000
open Rg

/-- how many boxes there are -/
def nbox : Rg → Nat
  | .nil _ f => if f then 1 else 0
  | .cons _ rest tail => nbox rest + nbox tail
end Go.Proofs.YtmnmckblmoalkaaGreat
