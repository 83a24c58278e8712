/-
  The program's region functions that only look at one region: empty, size, few.
-/
import Derived.Test.YtnocbigcdjlliaaRgMem
namespace Go.Proofs.Ytnocbigcdjlliaa
open Go.RowKit
open Rg

theorem rempty_any (x : Int) (f : Bool) (A : Option Addr) (n c : Nat) (r : Rg) (w : World) (hR : RgS w x f A n c r) :
    Calls Try.prog 17 #[.agg #[.int .i64 x, .bool f, .slice A n c]] w fun e w' => e = .returned (.bool r.nix) ∧ Below w.heap.size w w' := by
  rw [nix_len, ← hR.len, hR.hf]
  clear hR
  cases f
  · go_enter Try.func17, Try.ntmps17
    go_wp2
    go_ret
    refine ⟨ret_bool ?_, (Below.refl _ _).alloc (Nat.le_refl _) _⟩
    rw [Bool.eq_iff_iff]
    simp
  · go_enter Try.func17, Try.ntmps17
    go_wp2
    go_ret
    exact ⟨ret_bool (by simp), (Below.refl _ _).alloc (Nat.le_refl _) _⟩

set_option maxHeartbeats 1000000 in
theorem rsize_any (r : Rg) : ∀ (x : Int) (f : Bool) (A : Option Addr) (n c : Nat) (w : World), RgS w x f A n c r → r.size ≤ 1000000 →
    Calls Try.prog 14 #[.agg #[.int .i64 x, .bool f, .slice A n c]] w fun e w' => e = .returned (.int .i64 (r.size : Int)) ∧ Below w.heap.size w w' := by
  induction hsz : r.size using Nat.strongRecOn generalizing r with
  | _ s ih =>
    intro x f A n c w hR hb
    have hnl := hR.len
    have hns : n ≤ s := by have := len_le_size r; omega
    have Hsz := Lib.hid hsz
    have HI := Lib.hid ih
    have HR := Lib.hid hR
    have HL : Hid (n + sizeL (r.parts.drop 0) = s + n) := by
      show _ = _
      rw [List.drop_zero, ← size_parts, hsz]
      omega
    clear ih hR hsz hnl
    go_enter Try.func14, Try.ntmps14
    go_wp2
    have hB0 : Below w.heap.size w (w.alloc (.cells #[.int .i64 x, .bool f, .slice A n c] 24)) := (Below.refl _ _).alloc (Nat.le_refl _) _
    go_loopw [3, 12] (fun v i wr => ∃ (k q : Nat), k ≤ n ∧ i = .int .i64 (k : Int) ∧ v = .int .i64 (q : Int) ∧ Hid (q + sizeL (r.parts.drop k) = s + (n - k)) ∧ Below w.heap.size w wr) (fun _ i _ => n - (intOf i).toNat)
    case atStart => exact ⟨0, n, by omega, rfl, rfl, HL, hB0⟩
    case round =>
      obtain ⟨k, q, hk, rfl, rfl, Hq, hb1⟩ := hrel
      by_cases hlt : k < n
      · obtain ⟨b, o, p, A1, n1, c1, px, pf, A2, n2, c2, rfl, hp, hpt⟩ := (HR.out.keep (keeps_of hb1)).at hlt
        have hps := size_at hp
        rw [Hsz.out] at hps
        have Hd := Lib.hid (sizeL_drop hp)
        obtain ⟨d0, d1, d2, d3, hok, hvs, hrg⟩ := hpt
        have HRG := Lib.hid hrg
        clear hp hok hvs hrg
        have HI' := Lib.hid (HI.out p.2.size hps p.2 rfl)
        have hqb : q ≤ s + n := by have := Hq.out; omega
        go_wp2_with fail
        refine (HI'.out px pf A2 n2 c2 _ (HRG.out.keep (keeps_alloc _ _)) (by omega)).mono ?_
        rintro e w2 ⟨rfl, hb2⟩
        go_wp2
        go_roundw
        case rel =>
          refine ⟨k + 1, q + p.2.size, by omega, by go_num, by go_num, ?_, Below.next (hb1.alloc hb1.size _) hb2⟩
          show _ = _
          have h1 := Hq.out
          have h2 := Hd.out
          omega
        case measure => simp [intOf]; omega
      · go_wp2
        go_ret
        refine ⟨ret_i64 ?_, hb1⟩
        have h1 := Hq.out
        rw [List.drop_eq_nil_of_le (by rw [len_parts]; have := HR.out.len; omega)] at h1
        simp only [sizeL, List.map_nil, List.sum_nil] at h1
        omega

set_option maxHeartbeats 1000000 in
theorem few_any (w0 : World) (B : Nat) (hB : w0.heap.size ≤ B) (r : Rg) : ∀ (x : Int) (f : Bool) (A : Option Addr) (n c : Nat) (v : Nat) (w : World), RgS w0 x f A n c r → v ≤ 64 → Below w0.heap.size w0 w → Blk w B 3 #[.int .i64 (v : Int)] →
    Calls Try.prog 20 #[.agg #[.int .i64 x, .bool f, .slice A n c], .pointer (some ⟨B, 0, none⟩)] w fun e w' => e = .returned (.bool (decide (r.size ≤ v))) ∧ Below w0.heap.size w0 w' ∧ (r.size ≤ v → Blk w' B 3 #[.int .i64 ((v - r.size : Nat) : Int)]) := by
  induction hsz : r.size using Nat.strongRecOn generalizing r with
  | _ s ih =>
    intro x f A n c v w hR hv hb hblk
    have Hsz := Lib.hid hsz
    have HI := Lib.hid ih
    have HR := Lib.hid hR
    have HL : Hid (sizeL (r.parts.drop 0) = s) := by
      show _ = _
      rw [List.drop_zero, ← size_parts, hsz]
    have hs1 : w0.heap.size ≤ w.heap.size := hb.size
    have hBl := hblk.lt
    have hblk1 := Lib.hid (hblk.alloc (.cells #[.int .i64 x, .bool f, .slice A n c] 24))
    have hB1 := hb.alloc hs1 (.cells #[.int .i64 x, .bool f, .slice A n c] 24)
    have HB1 := Lib.hid hB1
    clear ih hR hsz hB1 hblk
    go_enter Try.func20, Try.ntmps20
    go_wp2
    go_loopw [10] (fun i wr => ∃ (k q : Nat), k ≤ n ∧ k ≤ 64 ∧ i = .int .i64 (k : Int) ∧ q + k ≤ v ∧ Hid (sizeL (r.parts.drop k) + v = s + q) ∧ Blk wr B 3 #[.int .i64 (q : Int)] ∧ Below w0.heap.size w0 wr) (fun i _ => n - (intOf i).toNat)
    case atStart => exact ⟨0, v, by omega, by omega, rfl, by omega, (by show _ = _; have := HL.out; omega), hblk1.out, HB1.out⟩
    case round =>
      obtain ⟨k, q, hk, hk64, rfl, hqv, Hq, hbk, hb1⟩ := hrel
      clear hblk1 HB1
      by_cases hlt : k < n
      · obtain ⟨b, o, p, A1, n1, c1, px, pf, A2, n2, c2, rfl, hp, hpt', hpt⟩ := HR.out.at2 (keeps_of hb1) hlt
        have hps := size_at hp
        rw [Hsz.out] at hps
        have Hd := Lib.hid (sizeL_drop hp)
        have HRG := Lib.hid hpt'.rg
        obtain ⟨d0, d1, d2, d3, hok, hvs, hrg⟩ := hpt
        clear hp hok hvs hrg hpt'
        have HI' := Lib.hid (HI.out p.2.size hps p.2 rfl)
        have hsz1 := hb1.size
        have hBlt := hbk.lt
        have hbk2 := hbk.alloc (.cells #[.slice A1 n1 c1, .int .i64 px, .bool pf, .slice A2 n2 c2] 49)
        have hba := hb1.alloc hsz1 (.cells #[.slice A1 n1 c1, .int .i64 px, .bool pf, .slice A2 n2 c2] 49)
        have hnew := Blk.new wr 49 #[.slice A1 n1 c1, .int .i64 px, .bool pf, .slice A2 n2 c2]
        have hc2 := hbk2.cell
        have hf2 := hbk2.free
        have hne : ¬ wr.heap.size = B := by omega
        have hss : (wr.setCell ⟨B, 0, none⟩ (.int .i64 ((q : Int) - 1))).heap.size = wr.heap.size := by simp [World.setCell]
        have hbs := Lib.hid ((hbk.set_ 0 (.int .i64 ((q : Int) - 1))).alloc (.cells #[.slice A1 n1 c1, .int .i64 px, .bool pf, .slice A2 n2 c2] 49))
        have hnews := Blk.new (wr.setCell ⟨B, 0, none⟩ (.int .i64 ((q : Int) - 1))) 49 #[.slice A1 n1 c1, .int .i64 px, .bool pf, .slice A2 n2 c2]
        rw [hss] at hnews
        have hbas := Lib.hid ((hb1.setCell (p := ⟨B, 0, none⟩) hB (.int .i64 ((q : Int) - 1))).alloc (by rw [hss]; exact hsz1) (.cells #[.slice A1 n1 c1, .int .i64 px, .bool pf, .slice A2 n2 c2] 49))
        have hcs := blocks_at hbs.out (i := 0) (u := .int .i64 ((q : Int) - 1)) rfl
        have hcn := hnews.cell
        clear hbk hbk2 hba hnew hnews
        rcases Nat.eq_zero_or_pos q with hq0 | hq0
        · have g1 : decide ((q : Int) - 1 < 0) = true := by simp; omega
          have H0 := Lib.hid hq0
          clear hq0
          go_wp2
          go_ret
          have hq0 := H0.out
          refine ⟨ret_bool ?_, hbas.out, fun h => ?_⟩
          · have h1 := Hq.out
            have h2 := Hd.out
            simp; omega
          · have h1 := Hq.out
            have h2 := Hd.out
            omega
        · have g1 : decide ((q : Int) - 1 < 0) = false := by simp; omega
          go_wp2_with fail
          refine (HI'.out px pf A2 n2 c2 (q - 1) _ HRG.out (by omega) hbas.out (by rw [show ((q - 1 : Nat) : Int) = (q : Int) - 1 by omega]; exact hbs.out)).mono ?_
          rintro e w2 ⟨rfl, hb2, hblk2⟩
          have Hblk2 := Lib.hid hblk2
          clear hblk2
          by_cases hfit : p.2.size ≤ q - 1
          · have g2 : decide (p.2.size ≤ q - 1) = true := by simp [hfit]
            go_wp2
            go_roundw
            case rel =>
              refine ⟨k + 1, q - 1 - p.2.size, by omega, by omega, by go_num, by omega, ?_, Hblk2.out hfit, hb2⟩
              show _ = _
              have h1 := Hq.out
              have h2 := Hd.out
              omega
            case measure => simp [intOf]; omega
          · have g2 : decide (p.2.size ≤ q - 1) = false := by simp; omega
            go_wp2
            go_ret
            refine ⟨ret_bool ?_, hb2, fun h => ?_⟩
            · have h1 := Hq.out
              have h2 := Hd.out
              simp; omega
            · have h1 := Hq.out
              have h2 := Hd.out
              omega
      · go_wp2
        go_ret
        have h1 := Hq.out
        rw [List.drop_eq_nil_of_le (by rw [len_parts]; have := HR.out.len; omega)] at h1
        simp only [sizeL, List.map_nil, List.sum_nil] at h1
        refine ⟨ret_bool ?_, hb1, fun _ => ?_⟩
        · simp; omega
        · rw [show v - s = q by omega]; exact hbk
end Go.Proofs.Ytnocbigcdjlliaa
