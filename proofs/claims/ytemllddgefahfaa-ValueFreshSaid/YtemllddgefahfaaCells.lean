import Derived.Test.YtemllddgefahfaaVBegun
import Derived.Test.YtemllddgefahfaaCase2
namespace Go.Proofs.Ytemllddgefahfaa
open Go.RowKit

theorem case_belowB {w w' : World} {g B : Nat} (h : CaseAt w g) (hb : Below B w w') (hB : g < B) : CaseAt w' g :=
  h.far (S := fun b => B ≤ b) ⟨hb.os, hb.tape, hb.output, hb.size, fun k _ hk => hb.block k (by simpa using hk)⟩ (fun b hb => by omega)
theorem but_belowB {S : Nat → Prop} {w0 w w' : World} {B : Nat} (h : But S w0 w) (hb : Below B w w') (hB : w0.heap.size ≤ B) : But S w0 w' :=
  ⟨hb.os.trans h.os, hb.tape.trans h.tape, hb.output.trans h.output, Nat.le_trans h.size hb.size, fun k hk hs => (hb.block k (by omega)).trans (h.block k hk hs)⟩
theorem own_but {w w' : World} {base g : Nat} {e : TypeId} {size n : Nat} {v : Value} {xs : List Value} (h : w.ownsRow base e size v n xs) (hb : But (· = g) w w') (hg : g < base) : w'.ownsRow base e size v n xs :=
  own_at h (fun G hG hlt _ => hb.block G hlt (fun e => by omega))
def CeRel (w : World) (g : Nat) (x i : Value) (wr : World) : Prop := ∃ (k : Nat) (l : List Vl) (A : Option Addr) (c : Nat), i = .int .i64 (k : Int) ∧ x = .slice A l.length c ∧ l.length + k ≤ 10 ∧ wr.ownsRow w.heap.size 24 3 (.slice A l.length c) l.length (l.flatMap Vl.cs) ∧ CaseAt wr g ∧ But (· = g) w wr
def CellsPost (w : World) (g : Nat) (e : Ending) (w' : World) : Prop := ∃ q : RowP, e = .returned (.slice q.1.1 q.1.2.1 q.1.2.2) ∧ OwnRow w' w.heap.size q ∧ q.1.2.1 ≤ 10 ∧ CaseAt w' g ∧ But (· = g) w w'
set_option maxRecDepth 100000 in
set_option maxHeartbeats 4000000 in
theorem cells_any (g : Nat) (m : Int) (w : World) (hc : CaseAt w g) (hm : 0 ≤ m) (hm2 : m ≤ 10) : Calls Try.prog 39 #[.pointer (some ⟨g, 0, none⟩), .int .i64 m] w fun e w' => CellsPost w g e w' := by
  obtain ⟨i0, hi, hz0, hz1, hz2⟩ := info_parts info_vl
  have hgl := hc.lt
  obtain ⟨m0, rfl⟩ := Int.eq_ofNat_of_zero_le hm
  go_enter Try.func39, Try.ntmps39
  go_wp2_with fail
  go_loopw [5, 1] (fun x i wr => CeRel w g x i wr) (fun _ i _ => (intOf i).toNat)
  case atStart => exact ⟨m0, [], none, 0, rfl, rfl, by simp; omega, ⟨by simp, .inl ⟨rfl, rfl⟩⟩, hc, But.refl _ _⟩
  case round =>
    obtain ⟨k, l, A, c, rfl, rfl, hl, hown, hcr, hbr⟩ := hrel
    have HO := Lib.hid hown
    clear hown
    by_cases hlt : 0 < k
    · go_wp2_with fail
      refine (any2_any g _ hcr).mono ?_
      rintro e w2 ⟨⟨⟨ak, ai, ab⟩, hav, har, rfl⟩, hc2, hb2⟩
      have HO2 := own_but HO.out hb2 hgl
      have hsz : w.heap.size ≤ w2.heap.size := (hbr.trans hb2).size
      clear hav har
      go_wp2_with (at_builtin; refine wpList_append_one2 (by rfl) (.tmp 10) (.tmp 13) _ (by rfl) w.heap.size 24 i0 _ 3 32 Try.underlying38 hi hz0 hz1 hz2 (by rfl) (by omega) (.slice A l.length c) l.length _ (by rfl) w2 _ HO2 w2.heap.size (by rfl) (by rfl) (by rfl) (one_vl ⟨ak, ai, ab⟩) (by simp only [maxLen]; omega) (by omega) hsz ?_; intro g6 cap6 w6 hown6 hg6 hB6 hat6 hlt6)
      go_roundw
      case rel =>
        refine ⟨k - 1, l ++ [⟨ak, ai, ab⟩], some ⟨g6, 0, none⟩, cap6, congrArg (Value.int .i64) (by omega), by simp, by simp; omega, ?_, case_belowB hc2 hB6 hgl, but_belowB (hbr.trans hb2) hB6 (Nat.le_refl _)⟩
        rw [List.flatMap_append]
        simpa [Vl.cs] using hown6
      case measure => simp [intOf]; omega
    · go_wp2
      go_ret
      exact ⟨((A, l.length, c), l), rfl, ⟨HO.out, rfl⟩, by simp only; omega, hcr, hbr⟩
def RoRel (w : World) (g : Nat) (x i : Value) (wr : World) : Prop := ∃ (k : Nat) (qs : List RowP) (A : Option Addr) (c : Nat), i = .int .i64 (k : Int) ∧ x = .slice A qs.length c ∧ qs.length + k ≤ 6 ∧ wr.ownsRow w.heap.size 38 1 (.slice A qs.length c) qs.length (qs.flatMap rowc) ∧ (∀ q ∈ qs, OwnRow wr w.heap.size q ∧ q.1.2.1 ≤ 10) ∧ CaseAt wr g ∧ But (· = g) w wr
def RowsPost (w : World) (g : Nat) (e : Ending) (w' : World) : Prop := ∃ (qs : List RowP) (A : Option Addr) (c : Nat), e = .returned (.slice A qs.length c) ∧ qs.length ≤ 6 ∧ w'.ownsRow w.heap.size 38 1 (.slice A qs.length c) qs.length (qs.flatMap rowc) ∧ (∀ q ∈ qs, OwnRow w' w.heap.size q ∧ q.1.2.1 ≤ 10) ∧ CaseAt w' g ∧ But (· = g) w w'
theorem OwnRow.but {w w' : World} {base g : Nat} {q : RowP} (h : OwnRow w base q) (hb : But (· = g) w w') (hg : g < base) : OwnRow w' base q := ⟨own_but h.1 hb hg, h.2⟩
theorem OwnRow.weak {w : World} {base base' : Nat} {q : RowP} (h : OwnRow w base q) (hb : base' ≤ base) : OwnRow w base' q := ⟨own_weaken h.1 hb, h.2⟩
set_option maxRecDepth 100000 in
set_option maxHeartbeats 4000000 in
theorem rows_any (g : Nat) (w : World) (hc : CaseAt w g) : Calls Try.prog 24 #[.pointer (some ⟨g, 0, none⟩)] w fun e w' => RowsPost w g e w' := by
  obtain ⟨i0, hi, hz0, hz1, hz2⟩ := info_parts info_row
  have hgl := hc.lt
  go_enter Try.func24, Try.ntmps24
  go_wp2_with fail
  refine (int_any g 7 _ hc (by omega) (by omega)).mono ?_
  rintro e w1 ⟨⟨x, hx1, hx2, rfl⟩, hc1, hb1⟩
  obtain ⟨m0, rfl⟩ := Int.eq_ofNat_of_zero_le hx1
  go_wp2_with fail
  go_loopw [3, 4] (fun x i wr => RoRel w g x i wr) (fun _ i _ => (intOf i).toNat)
  case atStart => exact ⟨m0, [], none, 0, rfl, rfl, by simp; omega, ⟨by simp, .inl ⟨rfl, rfl⟩⟩, fun q hq => (by cases hq), hc1, hb1⟩
  case round =>
    obtain ⟨k, qs, A, c, rfl, rfl, hl, hown, hq, hcr, hbr⟩ := hrel
    have HO := Lib.hid hown
    have HQ := Lib.hid hq
    clear hown hq hc1 hb1
    by_cases hlt : 0 < k
    · go_wp2_with fail
      refine (int_any g 3 _ hcr (by omega) (by omega)).mono ?_
      rintro e w2 ⟨⟨y, hy1, hy2, rfl⟩, hc2, hb2⟩
      go_wp2_with fail
      refine (cells_any g y _ hc2 hy1 (by omega)).mono ?_
      rintro e w3 ⟨⟨⟨r1, r2, r3⟩, rr⟩, rfl, hr, hr10, hc3, hb3⟩
      have hb23 := hb2.trans hb3
      have hbw := hbr.trans hb23
      have hsz := hbw.size
      have HR := Lib.hid (And.intro (hr.weak (show w.heap.size ≤ w2.heap.size from (hbr.trans hb2).size)) hr10)
      replace HO := Lib.hid (own_but HO.out hb23 hgl)
      replace HQ := Lib.hid (fun q hq => And.intro ((HQ.out q hq).1.but hb23 hgl) (HQ.out q hq).2)
      dsimp only
      clear hr hr10 hc2 hb2 hb3 hcr hbr hb23
      have fin : ∀ (W : World) (r : RowP) (g6 cap6 : Nat) (w6 : World), CaseAt W g → But (· = g) w W → W.ownsRow w.heap.size 38 1 (.slice A qs.length c) qs.length (qs.flatMap rowc) → (∀ q ∈ qs, OwnRow W w.heap.size q ∧ q.1.2.1 ≤ 10) → OwnRow W w.heap.size r ∧ r.1.2.1 ≤ 10 →
          w6.ownsRow w.heap.size 38 1 (.slice (some ⟨g6, 0, none⟩) (qs.length + 1) cap6) (qs.length + 1) (qs.flatMap rowc ++ [.slice r.1.1 r.1.2.1 r.1.2.2]) → (W.alloc (.cells #[.slice r.1.1 r.1.2.1 r.1.2.2] 38)).grownBy w6 (Value.slice A qs.length c).ownBlock → Below w.heap.size W w6 →
          RoRel w g (.slice (some ⟨g6, 0, none⟩) (qs.length + 1) cap6) (.int .i64 ((k : Int) - 1)) w6 := by
        intro W r g6 cap6 w6 hcW hbW hoW hqW hrW hown6 hg6 hB6
        refine ⟨k - 1, qs ++ [r], some ⟨g6, 0, none⟩, cap6, congrArg (Value.int .i64) (by omega), by simp, by simp; omega, ?_, ?_, case_belowB hcW hB6 hgl, but_belowB hbW hB6 (Nat.le_refl _)⟩
        · rw [List.flatMap_append]
          simpa [rowc] using hown6
        · intro q hq
          have ho4 := hoW.alloc (.cells #[.slice r.1.1 r.1.2.1 r.1.2.2] 38)
          rw [List.mem_append, List.mem_singleton] at hq
          rcases hq with hq | rfl
          · exact ⟨((hqW q hq).1.below ((Below.refl _ _).alloc (Nat.le_refl _) _)).grown ho4 hg6, (hqW q hq).2⟩
          · exact ⟨(hrW.1.below ((Below.refl _ _).alloc (Nat.le_refl _) _)).grown ho4 hg6, hrW.2⟩
      have FIN := Lib.hid fin
      clear fin
      have app : True := trivial
      rcases Nat.eq_zero_or_pos qs.length with h0 | h0
      · have g0 : decide (0 < qs.length) = false := by simp [h0]
        clear h0
        have HOO := HO.out
        go_wp2_with (at_builtin; refine wpList_append_one2 (by rfl) (.tmp 30) (.tmp 32) _ (by rfl) w.heap.size 38 i0 _ 1 24 Try.underlying39 hi hz0 hz1 hz2 (by rfl) (by omega) (.slice A qs.length c) qs.length _ (by rfl) w3 _ HOO w3.heap.size (by rfl) (by rfl) (by rfl) (one_row ((r1, r2, r3), [])) (by simp only [maxLen]; omega) (by omega) hsz ?_; intro g6 cap6 w6 hown6 hg6 hB6 hat6 hlt6)
        go_roundw
        case rel => exact FIN.out w3 ((r1, r2, r3), rr) g6 cap6 w6 hc3 hbw HO.out HQ.out HR.out hown6 hg6 hB6
        case measure => simp [intOf]; omega
      · go_wp2_with fail
        refine (bool_any g 3 _ hc3 (by omega) (by omega)).mono ?_
        rintro e w4 ⟨⟨q, rfl⟩, hc4, hb4⟩
        replace HO := Lib.hid (own_but HO.out hb4 hgl)
        replace HQ := Lib.hid (fun q hq => And.intro ((HQ.out q hq).1.but hb4 hgl) (HQ.out q hq).2)
        replace HR := Lib.hid (And.intro (HR.out.1.but hb4 hgl) HR.out.2)
        replace hbw := hbw.trans hb4
        replace hsz := hbw.size
        clear hb4 hc3
        cases q
        · have HOO := HO.out
          go_wp2_with (at_builtin; refine wpList_append_one2 (by rfl) (.tmp 30) (.tmp 32) _ (by rfl) w.heap.size 38 i0 _ 1 24 Try.underlying39 hi hz0 hz1 hz2 (by rfl) (by omega) (.slice A qs.length c) qs.length _ (by rfl) w4 _ HOO w4.heap.size (by rfl) (by rfl) (by rfl) (one_row ((r1, r2, r3), [])) (by simp only [maxLen]; omega) (by omega) hsz ?_; intro g6 cap6 w6 hown6 hg6 hB6 hat6 hlt6)
          go_roundw
          case rel => exact FIN.out w4 ((r1, r2, r3), rr) g6 cap6 w6 hc4 hbw HO.out HQ.out HR.out hown6 hg6 hB6
          case measure => simp [intOf]; omega
        · go_wp2_with fail
          refine (int_any g (qs.length : Int) _ hc4 (by omega) (by omega)).mono ?_
          rintro e w5 ⟨⟨z, hz1', hz2', rfl⟩, hc5, hb5⟩
          obtain ⟨i, rfl⟩ := Int.eq_ofNat_of_zero_le hz1'
          have hil : i < qs.length := by omega
          replace HO := Lib.hid (own_but HO.out hb5 hgl)
          replace HQ := Lib.hid (fun q hq => And.intro ((HQ.out q hq).1.but hb5 hgl) (HQ.out q hq).2)
          replace hbw := hbw.trans hb5
          replace hsz := hbw.size
          clear hb5 hc4 HR hz1' hz2'
          obtain ⟨b7, o7, s, hA7, hs7, hc7⟩ := (Sl.of_own (cs := rowc) (fun _ => rfl) rfl HO.out).at hil
          have HRS := Lib.hid (HQ.out s (List.mem_of_getElem? hs7))
          have e7 := hc7 0 _ rfl
          simp only [Nat.mul_one, Nat.add_zero] at e7
          subst hA7
          obtain ⟨⟨s1, s2, s3⟩, sr⟩ := s
          dsimp only [rowc] at e7
          clear hs7 hc7
          have HOO := HO.out
          go_wp2_with (at_builtin; refine wpList_append_one2 (by rfl) (.tmp 30) (.tmp 32) _ (by rfl) w.heap.size 38 i0 _ 1 24 Try.underlying39 hi hz0 hz1 hz2 (by rfl) (by omega) (.slice (some ⟨b7, o7, none⟩) qs.length c) qs.length _ (by rfl) w5 _ HOO w5.heap.size (by rfl) (by rfl) (by rfl) (one_row ((s1, s2, s3), [])) (by simp only [maxLen]; omega) (by omega) hsz ?_; intro g6 cap6 w6 hown6 hg6 hB6 hat6 hlt6)
          go_roundw
          case rel => exact FIN.out w5 ((s1, s2, s3), sr) g6 cap6 w6 hc5 hbw HO.out HQ.out HRS.out hown6 hg6 hB6
          case measure => simp [intOf]; omega
    · go_wp2
      go_ret
      exact ⟨qs, A, c, rfl, by omega, HO.out, HQ.out, hcr, hbr⟩
end Go.Proofs.Ytemllddgefahfaa
