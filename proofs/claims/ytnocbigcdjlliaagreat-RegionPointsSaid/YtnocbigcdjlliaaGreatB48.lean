/-
  Texts of this proof, one behind the other: GCells.
-/
import Derived.Test.YtnocbigcdjlliaaGreatB41
import Derived.Test.YtnocbigcdjlliaaGreatB8
import Derived.Test.YtnocbigcdjlliaaGreatB25
set_option linter.unusedVariables false
/-
  Case.Cells: a row of valid values of the length that is asked for.
-/
namespace Go.Proofs.YtnocbigcdjlliaaGreat
open Go.RowKit
set_option maxRecDepth 100000

theorem gcase_belowB {w w' : World} {g B : Nat} (h : CaseAt w g) (hb : Below B w w') (hB : g < B) : CaseAt w' g :=
  h.far (S := fun b => B ≤ b) ⟨hb.os, hb.tape, hb.output, hb.size, fun k _ hk => hb.block k (by simpa using hk)⟩ (fun b hb => by omega)
theorem gbut_belowB {S : Nat → Prop} {w0 w w' : World} {B : Nat} (h : But S w0 w) (hb : Below B w w') (hB : w0.heap.size ≤ B) : But S w0 w' :=
  ⟨hb.os.trans h.os, hb.tape.trans h.tape, hb.output.trans h.output, Nat.le_trans h.size hb.size, fun k hk hs => (hb.block k (by omega)).trans (h.block k hk hs)⟩
theorem gown_but {w w' : World} {base g : Nat} {e : TypeId} {size n : Nat} {v : Value} {xs : List Value} (h : w.ownsRow base e size v n xs) (hb : But (· = g) w w') (hg : g < base) : w'.ownsRow base e size v n xs :=
  own_at h (fun G hG hlt _ => hb.block G hlt (fun e => by omega))
def GCRel (m : Nat) (w : World) (g : Nat) (x i : Value) (wr : World) : Prop := ∃ (k : Nat) (l : List Vl) (A : Option Addr) (c : Nat), i = .int .i64 (k : Int) ∧ x = .slice A l.length c ∧ l.length + k = m ∧ (∀ v ∈ l, validV v = true) ∧ wr.ownsRow w.heap.size 67 3 (.slice A l.length c) l.length (l.flatMap Vl.cs) ∧ CaseAt wr g ∧ But (· = g) w wr
/-- a row was drawn -/
def RowP' (m : Nat) (w : World) (g : Nat) (e : Ending) (w' : World) : Prop := ∃ (A : Option Addr) (n c : Nat) (l : List Vl), e = .returned (.slice A n c) ∧ n = l.length ∧ n = m ∧ (∀ v ∈ l, validV v = true) ∧ w'.ownsRow w.heap.size 67 3 (.slice A n c) n (l.flatMap Vl.cs) ∧ VlS w' A n l ∧ CaseAt w' g ∧ But (· = g) w w'
set_option maxRecDepth 100000 in
set_option maxHeartbeats 4000000 in
theorem gcells_any (g : Nat) (m : Nat) (hm : m ≤ 12) (w : World) (hc : CaseAt w g) : Calls Tryz.prog 46 #[.pointer (some ⟨g, 0, none⟩), .int .i64 (m : Int)] w fun e w' => RowP' m w g e w' := by
  obtain ⟨i0, hi, hz0, hz1, hz2⟩ := info_parts info_vl
  have hgl := hc.lt
  go_enter Tryz.func46, Tryz.ntmps46
  go_wp2_with fail
  go_loopw [5, 1] (fun x i wr => GCRel m w g x i wr) (fun _ i _ => (intOf i).toNat)
  case atStart => exact ⟨m, [], none, 0, rfl, rfl, by simp, by simp, ⟨by simp, .inl ⟨rfl, rfl⟩⟩, hc, But.refl _ _⟩
  case round =>
    obtain ⟨k, l, A, c, rfl, rfl, hl, hvl, hown, hcr, hbr⟩ := hrel
    have HO := Lib.hid hown
    have HVL := Lib.hid hvl
    clear hown hvl
    by_cases hlt : 0 < k
    · go_wp2_with fail
      refine (any2_any g _ hcr).mono ?_
      rintro e w2 ⟨⟨⟨ak, ai, ab⟩, hav, har, rfl⟩, hc2, hb2⟩
      have HO2 := gown_but HO.out hb2 hgl
      have hsz : w.heap.size ≤ w2.heap.size := (hbr.trans hb2).size
      have HAV := Lib.hid hav
      clear hav har
      go_wp2_with (at_builtin; refine wpList_append_one2 (by rfl) (.tmp 10) (.tmp 13) _ (by rfl) w.heap.size 67 i0 _ 3 32 Tryz.underlying46 hi hz0 hz1 hz2 (by rfl) (by omega) (.slice A l.length c) l.length _ (by rfl) w2 _ HO2 w2.heap.size (by rfl) (by rfl) (by rfl) (one_vl ⟨ak, ai, ab⟩) (by simp only [maxLen]; omega) (by omega) hsz ?_; intro g6 cap6 w6 hown6 hg6 hB6 hat6 hlt6)
      go_roundw
      case rel =>
        refine ⟨k - 1, l ++ [⟨ak, ai, ab⟩], some ⟨g6, 0, none⟩, cap6, congrArg (Value.int .i64) (by omega), by simp, by simp; omega, ?_, ?_, gcase_belowB hc2 hB6 hgl, gbut_belowB (hbr.trans hb2) hB6 (Nat.le_refl _)⟩
        · intro v hv
          rcases List.mem_append.1 hv with h | h
          · exact HVL.out v h
          · simp at h
            subst h
            exact HAV.out
        · rw [List.flatMap_append]
          simpa [Vl.cs] using hown6
      case measure => simp [intOf]; omega
    · go_wp2
      go_ret
      exact ⟨A, l.length, c, l, rfl, rfl, by omega, HVL.out, HO.out, Sl.of_own (fun _ => rfl) rfl HO.out, hcr, hbr⟩
end Go.Proofs.YtnocbigcdjlliaaGreat
