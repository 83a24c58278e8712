import Derived.Test.YtemllddgefahfaaLay
import Derived.Test.YtemllddgefahfaaRowCmp
import Derived.Shelf.Abstract
namespace Go.Proofs.Ytemllddgefahfaa
open Go.RowKit

theorem entC : ∀ args w, (callFunc 18 args).run Try.prog w = .ok (.enter 18 args) w := Go.Proofs.enters_of Try.func18 (by kernel_rfl) rfl
theorem entR : ∀ args w, (callFunc 25 args).run Try.prog w = .ok (.enter 25 args) w := Go.Proofs.enters_of Try.func25 (by kernel_rfl) rfl
theorem cmpR_cons (x y : Vl) (a b : List Vl) : cmpR (x :: a) (y :: b) = if cmpV x y ≠ 0 then cmpV x y else cmpR a b := rfl
set_option maxRecDepth 100000 in
set_option maxHeartbeats 2000000 in
theorem cmpfunc_any (A B : Option Addr) (n m ca cb : Nat) (a b : List Vl) (w : World) (hA : VlS w A n a) (hB : VlS w B m b) (hn : n ≤ 9223372036854775807) (hm : m ≤ 9223372036854775807) :
    Calls Try.prog 41 #[.slice A n ca, .slice B m cb, .func (.func 18) #[] #[]] w fun e w' => e = .returned (.int .i64 (cmpR a b)) ∧ Lay w w' := by
  have HA := Lib.hid hA
  have HB := Lib.hid hB
  have Hla := Lib.hid hA.len
  have Hlb := Lib.hid hB.len
  have hent := entC
  clear hA hB
  generalize hr : cmpR a b = r
  have HR : Hid (cmpR (a.drop 0) (b.drop 0) = r) := Lib.hid (by simpa using hr)
  clear hr
  go_enter Try.func41, Try.ntmps41
  go_wp2_with fail
  go_loopw [13] (fun i wr => ∃ k : Nat, k ≤ n ∧ k ≤ m ∧ i = .int .i64 (k : Int) ∧ Hid (cmpR (a.drop k) (b.drop k) = r) ∧ Lay w wr) (fun i _ => n - (intOf i).toNat)
  case atStart => exact ⟨0, by omega, by omega, rfl, HR, Lay.refl _⟩
  case round =>
    obtain ⟨k, hk, hkm, rfl, hinv, hL⟩ := hrel
    by_cases hlt : k < n
    · obtain ⟨b1, o1, x, rfl, hx, hxc⟩ := (HA.out.keep (keeps_of hL.bel)).at hlt
      obtain ⟨xk, xi, xt⟩ := x
      obtain ⟨c0, c1, c2⟩ := VlAt.of hxc
      dsimp only at c0 c1 c2
      by_cases hlm : k < m
      · obtain ⟨b2, o2, y, rfl, hy, hyc⟩ := (HB.out.keep (keeps_of hL.bel)).at hlm
        obtain ⟨yk, yi, yt⟩ := y
        obtain ⟨d0, d1, d2⟩ := VlAt.of hyc
        dsimp only at d0 d1 d2
        have Hst : Hid (r = if cmpV ⟨xk, xi, xt⟩ ⟨yk, yi, yt⟩ ≠ 0 then cmpV ⟨xk, xi, xt⟩ ⟨yk, yi, yt⟩ else cmpR (a.drop (k + 1)) (b.drop (k + 1))) := Lib.hid (by rw [← hinv.out, drop_at hx, drop_at hy]; rfl)
        have e0 := keep_cell (keeps_alloc wr (.cells #[.int .i64 xk, .int .i64 xi, .string xt] 24)) d0
        have e1 := keep_cell (keeps_alloc wr (.cells #[.int .i64 xk, .int .i64 xi, .string xt] 24)) d1
        have e2 := keep_cell (keeps_alloc wr (.cells #[.int .i64 xk, .int .i64 xi, .string xt] 24)) d2
        clear hx hxc hy hyc
        go_wp2_with fail
        refine (compareL_any ⟨xk, xi, xt⟩ ⟨yk, yi, yt⟩ _).mono ?_
        rintro e w2 ⟨rfl, hL2⟩
        have hL3 := ((hL.alloc (.cells #[.int .i64 xk, .int .i64 xi, .string xt] 24)).alloc (.cells #[.int .i64 yk, .int .i64 yi, .string yt] 24)).trans hL2
        obtain ⟨q, Hq⟩ : ∃ q, Hid (cmpV ⟨xk, xi, xt⟩ ⟨yk, yi, yt⟩ = q) := ⟨_, rfl⟩
        rw [Hq.out] at Hst ⊢
        clear c0 c1 c2 d0 d1 d2 e0 e1 e2 hL2
        by_cases hq : q = 0
        · have g0 : (q != 0) = false := by simp [hq]
          have HQ := Lib.hid hq
          clear hq
          go_wp2_with fail
          go_roundw
          case rel => exact ⟨k + 1, by omega, by omega, by go_num, Lib.hid (by rw [Hst.out, if_neg (fun h => h HQ.out)]), hL3⟩
          case measure => simp [intOf]; omega
        · have g0 : (q != 0) = true := by simp [hq]
          have HQ := Lib.hid hq
          clear hq
          go_wp2
          go_ret
          exact ⟨ret_i64 (by rw [Hst.out, if_pos HQ.out]), hL3⟩
      · have Hst : Hid (r = 1) := Lib.hid (by
          rw [← hinv.out, drop_at hx, show b.drop k = [] from List.drop_eq_nil_of_le (by have := Hlb.out; omega)]; rfl)
        clear hx hxc
        go_wp2
        go_ret
        exact ⟨ret_i64 (by rw [Hst.out]), hL.alloc _⟩
    · obtain rfl : k = n := by omega
      by_cases hlm : k < m
      · obtain ⟨b2, o2, y, rfl, hy, hyc⟩ := (HB.out.keep (keeps_of hL.bel)).at hlm
        have Hst : Hid (r = -1) := Lib.hid (by
          rw [← hinv.out, drop_at hy, show a.drop k = [] from List.drop_eq_nil_of_le (by have := Hla.out; omega)]; rfl)
        clear hy hyc
        go_wp2
        go_ret
        exact ⟨ret_i64 (by rw [Hst.out]), hL⟩
      · have Hst : Hid (r = 0) := Lib.hid (by
          rw [← hinv.out, List.drop_eq_nil_of_le (by have := Hla.out; omega), List.drop_eq_nil_of_le (by have := Hlb.out; omega)]; rfl)
        go_wp2
        go_ret
        exact ⟨ret_i64 (by rw [Hst.out]), hL⟩
theorem comprowsL_any (A B : Option Addr) (n m ca cb : Nat) (a b : List Vl) (w : World) (hA : VlS w A n a) (hB : VlS w B m b) (hn : n ≤ 9223372036854775807) (hm : m ≤ 9223372036854775807) :
    Calls Try.prog 25 #[.slice A n ca, .slice B m cb] w fun e w' => e = .returned (.int .i64 (cmpR a b)) ∧ Lay w w' := by
  have HA := Lib.hid hA
  have HB := Lib.hid hB
  clear hA hB
  go_enter Try.func25, Try.ntmps25
  go_wp2_with fail
  refine (cmpfunc_any A B n m ca cb a b _ HA.out HB.out hn hm).mono ?_
  rintro e w2 ⟨rfl, hL2⟩
  go_wp2
  go_ret
  exact ⟨rfl, hL2⟩
end Go.Proofs.Ytemllddgefahfaa
