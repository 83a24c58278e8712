import Derived.Test.YtnocbigcdjlliaaMerge
import Derived.Test.YtnocbigcdjlliaaIvValid
import Derived.Shelf.Abstract
namespace Go.Proofs.Ytnocbigcdjlliaa
open Go.RowKit

theorem validLong (A : Option Addr) (n c : Nat) (w : World) (hn : 64 < n) :
    Calls Try.prog 10 #[.slice A n c] w fun e w' => e = .returned (.bool false) ∧ Below w.heap.size w w' := by
  go_enter Try.func10, Try.ntmps10
  go_wp2
  go_ret
  exact ⟨rfl, Below.refl _ _⟩
theorem validL_any (A : Option Addr) (n c : Nat) (l : List Iv) (w : World) (hs : IvS w A n l) :
    Calls Try.prog 10 #[.slice A n c] w fun e w' => e = .returned (.bool (validL l)) ∧ Below w.heap.size w w' := by
  have hl := hs.len
  rcases Nat.lt_or_ge 64 n with h | h
  · have : validL l = false := by simp [validL]; omega
    rw [this]
    exact validLong A n c w h
  · have : validL l = ordFrom none l := by simp [validL]; omega
    rw [this]
    exact ivvalid_any A n c l w h hs

theorem opI_any (x y : Bool) (w : World) : Calls Try.prog 38 #[.bool x, .bool y] w fun e w' => e = .returned (.bool (x && y)) ∧ w = w' := by
  cases x <;> cases y <;>
  · go_enter Try.func38, Try.ntmps38
    go_wp2
    go_ret
    exact ⟨rfl, rfl⟩
/-- the result of an operation on two lists, and its error -/
def combineL (op : Bool → Bool → Bool) (a b : List Iv) : List Iv × Int :=
  if validL a && validL b then (if (mergeL op a b).length ≤ 64 then (mergeL op a b, 0) else ([], 2)) else ([], 30)

def IvRes (w : World) (r : List Iv × Int) (e : Ending) (w' : World) : Prop :=
  ∃ (A' : Option Addr) (c' : Nat), e = .returned (.tuple #[.slice A' r.1.length c', .int .i64 r.2]) ∧ IvS w' A' r.1.length r.1 ∧ Below w.heap.size w w'
theorem ivres_nil {w w' : World} {r : List Iv × Int} {x : Int} (h : r = ([], x)) (hb : Below w.heap.size w w') : IvRes w r (.returned (.tuple #[.slice none 0 0, .int .i64 x])) w' := by
  subst h
  exact ⟨none, 0, rfl, Sl.nil, hb⟩

set_option maxHeartbeats 1000000 in
theorem combine_any (F : Nat) (op : Bool → Bool → Bool) (hent : ∀ args w, (callFunc F args).run Try.prog w = .ok (.enter F args) w)
    (hop : ∀ x y W, Calls Try.prog F #[.bool x, .bool y] W fun e w' => e = .returned (.bool (op x y)) ∧ W = w')
    (A B : Option Addr) (n m ca cb : Nat) (la lb : List Iv) (w : World) (hA : IvS w A n la) (hB : IvS w B m lb) :
    Calls Try.prog 37 #[.slice A n ca, .slice B m cb, .func (.func F) #[] #[]] w fun e w' => IvRes w (combineL op la lb) e w' := by
  have Hop := Lib.hid hop
  have HA := Lib.hid hA
  have HB := Lib.hid hB
  have hln := hA.len
  have hlm := hB.len
  have Hln := Lib.hid hln
  have Hlm := Lib.hid hlm
  clear hop hA hB hln hlm
  obtain ⟨va, Hva⟩ : ∃ va, Hid (validL la = va) := ⟨_, rfl⟩
  obtain ⟨vb, Hvb⟩ : ∃ vb, Hid (validL lb = vb) := ⟨_, rfl⟩
  go_enter Try.func37, Try.ntmps37
  go_wp2_with fail
  refine (validL_any A n ca la _ HA.out).mono ?_
  rintro e w1 ⟨rfl, hb1⟩
  rw [Hva.out]
  cases va
  · go_wp2
    go_ret2
    exact ivres_nil (by simp [combineL, Hva.out]) hb1
  · go_wp2_with fail
    refine (validL_any B m cb lb _ (HB.out.keep (keeps_of hb1))).mono ?_
    rintro e w2 ⟨rfl, hb2⟩
    rw [Hvb.out]
    have hb2' := Below.next hb1 hb2
    cases vb
    · go_wp2
      go_ret2
      exact ivres_nil (by simp [combineL, Hva.out, Hvb.out]) hb2'
    · have hn : n ≤ 64 := by have h := Hva.out; have := Hln.out; simp [validL] at h; omega
      have hm : m ≤ 64 := by have h := Hvb.out; have := Hlm.out; simp [validL] at h; omega
      have hK := keeps_of hb2'
      go_wp2_with fail
      refine (merge_any F op hent Hop.out A B n m ca cb la lb _ hn hm (HA.out.keep hK) (HB.out.keep hK)).mono ?_
      rintro e w3 ⟨A3, c3, rfl, hS3, hb3⟩
      have hb3' := Below.next hb2' hb3
      have HS3 := Lib.hid hS3
      clear hS3 hK
      rcases Nat.lt_or_ge 64 (mergeL op la lb).length with h64 | h64
      · go_wp2
        go_ret2
        exact ivres_nil (by simp [combineL, Hva.out, Hvb.out]; omega) hb3'
      · go_wp2
        go_ret2
        have hr : combineL op la lb = (mergeL op la lb, 0) := by simp [combineL, Hva.out, Hvb.out]; omega
        rw [hr]
        exact ⟨A3, c3, rfl, HS3.out, hb3'⟩
def opU : Bool → Bool → Bool := fun x y => x || y
def opI : Bool → Bool → Bool := fun x y => x && y
def opM : Bool → Bool → Bool := fun x y => x && !y

theorem entI : ∀ args w, (callFunc 38 args).run Try.prog w = .ok (.enter 38 args) w := Go.Proofs.enters_of Try.func38 (by kernel_rfl) rfl
theorem intersect_any (A B : Option Addr) (n m ca cb : Nat) (la lb : List Iv) (w : World) (hA : IvS w A n la) (hB : IvS w B m lb) :
    Calls Try.prog 27 #[.slice A n ca, .slice B m cb] w fun e w' => IvRes w (combineL opI la lb) e w' := by
  have HA := Lib.hid hA
  have HB := Lib.hid hB
  clear hA hB
  go_enter Try.func27, Try.ntmps27
  go_wp2_with fail
  refine (combine_any 38 opI entI opI_any A B n m ca cb la lb _ HA.out HB.out).mono ?_
  rintro e w1 ⟨A1, c1, rfl, hS1, hb1⟩
  have HS1 := Lib.hid hS1
  clear hS1
  go_wp2
  go_ret2
  exact ⟨A1, c1, rfl, HS1.out, hb1⟩
end Go.Proofs.Ytnocbigcdjlliaa
