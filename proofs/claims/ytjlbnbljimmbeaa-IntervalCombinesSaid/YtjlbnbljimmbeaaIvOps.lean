import Derived.Test.YtjlbnbljimmbeaaFirst
namespace Go.Proofs.Ytjlbnbljimmbeaa
open Go.RowKit

def allL : List Iv := [⟨⟨1, 0, ⟨#[]⟩⟩, zeroV, true⟩]
theorem iv_one {w : World} {g : Nat} {T : TypeId} {x : Iv} (h : Blk w g T #[.int .i64 x.f.k, .int .i64 x.f.i, .string x.f.t, .int .i64 x.t.k, .int .i64 x.t.i, .string x.t.t, .bool x.o]) : IvS w (some ⟨g, 0, none⟩) 1 [x] := by
  refine ⟨rfl, fun _ => ⟨g, 0, rfl, fun k y hy j u hu => ?_⟩⟩
  obtain ⟨rfl, rfl⟩ : k = 0 ∧ x = y := by
    rcases k with _ | k
    · exact ⟨rfl, by simpa using hy⟩
    · simp at hy
  rw [show 0 + 0 * 7 + j = j by omega, h.cell]
  simpa [Iv.cs] using hu
def IvLst (w : World) (l : List Iv) (e : Ending) (w' : World) : Prop := ∃ (A' : Option Addr) (c' : Nat), e = .returned (.slice A' l.length c') ∧ IvS w' A' l.length l ∧ Below w.heap.size w w'

set_option maxHeartbeats 400000 in
theorem all_any (w : World) : Calls Try.prog 26 #[] w fun e w' => IvLst w allL e w' := by
  go_enter Try.func26, Try.ntmps26
  go_wp2_with fail
  refine (first_any 1 _).mono ?_
  rintro e w1 ⟨rfl, hb1⟩
  rw [show firstV 1 = (⟨1, 0, ⟨#[]⟩⟩, true) from rfl]
  dsimp only
  go_wp2
  go_ret
  refine ⟨_, _, rfl, iv_one (T := 26) (x := ⟨⟨1, 0, ⟨#[]⟩⟩, zeroV, true⟩) ?_, ?_⟩
  · have := Blk.new (w1.alloc (.cells #[.int .i64 1, .int .i64 0, .string ⟨#[]⟩] 24)) 26 #[.int .i64 1, .int .i64 0, .string ⟨#[]⟩, .int .i64 0, .int .i64 0, .string ⟨#[]⟩, .bool true]
    rw [World.size_alloc] at this
    exact this
  · exact ((Below.next (Below.refl _ _) hb1).alloc hb1.size _).alloc (by have := hb1.size; simp; omega) _

def betweenL (f t : Vl) : List Iv × Int := if validV f && validV t then (if cmpV f t < 0 then ([⟨f, t, false⟩], 0) else ([], 0)) else ([], 10)
set_option maxHeartbeats 400000 in
theorem between_any (f t : Vl) (w : World) : Calls Try.prog 36 #[.agg #[.int .i64 f.k, .int .i64 f.i, .string f.t], .agg #[.int .i64 t.k, .int .i64 t.i, .string t.t]] w fun e w' => IvRes w (betweenL f t) e w' := by
  obtain ⟨fk, fi, ft⟩ := f
  obtain ⟨tk, ti, tt⟩ := t
  obtain ⟨v1, H1⟩ : ∃ v, Hid (validV ⟨fk, fi, ft⟩ = v) := ⟨_, rfl⟩
  obtain ⟨v2, H2⟩ : ∃ v, Hid (validV ⟨tk, ti, tt⟩ = v) := ⟨_, rfl⟩
  obtain ⟨c, H3⟩ : ∃ v, Hid (cmpV ⟨fk, fi, ft⟩ ⟨tk, ti, tt⟩ = v) := ⟨_, rfl⟩
  go_enter Try.func36, Try.ntmps36
  go_wp2_with fail
  refine (valid_any ⟨fk, fi, ft⟩ _).mono ?_
  rintro e w1 ⟨rfl, hb1⟩
  rw [H1.out]
  have hx1 := ((Blk.new w 24 #[.int .i64 fk, .int .i64 fi, .string ft]).alloc (.cells #[.int .i64 tk, .int .i64 ti, .string tt] 24)).below hb1
  have hx2 := (Blk.new (w.alloc (.cells #[.int .i64 fk, .int .i64 fi, .string ft] 24)) 24 #[.int .i64 tk, .int .i64 ti, .string tt]).below hb1
  simp only [World.size_alloc] at hx2
  have hB1 : Below w.heap.size w w1 := Below.next (((Below.refl _ _).alloc (Nat.le_refl _) _).alloc (by simp) _) hb1
  cases v1
  · go_wp2
    go_ret2
    exact ivres_nil (by simp [betweenL, H1.out]) hB1
  · have y1 := hx1.cell
    have y2 := hx2.cell
    go_wp2_with fail
    refine (valid_any ⟨tk, ti, tt⟩ _).mono ?_
    rintro e w2 ⟨rfl, hb2⟩
    rw [H2.out]
    have hB2 := Below.next hB1 hb2
    cases v2
    · go_wp2
      go_ret2
      exact ivres_nil (by simp [betweenL, H1.out, H2.out]) hB2
    · clear y1 y2
      have y1 := (hx1.below hb2).cell
      have y2 := (hx2.below hb2).cell
      go_wp2_with fail
      refine (compare_any ⟨fk, fi, ft⟩ ⟨tk, ti, tt⟩ _).mono ?_
      rintro e w3 ⟨rfl, hb3⟩
      rw [H3.out]
      have hB3 := Below.next hB2 hb3
      clear y1 y2
      have y1 := ((hx1.below hb2).below hb3).cell
      have y2 := ((hx2.below hb2).below hb3).cell
      rcases Int.lt_or_le c 0 with h | h
      · go_wp2
        go_ret2
        have hr : betweenL ⟨fk, fi, ft⟩ ⟨tk, ti, tt⟩ = ([⟨⟨fk, fi, ft⟩, ⟨tk, ti, tt⟩, false⟩], 0) := by simp [betweenL, H1.out, H2.out, H3.out, h]
        rw [hr]
        exact ⟨_, _, rfl, iv_one (x := ⟨⟨fk, fi, ft⟩, ⟨tk, ti, tt⟩, false⟩) (Blk.new _ _ _), hB3.alloc hB3.size _⟩
      · go_wp2
        go_ret2
        exact ivres_nil (by simp [betweenL, H1.out, H2.out, H3.out]; omega) hB3

def fromL (f : Vl) : List Iv × Int := if validV f then ([⟨f, zeroV, true⟩], 0) else ([], 10)
theorem from_any (f : Vl) (w : World) : Calls Try.prog 40 #[.agg #[.int .i64 f.k, .int .i64 f.i, .string f.t]] w fun e w' => IvRes w (fromL f) e w' := by
  obtain ⟨fk, fi, ft⟩ := f
  obtain ⟨v1, H1⟩ : ∃ v, Hid (validV ⟨fk, fi, ft⟩ = v) := ⟨_, rfl⟩
  go_enter Try.func40, Try.ntmps40
  go_wp2_with fail
  refine (valid_any ⟨fk, fi, ft⟩ _).mono ?_
  rintro e w1 ⟨rfl, hb1⟩
  rw [H1.out]
  have y1 := ((Blk.new w 24 #[.int .i64 fk, .int .i64 fi, .string ft]).below hb1).cell
  have hB1 : Below w.heap.size w w1 := Below.next ((Below.refl _ _).alloc (Nat.le_refl _) _) hb1
  cases v1
  · go_wp2
    go_ret2
    exact ivres_nil (by simp [fromL, H1.out]) hB1
  · go_wp2
    go_ret2
    have hr : fromL ⟨fk, fi, ft⟩ = ([⟨⟨fk, fi, ft⟩, zeroV, true⟩], 0) := by simp [fromL, H1.out]
    rw [hr]
    exact ⟨_, _, rfl, iv_one (T := 26) (x := ⟨⟨fk, fi, ft⟩, zeroV, true⟩) (Blk.new _ _ _), hB1.alloc hB1.size _⟩

theorem entU : ∀ args w, (callFunc 46 args).run Try.prog w = .ok (.enter 46 args) w := Go.Proofs.enters_of Try.func46 (by kernel_rfl) rfl
theorem entI : ∀ args w, (callFunc 61 args).run Try.prog w = .ok (.enter 61 args) w := Go.Proofs.enters_of Try.func61 (by kernel_rfl) rfl
theorem entM : ∀ args w, (callFunc 60 args).run Try.prog w = .ok (.enter 60 args) w := Go.Proofs.enters_of Try.func60 (by kernel_rfl) rfl

def opU : Bool → Bool → Bool := fun x y => x || y
def opI : Bool → Bool → Bool := fun x y => x && y
def opM : Bool → Bool → Bool := fun x y => x && !y

theorem union_any (A B : Option Addr) (n m ca cb : Nat) (la lb : List Iv) (w : World) (hA : IvS w A n la) (hB : IvS w B m lb) :
    Calls Try.prog 10 #[.slice A n ca, .slice B m cb] w fun e w' => IvRes w (combineL opU la lb) e w' := by
  have HA := Lib.hid hA
  have HB := Lib.hid hB
  clear hA hB
  go_enter Try.func10, Try.ntmps10
  go_wp2_with fail
  refine (combine_any 46 opU entU opU_any A B n m ca cb la lb _ HA.out HB.out).mono ?_
  rintro e w1 ⟨A1, c1, rfl, hS1, hb1⟩
  have HS1 := Lib.hid hS1
  clear hS1
  go_wp2
  go_ret2
  exact ⟨A1, c1, rfl, HS1.out, hb1⟩
theorem intersect_any (A B : Option Addr) (n m ca cb : Nat) (la lb : List Iv) (w : World) (hA : IvS w A n la) (hB : IvS w B m lb) :
    Calls Try.prog 29 #[.slice A n ca, .slice B m cb] w fun e w' => IvRes w (combineL opI la lb) e w' := by
  have HA := Lib.hid hA
  have HB := Lib.hid hB
  clear hA hB
  go_enter Try.func29, Try.ntmps29
  go_wp2_with fail
  refine (combine_any 61 opI entI opI_any A B n m ca cb la lb _ HA.out HB.out).mono ?_
  rintro e w1 ⟨A1, c1, rfl, hS1, hb1⟩
  have HS1 := Lib.hid hS1
  clear hS1
  go_wp2
  go_ret2
  exact ⟨A1, c1, rfl, HS1.out, hb1⟩
theorem minus_any (A B : Option Addr) (n m ca cb : Nat) (la lb : List Iv) (w : World) (hA : IvS w A n la) (hB : IvS w B m lb) :
    Calls Try.prog 28 #[.slice A n ca, .slice B m cb] w fun e w' => IvRes w (combineL opM la lb) e w' := by
  have HA := Lib.hid hA
  have HB := Lib.hid hB
  clear hA hB
  go_enter Try.func28, Try.ntmps28
  go_wp2_with fail
  refine (combine_any 60 opM entM opM_any A B n m ca cb la lb _ HA.out HB.out).mono ?_
  rintro e w1 ⟨A1, c1, rfl, hS1, hb1⟩
  have HS1 := Lib.hid hS1
  clear hS1
  go_wp2
  go_ret2
  exact ⟨A1, c1, rfl, HS1.out, hb1⟩
theorem complement_any (A : Option Addr) (n ca : Nat) (la : List Iv) (w : World) (hA : IvS w A n la) :
    Calls Try.prog 30 #[.slice A n ca] w fun e w' => IvRes w (combineL opM allL la) e w' := by
  have HA := Lib.hid hA
  clear hA
  go_enter Try.func30, Try.ntmps30
  go_wp2_with fail
  refine (all_any _).mono ?_
  rintro e w0 ⟨A0, c0, rfl, hS0, hb0⟩
  have HS0 := Lib.hid hS0
  clear hS0
  go_wp2_with fail
  refine (combine_any 60 opM entM opM_any A0 A _ n c0 ca allL la _ HS0.out (HA.out.keep (keeps_of hb0))).mono ?_
  rintro e w1 ⟨A1, c1, rfl, hS1, hb1⟩
  have HS1 := Lib.hid hS1
  clear hS1
  go_wp2
  go_ret2
  exact ⟨A1, c1, rfl, HS1.out, Below.next hb0 hb1⟩

def coversL (a b : List Iv) : Bool × Int := if validL a && validL b then ((mergeL opM b a).isEmpty, 0) else (false, 30)
set_option maxHeartbeats 1000000 in
theorem covers_any (A B : Option Addr) (n m ca cb : Nat) (la lb : List Iv) (w : World) (hA : IvS w A n la) (hB : IvS w B m lb) :
    Calls Try.prog 27 #[.slice A n ca, .slice B m cb] w fun e w' => e = .returned (.tuple #[.bool (coversL la lb).1, .int .i64 (coversL la lb).2]) ∧ Below w.heap.size w w' := by
  have HA := Lib.hid hA
  have HB := Lib.hid hB
  have Hln := Lib.hid hA.len
  have Hlm := Lib.hid hB.len
  clear hA hB
  obtain ⟨va, Hva⟩ : ∃ va, Hid (validL la = va) := ⟨_, rfl⟩
  obtain ⟨vb, Hvb⟩ : ∃ vb, Hid (validL lb = vb) := ⟨_, rfl⟩
  generalize hr : coversL la lb = r
  have Hr := Lib.hid hr
  clear hr
  go_enter Try.func27, Try.ntmps27
  go_wp2_with fail
  refine (validL_any A n ca la _ HA.out).mono ?_
  rintro e w1 ⟨rfl, hb1⟩
  rw [Hva.out]
  cases va
  · go_wp2
    go_ret2
    rw [← Hr.out]
    simp only [coversL, Hva.out, Bool.false_and, Bool.false_eq_true, if_false]
    exact ⟨rfl, hb1⟩
  · go_wp2_with fail
    refine (validL_any B m cb lb _ (HB.out.keep (keeps_of hb1))).mono ?_
    rintro e w2 ⟨rfl, hb2⟩
    rw [Hvb.out]
    have hb2' := Below.next hb1 hb2
    cases vb
    · go_wp2
      go_ret2
      rw [← Hr.out]
      simp only [coversL, Hva.out, Hvb.out, Bool.and_false, Bool.false_eq_true, if_false]
      exact ⟨rfl, hb2'⟩
    · have hn : n ≤ 64 := by have h := Hva.out; have := Hln.out; simp [validL] at h; omega
      have hm : m ≤ 64 := by have h := Hvb.out; have := Hlm.out; simp [validL] at h; omega
      have hK := keeps_of hb2'
      go_wp2_with fail
      refine (merge_any 60 opM entM opM_any B A m n cb ca lb la _ hm hn (HB.out.keep hK) (HA.out.keep hK)).mono ?_
      rintro e w3 ⟨A3, c3, rfl, hS3, hb3⟩
      have hb3' := Below.next hb2' hb3
      clear hS3 hK
      generalize hq : mergeL opM lb la = q
      have Hq := Lib.hid hq
      clear hq
      go_wp2
      go_ret2
      rw [← Hr.out]
      simp only [coversL, Hva.out, Hvb.out, Bool.and_true, if_true, Hq.out]
      refine ⟨?_, hb3'⟩
      cases q <;> rfl
end Go.Proofs.Ytjlbnbljimmbeaa
