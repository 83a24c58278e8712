/-
  Texts: IvValid, Combine, RgFormP.
-/
import Derived.Shelf.Abstract
import Derived.Test.YtmnmckblmoalkaaGreatB8
set_option linter.unusedVariables false
namespace Go.Proofs.YtmnmckblmoalkaaGreat
open Go.RowKit
set_option maxRecDepth 100000

set_option maxHeartbeats 1000000 in
theorem ivvalid_any (A : Option Addr) (n c : Nat) (l : List Iv) (w : World) (hn : n ≤ 64) (hs : IvS w A n l) :
    Calls Tryz.prog 104 #[.slice A n c] w fun e w' => e = .returned (.bool (ordFrom none l)) ∧ Below w.heap.size w w' := by
  have Hs := Lib.hid hs
  have hln := hs.len
  clear hs
  go_enter Tryz.func104, Tryz.ntmps104
  go_wp2
  go_loopw [10] (fun i wr => ∃ k : Nat, k ≤ n ∧ i = .int .i64 (k : Int) ∧ Hid (ordFrom none l = ordFrom (prevI l k) (l.drop k)) ∧ Below w.heap.size w wr) (fun i _ => n - (intOf i).toNat)
  case atStart => exact ⟨0, by omega, rfl, by simp [Hid, prevI], Below.refl _ _⟩
  case round =>
    obtain ⟨k, hk, rfl, hinv, hb⟩ := hrel
    by_cases hlt : k < n
    · have hS := Hs.out.keep (keeps_of hb)
      obtain ⟨b, o, x, rfl, hx, hc⟩ := hS.at hlt
      have hi := ord_step hx hinv.out
      obtain ⟨⟨fk, fi, ft⟩, ⟨tk, ti, tt⟩, xo⟩ := x
      obtain ⟨c0, c1, c2, c3, c4, c5, c6⟩ := IvAt.of hc
      dsimp only at c0 c1 c2 c3 c4 c5 c6
      rw [okI_eq] at hi
      obtain ⟨lst, Hl⟩ : ∃ lst, Hid (decide (k + 1 = l.length) = lst) := ⟨_, rfl⟩
      rw [Hl.out] at hi
      obtain ⟨pok, Hp⟩ : ∃ pok, Hid (prevOk (prevI l k) ⟨fk, fi, ft⟩ = pok) := ⟨_, rfl⟩
      rw [Hp.out] at hi
      have Hi := Lib.hid hi
      clear hi hinv hc hx
      go_wp2_with (first | (go_at_call 110; refine (valid_any ⟨_, _, _⟩ _).mono ?_; rintro e w1 ⟨rfl, hb1⟩))
      · go_ret
        refine ⟨ret_bool ?_, ?_⟩
        · rw [Hi.out]; simp_all
        · exact Below.next (hb.alloc hb.size _) hb1
      · have hK1 := keeps_of hb1
        obtain ⟨e0, e1, e2, e3, e4, e5, e6⟩ := (IvAt.new wr 90 ⟨⟨fk, fi, ft⟩, ⟨tk, ti, tt⟩, xo⟩).keep hK1
        dsimp only at e0 e1 e2 e3 e4 e5 e6
        simp only [Nat.zero_add] at e1 e2 e3 e4 e5 e6
        clear c0 c1 c2 c3 c4 c5 c6
        have hca := @cell_after w1
        refine wp_region_later (by kernel_rfl) (by kernel_rfl) ?_
        rcases Nat.eq_zero_or_pos k with hk0 | hk0
        · have g0 : decide (0 < k) = false := by simp [hk0]
          obtain rfl : pok = true := by rw [← Hp.out, hk0]; rfl
          clear hk0
          clear hS
          repeat (go_big_quiet_step (fail))
          refine wpQuiet_nil ?_
          intro w2 hb2
          have hB := Below.next (hb.alloc hb.size _) (Below.next hb1 hb2)
          have hX := (IvAt.new wr 90 ⟨⟨fk, fi, ft⟩, ⟨tk, ti, tt⟩, xo⟩).keep (hK1.trans (keeps_of hb2))
          clear hb1 e0 e1 e2 e3 e4 e5 e6 hca hK1 g0
          obtain ⟨e0, e1, e2, e3, e4, e5, e6⟩ := hX
          dsimp only at e0 e1 e2 e3 e4 e5 e6
          simp only [Nat.zero_add] at e1 e2 e3 e4 e5 e6
          go_wp2_with (first
             | (go_at_call 110; refine (valid_any ⟨_, _, _⟩ _).mono ?_; rintro e w3 ⟨rfl, hb3⟩; replace hB := Below.next hB hb3; have hk3 := bcell hb3)
             | (go_at_call 87; refine (compare_any ⟨_, _, _⟩ ⟨_, _, _⟩ _).mono ?_; rintro e w4 ⟨rfl, hb4⟩; replace hB := Below.next hB hb4))
          all_goals
            have hl := Hl.out
            have hi := Hi.out
            first
              | (go_ret
                 refine ⟨ret_bool ?_, hB⟩
                 rw [hi]
                 first | (simp [*]; done) | (simp [*]; intros; omega) | (obtain rfl : lst = false := (by rw [← hl]; simp; omega); simp [*]))
              | (go_roundw
                 case rel =>
                   refine ⟨k + 1, by omega, by go_num, ?_, hB⟩
                   show _ = _
                   rw [hi]
                   first | (simp_all; done) | (obtain rfl : lst = true := (by rw [← hl]; simp; omega); simp_all)
                 case measure => simp [intOf]; omega)
        · have g0 : decide (0 < k) = true := by simp [hk0]
          obtain ⟨b', o', y, hA, hy, hd⟩ := hS.at (show k - 1 < n by omega)
          obtain ⟨rfl, rfl⟩ : b = b' ∧ o = o' := by injection hA with h; injection h with h1 h2; exact ⟨h1, h2⟩
          obtain ⟨⟨pk, pi, pt⟩, ⟨qk, qi, qt⟩, yo⟩ := y
          obtain ⟨d3, d4, d5⟩ := (IvAt.of hd).to_.keep ((keeps_alloc _ _).trans hK1)
          dsimp only at d3 d4 d5
          obtain rfl : decide (cmpV ⟨qk, qi, qt⟩ ⟨fk, fi, ft⟩ < 0) = pok := by
            rw [← Hp.out]
            have : prevI l k = l[k - 1]? := by obtain ⟨j, rfl⟩ : ∃ j, k = j + 1 := ⟨k - 1, by omega⟩; rfl
            rw [this, hy]; rfl
          clear hy hd hA hS
          repeat (go_big_quiet_step (first | (go_at_call 87; exact later_of (compare_any ⟨_, _, _⟩ ⟨_, _, _⟩ _))))
          refine wpQuiet_nil ?_
          intro w2 hb2
          have hB := Below.next (hb.alloc hb.size _) (Below.next hb1 hb2)
          have hX := (IvAt.new wr 90 ⟨⟨fk, fi, ft⟩, ⟨tk, ti, tt⟩, xo⟩).keep (hK1.trans (keeps_of hb2))
          clear hb1 e0 e1 e2 e3 e4 e5 e6 hca hK1 g0 d3 d4 d5
          obtain ⟨e0, e1, e2, e3, e4, e5, e6⟩ := hX
          dsimp only at e0 e1 e2 e3 e4 e5 e6
          simp only [Nat.zero_add] at e1 e2 e3 e4 e5 e6
          go_wp2_with (first
             | (go_at_call 110; refine (valid_any ⟨_, _, _⟩ _).mono ?_; rintro e w3 ⟨rfl, hb3⟩; replace hB := Below.next hB hb3; have hk3 := bcell hb3)
             | (go_at_call 87; refine (compare_any ⟨_, _, _⟩ ⟨_, _, _⟩ _).mono ?_; rintro e w4 ⟨rfl, hb4⟩; replace hB := Below.next hB hb4))
          all_goals
            have hl := Hl.out
            have hi := Hi.out
            first
              | (go_ret
                 refine ⟨ret_bool ?_, hB⟩
                 rw [hi]
                 first | (simp [*]; done) | (simp [*]; intros; omega) | (obtain rfl : lst = false := (by rw [← hl]; simp; omega); simp [*]))
              | (go_roundw
                 case rel =>
                   refine ⟨k + 1, by omega, by go_num, ?_, hB⟩
                   show _ = _
                   rw [hi]
                   first | (simp_all; done) | (obtain rfl : lst = true := (by rw [← hl]; simp; omega); simp_all)
                 case measure => simp [intOf]; omega)
    · go_wp2
      go_ret
      exact ⟨ret_bool (by rw [hinv.out]; have hkl : k = l.length := (by have := Hs.out.len; omega); subst hkl; simp [ordFrom]), hb⟩
end Go.Proofs.YtmnmckblmoalkaaGreat

namespace Go.Proofs.YtmnmckblmoalkaaGreat
open Go.RowKit
set_option maxRecDepth 100000

theorem validLong (A : Option Addr) (n c : Nat) (w : World) (hn : 64 < n) :
    Calls Tryz.prog 104 #[.slice A n c] w fun e w' => e = .returned (.bool false) ∧ Below w.heap.size w w' := by
  go_enter Tryz.func104, Tryz.ntmps104
  go_wp2
  go_ret
  exact ⟨rfl, Below.refl _ _⟩
theorem validL_any (A : Option Addr) (n c : Nat) (l : List Iv) (w : World) (hs : IvS w A n l) :
    Calls Tryz.prog 104 #[.slice A n c] w fun e w' => e = .returned (.bool (validL l)) ∧ Below w.heap.size w w' := by
  have hl := hs.len
  rcases Nat.lt_or_ge 64 n with h | h
  · have : validL l = false := by simp [validL]; omega
    rw [this]
    exact validLong A n c w h
  · have : validL l = ordFrom none l := by simp [validL]; omega
    rw [this]
    exact ivvalid_any A n c l w h hs

theorem opI_any (x y : Bool) (w : World) : Calls Tryz.prog 173 #[.bool x, .bool y] w fun e w' => e = .returned (.bool (x && y)) ∧ w = w' := by
  cases x <;> cases y <;>
  · go_enter Tryz.func173, Tryz.ntmps173
    go_wp2
    go_ret
    exact ⟨rfl, rfl⟩
/-- the result of an operation on two lists, and its error -/
def combineL (op : Bool → Bool → Bool) (a b : List Iv) : List Iv × Int :=
  if validL a && validL b then (if (mergeL op a b).length ≤ 64 then (mergeL op a b, 0) else ([], 2)) else ([], 30)

def IvRes (w : World) (r : List Iv × Int) (e : Ending) (w' : World) : Prop :=
  ∃ (A' : Option Addr) (c' : Nat), e = .returned (.tuple #[.slice A' r.1.length c', .int .i64 r.2]) ∧ IvS w' A' r.1.length r.1 ∧ Below w.heap.size w w'
theorem ivres_nil {w w' : World} {r : List Iv × Int} {x : Int} (h : r = ([], x)) (hb : Below w.heap.size w w') : IvRes w r (.returned (.tuple #[.slice none 0 0, .int .i64 x])) w' := by
  subst h
  exact ⟨none, 0, rfl, Sl.nil, hb⟩

set_option maxHeartbeats 1000000 in
theorem combine_any (F : Nat) (op : Bool → Bool → Bool) (hent : ∀ args w, (callFunc F args).run Tryz.prog w = .ok (.enter F args) w)
    (hop : ∀ x y W, Calls Tryz.prog F #[.bool x, .bool y] W fun e w' => e = .returned (.bool (op x y)) ∧ W = w')
    (A B : Option Addr) (n m ca cb : Nat) (la lb : List Iv) (w : World) (hA : IvS w A n la) (hB : IvS w B m lb) :
    Calls Tryz.prog 172 #[.slice A n ca, .slice B m cb, .func (.func F) #[] #[]] w fun e w' => IvRes w (combineL op la lb) e w' := by
  have Hop := Lib.hid hop
  have HA := Lib.hid hA
  have HB := Lib.hid hB
  have hln := hA.len
  have hlm := hB.len
  have Hln := Lib.hid hln
  have Hlm := Lib.hid hlm
  clear hop hA hB hln hlm
  obtain ⟨va, Hva⟩ : ∃ va, Hid (validL la = va) := ⟨_, rfl⟩
  obtain ⟨vb, Hvb⟩ : ∃ vb, Hid (validL lb = vb) := ⟨_, rfl⟩
  go_enter Tryz.func172, Tryz.ntmps172
  go_wp2_with fail
  refine (validL_any A n ca la _ HA.out).mono ?_
  rintro e w1 ⟨rfl, hb1⟩
  rw [Hva.out]
  cases va
  · go_wp2
    go_ret2
    exact ivres_nil (by simp [combineL, Hva.out]) hb1
  · go_wp2_with fail
    refine (validL_any B m cb lb _ (HB.out.keep (keeps_of hb1))).mono ?_
    rintro e w2 ⟨rfl, hb2⟩
    rw [Hvb.out]
    have hb2' := Below.next hb1 hb2
    cases vb
    · go_wp2
      go_ret2
      exact ivres_nil (by simp [combineL, Hva.out, Hvb.out]) hb2'
    · have hn : n ≤ 64 := by have h := Hva.out; have := Hln.out; simp [validL] at h; omega
      have hm : m ≤ 64 := by have h := Hvb.out; have := Hlm.out; simp [validL] at h; omega
      have hK := keeps_of hb2'
      go_wp2_with fail
      refine (merge_any F op hent Hop.out A B n m ca cb la lb _ hn hm (HA.out.keep hK) (HB.out.keep hK)).mono ?_
      rintro e w3 ⟨A3, c3, rfl, hS3, hb3⟩
      have hb3' := Below.next hb2' hb3
      have HS3 := Lib.hid hS3
      clear hS3 hK
      rcases Nat.lt_or_ge 64 (mergeL op la lb).length with h64 | h64
      · go_wp2
        go_ret2
        exact ivres_nil (by simp [combineL, Hva.out, Hvb.out]; omega) hb3'
      · go_wp2
        go_ret2
        have hr : combineL op la lb = (mergeL op la lb, 0) := by simp [combineL, Hva.out, Hvb.out]; omega
        rw [hr]
        exact ⟨A3, c3, rfl, HS3.out, hb3'⟩
def opU : Bool → Bool → Bool := fun x y => x || y
def opI : Bool → Bool → Bool := fun x y => x && y
def opM : Bool → Bool → Bool := fun x y => x && !y

theorem entI : ∀ args w, (callFunc 173 args).run Tryz.prog w = .ok (.enter 173 args) w := Go.Proofs.enters_of Tryz.func173 (by kernel_rfl) rfl
theorem intersect_any (A B : Option Addr) (n m ca cb : Nat) (la lb : List Iv) (w : World) (hA : IvS w A n la) (hB : IvS w B m lb) :
    Calls Tryz.prog 150 #[.slice A n ca, .slice B m cb] w fun e w' => IvRes w (combineL opI la lb) e w' := by
  have HA := Lib.hid hA
  have HB := Lib.hid hB
  clear hA hB
  go_enter Tryz.func150, Tryz.ntmps150
  go_wp2_with fail
  refine (combine_any 173 opI entI opI_any A B n m ca cb la lb _ HA.out HB.out).mono ?_
  rintro e w1 ⟨A1, c1, rfl, hS1, hb1⟩
  have HS1 := Lib.hid hS1
  clear hS1
  go_wp2
  go_ret2
  exact ⟨A1, c1, rfl, HS1.out, hb1⟩
end Go.Proofs.YtmnmckblmoalkaaGreat

/-
  Plain mathematics: the canonical form, as the program's formed looks at it, part by part. No program here.
-/
namespace Go.Proofs.YtmnmckblmoalkaaGreat
open Go.RowKit
set_option maxRecDepth 100000
open Rg

/-- a part is as the canonical form asks -/
def PtOk (n : Nat) (p : List Iv × Rg) : Prop := p.1 ≠ [] ∧ validL p.1 = true ∧ p.2.nix = false ∧ Form n p.2 ∧ p.2.fits = true
/-- a part may stand before another -/
def RelP (p q : List Iv × Rg) : Prop := cmpV (lo p.1) (lo q.1) < 0 ∧ disj p.1 q.1 ∧ p.2 ≠ q.2
def FormF (n : Nat) (r : Rg) : Prop := Form n r ∧ r.fits = true
theorem fits_iff : ∀ r : Rg, r.fits = true ↔ ∀ p ∈ r.parts, p.1.length ≤ 64 ∧ p.2.fits = true
  | .nil _ _ => by simp [Rg.fits, parts]
  | .cons vs rest tail => by
    have ih := fits_iff tail
    simp only [Rg.fits, parts, Bool.and_eq_true, decide_eq_true_eq, List.mem_cons, forall_eq_or_imp, ih]
theorem formF_zero (r : Rg) : FormF 0 r ↔ r.w = 0 ∧ r.len = 0 := by
  unfold FormF Form
  rw [← len_parts]
  constructor
  · rintro ⟨⟨h1, h2⟩, _⟩; exact ⟨h1, by rw [h2]; rfl⟩
  · rintro ⟨h1, h2⟩
    have h2 := List.eq_nil_of_length_eq_zero h2
    exact ⟨⟨h1, h2⟩, (fits_iff r).2 (by rw [h2]; simp)⟩
theorem formF_succ (n : Nat) (r : Rg) : FormF (n + 1) r ↔ r.w = ((n + 1 : Nat) : Int) ∧ r.f = false ∧ (∀ p ∈ r.parts, PtOk n p) ∧ r.parts.Pairwise RelP := by
  unfold FormF
  rw [fits_iff]
  constructor
  · rintro ⟨⟨h1, h2, h3, h4⟩, h5⟩
    refine ⟨h1, h2, fun p hp => ?_, h4⟩
    obtain ⟨a1, a2, a3, a4⟩ := h3 p hp
    obtain ⟨b1, b2⟩ := h5 p hp
    exact ⟨a1, by simp [validL, b1, a2], a4, a3, b2⟩
  · rintro ⟨h1, h2, h3, h4⟩
    have h3' : ∀ p ∈ r.parts, p.1.length ≤ 64 ∧ ordFrom none p.1 = true := fun p hp => by
      have := (h3 p hp).2.1
      simpa [validL] using this
    exact ⟨⟨h1, h2, fun p hp => ⟨(h3 p hp).1, (h3' p hp).2, (h3 p hp).2.2.2.1, (h3 p hp).2.2.1⟩, h4⟩, fun p hp => ⟨(h3' p hp).1, (h3 p hp).2.2.2.2⟩⟩
theorem not_ptok {n : Nat} {r : Rg} {k : Nat} {p : List Iv × Rg} (hp : r.parts[k]? = some p) (h : ¬ PtOk n p) : ¬ FormF (n + 1) r := fun hf => h (((formF_succ n r).1 hf).2.2.1 p (List.mem_of_getElem? hp))
theorem rel_at {n : Nat} {r : Rg} {j k : Nat} {p q : List Iv × Rg} (hf : FormF (n + 1) r) (hjk : j < k) (hq : r.parts[j]? = some q) (hp : r.parts[k]? = some p) : RelP q p := by
  have h := ((formF_succ n r).1 hf).2.2.2
  rw [List.pairwise_iff_getElem] at h
  obtain ⟨h1, e1⟩ := List.getElem?_eq_some_iff.1 hq
  obtain ⟨h2, e2⟩ := List.getElem?_eq_some_iff.1 hp
  have := h j k h1 h2 hjk
  rw [e1, e2] at this
  exact this
/-- lists that meet nowhere -/
theorem meet_iff {a b : List Iv} (ha : validL a = true) (hb : validL b = true) : ((combineL opI a b).2 = 0 ∧ (combineL opI a b).1.length = 0) ↔ disj a b := by
  have ha' : ordFrom none a = true := by simp [validL] at ha; exact ha.2
  have hb' : ordFrom none b = true := by simp [validL] at hb; exact hb.2
  obtain ⟨m1, _, m3⟩ := merge_spec opI rfl ha' hb'
  have key : mergeL opI a b = [] ↔ disj a b := by
    constructor
    · intro h v _ hv
      have := m3 v
      rw [h, hv] at this
      simpa [inL, opI] using this.symm
    · intro h
      rcases hm : mergeL opI a b with _ | ⟨x, l⟩
      · rfl
      · obtain ⟨l1, l2⟩ := lo_in m1 (by rw [hm]; simp)
        have h3 := m3 (lo (mergeL opI a b))
        rw [l2] at h3
        have h4 : inL a (lo (mergeL opI a b)) = true ∧ inL b (lo (mergeL opI a b)) = true := by simpa [opI] using h3.symm
        rw [h _ l1 h4.1] at h4
        cases h4.2
  rw [← key]
  unfold combineL
  rw [ha, hb]
  simp only [Bool.and_self, if_true]
  split
  · simp
  · rename_i hl
    constructor
    · intro h; cases h.1
    · intro h; rw [h] at hl; simp at hl
/-- the parts up to k are good, and the next one goes with the one before it -/
def GoodTo (n : Nat) (L : List (List Iv × Rg)) : Prop := (∀ p ∈ L, PtOk n p) ∧ L.Pairwise RelP
theorem GoodTo.snoc {n : Nat} {L : List (List Iv × Rg)} {p : List Iv × Rg} (h : GoodTo n L) (hp : PtOk n p) (hr : ∀ q ∈ L, RelP q p) : GoodTo n (L ++ [p]) := by
  refine ⟨fun q hq => ?_, List.pairwise_append.2 ⟨h.2, List.pairwise_singleton _ _, fun q hq s hs => ?_⟩⟩
  · rcases List.mem_append.1 hq with hq | hq
    · exact h.1 q hq
    · have : q = p := by simpa using hq
      rw [this]; exact hp
  · have : s = p := by simpa using hs
    rw [this]; exact hr q hq
theorem lo_take {n : Nat} {l : List (List Iv × Rg)} {k : Nat} {p : List Iv × Rg} (h : GoodTo n (l.take (k + 1))) {q : List Iv × Rg} (hq : l[k]? = some q) (hlt : cmpV (lo q.1) (lo p.1) < 0) : ∀ s ∈ l.take (k + 1), cmpV (lo s.1) (lo p.1) < 0 := by
  rw [take_snoc' hq] at h ⊢
  intro s hs
  rcases List.mem_append.1 hs with hs | hs
  · exact cmpV_lt_trans ((List.pairwise_append.1 h.2).2.2 s hs q (by simp)).1 hlt
  · have : s = q := by simpa using hs
    rw [this]; exact hlt
end Go.Proofs.YtmnmckblmoalkaaGreat
