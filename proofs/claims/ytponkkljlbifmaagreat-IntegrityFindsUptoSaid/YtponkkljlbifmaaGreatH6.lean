/-
  Texts: Sorted, SetR, SetL, Ord, Ig, Lay, CmpRows, Rw, RgA, NeqI, RgSame, IvValid, Combine, RgFormP, RgForm, RgValid.
-/
import Derived.Test.YtponkkljlbifmaaGreatH5
set_option linter.unusedVariables false
namespace Go.Proofs.YtponkkljlbifmaaGreat
open Go.RowKit
set_option maxRecDepth 100000
set_option linter.unusedVariables false

def mergeP : List RowP → List RowP → List RowP
  | [], b => b
  | x :: a, [] => x :: a
  | x :: a, y :: b => if cmpR x.2 y.2 ≤ 0 then x :: mergeP a (y :: b) else y :: mergeP (x :: a) b
termination_by a b => a.length + b.length
theorem Sl.drop {α : Type} {sz : Nat} {cs : α → List Value} {w : World} {b o n : Nat} {l : List α} (h : Sl sz cs w (some ⟨b, o, none⟩) n l) (k : Nat) (hk : k ≤ n) : Sl sz cs w (some ⟨b, o + k * sz, none⟩) (n - k) (l.drop k) := by
  have hl := h.1
  refine ⟨by simp; omega, fun h0 => ?_⟩
  obtain ⟨b', o', e, hc⟩ := h.2 (by omega)
  injection e with e
  injection e with e1 e2
  subst e1 e2
  refine ⟨b, o + k * sz, rfl, fun i x hx j u hu => ?_⟩
  rw [List.getElem?_drop] at hx
  have := hc (k + i) x hx j u hu
  rw [← this, Nat.add_mul]
  congr 2
  omega
theorem info_row : (Tryz.prog.info? 75).map (fun i => (i.zero, i.size, i.bytes)) = some (some (.slice none 0 0), 1, 24) := by kernel_rfl
theorem one_row (p : RowP) : ∀ u ∈ rowc p, u.oneCell' = true := by simp [rowc, Value.oneCell']

/-- one of the two slices that are merged -/
structure SPart (w : World) (A : Option Addr) (n c : Nat) (l : List RowP) : Prop where
  rd : RowsS w A n l
  nl : A = none → n = 0 ∧ c = 0
  sp : ∀ ad, A = some ad → ad.spot = none
  le : n ≤ c
  mx : c ≤ 9223372036854775807
theorem SPart.keep {w w' : World} {A : Option Addr} {n c : Nat} {l : List RowP} (h : SPart w A n c l) (hk : Keeps w w') : SPart w' A n c l := ⟨h.rd.keep hk, h.nl, h.sp, h.le, h.mx⟩
theorem SPart.tail {w : World} {b o n c : Nat} {p : RowP} {l : List RowP} (h : SPart w (some ⟨b, o, none⟩) n c (p :: l)) : SPart w (if c = 1 then some ⟨b, o, none⟩ else some ⟨b, o + 1, none⟩) (n - 1) (c - 1) l := by
  have hl := h.rd.sl.len
  have hle := h.le
  simp only [List.length_cons] at hl
  refine ⟨⟨?_, fun q hq => h.rd.ok q (List.mem_cons_of_mem _ hq)⟩, fun e => ?_, fun ad e => ?_, by omega, by have := h.mx; omega⟩
  · split
    · obtain rfl : l = [] := List.eq_nil_of_length_eq_zero (by omega)
      rw [show n - 1 = 0 by omega]
      exact Sl.nil
    · have := h.rd.sl.drop 1 (by omega)
      simpa using this
  · split at e <;> cases e
  · split at e <;> (injection e with e; rw [← e])
structure SState (w2 : World) (R : List RowP) (la lb lo : List RowP) (Aa : Option Addr) (na ca : Nat) (Ab : Option Addr) (nb cb : Nat) (Ao : Option Addr) (no co : Nat) (wr : World) : Prop where
  a : SPart w2 Aa na ca la
  b : SPart w2 Ab nb cb lb
  own : wr.ownsRow w2.heap.size 75 1 (.slice Ao no co) no (lo.flatMap rowc)
  len : lo.length = no
  run : lo ++ mergeP la lb = R
  bel : Below w2.heap.size w2 wr
def lenOf : Value → Nat | .slice _ n _ => n | _ => 0

theorem own_weaken {w : World} {base base' : Nat} {e : TypeId} {size n : Nat} {v : Value} {xs : List Value} (h : w.ownsRow base e size v n xs) (hb : base' ≤ base) : w.ownsRow base' e size v n xs := by
  refine ⟨h.1, ?_⟩
  rcases h.2 with h2 | ⟨g, cap, cur, hv, hg, r⟩
  · exact .inl h2
  · exact .inr ⟨g, cap, cur, hv, by omega, r⟩
end Go.Proofs.YtponkkljlbifmaaGreat

namespace Go.Proofs.YtponkkljlbifmaaGreat
open Go.RowKit
set_option maxRecDepth 100000

def keepR (acc : List (List Vl)) (r : List Vl) : Bool := match acc.getLast? with
  | none => true
  | some x => decide (cmpR x r ≠ 0)
def dedup : List (List Vl) → List (List Vl) → List (List Vl)
  | acc, [] => acc
  | acc, r :: l => if keepR acc r then dedup (acc ++ [r]) l else dedup acc l
/-- rows of the call's own -/
def OwnRow (w : World) (base : Nat) (q : RowP) : Prop := w.ownsRow base 67 3 (.slice q.1.1 q.1.2.1 q.1.2.2) q.1.2.1 (q.2.flatMap Vl.cs) ∧ q.2.length = q.1.2.1
theorem OwnRow.ok {w : World} {base : Nat} {q : RowP} (h : OwnRow w base q) : RowOk w q := by
  obtain ⟨f1, f2, f3⟩ := own_forms h.1
  refine ⟨Sl.of_own Vl.cs_len h.2 h.1, f1, f3, ?_⟩
  rcases h.1.2 with ⟨hv, _⟩ | ⟨g, cap, cur, hv, _, _, _, hm, _⟩
  · injection hv with _ _ h3; omega
  · injection hv with _ _ h3; simp only [maxLen] at hm; omega
theorem OwnRow.grown {w w' : World} {base : Nat} {q : RowP} (h : OwnRow w base q) {base' : Nat} {v : Value} {n size : Nat} {xs : List Value} (ho : w.ownsRow base' 75 size v n xs) (hg : w.grownBy w' v.ownBlock) : OwnRow w' base q := by
  refine ⟨own_at h.1 (fun g _ hlt hv => hg.block g hlt (fun e => ?_)), h.2⟩
  rcases h.1.2 with ⟨hq, _⟩ | ⟨g1, cap1, cur1, hq, _, hh1, _⟩
  · rw [hq] at hv; simp [Value.ownBlock] at hv
  · rw [hq] at hv
    simp only [Value.ownBlock, Option.some.injEq] at hv
    rcases ho.2 with ⟨hv2, _⟩ | ⟨g2, cap2, cur2, hv2, _, hh2, _⟩
    · rw [hv2] at e; simp [Value.ownBlock] at e
    · rw [hv2] at e
      simp only [Value.ownBlock, Option.some.injEq] at e
      rw [← hv] at e
      subst e
      rw [hh1] at hh2
      injection hh2 with hh2
      injection hh2 with _ ht
      exact absurd ht (by decide)
theorem OwnRow.below {w w' : World} {base : Nat} {q : RowP} (h : OwnRow w base q) (hb : Below w.heap.size w w') : OwnRow w' base q := ⟨own_at h.1 (fun g _ hlt _ => hb.block g hlt), h.2⟩

structure TState (w1 : World) (R : List (List Vl)) (ps : List RowP) (k : Nat) (qs : List RowP) (Ao : Option Addr) (no co : Nat) (wr : World) : Prop where
  own : wr.ownsRow w1.heap.size 75 1 (.slice Ao no co) no (qs.flatMap rowc)
  len : qs.length = no
  kle : no ≤ k
  rows : ∀ q ∈ qs, OwnRow wr w1.heap.size q
  run : dedup (qs.map (·.2)) ((ps.drop k).map (·.2)) = R
  bel : Below w1.heap.size w1 wr
def SetPost (w : World) (R : List (List Vl)) (e : Ending) (w' : World) : Prop :=
  ∃ (qs : List RowP) (A' : Option Addr) (c' : Nat), e = .returned (.slice A' R.length c') ∧ qs.map (·.2) = R ∧ w'.ownsRow w.heap.size 75 1 (.slice A' R.length c') R.length (qs.flatMap rowc) ∧ (∀ q ∈ qs, OwnRow w' w.heap.size q) ∧ Below w.heap.size w w'
theorem SetPost.rows {w w' : World} {R : List (List Vl)} {e : Ending} (h : SetPost w R e w') : ∃ (qs : List RowP) (A' : Option Addr) (c' : Nat), e = .returned (.slice A' R.length c') ∧ qs.map (·.2) = R ∧ RowsS w' A' R.length qs ∧ Below w.heap.size w w' := by
  obtain ⟨qs, A', c', h1, h2, h3, h4, h5⟩ := h
  exact ⟨qs, A', c', h1, h2, ⟨Sl.of_own (cs := rowc) (fun _ => rfl) (by rw [← h2]; simp) h3, fun q hq => (h4 q hq).ok⟩, h5⟩

end Go.Proofs.YtponkkljlbifmaaGreat

namespace Go.Proofs.YtponkkljlbifmaaGreat
open Go.RowKit
set_option maxRecDepth 100000

def mrgR : List (List Vl) → List (List Vl) → List (List Vl)
  | [], b => b
  | x :: a, [] => x :: a
  | x :: a, y :: b => if cmpR x y ≤ 0 then x :: mrgR a (y :: b) else y :: mrgR (x :: a) b
termination_by a b => a.length + b.length
theorem mrgR_cons (x : List Vl) (a : List (List Vl)) (y : List Vl) (b : List (List Vl)) : mrgR (x :: a) (y :: b) = if cmpR x y ≤ 0 then x :: mrgR a (y :: b) else y :: mrgR (x :: a) b := by rw [mrgR]
def srtR (l : List (List Vl)) : List (List Vl) :=
  if h : l.length < 2 then l else mrgR (srtR (l.take (l.length / 2))) (srtR (l.drop (l.length / 2)))
termination_by l.length
decreasing_by
  · simp; omega
  · simp; omega
def setL (l : List (List Vl)) : List (List Vl) := dedup [] (srtR l)
theorem mrgR_mem : ∀ (a b : List (List Vl)) (r : List Vl), r ∈ mrgR a b ↔ r ∈ a ∨ r ∈ b
  | [], b, r => by simp [mrgR]
  | x :: a, [], r => by simp [mrgR]
  | x :: a, y :: b, r => by
    rw [mrgR_cons]
    split
    · rw [List.mem_cons, mrgR_mem a (y :: b) r]; simp only [List.mem_cons]; grind
    · rw [List.mem_cons, mrgR_mem (x :: a) b r]; simp only [List.mem_cons]; grind
termination_by a b => a.length + b.length
theorem srtR_short {l : List (List Vl)} (h : l.length < 2) : srtR l = l := by rw [srtR]; simp [h]
theorem srtR_long {l : List (List Vl)} (h : 2 ≤ l.length) : srtR l = mrgR (srtR (l.take (l.length / 2))) (srtR (l.drop (l.length / 2))) := by
  rw [srtR, dif_neg (by omega)]
theorem srtR_mem (l : List (List Vl)) (r : List Vl) : r ∈ srtR l ↔ r ∈ l := by
  induction h : l.length using Nat.strongRecOn generalizing l with
  | _ n ih =>
    subst h
    by_cases h2 : l.length < 2
    · rw [srtR_short h2]
    · rw [srtR_long (by omega), mrgR_mem, ih _ (by simp; omega) (l.take (l.length / 2)) rfl, ih _ (by simp; omega) (l.drop (l.length / 2)) rfl]
      rw [← List.mem_append, List.take_append_drop]
theorem dedup_sub : ∀ (l acc : List (List Vl)) (r : List Vl), r ∈ dedup acc l → r ∈ acc ∨ r ∈ l
  | [], acc, r, h => .inl h
  | x :: l, acc, r, h => by
    unfold dedup at h
    split at h
    · rcases dedup_sub l _ r h with h1 | h1
      · rw [List.mem_append, List.mem_singleton] at h1
        rcases h1 with h1 | rfl
        · exact .inl h1
        · exact .inr List.mem_cons_self
      · exact .inr (List.mem_cons_of_mem _ h1)
    · rcases dedup_sub l _ r h with h1 | h1
      · exact .inl h1
      · exact .inr (List.mem_cons_of_mem _ h1)
theorem mrgR_len : ∀ (a b : List (List Vl)), (mrgR a b).length = a.length + b.length
  | [], b => by simp [mrgR]
  | x :: a, [] => by simp [mrgR]
  | x :: a, y :: b => by
    rw [mrgR_cons]
    split
    · rw [List.length_cons, mrgR_len a (y :: b)]; simp; omega
    · rw [List.length_cons, mrgR_len (x :: a) b]; simp; omega
termination_by a b => a.length + b.length
theorem srtR_len (l : List (List Vl)) : (srtR l).length = l.length := by
  induction h : l.length using Nat.strongRecOn generalizing l with
  | _ n ih =>
    subst h
    by_cases h2 : l.length < 2
    · rw [srtR_short h2]
    · rw [srtR_long (by omega), mrgR_len, ih _ (by simp; omega) (l.take (l.length / 2)) rfl, ih _ (by simp; omega) (l.drop (l.length / 2)) rfl]
      simp; omega
theorem dedup_len : ∀ (l acc : List (List Vl)), (dedup acc l).length ≤ acc.length + l.length
  | [], acc => by simp [dedup]
  | x :: l, acc => by
    unfold dedup
    split
    · have := dedup_len l (acc ++ [x]); simp at this ⊢; omega
    · have := dedup_len l acc; simp at this ⊢; omega
theorem setL_len (l : List (List Vl)) : (setL l).length ≤ l.length := by
  have := dedup_len (srtR l) []
  rw [srtR_len] at this
  simpa [setL] using this
theorem setL_sub (l : List (List Vl)) (r : List Vl) (h : r ∈ setL l) : r ∈ l := by
  rcases dedup_sub _ _ r h with h1 | h1
  · simp at h1
  · exact (srtR_mem l r).1 h1
theorem setL_ones (c : List Vl) : ∃ L : List Vl, L.map (fun v => [v]) = setL (c.map fun v => [v]) := by
  refine ⟨(setL (c.map fun v => [v])).map (fun r => r.headD zeroV), ?_⟩
  rw [List.map_map]
  conv => rhs; rw [← List.map_id (setL (c.map fun v => [v]))]
  apply List.map_congr_left
  intro r hr
  have := setL_sub _ r hr
  rw [List.mem_map] at this
  obtain ⟨v, _, rfl⟩ := this
  rfl

end Go.Proofs.YtponkkljlbifmaaGreat

/-
  Plain mathematics: the orders of values and of rows are total; the relation of rows is strictly ascending and has the rows' own members. No program here.
-/
namespace Go.Proofs.YtponkkljlbifmaaGreat
open Go.RowKit
set_option maxRecDepth 100000

theorem cmpR_anti : ∀ a b : List Vl, cmpR b a = - cmpR a b
  | [], [] => by simp [cmpR]
  | [], _ :: _ => by simp [cmpR]
  | _ :: _, [] => by simp [cmpR]
  | x :: a, y :: b => by
    have ih := cmpR_anti a b
    have := cmpV_anti x y
    simp only [cmpR]
    repeat' split
    all_goals omega
theorem cmpR_zero : ∀ a b : List Vl, cmpR a b = 0 ↔ a = b
  | [], [] => by simp [cmpR]
  | [], _ :: _ => by simp [cmpR]
  | _ :: _, [] => by simp [cmpR]
  | x :: a, y :: b => by
    have ih := cmpR_zero a b
    have := cmpV_zero x y
    simp only [cmpR, List.cons.injEq]
    split
    · constructor
      · intro h; omega
      · rintro ⟨h, _⟩; exact absurd (this.2 h) (by omega)
    · rw [ih]
      constructor
      · intro h; exact ⟨this.1 (by omega), h⟩
      · intro h; exact h.2
theorem cmpR_trans : ∀ a b c : List Vl, cmpR a b ≤ 0 → cmpR b c ≤ 0 → cmpR a c ≤ 0
  | [], _, [], _, _ => by simp [cmpR]
  | [], _, _ :: _, _, _ => by simp [cmpR]
  | _ :: _, [], _, h, _ => by simp [cmpR] at h
  | _ :: _, _ :: _, [], _, h => by simp [cmpR] at h
  | x :: a, y :: b, z :: c, h1, h2 => by
    have ih := cmpR_trans a b c
    simp only [cmpR] at h1 h2 ⊢
    have t1 := @cmpV_trans x y z
    have t2 := @cmpV_lt_of_le x y z
    have t3 := @cmpV_lt_of_lt x y z
    repeat' split at h1
    all_goals (repeat' split at h2)
    all_goals (repeat' split)
    all_goals first | (exact ih h1 h2) | omega
theorem cmpR_lt_of_le {a b c : List Vl} (h1 : cmpR a b ≤ 0) (h2 : cmpR b c < 0) : cmpR a c < 0 := by
  rcases Int.lt_or_le (cmpR a c) 0 with h | h
  · exact h
  · have e1 := cmpR_anti a c
    have e2 := cmpR_anti b c
    have := cmpR_trans c a b (by omega) h1
    omega
theorem cmpR_lt_of_lt {a b c : List Vl} (h1 : cmpR a b < 0) (h2 : cmpR b c ≤ 0) : cmpR a c < 0 := by
  rcases Int.lt_or_le (cmpR a c) 0 with h | h
  · exact h
  · have e1 := cmpR_anti a c
    have e2 := cmpR_anti a b
    have := cmpR_trans b c a h2 (by omega)
    omega
theorem cmpR_self (a : List Vl) : cmpR a a = 0 := (cmpR_zero a a).2 rfl

/-- ascending, repetitions allowed -/
abbrev upR (l : List (List Vl)) : Prop := l.Pairwise (fun a b => cmpR a b ≤ 0)
/-- strictly ascending -/
abbrev ascR (l : List (List Vl)) : Prop := l.Pairwise (fun a b => cmpR a b < 0)
theorem mrgR_up : ∀ (a b : List (List Vl)), upR a → upR b → upR (mrgR a b)
  | [], b, _, h => by simpa [mrgR] using h
  | x :: a, [], h, _ => by simpa [mrgR] using h
  | x :: a, y :: b, h1, h2 => by
    rw [mrgR_cons]
    have k1 := List.pairwise_cons.1 h1
    have k2 := List.pairwise_cons.1 h2
    split
    · rename_i hc
      refine List.pairwise_cons.2 ⟨fun r hr => ?_, mrgR_up a (y :: b) k1.2 h2⟩
      rcases (mrgR_mem _ _ _).1 hr with h | h
      · exact k1.1 r h
      · rcases List.mem_cons.1 h with rfl | h
        · exact hc
        · exact cmpR_trans _ _ _ hc (k2.1 r h)
    · rename_i hc
      have hyx : cmpR y x ≤ 0 := by have := cmpR_anti x y; omega
      refine List.pairwise_cons.2 ⟨fun r hr => ?_, mrgR_up (x :: a) b h1 k2.2⟩
      rcases (mrgR_mem _ _ _).1 hr with h | h
      · rcases List.mem_cons.1 h with rfl | h
        · exact hyx
        · exact cmpR_trans _ _ _ hyx (k1.1 r h)
      · exact k2.1 r h
termination_by a b => a.length + b.length
theorem srtR_up (l : List (List Vl)) : upR (srtR l) := by
  induction h : l.length using Nat.strongRecOn generalizing l with
  | _ n ih =>
    subst h
    by_cases h2 : l.length < 2
    · rw [srtR_short h2]
      match l, h2 with
      | [], _ => exact List.Pairwise.nil
      | [x], _ => exact List.pairwise_singleton _ _
    · rw [srtR_long (by omega)]
      exact mrgR_up _ _ (ih _ (by simp; omega) _ rfl) (ih _ (by simp; omega) _ rfl)
theorem keepR_snoc (acc : List (List Vl)) (x r : List Vl) : keepR (acc ++ [x]) r = decide (cmpR x r ≠ 0) := by
  simp [keepR]
theorem dedup_asc : ∀ (l acc : List (List Vl)), ascR acc → upR l → (∀ x ∈ acc, ∀ y ∈ l, cmpR x y ≤ 0) → ascR (dedup acc l) ∧ ∀ r, r ∈ acc ∨ r ∈ l → r ∈ dedup acc l
  | [], acc, h, _, _ => ⟨h, fun r hr => hr.elim id (fun h => by cases h)⟩
  | y :: l, acc, h1, h2, h3 => by
    have k2 := List.pairwise_cons.1 h2
    unfold dedup
    by_cases hk : keepR acc y = true
    · rw [if_pos hk]
      have hlt : ∀ x ∈ acc, cmpR x y < 0 := by
        intro x hx
        have hne : acc ≠ [] := List.ne_nil_of_mem hx
        obtain ⟨acc', z, rfl⟩ : ∃ acc' z, acc = acc' ++ [z] := ⟨_, _, (List.dropLast_concat_getLast hne).symm⟩
        rw [keepR_snoc] at hk
        have hz := h3 z (by simp) y (by simp)
        have hzy : cmpR z y < 0 := by
          have := of_decide_eq_true hk
          omega
        rcases List.mem_append.1 hx with h | h
        · have := (List.pairwise_append.1 h1).2.2 x h z (by simp)
          exact cmpR_lt_of_lt this hz
        · have : x = z := by simpa using h
          rw [this]; exact hzy
      have hasc : ascR (acc ++ [y]) := List.pairwise_append.2 ⟨h1, List.pairwise_singleton _ _, fun a ha b hb => by
        have : b = y := by simpa using hb
        rw [this]; exact hlt a ha⟩
      have ih := dedup_asc l (acc ++ [y]) hasc k2.2 (fun x hx z hz => by
        rcases List.mem_append.1 hx with h | h
        · exact h3 x h z (List.mem_cons_of_mem _ hz)
        · have : x = y := by simpa using h
          rw [this]; exact k2.1 z hz)
      refine ⟨ih.1, fun r hr => ih.2 r ?_⟩
      rcases hr with h | h
      · exact .inl (List.mem_append_left _ h)
      · rcases List.mem_cons.1 h with rfl | h
        · exact .inl (by simp)
        · exact .inr h
    · rw [if_neg hk]
      have ih := dedup_asc l acc h1 k2.2 (fun x hx z hz => h3 x hx z (List.mem_cons_of_mem _ hz))
      refine ⟨ih.1, fun r hr => ih.2 r ?_⟩
      rcases hr with h | h
      · exact .inl h
      · rcases List.mem_cons.1 h with rfl | h
        · left
          by_cases hne : acc = []
          · subst hne; simp [keepR] at hk
          · obtain ⟨acc', z, rfl⟩ : ∃ acc' z, acc = acc' ++ [z] := ⟨_, _, (List.dropLast_concat_getLast hne).symm⟩
            rw [keepR_snoc] at hk
            have : cmpR z r = 0 := by simpa using hk
            rw [← (cmpR_zero z r).1 this]
            simp
        · exact .inr h
theorem setL_asc (l : List (List Vl)) : ascR (setL l) := (dedup_asc (srtR l) [] List.Pairwise.nil (srtR_up l) (fun x h => by cases h)).1
theorem setL_mem (l : List (List Vl)) (r : List Vl) : r ∈ setL l ↔ r ∈ l := by
  constructor
  · exact setL_sub l r
  · intro h
    exact (dedup_asc (srtR l) [] List.Pairwise.nil (srtR_up l) (fun x h => by cases h)).2 r (.inr ((srtR_mem l r).2 h))
/-- strictly ascending lists with the same members are equal -/
theorem ascR_ext : ∀ (a b : List (List Vl)), ascR a → ascR b → (∀ r, r ∈ a ↔ r ∈ b) → a = b
  | [], [], _, _, _ => rfl
  | [], y :: b, _, _, h => absurd ((h y).2 (by simp)) (by simp)
  | x :: a, [], _, _, h => absurd ((h x).1 (by simp)) (by simp)
  | x :: a, y :: b, h1, h2, h => by
    have k1 := List.pairwise_cons.1 h1
    have k2 := List.pairwise_cons.1 h2
    have hxy : x = y := by
      rcases List.mem_cons.1 ((h x).1 (by simp)) with e | e
      · exact e
      · rcases List.mem_cons.1 ((h y).2 (by simp)) with e' | e'
        · exact e'.symm
        · have a1 := k2.1 x e
          have a2 := k1.1 y e'
          have a3 := cmpR_anti x y
          omega
    subst hxy
    congr 1
    refine ascR_ext a b k1.2 k2.2 fun r => ?_
    have hr := h r
    have irr := cmpR_self x
    constructor
    · intro hra
      rcases List.mem_cons.1 (hr.1 (List.mem_cons_of_mem _ hra)) with e | e
      · have := k1.1 r hra
        rw [e] at this
        omega
      · exact e
    · intro hrb
      rcases List.mem_cons.1 (hr.2 (List.mem_cons_of_mem _ hrb)) with e | e
      · have := k2.1 r hrb
        rw [e] at this
        omega
      · exact e
end Go.Proofs.YtponkkljlbifmaaGreat

/-
  Plain data of the layers schema, table and integrity: schemas, states, changes, violations, and what the functions compute of them. No program here.
-/
namespace Go.Proofs.YtponkkljlbifmaaGreat
open Go.RowKit
set_option maxRecDepth 100000
open Pd

/-- a column -/
structure Cm where
  nm : ByteArray
  k : Int
/-- a reference -/
structure Rf where
  cols : List Int
  t : Int
/-- a table -/
structure Tb where
  nm : ByteArray
  cols : List Cm
  key : Int
  refs : List Rf
  chks : List Pd
abbrev Rw := List Vl
/-- a change -/
structure Ch where
  t : Int
  o : Rw
  n : Rw
/-- a violation -/
structure Vo where
  k : Int
  t : Int
  key : Rw
  ix : Int
  deriving DecidableEq

def Tb.kinds (T : Tb) : List Int := T.cols.map Cm.k
def keyT (T : Tb) (r : Rw) : Rw := r.take T.key.toNat
/-- a cell fits a column, in the mode of the server -/
def fitC (v : Vl) (k : Int) : Bool := validV v && decide (v.k = k)
def fitL : Rw → List Int → Bool
  | [], [] => true
  | v :: r, k :: l => fitC v k && fitL r l
  | _, _ => false
def fitsB (T : Tb) (r : Rw) : Bool := fitL r T.kinds
theorem fitL_len : ∀ {r : Rw} {l : List Int}, fitL r l = true → r.length = l.length
  | [], [], _ => rfl
  | _ :: r, _ :: l, h => by
    simp only [fitL, Bool.and_eq_true] at h
    simp [fitL_len h.2]
  | [], _ :: _, h => by simp [fitL] at h
  | _ :: _, [], h => by simp [fitL] at h
/-- the rows of a table, behind a row -/
def rowsB (T : Tb) : Option Rw → List Rw → Bool
  | _, [] => true
  | p, r :: l => fitsB T r && (match p with | none => true | some q => decide (cmpR (keyT T q) (keyT T r) < 0)) && rowsB T (some r) l
def tabsB : List Tb → List (List Rw) → Bool
  | T :: ts, l :: ls => rowsB T none l && tabsB ts ls
  | _, _ => true
def cntS (st : List (List Rw)) : Nat := (st.map List.length).sum
def chkS (tbs : List Tb) (st : List (List Rw)) : Int :=
  if 512 < cntS st then 2 else if st.length ≠ tbs.length then 80 else if tabsB tbs st then 0 else 80

def lowB (b : UInt8) : Bool := decide (97 ≤ b.toNat ∧ b.toNat ≤ 122)
/-- a name of small letters alone -/
def nameB (b : ByteArray) : Bool := decide (1 ≤ b.size ∧ b.size ≤ 32) && b.toList.all lowB
def kindB (k : Int) : Bool := decide (k = 3 ∨ k = 4 ∨ k = 5)
structure GoodT (T : Tb) : Prop where
  nm : nameB T.nm = true
  cn : ∀ c ∈ T.cols, nameB c.nm = true ∧ kindB c.k = true
  cd : (T.cols.map fun c => c.nm.data.toList).Nodup
  k1 : 1 ≤ T.key
  k2 : T.key ≤ (T.cols.length : Int)
  cl : T.cols.length ≤ 8
  rl : T.refs.length ≤ 4
  hl : T.chks.length ≤ 4
  ck : ∀ p ∈ T.chks, checkE T.kinds [] p = 0 ∧ p.nodes ≤ 40
structure GoodRef (tbs : List Tb) (T : Tb) (x : Rf) : Prop where
  t0 : 0 ≤ x.t
  ex : ∃ U, tbs[x.t.toNat]? = some U ∧ (x.cols.length : Int) = U.key ∧ ∀ (i : Nat) (c : Int), x.cols[i]? = some c → 0 ≤ c ∧ ∃ a b, T.cols[c.toNat]? = some a ∧ U.cols[i]? = some b ∧ a.k = b.k
/-- a schema that passes every check -/
structure GoodS (ver : Int) (tbs : List Tb) : Prop where
  v0 : 0 ≤ ver
  v1 : ver ≤ 1000
  ln : tbs.length ≤ 8
  tb : ∀ T ∈ tbs, GoodT T
  nd : (tbs.map fun T => T.nm.data.toList).Nodup
  rf : ∀ T ∈ tbs, ∀ x ∈ T.refs, GoodRef tbs T x

/-- the first row with a key -/
def getT (T : Tb) (l : List Rw) (key : Rw) : Option Rw := l.find? fun r => decide (cmpR (keyT T r) key = 0)
def getS (tbs : List Tb) (st : List (List Rw)) (t : Nat) (key : Rw) : Option Rw := match tbs[t]?, st[t]? with
  | some T, some l => getT T l key
  | _, _ => none
def cellsR (r : Rw) (cs : List Int) : Rw := cs.map fun c => r.getD c.toNat zeroV
/-- the violations of a row: its references, then its checks; wr: is its key written? rm: is a key removed? gt: is there a row with a key? -/
def vRefs (hit : Bool) (rm gt : Int → Rw → Bool) (t : Int) (key r : Rw) : Int → List Rf → List Vo
  | _, [] => []
  | i, x :: l => (if (hit || rm x.t (cellsR r x.cols)) && !gt x.t (cellsR r x.cols) then [⟨1, t, key, i⟩] else []) ++ vRefs hit rm gt t key r (i + 1) l
def vChks (hit : Bool) (t : Int) (key r : Rw) : Int → List Pd → List Vo
  | _, [] => []
  | i, p :: l => (if hit && !holdsB r [] p then [⟨2, t, key, i⟩] else []) ++ vChks hit t key r (i + 1) l
def vRow (wr rm gt : Int → Rw → Bool) (t : Int) (T : Tb) (r : Rw) : List Vo :=
  vRefs (wr t (keyT T r)) rm gt t (keyT T r) r 0 T.refs ++ vChks (wr t (keyT T r)) t (keyT T r) r 0 T.chks
def vRows (wr rm gt : Int → Rw → Bool) (t : Int) (T : Tb) : List Rw → List Vo
  | [] => []
  | r :: l => vRow wr rm gt t T r ++ vRows wr rm gt t T l
def vTabs (wr rm gt : Int → Rw → Bool) : Int → List Tb → List (List Rw) → List Vo
  | t, T :: ts, l :: ls => vRows wr rm gt t T l ++ vTabs wr rm gt (t + 1) ts ls
  | _, _, _ => []
def gtS (tbs : List Tb) (st : List (List Rw)) (t : Int) (key : Rw) : Bool := (getS tbs st t.toNat key).isSome
def vioS (wr rm : Int → Rw → Bool) (tbs : List Tb) (st : List (List Rw)) : List Vo := vTabs wr rm (gtS tbs st) 0 tbs st

def cmpO (a b : Vo) : Int :=
  if cmpI a.t b.t ≠ 0 then cmpI a.t b.t else if cmpR a.key b.key ≠ 0 then cmpR a.key b.key else if cmpI a.k b.k ≠ 0 then cmpI a.k b.k else cmpI a.ix b.ix
end Go.Proofs.YtponkkljlbifmaaGreat

/-
  A call that only lays blocks and draws; value.Compare in these words.
-/
namespace Go.Proofs.YtponkkljlbifmaaGreat
open Go.RowKit
set_option maxRecDepth 100000

/-- nothing that was there has changed, and the draws go on -/
structure Lay (w w' : World) : Prop where
  bel : Below w.heap.size w w'
  dr : w.drawn ≤ w'.drawn
theorem Lay.refl (w : World) : Lay w w := ⟨Below.refl _ _, Nat.le_refl _⟩
theorem Lay.drew {w w' : World} (h : Lay w w') : Lay w w'.drew := ⟨h.bel.drew, Nat.le_succ_of_le h.dr⟩
theorem Lay.alloc {w w' : World} (h : Lay w w') (o : Obj) : Lay w (w'.alloc o) := ⟨h.bel.alloc h.bel.size o, h.dr⟩
theorem Lay.trans {a b c : World} (h : Lay a b) (k : Lay b c) : Lay a c := ⟨Below.next h.bel k.bel, Nat.le_trans h.dr k.dr⟩
set_option maxHeartbeats 400000 in
theorem compareL_any (a b : Vl) (w : World) :
    Calls Tryz.prog 87 #[.agg #[.int .i64 a.k, .int .i64 a.i, .string a.t], .agg #[.int .i64 b.k, .int .i64 b.i, .string b.t]] w fun e w' => e = .returned (.int .i64 (cmpV a b)) ∧ Lay w w' := by
  obtain ⟨k, i, t⟩ := a
  obtain ⟨k', i', t'⟩ := b
  go_enter Tryz.func87, Tryz.ntmps87
  go_wp2_with (first
    | (go_at_call 96; refine (cmpInt_any _ _ _).mono ?_; rintro e w' ⟨rfl, rfl⟩)
    | (go_at_call 114; refine (cmpInt64_any _ _ _).mono ?_; rintro e w' ⟨rfl, rfl⟩)
    | (go_at_call 115; refine (cmpStr_any _ _ _).mono ?_; rintro e w' ⟨rfl, rfl⟩))
  all_goals
    go_ret
    refine ⟨ret_i64 ?_, by repeat (first | exact Lay.refl _ | apply Lay.drew | refine Lay.alloc ?_ _)⟩
    rw [cmpV_of]
    simp_all [cmpI_self, cmpB_self]
end Go.Proofs.YtponkkljlbifmaaGreat

namespace Go.Proofs.YtponkkljlbifmaaGreat
open Go.RowKit
set_option maxRecDepth 100000

theorem entVC : ∀ args w, (callFunc 87 args).run Tryz.prog w = .ok (.enter 87 args) w := Go.Proofs.enters_of Tryz.func87 (by kernel_rfl) rfl
theorem entR : ∀ args w, (callFunc 54 args).run Tryz.prog w = .ok (.enter 54 args) w := Go.Proofs.enters_of Tryz.func54 (by kernel_rfl) rfl
set_option maxRecDepth 100000 in
set_option maxHeartbeats 2000000 in
theorem cmpfunc_any (A B : Option Addr) (n m ca cb : Nat) (a b : List Vl) (w : World) (hA : VlS w A n a) (hB : VlS w B m b) (hn : n ≤ 9223372036854775807) (hm : m ≤ 9223372036854775807) :
    Calls Tryz.prog 86 #[.slice A n ca, .slice B m cb, .func (.func 87) #[] #[]] w fun e w' => e = .returned (.int .i64 (cmpR a b)) ∧ Lay w w' := by
  have HA := Lib.hid hA
  have HB := Lib.hid hB
  have Hla := Lib.hid hA.len
  have Hlb := Lib.hid hB.len
  have hent := entVC
  clear hA hB
  generalize hr : cmpR a b = r
  have HR : Hid (cmpR (a.drop 0) (b.drop 0) = r) := Lib.hid (by simpa using hr)
  clear hr
  go_enter Tryz.func86, Tryz.ntmps86
  go_wp2_with fail
  go_loopw [13] (fun i wr => ∃ k : Nat, k ≤ n ∧ k ≤ m ∧ i = .int .i64 (k : Int) ∧ Hid (cmpR (a.drop k) (b.drop k) = r) ∧ Lay w wr) (fun i _ => n - (intOf i).toNat)
  case atStart => exact ⟨0, by omega, by omega, rfl, HR, Lay.refl _⟩
  case round =>
    obtain ⟨k, hk, hkm, rfl, hinv, hL⟩ := hrel
    by_cases hlt : k < n
    · obtain ⟨b1, o1, x, rfl, hx, hxc⟩ := (HA.out.keep (keeps_of hL.bel)).at hlt
      obtain ⟨xk, xi, xt⟩ := x
      obtain ⟨c0, c1, c2⟩ := VlAt.of hxc
      dsimp only at c0 c1 c2
      by_cases hlm : k < m
      · obtain ⟨b2, o2, y, rfl, hy, hyc⟩ := (HB.out.keep (keeps_of hL.bel)).at hlm
        obtain ⟨yk, yi, yt⟩ := y
        obtain ⟨d0, d1, d2⟩ := VlAt.of hyc
        dsimp only at d0 d1 d2
        have Hst : Hid (r = if cmpV ⟨xk, xi, xt⟩ ⟨yk, yi, yt⟩ ≠ 0 then cmpV ⟨xk, xi, xt⟩ ⟨yk, yi, yt⟩ else cmpR (a.drop (k + 1)) (b.drop (k + 1))) := Lib.hid (by rw [← hinv.out, drop_at hx, drop_at hy]; rfl)
        have e0 := keep_cell (keeps_alloc wr (.cells #[.int .i64 xk, .int .i64 xi, .string xt] 67)) d0
        have e1 := keep_cell (keeps_alloc wr (.cells #[.int .i64 xk, .int .i64 xi, .string xt] 67)) d1
        have e2 := keep_cell (keeps_alloc wr (.cells #[.int .i64 xk, .int .i64 xi, .string xt] 67)) d2
        clear hx hxc hy hyc
        go_wp2_with fail
        refine (compareL_any ⟨xk, xi, xt⟩ ⟨yk, yi, yt⟩ _).mono ?_
        rintro e w2 ⟨rfl, hL2⟩
        have hL3 := ((hL.alloc (.cells #[.int .i64 xk, .int .i64 xi, .string xt] 67)).alloc (.cells #[.int .i64 yk, .int .i64 yi, .string yt] 67)).trans hL2
        obtain ⟨q, Hq⟩ : ∃ q, Hid (cmpV ⟨xk, xi, xt⟩ ⟨yk, yi, yt⟩ = q) := ⟨_, rfl⟩
        rw [Hq.out] at Hst ⊢
        clear c0 c1 c2 d0 d1 d2 e0 e1 e2 hL2
        by_cases hq : q = 0
        · have g0 : (q != 0) = false := by simp [hq]
          have HQ := Lib.hid hq
          clear hq
          go_wp2_with fail
          go_roundw
          case rel => exact ⟨k + 1, by omega, by omega, by go_num, Lib.hid (by rw [Hst.out, if_neg (fun h => h HQ.out)]), hL3⟩
          case measure => simp [intOf]; omega
        · have g0 : (q != 0) = true := by simp [hq]
          have HQ := Lib.hid hq
          clear hq
          go_wp2
          go_ret
          exact ⟨ret_i64 (by rw [Hst.out, if_pos HQ.out]), hL3⟩
      · have Hst : Hid (r = 1) := Lib.hid (by
          rw [← hinv.out, drop_at hx, show b.drop k = [] from List.drop_eq_nil_of_le (by have := Hlb.out; omega)]; rfl)
        clear hx hxc
        go_wp2
        go_ret
        exact ⟨ret_i64 (by rw [Hst.out]), hL.alloc _⟩
    · obtain rfl : k = n := by omega
      by_cases hlm : k < m
      · obtain ⟨b2, o2, y, rfl, hy, hyc⟩ := (HB.out.keep (keeps_of hL.bel)).at hlm
        have Hst : Hid (r = -1) := Lib.hid (by
          rw [← hinv.out, drop_at hy, show a.drop k = [] from List.drop_eq_nil_of_le (by have := Hla.out; omega)]; rfl)
        clear hy hyc
        go_wp2
        go_ret
        exact ⟨ret_i64 (by rw [Hst.out]), hL⟩
      · have Hst : Hid (r = 0) := Lib.hid (by
          rw [← hinv.out, List.drop_eq_nil_of_le (by have := Hla.out; omega), List.drop_eq_nil_of_le (by have := Hlb.out; omega)]; rfl)
        go_wp2
        go_ret
        exact ⟨ret_i64 (by rw [Hst.out]), hL⟩
theorem comprowsL_any (A B : Option Addr) (n m ca cb : Nat) (a b : List Vl) (w : World) (hA : VlS w A n a) (hB : VlS w B m b) (hn : n ≤ 9223372036854775807) (hm : m ≤ 9223372036854775807) :
    Calls Tryz.prog 54 #[.slice A n ca, .slice B m cb] w fun e w' => e = .returned (.int .i64 (cmpR a b)) ∧ Lay w w' := by
  have HA := Lib.hid hA
  have HB := Lib.hid hB
  clear hA hB
  go_enter Tryz.func54, Tryz.ntmps54
  go_wp2_with fail
  refine (cmpfunc_any A B n m ca cb a b _ HA.out HB.out hn hm).mono ?_
  rintro e w2 ⟨rfl, hL2⟩
  go_wp2
  go_ret
  exact ⟨rfl, hL2⟩
end Go.Proofs.YtponkkljlbifmaaGreat

/-
  Rows compared by both sides; a row of a list of rows.
-/
namespace Go.Proofs.YtponkkljlbifmaaGreat
open Go.RowKit
set_option maxRecDepth 100000

theorem RowsS.get2 {w : World} {A : Option Addr} {n : Nat} {ps : List RowP} (h : RowsS w A n ps) {k : Nat} (hk : k < n) : ∃ (b o : Nat) (p : RowP), A = some ⟨b, o, none⟩ ∧ w.cell? ⟨b, o + k, none⟩ = some (.slice p.1.1 p.1.2.1 p.1.2.2) ∧ RowOk w p ∧ ps[k]? = some p := by
  obtain ⟨b, o, p, hA, hp, hc⟩ := h.sl.at hk
  have := hc 0 _ rfl
  rw [Nat.mul_one, Nat.add_zero] at this
  exact ⟨b, o, p, hA, this, h.ok p (List.mem_of_getElem? hp), hp⟩
theorem RowOk.lenle {w : World} {p : RowP} (h : RowOk w p) : p.1.2.1 ≤ 9223372036854775807 := Nat.le_trans h.le h.mx
theorem comp_rows (p q : RowP) (w : World) (hp : RowOk w p) (hq : RowOk w q) : Calls Tryz.prog 54 #[.slice p.1.1 p.1.2.1 p.1.2.2, .slice q.1.1 q.1.2.1 q.1.2.2] w fun e w' => e = .returned (.int .i64 (cmpR p.2 q.2)) ∧ Below w.heap.size w w' :=
  (comprowsL_any p.1.1 q.1.1 p.1.2.1 q.1.2.1 p.1.2.2 q.1.2.2 p.2 q.2 w hp.rd hq.rd hp.lenle hq.lenle).mono fun _ _ ⟨he, hl⟩ => ⟨he, hl.bel⟩
theorem rcomp_rows (p q : RowP) (w : World) (hp : RowOk w p) (hq : RowOk w q) : Calls Tryz.prog 36 #[.slice p.1.1 p.1.2.1 p.1.2.2, .slice q.1.1 q.1.2.1 q.1.2.2] w fun e w' => e = .returned (.int .i64 (cmpR p.2 q.2)) ∧ Below w.heap.size w w' :=
  rcomprows_any p.1.1 q.1.1 p.1.2.1 q.1.2.1 p.1.2.2 q.1.2.2 p.2 q.2 w hp.rd hq.rd hp.lenle hq.lenle
theorem comp_rw (A : Option Addr) (n c : Nat) (r : List Vl) (B : Option Addr) (m d : Nat) (s : List Vl) (w : World) (hp : RowOk w ((A, n, c), r)) (hq : RowOk w ((B, m, d), s)) : Calls Tryz.prog 54 #[.slice A n c, .slice B m d] w fun e w' => e = .returned (.int .i64 (cmpR r s)) ∧ Below w.heap.size w w' := comp_rows ((A, n, c), r) ((B, m, d), s) w hp hq
theorem rcomp_rw (A : Option Addr) (n c : Nat) (r : List Vl) (B : Option Addr) (m d : Nat) (s : List Vl) (w : World) (hp : RowOk w ((A, n, c), r)) (hq : RowOk w ((B, m, d), s)) : Calls Tryz.prog 36 #[.slice A n c, .slice B m d] w fun e w' => e = .returned (.int .i64 (cmpR r s)) ∧ Below w.heap.size w w' := rcomp_rows ((A, n, c), r) ((B, m, d), s) w hp hq
end Go.Proofs.YtponkkljlbifmaaGreat

/-
  The program's region functions that only look at one region: empty, size, few.
-/
namespace Go.Proofs.YtponkkljlbifmaaGreat
open Go.RowKit
set_option maxRecDepth 100000
open Rg

end Go.Proofs.YtponkkljlbifmaaGreat

namespace Go.Proofs.YtponkkljlbifmaaGreat
open Go.RowKit
set_option maxRecDepth 100000

end Go.Proofs.YtponkkljlbifmaaGreat

/-
  The program's region function same: it says whether two regions are the same tree.
-/
namespace Go.Proofs.YtponkkljlbifmaaGreat
open Go.RowKit
set_option maxRecDepth 100000
open Rg

end Go.Proofs.YtponkkljlbifmaaGreat

namespace Go.Proofs.YtponkkljlbifmaaGreat
open Go.RowKit
set_option maxRecDepth 100000

end Go.Proofs.YtponkkljlbifmaaGreat

namespace Go.Proofs.YtponkkljlbifmaaGreat
open Go.RowKit
set_option maxRecDepth 100000

/-- the result of an operation on two lists, and its error -/
def combineL (op : Bool → Bool → Bool) (a b : List Iv) : List Iv × Int :=
  if validL a && validL b then (if (mergeL op a b).length ≤ 64 then (mergeL op a b, 0) else ([], 2)) else ([], 30)

def opU : Bool → Bool → Bool := fun x y => x || y
def opI : Bool → Bool → Bool := fun x y => x && y
def opM : Bool → Bool → Bool := fun x y => x && !y

end Go.Proofs.YtponkkljlbifmaaGreat

/-
  Plain mathematics: the canonical form, as the program's formed looks at it, part by part. No program here.
-/
namespace Go.Proofs.YtponkkljlbifmaaGreat
open Go.RowKit
set_option maxRecDepth 100000
open Rg

def FormF (n : Nat) (r : Rg) : Prop := Form n r ∧ r.fits = true
end Go.Proofs.YtponkkljlbifmaaGreat

/-
  The program's region function formed: it says whether a region has the canonical form of a width.
-/
namespace Go.Proofs.YtponkkljlbifmaaGreat
open Go.RowKit
set_option maxRecDepth 100000
open Rg

end Go.Proofs.YtponkkljlbifmaaGreat

/-
  The program's region functions Valid, Size, Empty.
-/
namespace Go.Proofs.YtponkkljlbifmaaGreat
open Go.RowKit
set_option maxRecDepth 100000
open Rg

/-- a region is canonical, with all limits -/
def OkR (r : Rg) : Prop := 0 ≤ r.w ∧ r.w ≤ 12 ∧ r.size ≤ 64 ∧ FormF r.w.toNat r
open Classical in
noncomputable def okB (r : Rg) : Bool := decide (OkR r)
/-- what an operation that makes a region returns -/
def RgRes (w : World) (r : Rg) (er : Int) (e : Ending) (w' : World) : Prop :=
  ∃ (x : Int) (f : Bool) (A : Option Addr) (n c : Nat), e = .returned (.tuple #[.agg #[.int .i64 x, .bool f, .slice A n c], .int .i64 er]) ∧ RgS w' x f A n c r ∧ Below w.heap.size w w'
def zeroR : Rg := .nil 0 false
end Go.Proofs.YtponkkljlbifmaaGreat
