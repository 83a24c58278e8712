/-
  Texts: Rg, RgComb.
-/
import Derived.Test.YtmnmckblmoalkaaGreatB6
set_option linter.unusedVariables false
/-
  Plain mathematics of regions: trees of parts, which rows they contain, the canonical form and that it is unique. No program here.
-/
namespace Go.Proofs.YtmnmckblmoalkaaGreat
open Go.RowKit
set_option maxRecDepth 100000

/-- a region: its parts one after another, then its width and whether it is full -/
inductive Rg where
  | nil (w : Int) (f : Bool)
  | cons (vs : List Iv) (rest tail : Rg)
  deriving DecidableEq
namespace Rg
def w : Rg → Int
  | nil w _ => w
  | cons _ _ t => t.w
def f : Rg → Bool
  | nil _ f => f
  | cons _ _ t => t.f
def len : Rg → Nat
  | nil _ _ => 0
  | cons _ _ t => t.len + 1
def parts : Rg → List (List Iv × Rg)
  | nil _ _ => []
  | cons vs r t => (vs, r) :: t.parts
def mkR (w : Int) (f : Bool) : List (List Iv × Rg) → Rg
  | [] => nil w f
  | p :: l => cons p.1 p.2 (mkR w f l)
def size : Rg → Nat
  | nil _ _ => 0
  | cons _ r t => 1 + r.size + t.size
def fits : Rg → Bool
  | nil _ _ => true
  | cons vs r t => decide (vs.length ≤ 64) && r.fits && t.fits
def nix (r : Rg) : Bool := !r.f && decide (r.len = 0)
/-- which rows it contains: the first part that contains the first cell decides -/
def den : Rg → List Vl → Bool
  | nil _ f, [] => f
  | nil _ _, _ :: _ => false
  | cons _ _ t, [] => den t []
  | cons vs r t, v :: row => if inL vs v then den r row else den t (v :: row)
/-- the rest behind a first cell -/
def at_ (n : Int) : Rg → Vl → Rg
  | nil _ _, _ => nil n false
  | cons vs r t, v => if inL vs v then r else at_ n t v
theorem len_parts : ∀ r : Rg, r.parts.length = r.len
  | nil _ _ => rfl
  | cons _ _ t => by simp [parts, len, len_parts t]
theorem mk_parts : ∀ r : Rg, mkR r.w r.f r.parts = r
  | nil _ _ => rfl
  | cons _ _ t => by simp only [parts, mkR, w, f, mk_parts t]
theorem w_mk (w : Int) (f : Bool) : ∀ l, (mkR w f l).w = w
  | [] => rfl
  | _ :: l => w_mk w f l
theorem f_mk (w : Int) (f : Bool) : ∀ l, (mkR w f l).f = f
  | [] => rfl
  | _ :: l => f_mk w f l
theorem parts_mk (w : Int) (f : Bool) : ∀ l, (mkR w f l).parts = l
  | [] => rfl
  | p :: l => by simp [mkR, parts, parts_mk w f l]
theorem ext {a b : Rg} (h1 : a.w = b.w) (h2 : a.f = b.f) (h3 : a.parts = b.parts) : a = b := by rw [← mk_parts a, ← mk_parts b, h1, h2, h3]
theorem none_iff (r : Rg) : r.nix = true ↔ r.f = false ∧ r.parts = [] := by
  unfold nix
  rw [← len_parts]
  simp
theorem den_nil : ∀ r : Rg, r.den [] = r.f
  | nil _ _ => rfl
  | cons _ _ t => den_nil t
theorem den_cons (n : Int) (v : Vl) (row : List Vl) : ∀ r : Rg, r.den (v :: row) = (r.at_ n v).den row
  | nil _ _ => by cases row <;> rfl
  | cons vs r t => by
    simp only [den, at_]
    split
    · rfl
    · exact den_cons n v row t
theorem at_spec (n : Int) (v : Vl) : ∀ r : Rg, (∃ p ∈ r.parts, inL p.1 v = true ∧ r.at_ n v = p.2) ∨ (r.at_ n v = nil n false ∧ ∀ p ∈ r.parts, inL p.1 v = false)
  | nil _ _ => .inr ⟨rfl, by simp [parts]⟩
  | cons vs r t => by
    cases h : inL vs v
    · rcases at_spec n v t with ⟨p, hp, h1, h2⟩ | ⟨h1, h2⟩
      · exact .inl ⟨p, List.mem_cons_of_mem _ hp, h1, by simp [at_, h, h2]⟩
      · refine .inr ⟨by simp [at_, h, h1], fun p hp => ?_⟩
        rcases List.mem_cons.1 hp with rfl | hp
        · exact h
        · exact h2 p hp
    · exact .inl ⟨(vs, r), List.mem_cons_self, h, by simp [at_, h]⟩
theorem size_mem {p : List Iv × Rg} : ∀ {r : Rg}, p ∈ r.parts → p.2.size < r.size
  | nil _ _, h => by cases h
  | cons vs r t, h => by
    rcases List.mem_cons.1 h with rfl | h
    · simp only [size]; omega
    · have := size_mem (r := t) h; simp only [size]; omega
theorem fits_mem {p : List Iv × Rg} : ∀ {r : Rg}, r.fits = true → p ∈ r.parts → p.1.length ≤ 64 ∧ p.2.fits = true
  | nil _ _, _, h => by cases h
  | cons vs r t, hf, h => by
    simp only [fits, Bool.and_eq_true, decide_eq_true_eq] at hf
    rcases List.mem_cons.1 h with rfl | h
    · exact ⟨hf.1.1, hf.1.2⟩
    · exact fits_mem hf.2 h
end Rg
open Rg
def lo (l : List Iv) : Vl := match l with | [] => zeroV | x :: _ => x.f
def disj (a b : List Iv) : Prop := ∀ v, validV v = true → inL a v = true → inL b v = false
/-- the canonical form of a width, whatever its size -/
def Form : Nat → Rg → Prop
  | 0, r => r.w = 0 ∧ r.parts = []
  | n + 1, r => r.w = ((n + 1 : Nat) : Int) ∧ r.f = false ∧ (∀ p ∈ r.parts, p.1 ≠ [] ∧ ordFrom none p.1 = true ∧ Form n p.2 ∧ p.2.nix = false) ∧
      r.parts.Pairwise (fun p q => cmpV (lo p.1) (lo q.1) < 0 ∧ disj p.1 q.1 ∧ p.2 ≠ q.2)
theorem Form.width : ∀ {n : Nat} {r : Rg}, Form n r → r.w = (n : Int)
  | 0, _, h => h.1
  | _ + 1, _, h => h.1
theorem form_nil : ∀ n : Nat, Form n (.nil (n : Int) false)
  | 0 => ⟨rfl, rfl⟩
  | n + 1 => ⟨rfl, rfl, (fun p h => by cases h), List.Pairwise.nil⟩
theorem form_nil' (n : Nat) (r : Rg) (h : Form n r) (hn : r.nix = true) : r = .nil (n : Int) false := by
  have := (none_iff r).1 hn
  exact Rg.ext h.width this.1 this.2
theorem Form.at_ {n : Nat} {r : Rg} (h : Form (n + 1) r) (v : Vl) : Form n (r.at_ (n : Int) v) := by
  rcases at_spec (n : Int) v r with ⟨p, hp, _, e⟩ | ⟨e, _⟩
  · rw [e]; exact (h.2.2.1 p hp).2.2.1
  · rw [e]; exact form_nil n
theorem lo_in {l : List Iv} (h : ordFrom none l = true) (hn : l ≠ []) : validV (lo l) = true ∧ inL l (lo l) = true := by
  cases l with
  | nil => exact absurd rfl hn
  | cons x r =>
    rw [ordFrom_cons, Bool.and_eq_true] at h
    have h1 := h.1
    unfold okI at h1
    simp only [Bool.and_eq_true] at h1
    refine ⟨h1.1.1, ?_⟩
    show inL (x :: r) x.f = true
    rw [inL_cons]
    unfold inI
    rw [cmpV_self]
    have h2 := h1.2
    split at h2
    · rename_i ho; simp [ho]
    · rename_i ho
      simp only [Bool.and_eq_true, decide_eq_true_eq] at h2
      simp [h2.2]
/-- parts whose values contain a value are one -/
theorem part_one {L : List (List Iv × Rg)} (h : L.Pairwise (fun p q => cmpV (lo p.1) (lo q.1) < 0 ∧ disj p.1 q.1 ∧ p.2 ≠ q.2)) {p q : List Iv × Rg} (hp : p ∈ L) (hq : q ∈ L) {v : Vl} (hv : validV v = true) (h1 : inL p.1 v = true) (h2 : inL q.1 v = true) : p = q := by
  induction L with
  | nil => cases hp
  | cons x L ih =>
    have k := List.pairwise_cons.1 h
    rcases List.mem_cons.1 hp with rfl | hp'
    · rcases List.mem_cons.1 hq with rfl | hq
      · rfl
      · have := (k.1 q hq).2.1 v hv h1; rw [this] at h2; cases h2
    · rcases List.mem_cons.1 hq with rfl | hq
      · have := (k.1 p hp').2.1 v hv h2; rw [this] at h1; cases h1
      · exact ih k.2 hp' hq
theorem part_rest {L : List (List Iv × Rg)} (h : L.Pairwise (fun p q => cmpV (lo p.1) (lo q.1) < 0 ∧ disj p.1 q.1 ∧ p.2 ≠ q.2)) {p q : List Iv × Rg} (hp : p ∈ L) (hq : q ∈ L) (he : p.2 = q.2) : p = q := by
  induction L with
  | nil => cases hp
  | cons x L ih =>
    have k := List.pairwise_cons.1 h
    rcases List.mem_cons.1 hp with rfl | hp'
    · rcases List.mem_cons.1 hq with rfl | hq
      · rfl
      · exact absurd he (k.1 q hq).2.2
    · rcases List.mem_cons.1 hq with rfl | hq
      · exact absurd he.symm (k.1 p hp').2.2
      · exact ih k.2 hp' hq
/-- a value is in a part exactly if the rest behind it is the part's -/
theorem Form.at_iff {n : Nat} {r : Rg} (h : Form (n + 1) r) {p : List Iv × Rg} (hp : p ∈ r.parts) {v : Vl} (hv : validV v = true) : inL p.1 v = true ↔ r.at_ (n : Int) v = p.2 := by
  constructor
  · intro hin
    rcases at_spec (n : Int) v r with ⟨q, hq, h1, e⟩ | ⟨_, h2⟩
    · rw [e, part_one h.2.2.2 hq hp hv h1 hin]
    · rw [h2 p hp] at hin; cases hin
  · intro he
    rcases at_spec (n : Int) v r with ⟨q, hq, h1, e⟩ | ⟨e, _⟩
    · rw [← part_rest h.2.2.2 hq hp (e.symm.trans he)]; exact h1
    · rw [e] at he
      have := (h.2.2.1 p hp).2.2.2
      rw [← he] at this
      cases this
/-- lists in strict order with the same members are the same -/
theorem asc_parts : ∀ (a b : List (List Iv × Rg)), a.Pairwise (fun p q => cmpV (lo p.1) (lo q.1) < 0) → b.Pairwise (fun p q => cmpV (lo p.1) (lo q.1) < 0) → (∀ p, p ∈ a ↔ p ∈ b) → a = b
  | [], [], _, _, _ => rfl
  | [], y :: b, _, _, h => by have := (h y).2 List.mem_cons_self; cases this
  | x :: a, [], _, _, h => by have := (h x).1 List.mem_cons_self; cases this
  | x :: a, y :: b, ha, hb, h => by
    have ka := List.pairwise_cons.1 ha
    have kb := List.pairwise_cons.1 hb
    have irr : ∀ p : List Iv × Rg, ¬ cmpV (lo p.1) (lo p.1) < 0 := fun p => by rw [cmpV_self]; omega
    have e : x = y := by
      rcases List.mem_cons.1 ((h x).1 List.mem_cons_self) with e | hx
      · exact e
      · rcases List.mem_cons.1 ((h y).2 List.mem_cons_self) with e | hy
        · exact e.symm
        · exact absurd (cmpV_lt_trans (ka.1 y hy) (kb.1 x hx)) (irr x)
    subst e
    rw [asc_parts a b ka.2 kb.2 fun p => ?_]
    constructor
    · intro hp
      rcases List.mem_cons.1 ((h p).1 (List.mem_cons_of_mem _ hp)) with rfl | hp'
      · exact absurd (ka.1 p hp) (irr p)
      · exact hp'
    · intro hp
      rcases List.mem_cons.1 ((h p).2 (List.mem_cons_of_mem _ hp)) with rfl | hp'
      · exact absurd (kb.1 p hp) (irr p)
      · exact hp'
def goodRow (n : Nat) (row : List Vl) : Prop := row.length = n ∧ ∀ v ∈ row, validV v = true
theorem parts_sub {n : Nat} {a b : Rg} (ha : Form (n + 1) a) (hb : Form (n + 1) b) (h : ∀ v, validV v = true → a.at_ (n : Int) v = b.at_ (n : Int) v) {p : List Iv × Rg} (hp : p ∈ a.parts) : p ∈ b.parts := by
  obtain ⟨h1, h2, h3, h4⟩ := ha.2.2.1 p hp
  obtain ⟨l1, l2⟩ := lo_in h2 h1
  have e := (ha.at_iff hp l1).1 l2
  rw [h _ l1] at e
  rcases at_spec (n : Int) (lo p.1) b with ⟨q, hq, q1, q2⟩ | ⟨q1, _⟩
  · have hr : q.2 = p.2 := q2.symm.trans e
    have : q.1 = p.1 := ord_ext (hb.2.2.1 q hq).2.1 h2 fun v hv => by
      have k1 := ha.at_iff hp hv
      have k2 := hb.at_iff hq hv
      rw [← h v hv, hr] at k2
      rw [Bool.eq_iff_iff, k2, k1]
    have : q = p := Prod.ext this hr
    rw [← this]; exact hq
  · rw [q1] at e
    rw [← e] at h4
    cases h4
/-- THE CANONICAL FORM IS UNIQUE -/
theorem form_ext : ∀ (n : Nat) (a b : Rg), Form n a → Form n b → (∀ row, goodRow n row → a.den row = b.den row) → a = b
  | 0, a, b, ha, hb, h => by
    have := h [] ⟨rfl, fun v h => by cases h⟩
    rw [den_nil, den_nil] at this
    exact Rg.ext (ha.1.trans hb.1.symm) this (ha.2.trans hb.2.symm)
  | n + 1, a, b, ha, hb, h => by
    have hat : ∀ v, validV v = true → a.at_ (n : Int) v = b.at_ (n : Int) v := fun v hv =>
      form_ext n _ _ (ha.at_ v) (hb.at_ v) fun row hr => by
        rw [← den_cons, ← den_cons]
        exact h (v :: row) ⟨by simp [hr.1], fun u hu => by
          rcases List.mem_cons.1 hu with rfl | hu
          · exact hv
          · exact hr.2 u hu⟩
    refine Rg.ext (ha.1.trans hb.1.symm) (ha.2.1.trans hb.2.1.symm) ?_
    exact asc_parts _ _ (ha.2.2.2.imp fun h => h.1) (hb.2.2.2.imp fun h => h.1) fun p => ⟨parts_sub ha hb hat, parts_sub hb ha fun v hv => (hat v hv).symm⟩
/-- a region that contains no row is the empty one -/
theorem none_iff_den {n : Nat} {r : Rg} (h : Form n r) : r.nix = true ↔ ∀ row, goodRow n row → r.den row = false := by
  constructor
  · intro hn row hr
    rw [form_nil' n r h hn]
    cases row <;> rfl
  · intro hd
    rw [form_ext n r (.nil (n : Int) false) h (form_nil n) fun row hr => by rw [hd row hr]; cases row <;> rfl]
    rfl
end Go.Proofs.YtmnmckblmoalkaaGreat

/-
  Plain mathematics of regions: the canonical form of an operation on two regions, by the points of their sets. No program here.
-/
namespace Go.Proofs.YtmnmckblmoalkaaGreat
open Go.RowKit
set_option maxRecDepth 100000
open Rg

/-- a value put into an ascending list, once -/
def insV (v : Vl) : List Vl → List Vl
  | [] => [v]
  | x :: l => if cmpV v x < 0 then v :: x :: l else if cmpV v x = 0 then x :: l else x :: insV v l
theorem insV_mem (u v : Vl) : ∀ l : List Vl, u ∈ insV v l ↔ u = v ∨ u ∈ l
  | [] => by simp [insV]
  | x :: l => by
    have ih := insV_mem u v l
    unfold insV
    split
    · simp
    · split
      · rename_i h
        have e := (cmpV_zero v x).1 h
        subst e
        simp
      · simp only [List.mem_cons, ih]
        constructor
        · rintro (h | h | h)
          · exact .inr (.inl h)
          · exact .inl h
          · exact .inr (.inr h)
        · rintro (h | h | h)
          · exact .inr (.inl h)
          · exact .inl h
          · exact .inr (.inr h)
theorem insV_asc (v : Vl) : ∀ l : List Vl, ascV l → ascV (insV v l)
  | [], _ => List.pairwise_singleton _ _
  | x :: l, h => by
    have k := List.pairwise_cons.1 h
    unfold insV
    split
    · rename_i hv
      refine List.pairwise_cons.2 ⟨fun q hq => ?_, h⟩
      rcases List.mem_cons.1 hq with rfl | hq
      · exact hv
      · exact cmpV_lt_trans hv (k.1 q hq)
    · split
      · exact h
      · rename_i h1 h2
        refine List.pairwise_cons.2 ⟨fun q hq => ?_, insV_asc v l k.2⟩
        rcases (insV_mem q v l).1 hq with rfl | hq
        · have := cmpV_anti x q; omega
        · exact k.1 q hq
/-- the values of a list, ascending, each once -/
def sortV (l : List Vl) : List Vl := l.foldr insV []
theorem sortV_spec : ∀ l : List Vl, ascV (sortV l) ∧ ∀ v, v ∈ sortV l ↔ v ∈ l
  | [] => ⟨List.Pairwise.nil, fun v => by simp [sortV]⟩
  | x :: l => by
    obtain ⟨h1, h2⟩ := sortV_spec l
    refine ⟨insV_asc x _ h1, fun v => ?_⟩
    show v ∈ insV x (sortV l) ↔ _
    rw [insV_mem, h2, List.mem_cons]
/-- strictly ascending lists of values with the same members are equal -/
theorem ascV_ext : ∀ (a b : List Vl), ascV a → ascV b → (∀ v, v ∈ a ↔ v ∈ b) → a = b
  | [], [], _, _, _ => rfl
  | [], y :: b, _, _, h => absurd ((h y).2 (by simp)) (by simp)
  | x :: a, [], _, _, h => absurd ((h x).1 (by simp)) (by simp)
  | x :: a, y :: b, h1, h2, h => by
    have k1 := List.pairwise_cons.1 h1
    have k2 := List.pairwise_cons.1 h2
    have hxy : x = y := by
      rcases List.mem_cons.1 ((h x).1 (by simp)) with e | e
      · exact e
      · rcases List.mem_cons.1 ((h y).2 (by simp)) with e' | e'
        · exact e'.symm
        · have a1 := k2.1 x e
          have a2 := k1.1 y e'
          have a3 := cmpV_anti x y
          omega
    subst hxy
    congr 1
    refine ascV_ext a b k1.2 k2.2 fun r => ?_
    have hr := h r
    have irr := cmpV_self x
    constructor
    · intro hra
      rcases List.mem_cons.1 (hr.1 (List.mem_cons_of_mem _ hra)) with e | e
      · have := k1.1 r hra
        rw [e] at this
        omega
      · exact e
    · intro hrb
      rcases List.mem_cons.1 (hr.2 (List.mem_cons_of_mem _ hrb)) with e | e
      · have := k2.1 r hrb
        rw [e] at this
        omega
      · exact e
/-- the points of some lists, ascending -/
def ptsAll (ls : List (List Iv)) : List Vl := sortV (ls.flatMap ptsL)
theorem ptsAll_spec (ls : List (List Iv)) : ascV (ptsAll ls) ∧ ∀ v, v ∈ ptsAll ls ↔ ∃ l ∈ ls, v ∈ ptsL l := by
  obtain ⟨h1, h2⟩ := sortV_spec (ls.flatMap ptsL)
  exact ⟨h1, fun v => by rw [ptsAll, h2, List.mem_flatMap]⟩
def valsOf (r : Rg) : List (List Iv) := r.parts.map (·.1)
def ptsOf (a b : Rg) : List Vl := ptsAll (valsOf a ++ valsOf b)
/-- the regions of a list that are not empty, each once, in the order in which they first appear -/
def uniq : List Rg → List Rg
  | [] => []
  | r :: l => if r.nix then uniq l else r :: (uniq l).filter (fun s => decide (s ≠ r))
theorem uniq_mem (s : Rg) : ∀ l : List Rg, s ∈ uniq l ↔ s ∈ l ∧ s.nix = false
  | [] => by simp [uniq]
  | r :: l => by
    have ih := uniq_mem s l
    unfold uniq
    split
    · rename_i h
      rw [ih, List.mem_cons]
      constructor
      · rintro ⟨h1, h2⟩; exact ⟨.inr h1, h2⟩
      · rintro ⟨rfl | h1, h2⟩
        · rw [h] at h2; cases h2
        · exact ⟨h1, h2⟩
    · rename_i h
      simp only [List.mem_cons, List.mem_filter, ih, decide_eq_true_eq]
      constructor
      · rintro (rfl | ⟨⟨h1, h2⟩, _⟩)
        · exact ⟨.inl rfl, by simpa using h⟩
        · exact ⟨.inr h1, h2⟩
      · rintro ⟨rfl | h1, h2⟩
        · exact .inl rfl
        · by_cases e : s = r
          · exact .inl e
          · exact .inr ⟨⟨h1, h2⟩, e⟩
theorem uniq_nodup : ∀ l : List Rg, (uniq l).Nodup
  | [] => List.nodup_nil
  | r :: l => by
    unfold uniq
    split
    · exact uniq_nodup l
    · refine List.nodup_cons.2 ⟨fun h => ?_, (uniq_nodup l).filter _⟩
      simp at h
theorem uniq_snoc (r : Rg) : ∀ l : List Rg, uniq (l ++ [r]) = if r.nix || decide (r ∈ uniq l) then uniq l else uniq l ++ [r]
  | [] => by
    simp only [List.nil_append, uniq]
    cases r.nix <;> simp
  | x :: l => by
    have ih := uniq_snoc r l
    rw [List.cons_append]
    unfold uniq
    by_cases hx : x.nix = true
    · rw [if_pos hx, if_pos hx]
      exact ih
    · rw [if_neg hx, if_neg hx, ih]
      by_cases hr : r.nix = true
      · simp [hr]
      · by_cases e : r = x
        · subst e
          by_cases hm : r ∈ uniq l
          · simp [hm]
          · simp [hr, hm, List.filter_append]
        · by_cases hm : r ∈ uniq l
          · simp [hr, hm, e]
          · simp [hr, hm, e, List.filter_append]
/-- the values at which a function has a result, as intervals between the points -/
def valsAt (ro : Vl → Rg) (P : List Vl) (r : Rg) : List Iv := ivsOf (chg (fun p => decide (ro p = r)) false P)
def partsAt (ro : Vl → Rg) (P : List Vl) : List (List Iv × Rg) := (uniq (P.map ro)).map fun r => (valsAt ro P r, r)
/-- THE CANONICAL FORM OF AN OPERATION, by width -/
def comb (op : Bool → Bool → Bool) : Nat → Rg → Rg → Rg
  | 0, a, b => .nil 0 (op a.f b.f)
  | n + 1, a, b => mkR ((n + 1 : Nat) : Int) false (partsAt (fun p => comb op n (a.at_ (n : Int) p) (b.at_ (n : Int) p)) (ptsOf a b))
theorem chg_first (g : Vl → Bool) : ∀ (P : List Vl) (x : Vl), P.find? g = some x → ∃ Q, chg g false P = x :: Q
  | [], x, h => by cases h
  | p :: P, x, h => by
    rw [List.find?_cons] at h
    cases hg : g p
    · rw [hg] at h
      obtain ⟨Q, hQ⟩ := chg_first g P x h
      exact ⟨Q, by rw [chg, if_pos hg, hQ]⟩
    · rw [hg] at h
      injection h with h
      subst h
      exact ⟨_, by rw [chg, if_neg (by rw [hg]; simp)]⟩
theorem lo_vals {ro : Vl → Rg} {P : List Vl} {r : Rg} {x : Vl} (h : P.find? (fun p => decide (ro p = r)) = some x) : valsAt ro P r ≠ [] ∧ lo (valsAt ro P r) = x := by
  obtain ⟨Q, hQ⟩ := chg_first _ P x h
  unfold valsAt
  rw [hQ]
  cases Q with
  | nil => exact ⟨by simp [ivsOf], rfl⟩
  | cons y Q => exact ⟨by simp [ivsOf], rfl⟩
theorem find_of_mem {ro : Vl → Rg} {P : List Vl} {r : Rg} (h : r ∈ uniq (P.map ro)) : ∃ x, P.find? (fun p => decide (ro p = r)) = some x := by
  obtain ⟨h1, _⟩ := (uniq_mem r _).1 h
  obtain ⟨p, hp, rfl⟩ := List.mem_map.1 h1
  have : (P.find? (fun q => decide (ro q = ro p))).isSome = true := List.find?_isSome.2 ⟨p, hp, by simp⟩
  exact Option.isSome_iff_exists.1 this
theorem uniq_order (ro : Vl → Rg) : ∀ P : List Vl, ascV P → (uniq (P.map ro)).Pairwise (fun r s => ∀ x y, P.find? (fun p => decide (ro p = r)) = some x → P.find? (fun p => decide (ro p = s)) = some y → cmpV x y < 0)
  | [], _ => List.Pairwise.nil
  | p :: P, h => by
    have k := List.pairwise_cons.1 h
    have ih := uniq_order ro P k.2
    rw [List.map_cons]
    unfold uniq
    have skip : ∀ s, ro p ≠ s → (p :: P).find? (fun q => decide (ro q = s)) = P.find? (fun q => decide (ro q = s)) := fun s hs => by
      rw [List.find?_cons, decide_eq_false hs]
    split
    · rename_i hn
      refine ih.imp_of_mem fun {r s} hr hs hrs x y hx hy => ?_
      have hr2 := ((uniq_mem r _).1 hr).2
      have hs2 := ((uniq_mem s _).1 hs).2
      rw [skip r (fun e => by rw [e, hr2] at hn; cases hn)] at hx
      rw [skip s (fun e => by rw [e, hs2] at hn; cases hn)] at hy
      exact hrs x y hx hy
    · refine List.pairwise_cons.2 ⟨fun s hs x y hx hy => ?_, ?_⟩
      · have hs' : s ≠ ro p := by simpa using (List.mem_filter.1 hs).2
        rw [List.find?_cons] at hx
        simp only [decide_true, Option.some.injEq] at hx
        subst hx
        rw [skip s (Ne.symm hs')] at hy
        exact k.1 y (List.mem_of_find?_eq_some hy)
      · refine (ih.filter _).imp_of_mem fun {r s} hr hs hrs x y hx hy => ?_
        have hr' : r ≠ ro p := by simpa using (List.mem_filter.1 hr).2
        have hs' : s ≠ ro p := by simpa using (List.mem_filter.1 hs).2
        rw [skip r (Ne.symm hr')] at hx
        rw [skip s (Ne.symm hs')] at hy
        exact hrs x y hx hy
theorem in_vals {ro : Vl → Rg} {P : List Vl} (h : ascV P) (r : Rg) (v : Vl) : inL (valsAt ro P r) v = match lastLe P v with | none => false | some u => decide (ro u = r) := by
  unfold valsAt
  rw [in_ivs v _ (chg_asc _ _ _ h)]
  have := chg_par (fun p => decide (ro p = r)) v P false h
  rw [Bool.false_xor] at this
  rw [this]
  cases lastLe P v <;> rfl
theorem ord_vals {ro : Vl → Rg} {P : List Vl} (h : ascV P) (hv : ∀ v ∈ P, validV v = true) (r : Rg) : ordFrom none (valsAt ro P r) = true :=
  ord_ivs _ _ (chg_asc _ _ _ h) (fun v hm => hv v ((chg_sub _ _ _).1 v hm)) (fun y h => by cases h)
theorem form_parts {n : Nat} {ro : Vl → Rg} {P : List Vl} (h : ascV P) (hv : ∀ v ∈ P, validV v = true) (hr : ∀ p ∈ P, Form n (ro p)) : Form (n + 1) (mkR ((n + 1 : Nat) : Int) false (partsAt ro P)) := by
  refine ⟨w_mk _ _ _, f_mk _ _ _, fun p hp => ?_, ?_⟩
  · rw [parts_mk] at hp
    obtain ⟨r, hm, rfl⟩ := List.mem_map.1 hp
    obtain ⟨x, hx⟩ := find_of_mem hm
    obtain ⟨h1, h2⟩ := (uniq_mem r _).1 hm
    obtain ⟨q, hq, rfl⟩ := List.mem_map.1 h1
    exact ⟨(lo_vals hx).1, ord_vals h hv _, hr q hq, h2⟩
  · rw [parts_mk]
    unfold partsAt
    rw [List.pairwise_map]
    have h1 := uniq_order ro P h
    have h2 := uniq_nodup (P.map ro)
    refine (h1.and h2).imp_of_mem fun {r s} hr hs ⟨k1, k2⟩ => ?_
    obtain ⟨x, hx⟩ := find_of_mem hr
    obtain ⟨y, hy⟩ := find_of_mem hs
    refine ⟨?_, fun v _ hin => ?_, k2⟩
    · show cmpV (lo (valsAt ro P r)) (lo (valsAt ro P s)) < 0
      rw [(lo_vals hx).2, (lo_vals hy).2]
      exact k1 x y hx hy
    · show inL (valsAt ro P s) v = false
      have hin' : inL (valsAt ro P r) v = true := hin
      rw [in_vals h] at hin' ⊢
      cases hl : lastLe P v with
      | none => rfl
      | some u =>
        rw [hl] at hin'
        simp only [decide_eq_true_eq] at hin'
        simp only [decide_eq_false_iff_not]
        rw [hin']
        exact k2
theorem at_parts {n : Nat} {ro : Vl → Rg} {P : List Vl} (h : ascV P) (hr : ∀ p ∈ P, Form n (ro p)) (v : Vl) : (mkR ((n + 1 : Nat) : Int) false (partsAt ro P)).at_ (n : Int) v = match lastLe P v with | none => .nil (n : Int) false | some u => ro u := by
  rcases at_spec (n : Int) v (mkR ((n + 1 : Nat) : Int) false (partsAt ro P)) with ⟨p, hp, h1, h2⟩ | ⟨h1, h2⟩
  · rw [parts_mk] at hp
    obtain ⟨r, hm, rfl⟩ := List.mem_map.1 hp
    rw [h2]
    have h1' : inL (valsAt ro P r) v = true := h1
    rw [in_vals h] at h1'
    cases hl : lastLe P v with
    | none => rw [hl] at h1'; cases h1'
    | some u =>
      rw [hl] at h1'
      simp only [decide_eq_true_eq] at h1'
      exact h1'.symm
  · rw [h1]
    cases hl : lastLe P v with
    | none => rfl
    | some u =>
      have hu := (lastLe_some h u hl).1
      cases hn : (ro u).nix
      · have := h2 (valsAt ro P (ro u), ro u) (by rw [parts_mk]; exact List.mem_map.2 ⟨ro u, (uniq_mem _ _).2 ⟨List.mem_map.2 ⟨u, hu, rfl⟩, hn⟩, rfl⟩)
        have h3 : inL (valsAt ro P (ro u)) v = false := this
        rw [in_vals h, hl] at h3
        simp at h3
      · exact (form_nil' n _ (hr u hu) hn).symm
theorem in_last {l : List Iv} {P : List Vl} (ho : ordFrom none l = true) (hP : ascV P) (hs : ∀ q ∈ ptsL l, q ∈ P) (v : Vl) : inL l v = match lastLe P v with | none => false | some u => inL l u := by
  obtain ⟨a1, a2, _, _⟩ := ord_pts l none ho
  have ia : ∀ v, inL l v = par (ptsL l) v := fun v => by rw [← in_ivs v _ a2, a1]
  rw [ia v, par_last hP hs v]
  cases lastLe P v with
  | none => rfl
  | some u => exact (ia u).symm
theorem at_last (n : Int) {P : List Vl} (hP : ascV P) (v : Vl) : ∀ r : Rg, (∀ p ∈ r.parts, ordFrom none p.1 = true ∧ ∀ q ∈ ptsL p.1, q ∈ P) → r.at_ n v = match lastLe P v with | none => .nil n false | some u => r.at_ n u
  | .nil _ _, _ => by cases lastLe P v <;> rfl
  | .cons vs r t, h => by
    have h1 := h (vs, r) List.mem_cons_self
    have ih := at_last n hP v t (fun p hp => h p (List.mem_cons_of_mem _ hp))
    simp only [Rg.at_]
    rw [in_last h1.1 hP h1.2 v, ih]
    cases lastLe P v with
    | none => rfl
    | some u => rfl
theorem pts_of {n : Nat} {a b : Rg} (ha : Form (n + 1) a) (hb : Form (n + 1) b) : ascV (ptsOf a b) ∧ (∀ v ∈ ptsOf a b, validV v = true) ∧ (∀ p ∈ a.parts, ordFrom none p.1 = true ∧ ∀ q ∈ ptsL p.1, q ∈ ptsOf a b) ∧ (∀ p ∈ b.parts, ordFrom none p.1 = true ∧ ∀ q ∈ ptsL p.1, q ∈ ptsOf a b) := by
  obtain ⟨h1, h2⟩ := ptsAll_spec (valsOf a ++ valsOf b)
  refine ⟨h1, fun v hv => ?_, fun p hp => ⟨(ha.2.2.1 p hp).2.1, fun q hq => (h2 q).2 ⟨p.1, List.mem_append.2 (.inl (List.mem_map.2 ⟨p, hp, rfl⟩)), hq⟩⟩, fun p hp => ⟨(hb.2.2.1 p hp).2.1, fun q hq => (h2 q).2 ⟨p.1, List.mem_append.2 (.inr (List.mem_map.2 ⟨p, hp, rfl⟩)), hq⟩⟩⟩
  obtain ⟨l, hl, hvl⟩ := (h2 v).1 hv
  rw [List.mem_append] at hl
  have : ordFrom none l = true := by
    rcases hl with hl | hl
    · obtain ⟨p, hp, rfl⟩ := List.mem_map.1 hl; exact (ha.2.2.1 p hp).2.1
    · obtain ⟨p, hp, rfl⟩ := List.mem_map.1 hl; exact (hb.2.2.1 p hp).2.1
  exact (ord_pts l none this).2.2.1 v hvl
theorem comb_form (op : Bool → Bool → Bool) : ∀ (n : Nat) (a b : Rg), Form n a → Form n b → Form n (comb op n a b)
  | 0, _, _, _, _ => ⟨rfl, rfl⟩
  | n + 1, a, b, ha, hb => by
    obtain ⟨h1, h2, _, _⟩ := pts_of ha hb
    exact form_parts h1 h2 fun p _ => comb_form op n _ _ (ha.at_ p) (hb.at_ p)
theorem comb_den (op : Bool → Bool → Bool) (hop : op false false = false) : ∀ (n : Nat) (a b : Rg), Form n a → Form n b → ∀ row, row.length = n → (comb op n a b).den row = op (a.den row) (b.den row)
  | 0, a, b, _, _, row, hr => by
    obtain rfl := List.eq_nil_of_length_eq_zero hr
    rw [den_nil, den_nil, den_nil]
    rfl
  | n + 1, a, b, ha, hb, row, hr => by
    obtain ⟨h1, _, h3, h4⟩ := pts_of ha hb
    cases row with
    | nil => cases hr
    | cons v row =>
      have hr' : row.length = n := by simpa using hr
      rw [den_cons (n : Int), den_cons (n : Int) v row a, den_cons (n : Int) v row b, comb, at_parts h1 (fun p _ => comb_form op n _ _ (ha.at_ p) (hb.at_ p)) v, at_last (n : Int) h1 v a h3, at_last (n : Int) h1 v b h4]
      cases lastLe (ptsOf a b) v with
      | none =>
        have : ∀ row : List Vl, (Rg.nil (n : Int) false).den row = false := fun row => by cases row <;> rfl
        simp only [this]
        exact hop.symm
      | some u => exact comb_den op hop n _ _ (ha.at_ u) (hb.at_ u) row hr'
end Go.Proofs.YtmnmckblmoalkaaGreat
