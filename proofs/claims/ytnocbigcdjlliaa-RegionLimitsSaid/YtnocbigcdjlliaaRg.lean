/-
  Plain mathematics of regions: trees of parts, which rows they contain, the canonical form and that it is unique. No program here.
-/
import Derived.Test.YtnocbigcdjlliaaAlgP
namespace Go.Proofs.Ytnocbigcdjlliaa
open Go.RowKit

/-- a region: its parts one after another, then its width and whether it is full -/
inductive Rg where
  | nil (w : Int) (f : Bool)
  | cons (vs : List Iv) (rest tail : Rg)
  deriving DecidableEq
namespace Rg
def w : Rg → Int
  | nil w _ => w
  | cons _ _ t => t.w
def f : Rg → Bool
  | nil _ f => f
  | cons _ _ t => t.f
def len : Rg → Nat
  | nil _ _ => 0
  | cons _ _ t => t.len + 1
def parts : Rg → List (List Iv × Rg)
  | nil _ _ => []
  | cons vs r t => (vs, r) :: t.parts
def mkR (w : Int) (f : Bool) : List (List Iv × Rg) → Rg
  | [] => nil w f
  | p :: l => cons p.1 p.2 (mkR w f l)
def size : Rg → Nat
  | nil _ _ => 0
  | cons _ r t => 1 + r.size + t.size
def fits : Rg → Bool
  | nil _ _ => true
  | cons vs r t => decide (vs.length ≤ 64) && r.fits && t.fits
def nix (r : Rg) : Bool := !r.f && decide (r.len = 0)
/-- which rows it contains: the first part that contains the first cell decides -/
def den : Rg → List Vl → Bool
  | nil _ f, [] => f
  | nil _ _, _ :: _ => false
  | cons _ _ t, [] => den t []
  | cons vs r t, v :: row => if inL vs v then den r row else den t (v :: row)
/-- the rest behind a first cell -/
def at_ (n : Int) : Rg → Vl → Rg
  | nil _ _, _ => nil n false
  | cons vs r t, v => if inL vs v then r else at_ n t v
theorem len_parts : ∀ r : Rg, r.parts.length = r.len
  | nil _ _ => rfl
  | cons _ _ t => by simp [parts, len, len_parts t]
theorem mk_parts : ∀ r : Rg, mkR r.w r.f r.parts = r
  | nil _ _ => rfl
  | cons _ _ t => by simp only [parts, mkR, w, f, mk_parts t]
theorem w_mk (w : Int) (f : Bool) : ∀ l, (mkR w f l).w = w
  | [] => rfl
  | _ :: l => w_mk w f l
theorem f_mk (w : Int) (f : Bool) : ∀ l, (mkR w f l).f = f
  | [] => rfl
  | _ :: l => f_mk w f l
theorem parts_mk (w : Int) (f : Bool) : ∀ l, (mkR w f l).parts = l
  | [] => rfl
  | p :: l => by simp [mkR, parts, parts_mk w f l]
theorem ext {a b : Rg} (h1 : a.w = b.w) (h2 : a.f = b.f) (h3 : a.parts = b.parts) : a = b := by rw [← mk_parts a, ← mk_parts b, h1, h2, h3]
theorem none_iff (r : Rg) : r.nix = true ↔ r.f = false ∧ r.parts = [] := by
  unfold nix
  rw [← len_parts]
  simp
theorem den_nil : ∀ r : Rg, r.den [] = r.f
  | nil _ _ => rfl
  | cons _ _ t => den_nil t
theorem den_cons (n : Int) (v : Vl) (row : List Vl) : ∀ r : Rg, r.den (v :: row) = (r.at_ n v).den row
  | nil _ _ => by cases row <;> rfl
  | cons vs r t => by
    simp only [den, at_]
    split
    · rfl
    · exact den_cons n v row t
theorem at_spec (n : Int) (v : Vl) : ∀ r : Rg, (∃ p ∈ r.parts, inL p.1 v = true ∧ r.at_ n v = p.2) ∨ (r.at_ n v = nil n false ∧ ∀ p ∈ r.parts, inL p.1 v = false)
  | nil _ _ => .inr ⟨rfl, by simp [parts]⟩
  | cons vs r t => by
    cases h : inL vs v
    · rcases at_spec n v t with ⟨p, hp, h1, h2⟩ | ⟨h1, h2⟩
      · exact .inl ⟨p, List.mem_cons_of_mem _ hp, h1, by simp [at_, h, h2]⟩
      · refine .inr ⟨by simp [at_, h, h1], fun p hp => ?_⟩
        rcases List.mem_cons.1 hp with rfl | hp
        · exact h
        · exact h2 p hp
    · exact .inl ⟨(vs, r), List.mem_cons_self, h, by simp [at_, h]⟩
theorem size_mem {p : List Iv × Rg} : ∀ {r : Rg}, p ∈ r.parts → p.2.size < r.size
  | nil _ _, h => by cases h
  | cons vs r t, h => by
    rcases List.mem_cons.1 h with rfl | h
    · simp only [size]; omega
    · have := size_mem (r := t) h; simp only [size]; omega
theorem fits_mem {p : List Iv × Rg} : ∀ {r : Rg}, r.fits = true → p ∈ r.parts → p.1.length ≤ 64 ∧ p.2.fits = true
  | nil _ _, _, h => by cases h
  | cons vs r t, hf, h => by
    simp only [fits, Bool.and_eq_true, decide_eq_true_eq] at hf
    rcases List.mem_cons.1 h with rfl | h
    · exact ⟨hf.1.1, hf.1.2⟩
    · exact fits_mem hf.2 h
end Rg
open Rg
def lo (l : List Iv) : Vl := match l with | [] => zeroV | x :: _ => x.f
def disj (a b : List Iv) : Prop := ∀ v, validV v = true → inL a v = true → inL b v = false
/-- the canonical form of a width, whatever its size -/
def Form : Nat → Rg → Prop
  | 0, r => r.w = 0 ∧ r.parts = []
  | n + 1, r => r.w = ((n + 1 : Nat) : Int) ∧ r.f = false ∧ (∀ p ∈ r.parts, p.1 ≠ [] ∧ ordFrom none p.1 = true ∧ Form n p.2 ∧ p.2.nix = false) ∧
      r.parts.Pairwise (fun p q => cmpV (lo p.1) (lo q.1) < 0 ∧ disj p.1 q.1 ∧ p.2 ≠ q.2)
theorem Form.width : ∀ {n : Nat} {r : Rg}, Form n r → r.w = (n : Int)
  | 0, _, h => h.1
  | _ + 1, _, h => h.1
theorem form_nil : ∀ n : Nat, Form n (.nil (n : Int) false)
  | 0 => ⟨rfl, rfl⟩
  | n + 1 => ⟨rfl, rfl, (fun p h => by cases h), List.Pairwise.nil⟩
theorem form_nil' (n : Nat) (r : Rg) (h : Form n r) (hn : r.nix = true) : r = .nil (n : Int) false := by
  have := (none_iff r).1 hn
  exact Rg.ext h.width this.1 this.2
theorem Form.at_ {n : Nat} {r : Rg} (h : Form (n + 1) r) (v : Vl) : Form n (r.at_ (n : Int) v) := by
  rcases at_spec (n : Int) v r with ⟨p, hp, _, e⟩ | ⟨e, _⟩
  · rw [e]; exact (h.2.2.1 p hp).2.2.1
  · rw [e]; exact form_nil n
theorem lo_in {l : List Iv} (h : ordFrom none l = true) (hn : l ≠ []) : validV (lo l) = true ∧ inL l (lo l) = true := by
  cases l with
  | nil => exact absurd rfl hn
  | cons x r =>
    rw [ordFrom_cons, Bool.and_eq_true] at h
    have h1 := h.1
    unfold okI at h1
    simp only [Bool.and_eq_true] at h1
    refine ⟨h1.1.1, ?_⟩
    show inL (x :: r) x.f = true
    rw [inL_cons]
    unfold inI
    rw [cmpV_self]
    have h2 := h1.2
    split at h2
    · rename_i ho; simp [ho]
    · rename_i ho
      simp only [Bool.and_eq_true, decide_eq_true_eq] at h2
      simp [h2.2]
/-- parts whose values contain a value are one -/
theorem part_one {L : List (List Iv × Rg)} (h : L.Pairwise (fun p q => cmpV (lo p.1) (lo q.1) < 0 ∧ disj p.1 q.1 ∧ p.2 ≠ q.2)) {p q : List Iv × Rg} (hp : p ∈ L) (hq : q ∈ L) {v : Vl} (hv : validV v = true) (h1 : inL p.1 v = true) (h2 : inL q.1 v = true) : p = q := by
  induction L with
  | nil => cases hp
  | cons x L ih =>
    have k := List.pairwise_cons.1 h
    rcases List.mem_cons.1 hp with rfl | hp'
    · rcases List.mem_cons.1 hq with rfl | hq
      · rfl
      · have := (k.1 q hq).2.1 v hv h1; rw [this] at h2; cases h2
    · rcases List.mem_cons.1 hq with rfl | hq
      · have := (k.1 p hp').2.1 v hv h2; rw [this] at h1; cases h1
      · exact ih k.2 hp' hq
theorem part_rest {L : List (List Iv × Rg)} (h : L.Pairwise (fun p q => cmpV (lo p.1) (lo q.1) < 0 ∧ disj p.1 q.1 ∧ p.2 ≠ q.2)) {p q : List Iv × Rg} (hp : p ∈ L) (hq : q ∈ L) (he : p.2 = q.2) : p = q := by
  induction L with
  | nil => cases hp
  | cons x L ih =>
    have k := List.pairwise_cons.1 h
    rcases List.mem_cons.1 hp with rfl | hp'
    · rcases List.mem_cons.1 hq with rfl | hq
      · rfl
      · exact absurd he (k.1 q hq).2.2
    · rcases List.mem_cons.1 hq with rfl | hq
      · exact absurd he.symm (k.1 p hp').2.2
      · exact ih k.2 hp' hq
/-- a value is in a part exactly if the rest behind it is the part's -/
theorem Form.at_iff {n : Nat} {r : Rg} (h : Form (n + 1) r) {p : List Iv × Rg} (hp : p ∈ r.parts) {v : Vl} (hv : validV v = true) : inL p.1 v = true ↔ r.at_ (n : Int) v = p.2 := by
  constructor
  · intro hin
    rcases at_spec (n : Int) v r with ⟨q, hq, h1, e⟩ | ⟨_, h2⟩
    · rw [e, part_one h.2.2.2 hq hp hv h1 hin]
    · rw [h2 p hp] at hin; cases hin
  · intro he
    rcases at_spec (n : Int) v r with ⟨q, hq, h1, e⟩ | ⟨e, _⟩
    · rw [← part_rest h.2.2.2 hq hp (e.symm.trans he)]; exact h1
    · rw [e] at he
      have := (h.2.2.1 p hp).2.2.2
      rw [← he] at this
      cases this
/-- lists in strict order with the same members are the same -/
theorem asc_parts : ∀ (a b : List (List Iv × Rg)), a.Pairwise (fun p q => cmpV (lo p.1) (lo q.1) < 0) → b.Pairwise (fun p q => cmpV (lo p.1) (lo q.1) < 0) → (∀ p, p ∈ a ↔ p ∈ b) → a = b
  | [], [], _, _, _ => rfl
  | [], y :: b, _, _, h => by have := (h y).2 List.mem_cons_self; cases this
  | x :: a, [], _, _, h => by have := (h x).1 List.mem_cons_self; cases this
  | x :: a, y :: b, ha, hb, h => by
    have ka := List.pairwise_cons.1 ha
    have kb := List.pairwise_cons.1 hb
    have irr : ∀ p : List Iv × Rg, ¬ cmpV (lo p.1) (lo p.1) < 0 := fun p => by rw [cmpV_self]; omega
    have e : x = y := by
      rcases List.mem_cons.1 ((h x).1 List.mem_cons_self) with e | hx
      · exact e
      · rcases List.mem_cons.1 ((h y).2 List.mem_cons_self) with e | hy
        · exact e.symm
        · exact absurd (cmpV_lt_trans (ka.1 y hy) (kb.1 x hx)) (irr x)
    subst e
    rw [asc_parts a b ka.2 kb.2 fun p => ?_]
    constructor
    · intro hp
      rcases List.mem_cons.1 ((h p).1 (List.mem_cons_of_mem _ hp)) with rfl | hp'
      · exact absurd (ka.1 p hp) (irr p)
      · exact hp'
    · intro hp
      rcases List.mem_cons.1 ((h p).2 (List.mem_cons_of_mem _ hp)) with rfl | hp'
      · exact absurd (kb.1 p hp) (irr p)
      · exact hp'
def goodRow (n : Nat) (row : List Vl) : Prop := row.length = n ∧ ∀ v ∈ row, validV v = true
theorem parts_sub {n : Nat} {a b : Rg} (ha : Form (n + 1) a) (hb : Form (n + 1) b) (h : ∀ v, validV v = true → a.at_ (n : Int) v = b.at_ (n : Int) v) {p : List Iv × Rg} (hp : p ∈ a.parts) : p ∈ b.parts := by
  obtain ⟨h1, h2, h3, h4⟩ := ha.2.2.1 p hp
  obtain ⟨l1, l2⟩ := lo_in h2 h1
  have e := (ha.at_iff hp l1).1 l2
  rw [h _ l1] at e
  rcases at_spec (n : Int) (lo p.1) b with ⟨q, hq, q1, q2⟩ | ⟨q1, _⟩
  · have hr : q.2 = p.2 := q2.symm.trans e
    have : q.1 = p.1 := ord_ext (hb.2.2.1 q hq).2.1 h2 fun v hv => by
      have k1 := ha.at_iff hp hv
      have k2 := hb.at_iff hq hv
      rw [← h v hv, hr] at k2
      rw [Bool.eq_iff_iff, k2, k1]
    have : q = p := Prod.ext this hr
    rw [← this]; exact hq
  · rw [q1] at e
    rw [← e] at h4
    cases h4
/-- THE CANONICAL FORM IS UNIQUE -/
theorem form_ext : ∀ (n : Nat) (a b : Rg), Form n a → Form n b → (∀ row, goodRow n row → a.den row = b.den row) → a = b
  | 0, a, b, ha, hb, h => by
    have := h [] ⟨rfl, fun v h => by cases h⟩
    rw [den_nil, den_nil] at this
    exact Rg.ext (ha.1.trans hb.1.symm) this (ha.2.trans hb.2.symm)
  | n + 1, a, b, ha, hb, h => by
    have hat : ∀ v, validV v = true → a.at_ (n : Int) v = b.at_ (n : Int) v := fun v hv =>
      form_ext n _ _ (ha.at_ v) (hb.at_ v) fun row hr => by
        rw [← den_cons, ← den_cons]
        exact h (v :: row) ⟨by simp [hr.1], fun u hu => by
          rcases List.mem_cons.1 hu with rfl | hu
          · exact hv
          · exact hr.2 u hu⟩
    refine Rg.ext (ha.1.trans hb.1.symm) (ha.2.1.trans hb.2.1.symm) ?_
    exact asc_parts _ _ (ha.2.2.2.imp fun h => h.1) (hb.2.2.2.imp fun h => h.1) fun p => ⟨parts_sub ha hb hat, parts_sub hb ha fun v hv => (hat v hv).symm⟩
/-- a region that contains no row is the empty one -/
theorem none_iff_den {n : Nat} {r : Rg} (h : Form n r) : r.nix = true ↔ ∀ row, goodRow n row → r.den row = false := by
  constructor
  · intro hn row hr
    rw [form_nil' n r h hn]
    cases row <;> rfl
  · intro hd
    rw [form_ext n r (.nil (n : Int) false) h (form_nil n) fun row hr => by rw [hd row hr]; cases row <;> rfl]
    rfl
end Go.Proofs.Ytnocbigcdjlliaa
