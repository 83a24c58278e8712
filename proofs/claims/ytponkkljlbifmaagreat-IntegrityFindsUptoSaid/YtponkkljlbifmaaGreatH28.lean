/-
  Texts: IgAp, IgChM, IgBegM, IgCK, ShelfB.
-/
import Derived.Test.YtponkkljlbifmaaGreatH27
import Derived.Shelf.SlCmpFuncs.BinarySearchFunc
import Derived.Shelf.SlCmpFuncs.None
import Derived.Ground.SlsgProg
set_option linter.unusedVariables false
/-
  Plain data: changes of a state, one after another, and the violations that they may have caused. No program here.
-/
namespace Go.Proofs.YtponkkljlbifmaaGreat
open Go.RowKit
set_option maxRecDepth 100000
open Pd

def keyC (T : Tb) (c : Ch) : Rw := if c.o.length = 0 then keyT T c.n else keyT T c.o
def okC (T : Tb) (c : Ch) : Bool := !(decide (c.o.length = 0) && decide (c.n.length = 0)) && (decide (c.o.length = 0) || fitsB T c.o) && (decide (c.n.length = 0) || fitsB T c.n) && (decide (c.o.length = 0) || decide (c.n.length = 0) || decide (cmpR (keyT T c.o) (keyT T c.n) = 0))
def tabC (tbs : List Tb) (c : Ch) : Option Tb := if 0 ≤ c.t then tbs[c.t.toNat]? else none
def validC (tbs : List Tb) (c : Ch) : Bool := match tabC tbs c with
  | none => false
  | some T => okC T c
/-- a valid change of one list -/
def listC (T : Tb) (c : Ch) (l : List Rw) : Option (List Rw) := if (getT T l (keyC T c)).getD [] = c.o then some (putRw T (keyC T c) c.n l) else none
/-- one change of a state: an error or the state after it -/
def stepC (tbs : List Tb) (c : Ch) (st : List (List Rw)) : Int × List (List Rw) :=
  if validC tbs c = false then (71, []) else match tbs[c.t.toNat]?, st[c.t.toNat]? with
  | some T, some l => (match listC T c l with
    | none => (81, [])
    | some m => if 512 < cntS (st.set c.t.toNat m) then (2, []) else (0, st.set c.t.toNat m))
  | _, _ => (71, [])
def appS (tbs : List Tb) : List Ch → List (List Rw) → Int × List (List Rw)
  | [], st => (0, st)
  | c :: cs, st => if (stepC tbs c st).1 ≠ 0 then stepC tbs c st else appS tbs cs (stepC tbs c st).2
def applyS (tbs : List Tb) (st : List (List Rw)) (cs : List Ch) : Int × List (List Rw) := if chkS tbs st ≠ 0 then (chkS tbs st, []) else appS tbs cs st
/-- is the key among those of the changes' rows? -/
def memK (tbs : List Tb) (sel : Ch → Rw) (cs : List Ch) (t : Int) (key : Rw) : Bool := match tbs[t.toNat]? with
  | none => false
  | some T => cs.any fun c => decide (c.t = t) && decide (0 < (sel c).length) && decide (cmpR (keyT T (sel c)) key = 0)
def recS (tbs : List Tb) (st : List (List Rw)) (cs : List Ch) : Int × List Vo :=
  if (applyS tbs st cs).1 ≠ 0 then ((applyS tbs st cs).1, []) else (0, vioS (memK tbs Ch.n cs) (memK tbs Ch.o cs) tbs (applyS tbs st cs).2)

section
variable {T : Tb} {k row : Rw}
/-- how many rows stand ahead of a key -/
def posT (T : Tb) (l : List Rw) (k : Rw) : Nat := l.countP fun r => decide (cmpR (keyT T r) k < 0)
theorem posT_le (l : List Rw) : posT T l k ≤ l.length := List.countP_le_length
theorem posT_cons (r : Rw) (l : List Rw) : posT T (r :: l) k = posT T l k + if cmpR (keyT T r) k < 0 then 1 else 0 := by
  unfold posT
  rw [List.countP_cons]
  simp
theorem posT_zero {l : List Rw} (h : ∀ x ∈ l, ¬ cmpR (keyT T x) k < 0) : posT T l k = 0 := by
  unfold posT
  rw [List.countP_eq_zero]
  intro x hx
  simpa using h x hx
theorem rows_gt {r : Rw} {l : List Rw} (h : rowsB T (some r) l = true) (hc : 0 ≤ cmpR (keyT T r) k) : ∀ x ∈ l, 0 < cmpR (keyT T x) k := fun x hx => by
  have h5 := rowsB_lt l r h x hx
  have h6 := cmpR_anti (keyT T r) k
  have h7 := cmpR_lt_of_le (a := k) (by omega) h5
  have h8 := cmpR_anti k (keyT T x)
  omega
theorem getT_gt {l : List Rw} (h : ∀ x ∈ l, 0 < cmpR (keyT T x) k) : getT T l k = none := by
  refine List.find?_eq_none.2 fun x hx => ?_
  have := h x hx
  simp; omega
/-- the list at a key: there is a row with the key, or there is none -/
theorem pos_put : ∀ (l : List Rw) (p : Option Rw), rowsB T p l = true →
    (∃ r, l[posT T l k]? = some r ∧ cmpR (keyT T r) k = 0 ∧ getT T l k = some r ∧ dropL T k l = l.take (posT T l k) ++ l.drop (posT T l k + 1) ∧ putF T k row false l = l.take (posT T l k) ++ [row] ++ l.drop (posT T l k + 1)) ∨
    ((∀ r, l[posT T l k]? = some r → cmpR (keyT T r) k ≠ 0) ∧ getT T l k = none ∧ dropL T k l = l ∧ putF T k row false l = l.take (posT T l k) ++ [row] ++ l.drop (posT T l k))
  | [], _, _ => .inr ⟨fun r h => by simp at h, rfl, rfl, rfl⟩
  | r :: l, p, h => by
    obtain ⟨_, _, h3⟩ := rowsB_cons h
    by_cases hc : cmpR (keyT T r) k < 0
    · have hp : posT T (r :: l) k = posT T l k + 1 := by rw [posT_cons, if_pos hc]
      have hd : decide (0 ≤ cmpR (keyT T r) k) = false := decide_eq_false (by omega)
      have hne : ¬ cmpR (keyT T r) k = 0 := by omega
      have hg : getT T (r :: l) k = getT T l k := List.find?_cons_of_neg (by simpa using hne)
      have hdr : dropL T k (r :: l) = r :: dropL T k l := by unfold dropL; rw [List.filter_cons, if_pos (by simpa using hne)]
      have hpf : putF T k row false (r :: l) = r :: putF T k row false l := by
        conv => lhs; unfold putF
        rw [hd, Bool.false_or, if_neg hne]
        simp
      rw [hp, hg, hdr, hpf, List.getElem?_cons_succ, List.take_succ_cons, List.drop_succ_cons, List.drop_succ_cons]
      rcases pos_put l (some r) h3 with ⟨x, h5, h6, h7, h8, h9⟩ | ⟨h5, h6, h7, h8⟩
      · exact .inl ⟨x, h5, h6, h7, by rw [h8]; rfl, by rw [h9]; rfl⟩
      · exact .inr ⟨h5, h6, by rw [h7], by rw [h8]; rfl⟩
    · have hgt := rows_gt h3 (show 0 ≤ cmpR (keyT T r) k by omega)
      have hp : posT T (r :: l) k = 0 := posT_zero fun x hx => by
        rcases List.mem_cons.1 hx with rfl | hx
        · exact hc
        · have := hgt x hx; omega
      have hd : decide (0 ≤ cmpR (keyT T r) k) = true := decide_eq_true (by omega)
      have h4 : dropL T k l = l := dropL_gt l hgt
      rw [hp]
      by_cases h0 : cmpR (keyT T r) k = 0
      · refine .inl ⟨r, rfl, h0, List.find?_cons_of_pos (by simpa using h0), ?_, ?_⟩
        · unfold dropL at h4 ⊢
          rw [List.filter_cons, if_neg (by simpa using h0), h4]
          rfl
        · unfold putF
          rw [hd, Bool.false_or, putF_true, h4, if_pos h0]
          simp
      · refine .inr ⟨fun x hx => by simp at hx; subst hx; exact h0, ?_, ?_, ?_⟩
        · refine (List.find?_cons_of_neg (by simpa using h0)).trans (getT_gt hgt)
        · unfold dropL at h4 ⊢
          rw [List.filter_cons, if_pos (by simpa using h0), h4]
        · unfold putF
          rw [hd, Bool.false_or, putF_true, h4, if_neg h0]
          simp
/-- the row that is put, if there is one -/
def newL (row : Rw) : List Rw := if row.length = 0 then [] else [row]
theorem putRw_pos (l : List Rw) (p : Option Rw) (h : rowsB T p l = true) :
    (∃ r, l[posT T l k]? = some r ∧ cmpR (keyT T r) k = 0 ∧ getT T l k = some r ∧ putRw T k row l = l.take (posT T l k) ++ newL row ++ l.drop (posT T l k + 1)) ∨
    ((∀ r, l[posT T l k]? = some r → cmpR (keyT T r) k ≠ 0) ∧ getT T l k = none ∧ putRw T k row l = l.take (posT T l k) ++ newL row ++ l.drop (posT T l k)) := by
  have h1 := pos_put (k := k) (row := row) l p h
  unfold putRw newL
  by_cases hr : row.length = 0
  · rw [decide_eq_true hr, putF_true, if_pos hr, List.append_nil]
    rcases h1 with ⟨x, h5, h6, h7, h8, _⟩ | ⟨h5, h6, h7, _⟩
    · exact .inl ⟨x, h5, h6, h7, h8⟩
    · exact .inr ⟨h5, h6, by rw [h7, List.take_append_drop]⟩
  · rw [decide_eq_false hr, if_neg hr]
    rcases h1 with ⟨x, h5, h6, h7, _, h8⟩ | ⟨h5, h6, _, h7⟩
    · exact .inl ⟨x, h5, h6, h7, h8⟩
    · exact .inr ⟨h5, h6, h7⟩
theorem rowsB_pw : ∀ (l : List Rw) (p : Option Rw), rowsB T p l = true → l.Pairwise fun a b => cmpR (keyT T a) (keyT T b) < 0
  | [], _, _ => List.Pairwise.nil
  | r :: l, p, h => by
    obtain ⟨_, _, h3⟩ := rowsB_cons h
    exact List.pairwise_cons.2 ⟨rowsB_lt l r h3, rowsB_pw l _ h3⟩
/-- what stands ahead of a row that stands ahead of a key, does so too -/
theorem rows_mono {l : List Rw} {p : Option Rw} (h : rowsB T p l = true) {a b : Nat} (hab : a ≤ b) {x y : Rw} (hx : l[a]? = some x) (hy : l[b]? = some y) (hc : cmpR (keyT T y) k < 0) : cmpR (keyT T x) k < 0 := by
  rcases Nat.lt_or_ge a b with h1 | h1
  · obtain ⟨h2, rfl⟩ := List.getElem?_eq_some_iff.1 hx
    obtain ⟨h3, rfl⟩ := List.getElem?_eq_some_iff.1 hy
    have := List.pairwise_iff_getElem.1 (rowsB_pw l p h) a b h2 h3 h1
    exact cmpR_lt_of_le (by omega) hc
  · obtain rfl : a = b := by omega
    rw [hx] at hy
    injection hy with hy
    rw [hy]
    exact hc
theorem fits_ne {r : Rw} (hT : 1 ≤ T.cols.length) (h : fitsB T r = true) : ¬ r.length = 0 := by
  have := fitL_len h
  unfold Tb.kinds at this
  rw [List.length_map] at this
  omega
theorem okC_new {c : Ch} (h : okC T c = true) (hn : ¬ c.n.length = 0) : fitsB T c.n = true ∧ keyT T c.n = keyC T c := by
  unfold okC at h
  simp only [Bool.and_eq_true, Bool.or_eq_true, decide_eq_true_eq, hn, false_or, or_false] at h
  refine ⟨h.1.2, ?_⟩
  unfold keyC
  split
  · rfl
  · rename_i h0
    exact ((cmpR_zero _ _).1 (h.2.resolve_left h0)).symm
theorem listC_rows {c : Ch} {l m : List Rw} (hok : okC T c = true) (hl : rowsB T none l = true) (h : listC T c l = some m) : rowsB T none m = true := by
  unfold listC at h
  split at h
  · injection h with h
    subst h
    unfold putRw
    by_cases hn : c.n.length = 0
    · rw [decide_eq_true hn, putF_true]
      exact rowsB_filter _ l none hl
    · obtain ⟨h1, h2⟩ := okC_new hok hn
      rw [decide_eq_false hn]
      exact rowsB_put h1 h2 l none hl (fun q hq => by cases hq)
  · cases h
end
theorem validC_at {tbs : List Tb} {c : Ch} (h : validC tbs c = true) : 0 ≤ c.t ∧ ∃ T, tbs[c.t.toNat]? = some T ∧ okC T c = true := by
  unfold validC tabC at h
  by_cases h0 : 0 ≤ c.t
  · rw [if_pos h0] at h
    cases hT : tbs[c.t.toNat]? with
    | none => rw [hT] at h; cases h
    | some T => rw [hT] at h; exact ⟨h0, T, rfl, h⟩
  · rw [if_neg h0] at h
    cases h
/-- a valid state -/
structure OkS (tbs : List Tb) (st : List (List Rw)) : Prop where
  ln : st.length = tbs.length
  tb : tabsB tbs st = true
  ct : cntS st ≤ 512
theorem stepC_ok {tbs : List Tb} {c : Ch} {st : List (List Rw)} (h : OkS tbs st) (h0 : (stepC tbs c st).1 = 0) : OkS tbs (stepC tbs c st).2 := by
  unfold stepC at h0 ⊢
  cases hv : validC tbs c with
  | false => rw [hv] at h0; simp at h0
  | true =>
    rw [hv] at h0
    obtain ⟨_, T, hT, hok⟩ := validC_at hv
    simp only [Bool.true_eq_false, if_false] at h0 ⊢
    cases hl : st[c.t.toNat]? with
    | none => rw [hT, hl] at h0; simp at h0
    | some l =>
      rw [hT, hl] at h0
      simp only [hT] at h0 ⊢
      cases hm : listC T c l with
      | none => rw [hm] at h0; simp at h0
      | some m =>
        rw [hm] at h0
        simp only [] at h0 ⊢
        split at h0
        · simp at h0
        · rename_i h5
          rw [if_neg h5]
          exact ⟨by rw [List.length_set]; exact h.ln, tabsB_set _ _ _ T _ h.tb hT (listC_rows hok (tabsB_at _ _ _ T l h.tb hT hl) hm), by show cntS (st.set c.t.toNat m) ≤ 512; omega⟩
theorem appS_ok {tbs : List Tb} : ∀ (cs : List Ch) (st : List (List Rw)), OkS tbs st → (appS tbs cs st).1 = 0 → OkS tbs (appS tbs cs st).2
  | [], st, h, _ => h
  | c :: cs, st, h, h0 => by
    unfold appS at h0 ⊢
    split at h0
    · rename_i h1
      exact absurd h0 h1
    · rename_i h1
      rw [if_neg h1]
      exact appS_ok cs _ (stepC_ok h (by omega)) h0
theorem chkS_ok {tbs : List Tb} {st : List (List Rw)} (h : chkS tbs st = 0) : OkS tbs st := by
  unfold chkS at h
  split at h
  · omega
  · split at h
    · omega
    · split at h
      · exact ⟨by omega, by assumption, by omega⟩
      · omega
theorem applyS_ok {tbs : List Tb} {st : List (List Rw)} {cs : List Ch} (h0 : (applyS tbs st cs).1 = 0) : OkS tbs (applyS tbs st cs).2 := by
  unfold applyS at h0 ⊢
  split at h0
  · rename_i h1
    exact absurd h0 h1
  · rename_i h1
    rw [if_neg h1]
    exact appS_ok cs st (chkS_ok (by omega)) h0
end Go.Proofs.YtponkkljlbifmaaGreat

/-
  How changes lie in memory. No program here.
-/
namespace Go.Proofs.YtponkkljlbifmaaGreat
open Go.RowKit
set_option maxRecDepth 100000
open Pd

/-- a change and where its rows lie -/
structure ChE where
  c : Ch
  o : Hd
  n : Hd
def ChE.cs (e : ChE) : List Value := [.int .i64 e.c.t, .slice e.o.1 e.o.2.1 e.o.2.2, .slice e.n.1 e.n.2.1 e.n.2.2]
theorem ChE.cs_len (e : ChE) : e.cs.length = 3 := rfl
structure ChOk (w : World) (e : ChE) : Prop where
  o : RowOk w (e.o, e.c.o)
  n : RowOk w (e.n, e.c.n)
/-- a slice of changes -/
structure ChsS (w : World) (A : Option Addr) (n : Nat) (es : List ChE) : Prop where
  sl : Sl 3 ChE.cs w A n es
  ok : ∀ e ∈ es, ChOk w e
section
variable {w w' : World} {A : Option Addr} {n : Nat}
theorem ChOk.keep {e : ChE} (h : ChOk w e) (hk : Keeps w w') : ChOk w' e := ⟨h.o.keep hk, h.n.keep hk⟩
theorem ChsS.keep {es : List ChE} (h : ChsS w A n es) (hk : Keeps w w') : ChsS w' A n es := ⟨h.sl.keep hk, fun e he => (h.ok e he).keep hk⟩
theorem ChsS.at {es : List ChE} (h : ChsS w A n es) {k : Nat} (hk : k < n) : ∃ (b o : Nat) (e : ChE), A = some ⟨b, o, none⟩ ∧ es[k]? = some e ∧ ChOk w e ∧
    w.cell? ⟨b, o + k * 3, none⟩ = some (.int .i64 e.c.t) ∧ w.cell? ⟨b, o + k * 3 + 1, none⟩ = some (.slice e.o.1 e.o.2.1 e.o.2.2) ∧ w.cell? ⟨b, o + k * 3 + 2, none⟩ = some (.slice e.n.1 e.n.2.1 e.n.2.2) := by
  obtain ⟨b, o, e, hA, he, hc⟩ := h.sl.at hk
  exact ⟨b, o, e, hA, he, h.ok e (List.mem_of_getElem? he), by simpa using hc 0 _ rfl, hc 1 _ rfl, hc 2 _ rfl⟩
end
end Go.Proofs.YtponkkljlbifmaaGreat

/-
  The example of the chapter in memory: a schema, a state, changes.
-/
namespace Go.Proofs.YtponkkljlbifmaaGreat
open Go.RowKit
set_option maxRecDepth 100000
open Pd

def one9 : Vl := ⟨4, 1, ⟨#[]⟩⟩
def sev9 : Vl := ⟨4, 7, ⟨#[]⟩⟩
def tA9 (rs : List Rf) : Tb := ⟨⟨#[112, 114, 111, 106, 101, 99, 116, 115]⟩, [⟨⟨#[105, 100]⟩, 4⟩], 1, rs, []⟩
def tB9 (rs : List Rf) : Tb := ⟨⟨#[116, 97, 115, 107, 115]⟩, [⟨⟨#[105, 100]⟩, 4⟩, ⟨⟨#[112, 114, 111, 106, 101, 99, 116]⟩, 4⟩], 1, rs, []⟩
def tbs9 : List Tb := [tA9 [], tB9 [⟨[1], 0⟩]]
def st9 : List (List Rw) := [[[one9]], [[sev9, one9]]]
def ch9 : Ch := ⟨0, [one9], []⟩
theorem good9 : GoodS 0 tbs9 := by
  have h1 : nameB ⟨#[112, 114, 111, 106, 101, 99, 116, 115]⟩ = true := by kernel_rfl
  have h2 : nameB ⟨#[116, 97, 115, 107, 115]⟩ = true := by kernel_rfl
  have h5 : nameB ⟨#[105, 100]⟩ = true := by kernel_rfl
  have h7 : nameB ⟨#[112, 114, 111, 106, 101, 99, 116]⟩ = true := by kernel_rfl
  have k4 : kindB 4 = true := rfl
  refine ⟨Int.le_refl _, by decide, by decide, fun T hT => ?_, ?_, fun T hT x hx => ?_⟩
  · simp only [tbs9, List.mem_cons, List.not_mem_nil, or_false] at hT
    rcases hT with rfl | rfl
    · refine ⟨h1, ?_, ?_, by decide, by decide, by decide, by decide, by decide, fun p hp => by cases hp⟩
      · simp only [tA9, List.forall_mem_cons]
        exact ⟨⟨h5, k4⟩, fun _ h => absurd h List.not_mem_nil⟩
      · show ([[105, 100]] : List (List UInt8)).Nodup
        decide
    · refine ⟨h2, ?_, ?_, by decide, by decide, by decide, by decide, by decide, fun p hp => by cases hp⟩
      · simp only [tB9, List.forall_mem_cons]
        exact ⟨⟨h5, k4⟩, ⟨h7, k4⟩, fun _ h => absurd h List.not_mem_nil⟩
      · show ([[105, 100], [112, 114, 111, 106, 101, 99, 116]] : List (List UInt8)).Nodup
        decide
  · show ([[112, 114, 111, 106, 101, 99, 116, 115], [116, 97, 115, 107, 115]] : List (List UInt8)).Nodup
    decide
  · simp only [tbs9, List.mem_cons, List.not_mem_nil, or_false] at hT
    rcases hT with rfl | rfl
    · cases hx
    · have hx' : x ∈ ([⟨[1], 0⟩] : List Rf) := hx
      obtain rfl := List.mem_singleton.1 hx'
      refine ⟨Int.le_refl _, tA9 [], rfl, rfl, fun i c h => ?_⟩
      cases i with
      | zero =>
        obtain rfl : 1 = c := by simpa using h
        exact ⟨by decide, _, _, rfl, rfl, rfl⟩
      | succ i => cases h
theorem chk9 : chkS tbs9 st9 = 0 := by kernel_rfl
theorem all9 : allV tbs9 st9 = [] := by kernel_rfl
theorem rec9 : recS tbs9 st9 [ch9] = (0, [⟨1, 1, [sev9], 0⟩]) := by kernel_rfl
section
variable {w : World} {a : Nat}
/-- the schema's blocks -/
abbrev wS9 (w : World) (a : Nat) : World := (((((w.alloc (.cells #[.string ⟨#[105, 100]⟩, .int .i64 4] 56)).alloc (.cells #[.string ⟨#[105, 100]⟩, .int .i64 4, .string ⟨#[112, 114, 111, 106, 101, 99, 116]⟩, .int .i64 4] 56)).alloc (.cells #[.int .i64 1] 3)).alloc (.cells #[.slice (some ⟨a + 1 + 1, 0, none⟩) 1 1, .int .i64 0] 65)).alloc (.cells #[.string ⟨#[112, 114, 111, 106, 101, 99, 116, 115]⟩, .slice (some ⟨a, 0, none⟩) 1 1, .int .i64 1, .slice none 0 0, .slice none 0 0, .string ⟨#[116, 97, 115, 107, 115]⟩, .slice (some ⟨a + 1, 0, none⟩) 2 2, .int .i64 1, .slice (some ⟨a + 1 + 1 + 1, 0, none⟩) 1 1, .slice none 0 0] 62)).alloc (.cells #[.int .i64 0, .slice (some ⟨a + 1 + 1 + 1 + 1, 0, none⟩) 2 2] 30)
theorem sch9 (ha : w.heap.size = a) : Below w.heap.size w (wS9 w a) ∧ ScS (wS9 w a) (some ⟨a + 1 + 1 + 1 + 1, 0, none⟩) 2 tbs9 ∧ Blk (wS9 w a) (a + 1 + 1 + 1 + 1 + 1) 30 #[.int .i64 0, .slice (some ⟨a + 1 + 1 + 1 + 1, 0, none⟩) 2 2] := by
  subst ha
  have hb : Below w.heap.size w (wS9 w w.heap.size) := ((((((Below.refl _ _).alloc (Nat.le_refl _) _).alloc (by simp) _).alloc (by simp; omega) _).alloc (by simp; omega) _).alloc (by simp; omega) _).alloc (by simp; omega) _
  have b0 : Blk (wS9 w w.heap.size) w.heap.size 56 ([⟨⟨#[105, 100]⟩, 4⟩].flatMap Cm.cs).toArray := (((((Blk.new w _ _).alloc _).alloc _).alloc _).alloc _).alloc _
  have b1 : Blk (wS9 w w.heap.size) (w.heap.size + 1) 56 ([⟨⟨#[105, 100]⟩, 4⟩, ⟨⟨#[112, 114, 111, 106, 101, 99, 116]⟩, 4⟩].flatMap Cm.cs).toArray := by
    have := ((((Blk.new (w.alloc (.cells #[.string ⟨#[105, 100]⟩, .int .i64 4] 56)) 56 #[.string ⟨#[105, 100]⟩, .int .i64 4, .string ⟨#[112, 114, 111, 106, 101, 99, 116]⟩, .int .i64 4]).alloc (.cells #[.int .i64 1] 3)).alloc (.cells #[.slice (some ⟨w.heap.size + 1 + 1, 0, none⟩) 1 1, .int .i64 0] 65)).alloc (.cells #[.string ⟨#[112, 114, 111, 106, 101, 99, 116, 115]⟩, .slice (some ⟨w.heap.size, 0, none⟩) 1 1, .int .i64 1, .slice none 0 0, .slice none 0 0, .string ⟨#[116, 97, 115, 107, 115]⟩, .slice (some ⟨w.heap.size + 1, 0, none⟩) 2 2, .int .i64 1, .slice (some ⟨w.heap.size + 1 + 1 + 1, 0, none⟩) 1 1, .slice none 0 0] 62)).alloc (.cells #[.int .i64 0, .slice (some ⟨w.heap.size + 1 + 1 + 1 + 1, 0, none⟩) 2 2] 30)
    rw [World.size_alloc] at this
    exact this
  obtain ⟨w2, hw2⟩ : ∃ z, (w.alloc (.cells #[.string ⟨#[105, 100]⟩, .int .i64 4] 56)).alloc (.cells #[.string ⟨#[105, 100]⟩, .int .i64 4, .string ⟨#[112, 114, 111, 106, 101, 99, 116]⟩, .int .i64 4] 56) = z := ⟨_, rfl⟩
  have s2 : w2.heap.size = w.heap.size + 1 + 1 := by rw [← hw2, World.size_alloc, World.size_alloc]
  unfold wS9 at hb b0 b1 ⊢
  rw [hw2] at hb b0 b1 ⊢
  have b2 := (((Blk.new w2 3 #[.int .i64 1]).alloc (.cells #[.slice (some ⟨w.heap.size + 1 + 1, 0, none⟩) 1 1, .int .i64 0] 65)).alloc (.cells #[.string ⟨#[112, 114, 111, 106, 101, 99, 116, 115]⟩, .slice (some ⟨w.heap.size, 0, none⟩) 1 1, .int .i64 1, .slice none 0 0, .slice none 0 0, .string ⟨#[116, 97, 115, 107, 115]⟩, .slice (some ⟨w.heap.size + 1, 0, none⟩) 2 2, .int .i64 1, .slice (some ⟨w.heap.size + 1 + 1 + 1, 0, none⟩) 1 1, .slice none 0 0] 62)).alloc (.cells #[.int .i64 0, .slice (some ⟨w.heap.size + 1 + 1 + 1 + 1, 0, none⟩) 2 2] 30)
  have b3 := ((Blk.new (w2.alloc (.cells #[.int .i64 1] 3)) 65 #[.slice (some ⟨w.heap.size + 1 + 1, 0, none⟩) 1 1, .int .i64 0]).alloc (.cells #[.string ⟨#[112, 114, 111, 106, 101, 99, 116, 115]⟩, .slice (some ⟨w.heap.size, 0, none⟩) 1 1, .int .i64 1, .slice none 0 0, .slice none 0 0, .string ⟨#[116, 97, 115, 107, 115]⟩, .slice (some ⟨w.heap.size + 1, 0, none⟩) 2 2, .int .i64 1, .slice (some ⟨w.heap.size + 1 + 1 + 1, 0, none⟩) 1 1, .slice none 0 0] 62)).alloc (.cells #[.int .i64 0, .slice (some ⟨w.heap.size + 1 + 1 + 1 + 1, 0, none⟩) 2 2] 30)
  have b4 := (Blk.new ((w2.alloc (.cells #[.int .i64 1] 3)).alloc (.cells #[.slice (some ⟨w.heap.size + 1 + 1, 0, none⟩) 1 1, .int .i64 0] 65)) 62 #[.string ⟨#[112, 114, 111, 106, 101, 99, 116, 115]⟩, .slice (some ⟨w.heap.size, 0, none⟩) 1 1, .int .i64 1, .slice none 0 0, .slice none 0 0, .string ⟨#[116, 97, 115, 107, 115]⟩, .slice (some ⟨w.heap.size + 1, 0, none⟩) 2 2, .int .i64 1, .slice (some ⟨w.heap.size + 1 + 1 + 1, 0, none⟩) 1 1, .slice none 0 0]).alloc (.cells #[.int .i64 0, .slice (some ⟨w.heap.size + 1 + 1 + 1 + 1, 0, none⟩) 2 2] 30)
  have b5 := Blk.new (((w2.alloc (.cells #[.int .i64 1] 3)).alloc (.cells #[.slice (some ⟨w.heap.size + 1 + 1, 0, none⟩) 1 1, .int .i64 0] 65)).alloc (.cells #[.string ⟨#[112, 114, 111, 106, 101, 99, 116, 115]⟩, .slice (some ⟨w.heap.size, 0, none⟩) 1 1, .int .i64 1, .slice none 0 0, .slice none 0 0, .string ⟨#[116, 97, 115, 107, 115]⟩, .slice (some ⟨w.heap.size + 1, 0, none⟩) 2 2, .int .i64 1, .slice (some ⟨w.heap.size + 1 + 1 + 1, 0, none⟩) 1 1, .slice none 0 0] 62)) 30 #[.int .i64 0, .slice (some ⟨w.heap.size + 1 + 1 + 1 + 1, 0, none⟩) 2 2]
  rw [s2] at b2
  rw [World.size_alloc, s2] at b3
  rw [World.size_alloc, World.size_alloc, s2] at b4
  rw [World.size_alloc, World.size_alloc, World.size_alloc, s2] at b5
  refine ⟨hb, ?_, b5⟩
  have e0 := tb_new (S := fun _ => False) (T := tA9 []) rfl rfl b0 id
  have e1 := (tb_new (S := fun _ => False) (T := tB9 []) rfl rfl b1 id).refs b2 b3 id id
  refine ⟨[⟨tA9 [], (some ⟨w.heap.size, 0, none⟩, 1, 1), (none, 0, 0), (none, 0, 0)⟩, ⟨tB9 [⟨[1], 0⟩], (some ⟨w.heap.size + 1, 0, none⟩, 2, 2), (some ⟨w.heap.size + 1 + 1 + 1, 0, none⟩, 1, 1), (none, 0, 0)⟩], ⟨rfl, fun _ => ⟨w.heap.size + 1 + 1 + 1 + 1, 0, rfl, fun k x hx j u hu => ?_⟩⟩, rfl, fun e he => ?_⟩
  · have h1 := b4.cell (0 + k * 5 + j)
    have h2 := flat_at TbE.cs_len _ k x j u hx hu
    rw [h1, Nat.zero_add, ← h2, ← Array.getElem?_toList]
    rfl
  · simp only [List.mem_cons, List.not_mem_nil, or_false] at he
    rcases he with rfl | rfl
    · exact e0 _ (But.refl _ _)
    · exact e1 _ (But.refl _ _)
/-- the state's blocks -/
abbrev wT9 (w : World) (a : Nat) : World := (((((w.alloc (.cells #[.int .i64 4, .int .i64 1, .string ⟨#[]⟩] 67)).alloc (.cells #[.slice (some ⟨a, 0, none⟩) 1 1] 75)).alloc (.cells #[.int .i64 4, .int .i64 7, .string ⟨#[]⟩, .int .i64 4, .int .i64 1, .string ⟨#[]⟩] 67)).alloc (.cells #[.slice (some ⟨a + 1 + 1, 0, none⟩) 2 2] 75)).alloc (.cells #[.slice (some ⟨a + 1, 0, none⟩) 1 1, .slice (some ⟨a + 1 + 1 + 1, 0, none⟩) 1 1] 79)).alloc (.cells #[.slice (some ⟨a + 1 + 1 + 1 + 1, 0, none⟩) 2 2] 25)
def ls9 (a : Nat) : List TlP := [((some ⟨a + 1, 0, none⟩, 1, 1), [((some ⟨a, 0, none⟩, 1, 1), [one9])]), ((some ⟨a + 1 + 1 + 1, 0, none⟩, 1, 1), [((some ⟨a + 1 + 1, 0, none⟩, 2, 2), [sev9, one9])])]
theorem row_of {w : World} {b : Nat} {l : List Vl} (h : Blk w b 67 (l.flatMap Vl.cs).toArray) (hl : l.length ≤ 1000) : RowOk w ((some ⟨b, 0, none⟩, l.length, l.length), l) :=
  ⟨⟨rfl, fun _ => ⟨b, 0, rfl, fun k x hx j u hu => by
    have := h.cell (0 + k * 3 + j)
    rw [this, Nat.zero_add, List.getElem?_toArray, flat_at Vl.cs_len l k x j u hx hu]⟩⟩, fun e => (by cases e), Nat.le_refl _, by simp only; omega⟩
theorem tl_of {w : World} {b : Nat} {q : RowP} (h : Blk w b 75 (rowc q).toArray) (hq : RowOk w q) : TlOk w ((some ⟨b, 0, none⟩, 1, 1), [q]) :=
  ⟨⟨⟨rfl, fun _ => ⟨b, 0, rfl, fun k x hx j u hu => by
    have := h.cell (0 + k * 1 + j)
    have h2 := flat_at (cs := rowc) (sz := 1) (fun _ => rfl) [q] k x j u hx hu
    rw [this, Nat.zero_add, ← h2, List.getElem?_toArray]
    simp⟩⟩, fun y hy => by rw [List.mem_singleton.1 hy]; exact hq⟩, fun e => (by cases e), Nat.le_refl _, by simp⟩
theorem sta9 (ha : w.heap.size = a) : Below w.heap.size w (wT9 w a) ∧ StS (wT9 w a) (some ⟨a + 1 + 1 + 1 + 1, 0, none⟩) 2 (ls9 a) ∧ Blk (wT9 w a) (a + 1 + 1 + 1 + 1 + 1) 25 #[.slice (some ⟨a + 1 + 1 + 1 + 1, 0, none⟩) 2 2] := by
  subst ha
  have hb : Below w.heap.size w (wT9 w w.heap.size) := ((((((Below.refl _ _).alloc (Nat.le_refl _) _).alloc (by simp) _).alloc (by simp; omega) _).alloc (by simp; omega) _).alloc (by simp; omega) _).alloc (by simp; omega) _
  have b0 : Blk (wT9 w w.heap.size) w.heap.size 67 ([one9].flatMap Vl.cs).toArray := (((((Blk.new w _ _).alloc _).alloc _).alloc _).alloc _).alloc _
  have b1 : Blk (wT9 w w.heap.size) (w.heap.size + 1) 75 (rowc ((some ⟨w.heap.size, 0, none⟩, 1, 1), [one9])).toArray := by
    have := ((((Blk.new (w.alloc (.cells #[.int .i64 4, .int .i64 1, .string ⟨#[]⟩] 67)) 75 #[.slice (some ⟨w.heap.size, 0, none⟩) 1 1]).alloc (.cells #[.int .i64 4, .int .i64 7, .string ⟨#[]⟩, .int .i64 4, .int .i64 1, .string ⟨#[]⟩] 67)).alloc (.cells #[.slice (some ⟨w.heap.size + 1 + 1, 0, none⟩) 2 2] 75)).alloc (.cells #[.slice (some ⟨w.heap.size + 1, 0, none⟩) 1 1, .slice (some ⟨w.heap.size + 1 + 1 + 1, 0, none⟩) 1 1] 79)).alloc (.cells #[.slice (some ⟨w.heap.size + 1 + 1 + 1 + 1, 0, none⟩) 2 2] 25)
    rw [World.size_alloc] at this
    exact this
  obtain ⟨w2, hw2⟩ : ∃ z, (w.alloc (.cells #[.int .i64 4, .int .i64 1, .string ⟨#[]⟩] 67)).alloc (.cells #[.slice (some ⟨w.heap.size, 0, none⟩) 1 1] 75) = z := ⟨_, rfl⟩
  have s2 : w2.heap.size = w.heap.size + 1 + 1 := by rw [← hw2, World.size_alloc, World.size_alloc]
  unfold wT9 at hb b0 b1 ⊢
  rw [hw2] at hb b0 b1 ⊢
  have b2 := (((Blk.new w2 67 #[.int .i64 4, .int .i64 7, .string ⟨#[]⟩, .int .i64 4, .int .i64 1, .string ⟨#[]⟩]).alloc (.cells #[.slice (some ⟨w.heap.size + 1 + 1, 0, none⟩) 2 2] 75)).alloc (.cells #[.slice (some ⟨w.heap.size + 1, 0, none⟩) 1 1, .slice (some ⟨w.heap.size + 1 + 1 + 1, 0, none⟩) 1 1] 79)).alloc (.cells #[.slice (some ⟨w.heap.size + 1 + 1 + 1 + 1, 0, none⟩) 2 2] 25)
  have b3 := ((Blk.new (w2.alloc (.cells #[.int .i64 4, .int .i64 7, .string ⟨#[]⟩, .int .i64 4, .int .i64 1, .string ⟨#[]⟩] 67)) 75 #[.slice (some ⟨w.heap.size + 1 + 1, 0, none⟩) 2 2]).alloc (.cells #[.slice (some ⟨w.heap.size + 1, 0, none⟩) 1 1, .slice (some ⟨w.heap.size + 1 + 1 + 1, 0, none⟩) 1 1] 79)).alloc (.cells #[.slice (some ⟨w.heap.size + 1 + 1 + 1 + 1, 0, none⟩) 2 2] 25)
  have b4 := (Blk.new ((w2.alloc (.cells #[.int .i64 4, .int .i64 7, .string ⟨#[]⟩, .int .i64 4, .int .i64 1, .string ⟨#[]⟩] 67)).alloc (.cells #[.slice (some ⟨w.heap.size + 1 + 1, 0, none⟩) 2 2] 75)) 79 #[.slice (some ⟨w.heap.size + 1, 0, none⟩) 1 1, .slice (some ⟨w.heap.size + 1 + 1 + 1, 0, none⟩) 1 1]).alloc (.cells #[.slice (some ⟨w.heap.size + 1 + 1 + 1 + 1, 0, none⟩) 2 2] 25)
  have b5 := Blk.new (((w2.alloc (.cells #[.int .i64 4, .int .i64 7, .string ⟨#[]⟩, .int .i64 4, .int .i64 1, .string ⟨#[]⟩] 67)).alloc (.cells #[.slice (some ⟨w.heap.size + 1 + 1, 0, none⟩) 2 2] 75)).alloc (.cells #[.slice (some ⟨w.heap.size + 1, 0, none⟩) 1 1, .slice (some ⟨w.heap.size + 1 + 1 + 1, 0, none⟩) 1 1] 79)) 25 #[.slice (some ⟨w.heap.size + 1 + 1 + 1 + 1, 0, none⟩) 2 2]
  rw [s2] at b2
  rw [World.size_alloc, s2] at b3
  rw [World.size_alloc, World.size_alloc, s2] at b4
  rw [World.size_alloc, World.size_alloc, World.size_alloc, s2] at b5
  refine ⟨hb, ⟨⟨rfl, fun _ => ⟨w.heap.size + 1 + 1 + 1 + 1, 0, rfl, fun k x hx j u hu => ?_⟩⟩, fun p hp => ?_⟩, b5⟩
  · have h1 := b4.cell (0 + k * 1 + j)
    have h2 := flat_at (cs := tlc) (sz := 1) (fun _ => rfl) _ k x j u hx hu
    rw [h1, Nat.zero_add, ← h2, ← Array.getElem?_toList]
    rfl
  · simp only [ls9, List.mem_cons, List.not_mem_nil, or_false] at hp
    rcases hp with rfl | rfl
    · exact tl_of b1 (row_of (l := [one9]) b0 (by decide))
    · exact tl_of (q := ((some ⟨w.heap.size + 1 + 1, 0, none⟩, 2, 2), [sev9, one9])) b3 (row_of (l := [sev9, one9]) b2 (by decide))
/-- the changes' blocks -/
abbrev wC9 (w : World) (a : Nat) : World := (w.alloc (.cells #[.int .i64 4, .int .i64 1, .string ⟨#[]⟩] 67)).alloc (.cells #[.int .i64 0, .slice (some ⟨a, 0, none⟩) 1 1, .slice none 0 0] 91)
theorem chg9 (ha : w.heap.size = a) : Below w.heap.size w (wC9 w a) ∧ ChsS (wC9 w a) (some ⟨a + 1, 0, none⟩) 1 [⟨ch9, (some ⟨a, 0, none⟩, 1, 1), (none, 0, 0)⟩] := by
  subst ha
  have hb : Below w.heap.size w (wC9 w w.heap.size) := ((Below.refl _ _).alloc (Nat.le_refl _) _).alloc (by simp) _
  have b0 : Blk (wC9 w w.heap.size) w.heap.size 67 ([one9].flatMap Vl.cs).toArray := (Blk.new w _ _).alloc _
  have b1 := Blk.new (w.alloc (.cells #[.int .i64 4, .int .i64 1, .string ⟨#[]⟩] 67)) 91 #[.int .i64 0, .slice (some ⟨w.heap.size, 0, none⟩) 1 1, .slice none 0 0]
  rw [World.size_alloc] at b1
  refine ⟨hb, ⟨rfl, fun _ => ⟨w.heap.size + 1, 0, rfl, fun k x hx j u hu => ?_⟩⟩, fun e he => ?_⟩
  · have h1 := b1.cell (0 + k * 3 + j)
    have h2 := flat_at ChE.cs_len _ k x j u hx hu
    rw [h1, Nat.zero_add, ← h2, ← Array.getElem?_toList]
    rfl
  · rw [List.mem_singleton.1 he]
    exact ⟨row_of (l := [one9]) b0 (by decide), ⟨Sl.nil, fun _ => ⟨rfl, rfl⟩, Nat.le_refl _, by simp⟩⟩
end
end Go.Proofs.YtponkkljlbifmaaGreat

/-
  The program's equal rows and the key of a change.
-/
namespace Go.Proofs.YtponkkljlbifmaaGreat
open Go.RowKit
set_option maxRecDepth 100000
open Pd

theorem tequal_any (A : Option Addr) (n c : Nat) (r : Rw) (B : Option Addr) (m d : Nat) (s : Rw) (w : World) (hp : RowOk w ((A, n, c), r)) (hq : RowOk w ((B, m, d), s)) :
    Calls Tryz.prog 73 #[.slice A n c, .slice B m d] w fun e w' => e = .returned (.bool (decide (cmpR r s = 0))) ∧ Below w.heap.size w w' := by
  have HP := Lib.hid hp
  have HQ := Lib.hid hq
  clear hp hq
  go_enter Tryz.func73, Tryz.ntmps73
  go_wp2_with fail
  refine (comp_rw A n c r B m d s _ HP.out HQ.out).mono ?_
  rintro e w1 ⟨rfl, hb1⟩
  have HE := Lib.hid hb1
  clear hb1
  go_wp2
  go_ret
  exact ⟨rfl, HE.out⟩
/-- the key of a change, wherever it lies -/
def CKeyO (T : Tb) (c : Ch) (w : World) (e : Ending) (w' : World) : Prop := ∃ p : RowP, e = .returned (.slice p.1.1 p.1.2.1 p.1.2.2) ∧ p.2 = keyC T c ∧ RowOk w' p ∧ Below w.heap.size w w'
set_option maxHeartbeats 1000000 in
theorem ckey_any (ver : Int) (A : Option Addr) (n c : Nat) (tbs : List Tb) (t : Nat) (T : Tb) (OA : Option Addr) (on oc : Nat) (o : Rw) (NA : Option Addr) (nn nc : Nat) (r : Rw) (w : World) (hs : ScS w A n tbs) (hn : n ≤ 8) (hT : tbs[t]? = some T) (h0 : 0 ≤ T.key) (ho : RowOk w ((OA, on, oc), o)) (hr : RowOk w ((NA, nn, nc), r)) :
    Calls Tryz.prog 74 #[.agg #[.int .i64 ver, .slice A n c], .agg #[.int .i64 (t : Int), .slice OA on oc, .slice NA nn nc]] w fun e w' => CKeyO T ⟨t, o, r⟩ w e w' := by
  have HB : Hid (Below w.heap.size w ((w.alloc (.cells #[.int .i64 ver, .slice A n c] 30)).alloc (.cells #[.int .i64 (t : Int), .slice OA on oc, .slice NA nn nc] 91))) := Lib.hid (((Below.refl _ _).alloc (Nat.le_refl _) _).alloc (by simp) _)
  have HS := Lib.hid (hs.keep (keeps_of HB.out))
  have HO := Lib.hid (ho.keep (keeps_of HB.out))
  have HR := Lib.hid (hr.keep (keeps_of HB.out))
  have HT := Lib.hid hT
  have Hol := Lib.hid ho.rd.len
  clear hs ho hr hT
  go_enter Tryz.func74, Tryz.ntmps74
  by_cases h : on = 0
  · have g1 : decide (0 < on) = false := by simp; omega
    have HK : Hid (keyC T ⟨t, o, r⟩ = keyT T r) := Lib.hid (if_pos (by show o.length = 0; have := Hol.out; simp only at this; omega))
    clear h
    go_wp2_with fail
    refine (prefix_any ver A n c tbs t T NA nn nc r _ HS.out hn HT.out h0 HR.out).mono ?_
    rintro e w1 ⟨p, rfl, hq, hp, hb1⟩
    have HE : Hid (CKeyO T ⟨t, o, r⟩ w (.returned (.slice p.1.1 p.1.2.1 p.1.2.2)) w1) := Lib.hid ⟨p, rfl, by rw [hq, HK.out], hp, Below.next HB.out hb1⟩
    clear hq hp hb1
    go_wp2
    go_ret
    exact HE.out
  · have g1 : decide (0 < on) = true := by simp; omega
    have HK : Hid (keyC T ⟨t, o, r⟩ = keyT T o) := Lib.hid (if_neg (by show ¬ o.length = 0; have := Hol.out; simp only at this; omega))
    clear h
    go_wp2_with fail
    refine (prefix_any ver A n c tbs t T OA on oc o _ HS.out hn HT.out h0 HO.out).mono ?_
    rintro e w1 ⟨p, rfl, hq, hp, hb1⟩
    have HE : Hid (CKeyO T ⟨t, o, r⟩ w (.returned (.slice p.1.1 p.1.2.1 p.1.2.2)) w1) := Lib.hid ⟨p, rfl, by rw [hq, HK.out], hp, Below.next HB.out hb1⟩
    clear hq hp hb1
    go_wp2
    go_ret
    exact HE.out
end Go.Proofs.YtponkkljlbifmaaGreat

/-
  The shelf's laying of slices.BinarySearchFunc over rows, in plain words, written by the kit's lay-plain.mjs. Turned into a template by name.
-/
namespace Go.Proofs
open Go.Shelf
def Tryz.searchL_ren : Go.Shelf.Ren := ⟨fun | 14 => 69 | n => n, fun | 22 => 79 | 24 => 75 | 29 => 75 | 32 => 89 | 3 => 3 | 4 => 4 | 35 => 137 | 0 => 0 | n => n, fun | n => n⟩
theorem Tryz.searchL : Go.Proofs.SlLaysG2.n14 Tryz.prog Tryz.searchL_ren := {
  mixed := by kernel_rfl
  f14 := ⟨Tryz.f69.name, by decide, Tryz.func69.trans (congrArg some (by kernel_rfl))⟩
  t0 := Tryz.underlying0
  a0 := Tryz.isAgg0
  z0 := Tryz.sizeOf0
  v0 := Tryz.zeroValue0
  t3 := Tryz.underlying3
  a3 := Tryz.isAgg3
  z3 := Tryz.sizeOf3
  v3 := Tryz.zeroValue3
  t4 := Tryz.underlying4
  a4 := Tryz.isAgg4
  z4 := Tryz.sizeOf4
  v4 := Tryz.zeroValue4
  t22 := Tryz.underlying79
  a22 := Tryz.isAgg79
  z22 := Tryz.sizeOf79
  v22 := Tryz.zeroValue79
  a24 := Tryz.isAgg75
  z24 := Tryz.sizeOf75
  a29 := Tryz.isAgg75
  z29 := Tryz.sizeOf75
  t32 := Tryz.underlying89
  a32 := Tryz.isAgg89
  z32 := Tryz.sizeOf89
  v32 := Tryz.zeroValue89
  t35 := Tryz.underlying137
  a35 := Tryz.isAgg137
  z35 := Tryz.sizeOf137
  v35 := Tryz.zeroValue137 }
end Go.Proofs
