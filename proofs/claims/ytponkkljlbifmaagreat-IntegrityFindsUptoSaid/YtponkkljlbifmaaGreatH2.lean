/-
  Texts: But, Mem2, IgCol, OrdV, InL, Points, Least, Contains, Merge.
-/
import Derived.Test.YtponkkljlbifmaaGreatH1
import Derived.Laws.AppendOwnNone
set_option linter.unusedVariables false
namespace Go.Proofs.YtponkkljlbifmaaGreat
open Go.RowKit
set_option maxRecDepth 100000

/-- everything that was there is as it was but for the blocks of S -/
structure But (S : Nat → Prop) (w w' : World) : Prop where
  os : w'.os = w.os
  tape : w'.tape = w.tape
  output : w'.output = w.output
  size : w.heap.size ≤ w'.heap.size
  block : ∀ k, k < w.heap.size → ¬ S k → w'.heap[k]? = w.heap[k]?
theorem But.refl (S : Nat → Prop) (w : World) : But S w w := ⟨rfl, rfl, rfl, Nat.le_refl _, fun _ _ _ => rfl⟩
theorem But.trans {S : Nat → Prop} {a b c : World} (h : But S a b) (k : But S b c) : But S a c :=
  ⟨k.os.trans h.os, k.tape.trans h.tape, k.output.trans h.output, Nat.le_trans h.size k.size, fun i hi hs => (k.block i (Nat.lt_of_lt_of_le hi h.size) hs).trans (h.block i hi hs)⟩
theorem But.of_below {S : Nat → Prop} {a b : World} (h : Below a.heap.size a b) : But S a b := ⟨h.os, h.tape, h.output, h.size, fun k hk _ => h.block k hk⟩
theorem But.set {S : Nat → Prop} (w : World) {p : Addr} (hp : S p.block) (u : Value) : But S w (w.setCell p u) :=
  ⟨rfl, rfl, rfl, by simp [World.setCell], fun k _ hs => Below.heap_setCell w p u k (fun e => hs (e ▸ hp))⟩
theorem But.alloc {S : Nat → Prop} (w : World) (o : Obj) : But S w (w.alloc o) := But.of_below ((Below.refl _ _).alloc (Nat.le_refl _) _)
theorem But.drew {S : Nat → Prop} {w w' : World} (h : But S w w') : But S w w'.drew := ⟨h.os, h.tape, h.output, h.size, h.block⟩
theorem But.below {S : Nat → Prop} {B : Nat} {w0 w w' : World} (h : But S w w') (hb : Below B w0 w) (hB : B ≤ w.heap.size) (hS : ∀ k, S k → B ≤ k) : Below B w0 w' :=
  hb.trans ⟨h.os, h.tape, h.output, h.size, fun k hk => h.block k (by omega) (fun hs => by have := hS k hs; omega)⟩
theorem Blk.but {S : Nat → Prop} {w w' : World} {b : Nat} {T : TypeId} {cs : Array Value} (h : Blk w b T cs) (hb : But S w w') (hs : ¬ S b) : Blk w' b T cs := (hb.block b h.lt hs).trans h

theorem run_eqV (xk xi pk pi : Int) (xt pt : ByteArray) (w : World) : (binOp .eql 67 (.agg #[.int .i64 xk, .int .i64 xi, .string xt]) (.agg #[.int .i64 pk, .int .i64 pi, .string pt])).run Tryz.prog w =
    .ok (.bool (decide ((⟨xk, xi, xt⟩ : Vl) = ⟨pk, pi, pt⟩))) w := by
  have h : decide ((⟨xk, xi, xt⟩ : Vl) = ⟨pk, pi, pt⟩) = ((xk == pk) && ((xi == pi) && (xt.toList == pt.toList))) := by
    rw [Bool.eq_iff_iff]
    simp only [Vl.mk.injEq, text_eq, decide_eq_true_eq, Bool.and_eq_true, beq_iff_eq]
  rw [h]
  by_cases h1 : (xk == pk) = true
  · by_cases h2 : (xi == pi) = true
    · simp [go_sem, h1, h2]
      split <;> simp_all
    · simp [go_sem, h1, h2]
  · simp [go_sem, h1]
theorem far_cell {w : World} {a p : Addr} {v u : Value} (h : w.cell? a = some v) (hne : a.block ≠ p.block) : (w.setCell p u).cell? a = some v := by
  rw [World.cell?_setCell_other w p a u (fun e => hne (by rw [e]))]
  exact h
theorem info_vl : (Tryz.prog.info? 67).map (fun i => (i.zero, i.size, i.bytes)) = some (some (.agg #[.int .i64 0, .int .i64 0, .string ⟨#[]⟩]), 3, 32) := by kernel_rfl
theorem take_snoc' {α : Type} {l : List α} {k : Nat} {x : α} (h : l[k]? = some x) : l.take (k + 1) = l.take k ++ [x] := by
  rw [List.take_add_one, h]; rfl
theorem drop_at {α : Type} {l : List α} {k : Nat} {x : α} (h : l[k]? = some x) : l.drop k = x :: l.drop (k + 1) := by
  have hk := (List.getElem?_eq_some_iff.1 h).1
  rw [List.drop_eq_getElem_cons hk, (List.getElem?_eq_some_iff.1 h).2]
end Go.Proofs.YtponkkljlbifmaaGreat

/-
  More words for memory: append of a slice that reads as a list; slices under a change of some blocks. No program here.
-/
namespace Go.Proofs.YtponkkljlbifmaaGreat
open Go.RowKit
set_option maxRecDepth 100000

theorem add_at (b o j : Nat) : (⟨b, o, none⟩ : Addr).add j = ⟨b, o + j, none⟩ := by unfold Addr.add; split <;> simp_all
theorem flat_get {α : Type} {sz : Nat} {cs : α → List Value} (hcs : ∀ x, (cs x).length = sz) (hsz : 0 < sz) (l : List α) (j : Nat) (u : Value) (h : (l.flatMap cs)[j]? = some u) : ∃ x, l[j / sz]? = some x ∧ (cs x)[j % sz]? = some u := by
  have hj : j < l.length * sz := by have := (List.getElem?_eq_some_iff.1 h).1; rwa [flat_len hcs] at this
  have hq : j / sz < l.length := (Nat.div_lt_iff_lt_mul hsz).2 hj
  have hr : j % sz < (cs l[j / sz]).length := by rw [hcs]; exact Nat.mod_lt _ hsz
  refine ⟨l[j / sz], List.getElem?_eq_getElem hq, ?_⟩
  have h1 := flat_at hcs l (j / sz) _ (j % sz) _ (List.getElem?_eq_getElem hq) (List.getElem?_eq_getElem hr)
  rw [Nat.mul_comm, Nat.div_add_mod] at h1
  rw [h] at h1
  rw [List.getElem?_eq_getElem hr]
  exact h1.symm
/-- append of a slice that reads as a list (nil, empty or not) onto a row of the call's own -/
theorem wpList_append_sl {α : Type} {cs : α → List Value} {P : Program} (w : World) {ops : Array Oper} {rest : List Oper} {o : Oper} {a : Act} {Q : Exit → Act → World → Prop} (hgd : o.guard = none) (s x : Operand) (t : TypeId)
    (ho : o.op = .call { callee := .builtin .append, args := #[s, x], argTypes := #[t, t] })
    (base : Nat) (e : TypeId) (i : TypeInfo) (z : Value) (size bytes : Nat) (ht : P.underlying t = some (.slice e)) (hi : P.info? e = some i) (hz : i.zero = some z)
    (hsize : i.size = size) (hby : i.bytes = bytes) (hzs : z.cells.size = size) (hsz : 0 < size)
    (v : Value) (n : Nat) (xs : List α) (hs : a.eval s = v) (hown : w.ownsRow base e size v n (xs.flatMap cs))
    (A : Option Addr) (m c : Nat) (l : List α) (hx : a.eval x = .slice A m c) (hl : Sl size cs w A m l) (hnil : A = none → m = 0 ∧ c = 0) (hsp : ∀ ad, A = some ad → ad.spot = none) (hcs : ∀ y, (cs y).length = size) (h1 : ∀ y, ∀ u ∈ cs y, u.oneCell' = true)
    (h63 : n + m ≤ maxLen) (hbytes : (n + m) * bytes ≤ 140737488355328) (hbase : base ≤ w.heap.size)
    (h : ∀ A' c' w', w'.ownsRow base e size (.slice A' (n + m) c') (n + m) ((xs ++ l).flatMap cs) → w.grownBy w' v.ownBlock → Below base w w' → ((Value.slice A' (n + m) c').ownBlock = v.ownBlock ∨ (Value.slice A' (n + m) c').ownBlock = some w.heap.size) → (A' = none → n + m = 0 ∧ c' = 0) →
      wpList P ops Q rest (a.put o.dst (.slice A' (n + m) c')) w') : wpList P ops Q (o :: rest) a w := by
  cases A with
  | none =>
    obtain ⟨rfl, rfl⟩ := hnil rfl
    have hnl : l = [] := List.eq_nil_of_length_eq_zero hl.len
    subst hnl
    refine wpList_append_own_none hgd s x t ho base e i size ht hi v n _ hs hown hx ?_
    rcases hown.2 with ⟨rfl, rfl⟩ | ⟨g, cap, cur, rfl, _, hh, r⟩
    · exact h none 0 w (by simpa using hown) (World.grownBy.refl w _) (Below.refl _ _) (.inl rfl) (fun _ => ⟨rfl, rfl⟩)
    · exact h (some ⟨g, 0, none⟩) cap w (by simpa using hown) (World.grownBy.refl w _) (Below.refl _ _) (.inl rfl) (fun h => by cases h)
  | some ad =>
    obtain ⟨b, off, sp⟩ := ad
    obtain rfl : sp = none := hsp _ rfl
    refine wpList_append_own_at w hgd s x t ho base e i z size bytes ht hi hz hsize hby hzs hsz v n _ hs hown ⟨b, off, none⟩ m c (l.flatMap cs) hx (by rw [flat_len hcs, hl.len]) (fun j u hu => ?_) (fun u hu => ?_) h63 hbytes hbase ?_
    · obtain ⟨y, hy, hyu⟩ := flat_get hcs hsz l j u hu
      have hm : 0 < m := by
        have h3 := (List.getElem?_eq_some_iff.1 hy).1
        rw [hl.len] at h3
        exact Nat.lt_of_le_of_lt (Nat.zero_le _) h3
      obtain ⟨b', o', hA, hc⟩ := hl.2 hm
      injection hA with hA
      injection hA with e1 e2
      subst e1 e2
      have h2 := hc _ y hy _ u hyu
      rw [add_at, ← h2, Nat.add_assoc, Nat.mul_comm, Nat.div_add_mod]
    · rw [List.mem_flatMap] at hu
      obtain ⟨y, _, hu⟩ := hu
      exact h1 y u hu
    · intro v' w' ho2 hg2 _ hat
      have hB := (Below.refl base w).grown hg2 hbase (own_base hown)
      rw [← List.flatMap_append] at ho2
      rcases ho2.2 with ⟨hv', hnm⟩ | ⟨g, cap, cur, hv', hb2, hh, hnc, hmx, r⟩
      · have : v' = .slice none (n + m) 0 := by rw [hv', hnm]
        rw [this] at ho2 hat ⊢
        exact h none 0 w' ho2 hg2 hB hat (fun _ => ⟨hnm, rfl⟩)
      · rw [hv'] at ho2 hat ⊢
        exact h (some ⟨g, 0, none⟩) cap w' ho2 hg2 hB hat (fun h => by cases h)
/-- the same; nothing is asked of the address of an empty slice -/
theorem wpList_append_sf {α : Type} {cs : α → List Value} {P : Program} (w : World) {ops : Array Oper} {rest : List Oper} {o : Oper} {a : Act} {Q : Exit → Act → World → Prop} (hgd : o.guard = none) (s x : Operand) (t : TypeId)
    (ho : o.op = .call { callee := .builtin .append, args := #[s, x], argTypes := #[t, t] })
    (base : Nat) (e : TypeId) (i : TypeInfo) (z : Value) (size bytes : Nat) (ht : P.underlying t = some (.slice e)) (hi : P.info? e = some i) (hz : i.zero = some z)
    (hsize : i.size = size) (hby : i.bytes = bytes) (hzs : z.cells.size = size) (hsz : 0 < size)
    (v : Value) (n : Nat) (xs : List α) (hs : a.eval s = v) (hown : w.ownsRow base e size v n (xs.flatMap cs))
    (A : Option Addr) (m c : Nat) (l : List α) (hx : a.eval x = .slice A m c) (hl : Sl size cs w A m l) (hnil : A = none → m = 0 ∧ c = 0) (hcs : ∀ y, (cs y).length = size) (h1 : ∀ y, ∀ u ∈ cs y, u.oneCell' = true)
    (h63 : n + m ≤ maxLen) (hbytes : (n + m) * bytes ≤ 140737488355328) (hbase : base ≤ w.heap.size)
    (h : ∀ A' c' w', w'.ownsRow base e size (.slice A' (n + m) c') (n + m) ((xs ++ l).flatMap cs) → w.grownBy w' v.ownBlock → Below base w w' → ((Value.slice A' (n + m) c').ownBlock = v.ownBlock ∨ (Value.slice A' (n + m) c').ownBlock = some w.heap.size) → (A' = none → n + m = 0 ∧ c' = 0) →
      wpList P ops Q rest (a.put o.dst (.slice A' (n + m) c')) w') : wpList P ops Q (o :: rest) a w := by
  cases A with
  | none =>
    obtain ⟨rfl, rfl⟩ := hnil rfl
    have hnl : l = [] := List.eq_nil_of_length_eq_zero hl.len
    subst hnl
    refine wpList_append_own_none hgd s x t ho base e i size ht hi v n _ hs hown hx ?_
    rcases hown.2 with ⟨rfl, rfl⟩ | ⟨g, cap, cur, rfl, _, hh, r⟩
    · exact h none 0 w (by simpa using hown) (World.grownBy.refl w _) (Below.refl _ _) (.inl rfl) (fun _ => ⟨rfl, rfl⟩)
    · exact h (some ⟨g, 0, none⟩) cap w (by simpa using hown) (World.grownBy.refl w _) (Below.refl _ _) (.inl rfl) (fun h => by cases h)
  | some ad =>
    refine wpList_append_own_at w hgd s x t ho base e i z size bytes ht hi hz hsize hby hzs hsz v n _ hs hown ad m c (l.flatMap cs) hx (by rw [flat_len hcs, hl.len]) (fun j u hu => ?_) (fun u hu => ?_) h63 hbytes hbase ?_
    · obtain ⟨y, hy, hyu⟩ := flat_get hcs hsz l j u hu
      have hm : 0 < m := by
        have h3 := (List.getElem?_eq_some_iff.1 hy).1
        rw [hl.len] at h3
        exact Nat.lt_of_le_of_lt (Nat.zero_le _) h3
      obtain ⟨b', o', hA, hc⟩ := hl.2 hm
      injection hA with hA
      subst hA
      have h2 := hc _ y hy _ u hyu
      rw [add_at, ← h2, Nat.add_assoc, Nat.mul_comm, Nat.div_add_mod]
    · rw [List.mem_flatMap] at hu
      obtain ⟨y, _, hu⟩ := hu
      exact h1 y u hu
    · intro v' w' ho2 hg2 _ hat
      have hB := (Below.refl base w).grown hg2 hbase (own_base hown)
      rw [← List.flatMap_append] at ho2
      rcases ho2.2 with ⟨hv', hnm⟩ | ⟨g, cap, cur, hv', hb2, hh, hnc, hmx, r⟩
      · have : v' = .slice none (n + m) 0 := by rw [hv', hnm]
        rw [this] at ho2 hat ⊢
        exact h none 0 w' ho2 hg2 hB hat (fun _ => ⟨hnm, rfl⟩)
      · rw [hv'] at ho2 hat ⊢
        exact h (some ⟨g, 0, none⟩) cap w' ho2 hg2 hB hat (fun h => by cases h)
theorem Sl.but {α : Type} {sz : Nat} {cs : α → List Value} {w w' : World} {A : Option Addr} {n : Nat} {l : List α} {S : Nat → Prop} (h : Sl sz cs w A n l) (hb : But S w w') (hs : 0 < n → ∀ b o, A = some ⟨b, o, none⟩ → ¬ S b) : Sl sz cs w' A n l := by
  refine ⟨h.1, fun hn => ?_⟩
  obtain ⟨b, o, e, hc⟩ := h.2 hn
  refine ⟨b, o, e, fun k x hx j u hu => ?_⟩
  have h1 := hc k x hx j u hu
  have hlt := cell_lt (w := w) (a := ⟨b, o + k * sz + j, none⟩) (by rw [h1]; rfl)
  rw [World.cell?_of_block (w := w) (hb.block b hlt (hs hn b o e))]
  exact h1
/-- append of one element that was built just before; what the append itself changes -/
theorem wpList_append_one2 {P : Program} {ops : Array Oper} {rest : List Oper} {o : Oper} {a : Act} {Q : Exit → Act → World → Prop} (hgd : o.guard = none) (s x : Operand) (t : TypeId)
    (ho : o.op = .call { callee := .builtin .append, args := #[s, x], argTypes := #[t, t] })
    (base : Nat) (e : TypeId) (i : TypeInfo) (z : Value) (size bytes : Nat) (ht : P.underlying t = some (.slice e)) (hi : P.info? e = some i) (hz : i.zero = some z)
    (hsize : i.size = size) (hby : i.bytes = bytes) (hzs : z.cells.size = size) (hsz : 0 < size)
    (v : Value) (n : Nat) (xs : List Value) (hs : a.eval s = v) (W : World) (cells : Array Value) (hown : W.ownsRow base e size v n xs) (H : Nat) (hH : W.heap.size = H)
    (hx : a.eval x = .slice (some ⟨H, 0, none⟩) 1 1) (hcl : cells.toList.length = 1 * size) (h1 : ∀ u ∈ cells.toList, u.oneCell' = true)
    (h63 : n + 1 ≤ maxLen) (hbytes : (n + 1) * bytes ≤ 140737488355328) (hbase : base ≤ W.heap.size)
    (h : ∀ g cap w', w'.ownsRow base e size (.slice (some ⟨g, 0, none⟩) (n + 1) cap) (n + 1) (xs ++ cells.toList) → (W.alloc (.cells cells e)).grownBy w' v.ownBlock → Below base W w' → (v.ownBlock = some g ∨ g = H + 1) → g < w'.heap.size →
      wpList P ops Q rest (a.put o.dst (.slice (some ⟨g, 0, none⟩) (n + 1) cap)) w') : wpList P ops Q (o :: rest) a (W.alloc (.cells cells e)) := by
  subst hH
  refine wpList_append_lies _ hgd s x t ho base e i z size bytes ht hi hz hsize hby hzs hsz v n xs hs (hown.alloc _) ⟨W.heap.size, 0, none⟩ 1 1 cells.toList hx hcl (World.news_of_block (heap_alloc_new W _)) h1 (by omega) h63 hbytes (by simp; omega) (W.heap.size + 1) (by simp) ?_
  intro g cap w' ho2 hg2 hat hlt
  exact h g cap w' ho2 hg2 ((Below.refl _ _).grown (grown_of_alloc hg2) hbase (own_base hown)) hat hlt
theorem But.of_grown {S : Nat → Prop} {w w' : World} {row : Option Nat} (hg : w.grownBy w' row) (hS : ∀ k, row = some k → S k) : But S w w' :=
  ⟨hg.os, hg.tape, hg.output, hg.size, fun k hk hs => hg.block k hk (fun e => hs (hS k e.symm))⟩
theorem Sl.take {α : Type} {sz : Nat} {cs : α → List Value} {w : World} {A : Option Addr} {n : Nat} {l : List α} (h : Sl sz cs w A n l) (m : Nat) (hm : m ≤ n) : Sl sz cs w A m (l.take m) := by
  have hl := h.1
  refine ⟨by simp; omega, fun h0 => ?_⟩
  obtain ⟨b, o, e, hc⟩ := h.2 (by omega)
  refine ⟨b, o, e, fun k x hx => hc k x ?_⟩
  rw [List.getElem?_take] at hx
  split at hx
  · exact hx
  · cases hx
end Go.Proofs.YtponkkljlbifmaaGreat

/-
  Case.column.
-/
namespace Go.Proofs.YtponkkljlbifmaaGreat
open Go.RowKit
set_option maxRecDepth 100000

set_option maxHeartbeats 1000000 in
theorem column_any (s : ByteArray) (k : Int) (w : World) : Calls Tryz.prog 21 #[.string s, .int .i64 k] w fun e w' => e = .returned (.agg #[.string s, .int .i64 k]) ∧ Below w.heap.size w w' := by
  have HX := Lib.hid (((Blk.new w 56 #[.string ⟨#[]⟩, .int .i64 0]).set_ 0 (.string s)).set_ 1 (.int .i64 k))
  have z := (Blk.new w 56 #[.string ⟨#[]⟩, .int .i64 0]).cell
  have zf := (Blk.new w 56 #[.string ⟨#[]⟩, .int .i64 0]).free
  simp only [List.setIfInBounds_toArray, List.set_cons_succ, List.set_cons_zero] at HX
  go_enter Tryz.func21, Tryz.ntmps21
  go_wp2
  have zc := HX.out.cell
  exact bodyPost_ret (v := .agg #[.string s, .int .i64 k]) (by simp [results, Tryz.results21, go_sem]) rfl ⟨rfl, (Below.refl _ _).alloc (Nat.le_refl _) _⟩
end Go.Proofs.YtponkkljlbifmaaGreat

/-
  Plain mathematics: the order of values is total. No program here.
-/
namespace Go.Proofs.YtponkkljlbifmaaGreat
open Go.RowKit
set_option maxRecDepth 100000

theorem cmpB_trans : ∀ a b c : List UInt8, cmpB a b ≤ 0 → cmpB b c ≤ 0 → cmpB a c ≤ 0
  | [], _, [], _, _ => by simp [cmpB]
  | [], _, _ :: _, _, _ => by simp [cmpB]
  | _ :: _, [], _, h, _ => by simp [cmpB] at h
  | _ :: _, _ :: _, [], _, h => by simp [cmpB] at h
  | a :: x, b :: y, c :: z, h1, h2 => by
    have ih := cmpB_trans x y z
    simp only [cmpB, UInt8.lt_iff_toNat_lt] at h1 h2 ⊢
    repeat' split at h1
    all_goals (repeat' split at h2)
    all_goals (repeat' split)
    all_goals first | omega | exact ih h1 h2
theorem cmpV_trans {a b c : Vl} (h1 : cmpV a b ≤ 0) (h2 : cmpV b c ≤ 0) : cmpV a c ≤ 0 := by
  have ih := cmpB_trans a.t.toList b.t.toList c.t.toList
  unfold cmpV at h1 h2 ⊢
  repeat' split at h1
  all_goals (repeat' split at h2)
  all_goals (repeat' split)
  all_goals first | omega | exact ih h1 h2
theorem cmpV_self (a : Vl) : cmpV a a = 0 := (cmpV_zero a a).2 rfl
theorem cmpV_lt_of_le {a b c : Vl} (h1 : cmpV a b ≤ 0) (h2 : cmpV b c < 0) : cmpV a c < 0 := by
  rcases Int.lt_or_le (cmpV a c) 0 with h | h
  · exact h
  · have e1 := cmpV_anti a c
    have e2 := cmpV_anti b c
    have := cmpV_trans (a := c) (b := a) (c := b) (by omega) h1
    omega
theorem cmpV_lt_of_lt {a b c : Vl} (h1 : cmpV a b < 0) (h2 : cmpV b c ≤ 0) : cmpV a c < 0 := by
  rcases Int.lt_or_le (cmpV a c) 0 with h | h
  · exact h
  · have e1 := cmpV_anti a c
    have e2 := cmpV_anti a b
    have := cmpV_trans (a := b) (b := c) (c := a) h2 (by omega)
    omega
theorem cmpV_lt_trans {a b c : Vl} (h1 : cmpV a b < 0) (h2 : cmpV b c < 0) : cmpV a c < 0 := cmpV_lt_of_le (by omega) h2
theorem cmpV_gt {a b : Vl} (h : ¬ cmpV a b ≤ 0) : cmpV b a < 0 := by have := cmpV_anti a b; omega
theorem cmpV_not {a b : Vl} (h : cmpV b a < 0) : ¬ cmpV a b ≤ 0 := by have := cmpV_anti a b; omega

end Go.Proofs.YtponkkljlbifmaaGreat

/-
  Plain words: which values an interval and a list of intervals contain. No program here.
-/
namespace Go.Proofs.YtponkkljlbifmaaGreat
open Go.RowKit
set_option maxRecDepth 100000

def inI (x : Iv) (v : Vl) : Bool := decide (cmpV x.f v ≤ 0) && (x.o || decide (cmpV v x.t < 0))
def inL (l : List Iv) (v : Vl) : Bool := l.any (inI · v)
end Go.Proofs.YtponkkljlbifmaaGreat

namespace Go.Proofs.YtponkkljlbifmaaGreat
open Go.RowKit
set_option maxRecDepth 100000
def ptsL : List Iv → List Vl
  | [] => []
  | x :: r => if x.o then x.f :: ptsL r else x.f :: x.t :: ptsL r
end Go.Proofs.YtponkkljlbifmaaGreat

namespace Go.Proofs.YtponkkljlbifmaaGreat
open Go.RowKit
set_option maxRecDepth 100000
set_option linter.unusedVariables false

/-- the captured variables of merge: two counters and two slices -/
structure MCap (w : World) (gi gj ga gb : Nat) (i j : Nat) (A B : Option Addr) (n m ca cb : Nat) : Prop where
  hi : Blk w gi 3 #[.int .i64 i]
  hj : Blk w gj 3 #[.int .i64 j]
  ha : Blk w ga 74 #[.slice A n ca]
  hb : Blk w gb 74 #[.slice B m cb]

def leastL : List Vl → List Vl → Vl
  | [], [] => zeroV
  | x :: _, [] => x
  | [], y :: _ => y
  | x :: _, y :: _ => if cmpV x y < 0 then x else y

end Go.Proofs.YtponkkljlbifmaaGreat

namespace Go.Proofs.YtponkkljlbifmaaGreat
open Go.RowKit
set_option maxRecDepth 100000
set_option linter.unusedVariables false

def hitL (la : List Vl) (p : Vl) : Bool := match la with
  | [] => false
  | x :: _ => decide (x = p)
theorem MCap.lt {w : World} {gi gj ga gb i j : Nat} {A B : Option Addr} {n m ca cb : Nat} (h : MCap w gi gj ga gb i j A B n m ca cb) : gi < w.heap.size ∧ gj < w.heap.size ∧ ga < w.heap.size ∧ gb < w.heap.size := ⟨h.hi.lt, h.hj.lt, h.ha.lt, h.hb.lt⟩
theorem MCap.alloc {w : World} {gi gj ga gb i j : Nat} {A B : Option Addr} {n m ca cb : Nat} (h : MCap w gi gj ga gb i j A B n m ca cb) (o : Obj) : MCap (w.alloc o) gi gj ga gb i j A B n m ca cb := ⟨h.hi.alloc o, h.hj.alloc o, h.ha.alloc o, h.hb.alloc o⟩
theorem MCap.below {w w' : World} {gi gj ga gb i j : Nat} {A B : Option Addr} {n m ca cb : Nat} (h : MCap w gi gj ga gb i j A B n m ca cb) (hb : Below w.heap.size w w') : MCap w' gi gj ga gb i j A B n m ca cb := ⟨h.hi.below hb, h.hj.below hb, h.ha.below hb, h.hb.below hb⟩
theorem MCap.grown {w w' : World} {gi gj ga gb i j : Nat} {A B : Option Addr} {n m ca cb : Nat} (h : MCap w gi gj ga gb i j A B n m ca cb) {row : Option Nat} (hg : w.grownBy w' row) (hr : some gi ≠ row ∧ some gj ≠ row ∧ some ga ≠ row ∧ some gb ≠ row) : MCap w' gi gj ga gb i j A B n m ca cb :=
  ⟨h.hi.grown hg hr.1, h.hj.grown hg hr.2.1, h.ha.grown hg hr.2.2.1, h.hb.grown hg hr.2.2.2⟩

theorem MCap.drew {w : World} {gi gj ga gb i j : Nat} {A B : Option Addr} {n m ca cb : Nat} (h : MCap w gi gj ga gb i j A B n m ca cb) : MCap w.drew gi gj ga gb i j A B n m ca cb := ⟨h.hi, h.hj, h.ha, h.hb⟩
end Go.Proofs.YtponkkljlbifmaaGreat

namespace Go.Proofs.YtponkkljlbifmaaGreat
open Go.RowKit
set_option maxRecDepth 100000

def setLast (out : List Iv) (p : Vl) : List Iv := match out.getLast? with
  | none => out
  | some x => out.dropLast ++ [⟨x.f, p, false⟩]
def outStep (ins now : Bool) (p : Vl) (out : List Iv) : List Iv :=
  if now && !ins then out ++ [⟨p, zeroV, true⟩] else if !now && ins then setLast out p else out
def mergeF (op : Bool → Bool → Bool) : Nat → List Vl → List Vl → Bool → Bool → Bool → List Iv → List Iv
  | 0, _, _, _, _, _, out => out
  | f + 1, la, lb, ia, ib, ins, out =>
    if la.isEmpty && lb.isEmpty then out else
      mergeF op f (if hitL la (leastL la lb) then la.tail else la) (if hitL lb (leastL la lb) then lb.tail else lb) (xor (hitL la (leastL la lb)) ia) (xor (hitL lb (leastL la lb)) ib)
        (op (xor (hitL la (leastL la lb)) ia) (xor (hitL lb (leastL la lb)) ib)) (outStep ins (op (xor (hitL la (leastL la lb)) ia) (xor (hitL lb (leastL la lb)) ib)) (leastL la lb) out)
def mergeL (op : Bool → Bool → Bool) (a b : List Iv) : List Iv := mergeF op ((ptsL a).length + (ptsL b).length) (ptsL a) (ptsL b) false false false []
theorem hit_one {la lb : List Vl} (h : ¬ (la.isEmpty && lb.isEmpty) = true) : hitL la (leastL la lb) = true ∨ hitL lb (leastL la lb) = true := by
  cases la <;> cases lb <;> simp [leastL, hitL] at h ⊢
  omega
theorem MCap.far {w : World} {gi gj ga gb i j : Nat} {A B : Option Addr} {n m ca cb : Nat} (h : MCap w gi gj ga gb i j A B n m ca cb) {p : Addr} (hr : gi ≠ p.block ∧ gj ≠ p.block ∧ ga ≠ p.block ∧ gb ≠ p.block) (u : Value) : MCap (w.setCell p u) gi gj ga gb i j A B n m ca cb :=
  ⟨h.hi.far hr.1 u, h.hj.far hr.2.1 u, h.ha.far hr.2.2.1 u, h.hb.far hr.2.2.2 u⟩
end Go.Proofs.YtponkkljlbifmaaGreat
