/-
  More words for memory: append of a slice that reads as a list; slices under a change of some blocks. No program here.
-/
import Derived.Test.YtnocbigcdjlliaaBut
import Derived.Laws.AppendOwnNone
namespace Go.Proofs.Ytnocbigcdjlliaa
open Go.RowKit

theorem add_at (b o j : Nat) : (⟨b, o, none⟩ : Addr).add j = ⟨b, o + j, none⟩ := by unfold Addr.add; split <;> simp_all
theorem flat_get {α : Type} {sz : Nat} {cs : α → List Value} (hcs : ∀ x, (cs x).length = sz) (hsz : 0 < sz) (l : List α) (j : Nat) (u : Value) (h : (l.flatMap cs)[j]? = some u) : ∃ x, l[j / sz]? = some x ∧ (cs x)[j % sz]? = some u := by
  have hj : j < l.length * sz := by have := (List.getElem?_eq_some_iff.1 h).1; rwa [flat_len hcs] at this
  have hq : j / sz < l.length := (Nat.div_lt_iff_lt_mul hsz).2 hj
  have hr : j % sz < (cs l[j / sz]).length := by rw [hcs]; exact Nat.mod_lt _ hsz
  refine ⟨l[j / sz], List.getElem?_eq_getElem hq, ?_⟩
  have h1 := flat_at hcs l (j / sz) _ (j % sz) _ (List.getElem?_eq_getElem hq) (List.getElem?_eq_getElem hr)
  rw [Nat.mul_comm, Nat.div_add_mod] at h1
  rw [h] at h1
  rw [List.getElem?_eq_getElem hr]
  exact h1.symm
/-- append of a slice that reads as a list (nil, empty or not) onto a row of the call's own -/
theorem wpList_append_sl {α : Type} {cs : α → List Value} {P : Program} (w : World) {ops : Array Oper} {rest : List Oper} {o : Oper} {a : Act} {Q : Exit → Act → World → Prop} (hgd : o.guard = none) (s x : Operand) (t : TypeId)
    (ho : o.op = .call { callee := .builtin .append, args := #[s, x], argTypes := #[t, t] })
    (base : Nat) (e : TypeId) (i : TypeInfo) (z : Value) (size bytes : Nat) (ht : P.underlying t = some (.slice e)) (hi : P.info? e = some i) (hz : i.zero = some z)
    (hsize : i.size = size) (hby : i.bytes = bytes) (hzs : z.cells.size = size) (hsz : 0 < size)
    (v : Value) (n : Nat) (xs : List α) (hs : a.eval s = v) (hown : w.ownsRow base e size v n (xs.flatMap cs))
    (A : Option Addr) (m c : Nat) (l : List α) (hx : a.eval x = .slice A m c) (hl : Sl size cs w A m l) (hnil : A = none → m = 0 ∧ c = 0) (hsp : ∀ ad, A = some ad → ad.spot = none) (hcs : ∀ y, (cs y).length = size) (h1 : ∀ y, ∀ u ∈ cs y, u.oneCell' = true)
    (h63 : n + m ≤ maxLen) (hbytes : (n + m) * bytes ≤ 140737488355328) (hbase : base ≤ w.heap.size)
    (h : ∀ A' c' w', w'.ownsRow base e size (.slice A' (n + m) c') (n + m) ((xs ++ l).flatMap cs) → w.grownBy w' v.ownBlock → Below base w w' → ((Value.slice A' (n + m) c').ownBlock = v.ownBlock ∨ (Value.slice A' (n + m) c').ownBlock = some w.heap.size) → (A' = none → n + m = 0 ∧ c' = 0) →
      wpList P ops Q rest (a.put o.dst (.slice A' (n + m) c')) w') : wpList P ops Q (o :: rest) a w := by
  cases A with
  | none =>
    obtain ⟨rfl, rfl⟩ := hnil rfl
    have hnl : l = [] := List.eq_nil_of_length_eq_zero hl.len
    subst hnl
    refine wpList_append_own_none hgd s x t ho base e i size ht hi v n _ hs hown hx ?_
    rcases hown.2 with ⟨rfl, rfl⟩ | ⟨g, cap, cur, rfl, _, hh, r⟩
    · exact h none 0 w (by simpa using hown) (World.grownBy.refl w _) (Below.refl _ _) (.inl rfl) (fun _ => ⟨rfl, rfl⟩)
    · exact h (some ⟨g, 0, none⟩) cap w (by simpa using hown) (World.grownBy.refl w _) (Below.refl _ _) (.inl rfl) (fun h => by cases h)
  | some ad =>
    obtain ⟨b, off, sp⟩ := ad
    obtain rfl : sp = none := hsp _ rfl
    refine wpList_append_own_at w hgd s x t ho base e i z size bytes ht hi hz hsize hby hzs hsz v n _ hs hown ⟨b, off, none⟩ m c (l.flatMap cs) hx (by rw [flat_len hcs, hl.len]) (fun j u hu => ?_) (fun u hu => ?_) h63 hbytes hbase ?_
    · obtain ⟨y, hy, hyu⟩ := flat_get hcs hsz l j u hu
      have hm : 0 < m := by
        have h3 := (List.getElem?_eq_some_iff.1 hy).1
        rw [hl.len] at h3
        exact Nat.lt_of_le_of_lt (Nat.zero_le _) h3
      obtain ⟨b', o', hA, hc⟩ := hl.2 hm
      injection hA with hA
      injection hA with e1 e2
      subst e1 e2
      have h2 := hc _ y hy _ u hyu
      rw [add_at, ← h2, Nat.add_assoc, Nat.mul_comm, Nat.div_add_mod]
    · rw [List.mem_flatMap] at hu
      obtain ⟨y, _, hu⟩ := hu
      exact h1 y u hu
    · intro v' w' ho2 hg2 _ hat
      have hB := (Below.refl base w).grown hg2 hbase (own_base hown)
      rw [← List.flatMap_append] at ho2
      rcases ho2.2 with ⟨hv', hnm⟩ | ⟨g, cap, cur, hv', hb2, hh, hnc, hmx, r⟩
      · have : v' = .slice none (n + m) 0 := by rw [hv', hnm]
        rw [this] at ho2 hat ⊢
        exact h none 0 w' ho2 hg2 hB hat (fun _ => ⟨hnm, rfl⟩)
      · rw [hv'] at ho2 hat ⊢
        exact h (some ⟨g, 0, none⟩) cap w' ho2 hg2 hB hat (fun h => by cases h)
/-- the same; nothing is asked of the address of an empty slice -/
theorem wpList_append_sf {α : Type} {cs : α → List Value} {P : Program} (w : World) {ops : Array Oper} {rest : List Oper} {o : Oper} {a : Act} {Q : Exit → Act → World → Prop} (hgd : o.guard = none) (s x : Operand) (t : TypeId)
    (ho : o.op = .call { callee := .builtin .append, args := #[s, x], argTypes := #[t, t] })
    (base : Nat) (e : TypeId) (i : TypeInfo) (z : Value) (size bytes : Nat) (ht : P.underlying t = some (.slice e)) (hi : P.info? e = some i) (hz : i.zero = some z)
    (hsize : i.size = size) (hby : i.bytes = bytes) (hzs : z.cells.size = size) (hsz : 0 < size)
    (v : Value) (n : Nat) (xs : List α) (hs : a.eval s = v) (hown : w.ownsRow base e size v n (xs.flatMap cs))
    (A : Option Addr) (m c : Nat) (l : List α) (hx : a.eval x = .slice A m c) (hl : Sl size cs w A m l) (hnil : A = none → m = 0 ∧ c = 0) (hcs : ∀ y, (cs y).length = size) (h1 : ∀ y, ∀ u ∈ cs y, u.oneCell' = true)
    (h63 : n + m ≤ maxLen) (hbytes : (n + m) * bytes ≤ 140737488355328) (hbase : base ≤ w.heap.size)
    (h : ∀ A' c' w', w'.ownsRow base e size (.slice A' (n + m) c') (n + m) ((xs ++ l).flatMap cs) → w.grownBy w' v.ownBlock → Below base w w' → ((Value.slice A' (n + m) c').ownBlock = v.ownBlock ∨ (Value.slice A' (n + m) c').ownBlock = some w.heap.size) → (A' = none → n + m = 0 ∧ c' = 0) →
      wpList P ops Q rest (a.put o.dst (.slice A' (n + m) c')) w') : wpList P ops Q (o :: rest) a w := by
  cases A with
  | none =>
    obtain ⟨rfl, rfl⟩ := hnil rfl
    have hnl : l = [] := List.eq_nil_of_length_eq_zero hl.len
    subst hnl
    refine wpList_append_own_none hgd s x t ho base e i size ht hi v n _ hs hown hx ?_
    rcases hown.2 with ⟨rfl, rfl⟩ | ⟨g, cap, cur, rfl, _, hh, r⟩
    · exact h none 0 w (by simpa using hown) (World.grownBy.refl w _) (Below.refl _ _) (.inl rfl) (fun _ => ⟨rfl, rfl⟩)
    · exact h (some ⟨g, 0, none⟩) cap w (by simpa using hown) (World.grownBy.refl w _) (Below.refl _ _) (.inl rfl) (fun h => by cases h)
  | some ad =>
    refine wpList_append_own_at w hgd s x t ho base e i z size bytes ht hi hz hsize hby hzs hsz v n _ hs hown ad m c (l.flatMap cs) hx (by rw [flat_len hcs, hl.len]) (fun j u hu => ?_) (fun u hu => ?_) h63 hbytes hbase ?_
    · obtain ⟨y, hy, hyu⟩ := flat_get hcs hsz l j u hu
      have hm : 0 < m := by
        have h3 := (List.getElem?_eq_some_iff.1 hy).1
        rw [hl.len] at h3
        exact Nat.lt_of_le_of_lt (Nat.zero_le _) h3
      obtain ⟨b', o', hA, hc⟩ := hl.2 hm
      injection hA with hA
      subst hA
      have h2 := hc _ y hy _ u hyu
      rw [add_at, ← h2, Nat.add_assoc, Nat.mul_comm, Nat.div_add_mod]
    · rw [List.mem_flatMap] at hu
      obtain ⟨y, _, hu⟩ := hu
      exact h1 y u hu
    · intro v' w' ho2 hg2 _ hat
      have hB := (Below.refl base w).grown hg2 hbase (own_base hown)
      rw [← List.flatMap_append] at ho2
      rcases ho2.2 with ⟨hv', hnm⟩ | ⟨g, cap, cur, hv', hb2, hh, hnc, hmx, r⟩
      · have : v' = .slice none (n + m) 0 := by rw [hv', hnm]
        rw [this] at ho2 hat ⊢
        exact h none 0 w' ho2 hg2 hB hat (fun _ => ⟨hnm, rfl⟩)
      · rw [hv'] at ho2 hat ⊢
        exact h (some ⟨g, 0, none⟩) cap w' ho2 hg2 hB hat (fun h => by cases h)
theorem Sl.but {α : Type} {sz : Nat} {cs : α → List Value} {w w' : World} {A : Option Addr} {n : Nat} {l : List α} {S : Nat → Prop} (h : Sl sz cs w A n l) (hb : But S w w') (hs : 0 < n → ∀ b o, A = some ⟨b, o, none⟩ → ¬ S b) : Sl sz cs w' A n l := by
  refine ⟨h.1, fun hn => ?_⟩
  obtain ⟨b, o, e, hc⟩ := h.2 hn
  refine ⟨b, o, e, fun k x hx j u hu => ?_⟩
  have h1 := hc k x hx j u hu
  have hlt := cell_lt (w := w) (a := ⟨b, o + k * sz + j, none⟩) (by rw [h1]; rfl)
  rw [World.cell?_of_block (w := w) (hb.block b hlt (hs hn b o e))]
  exact h1
/-- append of one element that was built just before; what the append itself changes -/
theorem wpList_append_one2 {P : Program} {ops : Array Oper} {rest : List Oper} {o : Oper} {a : Act} {Q : Exit → Act → World → Prop} (hgd : o.guard = none) (s x : Operand) (t : TypeId)
    (ho : o.op = .call { callee := .builtin .append, args := #[s, x], argTypes := #[t, t] })
    (base : Nat) (e : TypeId) (i : TypeInfo) (z : Value) (size bytes : Nat) (ht : P.underlying t = some (.slice e)) (hi : P.info? e = some i) (hz : i.zero = some z)
    (hsize : i.size = size) (hby : i.bytes = bytes) (hzs : z.cells.size = size) (hsz : 0 < size)
    (v : Value) (n : Nat) (xs : List Value) (hs : a.eval s = v) (W : World) (cells : Array Value) (hown : W.ownsRow base e size v n xs) (H : Nat) (hH : W.heap.size = H)
    (hx : a.eval x = .slice (some ⟨H, 0, none⟩) 1 1) (hcl : cells.toList.length = 1 * size) (h1 : ∀ u ∈ cells.toList, u.oneCell' = true)
    (h63 : n + 1 ≤ maxLen) (hbytes : (n + 1) * bytes ≤ 140737488355328) (hbase : base ≤ W.heap.size)
    (h : ∀ g cap w', w'.ownsRow base e size (.slice (some ⟨g, 0, none⟩) (n + 1) cap) (n + 1) (xs ++ cells.toList) → (W.alloc (.cells cells e)).grownBy w' v.ownBlock → Below base W w' → (v.ownBlock = some g ∨ g = H + 1) → g < w'.heap.size →
      wpList P ops Q rest (a.put o.dst (.slice (some ⟨g, 0, none⟩) (n + 1) cap)) w') : wpList P ops Q (o :: rest) a (W.alloc (.cells cells e)) := by
  subst hH
  refine wpList_append_lies _ hgd s x t ho base e i z size bytes ht hi hz hsize hby hzs hsz v n xs hs (hown.alloc _) ⟨W.heap.size, 0, none⟩ 1 1 cells.toList hx hcl (World.news_of_block (heap_alloc_new W _)) h1 (by omega) h63 hbytes (by simp; omega) (W.heap.size + 1) (by simp) ?_
  intro g cap w' ho2 hg2 hat hlt
  exact h g cap w' ho2 hg2 ((Below.refl _ _).grown (grown_of_alloc hg2) hbase (own_base hown)) hat hlt
theorem But.of_grown {S : Nat → Prop} {w w' : World} {row : Option Nat} (hg : w.grownBy w' row) (hS : ∀ k, row = some k → S k) : But S w w' :=
  ⟨hg.os, hg.tape, hg.output, hg.size, fun k hk hs => hg.block k hk (fun e => hs (hS k e.symm))⟩
theorem Sl.take {α : Type} {sz : Nat} {cs : α → List Value} {w : World} {A : Option Addr} {n : Nat} {l : List α} (h : Sl sz cs w A n l) (m : Nat) (hm : m ≤ n) : Sl sz cs w A m (l.take m) := by
  have hl := h.1
  refine ⟨by simp; omega, fun h0 => ?_⟩
  obtain ⟨b, o, e, hc⟩ := h.2 (by omega)
  refine ⟨b, o, e, fun k x hx => hc k x ?_⟩
  rw [List.getElem?_take] at hx
  split at hx
  · exact hx
  · cases hx
end Go.Proofs.Ytnocbigcdjlliaa
