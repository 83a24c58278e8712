/-
  Words for memory: what is kept, slices that read as lists, regions that draw their order beside calls that only make memory. No program here.
-/
import Derived.Test.YtnocbigcdjlliaaBase
import Derived.BigQuiet
import Derived.Deep.QuietTactic
import Derived.Maps.AppendAt
namespace Go.Proofs.Ytnocbigcdjlliaa
open Go.RowKit
set_option linter.unusedVariables false

/-- every cell that is there reads in w' as in w -/
def Keeps (w w' : World) : Prop := ∀ a, (w.cell? a).isSome = true → w'.cell? a = w.cell? a

theorem cell_lt {w : World} {a : Addr} (h : (w.cell? a).isSome = true) : a.block < w.heap.size := by
  unfold World.cell? at h
  rcases Nat.lt_or_ge a.block w.heap.size with hlt | hge
  · exact hlt
  · rw [Array.getElem?_eq_none hge] at h; simp at h
theorem Keeps.refl (w : World) : Keeps w w := fun _ _ => rfl
theorem Keeps.trans {a b c : World} (h : Keeps a b) (k : Keeps b c) : Keeps a c := fun x hx => by
  have e := h x hx
  rw [← e] at hx ⊢
  exact k x hx
theorem keeps_of {w w' : World} (hb : Below w.heap.size w w') : Keeps w w' := fun _ h => hb.cell (cell_lt h)
/-- the same as a rule for the walk -/
theorem bcell {w w' : World} (hb : Below w.heap.size w w') : ∀ a, (w.cell? a).isSome = true → w'.cell? a = w.cell? a := keeps_of hb
theorem Below.next {W0 wc w2 : World} (h : Below W0.heap.size W0 wc) (hb : Below wc.heap.size wc w2) : Below W0.heap.size W0 w2 := h.trans (hb.mono h.size)
theorem Keeps.drew {w w' : World} (h : Keeps w w') : Keeps w w'.drew := h
theorem Keeps.drewN {w w' : World} (h : Keeps w w') (n : Nat) : Keeps w (w'.drewN n) := h
theorem keeps_alloc (w : World) (o : Obj) : Keeps w (w.alloc o) := fun a h => World.cell?_alloc_lt w o a (cell_lt h)
theorem Keeps.alloc {w w' : World} (h : Keeps w w') (o : Obj) : Keeps w (w'.alloc o) := h.trans (keeps_alloc _ _)

/-- all later worlds of w: nothing that was there has changed -/
structure Later (w : World) where
  to : World
  below : Below w.heap.size w to
instance (w : World) : Nonempty (Later w) := ⟨⟨w, Below.refl _ _⟩⟩
instance (w : World) : Inhabited (Later w) := ⟨⟨w, Below.refl _ _⟩⟩
def after (w : World) (x : Later w) : World := x.to
theorem cell_after {w : World} (x : Later w) (a : Addr) (h : (w.cell? a).isSome = true) : (after w x).cell? a = w.cell? a := x.below.cell (cell_lt h)

section
variable {P : Program} {w : World}
theorem wpQuiet_imp {ops : Array Oper} {C : World → Prop} {Q Q' : Act → Prop} (hQ : ∀ a, Q a → Q' a) : ∀ (l : List Oper) (a : Act), wpQuiet P ops C Q l a → wpQuiet P ops C Q' l a
  | [], a, h => hQ a h
  | o :: rest, a, h => by
    unfold wpQuiet at h ⊢
    split
    · rename_i hw
      rw [if_pos hw] at h
      exact Oper.quiet_mono (fun a' h' => wpQuiet_imp hQ rest a' h') h
    · rename_i hw
      rw [if_neg hw] at h
      exact wpQuiet_imp hQ rest _ h
theorem wp_region_later {id : Nat} {Q : Exit → Act → World → Prop} {a : Act} {l : List Oper} (hm : P.follows .mixedOrders = true) (hB : Region.lexB .any l.toArray = true)
    (h : wpQuiet P l.toArray (fun W => ∃ x : Later w, W = after w x) (fun a' => ∀ W, Below w.heap.size w W → Q .normal a' W) l a) : (Code.region id l.toArray true).wp P Q a w :=
  wp_region_quiet (C := fun W => ∃ x : Later w, W = after w x) hm hB ⟨⟨{ w with drawn := w.drawn + 1 }, (Below.refl _ _).drew⟩, rfl⟩
    (by
      have h2 := wpQuiet_imp (Q' := fun a' => ∀ W, (∃ x : Later w, W = after w x) → Q .normal a' W) (fun a' h' W ⟨x, hx⟩ => h' W (by rw [hx]; exact x.below)) l a h
      simpa using h2)
theorem later_of {f : FuncId} {args : Array Value} {x : Later w} {v : Value}
    (h : Calls P f args (after w x) fun e w' => e = .returned v ∧ Below (after w x).heap.size (after w x) w') : Calls P f args (after w x) fun e w'' => e = .returned v ∧ ∃ y : Later w, w'' = after w y :=
  h.mono fun _ w' ⟨he, hb⟩ => ⟨he, ⟨w', x.below.trans (hb.mono x.below.size)⟩, rfl⟩
theorem later_of_same {f : FuncId} {args : Array Value} {x : Later w} {v : Value}
    (h : Calls P f args (after w x) fun e w' => e = .returned v ∧ after w x = w') : Calls P f args (after w x) fun e w'' => e = .returned v ∧ ∃ y : Later w, w'' = after w y :=
  h.mono fun _ w' ⟨he, hb⟩ => ⟨he, x, hb.symm⟩
end

/-- the slice value with address A and n elements of sz cells each reads as the list l -/
def Sl {α : Type} (sz : Nat) (cs : α → List Value) (w : World) (A : Option Addr) (n : Nat) (l : List α) : Prop :=
  l.length = n ∧ (0 < n → ∃ b o, A = some ⟨b, o, none⟩ ∧ ∀ (k : Nat) (x : α), l[k]? = some x → ∀ (j : Nat) (u : Value), (cs x)[j]? = some u → w.cell? ⟨b, o + k * sz + j, none⟩ = some u)

section
variable {α : Type} {sz : Nat} {cs : α → List Value} {w w' : World} {A : Option Addr} {n : Nat} {l : List α}
theorem Sl.len (h : Sl sz cs w A n l) : l.length = n := h.1
theorem Sl.keep (h : Sl sz cs w A n l) (hk : Keeps w w') : Sl sz cs w' A n l := by
  refine ⟨h.1, fun hn => ?_⟩
  obtain ⟨b, o, e, hc⟩ := h.2 hn
  refine ⟨b, o, e, fun k x hx j u hu => ?_⟩
  have := hc k x hx j u hu
  rw [hk _ (by rw [this]; rfl)]
  exact this
theorem Sl.nil : Sl sz cs w A 0 ([] : List α) := ⟨rfl, fun h => absurd h (by omega)⟩
theorem Sl.at {k : Nat} (h : Sl sz cs w A n l) (hk : k < n) : ∃ b o x, A = some ⟨b, o, none⟩ ∧ l[k]? = some x ∧ ∀ (j : Nat) (u : Value), (cs x)[j]? = some u → w.cell? ⟨b, o + k * sz + j, none⟩ = some u := by
  obtain ⟨b, o, e, hc⟩ := h.2 (by omega)
  have hl := h.1
  exact ⟨b, o, l[k]'(by omega), e, List.getElem?_eq_getElem _, hc k _ (List.getElem?_eq_getElem _)⟩
end

theorem flat_at {α : Type} {sz : Nat} {cs : α → List Value} (hcs : ∀ x, (cs x).length = sz) : ∀ (l : List α) (k : Nat) (x : α) (j : Nat) (u : Value), l[k]? = some x → (cs x)[j]? = some u → (l.flatMap cs)[k * sz + j]? = some u
  | [], k, x, j, u, h, _ => by simp at h
  | y :: l, 0, x, j, u, h, hu => by
    simp only [List.getElem?_cons_zero, Option.some.injEq] at h
    subst h
    have hj : j < (cs y).length := (List.getElem?_eq_some_iff.1 hu).1
    rw [List.flatMap_cons, Nat.zero_mul, Nat.zero_add, List.getElem?_append_left hj, hu]
  | y :: l, k + 1, x, j, u, h, hu => by
    simp only [List.getElem?_cons_succ] at h
    have ih := flat_at hcs l k x j u h hu
    rw [List.flatMap_cons, List.getElem?_append_right (by rw [hcs, Nat.succ_mul]; omega), hcs, ← ih]
    congr 1
    rw [Nat.succ_mul]; omega
theorem flat_len {α : Type} {sz : Nat} {cs : α → List Value} (hcs : ∀ x, (cs x).length = sz) (l : List α) : (l.flatMap cs).length = l.length * sz := by
  induction l with
  | nil => simp
  | cons x l ih => rw [List.flatMap_cons, List.length_append, ih, hcs, List.length_cons, Nat.succ_mul]; omega
/-- a row of the call's own reads as a list -/
theorem Sl.of_own {α : Type} {sz : Nat} {cs : α → List Value} {w : World} {base : Nat} {e : TypeId} {A : Option Addr} {n c : Nat} {l : List α} (hcs : ∀ x, (cs x).length = sz) (hl : l.length = n)
    (h : w.ownsRow base e sz (.slice A n c) n (l.flatMap cs)) : Sl sz cs w A n l := by
  refine ⟨hl, fun hn => ?_⟩
  obtain ⟨g, cap, hv, _, hlt⟩ := h.form hn
  have hA : A = some ⟨g, 0, none⟩ := by injection hv
  subst hA
  refine ⟨g, 0, rfl, fun k x hx j u hu => ?_⟩
  have hc := h.cells (g := g) rfl (k * sz + j) u (flat_at hcs l k x j u hx hu)
  have hadd : (⟨g, 0, none⟩ : Addr).add (k * sz + j) = ⟨g, 0 + k * sz + j, none⟩ := by unfold Addr.add; split <;> simp_all
  rw [hadd] at hc
  exact hc
theorem Vl.cs_len (x : Vl) : (Vl.cs x).length = 3 := rfl
theorem Iv.cs_len (x : Iv) : (Iv.cs x).length = 7 := rfl
theorem one_vl (v : Vl) : ∀ u ∈ Vl.cs v, u.oneCell' = true := by simp [Vl.cs, Value.oneCell']
theorem one_iv (v : Iv) : ∀ u ∈ Iv.cs v, u.oneCell' = true := by simp [Iv.cs, Value.oneCell']

theorem own_base {w : World} {base : Nat} {e : TypeId} {size n : Nat} {v : Value} {xs : List Value} (h : w.ownsRow base e size v n xs) : ∀ k, v.ownBlock = some k → base ≤ k := by
  rcases h.2 with ⟨rfl, _⟩ | ⟨g, cap, cur, rfl, hg, _⟩
  · intro k hk; simp [Value.ownBlock] at hk
  · intro k hk
    simp only [Value.ownBlock, Option.some.injEq] at hk
    omega
theorem grown_of_alloc {W w' : World} {o : Obj} {row : Option Nat} (h : (W.alloc o).grownBy w' row) : W.grownBy w' row :=
  ⟨h.os, h.tape, h.output, Nat.le_trans (by simp) h.size, fun k hk hne => (h.block k (by simp; omega) hne).trans (Below.heap_alloc W o k hk)⟩
/-- append of one element that was built just before -/
theorem wpList_append_one {P : Program} {ops : Array Oper} {rest : List Oper} {o : Oper} {a : Act} {Q : Exit → Act → World → Prop} (hgd : o.guard = none) (s x : Operand) (t : TypeId)
    (ho : o.op = .call { callee := .builtin .append, args := #[s, x], argTypes := #[t, t] })
    (base : Nat) (e : TypeId) (i : TypeInfo) (z : Value) (size bytes : Nat) (ht : P.underlying t = some (.slice e)) (hi : P.info? e = some i) (hz : i.zero = some z)
    (hsize : i.size = size) (hby : i.bytes = bytes) (hzs : z.cells.size = size) (hsz : 0 < size)
    (v : Value) (n : Nat) (xs : List Value) (hs : a.eval s = v) (W : World) (cells : Array Value) (hown : W.ownsRow base e size v n xs) (H : Nat) (hH : W.heap.size = H)
    (hx : a.eval x = .slice (some ⟨H, 0, none⟩) 1 1) (hcl : cells.toList.length = 1 * size) (h1 : ∀ u ∈ cells.toList, u.oneCell' = true)
    (h63 : n + 1 ≤ maxLen) (hbytes : (n + 1) * bytes ≤ 140737488355328) (hbase : base ≤ W.heap.size)
    (h : ∀ g cap w', w'.ownsRow base e size (.slice (some ⟨g, 0, none⟩) (n + 1) cap) (n + 1) (xs ++ cells.toList) → W.grownBy w' v.ownBlock → Below base W w' → (v.ownBlock = some g ∨ g = H + 1) → g < w'.heap.size →
      wpList P ops Q rest (a.put o.dst (.slice (some ⟨g, 0, none⟩) (n + 1) cap)) w') : wpList P ops Q (o :: rest) a (W.alloc (.cells cells e)) := by
  subst hH
  refine wpList_append_lies _ hgd s x t ho base e i z size bytes ht hi hz hsize hby hzs hsz v n xs hs (hown.alloc _) ⟨W.heap.size, 0, none⟩ 1 1 cells.toList hx hcl (World.news_of_block (heap_alloc_new W _)) h1 (by omega) h63 hbytes (by simp; omega) (W.heap.size + 1) (by simp) ?_
  intro g cap w' ho2 hg2 hat hlt
  have hg3 := grown_of_alloc hg2
  exact h g cap w' ho2 hg3 ((Below.refl _ _).grown hg3 hbase (own_base hown)) hat hlt

theorem Sl.lt {α : Type} {sz : Nat} {cs : α → List Value} {w : World} {A : Option Addr} {n : Nat} {l : List α} (hcs : ∀ x, (cs x).length = sz) (hsz : 0 < sz) (h : Sl sz cs w A n l) (hn : 0 < n) : ∀ b o, A = some ⟨b, o, none⟩ → b < w.heap.size := by
  intro b o hA
  obtain ⟨b', o', x, hA', hx, hc⟩ := h.at hn
  rw [hA] at hA'
  injection hA' with h1
  injection h1 with h1 h2
  have h3 : 0 < (cs x).length := by rw [hcs]; exact hsz
  have h4 := hc 0 _ (List.getElem?_eq_getElem h3)
  have := cell_lt (w := w) (a := ⟨b', o' + 0 * sz + 0, none⟩) (by rw [h4]; rfl)
  simp only at this
  omega
theorem own_at {w w' : World} {base : Nat} {e : TypeId} {size n : Nat} {v : Value} {xs : List Value} (h : w.ownsRow base e size v n xs) (hb : ∀ g, base ≤ g → g < w.heap.size → v.ownBlock = some g → w'.heap[g]? = w.heap[g]?) : w'.ownsRow base e size v n xs := by
  refine ⟨h.1, ?_⟩
  rcases h.2 with h2 | ⟨g, cap, cur, hv, hg, hh, r⟩
  · exact .inl h2
  · have hlt : g < w.heap.size := by
      rcases Nat.lt_or_ge g w.heap.size with hl | hl
      · exact hl
      · rw [Array.getElem?_eq_none hl] at hh; cases hh
    exact .inr ⟨g, cap, cur, hv, hg, by rw [hb g hg hlt (by rw [hv]; rfl)]; exact hh, r⟩

/-- the seven cells of an interval -/
structure IvAt (w : World) (b p : Nat) (x : Iv) : Prop where
  c0 : w.cell? ⟨b, p, none⟩ = some (.int .i64 x.f.k)
  c1 : w.cell? ⟨b, p + 1, none⟩ = some (.int .i64 x.f.i)
  c2 : w.cell? ⟨b, p + 2, none⟩ = some (.string x.f.t)
  c3 : w.cell? ⟨b, p + 3, none⟩ = some (.int .i64 x.t.k)
  c4 : w.cell? ⟨b, p + 4, none⟩ = some (.int .i64 x.t.i)
  c5 : w.cell? ⟨b, p + 5, none⟩ = some (.string x.t.t)
  c6 : w.cell? ⟨b, p + 6, none⟩ = some (.bool x.o)
structure VlAt (w : World) (b p : Nat) (x : Vl) : Prop where
  c0 : w.cell? ⟨b, p, none⟩ = some (.int .i64 x.k)
  c1 : w.cell? ⟨b, p + 1, none⟩ = some (.int .i64 x.i)
  c2 : w.cell? ⟨b, p + 2, none⟩ = some (.string x.t)
theorem IvAt.of {w : World} {b p : Nat} {x : Iv} (h : ∀ (j : Nat) (u : Value), (Iv.cs x)[j]? = some u → w.cell? ⟨b, p + j, none⟩ = some u) : IvAt w b p x :=
  ⟨h 0 _ rfl, h 1 _ rfl, h 2 _ rfl, h 3 _ rfl, h 4 _ rfl, h 5 _ rfl, h 6 _ rfl⟩
theorem VlAt.of {w : World} {b p : Nat} {x : Vl} (h : ∀ (j : Nat) (u : Value), (Vl.cs x)[j]? = some u → w.cell? ⟨b, p + j, none⟩ = some u) : VlAt w b p x :=
  ⟨h 0 _ rfl, h 1 _ rfl, h 2 _ rfl⟩
theorem keep_cell {w w' : World} (hk : Keeps w w') {a : Addr} {v : Value} (h : w.cell? a = some v) : w'.cell? a = some v := by
  rw [hk a (by rw [h]; rfl), h]
theorem VlAt.keep {w w' : World} {b p : Nat} {x : Vl} (h : VlAt w b p x) (hk : Keeps w w') : VlAt w' b p x :=
  ⟨keep_cell hk h.c0, keep_cell hk h.c1, keep_cell hk h.c2⟩
theorem IvAt.keep {w w' : World} {b p : Nat} {x : Iv} (h : IvAt w b p x) (hk : Keeps w w') : IvAt w' b p x :=
  ⟨keep_cell hk h.c0, keep_cell hk h.c1, keep_cell hk h.c2, keep_cell hk h.c3, keep_cell hk h.c4, keep_cell hk h.c5, keep_cell hk h.c6⟩
theorem IvAt.to_ {w : World} {b p : Nat} {x : Iv} (h : IvAt w b p x) : VlAt w b (p + 3) x.t := ⟨h.c3, h.c4, h.c5⟩
theorem IvAt.from_ {w : World} {b p : Nat} {x : Iv} (h : IvAt w b p x) : VlAt w b p x.f := ⟨h.c0, h.c1, h.c2⟩
theorem cell_new (w : World) (cs : Array Value) (T : TypeId) (j : Nat) : (w.alloc (.cells cs T)).cell? ⟨w.heap.size, j, none⟩ = cs[j]? :=
  cell_of_row _ _ _ _ _ _ (heap_alloc_new w _)
theorem IvAt.new (w : World) (T : TypeId) (x : Iv) : IvAt (w.alloc (.cells #[.int .i64 x.f.k, .int .i64 x.f.i, .string x.f.t, .int .i64 x.t.k, .int .i64 x.t.i, .string x.t.t, .bool x.o] T)) w.heap.size 0 x :=
  ⟨by rw [cell_new]; rfl, by rw [cell_new]; rfl, by rw [cell_new]; rfl, by rw [cell_new]; rfl, by rw [cell_new]; rfl, by rw [cell_new]; rfl, by rw [cell_new]; rfl⟩
theorem VlAt.new (w : World) (T : TypeId) (x : Vl) : VlAt (w.alloc (.cells #[.int .i64 x.k, .int .i64 x.i, .string x.t] T)) w.heap.size 0 x :=
  ⟨by rw [cell_new]; rfl, by rw [cell_new]; rfl, by rw [cell_new]; rfl⟩
/-- block b is just these cells, none of them frozen -/
def Blk (w : World) (b : Nat) (T : TypeId) (cs : Array Value) : Prop := w.heap[b]? = some (.cells cs T (0, 0))
theorem Blk.new (w : World) (T : TypeId) (cs : Array Value) : Blk (w.alloc (.cells cs T)) w.heap.size T cs := heap_alloc_new w _
theorem Blk.lt {w : World} {b : Nat} {T : TypeId} {cs : Array Value} (h : Blk w b T cs) : b < w.heap.size := by
  rcases Nat.lt_or_ge b w.heap.size with hlt | hge
  · exact hlt
  · unfold Blk at h; rw [Array.getElem?_eq_none hge] at h; cases h
theorem Blk.cell {w : World} {b : Nat} {T : TypeId} {cs : Array Value} (h : Blk w b T cs) : ∀ j, w.cell? ⟨b, j, none⟩ = cs[j]? := fun j => cell_of_row w b j cs T (0, 0) h
theorem Blk.free {w : World} {b : Nat} {T : TypeId} {cs : Array Value} (h : Blk w b T cs) : ∀ j, w.frozen? ⟨b, j, none⟩ = false := fun j => by
  unfold Blk at h
  simp [World.frozen?, h]
theorem Blk.below {w w' : World} {b : Nat} {T : TypeId} {cs : Array Value} (h : Blk w b T cs) (hb : Below w.heap.size w w') : Blk w' b T cs := (hb.block b h.lt).trans h
theorem Blk.alloc {w : World} {b : Nat} {T : TypeId} {cs : Array Value} (h : Blk w b T cs) (o : Obj) : Blk (w.alloc o) b T cs := (Below.heap_alloc w o b h.lt).trans h
theorem Blk.drew {w : World} {b : Nat} {T : TypeId} {cs : Array Value} (h : Blk w b T cs) : Blk w.drew b T cs := h
theorem Blk.set_ {w : World} {b : Nat} {T : TypeId} {cs : Array Value} (h : Blk w b T cs) (i : Nat) (u : Value) : Blk (w.setCell ⟨b, i, none⟩ u) b T (cs.setIfInBounds i u) := by
  unfold Blk at h ⊢
  simp [World.setCell, Array.getElem?_modify, h]
theorem Blk.far {w : World} {b : Nat} {T : TypeId} {cs : Array Value} (h : Blk w b T cs) {p : Addr} (hp : b ≠ p.block) (u : Value) : Blk (w.setCell p u) b T cs := (Below.heap_setCell w p u b hp).trans h
theorem Blk.grown {w w' : World} {b : Nat} {T : TypeId} {cs : Array Value} {row : Option Nat} (h : Blk w b T cs) (hg : w.grownBy w' row) (hne : some b ≠ row) : Blk w' b T cs := (hg.block b h.lt hne).trans h
theorem own_ne {w : World} {base : Nat} {e : TypeId} {size n : Nat} {v : Value} {xs : List Value} (h : w.ownsRow base e size v n xs) : some w.heap.size ≠ v.ownBlock := by
  rcases h.2 with ⟨rfl, _⟩ | ⟨g, cap, cur, rfl, _, hh, _⟩
  · simp [Value.ownBlock]
  · have : g < w.heap.size := Blk.lt (T := e) (cs := cur) hh
    simp only [Value.ownBlock, ne_eq, Option.some.injEq]
    omega
theorem blocks_at {w : World} {b : Nat} {T : TypeId} {cs : Array Value} {i : Nat} {u : Value} (h : Blk w b T cs) (hu : cs[i]? = some u) : w.cell? ⟨b, i, none⟩ = some u := by rw [h.cell, hu]
abbrev IvS (w : World) (A : Option Addr) (n : Nat) (l : List Iv) : Prop := Sl 7 Iv.cs w A n l
abbrev VlS (w : World) (A : Option Addr) (n : Nat) (l : List Vl) : Prop := Sl 3 Vl.cs w A n l

end Go.Proofs.Ytnocbigcdjlliaa
