import Derived.Test.YtjlbnbljimmbeaaRep
import Derived.RegionTactic
import Derived.BigRegion
namespace Go.Proofs.Ytjlbnbljimmbeaa
open Go.RowKit

theorem flat_set {α : Type} {sz : Nat} {cs : α → List Value} (hcs : ∀ x, (cs x).length = sz) {x' : α} {u : Value} {j : Nat} : ∀ (l : List α) (i : Nat) (x : α), l[i]? = some x → j < sz → cs x' = (cs x).set j u → (l.flatMap cs).set (i * sz + j) u = (l.set i x').flatMap cs
  | [], i, x, h, _, _ => by simp at h
  | y :: l, 0, x, h, hj, he => by
    simp only [List.getElem?_cons_zero, Option.some.injEq] at h
    subst h
    rw [List.flatMap_cons, List.set_cons_zero, List.flatMap_cons, Nat.zero_mul, Nat.zero_add, List.set_append_left _ _ (by rw [hcs]; exact hj), he]
  | y :: l, i + 1, x, h, hj, he => by
    simp only [List.getElem?_cons_succ] at h
    have ih := flat_set hcs l i x h hj he
    rw [List.flatMap_cons, List.set_cons_succ, List.flatMap_cons, List.set_append_right _ _ (by rw [hcs, Nat.succ_mul]; omega), ← ih]
    congr 2
    rw [hcs, Nat.succ_mul]
    omega
theorem own_put {w : World} {base G k c : Nat} {l : List Iv} (h : w.ownsRow base 26 7 (.slice (some ⟨G, 0, none⟩) k c) k (l.flatMap Iv.cs)) {i : Nat} {x x' : Iv} (hx : l[i]? = some x) (j : Nat) (u : Value) (hj : j < 7) (he : x'.cs = x.cs.set j u) :
    (w.setCell ⟨G, i * 7 + j, none⟩ u).ownsRow base 26 7 (.slice (some ⟨G, 0, none⟩) k c) k ((l.set i x').flatMap Iv.cs) := by
  rw [← flat_set Iv.cs_len l i x hx hj he]
  exact (h.stored _ _).1
/-- a row of the call's own that reads as a list of intervals -/
def OwnI (w : World) (base G k c : Nat) (l : List Iv) : Prop := w.ownsRow base 26 7 (.slice (some ⟨G, 0, none⟩) k c) k (l.flatMap Iv.cs) ∧ l.length = k
theorem OwnI.put {w : World} {base G k c : Nat} {l : List Iv} (h : OwnI w base G k c l) {i : Nat} {x : Iv} (x' : Iv) (hx : l[i]? = some x) (j : Nat) (u : Value) (hj : j < 7) (he : x'.cs = x.cs.set j u) :
    OwnI (w.setCell ⟨G, i * 7 + j, none⟩ u) base G k c (l.set i x') := ⟨own_put h.1 hx j u hj he, by rw [List.length_set]; exact h.2⟩
theorem set_at {l : List Iv} {i : Nat} {x x' : Iv} (hx : l[i]? = some x) : (l.set i x')[i]? = some x' := by
  have := (List.getElem?_eq_some_iff.1 hx).1
  rw [List.getElem?_set_self this]
theorem OwnI.from_ {w : World} {base G k c : Nat} {l : List Iv} (h : OwnI w base G k c l) {i : Nat} {x : Iv} (hx : l[i]? = some x) (v : Vl) :
    ∃ l', OwnI (((w.setCell ⟨G, i * 7, none⟩ (.int .i64 v.k)).setCell ⟨G, i * 7 + 1, none⟩ (.int .i64 v.i)).setCell ⟨G, i * 7 + 2, none⟩ (.string v.t)) base G k c l' := by
  have h0 := h.put ⟨⟨v.k, x.f.i, x.f.t⟩, x.t, x.o⟩ hx 0 (.int .i64 v.k) (by omega) rfl
  have h1 := h0.put ⟨⟨v.k, v.i, x.f.t⟩, x.t, x.o⟩ (set_at hx) 1 (.int .i64 v.i) (by omega) rfl
  exact ⟨_, h1.put ⟨⟨v.k, v.i, v.t⟩, x.t, x.o⟩ (set_at (set_at hx)) 2 (.string v.t) (by omega) rfl⟩
theorem OwnI.to_ {w : World} {base G k c : Nat} {l : List Iv} (h : OwnI w base G k c l) {i : Nat} {x : Iv} (hx : l[i]? = some x) (v : Vl) :
    ∃ l', OwnI (((w.setCell ⟨G, i * 7 + 3, none⟩ (.int .i64 v.k)).setCell ⟨G, i * 7 + 4, none⟩ (.int .i64 v.i)).setCell ⟨G, i * 7 + 5, none⟩ (.string v.t)) base G k c l' := by
  have h0 := h.put ⟨x.f, ⟨v.k, x.t.i, x.t.t⟩, x.o⟩ hx 3 (.int .i64 v.k) (by omega) rfl
  have h1 := h0.put ⟨x.f, ⟨v.k, v.i, x.t.t⟩, x.o⟩ (set_at hx) 4 (.int .i64 v.i) (by omega) rfl
  exact ⟨_, h1.put ⟨x.f, ⟨v.k, v.i, v.t⟩, x.o⟩ (set_at (set_at hx)) 5 (.string v.t) (by omega) rfl⟩
theorem OwnI.open_ {w : World} {base G k c : Nat} {l : List Iv} (h : OwnI w base G k c l) {i : Nat} {x : Iv} (hx : l[i]? = some x) (q : Bool) : ∃ l', OwnI (w.setCell ⟨G, i * 7 + 6, none⟩ (.bool q)) base G k c l' :=
  ⟨_, h.put ⟨x.f, x.t, q⟩ hx 6 (.bool q) (by omega) rfl⟩
theorem OwnI.num {w : World} {base G k c : Nat} {l : List Iv} (h : OwnI w base G k c l) {i : Nat} {x : Iv} (hx : l[i]? = some x) (q : Int) : ∃ l', OwnI (w.setCell ⟨G, i * 7 + 1, none⟩ (.int .i64 q)) base G k c l' :=
  ⟨_, h.put ⟨⟨x.f.k, q, x.f.t⟩, x.t, x.o⟩ hx 1 (.int .i64 q) (by omega) rfl⟩
theorem OwnI.kind {w : World} {base G k c : Nat} {l : List Iv} (h : OwnI w base G k c l) {i : Nat} {x : Iv} (hx : l[i]? = some x) (q : Int) : ∃ l', OwnI (w.setCell ⟨G, i * 7, none⟩ (.int .i64 q)) base G k c l' :=
  ⟨_, h.put ⟨⟨q, x.f.i, x.f.t⟩, x.t, x.o⟩ hx 0 (.int .i64 q) (by omega) rfl⟩
theorem OwnI.sl {w : World} {base G k c : Nat} {l : List Iv} (h : OwnI w base G k c l) : IvS w (some ⟨G, 0, none⟩) k l := Sl.of_own Iv.cs_len h.2 h.1
theorem OwnI.but {S : Nat → Prop} {w w' : World} {base G k c : Nat} {l : List Iv} (h : OwnI w base G k c l) (hb : But S w w') (hs : ¬ S G) : OwnI w' base G k c l :=
  ⟨own_at h.1 (fun g _ hlt hv => by
    have e : G = g := by simpa [Value.ownBlock] using hv
    exact hb.block g hlt (by rw [← e]; exact hs)), h.2⟩

def SomeAny (w : World) (g : Nat) (e : Ending) (w' : World) : Prop := ∃ (l : List Iv) (A : Option Addr) (c : Nat), l.length ≤ 5 ∧ e = .returned (.slice A l.length c) ∧ IvS w' A l.length l ∧ CaseAt w' g ∧ But (· = g) w w'
theorem some_own {w w' : World} {g base G k c : Nat} {l : List Iv} (h : OwnI w' base G k c l) (hk : k ≤ 5) (hc : CaseAt w' g) (hb : But (· = g) w w') : SomeAny w g (.returned (.slice (some ⟨G, 0, none⟩) k c)) w' := by
  obtain rfl := h.2
  exact ⟨l, _, c, hk, rfl, h.sl, hc, hb⟩
theorem put1 {w0 w : World} {g G : Nat} (hc : CaseAt w g) (hg : g < G) (hb : But (· = g) w0 w) (hw : w0.heap.size ≤ G) (a : Nat) (u : Value) : CaseAt (w.setCell ⟨G, a, none⟩ u) g ∧ But (· = g) w0 (w.setCell ⟨G, a, none⟩ u) :=
  ⟨hc.far (S := fun b => b = G) (But.set (S := fun b => b = G) w (p := ⟨G, a, none⟩) rfl u) (fun b hb => by omega), hb.setNew (p := ⟨G, a, none⟩) hw u⟩
theorem put3 {w0 w : World} {g G : Nat} (hc : CaseAt w g) (hg : g < G) (hb : But (· = g) w0 w) (hw : w0.heap.size ≤ G) (a b c : Nat) (u v x : Value) : CaseAt (((w.setCell ⟨G, a, none⟩ u).setCell ⟨G, b, none⟩ v).setCell ⟨G, c, none⟩ x) g ∧ But (· = g) w0 (((w.setCell ⟨G, a, none⟩ u).setCell ⟨G, b, none⟩ v).setCell ⟨G, c, none⟩ x) := by
  have h1 := put1 hc hg hb hw a u
  have h2 := put1 h1.1 hg h1.2 hw b v
  exact put1 h2.1 hg h2.2 hw c x
theorem OwnI.whole {w : World} {base G k c : Nat} {l : List Iv} (h : OwnI w base G k c l) {i : Nat} (hi : i < k) (x : Iv) : ∃ l', OwnI (((((((w.setCell ⟨G, i * 7, none⟩ (.int .i64 x.f.k)).setCell ⟨G, i * 7 + 1, none⟩ (.int .i64 x.f.i)).setCell ⟨G, i * 7 + 2, none⟩ (.string x.f.t)).setCell ⟨G, i * 7 + 3, none⟩ (.int .i64 x.t.k)).setCell ⟨G, i * 7 + 4, none⟩ (.int .i64 x.t.i)).setCell ⟨G, i * 7 + 5, none⟩ (.string x.t.t)).setCell ⟨G, i * 7 + 6, none⟩ (.bool x.o)) base G k c l' := by
  have at_ : ∀ l' : List Iv, l'.length = k → ∃ y, l'[i]? = some y := fun l' hl => ⟨l'[i]'(by omega), List.getElem?_eq_getElem _⟩
  obtain ⟨y, hy⟩ := at_ l h.2
  obtain ⟨l1, h1⟩ := h.from_ hy x.f
  obtain ⟨y1, hy1⟩ := at_ l1 h1.2
  obtain ⟨l2, h2⟩ := h1.to_ hy1 x.t
  obtain ⟨y2, hy2⟩ := at_ l2 h2.2
  exact h2.open_ hy2 x.o
theorem put7 {w0 w : World} {g G : Nat} (hc : CaseAt w g) (hg : g < G) (hb : But (· = g) w0 w) (hw : w0.heap.size ≤ G) (i : Nat) (x : Iv) : CaseAt (((((((w.setCell ⟨G, i, none⟩ (.int .i64 x.f.k)).setCell ⟨G, i + 1, none⟩ (.int .i64 x.f.i)).setCell ⟨G, i + 2, none⟩ (.string x.f.t)).setCell ⟨G, i + 3, none⟩ (.int .i64 x.t.k)).setCell ⟨G, i + 4, none⟩ (.int .i64 x.t.i)).setCell ⟨G, i + 5, none⟩ (.string x.t.t)).setCell ⟨G, i + 6, none⟩ (.bool x.o)) g ∧ But (· = g) w0 (((((((w.setCell ⟨G, i, none⟩ (.int .i64 x.f.k)).setCell ⟨G, i + 1, none⟩ (.int .i64 x.f.i)).setCell ⟨G, i + 2, none⟩ (.string x.f.t)).setCell ⟨G, i + 3, none⟩ (.int .i64 x.t.k)).setCell ⟨G, i + 4, none⟩ (.int .i64 x.t.i)).setCell ⟨G, i + 5, none⟩ (.string x.t.t)).setCell ⟨G, i + 6, none⟩ (.bool x.o)) := by
  have h1 := put3 hc hg hb hw i (i + 1) (i + 2) (.int .i64 x.f.k) (.int .i64 x.f.i) (.string x.f.t)
  have h2 := put3 h1.1 hg h1.2 hw (i + 3) (i + 4) (i + 5) (.int .i64 x.t.k) (.int .i64 x.t.i) (.string x.t.t)
  exact put1 h2.1 hg h2.2 hw (i + 6) (.bool x.o)
theorem IvAt.drew {w : World} {b p : Nat} {x : Iv} (h : IvAt w b p x) : IvAt w.drew b p x := ⟨h.c0, h.c1, h.c2, h.c3, h.c4, h.c5, h.c6⟩
theorem OwnI.drew {w : World} {base G k c : Nat} {l : List Iv} (h : OwnI w base G k c l) : OwnI w.drew base G k c l := ⟨own_at h.1 (fun _ _ _ _ => rfl), h.2⟩
theorem OwnI.free {w : World} {base G k c : Nat} {l : List Iv} (h : OwnI w base G k c l) : ∀ q, w.frozen? ⟨G, q, none⟩ = false := fun q => h.1.frozenAt q
theorem CaseAt.belowB {w w' : World} {g B : Nat} (h : CaseAt w g) (hb : Below B w w') (hB : g < B) : CaseAt w' g :=
  h.far (S := fun b => B ≤ b) ⟨hb.os, hb.tape, hb.output, hb.size, fun k _ hk => hb.block k (by simpa using hk)⟩ (fun b hb => by omega)
theorem But.belowB {S : Nat → Prop} {w0 w w' : World} {B : Nat} (h : But S w0 w) (hb : Below B w w') (hB : w0.heap.size ≤ B) : But S w0 w' :=
  ⟨hb.os.trans h.os, hb.tape.trans h.tape, hb.output.trans h.output, Nat.le_trans h.size hb.size, fun k hk hs => (hb.block k (by omega)).trans (h.block k hk hs)⟩
end Go.Proofs.Ytjlbnbljimmbeaa
