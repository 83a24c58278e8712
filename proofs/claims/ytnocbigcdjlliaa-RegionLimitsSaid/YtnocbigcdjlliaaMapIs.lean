/-
  A map of the call's own as a function of its keys: looking up and storing. No program of ours here.
-/
import Derived.Test.YtnocbigcdjlliaaStep
import Derived.Maps.OwnSet
import Derived.Maps.Views
import Derived.DeepKeys4
namespace Go.Proofs.Ytnocbigcdjlliaa
open Go.RowKit Go.Maps

section
variable {κ : Type}
/-- block b is a map of at most n entries that holds M -/
def MapIs (w : World) (kT : TypeId) (kv : κ → Value) (b n : Nat) (M : κ → Option Int) : Prop :=
  ∃ D : DataW Unit, w.ownsMap Try.prog kT (plainElem Try.prog 3) b n D ∧ ∀ k kl, keyOf Try.prog kT (kv k) = some kl → Maps.has D kl = (M k).isSome ∧ ∀ c, M k = some c → D.atKey kl (.lit (.int .i64 0)) = .lit (.int .i64 c)
variable {w w' : World} {kT : TypeId} {kv : κ → Value} {b n : Nat} {M : κ → Option Int}
theorem MapIs.lt (h : MapIs w kT kv b n M) : b < w.heap.size := by obtain ⟨D, h1, _⟩ := h; exact h1.lt
theorem MapIs.block (h : MapIs w kT kv b n M) (hb : w'.heap[b]? = w.heap[b]?) : MapIs w' kT kv b n M := by
  obtain ⟨D, ⟨es, clock, h1, h2⟩, h3⟩ := h
  exact ⟨D, ⟨es, clock, hb.trans h1, h2⟩, h3⟩
theorem MapIs.below (h : MapIs w kT kv b n M) (hb : Below w.heap.size w w') : MapIs w' kT kv b n M := h.block (hb.block b h.lt)
theorem MapIs.but {S : Nat → Prop} (h : MapIs w kT kv b n M) (hb : But S w w') (hs : ¬ S b) : MapIs w' kT kv b n M := h.block (hb.block b h.lt hs)
theorem MapIs.mono (h : MapIs w kT kv b n M) {n' : Nat} (hn : n ≤ n') : MapIs w kT kv b n' M := by
  obtain ⟨D, h1, h2⟩ := h
  exact ⟨D, h1.mono hn, h2⟩
theorem MapIs.made (w : World) (kT : TypeId) (kv : κ → Value) : MapIs (w.alloc (.map #[] 0)) kT kv w.heap.size 0 (fun _ => none) :=
  ⟨.map [], World.ownsMap_made w _ _ _, fun k kl _ => ⟨rfl, fun c h => by cases h⟩⟩
/-- it is no row of cells -/
theorem MapIs.norow (h : MapIs w kT kv b n M) (cs : Array Value) (e : TypeId) (fz : Nat × Nat) : w.heap[b]? ≠ some (.cells cs e fz) := by
  obtain ⟨D, ⟨es, clock, h1, h2⟩, h3⟩ := h
  rw [h1]
  intro h
  injection h with h
  cases h
theorem wpList_map_look {P : Program} {ops : Array Oper} {rest : List Oper} {o : Oper} {a : Act} {Q : Exit → Act → World → Prop} (hP : P = Try.prog) (hg : o.guard = none) (m x : Operand) (t : TypeId) (hop : o.op = Op.lookup t m x true)
    (K : Keyed Try.prog kT) (ht : Try.prog.underlying t = some (.map kT 3)) (hm : a.eval m = .map (some b)) (h : MapIs w kT kv b n M) (k : κ) (kl : Lit) (hx : a.eval x = kv k) (hkey : keyOf Try.prog kT (kv k) = some kl)
    (hK : wpList P ops Q rest (a.put o.dst (.tuple #[.int .i64 ((M k).getD 0), .bool (M k).isSome])) w) : wpList P ops Q (o :: rest) a w := by
  subst hP
  obtain ⟨D, h1, h2⟩ := h
  obtain ⟨h3, h4⟩ := h2 k kl hkey
  refine wpList_lookup_own_ok_int w hg m x t hop kT 3 .i64 K ht Try.underlying3 (by kernel_rfl) b n D hm h1 (kv k) kl hx hkey ?_
  intro c hc _
  rw [h3]
  cases hM : M k with
  | none =>
    rw [hM] at h3 hK
    have h5 := atKey_of_not_has (D := D) (k := kl) h3 (.lit (.int .i64 0))
    rw [h5] at hc
    injection hc with hc
    injection hc with _ hc
    rw [← hc]
    exact hK
  | some v =>
    rw [hM] at hK
    have h5 := h4 v hM
    rw [h5] at hc
    injection hc with hc
    injection hc with _ hc
    rw [← hc]
    exact hK
set_option maxRecDepth 100000 in
theorem wpList_map_put [DecidableEq κ] {P : Program} {ops : Array Oper} {rest : List Oper} {o : Oper} {a : Act} {Q : Exit → Act → World → Prop} (hP : P = Try.prog) (hg : o.guard = none) (m x v : Operand) (t : TypeId) (hop : o.op = Op.mapUpdate t m x v)
    (K : Keyed Try.prog kT) (ht : Try.prog.underlying t = some (.map kT 3)) (hm : a.eval m = .map (some b)) (h : MapIs w kT kv b n M) (hn : n < 1000000) (k : κ) (kl : Lit) (hx : a.eval x = kv k) (hkey : keyOf Try.prog kT (kv k) = some kl)
    (z : Int) (hz : -9223372036854775808 ≤ z ∧ z < 9223372036854775808) (hv : a.eval v = .int .i64 z) (hinj : ∀ k', kv k' = kv k → k' = k)
    (hK : ∀ w', MapIs w' kT kv b (n + 1) (fun k' => if k' = k then some z else M k') → But (· = b) w w' → wpList P ops Q rest (a.put o.dst undef) w') : wpList P ops Q (o :: rest) a w := by
  subst hP
  obtain ⟨D, h1, h2⟩ := h
  refine wpList_mapUpdate_own w hg m x v t hop kT 3 K ht _ b n D hm h1 (by simp only [maxLen]; omega) (kv k) (.int .i64 z) kl hx hv hkey (.lit (.int .i64 z)) [] (plainElem_int Try.underlying3 (WalkArith.wf_i64 (by omega))) ?_
  intro w' ho hg'
  refine hK w' ⟨_, ho, fun k' kl' hk' => ?_⟩ (But.of_grown hg' (fun j hj => by injection hj with hj; exact hj.symm))
  have hmap := h1.isMap
  dsimp only
  by_cases e : k' = k
  · subst e
    rw [hkey] at hk'
    injection hk' with hk'
    subst hk'
    rw [if_pos rfl]
    exact ⟨has_put_same hmap (K.key hkey) _, fun c hc => by injection hc with hc; rw [← hc]; exact atKey_put_same hmap (K.key hkey) _ _⟩
  · have hne : kl' ≠ kl := fun h => e (hinj k' (K.inj hk' (by rw [h]; exact hkey)))
    rw [if_neg e, has_put_other hne, atKey_put_other hne]
    exact h2 k' kl' hk'
end
/-- pairs of numbers as keys -/
def kv2 (k : Int × Int) : Value := .agg #[.int .i64 k.1, .int .i64 k.2]
theorem kv2_inj (k k' : Int × Int) (h : kv2 k' = kv2 k) : k' = k := by
  obtain ⟨a, b⟩ := k
  obtain ⟨c, d⟩ := k'
  simp only [kv2, Value.agg.injEq, Array.mk.injEq, List.cons.injEq, Value.int.injEq, true_and, and_true] at h
  rw [h.1, h.2]
theorem keyed2 : Keyed Try.prog 64 := Keyed.of_law (deep_law_laid (P := Try.prog) (by kernel_rfl) (m := 2) (by omega) (of_decide_eq_true (by kernel_rfl)) (by kernel_rfl) (by rw [Try.underlying64]))
theorem keyedS : Keyed Try.prog 9 := string_keyed Try.underlying9
theorem key2 (i k : Int) (hi : -9223372036854775808 ≤ i ∧ i < 9223372036854775808) (hk : -9223372036854775808 ≤ k ∧ k < 9223372036854775808) : ∃ kl, keyOf Try.prog 64 (kv2 (i, k)) = some kl := by
  have ht : Try.prog.keyType 64 = true := by kernel_rfl
  have hc : Try.prog.cellsOf 64 = 2 := by kernel_rfl
  have hc1 : Try.prog.cellsOf 3 = 1 := by kernel_rfl
  have hf : (Value.agg #[.int .i64 i, .int .i64 k]).formed Try.prog 64 = true := by simp [Value.formed, Try.underlying64, hc]
  obtain ⟨s, hs⟩ : ∃ s, Try.prog.types.size = s + 1 := Nat.exists_eq_succ_of_ne_zero (Nat.pos_iff_ne_zero.1 (of_decide_eq_true (by kernel_rfl)))
  have w1 : (Lit.int .i64 i).wf = true := WalkArith.wf_i64 (by omega)
  have w2 : (Lit.int .i64 k).wf = true := WalkArith.wf_i64 (by omega)
  refine ⟨.string (keyBytes [.int .i64 i, .int .i64 k]), ?_⟩
  unfold keyOf kv2
  rw [Try.underlying64]
  simp only [ht, hf, Bool.and_self, if_true, hs]
  simp [Program.keyLits, Try.underlying64, Try.underlying3, hc, hc1, w1, w2, Value.cells, List.range, List.range.loop]
end Go.Proofs.Ytnocbigcdjlliaa
