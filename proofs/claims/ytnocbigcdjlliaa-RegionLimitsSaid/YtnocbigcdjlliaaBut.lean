import Derived.Test.YtnocbigcdjlliaaValue
import Derived.Test.YtnocbigcdjlliaaRegion
namespace Go.Proofs.Ytnocbigcdjlliaa
open Go.RowKit

/-- everything that was there is as it was but for the blocks of S -/
structure But (S : Nat → Prop) (w w' : World) : Prop where
  os : w'.os = w.os
  tape : w'.tape = w.tape
  output : w'.output = w.output
  size : w.heap.size ≤ w'.heap.size
  block : ∀ k, k < w.heap.size → ¬ S k → w'.heap[k]? = w.heap[k]?
theorem But.refl (S : Nat → Prop) (w : World) : But S w w := ⟨rfl, rfl, rfl, Nat.le_refl _, fun _ _ _ => rfl⟩
theorem But.trans {S : Nat → Prop} {a b c : World} (h : But S a b) (k : But S b c) : But S a c :=
  ⟨k.os.trans h.os, k.tape.trans h.tape, k.output.trans h.output, Nat.le_trans h.size k.size, fun i hi hs => (k.block i (Nat.lt_of_lt_of_le hi h.size) hs).trans (h.block i hi hs)⟩
theorem But.of_below {S : Nat → Prop} {a b : World} (h : Below a.heap.size a b) : But S a b := ⟨h.os, h.tape, h.output, h.size, fun k hk _ => h.block k hk⟩
theorem But.set {S : Nat → Prop} (w : World) {p : Addr} (hp : S p.block) (u : Value) : But S w (w.setCell p u) :=
  ⟨rfl, rfl, rfl, by simp [World.setCell], fun k _ hs => Below.heap_setCell w p u k (fun e => hs (e ▸ hp))⟩
theorem But.alloc {S : Nat → Prop} (w : World) (o : Obj) : But S w (w.alloc o) := But.of_below ((Below.refl _ _).alloc (Nat.le_refl _) _)
theorem But.drew {S : Nat → Prop} {w w' : World} (h : But S w w') : But S w w'.drew := ⟨h.os, h.tape, h.output, h.size, h.block⟩
theorem But.below {S : Nat → Prop} {B : Nat} {w0 w w' : World} (h : But S w w') (hb : Below B w0 w) (hB : B ≤ w.heap.size) (hS : ∀ k, S k → B ≤ k) : Below B w0 w' :=
  hb.trans ⟨h.os, h.tape, h.output, h.size, fun k hk => h.block k (by omega) (fun hs => by have := hS k hs; omega)⟩
theorem Blk.but {S : Nat → Prop} {w w' : World} {b : Nat} {T : TypeId} {cs : Array Value} (h : Blk w b T cs) (hb : But S w w') (hs : ¬ S b) : Blk w' b T cs := (hb.block b h.lt hs).trans h

theorem run_eqV (xk xi pk pi : Int) (xt pt : ByteArray) (w : World) : (binOp .eql 39 (.agg #[.int .i64 xk, .int .i64 xi, .string xt]) (.agg #[.int .i64 pk, .int .i64 pi, .string pt])).run Try.prog w =
    .ok (.bool (decide ((⟨xk, xi, xt⟩ : Vl) = ⟨pk, pi, pt⟩))) w := by
  have h : decide ((⟨xk, xi, xt⟩ : Vl) = ⟨pk, pi, pt⟩) = ((xk == pk) && ((xi == pi) && (xt.toList == pt.toList))) := by
    rw [Bool.eq_iff_iff]
    simp only [Vl.mk.injEq, text_eq, decide_eq_true_eq, Bool.and_eq_true, beq_iff_eq]
  rw [h]
  by_cases h1 : (xk == pk) = true
  · by_cases h2 : (xi == pi) = true
    · simp [go_sem, h1, h2]
      split <;> simp_all
    · simp [go_sem, h1, h2]
  · simp [go_sem, h1]
theorem ret_bools {a b x y : Bool} (h1 : a = x) (h2 : b = y) : Ending.returned (.tuple #[.bool a, .bool b]) = .returned (.tuple #[.bool x, .bool y]) := by rw [h1, h2]
theorem far_cell {w : World} {a p : Addr} {v u : Value} (h : w.cell? a = some v) (hne : a.block ≠ p.block) : (w.setCell p u).cell? a = some v := by
  rw [World.cell?_setCell_other w p a u (fun e => hne (by rw [e]))]
  exact h
theorem info_vl : (Try.prog.info? 39).map (fun i => (i.zero, i.size, i.bytes)) = some (some (.agg #[.int .i64 0, .int .i64 0, .string ⟨#[]⟩]), 3, 32) := by kernel_rfl
theorem take_snoc' {α : Type} {l : List α} {k : Nat} {x : α} (h : l[k]? = some x) : l.take (k + 1) = l.take k ++ [x] := by
  rw [List.take_add_one, h]; rfl
theorem drop_at {α : Type} {l : List α} {k : Nat} {x : α} (h : l[k]? = some x) : l.drop k = x :: l.drop (k + 1) := by
  have hk := (List.getElem?_eq_some_iff.1 h).1
  rw [List.drop_eq_getElem_cons hk, (List.getElem?_eq_some_iff.1 h).2]
theorem val_eq {v x : Vl} (h : x = v) : Ending.returned (.agg #[.int .i64 x.k, .int .i64 x.i, .string x.t]) = .returned (.agg #[.int .i64 v.k, .int .i64 v.i, .string v.t]) := by rw [h]
end Go.Proofs.Ytnocbigcdjlliaa
