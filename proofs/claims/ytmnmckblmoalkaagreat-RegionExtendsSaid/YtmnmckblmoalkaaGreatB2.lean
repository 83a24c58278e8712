/-
  Texts: Region, But, InL, Points.
-/
import Derived.Test.YtmnmckblmoalkaaGreatB1
import Derived.OrdersHeld
set_option linter.unusedVariables false
/-
  A region that draws its order: operations that only compute or read may be taken in the order of the text between the operations with an effect, if the latter come up one at a time and change nothing that was there.
-/
namespace Go.Proofs.YtmnmckblmoalkaaGreat
open Go.RowKit
set_option maxRecDepth 100000
set_option linter.unusedVariables false

/-- operations that only compute or read -/
def plainOp : Op → Bool
  | .move _ | .assign _ | .pick _ _ _ | .build _ _ | .load _ _ | .binOp _ _ _ _ _ | .unOp _ _ _ | .slice _ _ _ _ _ | .fieldAddr _ _ _ | .field _ _ _ | .indexAddr _ _ _ | .index _ _ _ | .extract _ _ | .convert _ _ _ | .lookup _ _ _ _ | .nilCheck _ => true
  | .call c => match c.callee with
    | .builtin .len => true
    | .builtin .min => true
    | .builtin .max => true
    | _ => false
  | _ => false

def gives (r : Result Next) : Prop := match r with
  | .ok (.value _) _ => True
  | .ok _ _ => False
  | .halt _ _ => True
theorem gives_v (s : Sem Value) (P : Program) (w : World) : gives ((do pure (Next.value (← s)) : Sem Next).run P w) := by
  rw [Sem.run_bind]
  generalize s.run P w = r
  cases r with
  | ok x w' => simp [Result.andThen, gives]
  | halt x w' => simp [Result.andThen, gives]
theorem gives_bind {α : Type} (s : Sem α) (f : α → Sem Next) (P : Program) (w : World) (h : ∀ a w', gives ((f a).run P w')) : gives ((s >>= f).run P w) := by
  rw [Sem.run_bind]
  generalize s.run P w = r
  cases r with
  | ok x w' => exact h x w'
  | halt x w' => simp [Result.andThen, gives]
theorem gives_then (r : Result Value) : gives (r.andThen fun a w' => Result.ok (Next.value a) w') := by
  cases r with
  | ok x w' => simp [Result.andThen, gives]
  | halt x w' => simp [Result.andThen, gives]
theorem gives_plain (o : Oper) (h : plainOp o.op = true) (ev : Operand → Value) (P : Program) (w : World) : gives ((execOp ev o).run P w) := by
  unfold execOp
  cases ho : o.op <;> rw [ho] at h <;> simp only [plainOp, Bool.false_eq_true] at h
  case call c =>
    obtain ⟨callee, args, argTypes⟩ := c
    simp only at h
    split at h
    · simp only [resolve, invoke, builtin, Sem.run_bind, Sem.run_pure, Result.andThen_ok]
      exact gives_then _
    · simp only [resolve, invoke, builtin, Sem.run_bind, Sem.run_pure, Result.andThen_ok]
      exact gives_then _
    · simp only [resolve, invoke, builtin, Sem.run_bind, Sem.run_pure, Result.andThen_ok]
      exact gives_then _
    · cases h
  case nilCheck x =>
    simp only
    split
    · simp [runtimePanic, goPanic, gives, go_sem]
    · simp [runtimePanic, goPanic, gives, go_sem]
    · simp [runtimePanic, goPanic, gives, go_sem]
    · split
      · simp [runtimePanic, goPanic, gives, go_sem]
      · repeat (refine gives_bind _ _ P _ (fun _ _ => ?_))
        first | (simp [gives]; done) | (split <;> (repeat (refine gives_bind _ _ P _ (fun _ _ => ?_))) <;> simp [gives])
      · simp [gives]
    · simp [gives]
  case move x => simp [gives]
  case assign x => simp [gives]
  case pick c a b =>
    rw [Sem.run_bind]
    generalize (asBool (ev c)).run P w = r
    cases r with
    | ok x w' => simp [Result.andThen, gives]
    | halt x w' => simp [Result.andThen, gives]
  all_goals exact gives_v _ P w

abbrev cls (w : World) : World → Prop := fun W => ∃ x : Later w, W = after w x
theorem cls_iff {w W : World} : cls w W ↔ Below w.heap.size w W := ⟨fun ⟨x, h⟩ => by rw [h]; exact x.below, fun h => ⟨⟨W, h⟩, rfl⟩⟩

section
variable {P : Program} {ops : Array Oper} {Q : Exit → Act → World → Prop} {md : Region.Mode}

def wpAnyB (P : Program) (md : Region.Mode) (ops : Array Oper) (Q : Exit → Act → World → Prop) : Nat → Array Bool → Act → World → Prop
  | 0, listed, a, w => Region.ready md ops listed = [] ∧ Q .normal a w
  | fuel + 1, listed, a, w =>
    (Region.ready md ops listed = [] → Q .normal a w) ∧
    ∀ i ∈ Region.ready md ops listed, wpOp P ops Q i (fun a' w' => Below w.heap.size w w' ∧ wpAnyB P md ops Q fuel (listed.setIfInBounds i true) a' w') a w

theorem wpAny_of_B : ∀ (fuel : Nat) (listed : Array Bool) (a : Act) (w : World), wpAnyB P md ops Q fuel listed a w → wpAny P md ops Q fuel listed a w
  | 0, _, _, _, h => h
  | fuel + 1, _, _, _, h => ⟨h.1, fun i hi => wpOp_mono (fun a' w' h' => wpAny_of_B fuel _ a' w' h'.2) (h.2 i hi)⟩

theorem YieldsIf.shrink {o : Oper} {v : Value} {a : Act} {S S' : World → Prop} (hS : ∀ W, S' W → S W) (h : YieldsIf P ops S o v a) : YieldsIf P ops S' o v a :=
  h.imp (fun ⟨hw, hv⟩ => ⟨hw, fun W hW => hv W (hS W hW)⟩) id

theorem wpAnyB_first {i : Nat} {oi : Oper} {v : Value} (hi : ops[i]? = some oi) (hsel : ∀ (j : Nat) (o : Oper) cs b, ops[j]? = some o → o.op ≠ .select cs b)
    (hQ : ∀ c a w, Q (.panic c) (a.put oi.dst v) w → Q (.panic c) a w) :
    ∀ (fuel : Nat) (listed : Array Bool) (a : Act) (w : World),
      (∀ j oj, ops[j]? = some oj → j ≠ i → listed.getD j true = false → (∀ e ∈ oj.after, Region.binds md e = true → e.on ≠ i) → oi.apart ops oj = true) →
      i ∈ Region.ready md ops listed → YieldsIf P ops (fun W => Below w.heap.size w W) oi v a →
      wpAnyB P md ops Q fuel (listed.setIfInBounds i true) (a.put oi.dst v) w → wpAnyB P md ops Q (fuel + 1) listed a w := by
  intro fuel
  induction fuel with
  | zero =>
    intro listed a w _ hr hy H
    refine ⟨fun h => (by rw [h] at hr; cases hr), fun j hj => ?_⟩
    by_cases hji : j = i
    · subst hji; exact hy.wpOp hi (Below.refl _ _) ⟨Below.refl _ _, H⟩
    · have := ready_mono hj hji
      rw [H.1] at this
      cases this
  | succ fuel ih =>
    intro listed a w hfree hr hy H
    refine ⟨fun h => (by rw [h] at hr; cases hr), fun j hj => ?_⟩
    by_cases hji : j = i
    · subst hji; exact hy.wpOp hi (Below.refl _ _) ⟨Below.refl _ _, H⟩
    · have h1 := H.2 j (ready_mono hj hji)
      obtain ⟨hjun, oj, hoj, hall⟩ := mem_ready.1 hj
      have hnot : ∀ e ∈ oj.after, Region.binds md e = true → e.on ≠ i := fun e he hb heq => by
        have h1 := hall e he hb
        have h0 := (mem_ready.1 hr).1
        rw [heq] at h1
        rcases Nat.lt_or_ge i listed.size with h' | h'
        · simp [h'] at h0 h1; rw [h0] at h1; cases h1
        · simp [Array.getElem?_eq_none h'] at h1
      have h2 := wpOp_putIf hoj (hfree j oj hoj hji hjun hnot) (fun cs b => hsel i oi cs b hi) (fun cs b => hsel j oj cs b hoj) hQ hy h1
      have hfree' : ∀ k ok, ops[k]? = some ok → k ≠ i → (listed.setIfInBounds j true).getD k true = false →
          (∀ e ∈ ok.after, Region.binds md e = true → e.on ≠ i) → oi.apart ops ok = true := fun k ok hk hki hun hno => by
        refine hfree k ok hk hki ?_ hno
        by_cases hjk : j = k
        · subst hjk; exact hjun
        · rw [getD_set_ne true hjk] at hun; exact hun
      refine wpOp_mono (fun a' w' h3 => ⟨h3.2.1, ih (listed.setIfInBounds j true) a' w' hfree' (ready_mono hr (Ne.symm hji)) (YieldsIf.shrink (fun W hW => Below.next h3.2.1 hW) h3.1) ?_⟩) h2
      rw [Array.setIfInBounds_comm _ _ hji]
      exact h3.2.2

def opAt (ops : Array Oper) (i : Nat) : Oper := (ops[i]?).getD ⟨none, .move (.const (.bool false)), 0, "", #[], none⟩
def pickOps (ops : Array Oper) (l : List Nat) : List Oper := l.map (opAt ops)

/-- blocks of operations that only read, each ended by one with an effect; the last block has none -/
def wpSeg (P : Program) (ops : Array Oper) (Q : Exit → Act → World → Prop) : List (List Nat × Nat) → List Nat → Act → World → Prop
  | [], last, a, w => wpQuiet P ops (cls w) (fun a' => Q .normal a' w) (pickOps ops last) a
  | (qs, e) :: r, last, a, w => wpQuiet P ops (cls w) (fun a' => wpOp P ops Q e (fun a'' w' => Below w.heap.size w w' ∧ wpSeg P ops Q r last a'' w') a' w) (pickOps ops qs) a

def plainAt (ops : Array Oper) (i : Nat) : Bool := match ops[i]? with
  | some o => plainOp o.op
  | none => false
/-- the operations of a block may come up in this order -/
def checkQ (ops : Array Oper) : List Nat → Array Bool → Option (Array Bool)
  | [], listed => some listed
  | i :: r, listed => if plainAt ops i && (Region.ready .any ops listed).contains i && Region.free .any ops listed i then checkQ ops r (listed.setIfInBounds i true) else none
def checkS (ops : Array Oper) : List (List Nat × Nat) → List Nat → Array Bool → Bool
  | [], last, listed => match checkQ ops last listed with
    | some l => (Region.ready .any ops l).isEmpty
    | none => false
  | (qs, e) :: r, last, listed => match checkQ ops qs listed with
    | some l => (Region.ready .any ops l == [e]) && checkS ops r last (l.setIfInBounds e true)
    | none => false

theorem quiet_block (hns : Region.noSelect ops = true) (hQ : ∀ c a d v w, Q (.panic c) (Act.put a d v) w → Q (.panic c) a w) {K : Act → Prop} {w : World} {fuel : Nat} {l' : Array Bool}
    (hK : ∀ a, K a → wpAnyB P .any ops Q fuel l' a w) :
    ∀ (qs : List Nat) (listed : Array Bool) (a : Act), checkQ ops qs listed = some l' → wpQuiet P ops (cls w) K (pickOps ops qs) a → wpAnyB P .any ops Q (qs.length + fuel) listed a w
  | [], listed, a, hc, h => by
    simp only [checkQ, Option.some.injEq] at hc
    subst hc
    simp only [List.length_nil, Nat.zero_add]
    exact hK a h
  | i :: r, listed, a, hc, h => by
    unfold checkQ at hc
    split at hc
    · rename_i hcond
      simp only [Bool.and_eq_true] at hcond
      obtain ⟨⟨hp, hr⟩, hf⟩ := hcond
      cases hi : ops[i]? with
      | none => simp [plainAt, hi] at hp
      | some o =>
        simp only [plainAt, hi] at hp
        have hpick : pickOps ops (i :: r) = o :: pickOps ops r := by simp [pickOps, opAt, hi]
        rw [hpick] at h
        unfold wpQuiet at h
        have hlen : (i :: r).length + fuel = (r.length + fuel) + 1 := by simp; omega
        rw [hlen]
        by_cases hw : Region.wanted o (yielded ops a.tmps) = true
        · rw [if_pos hw] at h
          obtain ⟨v, h1, h2⟩ := h
          refine wpAnyB_first hi (Region.noSelect_spec hns) (fun c a w => hQ c a _ _ w) _ listed a w (Region.free_spec hi hf) (by simpa using hr) (v := v) (.inl ⟨hw, fun W hW => ?_⟩) (quiet_block hns hQ hK r _ _ hc h2)
          have h3 := h1 W (cls_iff.2 hW)
          have hg := gives_plain o hp a.eval P W
          unfold Oper.quietAt at h3
          generalize (execOp a.eval o).run P W = res at *
          cases res with
          | ok n w' =>
            cases n <;> simp only [Oper.quietUpon] at h3 <;> simp only [gives] at hg
            obtain ⟨e1, e2⟩ := h3
            rw [e1, e2]
          | halt x w' => simp only [Oper.quietUpon] at h3
        · rw [if_neg hw] at h
          exact wpAnyB_first hi (Region.noSelect_spec hns) (fun c a w => hQ c a _ _ w) _ listed a w (Region.free_spec hi hf) (by simpa using hr) (v := undef) (.inr ⟨by simpa using hw, rfl⟩) (quiet_block hns hQ hK r _ _ hc h)
    · cases hc

def segLen : List (List Nat × Nat) → List Nat → Nat
  | [], last => last.length
  | (qs, _) :: r, last => qs.length + (segLen r last + 1)

theorem seg_any (hns : Region.noSelect ops = true) (hQ : ∀ c a d v w, Q (.panic c) (Act.put a d v) w → Q (.panic c) a w) (last : List Nat) :
    ∀ (segs : List (List Nat × Nat)) (listed : Array Bool) (a : Act) (w : World), checkS ops segs last listed = true → wpSeg P ops Q segs last a w → wpAnyB P .any ops Q (segLen segs last) listed a w
  | [], listed, a, w, hc, h => by
    unfold checkS at hc
    split at hc
    · rename_i l hl
      exact quiet_block hns hQ (fuel := 0) (fun a' h' => ⟨by simpa using hc, h'⟩) last listed a hl h
    · cases hc
  | (qs, e) :: r, listed, a, w, hc, h => by
    unfold checkS at hc
    split at hc
    · rename_i l hl
      simp only [Bool.and_eq_true, beq_iff_eq] at hc
      refine quiet_block hns hQ (fuel := segLen r last + 1) (fun a' h' => ?_) qs listed a hl h
      refine ⟨fun h0 => (by rw [hc.1] at h0; cases h0), fun i hi => ?_⟩
      rw [hc.1] at hi
      have hie : i = e := by simpa using hi
      subst hie
      exact wpOp_mono (fun a'' w' ⟨hb, h''⟩ => ⟨hb, seg_any hns hQ last r _ a'' w' hc.2 h''⟩) h'
    · cases hc

theorem op_of_list {o : Oper} {e : Nat} {K : Act → World → Prop} {a : Act} {w : World} (he : ops[e]? = some o) (h : wpList P ops (Exit.then K Q) [o] a w) : wpOp P ops Q e K a w := by
  unfold wpOp
  rw [he]
  simp only
  unfold wpList at h
  split
  · rename_i hw
    rw [if_pos hw] at h
    rcases h with h | ⟨h1, h2⟩
    · left
      unfold Oper.wp at h ⊢
      generalize (execOp a.eval o).run P w = r at *
      cases r with
      | ok n w' =>
        cases n <;> simp only [Oper.upon] at h ⊢ <;> exact h
      | halt x w' => cases x <;> simp only [Oper.upon] at h ⊢; exact h
    · exact .inr ⟨h1, h2⟩
  · rename_i hw
    rw [if_neg hw] at h
    exact h

/-- the blocks, the operations themselves -/
def wpBlocks (P : Program) (ops : Array Oper) (Q : Exit → Act → World → Prop) : List (List Oper × Oper) → List Oper → Act → World → Prop
  | [], last, a, w => wpQuiet P ops (fun W => ∃ x : Later w, W = after w x) (fun a' => Q .normal a' w) last a
  | (qs, e) :: r, last, a, w => wpQuiet P ops (fun W => ∃ x : Later w, W = after w x) (fun a' => wpList P ops (Exit.then (fun a'' w' => Below w.heap.size w w' ∧ wpBlocks P ops Q r last a'' w') Q) [e] a' w) qs a

def pickSegs (ops : Array Oper) : List (List Nat × Nat) → List (List Oper × Oper)
  | [] => []
  | (qs, e) :: r => (pickOps ops qs, opAt ops e) :: pickSegs ops r
theorem seg_of_blocks (last : List Nat) : ∀ (segs : List (List Nat × Nat)) (a : Act) (w : World), segs.all (fun s => decide (s.2 < ops.size)) = true → wpBlocks P ops Q (pickSegs ops segs) (pickOps ops last) a w → wpSeg P ops Q segs last a w
  | [], a, w, _, h => h
  | (qs, e) :: r, a, w, hl, h => by
    simp only [List.all_cons, Bool.and_eq_true, decide_eq_true_eq] at hl
    have he : ops[e]? = some (opAt ops e) := by
      unfold opAt
      rw [Array.getElem?_eq_getElem hl.1]
      rfl
    unfold pickSegs wpBlocks at h
    unfold wpSeg
    refine wpQuiet_imp (fun a' h' => ?_) _ _ h
    refine wpOp_mono (fun a'' w' ⟨hb, h''⟩ => ⟨hb, seg_of_blocks last r a'' w' hl.2 h''⟩) (op_of_list he h')

/-- THE LAW. 'segs', 'last': the order (numbers of operations); the check by kernel_rfl. -/
theorem wp_region_seg {id : Nat} {a : Act} {w : World} {l : List Oper} (segs : List (List Nat × Nat)) (last : List Nat) (hm : P.follows .mixedOrders = true)
    (hc : (Region.noSelect l.toArray && (checkS l.toArray segs last (Array.replicate l.toArray.size false) && (decide (segLen segs last = l.toArray.size) && segs.all (fun s => decide (s.2 < l.toArray.size))))) = true)
    (hQ : ∀ c a d v w, Q (.panic c) (Act.put a d v) w → Q (.panic c) a w)
    (h : wpBlocks P l.toArray Q (pickSegs l.toArray segs) (pickOps l.toArray last) a w.drew) : (Code.region id l.toArray true).wp P Q a w := by
  simp only [Bool.and_eq_true, decide_eq_true_eq] at hc
  refine wp_region_any hm ?_
  have h1 := seg_any hc.1 hQ last segs _ a _ hc.2.1 (seg_of_blocks last segs a _ hc.2.2.2 h)
  rw [hc.2.2.1] at h1
  exact wpAny_of_B _ _ _ _ h1
end
end Go.Proofs.YtmnmckblmoalkaaGreat

namespace Go.Proofs.YtmnmckblmoalkaaGreat
open Go.RowKit
set_option maxRecDepth 100000

/-- everything that was there is as it was but for the blocks of S -/
structure But (S : Nat → Prop) (w w' : World) : Prop where
  os : w'.os = w.os
  tape : w'.tape = w.tape
  output : w'.output = w.output
  size : w.heap.size ≤ w'.heap.size
  block : ∀ k, k < w.heap.size → ¬ S k → w'.heap[k]? = w.heap[k]?
theorem But.refl (S : Nat → Prop) (w : World) : But S w w := ⟨rfl, rfl, rfl, Nat.le_refl _, fun _ _ _ => rfl⟩
theorem But.trans {S : Nat → Prop} {a b c : World} (h : But S a b) (k : But S b c) : But S a c :=
  ⟨k.os.trans h.os, k.tape.trans h.tape, k.output.trans h.output, Nat.le_trans h.size k.size, fun i hi hs => (k.block i (Nat.lt_of_lt_of_le hi h.size) hs).trans (h.block i hi hs)⟩
theorem But.of_below {S : Nat → Prop} {a b : World} (h : Below a.heap.size a b) : But S a b := ⟨h.os, h.tape, h.output, h.size, fun k hk _ => h.block k hk⟩
theorem But.set {S : Nat → Prop} (w : World) {p : Addr} (hp : S p.block) (u : Value) : But S w (w.setCell p u) :=
  ⟨rfl, rfl, rfl, by simp [World.setCell], fun k _ hs => Below.heap_setCell w p u k (fun e => hs (e ▸ hp))⟩
theorem But.alloc {S : Nat → Prop} (w : World) (o : Obj) : But S w (w.alloc o) := But.of_below ((Below.refl _ _).alloc (Nat.le_refl _) _)
theorem But.drew {S : Nat → Prop} {w w' : World} (h : But S w w') : But S w w'.drew := ⟨h.os, h.tape, h.output, h.size, h.block⟩
theorem But.below {S : Nat → Prop} {B : Nat} {w0 w w' : World} (h : But S w w') (hb : Below B w0 w) (hB : B ≤ w.heap.size) (hS : ∀ k, S k → B ≤ k) : Below B w0 w' :=
  hb.trans ⟨h.os, h.tape, h.output, h.size, fun k hk => h.block k (by omega) (fun hs => by have := hS k hs; omega)⟩
theorem Blk.but {S : Nat → Prop} {w w' : World} {b : Nat} {T : TypeId} {cs : Array Value} (h : Blk w b T cs) (hb : But S w w') (hs : ¬ S b) : Blk w' b T cs := (hb.block b h.lt hs).trans h

theorem run_eqV (xk xi pk pi : Int) (xt pt : ByteArray) (w : World) : (binOp .eql 49 (.agg #[.int .i64 xk, .int .i64 xi, .string xt]) (.agg #[.int .i64 pk, .int .i64 pi, .string pt])).run Tryz.prog w =
    .ok (.bool (decide ((⟨xk, xi, xt⟩ : Vl) = ⟨pk, pi, pt⟩))) w := by
  have h : decide ((⟨xk, xi, xt⟩ : Vl) = ⟨pk, pi, pt⟩) = ((xk == pk) && ((xi == pi) && (xt.toList == pt.toList))) := by
    rw [Bool.eq_iff_iff]
    simp only [Vl.mk.injEq, text_eq, decide_eq_true_eq, Bool.and_eq_true, beq_iff_eq]
  rw [h]
  by_cases h1 : (xk == pk) = true
  · by_cases h2 : (xi == pi) = true
    · simp [go_sem, h1, h2]
      split <;> simp_all
    · simp [go_sem, h1, h2]
  · simp [go_sem, h1]
theorem ret_bools {a b x y : Bool} (h1 : a = x) (h2 : b = y) : Ending.returned (.tuple #[.bool a, .bool b]) = .returned (.tuple #[.bool x, .bool y]) := by rw [h1, h2]
theorem far_cell {w : World} {a p : Addr} {v u : Value} (h : w.cell? a = some v) (hne : a.block ≠ p.block) : (w.setCell p u).cell? a = some v := by
  rw [World.cell?_setCell_other w p a u (fun e => hne (by rw [e]))]
  exact h
theorem info_vl : (Tryz.prog.info? 49).map (fun i => (i.zero, i.size, i.bytes)) = some (some (.agg #[.int .i64 0, .int .i64 0, .string ⟨#[]⟩]), 3, 32) := by kernel_rfl
theorem take_snoc' {α : Type} {l : List α} {k : Nat} {x : α} (h : l[k]? = some x) : l.take (k + 1) = l.take k ++ [x] := by
  rw [List.take_add_one, h]; rfl
theorem drop_at {α : Type} {l : List α} {k : Nat} {x : α} (h : l[k]? = some x) : l.drop k = x :: l.drop (k + 1) := by
  have hk := (List.getElem?_eq_some_iff.1 h).1
  rw [List.drop_eq_getElem_cons hk, (List.getElem?_eq_some_iff.1 h).2]
end Go.Proofs.YtmnmckblmoalkaaGreat

/-
  Plain words: which values an interval and a list of intervals contain. No program here.
-/
namespace Go.Proofs.YtmnmckblmoalkaaGreat
open Go.RowKit
set_option maxRecDepth 100000

def inI (x : Iv) (v : Vl) : Bool := decide (cmpV x.f v ≤ 0) && (x.o || decide (cmpV v x.t < 0))
def inL (l : List Iv) (v : Vl) : Bool := l.any (inI · v)
def hasL (l : List Iv) (v : Vl) : Bool := validV v && validL l && inL l v
theorem in_step {l : List Iv} {k : Nat} {x : Iv} {v : Vl} {r : Bool} (hx : l[k]? = some x) (h : inL (l.drop k) v = r) : r = (inI x v || inL (l.drop (k + 1)) v) := by
  rw [← h, drop_at hx]
  simp [inL]

end Go.Proofs.YtmnmckblmoalkaaGreat

namespace Go.Proofs.YtmnmckblmoalkaaGreat
open Go.RowKit
set_option maxRecDepth 100000
theorem info_iv : (Tryz.prog.info? 90).map (fun i => (i.zero, i.size, i.bytes)) = some (some (.agg #[.int .i64 0, .int .i64 0, .string ⟨#[]⟩, .int .i64 0, .int .i64 0, .string ⟨#[]⟩, .bool false]), 7, 72) := by kernel_rfl
def ptsL : List Iv → List Vl
  | [] => []
  | x :: r => if x.o then x.f :: ptsL r else x.f :: x.t :: ptsL r
theorem ptsL_snoc (l : List Iv) (x : Iv) : ptsL (l ++ [x]) = ptsL l ++ (if x.o then [x.f] else [x.f, x.t]) := by
  induction l with
  | nil => simp only [List.nil_append, ptsL]
  | cons y l ih =>
    simp only [List.cons_append, ptsL, ih]
    split <;> simp
theorem ptsL_len (l : List Iv) : (ptsL l).length ≤ 2 * l.length := by
  induction l with
  | nil => simp [ptsL]
  | cons y l ih =>
    simp only [ptsL]
    split <;> simp only [List.length_cons] <;> omega

set_option maxRecDepth 8000 in
set_option maxHeartbeats 1000000 in
theorem points_any (A : Option Addr) (n c : Nat) (l : List Iv) (w : World) (hn : n ≤ 64) (hs : IvS w A n l) :
    Calls Tryz.prog 194 #[.slice A n c] w fun e w' => ∃ (A' : Option Addr) (c' : Nat), e = .returned (.slice A' (ptsL l).length c') ∧ VlS w' A' (ptsL l).length (ptsL l) ∧ Below w.heap.size w w' := by
  have Hs := Lib.hid hs
  have hln := hs.len
  clear hs
  obtain ⟨i0, hi, hz0, hz1, hz2⟩ := info_parts info_vl
  go_enter Tryz.func194, Tryz.ntmps194
  go_wp2_with (at_make; refine wpList_make_own w rfl _ _ _ rfl w.heap.size 49 i0 _ 3 Tryz.underlying43 hi hz0 hz1 .i64 .i64 _ (2 * n) rfl rfl (by omega) (by rw [hz2]; omega) (by simp only [maxLen]; omega) (Nat.le_refl _) ?_; intro w1 hown hg)
  have hB1 : Below w.heap.size w w1 := (Below.refl _ _).grown hg (Nat.le_refl _) (by simp)
  clear hg
  go_loopw [3, 12] (fun v i wr => ∃ (k : Nat) (A' : Option Addr) (m c' : Nat) (q : List Vl), k ≤ n ∧ i = .int .i64 (k : Int) ∧ v = .slice A' m c' ∧ Hid (q = ptsL (l.take k)) ∧ m ≤ 2 * k ∧ wr.ownsRow w.heap.size 49 3 (.slice A' m c') m (q.flatMap Vl.cs) ∧ Hid (q.length = m) ∧ Below w.heap.size w wr) (fun _ i _ => n - (intOf i).toNat)
  case atStart => exact ⟨0, _, _, _, [], by omega, rfl, rfl, by simp [Hid, ptsL], by omega, hown, rfl, hB1⟩
  case round =>
    obtain ⟨k, A', m, c', q, hk, rfl, rfl, hq, hm, hown', hql, hb⟩ := hrel
    by_cases hlt : k < n
    · obtain ⟨b, o, x, rfl, hx, hc⟩ := (Hs.out.keep (keeps_of hb)).at hlt
      have Hq := Lib.hid (take_snoc' hx)
      obtain ⟨⟨fk, fi, ft⟩, ⟨tk, ti, tt⟩, xo⟩ := x
      obtain ⟨c0, c1, c2, c3, c4, c5, c6⟩ := IvAt.of hc
      dsimp only at c0 c1 c2 c3 c4 c5 c6
      clear hx hc
      have hsz := hb.size
      go_wp2_with (first
        | (at_builtin; refine wpList_append_one (by rfl) (.tmp 16) (.tmp 19) _ (by rfl) w.heap.size 49 i0 _ 3 32 Tryz.underlying43 hi hz0 hz1 hz2 (by rfl) (by omega) (.slice A' m c') m _ (by rfl) _ _ (hown'.alloc _) (wr.heap.size + 1) (by simp) (by rfl) (by rfl) (one_vl ⟨fk, fi, ft⟩) (by simp only [maxLen]; omega) (by omega) (by simp; omega) ?_; intro g cap w2 hown2 hg2 hB2 hat2 hlt2; have hbx := (Blk.grown (Blk.new wr _ _) hg2 (own_ne hown')).cell; have hsz2 := hB2.size)
        | (at_builtin; refine wpList_append_one (by rfl) (.tmp 24) (.tmp 27) _ (by rfl) w.heap.size 49 i0 _ 3 32 Tryz.underlying43 hi hz0 hz1 hz2 (by rfl) (by omega) (.slice (some ⟨g, 0, none⟩) (m + 1) cap) (m + 1) _ (by rfl) _ _ hown2 w2.heap.size (by rfl) (by rfl) (by rfl) (one_vl ⟨tk, ti, tt⟩) (by simp only [maxLen]; omega) (by omega) (by simp at hsz2; omega) ?_; intro g3 cap3 w3 hown3 hg3 hB3 hat3 hlt3))
      · go_roundw
        case rel =>
          refine ⟨k + 1, _, m + 1 + 1, _, q ++ [⟨fk, fi, ft⟩, ⟨tk, ti, tt⟩], by omega, by go_num, rfl, ?_, by omega, ?_, ?_, ?_⟩
          · show _ = _
            have hxo : xo = false := by simpa using ‹(!xo) = true›
            rw [Hq.out, ptsL_snoc, ← hq.out, if_neg (by simp [hxo])]
          · simpa [List.flatMap_append, Vl.cs] using hown3
          · show _ = _
            have := hql.out
            simp; omega
          · exact ((hb.alloc hb.size _).trans hB2).trans hB3
        case measure => simp [intOf]; omega
      · go_roundw
        case rel =>
          refine ⟨k + 1, _, m + 1, _, q ++ [⟨fk, fi, ft⟩], by omega, by go_num, rfl, ?_, by omega, ?_, ?_, ?_⟩
          · show _ = _
            have hxo : xo = true := by simpa using ‹(!xo) = false›
            rw [Hq.out, ptsL_snoc, ← hq.out, if_pos (by simp [hxo])]
          · simpa [List.flatMap_append, Vl.cs] using hown2
          · show _ = _
            have := hql.out
            simp; omega
          · exact (hb.alloc hb.size _).trans hB2
        case measure => simp [intOf]; omega
    · go_wp2
      go_ret
      obtain rfl : k = n := by omega
      have hq1 : q = ptsL l := by rw [hq.out, List.take_of_length_le (by omega)]
      subst hq1
      obtain rfl : (ptsL l).length = m := hql.out
      exact ⟨A', c', rfl, Sl.of_own Vl.cs_len rfl hown', hb⟩
end Go.Proofs.YtmnmckblmoalkaaGreat
