/-
  Texts: GLeast, PjLaw.
-/
import Derived.Test.YtmnmckblmoalkaaGreatB45
set_option linter.unusedVariables false
/-
  The least row of a region, of the program and of the reference.
-/
namespace Go.Proofs.YtmnmckblmoalkaaGreat
open Go.RowKit
set_option maxRecDepth 100000
open Rg

def lstP : Rg → List Vl
  | .nil _ _ => []
  | .cons vs rest _ => lo vs :: lstP rest
theorem below_then {B B' : Nat} {w a b : World} (h : Below B w a) (k : Below B' a b) (hB : B ≤ B') : Below B w b :=
  ⟨k.os.trans h.os, k.tape.trans h.tape, k.output.trans h.output, Nat.le_trans h.size k.size, fun q hq => (k.block q (Nat.lt_of_lt_of_le hq hB)).trans (h.block q hq)⟩
/-- the state of the loop: the row so far, the region that is left -/
structure LsS (w : World) (r : Rg) (D : Nat) (k : Nat) (A1 : Option Addr) (c1 : Nat) (x : Int) (f : Bool) (A : Option Addr) (n c : Nat) (wr : World) : Prop where
  ex : ∃ (l : List Vl) (q : Rg) (d : Nat), l.length = k ∧ wr.ownsRow (w.heap.size + 1) 49 3 (.slice A1 k c1) k (l.flatMap Vl.cs) ∧ RgS w x f A n c q ∧ FormF d q ∧ d + k = D ∧ q.nix = false ∧ l ++ lstP q = lstP r ∧ q.size ≤ 64
  bo : Blk wr w.heap.size 27 #[.int .i64 x, .bool f, .slice A n c]
  be : Below w.heap.size w wr
end Go.Proofs.YtmnmckblmoalkaaGreat

/-
  Plain: which rows a projection, a universal projection and a lifted region contain. No program here.
-/
namespace Go.Proofs.YtmnmckblmoalkaaGreat
open Go.RowKit
set_option maxRecDepth 100000
open Rg

theorem ofU_eq (x y : Bool) : ofT true true true x y = (x || y) := by cases x <;> cases y <;> rfl
/-- a row in a box -/
def inB (b : List (List Iv)) (u : List Vl) : Bool := (b.zip u).all fun p => inL p.1 p.2
theorem inB_at {b : List (List Iv)} {u : List Vl} (h : u.length = b.length) : inB b u = true ↔ ∀ i, i < b.length → inL (b.getD i []) (u.getD i zeroV) = true := by
  induction b generalizing u with
  | nil => simp [inB]
  | cons s b ih =>
    cases u with
    | nil => cases h
    | cons v u =>
      have h1 : u.length = b.length := by simpa using h
      have e : inB (s :: b) (v :: u) = (inL s v && inB b u) := by simp [inB]
      rw [e, Bool.and_eq_true, ih h1]
      constructor
      · rintro ⟨h2, h3⟩ i hi
        cases i with
        | zero => simpa using h2
        | succ i => simpa using h3 i (by simpa using hi)
      · intro h2
        refine ⟨by simpa using h2 0 (by simp), fun i hi => ?_⟩
        simpa using h2 (i + 1) (by simpa using hi)
/-- the cells at columns -/
def pickV (cs : List Int) (u : List Vl) : List Vl := cs.map fun c => u.getD c.toNat zeroV
theorem pickV_len (cs : List Int) (u : List Vl) : (pickV cs u).length = cs.length := by simp [pickV]
theorem pickV_at {cs : List Int} {u : List Vl} {k : Nat} {c : Int} (h : cs[k]? = some c) : (pickV cs u).getD k zeroV = u.getD c.toNat zeroV := by
  simp [pickV, List.getD_eq_getElem?_getD, h]
theorem pickL_at {cs : List Int} {b : List (List Iv)} {k : Nat} {c : Int} (h : cs[k]? = some c) : (pickL cs b).getD k [] = b.getD c.toNat [] := by
  simp [pickL, List.getD_eq_getElem?_getD, h]
theorem good_at {n : Nat} {u : List Vl} (h : goodRow n u) {i : Nat} (hi : i < n) : validV (u.getD i zeroV) = true := by
  have h1 : i < u.length := by rw [h.1]; exact hi
  rw [List.getD_eq_getElem?_getD, List.getElem?_eq_getElem h1]
  exact h.2 _ (List.getElem_mem h1)
theorem dst_at {n : Nat} {cs : List Int} (h : dstB (n : Int) cs = true) {k : Nat} {c : Int} (hk : cs[k]? = some c) : ∃ i : Nat, c = (i : Int) ∧ i < n := by
  have h1 := (dstB_true.1 h).1 c (List.mem_of_getElem? hk)
  exact ⟨c.toNat, by omega, by omega⟩
theorem dst_inj {n : Nat} {cs : List Int} (h : dstB (n : Int) cs = true) {j k : Nat} {c : Int} (hj : cs[j]? = some c) (hk : cs[k]? = some c) : j = k := by
  obtain ⟨h1, e1⟩ := List.getElem?_eq_some_iff.1 hj
  obtain ⟨h2, e2⟩ := List.getElem?_eq_some_iff.1 hk
  exact (List.getElem_inj (dstB_true.1 h).2).1 (e1.trans e2.symm)
theorem good_pick {n : Nat} {cs : List Int} (h : dstB (n : Int) cs = true) {u : List Vl} (hu : goodRow n u) : goodRow cs.length (pickV cs u) := by
  refine ⟨pickV_len _ _, fun v hv => ?_⟩
  obtain ⟨c, hc, rfl⟩ := List.mem_map.1 hv
  have h1 := (dstB_true.1 h).1 c hc
  exact good_at hu (by omega)
/-- sets that are valid and not empty -/
def okBx (n : Nat) (b : List (List Iv)) : Prop := b.length = n ∧ ∀ s ∈ b, validL s = true ∧ s ≠ []
theorem okBx_at {n : Nat} {b : List (List Iv)} (h : okBx n b) {i : Nat} (hi : i < n) : validL (b.getD i []) = true ∧ b.getD i [] ≠ [] := by
  have h1 : i < b.length := by rw [h.1]; exact hi
  rw [List.getD_eq_getElem?_getD, List.getElem?_eq_getElem h1]
  exact h.2 _ (List.getElem_mem h1)
theorem boxes_ok : ∀ {d : Nat} {r : Rg}, Form d r → r.fits = true → ∀ b ∈ boxesR r, okBx d b
  | d, .nil x f, h, _, b, hb => by
    refine ⟨boxesR_row h b hb, fun s hs => ?_⟩
    unfold boxesR at hb
    split at hb
    · rw [List.mem_singleton] at hb; subst hb; cases hs
    · cases hb
  | 0, .cons vs rest tail, h, _, _, _ => by have := h.2; simp [parts] at this
  | d + 1, .cons vs rest tail, h, ht, b, hb => by
    obtain ⟨h1, h2, h3, h4⟩ := h
    have hp := h3 (vs, rest) (by simp [parts])
    simp only [fits, Bool.and_eq_true, decide_eq_true_eq] at ht
    rcases List.mem_append.1 hb with hb | hb
    · obtain ⟨q, hq, rfl⟩ := List.mem_map.1 hb
      have := boxes_ok hp.2.2.1 ht.1.2 q hq
      refine ⟨by simp [this.1], fun s hs => ?_⟩
      rcases List.mem_cons.1 hs with rfl | hs
      · exact ⟨by simp [validL, ht.1.1, hp.2.1], hp.1⟩
      · exact this.2 s hs
    · exact boxes_ok (d := d + 1) (r := tail) ⟨h1, h2, fun p hp => h3 p (by simp [parts, hp]), by
        have := h4
        simp only [parts, List.pairwise_cons] at this
        exact this.2⟩ ht.2 b hb
/-- a region is the union of its boxes -/
theorem boxes_den : ∀ (d : Nat) (r : Rg), Form d r → ∀ u, goodRow d u → (r.den u = true ↔ ∃ b ∈ boxesR r, inB b u = true)
  | 0, r, h, u, hu => by
    obtain rfl := List.eq_nil_of_length_eq_zero hu.1
    have e : r = .nil r.w r.f := Rg.ext rfl rfl h.2
    rw [e, den_nil, boxesR]
    cases r.f <;> simp [Rg.f, inB]
  | d + 1, r, h, u, hu => by
    cases u with
    | nil => cases hu.1
    | cons v u =>
      have hv := hu.2 v List.mem_cons_self
      have hu' : goodRow d u := ⟨by have := hu.1; simp at this; exact this, fun x hx => hu.2 x (List.mem_cons_of_mem _ hx)⟩
      rw [den_cons (d : Int) v u r, boxesR_parts r h.2.1]
      have e : ∀ (s : List Iv) (b : List (List Iv)), inB (s :: b) (v :: u) = (inL s v && inB b u) := fun s b => by simp [inB]
      constructor
      · intro hd
        rcases at_spec (d : Int) v r with ⟨p, hp, h1, h2⟩ | ⟨h1, h2⟩
        · rw [h2] at hd
          obtain ⟨b, hb, hbu⟩ := (boxes_den d p.2 (h.2.2.1 p hp).2.2.1 u hu').1 hd
          exact ⟨p.1 :: b, List.mem_flatMap.2 ⟨p, hp, List.mem_map.2 ⟨b, hb, rfl⟩⟩, by rw [e, h1, hbu]; rfl⟩
        · rw [h1] at hd
          cases u <;> cases hd
      · rintro ⟨b, hb, hbu⟩
        obtain ⟨p, hp, hb⟩ := List.mem_flatMap.1 hb
        obtain ⟨q, hq, rfl⟩ := List.mem_map.1 hb
        rw [e, Bool.and_eq_true] at hbu
        rw [(h.at_iff hp hv).1 hbu.1]
        exact (boxes_den d p.2 (h.2.2.1 p hp).2.2.1 u hu').2 ⟨q, hq, hbu.2⟩
theorem boxR_den {b : List (List Iv)} {u : List Vl} (h : u.length = b.length) : (boxR b).den u = inB b u := den_box b u h
theorem boxR_ok {n : Nat} {b : List (List Iv)} (hn : n ≤ 12) (h : b.length = n) (hv : ∀ s ∈ b, validL s = true) : OkR (boxR b) ∧ (boxR b).w = (n : Int) := by
  obtain ⟨h1, h2, h3⟩ := box_ok b hv
  have hw := box_w b
  rw [h] at h1 h3 hw
  exact ⟨⟨by omega, by omega, by omega, by rw [hw, Int.toNat_natCast]; exact h1, h2⟩, hw⟩
/-- a union of boxes, one after another -/
theorem uni_spec {n : Nat} (hn : n ≤ 12) : ∀ (bs : List (List (List Iv))) (r : Rg), (∀ b ∈ bs, b.length = n ∧ ∀ s ∈ b, validL s = true) → OkR r → r.w = (n : Int) →
    (uniE bs r = 0 ∨ uniE bs r = 2) ∧ (uniE bs r = 0 → OkR (uniR bs r) ∧ (uniR bs r).w = (n : Int) ∧ ∀ u, goodRow n u → ((uniR bs r).den u = true ↔ r.den u = true ∨ ∃ b ∈ bs, inB b u = true))
  | [], r, _, hr, hw => ⟨.inl rfl, fun _ => ⟨hr, hw, fun u hu => by simp [uniR]⟩⟩
  | b :: l, r, hb, hr, hw => by
    obtain ⟨k1, k2⟩ := hb b List.mem_cons_self
    obtain ⟨b1, b2⟩ := boxR_ok hn k1 k2
    have h02 := op_02 hr hw b1 b2 opUr
    obtain ⟨_, h0⟩ := op_spec hr hw b1 b2 opUr
    unfold uniE uniR
    by_cases he : opErr opUr r (boxR b) = 0
    · obtain ⟨u1, u2, u3⟩ := h0 he
      obtain ⟨i1, i2⟩ := uni_spec hn l (opRes opUr r (boxR b)) (fun q hq => hb q (List.mem_cons_of_mem _ hq)) u2 u3
      rw [if_pos he, if_pos he]
      refine ⟨i1, fun h => ?_⟩
      obtain ⟨j1, j2, j3⟩ := i2 h
      refine ⟨j1, j2, fun u hu => ?_⟩
      rw [j3 u hu, u1, den_op (ok_formN hr hw) (ok_formN b1 b2) _ _ _ hu, boxR_den (by rw [hu.1, k1]), ofU_eq, Bool.or_eq_true]
      simp [or_assoc]
    · rw [if_neg he]
      exact ⟨h02, fun h => absurd h he⟩
theorem uni_wf : ∀ (bs : List (List (List Iv))) (r : Rg), (∀ b ∈ bs, wfB b) → WfR r → WfR (uniR bs r)
  | [], _, _, h => h
  | b :: l, r, hb, hr => by
    unfold uniR
    split
    · exact uni_wf l _ (fun q hq => hb q (List.mem_cons_of_mem _ hq)) (op_wf hr (box_wf _ (hb b List.mem_cons_self)))
    · trivial
theorem pj_wf {r : Rg} (h : WfR r) (cs : List Int) : WfR (pjR r cs) := by
  unfold pjR
  split
  · split
    · exact uni_wf _ _ (fun b hb => by obtain ⟨q, hq, rfl⟩ := List.mem_map.1 hb; exact pick_wf (boxes_wf h q hq) cs) trivial
    · trivial
  · trivial
theorem lf_wf {r : Rg} (h : WfR r) (cs : List Int) (W : Int) : WfR (lfR r cs W) := by
  unfold lfR
  split
  · split
    · exact uni_wf _ _ (fun b hb => by obtain ⟨q, hq, rfl⟩ := List.mem_map.1 hb; exact liftK_wf (boxes_wf h q hq) _ cs _) trivial
    · trivial
  · trivial
theorem fa_wf {r : Rg} (h : WfR r) (cs : List Int) : WfR (faR r cs) := by
  unfold faR
  split
  · exact cp_wf (pj_wf (cp_wf h) cs)
  · trivial
theorem nil_ok {n : Nat} (hn : n ≤ 12) : OkR (.nil (n : Int) false) ∧ (Rg.nil (n : Int) false).w = (n : Int) := by
  refine ⟨⟨by simp [Rg.w], by simp [Rg.w]; omega, by simp [Rg.size], ?_, by simp [fits]⟩, rfl⟩
  simp only [Rg.w, Int.toNat_natCast]
  exact form_nil n
theorem nil_den (n : Int) (u : List Vl) : (Rg.nil n false).den u = false := by cases u <;> rfl
/-- a row whose cells at the columns are given -/
def spreadV (n : Nat) (cs : List Int) (p : List Vl) (b : List (List Iv)) : List Vl := (List.range n).map fun (i : Nat) => if (i : Int) ∈ cs then p.getD (cs.idxOf (i : Int)) zeroV else lo (b.getD i [])
theorem spread_at {n : Nat} {cs : List Int} {p : List Vl} {b : List (List Iv)} {i : Nat} (hi : i < n) : (spreadV n cs p b).getD i zeroV = if (i : Int) ∈ cs then p.getD (cs.idxOf (i : Int)) zeroV else lo (b.getD i []) := by
  simp [spreadV, List.getD_eq_getElem?_getD, List.getElem?_range hi]
theorem idx_at {n : Nat} {cs : List Int} (h : dstB (n : Int) cs = true) {k : Nat} {c : Int} (hk : cs[k]? = some c) : cs.idxOf c = k := by
  have h1 : c ∈ cs := List.mem_of_getElem? hk
  have h2 : cs.idxOf c < cs.length := List.idxOf_lt_length_of_mem h1
  have h3 : cs[cs.idxOf c]? = some c := by rw [List.getElem?_eq_getElem h2, List.getElem_idxOf]
  exact dst_inj h h3 hk
theorem idx_mem {cs : List Int} {c : Int} (h : c ∈ cs) : cs[cs.idxOf c]? = some c ∧ cs.idxOf c < cs.length := by
  have h2 : cs.idxOf c < cs.length := List.idxOf_lt_length_of_mem h
  exact ⟨by rw [List.getElem?_eq_getElem h2, List.getElem_idxOf], h2⟩
theorem spread_pick {n : Nat} {cs : List Int} (h : dstB (n : Int) cs = true) {p : List Vl} (hp : p.length = cs.length) (b : List (List Iv)) : pickV cs (spreadV n cs p b) = p := by
  refine List.ext_getElem (by rw [pickV_len, hp]) fun k h1 h2 => ?_
  have hk : k < cs.length := by rw [← hp]; exact h2
  obtain ⟨i, hi, hin⟩ := dst_at h (List.getElem?_eq_getElem hk)
  have e := pickV_at (u := spreadV n cs p b) (List.getElem?_eq_getElem hk)
  rw [hi, Int.toNat_natCast, spread_at hin, if_pos (by rw [← hi]; exact List.getElem_mem hk), ← hi, idx_at h (List.getElem?_eq_getElem hk)] at e
  rw [List.getD_eq_getElem?_getD, List.getD_eq_getElem?_getD, List.getElem?_eq_getElem h1, List.getElem?_eq_getElem h2] at e
  exact e
theorem spread_good {n : Nat} {cs : List Int} {p : List Vl} (hp : goodRow cs.length p) {b : List (List Iv)} (hb : okBx n b) : goodRow n (spreadV n cs p b) := by
  refine ⟨by simp [spreadV], fun v hv => ?_⟩
  obtain ⟨i, hi, rfl⟩ := List.mem_map.1 hv
  have hi := List.mem_range.1 hi
  split
  · rename_i hm
    exact good_at hp (idx_mem hm).2
  · obtain ⟨h1, h2⟩ := okBx_at hb hi
    simp only [validL, Bool.and_eq_true] at h1
    exact (lo_in h1.2 h2).1
/-- a row is in the projection of a box exactly if a row of the box has it -/
theorem pick_den {n : Nat} {cs : List Int} (h : dstB (n : Int) cs = true) {b : List (List Iv)} (hb : okBx n b) {p : List Vl} (hp : goodRow cs.length p) : inB (pickL cs b) p = true ↔ ∃ u, goodRow n u ∧ inB b u = true ∧ pickV cs u = p := by
  rw [inB_at (by rw [pick_len, hp.1]), pick_len]
  constructor
  · intro hin
    refine ⟨spreadV n cs p b, spread_good hp hb, ?_, spread_pick h hp.1 b⟩
    rw [inB_at (by rw [hb.1]; simp [spreadV])]
    intro i hi
    rw [hb.1] at hi
    rw [spread_at hi]
    split
    · rename_i hm
      obtain ⟨h1, h2⟩ := idx_mem hm
      have := hin _ h2
      rw [pickL_at h1, Int.toNat_natCast] at this
      exact this
    · obtain ⟨h1, h2⟩ := okBx_at hb hi
      simp only [validL, Bool.and_eq_true] at h1
      exact (lo_in h1.2 h2).2
  · rintro ⟨u, hu, hin, rfl⟩ k hk
    rw [inB_at (by rw [hu.1, hb.1])] at hin
    obtain ⟨i, hi, hin2⟩ := dst_at h (List.getElem?_eq_getElem hk)
    rw [pickL_at (List.getElem?_eq_getElem hk), pickV_at (List.getElem?_eq_getElem hk), hi, Int.toNat_natCast]
    exact hin i (by rw [hb.1]; exact hin2)
theorem liftK_at {N : Nat} {cs : List Int} (h : dstB (N : Int) cs = true) {b : List (List Iv)} (hb : b.length = cs.length) : ∀ k, k ≤ cs.length → ∀ i, i < N → (liftK N cs b k)[i]? = some (if (i : Int) ∈ cs.take k then b.getD (cs.idxOf (i : Int)) [] else allL)
  | 0, _, i, hi => by simp [liftK, hi]
  | k + 1, hk, i, hi => by
    have hk1 : k < cs.length := by omega
    have h1 := List.getElem?_eq_getElem hk1
    have h2 : b[k]? = some (b.getD k []) := by rw [List.getD_eq_getElem?_getD, List.getElem?_eq_getElem (by omega : k < b.length)]; rfl
    obtain ⟨j, hj, hjN⟩ := dst_at h h1
    rw [liftK_succ h1 h2, take_snocI h1, List.getElem?_set, hj, Int.toNat_natCast, liftK_len]
    by_cases hij : j = i
    · subst hij
      rw [if_pos rfl, if_pos hjN, if_pos (by simp)]
      rw [← hj, idx_at h h1]
    · rw [if_neg hij, liftK_at h hb k (by omega) i hi]
      have : ((i : Int) ∈ List.take k cs ++ [(j : Int)]) ↔ (i : Int) ∈ cs.take k := by
        rw [List.mem_append, List.mem_singleton]
        constructor
        · rintro (h | h)
          · exact h
          · omega
        · exact .inl
      simp only [this]
theorem liftL_at {N : Nat} {cs : List Int} (h : dstB (N : Int) cs = true) {b : List (List Iv)} (hb : b.length = cs.length) {i : Nat} (hi : i < N) : (liftL N cs b).getD i [] = if (i : Int) ∈ cs then b.getD (cs.idxOf (i : Int)) [] else allL := by
  have hl : (cs.zip b).length = cs.length := by simp [hb]
  rw [List.getD_eq_getElem?_getD, liftL, hl, liftK_at h hb _ (Nat.le_refl _) i hi, List.take_length]
  rfl
/-- a row is in a lifted box exactly if its cells at the columns are in the box -/
theorem lift_den {N : Nat} {cs : List Int} (h : dstB (N : Int) cs = true) {b : List (List Iv)} (hb : b.length = cs.length) {u : List Vl} (hu : goodRow N u) : inB (liftL N cs b) u = true ↔ inB b (pickV cs u) = true := by
  rw [inB_at (by rw [lift_len, hu.1]), inB_at (by rw [pickV_len, hb]), lift_len, hb]
  constructor
  · intro hin k hk
    have h1 := List.getElem?_eq_getElem hk
    obtain ⟨j, hj, hjN⟩ := dst_at h h1
    have := hin j hjN
    rw [liftL_at h hb hjN, if_pos (by rw [← hj]; exact List.getElem_mem hk), ← hj, idx_at h h1] at this
    rw [pickV_at h1, hj, Int.toNat_natCast]
    exact this
  · intro hin i hi
    rw [liftL_at h hb hi]
    split
    · rename_i hm
      obtain ⟨h1, h2⟩ := idx_mem hm
      have := hin _ h2
      rw [pickV_at h1, Int.toNat_natCast] at this
      exact this
    · exact in_all (good_at hu hi)
theorem lift_ok {N : Nat} {cs : List Int} (h : dstB (N : Int) cs = true) {b : List (List Iv)} (hb : b.length = cs.length) (hv : ∀ s ∈ b, validL s = true) : ∀ s ∈ liftL N cs b, validL s = true := by
  intro s hs
  obtain ⟨i, hi, e⟩ := List.mem_iff_getElem.1 hs
  have hiN : i < N := by rw [lift_len] at hi; exact hi
  have := liftL_at h hb hiN
  rw [List.getD_eq_getElem?_getD, List.getElem?_eq_getElem hi, Option.getD_some, e] at this
  rw [this]
  split
  · rename_i hm
    have h2 := (idx_mem hm).2
    rw [← hb] at h2
    rw [List.getD_eq_getElem?_getD, List.getElem?_eq_getElem h2]
    exact hv _ (List.getElem_mem h2)
  · exact validL_all
section
variable {n : Nat} {r : Rg} (hr : OkR r) (hw : r.w = (n : Int)) {cs : List Int}
include hr hw
/-- PROJECTION -/
theorem pj_spec (h : dstB (n : Int) cs = true) : (pjE r cs = 0 ∨ pjE r cs = 2) ∧ (pjE r cs = 0 → OkR (pjR r cs) ∧ (pjR r cs).w = (cs.length : Int) ∧ ∀ p, goodRow cs.length p → ((pjR r cs).den p = true ↔ ∃ u, goodRow n u ∧ r.den u = true ∧ pickV cs u = p)) := by
  have hn := ok_n12 hr hw
  have hl := dst_len h (by omega)
  have hf := ok_formN hr hw
  have hbx := boxes_ok hf hr.2.2.2.2
  have hD : dstB r.w cs = true := by rw [hw]; exact h
  unfold pjE pjR
  rw [if_pos (okB_true.2 hr), if_pos (okB_true.2 hr), if_pos hD, if_pos hD]
  obtain ⟨i1, i2⟩ := uni_spec hl ((boxesR r).map (pickL cs)) (.nil (cs.length : Int) false) (fun b hb => by
    obtain ⟨q, hq, rfl⟩ := List.mem_map.1 hb
    refine ⟨pick_len _ _, fun s hs => ?_⟩
    obtain ⟨c, hc, rfl⟩ := List.mem_map.1 hs
    have h1 := (dstB_true.1 h).1 c hc
    exact (okBx_at (hbx q hq) (by omega)).1) (nil_ok hl).1 (nil_ok hl).2
  refine ⟨i1, fun h0 => ?_⟩
  obtain ⟨j1, j2, j3⟩ := i2 h0
  refine ⟨j1, j2, fun p hp => ?_⟩
  rw [j3 p hp, nil_den]
  constructor
  · rintro (h | ⟨b, hb, hin⟩)
    · cases h
    · obtain ⟨q, hq, rfl⟩ := List.mem_map.1 hb
      obtain ⟨u, hu, h1, h2⟩ := (pick_den h (hbx q hq) hp).1 hin
      exact ⟨u, hu, (boxes_den n r hf u hu).2 ⟨q, hq, h1⟩, h2⟩
  · rintro ⟨u, hu, h1, h2⟩
    obtain ⟨q, hq, h1⟩ := (boxes_den n r hf u hu).1 h1
    exact .inr ⟨pickL cs q, List.mem_map.2 ⟨q, hq, rfl⟩, (pick_den h (hbx q hq) hp).2 ⟨u, hu, h1, h2⟩⟩
/-- THE UNIVERSAL PROJECTION -/
theorem fa_spec (h : dstB (n : Int) cs = true) : (faE r cs = 0 ∨ faE r cs = 2) ∧ (faE r cs = 0 → OkR (faR r cs) ∧ (faR r cs).w = (cs.length : Int) ∧ ∀ p, goodRow cs.length p → ((faR r cs).den p = true ↔ ∀ u, goodRow n u → pickV cs u = p → r.den u = true)) := by
  have hD : dstB r.w cs = true := by rw [hw]; exact h
  have hf := ok_formN hr hw
  unfold faR
  unfold faE
  rw [if_pos (okB_true.2 hr), if_pos hD]
  obtain ⟨_, c0⟩ := cp_spec hr hw
  by_cases e1 : cpErr r = 0
  · obtain ⟨c1, c2, c3⟩ := c0 e1
    obtain ⟨p0, p1⟩ := pj_spec c2 c3 h
    rw [if_pos e1]
    by_cases e2 : pjE (cpRes r) cs = 0
    · obtain ⟨p2, p3, p4⟩ := p1 e2
      rw [if_pos e2]
      obtain ⟨_, d0⟩ := cp_spec p2 p3
      refine ⟨cp_02 p2 p3, fun e3 => ?_⟩
      obtain ⟨d1, d2, d3⟩ := d0 e3
      rw [if_pos e3]
      refine ⟨d2, d3, fun p hp => ?_⟩
      rw [d1, cpl_den (ok_formN p2 p3) hp]
      have := p4 p hp
      constructor
      · intro h1 u hu hpu
        cases hd : r.den u
        · have h2 := this.2 ⟨u, hu, by rw [c1, cpl_den hf hu, hd]; rfl, hpu⟩
          rw [h2] at h1
          cases h1
        · rfl
      · intro h1
        cases hd : (pjR (cpRes r) cs).den p
        · rfl
        · obtain ⟨u, hu, h2, h3⟩ := this.1 hd
          rw [c1, cpl_den hf hu, h1 u hu h3] at h2
          cases h2
    · rw [if_neg e2]
      exact ⟨p0, fun h => absurd h e2⟩
  · rw [if_neg e1]
    exact ⟨cp_02 hr hw, fun h => absurd h e1⟩
end
/-- LIFTING -/
theorem lf_spec {N : Nat} {r : Rg} {cs : List Int} (hr : OkR r) (hw : r.w = (cs.length : Int)) (hN : N ≤ 12) (h : dstB (N : Int) cs = true) : (lfE r cs N = 0 ∨ lfE r cs N = 2) ∧ (lfE r cs N = 0 → OkR (lfR r cs N) ∧ (lfR r cs N).w = (N : Int) ∧ ∀ u, goodRow N u → (lfR r cs N).den u = r.den (pickV cs u)) := by
  have hf := ok_formN hr hw
  have hbx := boxes_ok hf hr.2.2.2.2
  have h1 : okB r = true ∧ (cs.length : Int) = r.w := ⟨okB_true.2 hr, hw.symm⟩
  have h2 : (0 ≤ (N : Int) ∧ (N : Int) ≤ 12) ∧ dstB (N : Int) cs = true := ⟨by omega, h⟩
  unfold lfE lfR
  rw [if_pos h1, if_pos h1, if_pos h2, if_pos h2, Int.toNat_natCast]
  obtain ⟨i1, i2⟩ := uni_spec hN ((boxesR r).map (liftL N cs)) (.nil (N : Int) false) (fun b hb => by
    obtain ⟨q, hq, rfl⟩ := List.mem_map.1 hb
    exact ⟨lift_len _ _ _, lift_ok h (hbx q hq).1 fun s hs => ((hbx q hq).2 s hs).1⟩) (nil_ok hN).1 (nil_ok hN).2
  refine ⟨i1, fun h0 => ?_⟩
  obtain ⟨j1, j2, j3⟩ := i2 h0
  refine ⟨j1, j2, fun u hu => ?_⟩
  rw [Bool.eq_iff_iff, j3 u hu, nil_den, boxes_den _ r hf _ (good_pick h hu)]
  constructor
  · rintro (h | ⟨b, hb, hin⟩)
    · cases h
    · obtain ⟨q, hq, rfl⟩ := List.mem_map.1 hb
      exact ⟨q, hq, (lift_den h (hbx q hq).1 hu).1 hin⟩
  · rintro ⟨q, hq, hin⟩
    exact .inr ⟨_, List.mem_map.2 ⟨q, hq, rfl⟩, (lift_den h (hbx q hq).1 hu).2 hin⟩
theorem eqB_of {n : Nat} {a b : Rg} (ha : OkR a) (hwa : a.w = (n : Int)) (hb : OkR b) (hwb : b.w = (n : Int)) (h : ∀ u, goodRow n u → (a.den u = true ↔ b.den u = true)) : eqB a b = true := by
  rw [eqB, okB_true.2 ha, okB_true.2 hb]
  simp only [Bool.and_self, Bool.true_and, decide_eq_true_eq]
  exact form_ext n _ _ (ok_formN ha hwa) (ok_formN hb hwb) fun u hu => by rw [Bool.eq_iff_iff]; exact h u hu
theorem cov_iff {n : Nat} {a b : Rg} (ha : OkR a) (hwa : a.w = (n : Int)) (hb : OkR b) (hwb : b.w = (n : Int)) : covRes a b = true ↔ ∀ u, goodRow n u → b.den u = true → a.den u = true := by
  rw [(cov_spec ha hwa hb hwb).2, minus_nix (ok_formN ha hwa) (ok_formN hb hwb)]
section
variable {n : Nat} {a b : Rg} (ha : OkR a) (hwa : a.w = (n : Int)) {cs : List Int} (h : dstB (n : Int) cs = true)
include ha hwa h
/-- what the law RegionGalois says -/
theorem galois_plain (hb : OkR b) (hwb : b.w = (cs.length : Int)) (e1 : pjE a cs = 0) (e2 : faE a cs = 0) (e3 : lfE b cs n = 0) : covRes (lfR b cs n) a = covRes b (pjR a cs) ∧ covRes a (lfR b cs n) = covRes (faR a cs) b := by
  have hn := ok_n12 ha hwa
  obtain ⟨p1, p2, p3⟩ := (pj_spec ha hwa h).2 e1
  obtain ⟨f1, f2, f3⟩ := (fa_spec ha hwa h).2 e2
  obtain ⟨l1, l2, l3⟩ := (lf_spec hb hwb hn h).2 e3
  constructor
  · rw [Bool.eq_iff_iff, cov_iff l1 l2 ha hwa, cov_iff hb hwb p1 p2]
    constructor
    · intro hc p hp hd
      obtain ⟨u, hu, h1, rfl⟩ := (p3 p hp).1 hd
      rw [← l3 u hu]
      exact hc u hu h1
    · intro hc u hu hd
      rw [l3 u hu]
      exact hc _ (good_pick h hu) ((p3 _ (good_pick h hu)).2 ⟨u, hu, hd, rfl⟩)
  · rw [Bool.eq_iff_iff, cov_iff ha hwa l1 l2, cov_iff f1 f2 hb hwb]
    constructor
    · intro hc p hp hd
      exact (f3 p hp).2 fun u hu e => hc u hu (by rw [l3 u hu, e]; exact hd)
    · intro hc u hu hd
      rw [l3 u hu] at hd
      exact (f3 _ (good_pick h hu)).1 (hc _ (good_pick h hu) hd) u hu rfl
end
/-- the columns of columns -/
def pickC (cs ds : List Int) : List Int := ds.map fun d => cs.getD d.toNat 0
theorem pickC_dst {n : Nat} {cs ds : List Int} (h : dstB (n : Int) cs = true) (k : dstB (cs.length : Int) ds = true) : dstB (n : Int) (pickC cs ds) = true := by
  rw [dstB_true]
  have k1 := dstB_true.1 k
  have h1 := dstB_true.1 h
  have at_ : ∀ d ∈ ds, ∃ hd : d.toNat < cs.length, cs.getD d.toNat 0 = cs[d.toNat] := fun d hd => by
    have := k1.1 d hd
    have h2 : d.toNat < cs.length := by omega
    exact ⟨h2, by rw [List.getD_eq_getElem?_getD, List.getElem?_eq_getElem h2]; rfl⟩
  constructor
  · intro c hc
    obtain ⟨d, hd, rfl⟩ := List.mem_map.1 hc
    obtain ⟨h2, h3⟩ := at_ d hd
    rw [h3]
    exact h1.1 _ (List.getElem_mem h2)
  · unfold pickC List.Nodup
    rw [List.pairwise_map]
    refine List.Pairwise.imp_of_mem (fun {x y} hx hy hne e => hne ?_) k1.2
    obtain ⟨h2, h3⟩ := at_ x hx
    obtain ⟨h4, h5⟩ := at_ y hy
    rw [h3, h5] at e
    have := (List.getElem_inj h1.2).1 e
    have := k1.1 x hx
    have := k1.1 y hy
    omega
theorem pickC_pick {cs ds : List Int} (k : dstB (cs.length : Int) ds = true) (u : List Vl) : pickV ds (pickV cs u) = pickV (pickC cs ds) u := by
  simp only [pickV, pickC, List.map_map]
  refine List.map_congr_left fun d hd => ?_
  have k1 := (dstB_true.1 k).1 d hd
  have h2 : d.toNat < cs.length := by omega
  simp [List.getD_eq_getElem?_getD, List.getElem?_eq_getElem h2]
/-- what the law RegionComposes says -/
theorem composes_plain {n : Nat} {a : Rg} (ha : OkR a) (hwa : a.w = (n : Int)) {cs ds : List Int} (h : dstB (n : Int) cs = true) (k : dstB (cs.length : Int) ds = true) (e1 : pjE a cs = 0) (e2 : pjE a (pickC cs ds) = 0) : pjE (pjR a cs) ds = 2 ∨ (pjE (pjR a cs) ds = 0 ∧ eqB (pjR (pjR a cs) ds) (pjR a (pickC cs ds)) = true) := by
  obtain ⟨p1, p2, p3⟩ := (pj_spec ha hwa h).2 e1
  obtain ⟨q1, q2, q3⟩ := (pj_spec ha hwa (pickC_dst h k)).2 e2
  obtain ⟨s0, s1⟩ := pj_spec p1 p2 k
  rcases s0 with s0 | s0
  · obtain ⟨s1, s2, s3⟩ := s1 s0
    refine .inr ⟨s0, eqB_of s1 s2 q1 (by rw [q2]; simp [pickC]) fun p hp => ?_⟩
    rw [s3 p hp, q3 p (by simpa [pickC] using hp)]
    constructor
    · rintro ⟨v, hv, h1, rfl⟩
      obtain ⟨u, hu, h2, rfl⟩ := (p3 v hv).1 h1
      exact ⟨u, hu, h2, (pickC_pick k u).symm⟩
    · rintro ⟨u, hu, h1, rfl⟩
      exact ⟨pickV cs u, good_pick h hu, (p3 _ (good_pick h hu)).2 ⟨u, hu, h1, rfl⟩, pickC_pick k u⟩
  · exact .inl s0
/-- the columns in order, and in the opposite one -/
def sameC (n : Nat) : List Int := (List.range n).map fun (i : Nat) => (i : Int)
def turnC (n : Nat) : List Int := (List.range n).map fun (i : Nat) => (n : Int) - 1 - (i : Int)
theorem same_dst (n : Nat) : dstB (n : Int) (sameC n) = true := by
  rw [dstB_true]
  constructor
  · intro c hc
    obtain ⟨i, hi, rfl⟩ := List.mem_map.1 hc
    have := List.mem_range.1 hi
    omega
  · unfold sameC List.Nodup
    rw [List.pairwise_map]
    exact List.Pairwise.imp (fun {x y} hne e => hne (by omega)) List.nodup_range
theorem turn_dst (n : Nat) : dstB (n : Int) (turnC n) = true := by
  rw [dstB_true]
  constructor
  · intro c hc
    obtain ⟨i, hi, rfl⟩ := List.mem_map.1 hc
    have := List.mem_range.1 hi
    omega
  · unfold turnC List.Nodup
    rw [List.pairwise_map]
    exact List.Pairwise.imp (fun {x y} hne e => hne (by omega)) List.nodup_range
theorem same_len (n : Nat) : (sameC n).length = n := by simp [sameC]
theorem turn_len (n : Nat) : (turnC n).length = n := by simp [turnC]
theorem same_pick {n : Nat} {u : List Vl} (hu : u.length = n) : pickV (sameC n) u = u := by
  refine List.ext_getElem (by simp [pickV, sameC, hu]) fun k h1 h2 => ?_
  simp [pickV, sameC, List.getD_eq_getElem?_getD, List.getElem?_eq_getElem h2]
theorem turn_turn {n : Nat} {u : List Vl} (hu : u.length = n) : pickV (turnC n) (pickV (turnC n) u) = u := by
  refine List.ext_getElem (by simp [pickV, turnC, hu]) fun k h1 h2 => ?_
  have hk : k < n := by omega
  have e1 : ((n : Int) - 1 - (k : Int)).toNat = n - 1 - k := by omega
  have hk2 : n - 1 - k < n := by omega
  have e2 : ((n : Int) - 1 - ((n - 1 - k : Nat) : Int)).toNat = k := by omega
  simp [pickV, turnC, List.getD_eq_getElem?_getD, List.getElem?_range hk2, List.getElem?_eq_getElem h2, e1, e2]
section
variable {n : Nat} {a : Rg} (ha : OkR a) (hwa : a.w = (n : Int))
include ha hwa
/-- what the law RegionIdentity says -/
theorem ident_same : (pjE a (sameC n) = 2 ∨ (pjE a (sameC n) = 0 ∧ eqB (pjR a (sameC n)) a = true)) ∧ (lfE a (sameC n) n = 2 ∨ (lfE a (sameC n) n = 0 ∧ eqB (lfR a (sameC n) n) a = true)) := by
  have hn := ok_n12 ha hwa
  obtain ⟨p0, p1⟩ := pj_spec ha hwa (same_dst n)
  obtain ⟨l0, l1⟩ := lf_spec (N := n) ha (by rw [hwa, same_len]) hn (same_dst n)
  constructor
  · rcases p0 with p0 | p0
    · obtain ⟨p2, p3, p4⟩ := p1 p0
      rw [same_len] at p3 p4
      refine .inr ⟨p0, eqB_of p2 p3 ha hwa fun u hu => ?_⟩
      rw [p4 u hu]
      constructor
      · rintro ⟨v, hv, h1, rfl⟩
        rw [same_pick hv.1]
        exact h1
      · exact fun h1 => ⟨u, hu, h1, same_pick hu.1⟩
    · exact .inl p0
  · rcases l0 with l0 | l0
    · obtain ⟨l2, l3, l4⟩ := l1 l0
      refine .inr ⟨l0, eqB_of l2 l3 ha hwa fun u hu => ?_⟩
      rw [l4 u hu, same_pick hu.1]
    · exact .inl l0
theorem ident_turn : pjE a (turnC n) = 2 ∨ (pjE a (turnC n) = 0 ∧ (pjE (pjR a (turnC n)) (turnC n) = 2 ∨ (pjE (pjR a (turnC n)) (turnC n) = 0 ∧ eqB (pjR (pjR a (turnC n)) (turnC n)) a = true)) ∧ (lfE (pjR a (turnC n)) (turnC n) n = 2 ∨ (lfE (pjR a (turnC n)) (turnC n) n = 0 ∧ eqB (lfR (pjR a (turnC n)) (turnC n) n) a = true))) := by
  have hn := ok_n12 ha hwa
  obtain ⟨p0, p1⟩ := pj_spec ha hwa (turn_dst n)
  rcases p0 with p0 | p0
  · obtain ⟨p2, p3, p4⟩ := p1 p0
    rw [turn_len] at p3 p4
    have tg : ∀ u, goodRow n u → goodRow n (pickV (turnC n) u) := fun u hu => by
      have := good_pick (turn_dst n) hu
      rw [turn_len] at this
      exact this
    have key : ∀ u, goodRow n u → ((pjR a (turnC n)).den (pickV (turnC n) u) = true ↔ a.den u = true) := fun u hu => by
      rw [p4 _ (tg u hu)]
      constructor
      · rintro ⟨v, hv, h1, h2⟩
        have := congrArg (pickV (turnC n)) h2
        rw [turn_turn hv.1, turn_turn hu.1] at this
        rw [← this]
        exact h1
      · exact fun h1 => ⟨u, hu, h1, rfl⟩
    refine .inr ⟨p0, ?_, ?_⟩
    · obtain ⟨q0, q1⟩ := pj_spec p2 p3 (turn_dst n)
      rcases q0 with q0 | q0
      · obtain ⟨q2, q3, q4⟩ := q1 q0
        rw [turn_len] at q3 q4
        refine .inr ⟨q0, eqB_of q2 q3 ha hwa fun u hu => ?_⟩
        rw [q4 u hu]
        constructor
        · rintro ⟨v, hv, h1, rfl⟩
          rw [← key _ hu, turn_turn hv.1]
          exact h1
        · intro h1
          exact ⟨pickV (turnC n) u, tg u hu, (key u hu).2 h1, turn_turn hu.1⟩
      · exact .inl q0
    · obtain ⟨l0, l1⟩ := lf_spec (N := n) p2 (by rw [p3, turn_len]) hn (turn_dst n)
      rcases l0 with l0 | l0
      · obtain ⟨l2, l3, l4⟩ := l1 l0
        refine .inr ⟨l0, eqB_of l2 l3 ha hwa fun u hu => ?_⟩
        rw [l4 u hu, key u hu]
      · exact .inl l0
  · exact .inl p0
end
end Go.Proofs.YtmnmckblmoalkaaGreat
