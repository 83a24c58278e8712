/-
  Texts: PjLaw, GCols.
-/
import Derived.Test.YtmnmckblmoalkaaGreatB45
import Derived.Test.YtmnmckblmoalkaaGreatB40
set_option linter.unusedVariables false
/-
  Plain: which rows a projection, a universal projection and a lifted region contain. No program here.
-/
namespace Go.Proofs.YtmnmckblmoalkaaGreat
open Go.RowKit
set_option maxRecDepth 100000
open Rg

theorem ofU_eq (x y : Bool) : ofT true true true x y = (x || y) := by cases x <;> cases y <;> rfl
/-- a row in a box -/
def inB (b : List (List Iv)) (u : List Vl) : Bool := (b.zip u).all fun p => inL p.1 p.2
theorem inB_at {b : List (List Iv)} {u : List Vl} (h : u.length = b.length) : inB b u = true ↔ ∀ i, i < b.length → inL (b.getD i []) (u.getD i zeroV) = true := by
  induction b generalizing u with
  | nil => simp [inB]
  | cons s b ih =>
    cases u with
    | nil => cases h
    | cons v u =>
      have h1 : u.length = b.length := by simpa using h
      have e : inB (s :: b) (v :: u) = (inL s v && inB b u) := by simp [inB]
      rw [e, Bool.and_eq_true, ih h1]
      constructor
      · rintro ⟨h2, h3⟩ i hi
        cases i with
        | zero => simpa using h2
        | succ i => simpa using h3 i (by simpa using hi)
      · intro h2
        refine ⟨by simpa using h2 0 (by simp), fun i hi => ?_⟩
        simpa using h2 (i + 1) (by simpa using hi)
/-- the cells at columns -/
def pickV (cs : List Int) (u : List Vl) : List Vl := cs.map fun c => u.getD c.toNat zeroV
theorem pickV_len (cs : List Int) (u : List Vl) : (pickV cs u).length = cs.length := by simp [pickV]
theorem pickV_at {cs : List Int} {u : List Vl} {k : Nat} {c : Int} (h : cs[k]? = some c) : (pickV cs u).getD k zeroV = u.getD c.toNat zeroV := by
  simp [pickV, List.getD_eq_getElem?_getD, h]
theorem pickL_at {cs : List Int} {b : List (List Iv)} {k : Nat} {c : Int} (h : cs[k]? = some c) : (pickL cs b).getD k [] = b.getD c.toNat [] := by
  simp [pickL, List.getD_eq_getElem?_getD, h]
theorem good_at {n : Nat} {u : List Vl} (h : goodRow n u) {i : Nat} (hi : i < n) : validV (u.getD i zeroV) = true := by
  have h1 : i < u.length := by rw [h.1]; exact hi
  rw [List.getD_eq_getElem?_getD, List.getElem?_eq_getElem h1]
  exact h.2 _ (List.getElem_mem h1)
theorem dst_at {n : Nat} {cs : List Int} (h : dstB (n : Int) cs = true) {k : Nat} {c : Int} (hk : cs[k]? = some c) : ∃ i : Nat, c = (i : Int) ∧ i < n := by
  have h1 := (dstB_true.1 h).1 c (List.mem_of_getElem? hk)
  exact ⟨c.toNat, by omega, by omega⟩
theorem dst_inj {n : Nat} {cs : List Int} (h : dstB (n : Int) cs = true) {j k : Nat} {c : Int} (hj : cs[j]? = some c) (hk : cs[k]? = some c) : j = k := by
  obtain ⟨h1, e1⟩ := List.getElem?_eq_some_iff.1 hj
  obtain ⟨h2, e2⟩ := List.getElem?_eq_some_iff.1 hk
  exact (List.getElem_inj (dstB_true.1 h).2).1 (e1.trans e2.symm)
theorem good_pick {n : Nat} {cs : List Int} (h : dstB (n : Int) cs = true) {u : List Vl} (hu : goodRow n u) : goodRow cs.length (pickV cs u) := by
  refine ⟨pickV_len _ _, fun v hv => ?_⟩
  obtain ⟨c, hc, rfl⟩ := List.mem_map.1 hv
  have h1 := (dstB_true.1 h).1 c hc
  exact good_at hu (by omega)
/-- sets that are valid and not empty -/
def okBx (n : Nat) (b : List (List Iv)) : Prop := b.length = n ∧ ∀ s ∈ b, validL s = true ∧ s ≠ []
theorem okBx_at {n : Nat} {b : List (List Iv)} (h : okBx n b) {i : Nat} (hi : i < n) : validL (b.getD i []) = true ∧ b.getD i [] ≠ [] := by
  have h1 : i < b.length := by rw [h.1]; exact hi
  rw [List.getD_eq_getElem?_getD, List.getElem?_eq_getElem h1]
  exact h.2 _ (List.getElem_mem h1)
theorem boxes_ok : ∀ {d : Nat} {r : Rg}, Form d r → r.fits = true → ∀ b ∈ boxesR r, okBx d b
  | d, .nil x f, h, _, b, hb => by
    refine ⟨boxesR_row h b hb, fun s hs => ?_⟩
    unfold boxesR at hb
    split at hb
    · rw [List.mem_singleton] at hb; subst hb; cases hs
    · cases hb
  | 0, .cons vs rest tail, h, _, _, _ => by have := h.2; simp [parts] at this
  | d + 1, .cons vs rest tail, h, ht, b, hb => by
    obtain ⟨h1, h2, h3, h4⟩ := h
    have hp := h3 (vs, rest) (by simp [parts])
    simp only [fits, Bool.and_eq_true, decide_eq_true_eq] at ht
    rcases List.mem_append.1 hb with hb | hb
    · obtain ⟨q, hq, rfl⟩ := List.mem_map.1 hb
      have := boxes_ok hp.2.2.1 ht.1.2 q hq
      refine ⟨by simp [this.1], fun s hs => ?_⟩
      rcases List.mem_cons.1 hs with rfl | hs
      · exact ⟨by simp [validL, ht.1.1, hp.2.1], hp.1⟩
      · exact this.2 s hs
    · exact boxes_ok (d := d + 1) (r := tail) ⟨h1, h2, fun p hp => h3 p (by simp [parts, hp]), by
        have := h4
        simp only [parts, List.pairwise_cons] at this
        exact this.2⟩ ht.2 b hb
/-- a region is the union of its boxes -/
theorem boxes_den : ∀ (d : Nat) (r : Rg), Form d r → ∀ u, goodRow d u → (r.den u = true ↔ ∃ b ∈ boxesR r, inB b u = true)
  | 0, r, h, u, hu => by
    obtain rfl := List.eq_nil_of_length_eq_zero hu.1
    have e : r = .nil r.w r.f := Rg.ext rfl rfl h.2
    rw [e, den_nil, boxesR]
    cases r.f <;> simp [Rg.f, inB]
  | d + 1, r, h, u, hu => by
    cases u with
    | nil => cases hu.1
    | cons v u =>
      have hv := hu.2 v List.mem_cons_self
      have hu' : goodRow d u := ⟨by have := hu.1; simp at this; exact this, fun x hx => hu.2 x (List.mem_cons_of_mem _ hx)⟩
      rw [den_cons (d : Int) v u r, boxesR_parts r h.2.1]
      have e : ∀ (s : List Iv) (b : List (List Iv)), inB (s :: b) (v :: u) = (inL s v && inB b u) := fun s b => by simp [inB]
      constructor
      · intro hd
        rcases at_spec (d : Int) v r with ⟨p, hp, h1, h2⟩ | ⟨h1, h2⟩
        · rw [h2] at hd
          obtain ⟨b, hb, hbu⟩ := (boxes_den d p.2 (h.2.2.1 p hp).2.2.1 u hu').1 hd
          exact ⟨p.1 :: b, List.mem_flatMap.2 ⟨p, hp, List.mem_map.2 ⟨b, hb, rfl⟩⟩, by rw [e, h1, hbu]; rfl⟩
        · rw [h1] at hd
          cases u <;> cases hd
      · rintro ⟨b, hb, hbu⟩
        obtain ⟨p, hp, hb⟩ := List.mem_flatMap.1 hb
        obtain ⟨q, hq, rfl⟩ := List.mem_map.1 hb
        rw [e, Bool.and_eq_true] at hbu
        rw [(h.at_iff hp hv).1 hbu.1]
        exact (boxes_den d p.2 (h.2.2.1 p hp).2.2.1 u hu').2 ⟨q, hq, hbu.2⟩
theorem boxR_den {b : List (List Iv)} {u : List Vl} (h : u.length = b.length) : (boxR b).den u = inB b u := den_box b u h
theorem boxR_ok {n : Nat} {b : List (List Iv)} (hn : n ≤ 12) (h : b.length = n) (hv : ∀ s ∈ b, validL s = true) : OkR (boxR b) ∧ (boxR b).w = (n : Int) := by
  obtain ⟨h1, h2, h3⟩ := box_ok b hv
  have hw := box_w b
  rw [h] at h1 h3 hw
  exact ⟨⟨by omega, by omega, by omega, by rw [hw, Int.toNat_natCast]; exact h1, h2⟩, hw⟩
/-- a union of boxes, one after another -/
theorem uni_spec {n : Nat} (hn : n ≤ 12) : ∀ (bs : List (List (List Iv))) (r : Rg), (∀ b ∈ bs, b.length = n ∧ ∀ s ∈ b, validL s = true) → OkR r → r.w = (n : Int) →
    (uniE bs r = 0 ∨ uniE bs r = 2) ∧ (uniE bs r = 0 → OkR (uniR bs r) ∧ (uniR bs r).w = (n : Int) ∧ ∀ u, goodRow n u → ((uniR bs r).den u = true ↔ r.den u = true ∨ ∃ b ∈ bs, inB b u = true))
  | [], r, _, hr, hw => ⟨.inl rfl, fun _ => ⟨hr, hw, fun u hu => by simp [uniR]⟩⟩
  | b :: l, r, hb, hr, hw => by
    obtain ⟨k1, k2⟩ := hb b List.mem_cons_self
    obtain ⟨b1, b2⟩ := boxR_ok hn k1 k2
    have h02 := op_02 hr hw b1 b2 opUr
    obtain ⟨_, h0⟩ := op_spec hr hw b1 b2 opUr
    unfold uniE uniR
    by_cases he : opErr opUr r (boxR b) = 0
    · obtain ⟨u1, u2, u3⟩ := h0 he
      obtain ⟨i1, i2⟩ := uni_spec hn l (opRes opUr r (boxR b)) (fun q hq => hb q (List.mem_cons_of_mem _ hq)) u2 u3
      rw [if_pos he, if_pos he]
      refine ⟨i1, fun h => ?_⟩
      obtain ⟨j1, j2, j3⟩ := i2 h
      refine ⟨j1, j2, fun u hu => ?_⟩
      rw [j3 u hu, u1, den_op (ok_formN hr hw) (ok_formN b1 b2) _ _ _ hu, boxR_den (by rw [hu.1, k1]), ofU_eq, Bool.or_eq_true]
      simp [or_assoc]
    · rw [if_neg he]
      exact ⟨h02, fun h => absurd h he⟩
theorem nil_ok {n : Nat} (hn : n ≤ 12) : OkR (.nil (n : Int) false) ∧ (Rg.nil (n : Int) false).w = (n : Int) := by
  refine ⟨⟨by simp [Rg.w], by simp [Rg.w]; omega, by simp [Rg.size], ?_, by simp [fits]⟩, rfl⟩
  simp only [Rg.w, Int.toNat_natCast]
  exact form_nil n
theorem nil_den (n : Int) (u : List Vl) : (Rg.nil n false).den u = false := by cases u <;> rfl
/-- a row whose cells at the columns are given -/
def spreadV (n : Nat) (cs : List Int) (p : List Vl) (b : List (List Iv)) : List Vl := (List.range n).map fun (i : Nat) => if (i : Int) ∈ cs then p.getD (cs.idxOf (i : Int)) zeroV else lo (b.getD i [])
theorem spread_at {n : Nat} {cs : List Int} {p : List Vl} {b : List (List Iv)} {i : Nat} (hi : i < n) : (spreadV n cs p b).getD i zeroV = if (i : Int) ∈ cs then p.getD (cs.idxOf (i : Int)) zeroV else lo (b.getD i []) := by
  simp [spreadV, List.getD_eq_getElem?_getD, List.getElem?_range hi]
theorem idx_at {n : Nat} {cs : List Int} (h : dstB (n : Int) cs = true) {k : Nat} {c : Int} (hk : cs[k]? = some c) : cs.idxOf c = k := by
  have h1 : c ∈ cs := List.mem_of_getElem? hk
  have h2 : cs.idxOf c < cs.length := List.idxOf_lt_length_of_mem h1
  have h3 : cs[cs.idxOf c]? = some c := by rw [List.getElem?_eq_getElem h2, List.getElem_idxOf]
  exact dst_inj h h3 hk
theorem idx_mem {cs : List Int} {c : Int} (h : c ∈ cs) : cs[cs.idxOf c]? = some c ∧ cs.idxOf c < cs.length := by
  have h2 : cs.idxOf c < cs.length := List.idxOf_lt_length_of_mem h
  exact ⟨by rw [List.getElem?_eq_getElem h2, List.getElem_idxOf], h2⟩
theorem spread_pick {n : Nat} {cs : List Int} (h : dstB (n : Int) cs = true) {p : List Vl} (hp : p.length = cs.length) (b : List (List Iv)) : pickV cs (spreadV n cs p b) = p := by
  refine List.ext_getElem (by rw [pickV_len, hp]) fun k h1 h2 => ?_
  have hk : k < cs.length := by rw [← hp]; exact h2
  obtain ⟨i, hi, hin⟩ := dst_at h (List.getElem?_eq_getElem hk)
  have e := pickV_at (u := spreadV n cs p b) (List.getElem?_eq_getElem hk)
  rw [hi, Int.toNat_natCast, spread_at hin, if_pos (by rw [← hi]; exact List.getElem_mem hk), ← hi, idx_at h (List.getElem?_eq_getElem hk)] at e
  rw [List.getD_eq_getElem?_getD, List.getD_eq_getElem?_getD, List.getElem?_eq_getElem h1, List.getElem?_eq_getElem h2] at e
  exact e
theorem spread_good {n : Nat} {cs : List Int} {p : List Vl} (hp : goodRow cs.length p) {b : List (List Iv)} (hb : okBx n b) : goodRow n (spreadV n cs p b) := by
  refine ⟨by simp [spreadV], fun v hv => ?_⟩
  obtain ⟨i, hi, rfl⟩ := List.mem_map.1 hv
  have hi := List.mem_range.1 hi
  split
  · rename_i hm
    exact good_at hp (idx_mem hm).2
  · obtain ⟨h1, h2⟩ := okBx_at hb hi
    simp only [validL, Bool.and_eq_true] at h1
    exact (lo_in h1.2 h2).1
/-- a row is in the projection of a box exactly if a row of the box has it -/
theorem pick_den {n : Nat} {cs : List Int} (h : dstB (n : Int) cs = true) {b : List (List Iv)} (hb : okBx n b) {p : List Vl} (hp : goodRow cs.length p) : inB (pickL cs b) p = true ↔ ∃ u, goodRow n u ∧ inB b u = true ∧ pickV cs u = p := by
  rw [inB_at (by rw [pick_len, hp.1]), pick_len]
  constructor
  · intro hin
    refine ⟨spreadV n cs p b, spread_good hp hb, ?_, spread_pick h hp.1 b⟩
    rw [inB_at (by rw [hb.1]; simp [spreadV])]
    intro i hi
    rw [hb.1] at hi
    rw [spread_at hi]
    split
    · rename_i hm
      obtain ⟨h1, h2⟩ := idx_mem hm
      have := hin _ h2
      rw [pickL_at h1, Int.toNat_natCast] at this
      exact this
    · obtain ⟨h1, h2⟩ := okBx_at hb hi
      simp only [validL, Bool.and_eq_true] at h1
      exact (lo_in h1.2 h2).2
  · rintro ⟨u, hu, hin, rfl⟩ k hk
    rw [inB_at (by rw [hu.1, hb.1])] at hin
    obtain ⟨i, hi, hin2⟩ := dst_at h (List.getElem?_eq_getElem hk)
    rw [pickL_at (List.getElem?_eq_getElem hk), pickV_at (List.getElem?_eq_getElem hk), hi, Int.toNat_natCast]
    exact hin i (by rw [hb.1]; exact hin2)
theorem liftK_at {N : Nat} {cs : List Int} (h : dstB (N : Int) cs = true) {b : List (List Iv)} (hb : b.length = cs.length) : ∀ k, k ≤ cs.length → ∀ i, i < N → (liftK N cs b k)[i]? = some (if (i : Int) ∈ cs.take k then b.getD (cs.idxOf (i : Int)) [] else allL)
  | 0, _, i, hi => by simp [liftK, hi]
  | k + 1, hk, i, hi => by
    have hk1 : k < cs.length := by omega
    have h1 := List.getElem?_eq_getElem hk1
    have h2 : b[k]? = some (b.getD k []) := by rw [List.getD_eq_getElem?_getD, List.getElem?_eq_getElem (by omega : k < b.length)]; rfl
    obtain ⟨j, hj, hjN⟩ := dst_at h h1
    rw [liftK_succ h1 h2, take_snocI h1, List.getElem?_set, hj, Int.toNat_natCast, liftK_len]
    by_cases hij : j = i
    · subst hij
      rw [if_pos rfl, if_pos hjN, if_pos (by simp)]
      rw [← hj, idx_at h h1]
    · rw [if_neg hij, liftK_at h hb k (by omega) i hi]
      have : ((i : Int) ∈ List.take k cs ++ [(j : Int)]) ↔ (i : Int) ∈ cs.take k := by
        rw [List.mem_append, List.mem_singleton]
        constructor
        · rintro (h | h)
          · exact h
          · omega
        · exact .inl
      simp only [this]
theorem liftL_at {N : Nat} {cs : List Int} (h : dstB (N : Int) cs = true) {b : List (List Iv)} (hb : b.length = cs.length) {i : Nat} (hi : i < N) : (liftL N cs b).getD i [] = if (i : Int) ∈ cs then b.getD (cs.idxOf (i : Int)) [] else allL := by
  have hl : (cs.zip b).length = cs.length := by simp [hb]
  rw [List.getD_eq_getElem?_getD, liftL, hl, liftK_at h hb _ (Nat.le_refl _) i hi, List.take_length]
  rfl
/-- a row is in a lifted box exactly if its cells at the columns are in the box -/
theorem lift_den {N : Nat} {cs : List Int} (h : dstB (N : Int) cs = true) {b : List (List Iv)} (hb : b.length = cs.length) {u : List Vl} (hu : goodRow N u) : inB (liftL N cs b) u = true ↔ inB b (pickV cs u) = true := by
  rw [inB_at (by rw [lift_len, hu.1]), inB_at (by rw [pickV_len, hb]), lift_len, hb]
  constructor
  · intro hin k hk
    have h1 := List.getElem?_eq_getElem hk
    obtain ⟨j, hj, hjN⟩ := dst_at h h1
    have := hin j hjN
    rw [liftL_at h hb hjN, if_pos (by rw [← hj]; exact List.getElem_mem hk), ← hj, idx_at h h1] at this
    rw [pickV_at h1, hj, Int.toNat_natCast]
    exact this
  · intro hin i hi
    rw [liftL_at h hb hi]
    split
    · rename_i hm
      obtain ⟨h1, h2⟩ := idx_mem hm
      have := hin _ h2
      rw [pickV_at h1, Int.toNat_natCast] at this
      exact this
    · exact in_all (good_at hu hi)
theorem lift_ok {N : Nat} {cs : List Int} (h : dstB (N : Int) cs = true) {b : List (List Iv)} (hb : b.length = cs.length) (hv : ∀ s ∈ b, validL s = true) : ∀ s ∈ liftL N cs b, validL s = true := by
  intro s hs
  obtain ⟨i, hi, e⟩ := List.mem_iff_getElem.1 hs
  have hiN : i < N := by rw [lift_len] at hi; exact hi
  have := liftL_at h hb hiN
  rw [List.getD_eq_getElem?_getD, List.getElem?_eq_getElem hi, Option.getD_some, e] at this
  rw [this]
  split
  · rename_i hm
    have h2 := (idx_mem hm).2
    rw [← hb] at h2
    rw [List.getD_eq_getElem?_getD, List.getElem?_eq_getElem h2]
    exact hv _ (List.getElem_mem h2)
  · exact validL_all
section
variable {n : Nat} {r : Rg} (hr : OkR r) (hw : r.w = (n : Int)) {cs : List Int}
include hr hw
/-- PROJECTION -/
theorem pj_spec (h : dstB (n : Int) cs = true) : (pjE r cs = 0 ∨ pjE r cs = 2) ∧ (pjE r cs = 0 → OkR (pjR r cs) ∧ (pjR r cs).w = (cs.length : Int) ∧ ∀ p, goodRow cs.length p → ((pjR r cs).den p = true ↔ ∃ u, goodRow n u ∧ r.den u = true ∧ pickV cs u = p)) := by
  have hn := ok_n12 hr hw
  have hl := dst_len h (by omega)
  have hf := ok_formN hr hw
  have hbx := boxes_ok hf hr.2.2.2.2
  have hD : dstB r.w cs = true := by rw [hw]; exact h
  unfold pjE pjR
  rw [if_pos (okB_true.2 hr), if_pos (okB_true.2 hr), if_pos hD, if_pos hD]
  obtain ⟨i1, i2⟩ := uni_spec hl ((boxesR r).map (pickL cs)) (.nil (cs.length : Int) false) (fun b hb => by
    obtain ⟨q, hq, rfl⟩ := List.mem_map.1 hb
    refine ⟨pick_len _ _, fun s hs => ?_⟩
    obtain ⟨c, hc, rfl⟩ := List.mem_map.1 hs
    have h1 := (dstB_true.1 h).1 c hc
    exact (okBx_at (hbx q hq) (by omega)).1) (nil_ok hl).1 (nil_ok hl).2
  refine ⟨i1, fun h0 => ?_⟩
  obtain ⟨j1, j2, j3⟩ := i2 h0
  refine ⟨j1, j2, fun p hp => ?_⟩
  rw [j3 p hp, nil_den]
  constructor
  · rintro (h | ⟨b, hb, hin⟩)
    · cases h
    · obtain ⟨q, hq, rfl⟩ := List.mem_map.1 hb
      obtain ⟨u, hu, h1, h2⟩ := (pick_den h (hbx q hq) hp).1 hin
      exact ⟨u, hu, (boxes_den n r hf u hu).2 ⟨q, hq, h1⟩, h2⟩
  · rintro ⟨u, hu, h1, h2⟩
    obtain ⟨q, hq, h1⟩ := (boxes_den n r hf u hu).1 h1
    exact .inr ⟨pickL cs q, List.mem_map.2 ⟨q, hq, rfl⟩, (pick_den h (hbx q hq) hp).2 ⟨u, hu, h1, h2⟩⟩
/-- THE UNIVERSAL PROJECTION -/
theorem fa_spec (h : dstB (n : Int) cs = true) : (faE r cs = 0 ∨ faE r cs = 2) ∧ (faE r cs = 0 → OkR (faR r cs) ∧ (faR r cs).w = (cs.length : Int) ∧ ∀ p, goodRow cs.length p → ((faR r cs).den p = true ↔ ∀ u, goodRow n u → pickV cs u = p → r.den u = true)) := by
  have hD : dstB r.w cs = true := by rw [hw]; exact h
  have hf := ok_formN hr hw
  unfold faR
  unfold faE
  rw [if_pos (okB_true.2 hr), if_pos hD]
  obtain ⟨_, c0⟩ := cp_spec hr hw
  by_cases e1 : cpErr r = 0
  · obtain ⟨c1, c2, c3⟩ := c0 e1
    obtain ⟨p0, p1⟩ := pj_spec c2 c3 h
    rw [if_pos e1]
    by_cases e2 : pjE (cpRes r) cs = 0
    · obtain ⟨p2, p3, p4⟩ := p1 e2
      rw [if_pos e2]
      obtain ⟨_, d0⟩ := cp_spec p2 p3
      refine ⟨cp_02 p2 p3, fun e3 => ?_⟩
      obtain ⟨d1, d2, d3⟩ := d0 e3
      rw [if_pos e3]
      refine ⟨d2, d3, fun p hp => ?_⟩
      rw [d1, cpl_den (ok_formN p2 p3) hp]
      have := p4 p hp
      constructor
      · intro h1 u hu hpu
        cases hd : r.den u
        · have h2 := this.2 ⟨u, hu, by rw [c1, cpl_den hf hu, hd]; rfl, hpu⟩
          rw [h2] at h1
          cases h1
        · rfl
      · intro h1
        cases hd : (pjR (cpRes r) cs).den p
        · rfl
        · obtain ⟨u, hu, h2, h3⟩ := this.1 hd
          rw [c1, cpl_den hf hu, h1 u hu h3] at h2
          cases h2
    · rw [if_neg e2]
      exact ⟨p0, fun h => absurd h e2⟩
  · rw [if_neg e1]
    exact ⟨cp_02 hr hw, fun h => absurd h e1⟩
end
/-- LIFTING -/
theorem lf_spec {N : Nat} {r : Rg} {cs : List Int} (hr : OkR r) (hw : r.w = (cs.length : Int)) (hN : N ≤ 12) (h : dstB (N : Int) cs = true) : (lfE r cs N = 0 ∨ lfE r cs N = 2) ∧ (lfE r cs N = 0 → OkR (lfR r cs N) ∧ (lfR r cs N).w = (N : Int) ∧ ∀ u, goodRow N u → (lfR r cs N).den u = r.den (pickV cs u)) := by
  have hf := ok_formN hr hw
  have hbx := boxes_ok hf hr.2.2.2.2
  have h1 : okB r = true ∧ (cs.length : Int) = r.w := ⟨okB_true.2 hr, hw.symm⟩
  have h2 : (0 ≤ (N : Int) ∧ (N : Int) ≤ 12) ∧ dstB (N : Int) cs = true := ⟨by omega, h⟩
  unfold lfE lfR
  rw [if_pos h1, if_pos h1, if_pos h2, if_pos h2, Int.toNat_natCast]
  obtain ⟨i1, i2⟩ := uni_spec hN ((boxesR r).map (liftL N cs)) (.nil (N : Int) false) (fun b hb => by
    obtain ⟨q, hq, rfl⟩ := List.mem_map.1 hb
    exact ⟨lift_len _ _ _, lift_ok h (hbx q hq).1 fun s hs => ((hbx q hq).2 s hs).1⟩) (nil_ok hN).1 (nil_ok hN).2
  refine ⟨i1, fun h0 => ?_⟩
  obtain ⟨j1, j2, j3⟩ := i2 h0
  refine ⟨j1, j2, fun u hu => ?_⟩
  rw [Bool.eq_iff_iff, j3 u hu, nil_den, boxes_den _ r hf _ (good_pick h hu)]
  constructor
  · rintro (h | ⟨b, hb, hin⟩)
    · cases h
    · obtain ⟨q, hq, rfl⟩ := List.mem_map.1 hb
      exact ⟨q, hq, (lift_den h (hbx q hq).1 hu).1 hin⟩
  · rintro ⟨q, hq, hin⟩
    exact .inr ⟨_, List.mem_map.2 ⟨q, hq, rfl⟩, (lift_den h (hbx q hq).1 hu).2 hin⟩
section
variable {n : Nat} {a b : Rg} (ha : OkR a) (hwa : a.w = (n : Int)) {cs : List Int} (h : dstB (n : Int) cs = true)
include ha hwa h
/-- what the law RegionExtends says of one row -/
theorem extends_plain (hb : OkR b) (hwb : b.w = (cs.length : Int)) {u : List Vl} (hu : goodRow n u) : (pjE a cs = 0 → hasR a u = true → hasR (pjR a cs) (pickV cs u) = true) ∧ (faE a cs = 0 → hasR (faR a cs) (pickV cs u) = true → hasR a u = true) ∧ (lfE b cs n = 0 → hasR (lfR b cs n) u = hasR b (pickV cs u)) := by
  have hn := ok_n12 ha hwa
  have hg := good_pick h hu
  rw [hasR_den ha hwa hu, hasR_den hb hwb hg]
  refine ⟨fun e hd => ?_, fun e hd => ?_, fun e => ?_⟩
  · obtain ⟨p1, p2, p3⟩ := (pj_spec ha hwa h).2 e
    rw [hasR_den p1 p2 hg]
    exact (p3 _ hg).2 ⟨u, hu, hd, rfl⟩
  · obtain ⟨f1, f2, f3⟩ := (fa_spec ha hwa h).2 e
    rw [hasR_den f1 f2 hg] at hd
    exact (f3 _ hg).1 hd u hu rfl
  · obtain ⟨l1, l2, l3⟩ := (lf_spec hb hwb hn h).2 e
    rw [hasR_den l1 l2 hu, l3 u hu]
end
section
variable {n : Nat} {a : Rg} (ha : OkR a) (hwa : a.w = (n : Int))
include ha hwa
end
theorem lstP_good : ∀ {d : Nat} {r : Rg}, Form d r → r.nix = false → goodRow d (lstP r)
  | 0, .nil x f, _, _ => ⟨rfl, fun v h => by cases h⟩
  | d + 1, .nil x f, h, hn => by
    have h2 : f = false := h.2.1
    subst h2
    simp [nix, Rg.f, Rg.len] at hn
  | 0, .cons vs rest tail, h, _ => by have := h.2; simp [parts] at this
  | d + 1, .cons vs rest tail, h, _ => by
    obtain ⟨h1, h2, h3, h4⟩ := h.2.2.1 (vs, rest) (by simp [parts])
    have ih := lstP_good h3 h4
    unfold lstP
    refine ⟨by simp [ih.1], fun v hv => ?_⟩
    rcases List.mem_cons.1 hv with rfl | hv
    · exact (lo_in h2 h1).1
    · exact ih.2 v hv
theorem lst_good {n : Nat} {a : Rg} (ha : OkR a) (hwa : a.w = (n : Int)) (h : lstB a = true) : goodRow n (lstR a) := by
  rw [lstR, if_pos h]
  unfold lstB at h
  simp only [Bool.and_eq_true, Bool.not_eq_true'] at h
  exact lstP_good (ok_formN ha hwa) h.2
end Go.Proofs.YtmnmckblmoalkaaGreat

/-
  The law's Case: distinct columns below a width.
-/
namespace Go.Proofs.YtmnmckblmoalkaaGreat
open Go.RowKit
set_option maxRecDepth 100000

theorem i64c_len (z : Int) : (i64c z).length = 1 := rfl
theorem one_i64 (z : Int) : ∀ u ∈ i64c z, u.oneCell' = true := by simp [i64c, Value.oneCell']
theorem info_i64 : (Tryz.prog.info? 3).map (fun i => (i.zero, i.size, i.bytes)) = some (some (.int .i64 0), 1, 8) := by kernel_rfl
/-- columns that do not lie in the block g -/
structure ClN (g : Nat) (w : World) (A : Option Addr) (n : Nat) (cs : List Int) : Prop where
  sl : ClS w A n cs
  ne : 0 < n → ∀ b o, A = some ⟨b, o, none⟩ → b ≠ g
theorem ClN.keep {g : Nat} {w w' : World} {A : Option Addr} {n : Nat} {cs : List Int} (h : ClN g w A n cs) (hk : Keeps w w') : ClN g w' A n cs := ⟨h.sl.keep hk, h.ne⟩
theorem ClN.case {g : Nat} {w w' : World} {A : Option Addr} {n : Nat} {cs : List Int} (h : ClN g w A n cs) (hb : But (· = g) w w') : ClN g w' A n cs :=
  ⟨h.sl.but hb (fun hn b o hA => h.ne hn b o hA), h.ne⟩
end Go.Proofs.YtmnmckblmoalkaaGreat
