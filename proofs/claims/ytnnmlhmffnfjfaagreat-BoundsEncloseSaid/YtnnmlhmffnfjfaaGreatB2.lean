/-
  Texts: Mem2, OrdV, InL, Points, Least.
-/
import Derived.Test.YtnnmlhmffnfjfaaGreatB1
import Derived.Laws.AppendOwnNone
set_option linter.unusedVariables false
set_option maxRecDepth 100000
namespace Go.Proofs.YtnnmlhmffnfjfaaGreat
open Go.RowKit
theorem add_at (b o j : Nat) : (⟨b, o, none⟩ : Addr).add j = ⟨b, o + j, none⟩ := by unfold Addr.add; split <;> simp_all
theorem flat_get {α : Type} {sz : Nat} {cs : α → List Value} (hcs : ∀ x, (cs x).length = sz) (hsz : 0 < sz) (l : List α) (j : Nat) (u : Value) (h : (l.flatMap cs)[j]? = some u) : ∃ x, l[j / sz]? = some x ∧ (cs x)[j % sz]? = some u := by
 have hj : j < l.length * sz := by have := (List.getElem?_eq_some_iff.1 h).1; rwa [flat_len hcs] at this
 have hq : j / sz < l.length := (Nat.div_lt_iff_lt_mul hsz).2 hj
 have hr : j % sz < (cs l[j / sz]).length := by rw [hcs]; exact Nat.mod_lt _ hsz
 refine ⟨l[j / sz], List.getElem?_eq_getElem hq, ?_⟩
 have h1 := flat_at hcs l (j / sz) _ (j % sz) _ (List.getElem?_eq_getElem hq) (List.getElem?_eq_getElem hr)
 rw [Nat.mul_comm, Nat.div_add_mod] at h1
 rw [h] at h1
 rw [List.getElem?_eq_getElem hr]
 exact h1.symm
theorem wpList_append_sl {α : Type} {cs : α → List Value} {P : Program} (w : World) {ops : Array Oper} {rest : List Oper} {o : Oper} {a : Act} {Q : Exit → Act → World → Prop} (hgd : o.guard = none) (s x : Operand) (t : TypeId)
 (ho : o.op = .call { callee := .builtin .append, args := #[s, x], argTypes := #[t, t] })
 (base : Nat) (e : TypeId) (i : TypeInfo) (z : Value) (size bytes : Nat) (ht : P.underlying t = some (.slice e)) (hi : P.info? e = some i) (hz : i.zero = some z)
 (hsize : i.size = size) (hby : i.bytes = bytes) (hzs : z.cells.size = size) (hsz : 0 < size)
 (v : Value) (n : Nat) (xs : List α) (hs : a.eval s = v) (hown : w.ownsRow base e size v n (xs.flatMap cs))
 (A : Option Addr) (m c : Nat) (l : List α) (hx : a.eval x = .slice A m c) (hl : Sl size cs w A m l) (hnil : A = none → m = 0 ∧ c = 0) (hsp : ∀ ad, A = some ad → ad.spot = none) (hcs : ∀ y, (cs y).length = size) (h1 : ∀ y, ∀ u ∈ cs y, u.oneCell' = true)
 (h63 : n + m ≤ maxLen) (hbytes : (n + m) * bytes ≤ 140737488355328) (hbase : base ≤ w.heap.size)
 (h : ∀ A' c' w', w'.ownsRow base e size (.slice A' (n + m) c') (n + m) ((xs ++ l).flatMap cs) → w.grownBy w' v.ownBlock → Below base w w' → ((Value.slice A' (n + m) c').ownBlock = v.ownBlock ∨ (Value.slice A' (n + m) c').ownBlock = some w.heap.size) → (A' = none → n + m = 0 ∧ c' = 0) →
  wpList P ops Q rest (a.put o.dst (.slice A' (n + m) c')) w') : wpList P ops Q (o :: rest) a w := by
 cases A with
 | none =>
   obtain ⟨rfl, rfl⟩ := hnil rfl
   have hnl : l = [] := List.eq_nil_of_length_eq_zero hl.len
   subst hnl
   refine wpList_append_own_none hgd s x t ho base e i size ht hi v n _ hs hown hx ?_
   rcases hown.2 with ⟨rfl, rfl⟩ | ⟨g, cap, cur, rfl, _, hh, r⟩
   · exact h none 0 w (by simpa using hown) (World.grownBy.refl w _) (Below.refl _ _) (.inl rfl) (fun _ => ⟨rfl, rfl⟩)
   · exact h (some ⟨g, 0, none⟩) cap w (by simpa using hown) (World.grownBy.refl w _) (Below.refl _ _) (.inl rfl) (fun h => by cases h)
 | some ad =>
   obtain ⟨b, off, sp⟩ := ad
   obtain rfl : sp = none := hsp _ rfl
   refine wpList_append_own_at w hgd s x t ho base e i z size bytes ht hi hz hsize hby hzs hsz v n _ hs hown ⟨b, off, none⟩ m c (l.flatMap cs) hx (by rw [flat_len hcs, hl.len]) (fun j u hu => ?_) (fun u hu => ?_) h63 hbytes hbase ?_
   · obtain ⟨y, hy, hyu⟩ := flat_get hcs hsz l j u hu
     have hm : 0 < m := by
      have h3 := (List.getElem?_eq_some_iff.1 hy).1
      rw [hl.len] at h3
      exact Nat.lt_of_le_of_lt (Nat.zero_le _) h3
     obtain ⟨b', o', hA, hc⟩ := hl.2 hm
     injection hA with hA
     injection hA with e1 e2
     subst e1 e2
     have h2 := hc _ y hy _ u hyu
     rw [add_at, ← h2, Nat.add_assoc, Nat.mul_comm, Nat.div_add_mod]
   · rw [List.mem_flatMap] at hu
     obtain ⟨y, _, hu⟩ := hu
     exact h1 y u hu
   · intro v' w' ho2 hg2 _ hat
     have hB := (Below.refl base w).grown hg2 hbase (own_base hown)
     rw [← List.flatMap_append] at ho2
     rcases ho2.2 with ⟨hv', hnm⟩ | ⟨g, cap, cur, hv', hb2, hh, hnc, hmx, r⟩
     · have : v' = .slice none (n + m) 0 := by rw [hv', hnm]
       rw [this] at ho2 hat ⊢
       exact h none 0 w' ho2 hg2 hB hat (fun _ => ⟨hnm, rfl⟩)
     · rw [hv'] at ho2 hat ⊢
       exact h (some ⟨g, 0, none⟩) cap w' ho2 hg2 hB hat (fun h => by cases h)
theorem wpList_append_sf {α : Type} {cs : α → List Value} {P : Program} (w : World) {ops : Array Oper} {rest : List Oper} {o : Oper} {a : Act} {Q : Exit → Act → World → Prop} (hgd : o.guard = none) (s x : Operand) (t : TypeId)
 (ho : o.op = .call { callee := .builtin .append, args := #[s, x], argTypes := #[t, t] })
 (base : Nat) (e : TypeId) (i : TypeInfo) (z : Value) (size bytes : Nat) (ht : P.underlying t = some (.slice e)) (hi : P.info? e = some i) (hz : i.zero = some z)
 (hsize : i.size = size) (hby : i.bytes = bytes) (hzs : z.cells.size = size) (hsz : 0 < size)
 (v : Value) (n : Nat) (xs : List α) (hs : a.eval s = v) (hown : w.ownsRow base e size v n (xs.flatMap cs))
 (A : Option Addr) (m c : Nat) (l : List α) (hx : a.eval x = .slice A m c) (hl : Sl size cs w A m l) (hnil : A = none → m = 0 ∧ c = 0) (hcs : ∀ y, (cs y).length = size) (h1 : ∀ y, ∀ u ∈ cs y, u.oneCell' = true)
 (h63 : n + m ≤ maxLen) (hbytes : (n + m) * bytes ≤ 140737488355328) (hbase : base ≤ w.heap.size)
 (h : ∀ A' c' w', w'.ownsRow base e size (.slice A' (n + m) c') (n + m) ((xs ++ l).flatMap cs) → w.grownBy w' v.ownBlock → Below base w w' → ((Value.slice A' (n + m) c').ownBlock = v.ownBlock ∨ (Value.slice A' (n + m) c').ownBlock = some w.heap.size) → (A' = none → n + m = 0 ∧ c' = 0) →
  wpList P ops Q rest (a.put o.dst (.slice A' (n + m) c')) w') : wpList P ops Q (o :: rest) a w := by
 cases A with
 | none =>
   obtain ⟨rfl, rfl⟩ := hnil rfl
   have hnl : l = [] := List.eq_nil_of_length_eq_zero hl.len
   subst hnl
   refine wpList_append_own_none hgd s x t ho base e i size ht hi v n _ hs hown hx ?_
   rcases hown.2 with ⟨rfl, rfl⟩ | ⟨g, cap, cur, rfl, _, hh, r⟩
   · exact h none 0 w (by simpa using hown) (World.grownBy.refl w _) (Below.refl _ _) (.inl rfl) (fun _ => ⟨rfl, rfl⟩)
   · exact h (some ⟨g, 0, none⟩) cap w (by simpa using hown) (World.grownBy.refl w _) (Below.refl _ _) (.inl rfl) (fun h => by cases h)
 | some ad =>
   refine wpList_append_own_at w hgd s x t ho base e i z size bytes ht hi hz hsize hby hzs hsz v n _ hs hown ad m c (l.flatMap cs) hx (by rw [flat_len hcs, hl.len]) (fun j u hu => ?_) (fun u hu => ?_) h63 hbytes hbase ?_
   · obtain ⟨y, hy, hyu⟩ := flat_get hcs hsz l j u hu
     have hm : 0 < m := by
      have h3 := (List.getElem?_eq_some_iff.1 hy).1
      rw [hl.len] at h3
      exact Nat.lt_of_le_of_lt (Nat.zero_le _) h3
     obtain ⟨b', o', hA, hc⟩ := hl.2 hm
     injection hA with hA
     subst hA
     have h2 := hc _ y hy _ u hyu
     rw [add_at, ← h2, Nat.add_assoc, Nat.mul_comm, Nat.div_add_mod]
   · rw [List.mem_flatMap] at hu
     obtain ⟨y, _, hu⟩ := hu
     exact h1 y u hu
   · intro v' w' ho2 hg2 _ hat
     have hB := (Below.refl base w).grown hg2 hbase (own_base hown)
     rw [← List.flatMap_append] at ho2
     rcases ho2.2 with ⟨hv', hnm⟩ | ⟨g, cap, cur, hv', hb2, hh, hnc, hmx, r⟩
     · have : v' = .slice none (n + m) 0 := by rw [hv', hnm]
       rw [this] at ho2 hat ⊢
       exact h none 0 w' ho2 hg2 hB hat (fun _ => ⟨hnm, rfl⟩)
     · rw [hv'] at ho2 hat ⊢
       exact h (some ⟨g, 0, none⟩) cap w' ho2 hg2 hB hat (fun h => by cases h)
theorem Sl.but {α : Type} {sz : Nat} {cs : α → List Value} {w w' : World} {A : Option Addr} {n : Nat} {l : List α} {S : Nat → Prop} (h : Sl sz cs w A n l) (hb : But S w w') (hs : 0 < n → ∀ b o, A = some ⟨b, o, none⟩ → ¬ S b) : Sl sz cs w' A n l := by
 refine ⟨h.1, fun hn => ?_⟩
 obtain ⟨b, o, e, hc⟩ := h.2 hn
 refine ⟨b, o, e, fun k x hx j u hu => ?_⟩
 have h1 := hc k x hx j u hu
 have hlt := cell_lt (w := w) (a := ⟨b, o + k * sz + j, none⟩) (by rw [h1]; rfl)
 rw [World.cell?_of_block (w := w) (hb.block b hlt (hs hn b o e))]
 exact h1
theorem wpList_append_one2 {P : Program} {ops : Array Oper} {rest : List Oper} {o : Oper} {a : Act} {Q : Exit → Act → World → Prop} (hgd : o.guard = none) (s x : Operand) (t : TypeId)
 (ho : o.op = .call { callee := .builtin .append, args := #[s, x], argTypes := #[t, t] })
 (base : Nat) (e : TypeId) (i : TypeInfo) (z : Value) (size bytes : Nat) (ht : P.underlying t = some (.slice e)) (hi : P.info? e = some i) (hz : i.zero = some z)
 (hsize : i.size = size) (hby : i.bytes = bytes) (hzs : z.cells.size = size) (hsz : 0 < size)
 (v : Value) (n : Nat) (xs : List Value) (hs : a.eval s = v) (W : World) (cells : Array Value) (hown : W.ownsRow base e size v n xs) (H : Nat) (hH : W.heap.size = H)
 (hx : a.eval x = .slice (some ⟨H, 0, none⟩) 1 1) (hcl : cells.toList.length = 1 * size) (h1 : ∀ u ∈ cells.toList, u.oneCell' = true)
 (h63 : n + 1 ≤ maxLen) (hbytes : (n + 1) * bytes ≤ 140737488355328) (hbase : base ≤ W.heap.size)
 (h : ∀ g cap w', w'.ownsRow base e size (.slice (some ⟨g, 0, none⟩) (n + 1) cap) (n + 1) (xs ++ cells.toList) → (W.alloc (.cells cells e)).grownBy w' v.ownBlock → Below base W w' → (v.ownBlock = some g ∨ g = H + 1) → g < w'.heap.size →
  wpList P ops Q rest (a.put o.dst (.slice (some ⟨g, 0, none⟩) (n + 1) cap)) w') : wpList P ops Q (o :: rest) a (W.alloc (.cells cells e)) := by
 subst hH
 refine wpList_append_lies _ hgd s x t ho base e i z size bytes ht hi hz hsize hby hzs hsz v n xs hs (hown.alloc _) ⟨W.heap.size, 0, none⟩ 1 1 cells.toList hx hcl (World.news_of_block (heap_alloc_new W _)) h1 (by omega) h63 hbytes (by simp; omega) (W.heap.size + 1) (by simp) ?_
 intro g cap w' ho2 hg2 hat hlt
 exact h g cap w' ho2 hg2 ((Below.refl _ _).grown (grown_of_alloc hg2) hbase (own_base hown)) hat hlt
theorem But.of_grown {S : Nat → Prop} {w w' : World} {row : Option Nat} (hg : w.grownBy w' row) (hS : ∀ k, row = some k → S k) : But S w w' :=
 ⟨hg.os, hg.tape, hg.output, hg.size, fun k hk hs => hg.block k hk (fun e => hs (hS k e.symm))⟩
theorem Sl.take {α : Type} {sz : Nat} {cs : α → List Value} {w : World} {A : Option Addr} {n : Nat} {l : List α} (h : Sl sz cs w A n l) (m : Nat) (hm : m ≤ n) : Sl sz cs w A m (l.take m) := by
 have hl := h.1
 refine ⟨by simp; omega, fun h0 => ?_⟩
 obtain ⟨b, o, e, hc⟩ := h.2 (by omega)
 refine ⟨b, o, e, fun k x hx => hc k x ?_⟩
 rw [List.getElem?_take] at hx
 split at hx
 · exact hx
 · cases hx
theorem cmpB_trans : ∀ a b c : List UInt8, cmpB a b ≤ 0 → cmpB b c ≤ 0 → cmpB a c ≤ 0
 | [], _, [], _, _ => by simp [cmpB]
 | [], _, _ :: _, _, _ => by simp [cmpB]
 | _ :: _, [], _, h, _ => by simp [cmpB] at h
 | _ :: _, _ :: _, [], _, h => by simp [cmpB] at h
 | a :: x, b :: y, c :: z, h1, h2 => by
   have ih := cmpB_trans x y z
   simp only [cmpB, UInt8.lt_iff_toNat_lt] at h1 h2 ⊢
   repeat' split at h1
   all_goals (repeat' split at h2)
   all_goals (repeat' split)
   all_goals first | omega | exact ih h1 h2
theorem cmpV_trans {a b c : Vl} (h1 : cmpV a b ≤ 0) (h2 : cmpV b c ≤ 0) : cmpV a c ≤ 0 := by
 have ih := cmpB_trans a.t.toList b.t.toList c.t.toList
 unfold cmpV at h1 h2 ⊢
 repeat' split at h1
 all_goals (repeat' split at h2)
 all_goals (repeat' split)
 all_goals first | omega | exact ih h1 h2
theorem cmpV_self (a : Vl) : cmpV a a = 0 := (cmpV_zero a a).2 rfl
theorem cmpV_lt_of_le {a b c : Vl} (h1 : cmpV a b ≤ 0) (h2 : cmpV b c < 0) : cmpV a c < 0 := by
 rcases Int.lt_or_le (cmpV a c) 0 with h | h
 · exact h
 · have e1 := cmpV_anti a c
   have e2 := cmpV_anti b c
   have := cmpV_trans (a := c) (b := a) (c := b) (by omega) h1
   omega
theorem cmpV_lt_of_lt {a b c : Vl} (h1 : cmpV a b < 0) (h2 : cmpV b c ≤ 0) : cmpV a c < 0 := by
 rcases Int.lt_or_le (cmpV a c) 0 with h | h
 · exact h
 · have e1 := cmpV_anti a c
   have e2 := cmpV_anti a b
   have := cmpV_trans (a := b) (b := c) (c := a) h2 (by omega)
   omega
theorem cmpV_lt_trans {a b c : Vl} (h1 : cmpV a b < 0) (h2 : cmpV b c < 0) : cmpV a c < 0 := cmpV_lt_of_le (by omega) h2
theorem cmpV_gt {a b : Vl} (h : ¬ cmpV a b ≤ 0) : cmpV b a < 0 := by have := cmpV_anti a b; omega
theorem cmpV_not {a b : Vl} (h : cmpV b a < 0) : ¬ cmpV a b ≤ 0 := by have := cmpV_anti a b; omega
def inI (x : Iv) (v : Vl) : Bool := decide (cmpV x.f v ≤ 0) && (x.o || decide (cmpV v x.t < 0))
def inL (l : List Iv) (v : Vl) : Bool := l.any (inI · v)
def hasL (l : List Iv) (v : Vl) : Bool := validV v && validL l && inL l v
theorem in_step {l : List Iv} {k : Nat} {x : Iv} {v : Vl} {r : Bool} (hx : l[k]? = some x) (h : inL (l.drop k) v = r) : r = (inI x v || inL (l.drop (k + 1)) v) := by
 rw [← h, drop_at hx]
 simp [inL]
theorem info_iv : (Tryz.prog.info? 187).map (fun i => (i.zero, i.size, i.bytes)) = some (some (.agg #[.int .i64 0, .int .i64 0, .string ⟨#[]⟩, .int .i64 0, .int .i64 0, .string ⟨#[]⟩, .bool false]), 7, 72) := by kernel_rfl
def ptsL : List Iv → List Vl
 | [] => []
 | x :: r => if x.o then x.f :: ptsL r else x.f :: x.t :: ptsL r
theorem ptsL_snoc (l : List Iv) (x : Iv) : ptsL (l ++ [x]) = ptsL l ++ (if x.o then [x.f] else [x.f, x.t]) := by
 induction l with
 | nil => simp only [List.nil_append, ptsL]
 | cons y l ih =>
   simp only [List.cons_append, ptsL, ih]
   split <;> simp
theorem ptsL_len (l : List Iv) : (ptsL l).length ≤ 2 * l.length := by
 induction l with
 | nil => simp [ptsL]
 | cons y l ih =>
   simp only [ptsL]
   split <;> simp only [List.length_cons] <;> omega
set_option maxRecDepth 8000 in
set_option maxHeartbeats 1000000 in
theorem points_any (A : Option Addr) (n c : Nat) (l : List Iv) (w : World) (hn : n ≤ 64) (hs : IvS w A n l) :
 Calls Tryz.prog 272 #[.slice A n c] w fun e w' => ∃ (A' : Option Addr) (c' : Nat), e = .returned (.slice A' (ptsL l).length c') ∧ VlS w' A' (ptsL l).length (ptsL l) ∧ Below w.heap.size w w' := by
 have Hs := zH hs
 have hln := hs.len
 clear hs
 obtain ⟨i0, hi, hz0, hz1, hz2⟩ := info_parts info_vl
 go_enter Tryz.func272, Tryz.ntmps272
 go_wp2_with (at_make; refine wpList_make_own w rfl _ _ _ rfl w.heap.size 59 i0 _ 3 Tryz.underlying52 hi hz0 hz1 .i64 .i64 _ (2 * n) rfl rfl (by omega) (by rw [hz2]; omega) (by simp only [maxLen]; omega) (Nat.le_refl _) ?_; intro w1 hown hg)
 have hB1 : Below w.heap.size w w1 := (Below.refl _ _).grown hg (Nat.le_refl _) (by simp)
 clear hg
 go_loopw [3, 12] (fun v i wr => ∃ (k : Nat) (A' : Option Addr) (m c' : Nat) (q : List Vl), k ≤ n ∧ i = .int .i64 (k : Int) ∧ v = .slice A' m c' ∧ Hid (q = ptsL (l.take k)) ∧ m ≤ 2 * k ∧ wr.ownsRow w.heap.size 59 3 (.slice A' m c') m (q.flatMap Vl.cs) ∧ Hid (q.length = m) ∧ Below w.heap.size w wr) (fun _ i _ => n - (intOf i).toNat)
 case atStart => exact ⟨0, _, _, _, [], by omega, rfl, rfl, by simp [Hid, ptsL], by omega, hown, rfl, hB1⟩
 case round =>
  obtain ⟨k, A', m, c', q, hk, rfl, rfl, hq, hm, hown', hql, hb⟩ := hrel
  by_cases hlt : k < n
  · obtain ⟨b, o, x, rfl, hx, hc⟩ := (Hs.out.keep (keeps_of hb)).at hlt
    have Hq := zH (take_snoc' hx)
    obtain ⟨⟨fk, fi, ft⟩, ⟨tk, ti, tt⟩, xo⟩ := x
    obtain ⟨c0, c1, c2, c3, c4, c5, c6⟩ := IvAt.of hc
    dsimp only at c0 c1 c2 c3 c4 c5 c6
    clear hx hc
    have hsz := hb.size
    go_wp2_with (first
     | (at_builtin; refine wpList_append_one (by rfl) (.tmp 16) (.tmp 19) _ (by rfl) w.heap.size 59 i0 _ 3 32 Tryz.underlying52 hi hz0 hz1 hz2 (by rfl) (by omega) (.slice A' m c') m _ (by rfl) _ _ (hown'.alloc _) (wr.heap.size + 1) (by simp) (by rfl) (by rfl) (one_vl ⟨fk, fi, ft⟩) (by simp only [maxLen]; omega) (by omega) (by simp; omega) ?_; intro g cap w2 hown2 hg2 hB2 hat2 hlt2; have hbx := (Blk.grown (Blk.new wr _ _) hg2 (own_ne hown')).cell; have hsz2 := hB2.size)
     | (at_builtin; refine wpList_append_one (by rfl) (.tmp 24) (.tmp 27) _ (by rfl) w.heap.size 59 i0 _ 3 32 Tryz.underlying52 hi hz0 hz1 hz2 (by rfl) (by omega) (.slice (some ⟨g, 0, none⟩) (m + 1) cap) (m + 1) _ (by rfl) _ _ hown2 w2.heap.size (by rfl) (by rfl) (by rfl) (one_vl ⟨tk, ti, tt⟩) (by simp only [maxLen]; omega) (by omega) (by simp at hsz2; omega) ?_; intro g3 cap3 w3 hown3 hg3 hB3 hat3 hlt3))
    · go_roundw
      case rel =>
       refine ⟨k + 1, _, m + 1 + 1, _, q ++ [⟨fk, fi, ft⟩, ⟨tk, ti, tt⟩], by omega, by go_num, rfl, ?_, by omega, ?_, ?_, ?_⟩
       · show _ = _
         have hxo : xo = false := by simpa using ‹(!xo) = true›
         rw [Hq.out, ptsL_snoc, ← hq.out, if_neg (by simp [hxo])]
       · simpa [List.flatMap_append, Vl.cs] using hown3
       · show _ = _
         have := hql.out
         simp; omega
       · exact ((hb.alloc hb.size _).trans hB2).trans hB3
      case measure => simp [intOf]; omega
    · go_roundw
      case rel =>
       refine ⟨k + 1, _, m + 1, _, q ++ [⟨fk, fi, ft⟩], by omega, by go_num, rfl, ?_, by omega, ?_, ?_, ?_⟩
       · show _ = _
         have hxo : xo = true := by simpa using ‹(!xo) = false›
         rw [Hq.out, ptsL_snoc, ← hq.out, if_pos (by simp [hxo])]
       · simpa [List.flatMap_append, Vl.cs] using hown2
       · show _ = _
         have := hql.out
         simp; omega
       · exact (hb.alloc hb.size _).trans hB2
      case measure => simp [intOf]; omega
  · go_wp2
    go_ret
    obtain rfl : k = n := by omega
    have hq1 : q = ptsL l := by rw [hq.out, List.take_of_length_le (by omega)]
    subst hq1
    obtain rfl : (ptsL l).length = m := hql.out
    exact ⟨A', c', rfl, Sl.of_own Vl.cs_len rfl hown', hb⟩
structure MCap (w : World) (gi gj ga gb : Nat) (i j : Nat) (A B : Option Addr) (n m ca cb : Nat) : Prop where
 hi : Blk w gi 3 #[.int .i64 i]
 hj : Blk w gj 3 #[.int .i64 j]
 ha : Blk w ga 52 #[.slice A n ca]
 hb : Blk w gb 52 #[.slice B m cb]
def leastL : List Vl → List Vl → Vl
 | [], [] => zeroV
 | x :: _, [] => x
 | [], y :: _ => y
 | x :: _, y :: _ => if cmpV x y < 0 then x else y
set_option maxHeartbeats 1000000 in
theorem least_both (w : World) (gi gj ga gb i j : Nat) (A B : Option Addr) (n m ca cb : Nat) (pa pb : List Vl) (hc : MCap w gi gj ga gb i j A B n m ca cb)
 (hA : VlS w A n pa) (hB : VlS w B m pb) (hi : i < n) (hj : j < m) (hn : n ≤ 1000) (hm : m ≤ 1000) :
 Calls Tryz.prog 273 #[.pointer (some ⟨gj, 0, none⟩), .pointer (some ⟨gb, 0, none⟩), .pointer (some ⟨gi, 0, none⟩), .pointer (some ⟨ga, 0, none⟩)] w fun e w' =>
  e = .returned (.agg #[.int .i64 (leastL (pa.drop i) (pb.drop j)).k, .int .i64 (leastL (pa.drop i) (pb.drop j)).i, .string (leastL (pa.drop i) (pb.drop j)).t]) ∧ Below w.heap.size w w' := by
 obtain ⟨b, o, x, rfl, hx, hxc⟩ := hA.at hi
 obtain ⟨b', o', y, rfl, hy, hyc⟩ := hB.at hj
 have HL : Hid (leastL (pa.drop i) (pb.drop j) = if cmpV x y < 0 then x else y) := by
  rw [drop_at hx, drop_at hy]; rfl
 obtain ⟨xk, xi, xt⟩ := x
 obtain ⟨yk, yi, yt⟩ := y
 obtain ⟨c0, c1, c2⟩ := VlAt.of hxc
 obtain ⟨d0, d1, d2⟩ := VlAt.of hyc
 dsimp only at c0 c1 c2 d0 d1 d2
 have e1 := blocks_at hc.hi (i := 0) rfl
 have e2 := blocks_at hc.hj (i := 0) rfl
 have e3 := blocks_at hc.ha (i := 0) rfl
 have e4 := blocks_at hc.hb (i := 0) rfl
 clear hx hy hxc hyc hA hB hc
 have g1 : decide (i < n) = true := by simp [hi]
 have g2 : ((j : Int) == (m : Int)) = false := by simp; omega
 generalize hLL : leastL (pa.drop i) (pb.drop j) = L at *
 clear hLL
 go_enter Tryz.func273, Tryz.ntmps273
 go_wp2
 have hB0 : Below w.heap.size w (w.alloc (.cells #[.int .i64 0, .int .i64 0, .string ⟨#[]⟩] 59)) := (Below.refl _ _).alloc (Nat.le_refl _) _
 have hX := Blk.new w 59 #[.int .i64 0, .int .i64 0, .string ⟨#[]⟩]
 generalize w.alloc (.cells #[.int .i64 0, .int .i64 0, .string ⟨#[]⟩] 59) = W at *
 have hK0 := keeps_of hB0
 replace c0 := keep_cell hK0 c0
 replace c1 := keep_cell hK0 c1
 replace c2 := keep_cell hK0 c2
 replace d0 := keep_cell hK0 d0
 replace d1 := keep_cell hK0 d1
 replace d2 := keep_cell hK0 d2
 replace e1 := keep_cell hK0 e1
 replace e2 := keep_cell hK0 e2
 replace e3 := keep_cell hK0 e3
 replace e4 := keep_cell hK0 e4
 clear hK0
 refine wp_region_seg [([0, 1, 2, 3, 4, 5, 6, 7, 8, 9, 10, 11, 12, 13, 14, 15, 16, 17], 18)] [19, 20, 21] (by kernel_rfl) (by kernel_rfl) (fun _ _ d _ _ h => by cases d <;> exact h) ?_
 simp only [pickSegs, pickOps, opAt, pkO]
 have hca := @cell_after W.drew
 unfold wpBlocks
 repeat (go_big_quiet_step (fail))
 refine wpQuiet_nil ?_
 go_wp2_with (first | (go_at_call 93; refine (compare_any ⟨_, _, _⟩ ⟨_, _, _⟩ _).mono ?_; rintro e w1 ⟨rfl, hb1⟩))
 refine ⟨hb1, ?_⟩
 clear hca
 have hB1 := Below.next hB0.drew hb1
 have hX1 := hX.drew.below hb1
 have hK1 := bcell hb1
 unfold wpBlocks
 repeat (go_big_quiet_step (fail))
 refine wpQuiet_nil ?_
 have hXc := hX1.cell
 have hXf := hX1.free
 go_wp2
 · refine bodyPost_ret (v := .agg #[.int .i64 xk, .int .i64 xi, .string xt]) (by simp [results, Tryz.results273, go_sem, hXc]) rfl ⟨?_, ?_⟩
   · rw [HL.out, if_pos ‹_›]
   · repeat (first | exact hB1 | refine Below.setCell ?_ (by simp) _)
 · refine bodyPost_ret (v := .agg #[.int .i64 yk, .int .i64 yi, .string yt]) (by simp [results, Tryz.results273, go_sem, hXc]) rfl ⟨?_, ?_⟩
   · rw [HL.out, if_neg (by omega)]
   · repeat (first | exact hB1 | refine Below.setCell ?_ (by simp) _)
set_option maxHeartbeats 1000000 in
theorem least_a (w : World) (gi gj ga gb i j : Nat) (A B : Option Addr) (n m ca cb : Nat) (pa pb : List Vl) (hc : MCap w gi gj ga gb i j A B n m ca cb)
 (hA : VlS w A n pa) (hB : VlS w B m pb) (hi : i < n) (hj : j = m) (hn : n ≤ 1000) (hm : m ≤ 1000) :
 Calls Tryz.prog 273 #[.pointer (some ⟨gj, 0, none⟩), .pointer (some ⟨gb, 0, none⟩), .pointer (some ⟨gi, 0, none⟩), .pointer (some ⟨ga, 0, none⟩)] w fun e w' =>
  e = .returned (.agg #[.int .i64 (leastL (pa.drop i) (pb.drop j)).k, .int .i64 (leastL (pa.drop i) (pb.drop j)).i, .string (leastL (pa.drop i) (pb.drop j)).t]) ∧ Below w.heap.size w w' := by
 obtain ⟨b, o, x, rfl, hx, hxc⟩ := hA.at hi
 have HL : Hid (leastL (pa.drop i) (pb.drop j) = x) := by
  have h0 : pb.drop j = [] := List.drop_eq_nil_of_le (by rw [hB.len]; omega)
  rw [h0, drop_at hx]; rfl
 obtain ⟨xk, xi, xt⟩ := x
 obtain ⟨c0, c1, c2⟩ := VlAt.of hxc
 dsimp only at c0 c1 c2
 have e1 := blocks_at hc.hi (i := 0) rfl
 have e2 := blocks_at hc.hj (i := 0) rfl
 have e3 := blocks_at hc.ha (i := 0) rfl
 have e4 := blocks_at hc.hb (i := 0) rfl
 clear hx hxc hA hB hc
 have g1 : decide (i < n) = true := by simp [hi]
 have g2 : ((j : Int) == (m : Int)) = true := by simp; omega
 have HJ := zH hj
 clear hj
 generalize hLL : leastL (pa.drop i) (pb.drop j) = L at *
 clear hLL
 go_enter Tryz.func273, Tryz.ntmps273
 go_wp2
 have hB0 : Below w.heap.size w (w.alloc (.cells #[.int .i64 0, .int .i64 0, .string ⟨#[]⟩] 59)) := (Below.refl _ _).alloc (Nat.le_refl _) _
 have hX := Blk.new w 59 #[.int .i64 0, .int .i64 0, .string ⟨#[]⟩]
 generalize w.alloc (.cells #[.int .i64 0, .int .i64 0, .string ⟨#[]⟩] 59) = W at *
 have hK0 := keeps_of hB0
 replace c0 := keep_cell hK0 c0
 replace c1 := keep_cell hK0 c1
 replace c2 := keep_cell hK0 c2
 replace e1 := keep_cell hK0 e1
 replace e2 := keep_cell hK0 e2
 replace e3 := keep_cell hK0 e3
 replace e4 := keep_cell hK0 e4
 clear hK0
 refine wp_region_seg [([0, 1, 2, 3, 4, 5, 6, 7, 8, 9, 10, 11, 12, 13, 14, 15, 16, 17], 18)] [19, 20, 21] (by kernel_rfl) (by kernel_rfl) (fun _ _ d _ _ h => by cases d <;> exact h) ?_
 simp only [pickSegs, pickOps, opAt, pkO]
 have hca := @cell_after W.drew
 unfold wpBlocks
 repeat (go_big_quiet_step (fail))
 refine wpQuiet_nil ?_
 go_wp2
 refine ⟨Below.refl _ _, ?_⟩
 clear hca
 have hX1 := hX.drew
 unfold wpBlocks
 repeat (go_big_quiet_step (fail))
 refine wpQuiet_nil ?_
 have hXc := hX.cell
 have hXf := hX.free
 go_wp2
 refine bodyPost_ret (v := .agg #[.int .i64 xk, .int .i64 xi, .string xt]) (by simp [results, Tryz.results273, go_sem, hXc]) rfl ⟨?_, ?_⟩
 · rw [HL.out]
 · repeat (first | exact hB0 | refine Below.drew ?_ | refine Below.setCell ?_ (by simp) _)
set_option maxHeartbeats 1000000 in
theorem least_b (w : World) (gi gj ga gb i j : Nat) (A B : Option Addr) (n m ca cb : Nat) (pa pb : List Vl) (hc : MCap w gi gj ga gb i j A B n m ca cb)
 (hA : VlS w A n pa) (hB : VlS w B m pb) (hi : i = n) (hj : j < m) (hn : n ≤ 1000) (hm : m ≤ 1000) :
 Calls Tryz.prog 273 #[.pointer (some ⟨gj, 0, none⟩), .pointer (some ⟨gb, 0, none⟩), .pointer (some ⟨gi, 0, none⟩), .pointer (some ⟨ga, 0, none⟩)] w fun e w' =>
  e = .returned (.agg #[.int .i64 (leastL (pa.drop i) (pb.drop j)).k, .int .i64 (leastL (pa.drop i) (pb.drop j)).i, .string (leastL (pa.drop i) (pb.drop j)).t]) ∧ Below w.heap.size w w' := by
 obtain ⟨b', o', y, rfl, hy, hyc⟩ := hB.at hj
 have HL : Hid (leastL (pa.drop i) (pb.drop j) = y) := by
  have h0 : pa.drop i = [] := List.drop_eq_nil_of_le (by rw [hA.len]; omega)
  rw [h0, drop_at hy]; rfl
 obtain ⟨yk, yi, yt⟩ := y
 obtain ⟨d0, d1, d2⟩ := VlAt.of hyc
 dsimp only at d0 d1 d2
 have e1 := blocks_at hc.hi (i := 0) rfl
 have e2 := blocks_at hc.hj (i := 0) rfl
 have e3 := blocks_at hc.ha (i := 0) rfl
 have e4 := blocks_at hc.hb (i := 0) rfl
 clear hy hyc hA hB hc
 have g1 : decide (i < n) = false := by simp; omega
 have HI := zH hi
 clear hi
 have g2 : ((j : Int) == (m : Int)) = false := by simp; omega
 generalize hLL : leastL (pa.drop i) (pb.drop j) = L at *
 clear hLL
 go_enter Tryz.func273, Tryz.ntmps273
 go_wp2
 have hB0 : Below w.heap.size w (w.alloc (.cells #[.int .i64 0, .int .i64 0, .string ⟨#[]⟩] 59)) := (Below.refl _ _).alloc (Nat.le_refl _) _
 have hX := Blk.new w 59 #[.int .i64 0, .int .i64 0, .string ⟨#[]⟩]
 generalize w.alloc (.cells #[.int .i64 0, .int .i64 0, .string ⟨#[]⟩] 59) = W at *
 have hK0 := keeps_of hB0
 replace d0 := keep_cell hK0 d0
 replace d1 := keep_cell hK0 d1
 replace d2 := keep_cell hK0 d2
 replace e1 := keep_cell hK0 e1
 replace e2 := keep_cell hK0 e2
 replace e3 := keep_cell hK0 e3
 replace e4 := keep_cell hK0 e4
 clear hK0
 refine wp_region_seg [([0, 1, 2, 3, 4, 5, 6, 7, 8, 9, 10, 11, 12, 13, 14, 15, 16, 17], 18)] [19, 20, 21] (by kernel_rfl) (by kernel_rfl) (fun _ _ d _ _ h => by cases d <;> exact h) ?_
 simp only [pickSegs, pickOps, opAt, pkO]
 have hca := @cell_after W.drew
 unfold wpBlocks
 repeat (go_big_quiet_step (fail))
 refine wpQuiet_nil ?_
 go_wp2
 refine ⟨Below.refl _ _, ?_⟩
 clear hca
 have hX1 := hX.drew
 unfold wpBlocks
 repeat (go_big_quiet_step (fail))
 refine wpQuiet_nil ?_
 have hXc := hX.cell
 have hXf := hX.free
 go_wp2
 refine bodyPost_ret (v := .agg #[.int .i64 yk, .int .i64 yi, .string yt]) (by simp [results, Tryz.results273, go_sem, hXc]) rfl ⟨?_, ?_⟩
 · rw [HL.out]
 · repeat (first | exact hB0 | refine Below.drew ?_ | refine Below.setCell ?_ (by simp) _)
theorem least_any (w : World) (gi gj ga gb i j : Nat) (A B : Option Addr) (n m ca cb : Nat) (pa pb : List Vl) (hc : MCap w gi gj ga gb i j A B n m ca cb)
 (hA : VlS w A n pa) (hB : VlS w B m pb) (hi : i ≤ n) (hj : j ≤ m) (hij : i < n ∨ j < m) (hn : n ≤ 1000) (hm : m ≤ 1000) :
 Calls Tryz.prog 273 #[.pointer (some ⟨gj, 0, none⟩), .pointer (some ⟨gb, 0, none⟩), .pointer (some ⟨gi, 0, none⟩), .pointer (some ⟨ga, 0, none⟩)] w fun e w' =>
  e = .returned (.agg #[.int .i64 (leastL (pa.drop i) (pb.drop j)).k, .int .i64 (leastL (pa.drop i) (pb.drop j)).i, .string (leastL (pa.drop i) (pb.drop j)).t]) ∧ Below w.heap.size w w' := by
 rcases Nat.lt_or_ge i n with h1 | h1
 · rcases Nat.lt_or_ge j m with h2 | h2
   · exact least_both w gi gj ga gb i j A B n m ca cb pa pb hc hA hB h1 h2 hn hm
   · exact least_a w gi gj ga gb i j A B n m ca cb pa pb hc hA hB h1 (by omega) hn hm
 · exact least_b w gi gj ga gb i j A B n m ca cb pa pb hc hA hB (by omega) (by omega) hn hm
end Go.Proofs.YtnnmlhmffnfjfaaGreat
