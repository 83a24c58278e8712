/-
  Texts: Ord, Alg, FComb0.
-/
import Derived.Test.YtmnmckblmoalkaaGreatB31
import Derived.Test.YtmnmckblmoalkaaGreatB32
import Derived.Deep.CutBlock
set_option linter.unusedVariables false
/-
  Plain mathematics: the orders of values and of rows are total; the relation of rows is strictly ascending and has the rows' own members. No program here.
-/
namespace Go.Proofs.YtmnmckblmoalkaaGreat
open Go.RowKit
set_option maxRecDepth 100000

theorem cmpR_anti : ∀ a b : List Vl, cmpR b a = - cmpR a b
  | [], [] => by simp [cmpR]
  | [], _ :: _ => by simp [cmpR]
  | _ :: _, [] => by simp [cmpR]
  | x :: a, y :: b => by
    have ih := cmpR_anti a b
    have := cmpV_anti x y
    simp only [cmpR]
    repeat' split
    all_goals omega
theorem cmpR_zero : ∀ a b : List Vl, cmpR a b = 0 ↔ a = b
  | [], [] => by simp [cmpR]
  | [], _ :: _ => by simp [cmpR]
  | _ :: _, [] => by simp [cmpR]
  | x :: a, y :: b => by
    have ih := cmpR_zero a b
    have := cmpV_zero x y
    simp only [cmpR, List.cons.injEq]
    split
    · constructor
      · intro h; omega
      · rintro ⟨h, _⟩; exact absurd (this.2 h) (by omega)
    · rw [ih]
      constructor
      · intro h; exact ⟨this.1 (by omega), h⟩
      · intro h; exact h.2
theorem cmpR_trans : ∀ a b c : List Vl, cmpR a b ≤ 0 → cmpR b c ≤ 0 → cmpR a c ≤ 0
  | [], _, [], _, _ => by simp [cmpR]
  | [], _, _ :: _, _, _ => by simp [cmpR]
  | _ :: _, [], _, h, _ => by simp [cmpR] at h
  | _ :: _, _ :: _, [], _, h => by simp [cmpR] at h
  | x :: a, y :: b, z :: c, h1, h2 => by
    have ih := cmpR_trans a b c
    simp only [cmpR] at h1 h2 ⊢
    have t1 := @cmpV_trans x y z
    have t2 := @cmpV_lt_of_le x y z
    have t3 := @cmpV_lt_of_lt x y z
    repeat' split at h1
    all_goals (repeat' split at h2)
    all_goals (repeat' split)
    all_goals first | (exact ih h1 h2) | omega
theorem cmpR_lt_of_lt {a b c : List Vl} (h1 : cmpR a b < 0) (h2 : cmpR b c ≤ 0) : cmpR a c < 0 := by
  rcases Int.lt_or_le (cmpR a c) 0 with h | h
  · exact h
  · have e1 := cmpR_anti a c
    have e2 := cmpR_anti a b
    have := cmpR_trans b c a h2 (by omega)
    omega
/-- ascending, repetitions allowed -/
abbrev upR (l : List (List Vl)) : Prop := l.Pairwise (fun a b => cmpR a b ≤ 0)
/-- strictly ascending -/
abbrev ascR (l : List (List Vl)) : Prop := l.Pairwise (fun a b => cmpR a b < 0)
theorem mrgR_up : ∀ (a b : List (List Vl)), upR a → upR b → upR (mrgR a b)
  | [], b, _, h => by simpa [mrgR] using h
  | x :: a, [], h, _ => by simpa [mrgR] using h
  | x :: a, y :: b, h1, h2 => by
    rw [mrgR_cons]
    have k1 := List.pairwise_cons.1 h1
    have k2 := List.pairwise_cons.1 h2
    split
    · rename_i hc
      refine List.pairwise_cons.2 ⟨fun r hr => ?_, mrgR_up a (y :: b) k1.2 h2⟩
      rcases (mrgR_mem _ _ _).1 hr with h | h
      · exact k1.1 r h
      · rcases List.mem_cons.1 h with rfl | h
        · exact hc
        · exact cmpR_trans _ _ _ hc (k2.1 r h)
    · rename_i hc
      have hyx : cmpR y x ≤ 0 := by have := cmpR_anti x y; omega
      refine List.pairwise_cons.2 ⟨fun r hr => ?_, mrgR_up (x :: a) b h1 k2.2⟩
      rcases (mrgR_mem _ _ _).1 hr with h | h
      · rcases List.mem_cons.1 h with rfl | h
        · exact hyx
        · exact cmpR_trans _ _ _ hyx (k1.1 r h)
      · exact k2.1 r h
termination_by a b => a.length + b.length
theorem srtR_up (l : List (List Vl)) : upR (srtR l) := by
  induction h : l.length using Nat.strongRecOn generalizing l with
  | _ n ih =>
    subst h
    by_cases h2 : l.length < 2
    · rw [srtR_short h2]
      match l, h2 with
      | [], _ => exact List.Pairwise.nil
      | [x], _ => exact List.pairwise_singleton _ _
    · rw [srtR_long (by omega)]
      exact mrgR_up _ _ (ih _ (by simp; omega) _ rfl) (ih _ (by simp; omega) _ rfl)
theorem keepR_snoc (acc : List (List Vl)) (x r : List Vl) : keepR (acc ++ [x]) r = decide (cmpR x r ≠ 0) := by
  simp [keepR]
theorem dedup_asc : ∀ (l acc : List (List Vl)), ascR acc → upR l → (∀ x ∈ acc, ∀ y ∈ l, cmpR x y ≤ 0) → ascR (dedup acc l) ∧ ∀ r, r ∈ acc ∨ r ∈ l → r ∈ dedup acc l
  | [], acc, h, _, _ => ⟨h, fun r hr => hr.elim id (fun h => by cases h)⟩
  | y :: l, acc, h1, h2, h3 => by
    have k2 := List.pairwise_cons.1 h2
    unfold dedup
    by_cases hk : keepR acc y = true
    · rw [if_pos hk]
      have hlt : ∀ x ∈ acc, cmpR x y < 0 := by
        intro x hx
        have hne : acc ≠ [] := List.ne_nil_of_mem hx
        obtain ⟨acc', z, rfl⟩ : ∃ acc' z, acc = acc' ++ [z] := ⟨_, _, (List.dropLast_concat_getLast hne).symm⟩
        rw [keepR_snoc] at hk
        have hz := h3 z (by simp) y (by simp)
        have hzy : cmpR z y < 0 := by
          have := of_decide_eq_true hk
          omega
        rcases List.mem_append.1 hx with h | h
        · have := (List.pairwise_append.1 h1).2.2 x h z (by simp)
          exact cmpR_lt_of_lt this hz
        · have : x = z := by simpa using h
          rw [this]; exact hzy
      have hasc : ascR (acc ++ [y]) := List.pairwise_append.2 ⟨h1, List.pairwise_singleton _ _, fun a ha b hb => by
        have : b = y := by simpa using hb
        rw [this]; exact hlt a ha⟩
      have ih := dedup_asc l (acc ++ [y]) hasc k2.2 (fun x hx z hz => by
        rcases List.mem_append.1 hx with h | h
        · exact h3 x h z (List.mem_cons_of_mem _ hz)
        · have : x = y := by simpa using h
          rw [this]; exact k2.1 z hz)
      refine ⟨ih.1, fun r hr => ih.2 r ?_⟩
      rcases hr with h | h
      · exact .inl (List.mem_append_left _ h)
      · rcases List.mem_cons.1 h with rfl | h
        · exact .inl (by simp)
        · exact .inr h
    · rw [if_neg hk]
      have ih := dedup_asc l acc h1 k2.2 (fun x hx z hz => h3 x hx z (List.mem_cons_of_mem _ hz))
      refine ⟨ih.1, fun r hr => ih.2 r ?_⟩
      rcases hr with h | h
      · exact .inl h
      · rcases List.mem_cons.1 h with rfl | h
        · left
          by_cases hne : acc = []
          · subst hne; simp [keepR] at hk
          · obtain ⟨acc', z, rfl⟩ : ∃ acc' z, acc = acc' ++ [z] := ⟨_, _, (List.dropLast_concat_getLast hne).symm⟩
            rw [keepR_snoc] at hk
            have : cmpR z r = 0 := by simpa using hk
            rw [← (cmpR_zero z r).1 this]
            simp
        · exact .inr h
theorem setL_asc (l : List (List Vl)) : ascR (setL l) := (dedup_asc (srtR l) [] List.Pairwise.nil (srtR_up l) (fun x h => by cases h)).1
theorem setL_mem (l : List (List Vl)) (r : List Vl) : r ∈ setL l ↔ r ∈ l := by
  constructor
  · exact setL_sub l r
  · intro h
    exact (dedup_asc (srtR l) [] List.Pairwise.nil (srtR_up l) (fun x h => by cases h)).2 r (.inr ((srtR_mem l r).2 h))
end Go.Proofs.YtmnmckblmoalkaaGreat

/-
  Plain mathematics: a canonical list of intervals is a strictly ascending list of points; merge and the reference's Combine are the same operation. No program here.
-/
namespace Go.Proofs.YtmnmckblmoalkaaGreat
open Go.RowKit
set_option maxRecDepth 100000

theorem one_lt (a b : Vl) : cmpR [a] [b] = cmpV a b := by
  simp only [cmpR]
  split <;> omega
theorem ptsSet_spec (a b : List Iv) : ascV (ptsSet a b) ∧ ∀ v, v ∈ ptsSet a b ↔ v ∈ ptsL a ∨ v ∈ ptsL b := by
  obtain ⟨L, hL⟩ := setL_ones (ptsR [a, b])
  rw [ptsSet_eq hL]
  refine ⟨?_, fun v => ?_⟩
  · have := setL_asc ((ptsR [a, b]).map fun v => [v])
    rw [← hL] at this
    have h2 := List.pairwise_map.1 this
    exact h2.imp_of_mem (fun {x y} _ _ h => by rw [one_lt] at h; exact h)
  · have := setL_mem ((ptsR [a, b]).map fun v => [v]) [v]
    rw [← hL] at this
    simpa [ptsR] using this
theorem comb_spec (op : Bool → Bool → Bool) (hop : op false false = false) {a b : List Iv} (ha : ordFrom none a = true) (hb : ordFrom none b = true) :
    ordFrom none (combR op a b) = true ∧ ∀ v, inL (combR op a b) v = op (inL a v) (inL b v) := by
  obtain ⟨a1, a2, a3, _⟩ := ord_pts a none ha
  obtain ⟨b1, b2, b3, _⟩ := ord_pts b none hb
  obtain ⟨hP, hm⟩ := ptsSet_spec a b
  have ia : ∀ v, inL a v = par (ptsL a) v := fun v => by rw [← in_ivs v _ a2, a1]
  have ib : ∀ v, inL b v = par (ptsL b) v := fun v => by rw [← in_ivs v _ b2, b1]
  have e : combR op a b = ivsOf (chg (fun p => op (inL a p) (inL b p)) false (ptsSet a b)) := by
    rw [combR_eq, (cmb_eq _ _ hP).1 [] (fun y h => by cases h)]
    rfl
  rw [e]
  refine ⟨ord_ivs _ _ (chg_asc _ _ _ hP) (fun v hv => ?_) (fun y h => by cases h), fun v => ?_⟩
  · rcases (hm v).1 ((chg_sub _ _ _).1 v hv) with h | h
    · exact a3 v h
    · exact b3 v h
  · rw [in_ivs v _ (chg_asc _ _ _ hP)]
    have h := chg_par (fun p => op (inL a p) (inL b p)) v (ptsSet a b) false hP
    rw [ia v, ib v, par_last hP (fun q hq => (hm q).2 (.inl hq)) v, par_last hP (fun q hq => (hm q).2 (.inr hq)) v]
    have h' : par (chg (fun p => op (inL a p) (inL b p)) false (ptsSet a b)) v = (match lastLe (ptsSet a b) v with | none => false | some u => op (inL a u) (inL b u)) := by rw [Bool.false_xor] at h; exact h
    rw [h']
    cases lastLe (ptsSet a b) v with
    | none => exact hop.symm
    | some u => show op (inL a u) (inL b u) = _; rw [ia u, ib u]
/-- the program's merge and the reference's Combine agree on canonical lists -/
theorem comb_merge (op : Bool → Bool → Bool) (hop : op false false = false) {a b : List Iv} (ha : ordFrom none a = true) (hb : ordFrom none b = true) : combR op a b = mergeL op a b := by
  obtain ⟨c1, c2⟩ := comb_spec op hop ha hb
  obtain ⟨m1, _, m2⟩ := merge_spec op hop ha hb
  exact ord_ext c1 m1 fun v _ => by rw [c2, m2]
end Go.Proofs.YtmnmckblmoalkaaGreat

/-
  The reference's Combine of regions: the words for its state, and the case of width 0.
-/
namespace Go.Proofs.YtmnmckblmoalkaaGreat
open Go.RowKit
set_option maxRecDepth 100000
open Rg

theorem info_lst : (Tryz.prog.info? 72).map (fun i => (i.zero, i.size, i.bytes)) = some (some (.slice none 0 0), 1, 24) := by kernel_rfl
theorem lstc_len (p : LstP) : (lstc p).length = 1 := rfl
theorem one_lst (p : LstP) : ∀ u ∈ lstc p, u.oneCell' = true := by simp [lstc, Value.oneCell']
theorem pts_setL {a b : Rg} {L : List Vl} (h : L.map (fun v => [v]) = setL ((ptsR (valsOf a ++ valsOf b)).map fun v => [v])) : L = ptsOf a b := by
  obtain ⟨h1, h2⟩ := ptsAll_spec (valsOf a ++ valsOf b)
  refine ascV_ext L _ ?_ h1 fun v => ?_
  · have := setL_asc ((ptsR (valsOf a ++ valsOf b)).map fun v => [v])
    rw [← h] at this
    have h3 := List.pairwise_map.1 this
    exact h3.imp_of_mem (fun {x y} _ _ h => by rw [one_lt] at h; exact h)
  · have := setL_mem ((ptsR (valsOf a ++ valsOf b)).map fun v => [v]) [v]
    rw [← h] at this
    have h3 : v ∈ L ↔ v ∈ ptsR (valsOf a ++ valsOf b) := by simpa using this
    rw [h3]
    unfold ptsR
    rw [List.mem_flatMap]
    exact (h2 v).symm
/-- what the reference's Combine does on regions of a width -/
def FCombC (N : Nat) (k : Int) : Prop := ∀ (a b : Rg) (xa : Int) (fa : Bool) (Aa : Option Addr) (na ca : Nat) (xb : Int) (fb : Bool) (Ab : Option Addr) (nb cb : Nat) (w : World),
  RgS w xa fa Aa na ca a → RgS w xb fb Ab nb cb b → Form N a → Form N b → within a → within b →
  Calls Tryz.prog 149 #[.int .i64 k, .agg #[.int .i64 xa, .bool fa, .slice Aa na ca], .agg #[.int .i64 xb, .bool fb, .slice Ab nb cb]] w fun e w' => RgNew w (comb (opR k) N a b) e w'
structure FC where
  N : Nat
  k : Int
  a : Rg
  b : Rg
  xa : Int
  fa : Bool
  Aa : Option Addr
  na : Nat
  ca : Nat
  xb : Int
  fb : Bool
  Ab : Option Addr
  nb : Nat
  cb : Nat
  Ap : Option Addr
  P : List Vl
  O : Nat
  w0 : World
def FC.at_ (g : FC) (p : Vl) : Rg := comb (opR g.k) g.N (g.a.at_ (g.N : Int) p) (g.b.at_ (g.N : Int) p)
structure FS0 (g : FC) (w : World) : Prop where
  hs : g.w0.heap.size + 3 ≤ g.O ∧ g.O + 1 ≤ w.heap.size
  bel : Below g.w0.heap.size g.w0 w
  ba : Blk w g.w0.heap.size 27 #[.int .i64 g.xa, .bool g.fa, .slice g.Aa g.na g.ca]
  bb : Blk w (g.w0.heap.size + 1) 27 #[.int .i64 g.xb, .bool g.fb, .slice g.Ab g.nb g.cb]
  br : Blk w (g.w0.heap.size + 2) 27 #[.int .i64 0, .bool false, .slice none 0 0]
  ra : RgF 0 g.O w g.xa g.fa g.Aa g.na g.ca g.a
  rb : RgF 0 g.O w g.xb g.fb g.Ab g.nb g.cb g.b
  pts : VlS w g.Ap g.P.length g.P
  pl : 0 < g.P.length → ∀ b o, g.Ap = some ⟨b, o, none⟩ → b < g.O
theorem FS0.but {g : FC} {w w' : World} {S : Nat → Prop} (h : FS0 g w) (hb : But S w w') (hS : ∀ q, S q → g.O ≤ q) : FS0 g w' := by
  have hs := h.hs
  have hsz := hb.size
  exact ⟨⟨hs.1, by omega⟩, hb.below h.bel (by omega) (fun q hq => by have := hS q hq; omega), h.ba.but hb (fun e => by have := hS _ e; omega), h.bb.but hb (fun e => by have := hS _ e; omega), h.br.but hb (fun e => by have := hS _ e; omega),
    h.ra.keep fun q _ hq => hb.block q (by omega) (fun e => by have := hS _ e; omega), h.rb.keep fun q _ hq => hb.block q (by omega) (fun e => by have := hS _ e; omega),
    h.pts.but hb (fun hn b o hA e => by have := h.pl hn b o hA; have := hS _ e; omega), h.pl⟩
theorem FS0.below {g : FC} {w w' : World} (h : FS0 g w) (hb : Below w.heap.size w w') : FS0 g w' := h.but (S := fun _ => False) (But.of_below hb) (fun _ h => h.elim)
theorem RgS.f0 {w : World} {x : Int} {f : Bool} {A : Option Addr} {n c O : Nat} {r : Rg} (h : RgS w x f A n c r) (hO : w.heap.size ≤ O) : RgF 0 O w x f A n c r := fun w' hw => h.keep fun a ha => by
  have hlt := cell_lt ha
  exact World.cell?_of_block (w := w) (hw a.block (Nat.zero_le _) (by omega))
/-- what is known of the state behind k points -/
structure FR (g : FC) (k : Nat) (Ak : Option Addr) (nk ck : Nat) (w : World) (A : Option Addr) (n c : Nat) (ms : List PM) (ks : List KM) : Prop where
  s0 : FS0 g w
  bo : Blk w g.O 27 #[.int .i64 g.xa, .bool false, .slice A n c]
  st : FSt (g.O + 1) w A n c ms Ak nk ck ks
  pr : ms.map PM.pr = partsTo g.at_ g.P k
  kn : ∀ m ∈ ks, m.r = comb (opR g.k) g.N (restR g.a m.i) (restR g.b m.k)
  le : n ≤ k
theorem parts_sm {ro : Vl → Rg} {P : List Vl} {k : Nat} {ms : List PM} (h : ms.map PM.pr = partsTo ro P k) (hs : ∀ p, Sm (ro p)) : ∀ m ∈ ms, Sm m.r ∧ m.vs.length ≤ k := fun m hm => by
  have h1 : m.pr ∈ partsTo ro P k := by rw [← h]; exact List.mem_map.2 ⟨m, hm, rfl⟩
  obtain ⟨r, hr, e⟩ := List.mem_map.1 h1
  obtain ⟨q, _, hq⟩ := List.mem_map.1 ((uniq_mem r _).1 hr).1
  have e1 : valsTo ro P r k = m.vs := congrArg Prod.fst e
  have e2 : r = m.r := congrArg Prod.snd e
  rw [← e2, ← e1, ← hq]
  exact ⟨hs q, valsTo_len _ _ _ _⟩
/-- the values that a part has when one more is to come -/
theorem room_vs {ro : Vl → Rg} {P : List Vl} {k : Nat} {ms : List PM} {r : Rg} (h : ms.map PM.pr = roomP (partsTo ro P k) r) : ∀ m ∈ ms, m.vs.length ≤ k := fun m hm => by
  have h1 : m.pr ∈ roomP (partsTo ro P k) r := by rw [← h]; exact List.mem_map.2 ⟨m, hm, rfl⟩
  unfold roomP at h1
  have h2 : m.pr ∈ partsTo ro P k ∨ m.pr = ([], r) := by
    split at h1
    · exact .inl h1
    · rcases List.mem_append.1 h1 with h1 | h1
      · exact .inl h1
      · exact .inr (by simpa using h1)
  rcases h2 with h2 | h2
  · obtain ⟨s, hs, e⟩ := List.mem_map.1 h2
    have e1 : valsTo ro P s k = m.vs := congrArg Prod.fst e
    rw [← e1]
    exact valsTo_len _ _ _ _
  · have e1 : m.vs = [] := congrArg Prod.fst h2
    rw [e1]
    exact Nat.zero_le _
theorem fcomb_zero (k : Int) : FCombC 0 k := by
  intro a b xa fa Aa na ca xb fb Ab nb cb w hA hB fA fB iA iB
  have hxa : xa = 0 := by rw [← hA.hw]; exact fA.1
  subst hxa
  have hr : comb (opR k) 0 a b = .nil 0 (opR k fa fb) := by rw [comb, hA.hf, hB.hf]
  rw [hr]
  obtain ⟨q, Hq⟩ : ∃ q, Hid (opR k fa fb = q) := ⟨_, rfl⟩
  rw [Hq.out]
  obtain ⟨W3, HW3⟩ : ∃ W : World, Hid (((w.alloc (.cells #[.int .i64 0, .bool fa, .slice Aa na ca] 27)).alloc (.cells #[.int .i64 xb, .bool fb, .slice Ab nb cb] 27)).alloc (.cells #[.int .i64 0, .bool false, .slice none 0 0] 27) = W) := ⟨_, rfl⟩
  have HC : Hid (Blk W3 (w.heap.size + 2) 27 #[.int .i64 0, .bool false, .slice none 0 0] ∧ W3.heap.size = w.heap.size + 3) := by
    rw [← HW3.out]
    exact Lib.hid ⟨Blk.step (by simp), by simp⟩
  have HB0 : Hid (Below w.heap.size w W3) := by
    rw [← HW3.out]
    exact Lib.hid ((((Below.refl _ _).alloc (Nat.le_refl _) _).alloc (by simp) _).alloc (by simp; omega) _)
  clear hA hB fA fB iA iB hr
  go_enter Tryz.func149, Tryz.ntmps149
  go_wp2_with fail
  rw [HW3.out]
  refine (apply_any k fa fb _).mono ?_
  rintro e w1 ⟨rfl, rfl⟩
  rw [Hq.out]
  have zr := HC.out.1.cell
  obtain ⟨ff1, ff2, ff3⟩ := put3R_free HC.out.1 (.int .i64 0) (.bool q)
  have y3 := (put3R_blk (a' := .int .i64 0) (b' := .bool q) (c' := .slice none 0 0) HC.out.1).cell
  have y1 := (HC.out.1.set_ 0 (.int .i64 0)).cell
  have y2 := ((HC.out.1.set_ 0 (.int .i64 0)).set_ 1 (.bool q)).cell
  have HBf := Lib.hid (put3R_below HB0.out (show w.heap.size ≤ w.heap.size + 2 by omega) (.int .i64 0) (.bool q) (.slice none 0 0))
  unfold put3R at y3
  go_wp2
  exact bodyPost_ret (v := .agg #[.int .i64 0, .bool q, .slice none 0 0]) (by simp [results, Tryz.results149, go_sem, y3]) rfl ⟨0, q, none, 0, 0, rfl, RgF.nil _ _, HBf.out⟩
end Go.Proofs.YtmnmckblmoalkaaGreat
