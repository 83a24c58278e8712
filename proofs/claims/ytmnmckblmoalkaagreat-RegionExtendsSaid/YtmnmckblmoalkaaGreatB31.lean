/-
  Texts: FComb0.
-/
import Derived.Test.YtmnmckblmoalkaaGreatB27
import Derived.Test.YtmnmckblmoalkaaGreatB28
import Derived.Test.YtmnmckblmoalkaaGreatB29
import Derived.Test.YtmnmckblmoalkaaGreatB30
import Derived.Deep.CutBlock
set_option linter.unusedVariables false
/-
  The reference's Combine of regions: the words for its state, and the case of width 0.
-/
namespace Go.Proofs.YtmnmckblmoalkaaGreat
open Go.RowKit
set_option maxRecDepth 100000
open Rg

theorem info_lst : (Tryz.prog.info? 72).map (fun i => (i.zero, i.size, i.bytes)) = some (some (.slice none 0 0), 1, 24) := by kernel_rfl
theorem lstc_len (p : LstP) : (lstc p).length = 1 := rfl
theorem one_lst (p : LstP) : ∀ u ∈ lstc p, u.oneCell' = true := by simp [lstc, Value.oneCell']
theorem pts_setL {a b : Rg} {L : List Vl} (h : L.map (fun v => [v]) = setL ((ptsR (valsOf a ++ valsOf b)).map fun v => [v])) : L = ptsOf a b := by
  obtain ⟨h1, h2⟩ := ptsAll_spec (valsOf a ++ valsOf b)
  refine ascV_ext L _ ?_ h1 fun v => ?_
  · have := setL_asc ((ptsR (valsOf a ++ valsOf b)).map fun v => [v])
    rw [← h] at this
    have h3 := List.pairwise_map.1 this
    exact h3.imp_of_mem (fun {x y} _ _ h => by rw [one_lt] at h; exact h)
  · have := setL_mem ((ptsR (valsOf a ++ valsOf b)).map fun v => [v]) [v]
    rw [← h] at this
    have h3 : v ∈ L ↔ v ∈ ptsR (valsOf a ++ valsOf b) := by simpa using this
    rw [h3]
    unfold ptsR
    rw [List.mem_flatMap]
    exact (h2 v).symm
/-- what the reference's Combine does on regions of a width -/
def FCombC (N : Nat) (k : Int) : Prop := ∀ (a b : Rg) (xa : Int) (fa : Bool) (Aa : Option Addr) (na ca : Nat) (xb : Int) (fb : Bool) (Ab : Option Addr) (nb cb : Nat) (w : World),
  RgS w xa fa Aa na ca a → RgS w xb fb Ab nb cb b → Form N a → Form N b → within a → within b →
  Calls Tryz.prog 149 #[.int .i64 k, .agg #[.int .i64 xa, .bool fa, .slice Aa na ca], .agg #[.int .i64 xb, .bool fb, .slice Ab nb cb]] w fun e w' => RgNew w (comb (opR k) N a b) e w'
structure FC where
  N : Nat
  k : Int
  a : Rg
  b : Rg
  xa : Int
  fa : Bool
  Aa : Option Addr
  na : Nat
  ca : Nat
  xb : Int
  fb : Bool
  Ab : Option Addr
  nb : Nat
  cb : Nat
  Ap : Option Addr
  P : List Vl
  O : Nat
  w0 : World
def FC.at_ (g : FC) (p : Vl) : Rg := comb (opR g.k) g.N (g.a.at_ (g.N : Int) p) (g.b.at_ (g.N : Int) p)
structure FS0 (g : FC) (w : World) : Prop where
  hs : g.w0.heap.size + 3 ≤ g.O ∧ g.O + 1 ≤ w.heap.size
  bel : Below g.w0.heap.size g.w0 w
  ba : Blk w g.w0.heap.size 27 #[.int .i64 g.xa, .bool g.fa, .slice g.Aa g.na g.ca]
  bb : Blk w (g.w0.heap.size + 1) 27 #[.int .i64 g.xb, .bool g.fb, .slice g.Ab g.nb g.cb]
  br : Blk w (g.w0.heap.size + 2) 27 #[.int .i64 0, .bool false, .slice none 0 0]
  ra : RgF 0 g.O w g.xa g.fa g.Aa g.na g.ca g.a
  rb : RgF 0 g.O w g.xb g.fb g.Ab g.nb g.cb g.b
  pts : VlS w g.Ap g.P.length g.P
  pl : 0 < g.P.length → ∀ b o, g.Ap = some ⟨b, o, none⟩ → b < g.O
theorem FS0.but {g : FC} {w w' : World} {S : Nat → Prop} (h : FS0 g w) (hb : But S w w') (hS : ∀ q, S q → g.O ≤ q) : FS0 g w' := by
  have hs := h.hs
  have hsz := hb.size
  exact ⟨⟨hs.1, by omega⟩, hb.below h.bel (by omega) (fun q hq => by have := hS q hq; omega), h.ba.but hb (fun e => by have := hS _ e; omega), h.bb.but hb (fun e => by have := hS _ e; omega), h.br.but hb (fun e => by have := hS _ e; omega),
    h.ra.keep fun q _ hq => hb.block q (by omega) (fun e => by have := hS _ e; omega), h.rb.keep fun q _ hq => hb.block q (by omega) (fun e => by have := hS _ e; omega),
    h.pts.but hb (fun hn b o hA e => by have := h.pl hn b o hA; have := hS _ e; omega), h.pl⟩
theorem FS0.below {g : FC} {w w' : World} (h : FS0 g w) (hb : Below w.heap.size w w') : FS0 g w' := h.but (S := fun _ => False) (But.of_below hb) (fun _ h => h.elim)
theorem RgS.f0 {w : World} {x : Int} {f : Bool} {A : Option Addr} {n c O : Nat} {r : Rg} (h : RgS w x f A n c r) (hO : w.heap.size ≤ O) : RgF 0 O w x f A n c r := fun w' hw => h.keep fun a ha => by
  have hlt := cell_lt ha
  exact World.cell?_of_block (w := w) (hw a.block (Nat.zero_le _) (by omega))
/-- what is known of the state behind k points -/
structure FR (g : FC) (k : Nat) (Ak : Option Addr) (nk ck : Nat) (w : World) (A : Option Addr) (n c : Nat) (ms : List PM) (ks : List KM) : Prop where
  s0 : FS0 g w
  bo : Blk w g.O 27 #[.int .i64 g.xa, .bool false, .slice A n c]
  st : FSt (g.O + 1) w A n c ms Ak nk ck ks
  pr : ms.map PM.pr = partsTo g.at_ g.P k
  kn : ∀ m ∈ ks, m.r = comb (opR g.k) g.N (restR g.a m.i) (restR g.b m.k)
  le : n ≤ k
theorem parts_sm {ro : Vl → Rg} {P : List Vl} {k : Nat} {ms : List PM} (h : ms.map PM.pr = partsTo ro P k) (hs : ∀ p, Sm (ro p)) : ∀ m ∈ ms, Sm m.r ∧ m.vs.length ≤ k := fun m hm => by
  have h1 : m.pr ∈ partsTo ro P k := by rw [← h]; exact List.mem_map.2 ⟨m, hm, rfl⟩
  obtain ⟨r, hr, e⟩ := List.mem_map.1 h1
  obtain ⟨q, _, hq⟩ := List.mem_map.1 ((uniq_mem r _).1 hr).1
  have e1 : valsTo ro P r k = m.vs := congrArg Prod.fst e
  have e2 : r = m.r := congrArg Prod.snd e
  rw [← e2, ← e1, ← hq]
  exact ⟨hs q, valsTo_len _ _ _ _⟩
/-- the values that a part has when one more is to come -/
theorem room_vs {ro : Vl → Rg} {P : List Vl} {k : Nat} {ms : List PM} {r : Rg} (h : ms.map PM.pr = roomP (partsTo ro P k) r) : ∀ m ∈ ms, m.vs.length ≤ k := fun m hm => by
  have h1 : m.pr ∈ roomP (partsTo ro P k) r := by rw [← h]; exact List.mem_map.2 ⟨m, hm, rfl⟩
  unfold roomP at h1
  have h2 : m.pr ∈ partsTo ro P k ∨ m.pr = ([], r) := by
    split at h1
    · exact .inl h1
    · rcases List.mem_append.1 h1 with h1 | h1
      · exact .inl h1
      · exact .inr (by simpa using h1)
  rcases h2 with h2 | h2
  · obtain ⟨s, hs, e⟩ := List.mem_map.1 h2
    have e1 : valsTo ro P s k = m.vs := congrArg Prod.fst e
    rw [← e1]
    exact valsTo_len _ _ _ _
  · have e1 : m.vs = [] := congrArg Prod.fst h2
    rw [e1]
    exact Nat.zero_le _
theorem fcomb_zero (k : Int) : FCombC 0 k := by
  intro a b xa fa Aa na ca xb fb Ab nb cb w hA hB fA fB iA iB
  have hxa : xa = 0 := by rw [← hA.hw]; exact fA.1
  subst hxa
  have hr : comb (opR k) 0 a b = .nil 0 (opR k fa fb) := by rw [comb, hA.hf, hB.hf]
  rw [hr]
  obtain ⟨q, Hq⟩ : ∃ q, Hid (opR k fa fb = q) := ⟨_, rfl⟩
  rw [Hq.out]
  obtain ⟨W3, HW3⟩ : ∃ W : World, Hid (((w.alloc (.cells #[.int .i64 0, .bool fa, .slice Aa na ca] 27)).alloc (.cells #[.int .i64 xb, .bool fb, .slice Ab nb cb] 27)).alloc (.cells #[.int .i64 0, .bool false, .slice none 0 0] 27) = W) := ⟨_, rfl⟩
  have HC : Hid (Blk W3 (w.heap.size + 2) 27 #[.int .i64 0, .bool false, .slice none 0 0] ∧ W3.heap.size = w.heap.size + 3) := by
    rw [← HW3.out]
    exact Lib.hid ⟨Blk.step (by simp), by simp⟩
  have HB0 : Hid (Below w.heap.size w W3) := by
    rw [← HW3.out]
    exact Lib.hid ((((Below.refl _ _).alloc (Nat.le_refl _) _).alloc (by simp) _).alloc (by simp; omega) _)
  clear hA hB fA fB iA iB hr
  go_enter Tryz.func149, Tryz.ntmps149
  go_wp2_with fail
  rw [HW3.out]
  refine (apply_any k fa fb _).mono ?_
  rintro e w1 ⟨rfl, rfl⟩
  rw [Hq.out]
  have zr := HC.out.1.cell
  obtain ⟨ff1, ff2, ff3⟩ := put3R_free HC.out.1 (.int .i64 0) (.bool q)
  have y3 := (put3R_blk (a' := .int .i64 0) (b' := .bool q) (c' := .slice none 0 0) HC.out.1).cell
  have y1 := (HC.out.1.set_ 0 (.int .i64 0)).cell
  have y2 := ((HC.out.1.set_ 0 (.int .i64 0)).set_ 1 (.bool q)).cell
  have HBf := Lib.hid (put3R_below HB0.out (show w.heap.size ≤ w.heap.size + 2 by omega) (.int .i64 0) (.bool q) (.slice none 0 0))
  unfold put3R at y3
  go_wp2
  exact bodyPost_ret (v := .agg #[.int .i64 0, .bool q, .slice none 0 0]) (by simp [results, Tryz.results149, go_sem, y3]) rfl ⟨0, q, none, 0, 0, rfl, RgF.nil _ _, HBf.out⟩
end Go.Proofs.YtmnmckblmoalkaaGreat
