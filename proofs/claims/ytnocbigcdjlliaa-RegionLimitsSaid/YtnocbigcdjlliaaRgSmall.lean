/-
  The program's small region functions: truth.of, restOf.
-/
import Derived.Test.YtnocbigcdjlliaaRgBox
import Derived.Test.YtnocbigcdjlliaaLay
namespace Go.Proofs.Ytnocbigcdjlliaa
open Go.RowKit
open Rg

/-- a Boolean operation by its values for both, a alone and b alone -/
def ofT (tb tl tr : Bool) (a b : Bool) : Bool := if a && b then tb else if a then tl else if b then tr else false
theorem of_any (tb tl tr a b : Bool) (w : World) : Calls Try.prog 19 #[.agg #[.bool tb, .bool tl, .bool tr], .bool a, .bool b] w fun e w' => e = .returned (.bool (ofT tb tl tr a b)) ∧ Below w.heap.size w w' := by
  cases a <;> cases b <;>
  · go_enter Try.func19, Try.ntmps19
    go_wp2
    go_ret
    exact ⟨rfl, (Below.refl _ _).alloc (Nat.le_refl _) _⟩
/-- the rest behind a part, or none -/
def restR (r : Rg) (i : Int) : Rg := if i < 0 then .nil (r.w - 1) false else match r.parts[i.toNat]? with | some p => p.2 | none => zeroR
/-- what a function that makes a region returns -/
def RgOne (w : World) (r : Rg) (e : Ending) (w' : World) : Prop :=
  ∃ (x : Int) (f : Bool) (A : Option Addr) (n c : Nat), e = .returned (.agg #[.int .i64 x, .bool f, .slice A n c]) ∧ RgS w' x f A n c r ∧ Below w.heap.size w w'
theorem restOf_any (r : Rg) (x : Int) (f : Bool) (A : Option Addr) (n c : Nat) (i : Int) (w : World) (hR : RgS w x f A n c r) (hi : i < (n : Int)) (hi2 : -1 ≤ i) (hx : 0 ≤ x ∧ x ≤ 12) :
    Calls Try.prog 33 #[.agg #[.int .i64 x, .bool f, .slice A n c], .int .i64 i] w fun e w' => RgOne w (restR r i) e w' := by
  have hxr := hR.hw
  have HB : Hid (Below w.heap.size w ((w.alloc (.cells #[.int .i64 x, .bool f, .slice A n c] 24)).alloc (.cells #[.int .i64 0, .bool false, .slice none 0 0] 24))) := Lib.hid (((Below.refl _ _).alloc (Nat.le_refl _) _).alloc (by simp) _)
  rcases Int.lt_or_le i 0 with h0 | h0
  · have g1 : decide (i < 0) = true := by simp; omega
    have hr : restR r i = .nil (x - 1) false := by simp [restR, h0, hxr]
    rw [hr]
    clear hr hR hxr
    go_enter Try.func33, Try.ntmps33
    go_wp2
    refine bodyPost_ret (v := .agg #[.int .i64 (x - 1), .bool false, .slice none 0 0]) (by simp [results, Try.results33, go_sem]) rfl ⟨x - 1, false, none, 0, 0, rfl, RgS.nil _ _, ?_⟩
    repeat (first | exact HB.out | exact Below.refl _ _ | refine Below.setCell ?_ (by simp) _ | refine Below.alloc ?_ (by simp) _)
  · obtain ⟨k, rfl⟩ := Int.eq_ofNat_of_zero_le h0
    have g1 : decide ((k : Int) < 0) = false := by simp
    have hr : ∀ p, r.parts[k]? = some p → restR r (k : Int) = p.2 := fun p hp => by
      unfold restR
      rw [if_neg (by omega), Int.toNat_natCast, hp]
    obtain ⟨b, o, p, A1, n1, c1, px, pf, A2, n2, c2, rfl, hp, hpt0, hpt⟩ := hR.at2 (keeps_of HB.out) (show k < n by omega)
    rw [hr p hp]
    have HR1 := Lib.hid hpt0.rg
    clear hpt0
    obtain ⟨_, d1, d2, d3, _, _, _⟩ := hpt
    clear hr hR hxr hp
    go_enter Try.func33, Try.ntmps33
    go_wp2
    refine bodyPost_ret (v := .agg #[.int .i64 px, .bool pf, .slice A2 n2 c2]) (by simp [results, Try.results33, go_sem]) rfl ⟨px, pf, A2, n2, c2, rfl, (HR1.out.keep (keeps_alloc _ _)).keep (keeps_alloc _ _), ?_⟩
    exact ((Below.refl _ _).alloc (Nat.le_refl _) _).alloc (by simp) _
/-- an event: where, which side, which part, in or out -/
structure Ev where
  v : Vl
  s : Int
  p : Int
  e : Bool
def Ev.cs (x : Ev) : List Value := [.int .i64 x.v.k, .int .i64 x.v.i, .string x.v.t, .int .i64 x.s, .int .i64 x.p, .bool x.e]
theorem Ev.cs_len (x : Ev) : (Ev.cs x).length = 6 := rfl
theorem one_ev (x : Ev) : ∀ u ∈ Ev.cs x, u.oneCell' = true := by simp [Ev.cs, Value.oneCell']
/-- the order of events: by value, those that leave first -/
def cmpE (a b : Ev) : Int := if cmpV a.v b.v ≠ 0 then cmpV a.v b.v else if a.e = b.e then 0 else if b.e then -1 else 1
set_option maxHeartbeats 1000000 in
theorem cmpE_any (a b : Ev) (w : World) : Calls Try.prog 36 #[.agg #[.int .i64 a.v.k, .int .i64 a.v.i, .string a.v.t, .int .i64 a.s, .int .i64 a.p, .bool a.e], .agg #[.int .i64 b.v.k, .int .i64 b.v.i, .string b.v.t, .int .i64 b.s, .int .i64 b.p, .bool b.e]] w fun e w' => e = .returned (.int .i64 (cmpE a b)) ∧ Lay w w' := by
  obtain ⟨⟨ak, ai, at'⟩, a1, a2, a3⟩ := a
  obtain ⟨⟨bk, bi, bt⟩, bs, bp, be⟩ := b
  generalize hr : cmpE ⟨⟨ak, ai, at'⟩, a1, a2, a3⟩ ⟨⟨bk, bi, bt⟩, bs, bp, be⟩ = r
  obtain ⟨c, Hc⟩ : ∃ t, Hid (cmpV ⟨ak, ai, at'⟩ ⟨bk, bi, bt⟩ = t) := ⟨_, rfl⟩
  have Hr : Hid ((if c ≠ 0 then c else if a3 = be then 0 else if be then -1 else 1) = r) := by
    show _ = _
    rw [← hr, ← Hc.out]
    rfl
  clear hr
  have hL0 : Lay w ((w.alloc (.cells #[.int .i64 ak, .int .i64 ai, .string at', .int .i64 a1, .int .i64 a2, .bool a3] 66)).alloc (.cells #[.int .i64 bk, .int .i64 bi, .string bt, .int .i64 bs, .int .i64 bp, .bool be] 66)) := ((Lay.refl w).alloc _).alloc _
  have E1 := Lib.hid ((Blk.new w 66 #[.int .i64 ak, .int .i64 ai, .string at', .int .i64 a1, .int .i64 a2, .bool a3]).alloc (.cells #[.int .i64 bk, .int .i64 bi, .string bt, .int .i64 bs, .int .i64 bp, .bool be] 66))
  have E2 : Hid (Blk ((w.alloc (.cells #[.int .i64 ak, .int .i64 ai, .string at', .int .i64 a1, .int .i64 a2, .bool a3] 66)).alloc (.cells #[.int .i64 bk, .int .i64 bi, .string bt, .int .i64 bs, .int .i64 bp, .bool be] 66)) (w.heap.size + 1) 66 #[.int .i64 bk, .int .i64 bi, .string bt, .int .i64 bs, .int .i64 bp, .bool be]) := by
    have := Blk.new (w.alloc (.cells #[.int .i64 ak, .int .i64 ai, .string at', .int .i64 a1, .int .i64 a2, .bool a3] 66)) 66 #[.int .i64 bk, .int .i64 bi, .string bt, .int .i64 bs, .int .i64 bp, .bool be]
    rw [World.size_alloc] at this
    exact this
  go_enter Try.func36, Try.ntmps36
  go_wp2_with fail
  refine (compareL_any ⟨ak, ai, at'⟩ ⟨bk, bi, bt⟩ _).mono ?_
  rintro e w1 ⟨rfl, hL⟩
  rw [Hc.out]
  have z1 := (E1.out.below hL.bel).cell
  have z2 := (E2.out.below hL.bel).cell
  have HL := Lib.hid (hL0.trans hL)
  clear hL hL0
  by_cases hc : c = 0
  · have g1 : (c == 0) = true := by simp [hc]
    have HC := Lib.hid hc
    clear hc
    cases a3 <;> cases be <;>
    · go_wp2
      go_ret
      exact ⟨ret_i64 (by rw [← Hr.out, HC.out]; rfl), HL.out⟩
  · have g1 : (c == 0) = false := by simp [hc]
    have HC := Lib.hid hc
    clear hc
    go_wp2
    go_ret
    exact ⟨ret_i64 (by rw [← Hr.out, if_pos HC.out]), HL.out⟩
theorem entE : ∀ args w, (callFunc 36 args).run Try.prog w = .ok (.enter 36 args) w := Go.Proofs.enters_of Try.func36 (by kernel_rfl) rfl
end Go.Proofs.Ytnocbigcdjlliaa
