/-
  The program's region functions grouping (its memory), and combine at width 0.
-/
import Derived.Test.YtnocbigcdjlliaaCombS
namespace Go.Proofs.Ytnocbigcdjlliaa
open Go.RowKit
open Rg

theorem entO : ∀ args w, (callFunc 19 args).run Try.prog w = .ok (.enter 19 args) w := Go.Proofs.enters_of Try.func19 (by kernel_rfl) rfl
theorem entG1 : ∀ args w, (callFunc 32 args).run Try.prog w = .ok (.enter 32 args) w := Go.Proofs.enters_of Try.func32 (by kernel_rfl) rfl
/-- what grouping leaves in memory -/
structure Boxes (H O : Nat) (xa : Int) (fa : Bool) (Aa : Option Addr) (na ca : Nat) (xb : Int) (fb : Bool) (Ab : Option Addr) (nb cb : Nat) (ov : Value) (w : World) : Prop where
  ba : Blk w H 24 #[.int .i64 xa, .bool fa, .slice Aa na ca]
  bb : Blk w (H + 1) 24 #[.int .i64 xb, .bool fb, .slice Ab nb cb]
  bp : Blk w (H + 2) 61 #[.pointer (some ⟨O, 0, none⟩)]
  bo : Blk w (H + 3) 52 #[ov]
  km : MapIs w 64 kv2 (H + 4) 0 (fun _ => none)
  bk : Blk w (H + 5) 75 #[.map (some (H + 4))]
  cm : MapIs w 9 Value.string (H + 6) 0 (fun _ => none)
  bc : Blk w (H + 7) 76 #[.map (some (H + 6))]
  bt : Blk w (H + 8) 3 #[.int .i64 0]
def gFn (H : Nat) : Value := .func (.func 32) #[] #[.pointer (some ⟨H + 5, 0, none⟩), .pointer (some ⟨H, 0, none⟩), .pointer (some ⟨H + 1, 0, none⟩), .pointer (some ⟨H + 3, 0, none⟩), .pointer (some ⟨H + 7, 0, none⟩), .pointer (some ⟨H + 8, 0, none⟩), .pointer (some ⟨H + 2, 0, none⟩)]
theorem Blk.step {w : World} {b : Nat} {T : TypeId} {cs : Array Value} (h : b = w.heap.size) : Blk (w.alloc (.cells cs T)) b T cs := by subst h; exact Blk.new w T cs
set_option maxHeartbeats 2000000 in
theorem grouping_any (O : Nat) (xa : Int) (fa : Bool) (Aa : Option Addr) (na ca : Nat) (xb : Int) (fb : Bool) (Ab : Option Addr) (nb cb : Nat) (tb tl tr : Bool) (w : World) :
    Calls Try.prog 25 #[.agg #[.int .i64 xa, .bool fa, .slice Aa na ca], .agg #[.int .i64 xb, .bool fb, .slice Ab nb cb], .pointer (some ⟨O, 0, none⟩), opV tb tl tr] w
      fun e w' => e = .returned (gFn w.heap.size) ∧ Boxes w.heap.size O xa fa Aa na ca xb fb Ab nb cb (opV tb tl tr) w' ∧ Below w.heap.size w w' ∧ w'.heap.size = w.heap.size + 9 := by
  have hmm := @run_makeMap Try.prog
  go_enter Try.func25, Try.ntmps25
  go_wp2
  go_ret
  refine ⟨by simp [gFn, World.size_alloc], ?_, ?_, by simp [World.size_alloc]⟩
  · generalize hH : w.heap.size = H
    have key : ∀ (w : World) (o : Obj) (b : Nat) (T : TypeId) (cs : Array Value), Blk w b T cs → Blk (w.alloc o) b T cs := fun w o b T cs h => h.alloc o
    have mkey : ∀ {κ : Type} (w : World) (o : Obj) (kT : TypeId) (kv : κ → Value) (b n : Nat) (M : κ → Option Int), MapIs w kT kv b n M → MapIs (w.alloc o) kT kv b n M := fun w o kT kv b n M h => h.below ((Below.refl _ _).alloc (Nat.le_refl _) _)
    have mnew : ∀ {κ : Type} (w : World) (kT : TypeId) (kv : κ → Value) (b : Nat), b = w.heap.size → MapIs (w.alloc (.map #[] 0)) kT kv b 0 (fun _ => none) := fun w kT kv b h => by subst h; exact MapIs.made w kT kv
    constructor
    all_goals (repeat (first | (focus (refine Blk.step ?_; simp [World.size_alloc, hH]; done)) | (focus (refine mnew _ _ _ _ ?_; simp [World.size_alloc, hH]; done)) | (refine key _ _ _ _ _ ?_) | (refine mkey _ _ _ _ _ _ _ ?_)))
  · repeat (first | exact Below.refl _ _ | (refine Below.alloc ?_ (by simp [World.size_alloc]; try omega) _))
set_option maxHeartbeats 2000000 in
theorem comb_zero (tb tl tr : Bool) : CombC 0 tb tl tr := by
  intro a b xa fa Aa na ca xb fb Ab nb cb w hA hB h1 h2 _ _ _ _
  have e1 : xa = 0 := by rw [← hA.hw]; exact h1.1
  have e2 := hA.hf
  have e3 := hB.hf
  subst e1
  have hr : comb (ofT tb tl tr) 0 a b = .nil 0 (ofT tb tl tr fa fb) := by rw [← e2, ← e3]; rfl
  rw [hr]
  have hent := entO
  clear hA hB h1 h2 e2 e3 hr
  have HB0 : Hid (Below w.heap.size w (((w.alloc (.cells #[.int .i64 0, .bool fa, .slice Aa na ca] 24)).alloc (.cells #[.int .i64 xb, .bool fb, .slice Ab nb cb] 24)).alloc (.cells #[.int .i64 0, .bool false, .slice none 0 0] 24))) := Lib.hid ((((Below.refl _ _).alloc (Nat.le_refl _) _).alloc (by simp) _).alloc (by simp; omega) _)
  have HX : Hid (Blk (((w.alloc (.cells #[.int .i64 0, .bool fa, .slice Aa na ca] 24)).alloc (.cells #[.int .i64 xb, .bool fb, .slice Ab nb cb] 24)).alloc (.cells #[.int .i64 0, .bool false, .slice none 0 0] 24)) (w.heap.size + 1 + 1) 24 #[.int .i64 0, .bool false, .slice none 0 0]) := Lib.hid (Blk.step (by simp [World.size_alloc]))
  go_enter Try.func18, Try.ntmps18
  go_wp2_with fail
  refine (of_any tb tl tr fa fb _).mono ?_
  rintro e w1 ⟨rfl, hb1⟩
  have HX1 := Lib.hid (HX.out.below hb1)
  have hx1 := HX1.out.cell
  obtain ⟨ff1, ff2, ff3⟩ := put3R_free HX1.out (.int .i64 0) (.bool (ofT tb tl tr fa fb))
  have F1 : Hid (Blk _ _ _ #[.int .i64 0, .bool false, .slice none 0 0]) := Lib.hid (HX1.out.set_ 0 (.int .i64 0))
  have F2 : Hid (Blk _ _ _ #[.int .i64 0, .bool (ofT tb tl tr fa fb), .slice none 0 0]) := Lib.hid (F1.out.set_ 1 (.bool (ofT tb tl tr fa fb)))
  have F3 : Hid (Blk _ _ _ #[.int .i64 0, .bool (ofT tb tl tr fa fb), .slice none 0 0]) := Lib.hid (F2.out.set_ 2 (.slice none 0 0))
  have y1 := F1.out.cell
  have y2 := F2.out.cell
  have y3 := F3.out.cell
  have HBr := Lib.hid (put3R_below (Below.next HB0.out hb1) (show w.heap.size ≤ w.heap.size + 1 + 1 by omega) (.int .i64 0) (.bool (ofT tb tl tr fa fb)) (.slice none 0 0))
  clear hb1
  go_wp2
  exact bodyPost_ret (v := .tuple #[.agg #[.int .i64 0, .bool (ofT tb tl tr fa fb), .slice none 0 0], .bool true]) (by simp [results, Try.results18, go_sem, y3]) rfl ⟨0, _, none, 0, 0, true, rfl, ⟨fun _ => ⟨by simp [Rg.size], rfl⟩, fun _ => rfl⟩, fun _ => RgF.nil _ _, HBr.out⟩
end Go.Proofs.Ytnocbigcdjlliaa
