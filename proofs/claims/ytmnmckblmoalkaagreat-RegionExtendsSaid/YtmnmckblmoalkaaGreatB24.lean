/-
  Texts: CombS, Comb0, FCopy.
-/
import Derived.Test.YtmnmckblmoalkaaGreatB23
set_option linter.unusedVariables false
/-
  Plain: the state of the program's combine between two events. No program of ours walks here.
-/
namespace Go.Proofs.YtmnmckblmoalkaaGreat
open Go.RowKit
set_option maxRecDepth 100000
open Rg

/-- the result behind a point -/
def GC.at_ (g : GC) (p : Vl) : Rg := comb g.op g.N (g.a.at_ (g.N : Int) p) (g.b.at_ (g.N : Int) p)
def GC.full (g : GC) : Rg := comb g.op (g.N + 1) g.a g.b
theorem GC.full_eq (g : GC) : g.full = mkR ((g.N + 1 : Nat) : Int) false (partsAt g.at_ (ptsOf g.a g.b)) := rfl
theorem GC.at_form {g : GC} (hg : g.Good) (p : Vl) : Form g.N (g.at_ p) := comb_form _ _ _ _ (hg.fa.at_ p) (hg.fb.at_ p)
structure CSt (g : GC) (qs : List Ev) (k : Nat) (K : List Vl) (ms : List PM) (o : Int) : Prop where
  sw : Swp qs k K
  pr : ms.map PM.pr = partsAt g.at_ K
  op : o = idxR (resU g.at_ K) (lastR g.at_ (.nil (g.N : Int) false) K)
  fit : ∀ q ∈ partsAt g.at_ K, q.1.length ≤ 64 ∧ q.2.fits = true
theorem CSt.zero (g : GC) (qs : List Ev) : CSt g qs 0 [] [] (-1) := ⟨Swp.zero qs, rfl, rfl, fun q h => by cases h⟩
theorem CSt.skip {g : GC} {qs : List Ev} {k : Nat} {K : List Vl} {ms : List PM} {o : Int} (h : CSt g qs k K ms o) {x y : Ev} (hx : qs[k]? = some x) (hy : qs[k + 1]? = some y) (e : y.v = x.v) : CSt g qs (k + 1) K ms o := ⟨h.sw.skip hx hy e, h.pr, h.op, h.fit⟩
theorem rests_of {ms : List PM} {L : List (List Iv × Rg)} (h : ms.map PM.pr = L) : ms.map PM.r = L.map (·.2) := by rw [← h, prs_r]
theorem room_rests {ro : Vl → Rg} (K : List Vl) (p : Vl) : (roomP (partsAt ro K) (ro p)).map (·.2) = resU ro (K ++ [p]) := by
  rw [room_at, List.map_map]
  exact List.map_id' _
section
variable {g : GC} {qs : List Ev} {k : Nat} {K : List Vl} {ms ms' : List PM} {o now : Int} {x : Ev}
/-- after the function was called: where the parts stand -/
theorem CSt.room (h : CSt g qs k K ms o) (hpr : ms'.map PM.pr = roomP (ms.map PM.pr) (g.at_ x.v)) (hnow : now = idxR (ms'.map PM.r) (g.at_ x.v)) : ms'.map PM.pr = roomP (partsAt g.at_ K) (g.at_ x.v) ∧ now = idxR (resU g.at_ (K ++ [x.v])) (g.at_ x.v) := by
  rw [h.pr] at hpr
  refine ⟨hpr, ?_⟩
  rw [hnow, rests_of hpr, room_rests]
theorem CSt.same (hg : g.Good) (h : CSt g qs k K ms o) (hup : EvUp qs) (hx : qs[k]? = some x) (hb : ∀ y, qs[k + 1]? = some y → y.v ≠ x.v) (hpr : ms'.map PM.pr = roomP (partsAt g.at_ K) (g.at_ x.v)) (hnow : now = idxR (resU g.at_ (K ++ [x.v])) (g.at_ x.v)) (heq : now = o) : CSt g qs (k + 1) (K ++ [x.v]) ms' o := by
  have he := (now_open (n := g.N) (K := K) (p := x.v) (fun q _ => g.at_form hg q)).1 (by rw [← hnow, ← h.op]; exact heq)
  obtain ⟨h1, h2⟩ := step_same (n := g.N) (fun q _ => g.at_form hg q) he
  refine ⟨h.sw.take hup hx hb, by rw [hpr, h1, h2], ?_, by rw [h2]; exact h.fit⟩
  rw [lastR_snoc, ← hnow]
  exact heq.symm
theorem CSt.turn (hg : g.Good) (h : CSt g qs k K ms o) (hup : EvUp qs) (hx : qs[k]? = some x) (hb : ∀ y, qs[k + 1]? = some y → y.v ≠ x.v) (hnow : now = idxR (resU g.at_ (K ++ [x.v])) (g.at_ x.v)) (hne : now ≠ o)
    (hpr : ms'.map PM.pr = openAt now x.v (closeAt o x.v (roomP (partsAt g.at_ K) (g.at_ x.v)))) (hfit : ∀ m ∈ ms', m.vs.length ≤ 64 ∧ m.r.fits = true) : CSt g qs (k + 1) (K ++ [x.v]) ms' now := by
  have he : g.at_ x.v ≠ lastR g.at_ (.nil (g.N : Int) false) K := fun e => hne (by
    have := (now_open (n := g.N) (K := K) (p := x.v) (fun q _ => g.at_form hg q)).2 e
    rw [← hnow, ← h.op] at this
    exact this)
  have h1 := step_turn (n := g.N) (K := K) (p := x.v) (fun q _ => g.at_form hg q) he
  rw [← hnow, ← h.op, ← hpr] at h1
  refine ⟨h.sw.take hup hx hb, h1.symm, by rw [lastR_snoc]; exact hnow, ?_⟩
  rw [h1]
  intro q hq
  obtain ⟨m, hm, rfl⟩ := List.mem_map.1 hq
  exact hfit m hm
theorem CSt.ahead (h : CSt g qs k K ms o) (hp : qs.Perm (evs g.a g.b)) (hup : EvUp qs) (hx : qs[k]? = some x) (hb : ∀ y, qs[k + 1]? = some y → y.v ≠ x.v) : ∃ R, ptsOf g.a g.b = K ++ x.v :: R := by
  have hk := (List.getElem?_eq_some_iff.1 hx).1
  obtain ⟨R, hR⟩ := (h.sw.take hup hx hb).prefix_ hp hup (by omega)
  exact ⟨R, by simpa using hR⟩
/-- why it fails -/
theorem CSt.fail1 (hg : g.Good) (h : CSt g qs k K ms o) (hp : qs.Perm (evs g.a g.b)) (hup : EvUp qs) (hx : qs[k]? = some x) (hb : ∀ y, qs[k + 1]? = some y → y.v ≠ x.v) (hf : GFail g ms (g.at_ x.v)) : ¬ within g.full := by
  obtain ⟨R, hR⟩ := h.ahead hp hup hx hb
  rw [g.full_eq, hR]
  rcases hf with hf | ⟨h1, h2, h3⟩
  · exact fail_rest (g.at_form hg x.v) hf
  · refine fail_size h1 ?_ (by rw [← h.pr]; exact h3)
    rw [rests_of h.pr, partsAt_rests] at h2
    exact h2
theorem CSt.fail2 (hg : g.Good) (h : CSt g qs k K ms o) (hp : qs.Perm (evs g.a g.b)) (hup : EvUp qs) (hx : qs[k]? = some x) (hb : ∀ y, qs[k + 1]? = some y → y.v ≠ x.v) (hnow : now = idxR (resU g.at_ (K ++ [x.v])) (g.at_ x.v)) (hne : now ≠ o) (hge : 0 ≤ now) (hl : 64 ≤ (valsAt g.at_ K (g.at_ x.v)).length) : ¬ within g.full := by
  obtain ⟨R, hR⟩ := h.ahead hp hup hx hb
  rw [g.full_eq, hR]
  refine fail_vals (n := g.N) ?_ (fun e => hne (by
    have := (now_open (n := g.N) (K := K) (p := x.v) (fun q _ => g.at_form hg q)).2 e
    rw [← hnow, ← h.op] at this
    exact this)) hl
  rcases idxR_spec (g.at_ x.v) (resU g.at_ (K ++ [x.v])) with ⟨h1, _⟩ | ⟨j, h1, _⟩
  · omega
  · exact ((uniq_mem _ _).1 (List.mem_of_getElem? h1)).2
theorem CSt.done (h : CSt g qs qs.length K ms o) (hp : qs.Perm (evs g.a g.b)) (hs : sizeL (ms.map PM.pr) ≤ 64) : mkR ((g.N + 1 : Nat) : Int) false (ms.map PM.pr) = g.full ∧ within g.full := by
  have hK := h.sw.fin hp
  have h1 := h.pr
  have h2 := h.fit
  rw [hK] at h1 h2
  refine ⟨by rw [g.full_eq, h1], ?_⟩
  rw [g.full_eq, within_mk]
  rw [h1] at hs
  exact ⟨hs, h2⟩
/-- the current parts at a point -/
theorem cur_at (hg : g.Good) (hp : qs.Perm (evs g.a g.b)) (hup : EvUp qs) (hx : qs[k]? = some x) (hb : ∀ y, qs[k + 1]? = some y → y.v ≠ x.v) :
    curOf 0 (qs.take (k + 1)) = idxP g.a.parts x.v ∧ curOf 1 (qs.take (k + 1)) = idxP g.b.parts x.v := by
  have hup' : EvUp (qs.take (k + 1) ++ qs.drop (k + 1)) := by rw [List.take_append_drop]; exact hup
  have hmem : ∀ e, e ∈ qs.take (k + 1) ++ qs.drop (k + 1) ↔ e ∈ evs g.a g.b := fun e => by rw [List.take_append_drop]; exact hp.mem_iff
  have hv : validV x.v = true := by
    have h1 : x.v ∈ ptsOf g.a g.b := (pts_evs _ _ _).2 ⟨x, hp.mem_iff.1 (List.mem_of_getElem? hx), rfl⟩
    exact (pts_of hg.fa hg.fb).2.1 _ h1
  constructor
  · exact cur_idx hup' (fun e he => (hmem e).trans (evs_side0 he)) (sweep_le hup hx) (sweep_gt hup hx hb) (fun q hq => (hg.fa.2.2.1 q hq).2.1) (hg.fa.2.2.2.imp fun h => h.2.1) hv
  · exact cur_idx hup' (fun e he => (hmem e).trans (evs_side1 he)) (sweep_le hup hx) (sweep_gt hup hx hb) (fun q hq => (hg.fb.2.2.1 q hq).2.1) (hg.fb.2.2.2.imp fun h => h.2.1) hv
theorem idx_range (L : List (List Iv × Rg)) (v : Vl) : -1 ≤ idxP L v ∧ idxP L v < (L.length : Int) := by
  rcases idx_spec v L with ⟨h1, _⟩ | ⟨j, p, h1, _, h3, _⟩
  · omega
  · have := (List.getElem?_eq_some_iff.1 h1).1; omega
theorem ro_at (hg : g.Good) (p : Vl) : g.ro (idxP g.a.parts p, idxP g.b.parts p) = g.at_ p := by
  unfold GC.ro GC.at_
  rw [rest_at hg.fa.1, rest_at hg.fb.1]
theorem ev_side (hp : qs.Perm (evs g.a g.b)) (hx : qs[k]? = some x) : (x.s = 0 ∨ x.s = 1) ∧ 0 ≤ x.p ∧ x.p < 1000 ∨ ¬ (g.a.len ≤ 64 ∧ g.b.len ≤ 64) := by
  have h1 := hp.mem_iff.1 (List.mem_of_getElem? hx)
  unfold evs at h1
  by_cases hl : g.a.len ≤ 64 ∧ g.b.len ≤ 64
  · left
    rcases List.mem_append.1 h1 with h | h
    · refine ⟨.inl (evR_side h), ?_⟩
      obtain ⟨j, p, y, h2, _, h3⟩ := mem_evR.1 h
      have h4 := (List.getElem?_eq_some_iff.1 h2).1
      rw [len_parts] at h4
      rcases mem_evI.1 h3 with rfl | ⟨_, rfl⟩ <;> simp only <;> omega
    · refine ⟨.inr (evR_side h), ?_⟩
      obtain ⟨j, p, y, h2, _, h3⟩ := mem_evR.1 h
      have h4 := (List.getElem?_eq_some_iff.1 h2).1
      rw [len_parts] at h4
      rcases mem_evI.1 h3 with rfl | ⟨_, rfl⟩ <;> simp only <;> omega
  · exact .inr hl
end
end Go.Proofs.YtmnmckblmoalkaaGreat

/-
  The program's region functions grouping (its memory), and combine at width 0.
-/
namespace Go.Proofs.YtmnmckblmoalkaaGreat
open Go.RowKit
set_option maxRecDepth 100000
open Rg

theorem entO : ∀ args w, (callFunc 137 args).run Tryz.prog w = .ok (.enter 137 args) w := Go.Proofs.enters_of Tryz.func137 (by kernel_rfl) rfl
theorem entG1 : ∀ args w, (callFunc 181 args).run Tryz.prog w = .ok (.enter 181 args) w := Go.Proofs.enters_of Tryz.func181 (by kernel_rfl) rfl
/-- what grouping leaves in memory -/
structure Boxes (H O : Nat) (xa : Int) (fa : Bool) (Aa : Option Addr) (na ca : Nat) (xb : Int) (fb : Bool) (Ab : Option Addr) (nb cb : Nat) (ov : Value) (w : World) : Prop where
  ba : Blk w H 27 #[.int .i64 xa, .bool fa, .slice Aa na ca]
  bb : Blk w (H + 1) 27 #[.int .i64 xb, .bool fb, .slice Ab nb cb]
  bp : Blk w (H + 2) 163 #[.pointer (some ⟨O, 0, none⟩)]
  bo : Blk w (H + 3) 149 #[ov]
  km : MapIs w 166 kv2 (H + 4) 0 (fun _ => none)
  bk : Blk w (H + 5) 183 #[.map (some (H + 4))]
  cm : MapIs w 9 Value.string (H + 6) 0 (fun _ => none)
  bc : Blk w (H + 7) 184 #[.map (some (H + 6))]
  bt : Blk w (H + 8) 3 #[.int .i64 0]
def gFn (H : Nat) : Value := .func (.func 181) #[] #[.pointer (some ⟨H + 5, 0, none⟩), .pointer (some ⟨H, 0, none⟩), .pointer (some ⟨H + 1, 0, none⟩), .pointer (some ⟨H + 3, 0, none⟩), .pointer (some ⟨H + 7, 0, none⟩), .pointer (some ⟨H + 8, 0, none⟩), .pointer (some ⟨H + 2, 0, none⟩)]
theorem Blk.step {w : World} {b : Nat} {T : TypeId} {cs : Array Value} (h : b = w.heap.size) : Blk (w.alloc (.cells cs T)) b T cs := by subst h; exact Blk.new w T cs
set_option maxHeartbeats 2000000 in
theorem grouping_any (O : Nat) (xa : Int) (fa : Bool) (Aa : Option Addr) (na ca : Nat) (xb : Int) (fb : Bool) (Ab : Option Addr) (nb cb : Nat) (tb tl tr : Bool) (w : World) :
    Calls Tryz.prog 164 #[.agg #[.int .i64 xa, .bool fa, .slice Aa na ca], .agg #[.int .i64 xb, .bool fb, .slice Ab nb cb], .pointer (some ⟨O, 0, none⟩), opV tb tl tr] w
      fun e w' => e = .returned (gFn w.heap.size) ∧ Boxes w.heap.size O xa fa Aa na ca xb fb Ab nb cb (opV tb tl tr) w' ∧ Below w.heap.size w w' ∧ w'.heap.size = w.heap.size + 9 := by
  have hmm := @run_makeMap Tryz.prog
  go_enter Tryz.func164, Tryz.ntmps164
  go_wp2
  go_ret
  refine ⟨by simp [gFn], ?_, ?_, by simp [World.size_alloc]⟩
  · generalize hH : w.heap.size = H
    have key : ∀ (w : World) (o : Obj) (b : Nat) (T : TypeId) (cs : Array Value), Blk w b T cs → Blk (w.alloc o) b T cs := fun w o b T cs h => h.alloc o
    have mkey : ∀ {κ : Type} (w : World) (o : Obj) (kT : TypeId) (kv : κ → Value) (b n : Nat) (M : κ → Option Int), MapIs w kT kv b n M → MapIs (w.alloc o) kT kv b n M := fun w o kT kv b n M h => h.below ((Below.refl _ _).alloc (Nat.le_refl _) _)
    have mnew : ∀ {κ : Type} (w : World) (kT : TypeId) (kv : κ → Value) (b : Nat), b = w.heap.size → MapIs (w.alloc (.map #[] 0)) kT kv b 0 (fun _ => none) := fun w kT kv b h => by subst h; exact MapIs.made w kT kv
    constructor
    all_goals (repeat (first | (focus (refine Blk.step ?_; simp [World.size_alloc, hH]; done)) | (focus (refine mnew _ _ _ _ ?_; simp [World.size_alloc, hH]; done)) | (refine key _ _ _ _ _ ?_) | (refine mkey _ _ _ _ _ _ _ ?_)))
  · repeat (first | exact Below.refl _ _ | (refine Below.alloc ?_ (by simp [World.size_alloc]; try omega) _))
set_option maxHeartbeats 2000000 in
theorem comb_zero (tb tl tr : Bool) : CombC 0 tb tl tr := by
  intro a b xa fa Aa na ca xb fb Ab nb cb w hA hB h1 h2 _ _ _ _
  have e1 : xa = 0 := by rw [← hA.hw]; exact h1.1
  have e2 := hA.hf
  have e3 := hB.hf
  subst e1
  have hr : comb (ofT tb tl tr) 0 a b = .nil 0 (ofT tb tl tr fa fb) := by rw [← e2, ← e3]; rfl
  rw [hr]
  have hent := entO
  clear hA hB h1 h2 e2 e3 hr
  have HB0 : Hid (Below w.heap.size w (((w.alloc (.cells #[.int .i64 0, .bool fa, .slice Aa na ca] 27)).alloc (.cells #[.int .i64 xb, .bool fb, .slice Ab nb cb] 27)).alloc (.cells #[.int .i64 0, .bool false, .slice none 0 0] 27))) := Lib.hid ((((Below.refl _ _).alloc (Nat.le_refl _) _).alloc (by simp) _).alloc (by simp; omega) _)
  have HX : Hid (Blk (((w.alloc (.cells #[.int .i64 0, .bool fa, .slice Aa na ca] 27)).alloc (.cells #[.int .i64 xb, .bool fb, .slice Ab nb cb] 27)).alloc (.cells #[.int .i64 0, .bool false, .slice none 0 0] 27)) (w.heap.size + 1 + 1) 27 #[.int .i64 0, .bool false, .slice none 0 0]) := Lib.hid (Blk.step (by simp [World.size_alloc]))
  go_enter Tryz.func136, Tryz.ntmps136
  go_wp2_with fail
  refine (of_any tb tl tr fa fb _).mono ?_
  rintro e w1 ⟨rfl, hb1⟩
  have HX1 := Lib.hid (HX.out.below hb1)
  have hx1 := HX1.out.cell
  obtain ⟨ff1, ff2, ff3⟩ := put3R_free HX1.out (.int .i64 0) (.bool (ofT tb tl tr fa fb))
  have F1 : Hid (Blk _ _ _ #[.int .i64 0, .bool false, .slice none 0 0]) := Lib.hid (HX1.out.set_ 0 (.int .i64 0))
  have F2 : Hid (Blk _ _ _ #[.int .i64 0, .bool (ofT tb tl tr fa fb), .slice none 0 0]) := Lib.hid (F1.out.set_ 1 (.bool (ofT tb tl tr fa fb)))
  have F3 : Hid (Blk _ _ _ #[.int .i64 0, .bool (ofT tb tl tr fa fb), .slice none 0 0]) := Lib.hid (F2.out.set_ 2 (.slice none 0 0))
  have y1 := F1.out.cell
  have y2 := F2.out.cell
  have y3 := F3.out.cell
  have HBr := Lib.hid (put3R_below (Below.next HB0.out hb1) (show w.heap.size ≤ w.heap.size + 1 + 1 by omega) (.int .i64 0) (.bool (ofT tb tl tr fa fb)) (.slice none 0 0))
  clear hb1
  go_wp2
  exact bodyPost_ret (v := .tuple #[.agg #[.int .i64 0, .bool (ofT tb tl tr fa fb), .slice none 0 0], .bool true]) (by simp [results, Tryz.results136, go_sem, y3]) rfl ⟨0, _, none, 0, 0, true, rfl, ⟨fun _ => ⟨by simp [Rg.size], rfl⟩, fun _ => rfl⟩, fun _ => RgF.nil _ _, HBr.out⟩
end Go.Proofs.YtmnmckblmoalkaaGreat

/-
  The reference's Copy of a region: a copy in fresh memory.
-/
namespace Go.Proofs.YtmnmckblmoalkaaGreat
open Go.RowKit
set_option maxRecDepth 100000
open Rg

/-- what a function that makes a region in fresh memory returns -/
def RgNew (w : World) (r : Rg) (e : Ending) (w' : World) : Prop :=
  ∃ (x : Int) (f : Bool) (A : Option Addr) (n c : Nat), e = .returned (.agg #[.int .i64 x, .bool f, .slice A n c]) ∧ RgF w.heap.size w'.heap.size w' x f A n c r ∧ Below w.heap.size w w'
/-- the same, with the parts one by one -/
def RgNewP (w : World) (r : Rg) (e : Ending) (w' : World) : Prop :=
  ∃ (x : Int) (f : Bool) (A : Option Addr) (n c : Nat) (ms : List PM), e = .returned (.agg #[.int .i64 x, .bool f, .slice A n c]) ∧ RgF w.heap.size w'.heap.size w' x f A n c r ∧ Below w.heap.size w w' ∧ PartsIn (w.heap.size + 3) w' A n c ms ∧ ms.map PM.pr = r.parts
theorem RgNewP.new {w : World} {r : Rg} {e : Ending} {w' : World} (h : RgNewP w r e w') : RgNew w r e w' := by
  obtain ⟨x, f, A, n, c, ms, h1, h2, h3, _, _⟩ := h
  exact ⟨x, f, A, n, c, h1, h2, h3⟩
theorem RgF.hw {lo hi : Nat} {w : World} {x : Int} {f : Bool} {A : Option Addr} {n c : Nat} {r : Rg} (h : RgF lo hi w x f A n c r) : r.w = x := h.s.hw
theorem fresh_none {w w' : World} (h : w.grownBy w' none) : Below w.heap.size w w' :=
  (Below.refl _ _).grown h (Nat.le_refl _) (fun k hk => by cases hk)
set_option maxHeartbeats 4000000 in
theorem fcopyP_any (r : Rg) : ∀ (x : Int) (f : Bool) (A : Option Addr) (n c : Nat) (w : World), RgS w x f A n c r → Sm r →
    Calls Tryz.prog 171 #[.agg #[.int .i64 x, .bool f, .slice A n c]] w fun e w' => RgNewP w r e w' := by
  induction hsz : r.size using Nat.strongRecOn generalizing r with
  | _ s ih =>
    intro x f A n c w hR hsm
    obtain ⟨i0, hi0, hz0, hz1, hz2⟩ := info_parts info_iv
    obtain ⟨i1, hi1, hy0, hy1, hy2⟩ := info_parts info_pt
    have HI := Lib.hid ih
    have HR := Lib.hid hR
    have Hsz := Lib.hid hsz
    have HSM := Lib.hid hsm
    have hn : n ≤ 100000 := by rw [hR.len]; exact hsm.1
    have hnc := hR.ok.1
    obtain ⟨W3, HW3⟩ : ∃ W : World, Hid (((w.alloc (.cells #[.int .i64 x, .bool f, .slice A n c] 27)).alloc (.cells #[.int .i64 0, .bool false, .slice none 0 0] 27)).alloc (.cells #[.int .i64 x, .bool f, .slice none 0 0] 27) = W) := ⟨_, rfl⟩
    have HC : Hid (Blk W3 (w.heap.size + 1) 27 #[.int .i64 0, .bool false, .slice none 0 0] ∧ Blk W3 (w.heap.size + 2) 27 #[.int .i64 x, .bool f, .slice none 0 0] ∧ W3.heap.size = w.heap.size + 3) := by
      rw [← HW3.out]
      exact Lib.hid ⟨(Blk.step (by simp)).alloc _, Blk.step (by simp), by simp⟩
    have HB0 : Hid (Below w.heap.size w W3) := by
      rw [← HW3.out]
      exact Lib.hid ((((Below.refl _ _).alloc (Nat.le_refl _) _).alloc (by simp) _).alloc (by simp; omega) _)
    clear ih hR hsz hsm
    go_enter Tryz.func171, Tryz.ntmps171
    go_wp2_with fail
    rw [HW3.out]
    go_loopw [14] (fun i wr => ∃ (k : Nat) (A' : Option Addr) (c' : Nat) (ms : List PM), k ≤ n ∧ i = .int .i64 (k : Int) ∧ Blk wr (w.heap.size + 1) 27 #[.int .i64 0, .bool false, .slice none 0 0] ∧ Blk wr (w.heap.size + 2) 27 #[.int .i64 x, .bool f, .slice A' k c'] ∧ Hid (PartsIn (w.heap.size + 3) wr A' k c' ms) ∧ Hid (ms.map PM.pr = r.parts.take k) ∧ Below w.heap.size w wr ∧ w.heap.size + 3 ≤ wr.heap.size) (fun i _ => n - (intOf i).toNat)
    case atStart => exact ⟨0, none, 0, [], by omega, rfl, HC.out.1, HC.out.2.1, Lib.hid ⟨⟨by simp, .inl ⟨rfl, rfl⟩⟩, rfl, (fun m hm => by cases hm), List.Pairwise.nil, (fun m hm => by cases hm)⟩, rfl, HB0.out, by have := HC.out.2.2; omega⟩
    case round =>
      obtain ⟨k, A', c', ms, hk, rfl, hbr, hbo, HP, Hms, hb, hsz3⟩ := hrel
      by_cases hlt : k < n
      · obtain ⟨b, o, p, A1, n1, c1, px, pf, A2, n2, c2, rfl, hp, hpt⟩ := (HR.out.keep (keeps_of hb)).at hlt
        have hps := size_at hp
        rw [Hsz.out] at hps
        have HPS := Lib.hid (HSM.out.mem (List.mem_of_getElem? hp))
        have Htk := Lib.hid (take_snoc' hp)
        have hn1 : n1 ≤ 100000 := by rw [← hpt.vs.len]; exact HPS.out.1
        obtain ⟨d0, d1, d2, d3, pok, pvs, prg⟩ := hpt
        have HPOK := Lib.hid pok
        have HPV_len := Lib.hid pvs.len
        have HPV := Lib.hid pvs
        have HPR := Lib.hid prg
        have HI' := Lib.hid (HI.out p.2.size hps p.2 rfl)
        have HBR := Lib.hid hbr
        have HBO := Lib.hid hbo
        have HBL := Lib.hid hb
        clear hp pok pvs prg hbr hbo hb
        go_upto_region 5 with fail
        have hba : Below wr.heap.size wr (wr.alloc (.cells #[.slice A1 n1 c1, .int .i64 px, .bool pf, .slice A2 n2 c2] 86)) := (Below.refl _ _).alloc (Nat.le_refl _) _
        have HPB : Hid (Blk (wr.alloc (.cells #[.slice A1 n1 c1, .int .i64 px, .bool pf, .slice A2 n2 c2] 86)) wr.heap.size 86 #[.slice A1 n1 c1, .int .i64 px, .bool pf, .slice A2 n2 c2]) := Lib.hid (Blk.new _ _ _)
        have HP1 := Lib.hid (HP.out.below hba)
        have HBR1 := Lib.hid (HBR.out.below hba)
        have HBO1 := Lib.hid (HBO.out.below hba)
        have HB1 := Lib.hid (Below.next HBL.out hba)
        have HPV1 := Lib.hid (HPV.out.keep (keeps_of hba))
        have HPR1 := Lib.hid (HPR.out.keep (keeps_of hba))
        have hs1 : (wr.alloc (.cells #[.slice A1 n1 c1, .int .i64 px, .bool pf, .slice A2 n2 c2] 86)).heap.size = wr.heap.size + 1 := World.size_alloc _ _
        have HOl : Hid (∀ q, (Value.slice A' k c').ownBlock = some q → w.heap.size + 3 ≤ q ∧ q < wr.heap.size) := Lib.hid (fun q hq => ⟨(own_lt HP.out.own hq).1, (own_lt HP.out.own hq).2.1⟩)
        have HOv : Hid (∀ m ∈ ms, (∀ q, m.vv.ownBlock = some q → q < wr.heap.size) ∧ m.hi ≤ wr.heap.size) := Lib.hid (fun m hm => ⟨fun q hq => (own_lt (HP.out.ok m hm).own hq).2.1, (HP.out.ok m hm).hi⟩)
        generalize hW1 : wr.alloc (.cells #[.slice A1 n1 c1, .int .i64 px, .bool pf, .slice A2 n2 c2] 86) = W1 at *
        clear hW1 hba d0 d1 d2 d3 HPV HPR HBL HBR HBO HP
        obtain ⟨S, HS⟩ : ∃ S : Nat → Prop, Hid ((fun q => (Value.slice A' k c').ownBlock = some q) = S) := ⟨_, rfl⟩
        have HSl : Hid (∀ q, S q → w.heap.size + 3 ≤ q ∧ q < wr.heap.size) := by rw [← HS.out]; exact HOl
        refine wp_region_plan S (.one [0, 1, 2, 3, 5, 6] 4 (.one [] 7 (.one [8] 9 (.one [] 10 (.fin [11] 12))))) (by kernel_rfl) (by kernel_rfl) (fun _ _ d _ _ h => by cases d <;> exact h) ?_
        have qO : ∀ (y : LaterS S W1.drew) j, (afterS S W1.drew y).cell? ⟨w.heap.size + 2, j, none⟩ = (#[.int .i64 x, .bool f, .slice A' k c'] : Array Value)[j]? := fun y j => (HBO1.out.drew.but y.but (fun h => by have := HSl.out _ h; omega)).cell j
        have qP : ∀ (y : LaterS S W1.drew) j, (afterS S W1.drew y).cell? ⟨wr.heap.size, j, none⟩ = (#[.slice A1 n1 c1, .int .i64 px, .bool pf, .slice A2 n2 c2] : Array Value)[j]? := fun y j => (HPB.out.drew.but y.but (fun h => by have := HSl.out _ h; omega)).cell j
        have hb1d : Below W1.heap.size W1 W1.drew := (Below.refl _ _).drew
        have HP2 := Lib.hid (HP1.out.below hb1d)
        have HPV2 : Hid (IvS W1.drew A1 n1 p.1) := Lib.hid (HPV1.out.keep (keeps_of hb1d))
        have HPR2 : Hid (RgS W1.drew px pf A2 n2 c2 p.2) := Lib.hid (HPR1.out.keep (keeps_of hb1d))
        have HB2 := Lib.hid (Below.next HB1.out hb1d)
        have HBR2 := Lib.hid HBR1.out.drew
        have HBO2 := Lib.hid HBO1.out.drew
        have hs2 : W1.drew.heap.size = wr.heap.size + 1 := hs1
        generalize hW2 : W1.drew = W2 at *
        clear hW2 HPV1 HPR1 HB1 HBR1 HBO1 HPB HP1 hb1d hs1
        unfold wpPlan
        simp only [pickOps, opAt, List.map_cons, List.map_nil, List.getElem?_toArray, List.getElem?_cons_zero, List.getElem?_cons_succ, Option.getD_some]
        repeat (go_big_quiet_step (fail))
        refine wpQuiet_nil ?_
        clear qO qP
        go_wp2_with (at_builtin; refine wpList_append_sf (cs := Iv.cs) W2 (by rfl) _ (.tmp 21) _ (by rfl) (w.heap.size + 3) 90 i0 _ 7 72 Tryz.underlying72 hi0 hz0 hz1 hz2 (by rfl) (by omega) (.slice none 0 0) 0 [] (by rfl) ⟨by simp, .inl ⟨rfl, rfl⟩⟩ A1 n1 c1 p.1 (by rfl) HPV2.out HPOK.out.2 Iv.cs_len one_iv (by simp only [maxLen]; omega) (by omega) (by omega) ?_; intro A4 c4 w4 hown4 hg4 hB4 hat4 hnil4; simp only [Nat.zero_add, List.nil_append] at hown4 hat4 ⊢)
        have hbf4 := fresh_none hg4
        refine ⟨But.of_below hbf4, ?_⟩
        have HOW4 := Lib.hid hown4
        have HAT4 := Lib.hid hat4
        have HP4 := Lib.hid (HP2.out.below hbf4)
        have HPR4 := Lib.hid (HPR2.out.keep (keeps_of hbf4))
        have HB4 := Lib.hid (Below.next HB2.out hbf4)
        have HBR4 := Lib.hid (HBR2.out.below hbf4)
        have HBO4 := Lib.hid (HBO2.out.below hbf4)
        have hs4 := hbf4.size
        clear hown4 hg4 hB4 hat4 hnil4 hbf4 HPV2 HPR2 HB2 HBR2 HBO2 HP2
        unfold wpPlan
        simp only [pickOps, opAt, List.map_nil, List.getElem?_toArray, List.getElem?_cons_zero, List.getElem?_cons_succ, Option.getD_some]
        refine wpQuiet_nil ?_
        go_wp2_with (first | (go_at_call 171; refine (HI'.out px pf A2 n2 c2 _ HPR4.out HPS.out.2).mono ?_; rintro e w5 ⟨x5, f5, A5, n5, c5, ms5, rfl, hF5, hb5, _, _⟩))
        refine ⟨But.of_below hb5, ?_⟩
        have HF5 := Lib.hid hF5
        have HOW5 := Lib.hid (own_at HOW4.out (fun g _ hl _ => hb5.block g hl))
        have HOVl : Hid (∀ q, (Value.slice A4 n1 c4).ownBlock = some q → q = W2.heap.size ∧ q < w4.heap.size) := Lib.hid (fun q hq => by
          refine ⟨?_, (own_lt HOW4.out hq).2.1⟩
          rcases HAT4.out with h | h
          · rw [h] at hq; cases hq
          · rw [h] at hq; injection hq with hq; exact hq.symm)
        have HP5 := Lib.hid (HP4.out.below hb5)
        have HB5 := Lib.hid (Below.next HB4.out hb5)
        have HBR5 := Lib.hid (HBR4.out.below hb5)
        have HBO5 := Lib.hid (HBO4.out.below hb5)
        have hs5 := hb5.size
        clear hF5 hb5 HOW4 HAT4 HP4 HPR4 HB4 HBR4 HBO4
        unfold wpPlan
        simp only [pickOps, opAt, List.map_cons, List.map_nil, List.getElem?_toArray, List.getElem?_cons_zero, List.getElem?_cons_succ, Option.getD_some]
        repeat (go_big_quiet_step (fail))
        refine wpQuiet_nil ?_
        go_wp2_with fail
        refine ⟨But.alloc _ _, ?_⟩
        unfold wpPlan
        simp only [pickOps, opAt, List.map_nil, List.getElem?_toArray, List.getElem?_cons_zero, List.getElem?_cons_succ, Option.getD_some]
        refine wpQuiet_nil ?_
        go_wp2_with (at_builtin; refine wpList_append_one2 (by rfl) (.tmp 19) (.tmp 27) _ (by rfl) (w.heap.size + 3) 86 i1 _ 4 64 Tryz.underlying25 hi1 hy0 hy1 hy2 (by rfl) (by omega) (.slice A' k c') k _ (by rfl) w5 #[.slice A4 n1 c4, .int .i64 x5, .bool f5, .slice A5 n5 c5] HP5.out.own w5.heap.size (by rfl) (by rfl) (by rfl) (one_pm (PM.mk A4 n1 c4 p.1 x5 f5 A5 n5 c5 p.2 w4.heap.size w5.heap.size)) (by simp only [maxLen]; omega) (by omega) (by omega) ?_; intro g9 cap9 w9 hown9 hg9 hB9 hat9 hlt9)
        have hbu9 : But S (w5.alloc (.cells #[.slice A4 n1 c4, .int .i64 x5, .bool f5, .slice A5 n5 c5] 86)) w9 := But.of_grown hg9 (fun k hk => by rw [← HS.out]; exact hk)
        refine ⟨hbu9, ?_⟩
        have hbu59 : But S w5 w9 := (But.alloc _ _).trans hbu9
        have HOWN9 := Lib.hid hown9
        have HAT9 := Lib.hid hat9
        have HBR9 := Lib.hid (HBR5.out.but hbu59 (fun h => by have := HSl.out _ h; omega))
        have HBO9 := Lib.hid (HBO5.out.but hbu59 (fun h => by have := HSl.out _ h; omega))
        have HB9 : Hid (Below w.heap.size w w9) := Lib.hid (hbu59.below HB5.out (by omega) (fun q hq => by have := HSl.out _ hq; omega))
        have HBU9 := Lib.hid hbu59
        have hs9 := hbu59.size
        clear hown9 hg9 hB9 hat9 hbu9 hbu59 HBR5 HBO5 HB5
        unfold wpPlan
        simp only [pickOps, opAt, List.map_cons, List.map_nil, List.getElem?_toArray, List.getElem?_cons_zero, List.getElem?_cons_succ, Option.getD_some]
        have hoc := HBO9.out.cell
        have hof := HBO9.out.free
        repeat (go_big_quiet_step (fail))
        refine wpQuiet_nil ?_
        go_upto_region 6 with fail
        have hbu10 : But (· = w.heap.size + 2) w9 (w9.setCell ⟨w.heap.size + 2, 2, none⟩ (.slice (some ⟨g9, 0, none⟩) (k + 1) cap9)) := But.set (S := fun q => q = w.heap.size + 2) _ (p := ⟨w.heap.size + 2, 2, none⟩) rfl _
        have HBO10 : Hid (Blk (w9.setCell ⟨w.heap.size + 2, 2, none⟩ (.slice (some ⟨g9, 0, none⟩) (k + 1) cap9)) (w.heap.size + 2) 27 #[.int .i64 x, .bool f, .slice (some ⟨g9, 0, none⟩) (k + 1) cap9]) := Lib.hid (HBO9.out.set_ 2 _)
        generalize hW10 : w9.setCell ⟨w.heap.size + 2, 2, none⟩ (.slice (some ⟨g9, 0, none⟩) (k + 1) cap9) = w10 at *
        clear hW10 hoc hof
        have HBR10 := Lib.hid (HBR9.out.but hbu10 (by omega))
        have HB10 : Hid (Below w.heap.size w w10) := Lib.hid (hbu10.below HB9.out (by omega) (fun q hq => by omega))
        have hs10 := hbu10.size
        have HOWN10 := Lib.hid (own_but HOWN9.out hbu10 (fun q hq hs => by have := (own_lt HOWN9.out hq).1; omega))
        have HP10 : Hid (PartsIn (w.heap.size + 3) w10 (some ⟨g9, 0, none⟩) (k + 1) cap9 (ms ++ [PM.mk A4 n1 c4 p.1 x5 f5 A5 n5 c5 p.2 w4.heap.size w5.heap.size])) := by
          refine Lib.hid (HP5.out.addv ?_ ?_ ?_ ?_ ?_ ?_)
          · rw [List.flatMap_append]
            simpa [PM.cs] using HOWN10.out
          · refine (HBU9.out.wide (fun q hq => ?_)).trans (hbu10.wide (fun q hq => .inr (by omega)))
            rw [← HS.out] at hq
            exact .inl hq
          · intro q hq
            simp only [Value.ownBlock, Option.some.injEq] at hq
            subst hq
            rcases HAT9.out with e | e
            · exact .inl e
            · exact .inr (by omega)
          · exact ⟨HOW5.out, HPV_len.out, HF5.out, by show w.heap.size + 3 ≤ w4.heap.size; omega, Nat.le_refl _⟩
          · intro q (h1 : w4.heap.size ≤ q) (h2 : q < w5.heap.size)
            refine ⟨fun hs => ?_, fun hs => ?_, fun m' hm' hs => ?_⟩
            · have := HOl.out q hs; omega
            · have := HOVl.out q hs; omega
            · have := (HOv.out m' hm').1 q hs; omega
          · intro q hq m' hm'
            have h1 := HOVl.out q hq
            have h2 := HOv.out m' hm'
            exact ⟨fun hs => by have := h2.1 q hs; omega, fun hs => by omega⟩
        clear HBR9 HBO9 HB9 HBU9 hbu10 HOWN9 HOWN10 HP5 HOW5 HF5
        go_wp2_with fail
        go_roundw
        case rel =>
          refine ⟨k + 1, _, cap9, _, by omega, by go_num, HBR10.out, HBO10.out, HP10, ?_, HB10.out, by omega⟩
          show _ = _
          rw [List.map_append, Hms.out, Htk.out]
          rfl
        case measure => simp [intOf]; omega
      · obtain rfl : k = n := by omega
        have hy3 := (put3R_blk (a' := .int .i64 x) (b' := .bool f) (c' := .slice A' k c') hbr).cell
        have hy1 := (hbr.set_ 0 (.int .i64 x)).cell
        have hy2 := ((hbr.set_ 0 (.int .i64 x)).set_ 1 (.bool f)).cell
        obtain ⟨ff1, ff2, ff3⟩ := put3R_free hbr (.int .i64 x) (.bool f)
        have zo := hbo.cell
        have zr := hbr.cell
        have hmk : mkR x f (ms.map PM.pr) = r := by
          have h1 := HR.out
          rw [Hms.out, List.take_of_length_le (by rw [len_parts, h1.len]; exact Nat.le_refl _), ← h1.hw, ← h1.hf]
          exact mk_parts r
        have HF := Lib.hid (HP.out.region2 x f)
        rw [hmk] at HF
        have HBf := Lib.hid (put3R_below hb (show w.heap.size ≤ w.heap.size + 1 by omega) (.int .i64 x) (.bool f) (.slice A' k c'))
        have HFr : Hid (RgF w.heap.size (put3R wr (w.heap.size + 1) (.int .i64 x) (.bool f) (.slice A' k c')).heap.size (put3R wr (w.heap.size + 1) (.int .i64 x) (.bool f) (.slice A' k c')) x f A' k c' r) := by
          refine Lib.hid ((HF.out.keep fun q h1 h2 => (put3R_but wr (w.heap.size + 1) _ _ _).block q h2 (by omega)).wide (by omega) (by rw [put3R_size]; exact Nat.le_refl _))
        have HPf := Lib.hid (HP.out.but (put3R_but wr (w.heap.size + 1) (.int .i64 x) (.bool f) (.slice A' k c')) (fun q hq => by omega))
        have Hmf : Hid (ms.map PM.pr = r.parts) := Lib.hid (by rw [Hms.out, List.take_of_length_le (by rw [len_parts, HR.out.len]; exact Nat.le_refl _)])
        unfold put3R at hy3
        clear hmk hbr hbo hb
        go_wp2
        exact bodyPost_ret (v := .agg #[.int .i64 x, .bool f, .slice A' k c']) (by simp [results, Tryz.results171, go_sem, hy3]) rfl ⟨x, f, A', k, c', ms, rfl, HFr.out, HBf.out, HPf.out, Hmf.out⟩
theorem fcopy_any (r : Rg) (x : Int) (f : Bool) (A : Option Addr) (n c : Nat) (w : World) (hR : RgS w x f A n c r) (hsm : Sm r) :
    Calls Tryz.prog 171 #[.agg #[.int .i64 x, .bool f, .slice A n c]] w fun e w' => RgNew w r e w' :=
  (fcopyP_any r x f A n c w hR hsm).mono fun _ _ h => h.new
end Go.Proofs.YtmnmckblmoalkaaGreat
