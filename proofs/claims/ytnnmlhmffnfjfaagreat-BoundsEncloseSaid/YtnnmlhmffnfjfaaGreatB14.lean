/-
  Texts: CombS, Comb0.
-/
import Derived.Test.YtnnmlhmffnfjfaaGreatB13
set_option linter.unusedVariables false
set_option maxRecDepth 100000
namespace Go.Proofs.YtnnmlhmffnfjfaaGreat
open Go.RowKit
open Rg
def GC.at_ (g : GC) (p : Vl) : Rg := comb g.op g.N (g.a.at_ (g.N : Int) p) (g.b.at_ (g.N : Int) p)
def GC.full (g : GC) : Rg := comb g.op (g.N + 1) g.a g.b
theorem GC.full_eq (g : GC) : g.full = mkR ((g.N + 1 : Nat) : Int) false (partsAt g.at_ (ptsOf g.a g.b)) := rfl
theorem GC.at_form {g : GC} (hg : g.Good) (p : Vl) : Form g.N (g.at_ p) := comb_form _ _ _ _ (hg.fa.at_ p) (hg.fb.at_ p)
structure CSt (g : GC) (qs : List Ev) (k : Nat) (K : List Vl) (ms : List PM) (o : Int) : Prop where
 sw : Swp qs k K
 pr : ms.map PM.pr = partsAt g.at_ K
 op : o = idxR (resU g.at_ K) (lastR g.at_ (.nil (g.N : Int) false) K)
 fit : ∀ q ∈ partsAt g.at_ K, q.1.length ≤ 64 ∧ q.2.fits = true
theorem CSt.zero (g : GC) (qs : List Ev) : CSt g qs 0 [] [] (-1) := ⟨Swp.zero qs, rfl, rfl, fun q h => by cases h⟩
theorem CSt.skip {g : GC} {qs : List Ev} {k : Nat} {K : List Vl} {ms : List PM} {o : Int} (h : CSt g qs k K ms o) {x y : Ev} (hx : qs[k]? = some x) (hy : qs[k + 1]? = some y) (e : y.v = x.v) : CSt g qs (k + 1) K ms o := ⟨h.sw.skip hx hy e, h.pr, h.op, h.fit⟩
theorem rests_of {ms : List PM} {L : List (List Iv × Rg)} (h : ms.map PM.pr = L) : ms.map PM.r = L.map (·.2) := by rw [← h, prs_r]
theorem room_rests {ro : Vl → Rg} (K : List Vl) (p : Vl) : (roomP (partsAt ro K) (ro p)).map (·.2) = resU ro (K ++ [p]) := by
 rw [room_at, List.map_map]
 exact List.map_id' _
section
variable {g : GC} {qs : List Ev} {k : Nat} {K : List Vl} {ms ms' : List PM} {o now : Int} {x : Ev}
theorem CSt.room (h : CSt g qs k K ms o) (hpr : ms'.map PM.pr = roomP (ms.map PM.pr) (g.at_ x.v)) (hnow : now = idxR (ms'.map PM.r) (g.at_ x.v)) : ms'.map PM.pr = roomP (partsAt g.at_ K) (g.at_ x.v) ∧ now = idxR (resU g.at_ (K ++ [x.v])) (g.at_ x.v) := by
 rw [h.pr] at hpr
 refine ⟨hpr, ?_⟩
 rw [hnow, rests_of hpr, room_rests]
theorem CSt.same (hg : g.Good) (h : CSt g qs k K ms o) (hup : EvUp qs) (hx : qs[k]? = some x) (hb : ∀ y, qs[k + 1]? = some y → y.v ≠ x.v) (hpr : ms'.map PM.pr = roomP (partsAt g.at_ K) (g.at_ x.v)) (hnow : now = idxR (resU g.at_ (K ++ [x.v])) (g.at_ x.v)) (heq : now = o) : CSt g qs (k + 1) (K ++ [x.v]) ms' o := by
 have he := (now_open (n := g.N) (K := K) (p := x.v) (fun q _ => g.at_form hg q)).1 (by rw [← hnow, ← h.op]; exact heq)
 obtain ⟨h1, h2⟩ := step_same (n := g.N) (fun q _ => g.at_form hg q) he
 refine ⟨h.sw.take hup hx hb, by rw [hpr, h1, h2], ?_, by rw [h2]; exact h.fit⟩
 rw [lastR_snoc, ← hnow]
 exact heq.symm
theorem CSt.turn (hg : g.Good) (h : CSt g qs k K ms o) (hup : EvUp qs) (hx : qs[k]? = some x) (hb : ∀ y, qs[k + 1]? = some y → y.v ≠ x.v) (hnow : now = idxR (resU g.at_ (K ++ [x.v])) (g.at_ x.v)) (hne : now ≠ o)
 (hpr : ms'.map PM.pr = openAt now x.v (closeAt o x.v (roomP (partsAt g.at_ K) (g.at_ x.v)))) (hfit : ∀ m ∈ ms', m.vs.length ≤ 64 ∧ m.r.fits = true) : CSt g qs (k + 1) (K ++ [x.v]) ms' now := by
 have he : g.at_ x.v ≠ lastR g.at_ (.nil (g.N : Int) false) K := fun e => hne (by
  have := (now_open (n := g.N) (K := K) (p := x.v) (fun q _ => g.at_form hg q)).2 e
  rw [← hnow, ← h.op] at this
  exact this)
 have h1 := step_turn (n := g.N) (K := K) (p := x.v) (fun q _ => g.at_form hg q) he
 rw [← hnow, ← h.op, ← hpr] at h1
 refine ⟨h.sw.take hup hx hb, h1.symm, by rw [lastR_snoc]; exact hnow, ?_⟩
 rw [h1]
 intro q hq
 obtain ⟨m, hm, rfl⟩ := List.mem_map.1 hq
 exact hfit m hm
theorem CSt.ahead (h : CSt g qs k K ms o) (hp : qs.Perm (evs g.a g.b)) (hup : EvUp qs) (hx : qs[k]? = some x) (hb : ∀ y, qs[k + 1]? = some y → y.v ≠ x.v) : ∃ R, ptsOf g.a g.b = K ++ x.v :: R := by
 have hk := (List.getElem?_eq_some_iff.1 hx).1
 obtain ⟨R, hR⟩ := (h.sw.take hup hx hb).prefix_ hp hup (by omega)
 exact ⟨R, by simpa using hR⟩
theorem CSt.fail1 (hg : g.Good) (h : CSt g qs k K ms o) (hp : qs.Perm (evs g.a g.b)) (hup : EvUp qs) (hx : qs[k]? = some x) (hb : ∀ y, qs[k + 1]? = some y → y.v ≠ x.v) (hf : GFail g ms (g.at_ x.v)) : ¬ within g.full := by
 obtain ⟨R, hR⟩ := h.ahead hp hup hx hb
 rw [g.full_eq, hR]
 rcases hf with hf | ⟨h1, h2, h3⟩
 · exact fail_rest (g.at_form hg x.v) hf
 · refine fail_size h1 ?_ (by rw [← h.pr]; exact h3)
   rw [rests_of h.pr, partsAt_rests] at h2
   exact h2
theorem CSt.fail2 (hg : g.Good) (h : CSt g qs k K ms o) (hp : qs.Perm (evs g.a g.b)) (hup : EvUp qs) (hx : qs[k]? = some x) (hb : ∀ y, qs[k + 1]? = some y → y.v ≠ x.v) (hnow : now = idxR (resU g.at_ (K ++ [x.v])) (g.at_ x.v)) (hne : now ≠ o) (hge : 0 ≤ now) (hl : 64 ≤ (valsAt g.at_ K (g.at_ x.v)).length) : ¬ within g.full := by
 obtain ⟨R, hR⟩ := h.ahead hp hup hx hb
 rw [g.full_eq, hR]
 refine fail_vals (n := g.N) ?_ (fun e => hne (by
  have := (now_open (n := g.N) (K := K) (p := x.v) (fun q _ => g.at_form hg q)).2 e
  rw [← hnow, ← h.op] at this
  exact this)) hl
 rcases idxR_spec (g.at_ x.v) (resU g.at_ (K ++ [x.v])) with ⟨h1, _⟩ | ⟨j, h1, _⟩
 · omega
 · exact ((uniq_mem _ _).1 (List.mem_of_getElem? h1)).2
theorem CSt.done (h : CSt g qs qs.length K ms o) (hp : qs.Perm (evs g.a g.b)) (hs : sizeL (ms.map PM.pr) ≤ 64) : mkR ((g.N + 1 : Nat) : Int) false (ms.map PM.pr) = g.full ∧ within g.full := by
 have hK := h.sw.fin hp
 have h1 := h.pr
 have h2 := h.fit
 rw [hK] at h1 h2
 refine ⟨by rw [g.full_eq, h1], ?_⟩
 rw [g.full_eq, within_mk]
 rw [h1] at hs
 exact ⟨hs, h2⟩
theorem cur_at (hg : g.Good) (hp : qs.Perm (evs g.a g.b)) (hup : EvUp qs) (hx : qs[k]? = some x) (hb : ∀ y, qs[k + 1]? = some y → y.v ≠ x.v) :
 curOf 0 (qs.take (k + 1)) = idxP g.a.parts x.v ∧ curOf 1 (qs.take (k + 1)) = idxP g.b.parts x.v := by
 have hup' : EvUp (qs.take (k + 1) ++ qs.drop (k + 1)) := by rw [List.take_append_drop]; exact hup
 have hmem : ∀ e, e ∈ qs.take (k + 1) ++ qs.drop (k + 1) ↔ e ∈ evs g.a g.b := fun e => by rw [List.take_append_drop]; exact hp.mem_iff
 have hv : validV x.v = true := by
  have h1 : x.v ∈ ptsOf g.a g.b := (pts_evs _ _ _).2 ⟨x, hp.mem_iff.1 (List.mem_of_getElem? hx), rfl⟩
  exact (pts_of hg.fa hg.fb).2.1 _ h1
 constructor
 · exact cur_idx hup' (fun e he => (hmem e).trans (evs_side0 he)) (sweep_le hup hx) (sweep_gt hup hx hb) (fun q hq => (hg.fa.2.2.1 q hq).2.1) (hg.fa.2.2.2.imp fun h => h.2.1) hv
 · exact cur_idx hup' (fun e he => (hmem e).trans (evs_side1 he)) (sweep_le hup hx) (sweep_gt hup hx hb) (fun q hq => (hg.fb.2.2.1 q hq).2.1) (hg.fb.2.2.2.imp fun h => h.2.1) hv
theorem idx_range (L : List (List Iv × Rg)) (v : Vl) : -1 ≤ idxP L v ∧ idxP L v < (L.length : Int) := by
 rcases idx_spec v L with ⟨h1, _⟩ | ⟨j, p, h1, _, h3, _⟩
 · omega
 · have := (List.getElem?_eq_some_iff.1 h1).1; omega
theorem ro_at (hg : g.Good) (p : Vl) : g.ro (idxP g.a.parts p, idxP g.b.parts p) = g.at_ p := by
 unfold GC.ro GC.at_
 rw [rest_at hg.fa.1, rest_at hg.fb.1]
theorem ev_side (hp : qs.Perm (evs g.a g.b)) (hx : qs[k]? = some x) : (x.s = 0 ∨ x.s = 1) ∧ 0 ≤ x.p ∧ x.p < 1000 ∨ ¬ (g.a.len ≤ 64 ∧ g.b.len ≤ 64) := by
 have h1 := hp.mem_iff.1 (List.mem_of_getElem? hx)
 unfold evs at h1
 by_cases hl : g.a.len ≤ 64 ∧ g.b.len ≤ 64
 · left
   rcases List.mem_append.1 h1 with h | h
   · refine ⟨.inl (evR_side h), ?_⟩
     obtain ⟨j, p, y, h2, _, h3⟩ := mem_evR.1 h
     have h4 := (List.getElem?_eq_some_iff.1 h2).1
     rw [len_parts] at h4
     rcases mem_evI.1 h3 with rfl | ⟨_, rfl⟩ <;> simp only <;> omega
   · refine ⟨.inr (evR_side h), ?_⟩
     obtain ⟨j, p, y, h2, _, h3⟩ := mem_evR.1 h
     have h4 := (List.getElem?_eq_some_iff.1 h2).1
     rw [len_parts] at h4
     rcases mem_evI.1 h3 with rfl | ⟨_, rfl⟩ <;> simp only <;> omega
 · exact .inr hl
end
theorem entO : ∀ args w, (callFunc 161 args).run Tryz.prog w = .ok (.enter 161 args) w := Go.Proofs.enters_of Tryz.func161 (by kernel_rfl) rfl
theorem entG1 : ∀ args w, (callFunc 241 args).run Tryz.prog w = .ok (.enter 241 args) w := Go.Proofs.enters_of Tryz.func241 (by kernel_rfl) rfl
structure Boxes (H O : Nat) (xa : Int) (fa : Bool) (Aa : Option Addr) (na ca : Nat) (xb : Int) (fb : Bool) (Ab : Option Addr) (nb cb : Nat) (ov : Value) (w : World) : Prop where
 ba : Blk w H 71 #[.int .i64 xa, .bool fa, .slice Aa na ca]
 bb : Blk w (H + 1) 71 #[.int .i64 xb, .bool fb, .slice Ab nb cb]
 bp : Blk w (H + 2) 222 #[.pointer (some ⟨O, 0, none⟩)]
 bo : Blk w (H + 3) 199 #[ov]
 km : MapIs w 225 kv2 (H + 4) 0 (fun _ => none)
 bk : Blk w (H + 5) 257 #[.map (some (H + 4))]
 cm : MapIs w 9 Value.string (H + 6) 0 (fun _ => none)
 bc : Blk w (H + 7) 258 #[.map (some (H + 6))]
 bt : Blk w (H + 8) 3 #[.int .i64 0]
def gFn (H : Nat) : Value := .func (.func 241) #[] #[.pointer (some ⟨H + 5, 0, none⟩), .pointer (some ⟨H, 0, none⟩), .pointer (some ⟨H + 1, 0, none⟩), .pointer (some ⟨H + 3, 0, none⟩), .pointer (some ⟨H + 7, 0, none⟩), .pointer (some ⟨H + 8, 0, none⟩), .pointer (some ⟨H + 2, 0, none⟩)]
theorem Blk.step {w : World} {b : Nat} {T : TypeId} {cs : Array Value} (h : b = w.heap.size) : Blk (w.alloc (.cells cs T)) b T cs := by subst h; exact Blk.new w T cs
set_option maxHeartbeats 2000000 in
theorem grouping_any (O : Nat) (xa : Int) (fa : Bool) (Aa : Option Addr) (na ca : Nat) (xb : Int) (fb : Bool) (Ab : Option Addr) (nb cb : Nat) (tb tl tr : Bool) (w : World) :
 Calls Tryz.prog 203 #[.agg #[.int .i64 xa, .bool fa, .slice Aa na ca], .agg #[.int .i64 xb, .bool fb, .slice Ab nb cb], .pointer (some ⟨O, 0, none⟩), opV tb tl tr] w
  fun e w' => e = .returned (gFn w.heap.size) ∧ Boxes w.heap.size O xa fa Aa na ca xb fb Ab nb cb (opV tb tl tr) w' ∧ Below w.heap.size w w' ∧ w'.heap.size = w.heap.size + 9 := by
 have hmm := @run_makeMap Tryz.prog
 go_enter Tryz.func203, Tryz.ntmps203
 go_wp2
 go_ret
 refine ⟨by simp [gFn], ?_, ?_, by simp [World.size_alloc]⟩
 · generalize hH : w.heap.size = H
   have key : ∀ (w : World) (o : Obj) (b : Nat) (T : TypeId) (cs : Array Value), Blk w b T cs → Blk (w.alloc o) b T cs := fun w o b T cs h => h.alloc o
   have mkey : ∀ {κ : Type} (w : World) (o : Obj) (kT : TypeId) (kv : κ → Value) (b n : Nat) (M : κ → Option Int), MapIs w kT kv b n M → MapIs (w.alloc o) kT kv b n M := fun w o kT kv b n M h => h.below ((Below.refl _ _).alloc (Nat.le_refl _) _)
   have mnew : ∀ {κ : Type} (w : World) (kT : TypeId) (kv : κ → Value) (b : Nat), b = w.heap.size → MapIs (w.alloc (.map #[] 0)) kT kv b 0 (fun _ => none) := fun w kT kv b h => by subst h; exact MapIs.made w kT kv
   constructor
   all_goals (repeat (first | (focus (refine Blk.step ?_; simp [World.size_alloc, hH]; done)) | (focus (refine mnew _ _ _ _ ?_; simp [World.size_alloc, hH]; done)) | (refine key _ _ _ _ _ ?_) | (refine mkey _ _ _ _ _ _ _ ?_)))
 · repeat (first | exact Below.refl _ _ | (refine Below.alloc ?_ (by simp [World.size_alloc]; try omega) _))
set_option maxHeartbeats 2000000 in
theorem comb_zero (tb tl tr : Bool) : CombC 0 tb tl tr := by
 intro a b xa fa Aa na ca xb fb Ab nb cb w hA hB h1 h2 _ _ _ _
 have e1 : xa = 0 := by rw [← hA.hw]; exact h1.1
 have e2 := hA.hf
 have e3 := hB.hf
 subst e1
 have hr : comb (ofT tb tl tr) 0 a b = .nil 0 (ofT tb tl tr fa fb) := by rw [← e2, ← e3]; rfl
 rw [hr]
 have hent := entO
 clear hA hB h1 h2 e2 e3 hr
 have HB0 : Hid (Below w.heap.size w (((w.alloc (.cells #[.int .i64 0, .bool fa, .slice Aa na ca] 71)).alloc (.cells #[.int .i64 xb, .bool fb, .slice Ab nb cb] 71)).alloc (.cells #[.int .i64 0, .bool false, .slice none 0 0] 71))) := zH ((((Below.refl _ _).alloc (Nat.le_refl _) _).alloc (by simp) _).alloc (by simp; omega) _)
 have HX : Hid (Blk (((w.alloc (.cells #[.int .i64 0, .bool fa, .slice Aa na ca] 71)).alloc (.cells #[.int .i64 xb, .bool fb, .slice Ab nb cb] 71)).alloc (.cells #[.int .i64 0, .bool false, .slice none 0 0] 71)) (w.heap.size + 1 + 1) 71 #[.int .i64 0, .bool false, .slice none 0 0]) := zH (Blk.step (by simp [World.size_alloc]))
 go_enter Tryz.func160, Tryz.ntmps160
 go_wp2_with fail
 refine (of_any tb tl tr fa fb _).mono ?_
 rintro e w1 ⟨rfl, hb1⟩
 have HX1 := zH (HX.out.below hb1)
 have hx1 := HX1.out.cell
 obtain ⟨ff1, ff2, ff3⟩ := put3R_free HX1.out (.int .i64 0) (.bool (ofT tb tl tr fa fb))
 have F1 : Hid (Blk _ _ _ #[.int .i64 0, .bool false, .slice none 0 0]) := zH (HX1.out.set_ 0 (.int .i64 0))
 have F2 : Hid (Blk _ _ _ #[.int .i64 0, .bool (ofT tb tl tr fa fb), .slice none 0 0]) := zH (F1.out.set_ 1 (.bool (ofT tb tl tr fa fb)))
 have F3 : Hid (Blk _ _ _ #[.int .i64 0, .bool (ofT tb tl tr fa fb), .slice none 0 0]) := zH (F2.out.set_ 2 (.slice none 0 0))
 have y1 := F1.out.cell
 have y2 := F2.out.cell
 have y3 := F3.out.cell
 have HBr := zH (put3R_below (Below.next HB0.out hb1) (show w.heap.size ≤ w.heap.size + 1 + 1 by omega) (.int .i64 0) (.bool (ofT tb tl tr fa fb)) (.slice none 0 0))
 clear hb1
 go_wp2
 exact bodyPost_ret (v := .tuple #[.agg #[.int .i64 0, .bool (ofT tb tl tr fa fb), .slice none 0 0], .bool true]) (by simp [results, Tryz.results160, go_sem, y3]) rfl ⟨0, _, none, 0, 0, true, rfl, ⟨fun _ => ⟨by simp [Rg.size], rfl⟩, fun _ => rfl⟩, fun _ => RgF.nil _ _, HBr.out⟩
end Go.Proofs.YtnnmlhmffnfjfaaGreat
