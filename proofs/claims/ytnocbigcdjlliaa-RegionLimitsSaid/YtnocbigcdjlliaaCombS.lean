/-
  Plain: the state of the program's combine between two events. No program of ours walks here.
-/
import Derived.Test.YtnocbigcdjlliaaGroup
namespace Go.Proofs.Ytnocbigcdjlliaa
open Go.RowKit
open Rg

/-- the result behind a point -/
def GC.at_ (g : GC) (p : Vl) : Rg := comb g.op g.N (g.a.at_ (g.N : Int) p) (g.b.at_ (g.N : Int) p)
def GC.full (g : GC) : Rg := comb g.op (g.N + 1) g.a g.b
theorem GC.full_eq (g : GC) : g.full = mkR ((g.N + 1 : Nat) : Int) false (partsAt g.at_ (ptsOf g.a g.b)) := rfl
theorem GC.at_form {g : GC} (hg : g.Good) (p : Vl) : Form g.N (g.at_ p) := comb_form _ _ _ _ (hg.fa.at_ p) (hg.fb.at_ p)
structure CSt (g : GC) (qs : List Ev) (k : Nat) (K : List Vl) (ms : List PM) (o : Int) : Prop where
  sw : Swp qs k K
  pr : ms.map PM.pr = partsAt g.at_ K
  op : o = idxR (resU g.at_ K) (lastR g.at_ (.nil (g.N : Int) false) K)
  fit : ∀ q ∈ partsAt g.at_ K, q.1.length ≤ 64 ∧ q.2.fits = true
theorem CSt.zero (g : GC) (qs : List Ev) : CSt g qs 0 [] [] (-1) := ⟨Swp.zero qs, rfl, rfl, fun q h => by cases h⟩
theorem CSt.skip {g : GC} {qs : List Ev} {k : Nat} {K : List Vl} {ms : List PM} {o : Int} (h : CSt g qs k K ms o) {x y : Ev} (hx : qs[k]? = some x) (hy : qs[k + 1]? = some y) (e : y.v = x.v) : CSt g qs (k + 1) K ms o := ⟨h.sw.skip hx hy e, h.pr, h.op, h.fit⟩
theorem rests_of {ms : List PM} {L : List (List Iv × Rg)} (h : ms.map PM.pr = L) : ms.map PM.r = L.map (·.2) := by rw [← h, prs_r]
theorem room_rests {ro : Vl → Rg} (K : List Vl) (p : Vl) : (roomP (partsAt ro K) (ro p)).map (·.2) = resU ro (K ++ [p]) := by
  rw [room_at, List.map_map]
  exact List.map_id' _
section
variable {g : GC} {qs : List Ev} {k : Nat} {K : List Vl} {ms ms' : List PM} {o now : Int} {x : Ev}
/-- after the function was called: where the parts stand -/
theorem CSt.room (h : CSt g qs k K ms o) (hpr : ms'.map PM.pr = roomP (ms.map PM.pr) (g.at_ x.v)) (hnow : now = idxR (ms'.map PM.r) (g.at_ x.v)) : ms'.map PM.pr = roomP (partsAt g.at_ K) (g.at_ x.v) ∧ now = idxR (resU g.at_ (K ++ [x.v])) (g.at_ x.v) := by
  rw [h.pr] at hpr
  refine ⟨hpr, ?_⟩
  rw [hnow, rests_of hpr, room_rests]
theorem CSt.same (hg : g.Good) (h : CSt g qs k K ms o) (hup : EvUp qs) (hx : qs[k]? = some x) (hb : ∀ y, qs[k + 1]? = some y → y.v ≠ x.v) (hpr : ms'.map PM.pr = roomP (partsAt g.at_ K) (g.at_ x.v)) (hnow : now = idxR (resU g.at_ (K ++ [x.v])) (g.at_ x.v)) (heq : now = o) : CSt g qs (k + 1) (K ++ [x.v]) ms' o := by
  have he := (now_open (n := g.N) (K := K) (p := x.v) (fun q _ => g.at_form hg q)).1 (by rw [← hnow, ← h.op]; exact heq)
  obtain ⟨h1, h2⟩ := step_same (n := g.N) (fun q _ => g.at_form hg q) he
  refine ⟨h.sw.take hup hx hb, by rw [hpr, h1, h2], ?_, by rw [h2]; exact h.fit⟩
  rw [lastR_snoc, ← hnow]
  exact heq.symm
theorem CSt.turn (hg : g.Good) (h : CSt g qs k K ms o) (hup : EvUp qs) (hx : qs[k]? = some x) (hb : ∀ y, qs[k + 1]? = some y → y.v ≠ x.v) (hnow : now = idxR (resU g.at_ (K ++ [x.v])) (g.at_ x.v)) (hne : now ≠ o)
    (hpr : ms'.map PM.pr = openAt now x.v (closeAt o x.v (roomP (partsAt g.at_ K) (g.at_ x.v)))) (hfit : ∀ m ∈ ms', m.vs.length ≤ 64 ∧ m.r.fits = true) : CSt g qs (k + 1) (K ++ [x.v]) ms' now := by
  have he : g.at_ x.v ≠ lastR g.at_ (.nil (g.N : Int) false) K := fun e => hne (by
    have := (now_open (n := g.N) (K := K) (p := x.v) (fun q _ => g.at_form hg q)).2 e
    rw [← hnow, ← h.op] at this
    exact this)
  have h1 := step_turn (n := g.N) (K := K) (p := x.v) (fun q _ => g.at_form hg q) he
  rw [← hnow, ← h.op, ← hpr] at h1
  refine ⟨h.sw.take hup hx hb, h1.symm, by rw [lastR_snoc]; exact hnow, ?_⟩
  rw [h1]
  intro q hq
  obtain ⟨m, hm, rfl⟩ := List.mem_map.1 hq
  exact hfit m hm
theorem CSt.ahead (h : CSt g qs k K ms o) (hp : qs.Perm (evs g.a g.b)) (hup : EvUp qs) (hx : qs[k]? = some x) (hb : ∀ y, qs[k + 1]? = some y → y.v ≠ x.v) : ∃ R, ptsOf g.a g.b = K ++ x.v :: R := by
  have hk := (List.getElem?_eq_some_iff.1 hx).1
  obtain ⟨R, hR⟩ := (h.sw.take hup hx hb).prefix_ hp hup (by omega)
  exact ⟨R, by simpa using hR⟩
/-- why it fails -/
theorem CSt.fail1 (hg : g.Good) (h : CSt g qs k K ms o) (hp : qs.Perm (evs g.a g.b)) (hup : EvUp qs) (hx : qs[k]? = some x) (hb : ∀ y, qs[k + 1]? = some y → y.v ≠ x.v) (hf : GFail g ms (g.at_ x.v)) : ¬ within g.full := by
  obtain ⟨R, hR⟩ := h.ahead hp hup hx hb
  rw [g.full_eq, hR]
  rcases hf with hf | ⟨h1, h2, h3⟩
  · exact fail_rest (g.at_form hg x.v) hf
  · refine fail_size h1 ?_ (by rw [← h.pr]; exact h3)
    rw [rests_of h.pr, partsAt_rests] at h2
    exact h2
theorem CSt.fail2 (hg : g.Good) (h : CSt g qs k K ms o) (hp : qs.Perm (evs g.a g.b)) (hup : EvUp qs) (hx : qs[k]? = some x) (hb : ∀ y, qs[k + 1]? = some y → y.v ≠ x.v) (hnow : now = idxR (resU g.at_ (K ++ [x.v])) (g.at_ x.v)) (hne : now ≠ o) (hge : 0 ≤ now) (hl : 64 ≤ (valsAt g.at_ K (g.at_ x.v)).length) : ¬ within g.full := by
  obtain ⟨R, hR⟩ := h.ahead hp hup hx hb
  rw [g.full_eq, hR]
  refine fail_vals (n := g.N) ?_ (fun e => hne (by
    have := (now_open (n := g.N) (K := K) (p := x.v) (fun q _ => g.at_form hg q)).2 e
    rw [← hnow, ← h.op] at this
    exact this)) hl
  rcases idxR_spec (g.at_ x.v) (resU g.at_ (K ++ [x.v])) with ⟨h1, _⟩ | ⟨j, h1, _⟩
  · omega
  · exact ((uniq_mem _ _).1 (List.mem_of_getElem? h1)).2
theorem CSt.done (h : CSt g qs qs.length K ms o) (hp : qs.Perm (evs g.a g.b)) (hs : sizeL (ms.map PM.pr) ≤ 64) : mkR ((g.N + 1 : Nat) : Int) false (ms.map PM.pr) = g.full ∧ within g.full := by
  have hK := h.sw.fin hp
  have h1 := h.pr
  have h2 := h.fit
  rw [hK] at h1 h2
  refine ⟨by rw [g.full_eq, h1], ?_⟩
  rw [g.full_eq, within_mk]
  rw [h1] at hs
  exact ⟨hs, h2⟩
/-- the current parts at a point -/
theorem cur_at (hg : g.Good) (hp : qs.Perm (evs g.a g.b)) (hup : EvUp qs) (hx : qs[k]? = some x) (hb : ∀ y, qs[k + 1]? = some y → y.v ≠ x.v) :
    curOf 0 (qs.take (k + 1)) = idxP g.a.parts x.v ∧ curOf 1 (qs.take (k + 1)) = idxP g.b.parts x.v := by
  have hup' : EvUp (qs.take (k + 1) ++ qs.drop (k + 1)) := by rw [List.take_append_drop]; exact hup
  have hmem : ∀ e, e ∈ qs.take (k + 1) ++ qs.drop (k + 1) ↔ e ∈ evs g.a g.b := fun e => by rw [List.take_append_drop]; exact hp.mem_iff
  have hv : validV x.v = true := by
    have h1 : x.v ∈ ptsOf g.a g.b := (pts_evs _ _ _).2 ⟨x, hp.mem_iff.1 (List.mem_of_getElem? hx), rfl⟩
    exact (pts_of hg.fa hg.fb).2.1 _ h1
  constructor
  · exact cur_idx hup' (fun e he => (hmem e).trans (evs_side0 he)) (sweep_le hup hx) (sweep_gt hup hx hb) (fun q hq => (hg.fa.2.2.1 q hq).2.1) (hg.fa.2.2.2.imp fun h => h.2.1) hv
  · exact cur_idx hup' (fun e he => (hmem e).trans (evs_side1 he)) (sweep_le hup hx) (sweep_gt hup hx hb) (fun q hq => (hg.fb.2.2.1 q hq).2.1) (hg.fb.2.2.2.imp fun h => h.2.1) hv
theorem idx_range (L : List (List Iv × Rg)) (v : Vl) : -1 ≤ idxP L v ∧ idxP L v < (L.length : Int) := by
  rcases idx_spec v L with ⟨h1, _⟩ | ⟨j, p, h1, _, h3, _⟩
  · omega
  · have := (List.getElem?_eq_some_iff.1 h1).1; omega
theorem ro_at (hg : g.Good) (p : Vl) : g.ro (idxP g.a.parts p, idxP g.b.parts p) = g.at_ p := by
  unfold GC.ro GC.at_
  rw [rest_at hg.fa.1, rest_at hg.fb.1]
theorem ev_side (hp : qs.Perm (evs g.a g.b)) (hx : qs[k]? = some x) : (x.s = 0 ∨ x.s = 1) ∧ 0 ≤ x.p ∧ x.p < 1000 ∨ ¬ (g.a.len ≤ 64 ∧ g.b.len ≤ 64) := by
  have h1 := hp.mem_iff.1 (List.mem_of_getElem? hx)
  unfold evs at h1
  by_cases hl : g.a.len ≤ 64 ∧ g.b.len ≤ 64
  · left
    rcases List.mem_append.1 h1 with h | h
    · refine ⟨.inl (evR_side h), ?_⟩
      obtain ⟨j, p, y, h2, _, h3⟩ := mem_evR.1 h
      have h4 := (List.getElem?_eq_some_iff.1 h2).1
      rw [len_parts] at h4
      rcases mem_evI.1 h3 with rfl | ⟨_, rfl⟩ <;> simp only <;> omega
    · refine ⟨.inr (evR_side h), ?_⟩
      obtain ⟨j, p, y, h2, _, h3⟩ := mem_evR.1 h
      have h4 := (List.getElem?_eq_some_iff.1 h2).1
      rw [len_parts] at h4
      rcases mem_evI.1 h3 with rfl | ⟨_, rfl⟩ <;> simp only <;> omega
  · exact .inr hl
end
end Go.Proofs.Ytnocbigcdjlliaa
