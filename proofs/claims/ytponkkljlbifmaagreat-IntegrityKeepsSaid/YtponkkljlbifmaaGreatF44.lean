/-
  Texts: IgKpP, Open.
-/
import Derived.Test.YtponkkljlbifmaaGreatF43
import Derived.ProofKit
import Derived.OpenShut
import Derived.ShutString
import Derived.Carry
import Derived.Deep.Slices
import Derived.Lib.SmallJoins
set_option linter.unusedVariables false
/-
  Plain mathematics: behind changes of a state without violations, those that the changes may have caused are all. No program here.
-/
namespace Go.Proofs.YtponkkljlbifmaaGreat
open Go.RowKit
set_option maxRecDepth 100000
open Pd

section
variable {hit : Bool} {wr rm rm' wr' gt gt' : Int → Rw → Bool} {t : Int} {key r : Rw} {T : Tb}
theorem vRefs_nil : ∀ (l : List Rf) (i : Int), vRefs true rm gt t key r i l = [] → ∀ x ∈ l, gt x.t (cellsR r x.cols) = true
  | [], _, _, _, h => by cases h
  | y :: l, i, h, x, hx => by
    simp only [vRefs, List.append_eq_nil_iff] at h
    rcases List.mem_cons.1 hx with rfl | hx
    · have h1 := h.1
      cases hg : gt x.t (cellsR r x.cols)
      · rw [hg] at h1; simp at h1
      · rfl
    · exact vRefs_nil l (i + 1) h.2 x hx
theorem vChks_nil : ∀ (l : List Pd) (i : Int), vChks true t key r i l = [] → ∀ x ∈ l, holdsB r [] x = true
  | [], _, _, _, h => by cases h
  | y :: l, i, h, x, hx => by
    simp only [vChks, List.append_eq_nil_iff] at h
    rcases List.mem_cons.1 hx with rfl | hx
    · have h1 := h.1
      cases hg : holdsB r [] x
      · rw [hg] at h1; simp at h1
      · rfl
    · exact vChks_nil l (i + 1) h.2 x hx
theorem vRefs_eq : ∀ (l : List Rf) (i : Int), (∀ x ∈ l, gt x.t (cellsR r x.cols) = true ∨ (hit || rm x.t (cellsR r x.cols)) = true) → vRefs hit rm gt t key r i l = vRefs true rm' gt t key r i l
  | [], _, _ => rfl
  | x :: l, i, h => by
    simp only [vRefs, vRefs_eq l (i + 1) (fun y hy => h y (by simp [hy]))]
    congr 1
    rcases h x (by simp) with h1 | h1
    · rw [h1]; simp
    · rw [h1]; simp
theorem vChks_eq : ∀ (l : List Pd) (i : Int), (∀ x ∈ l, holdsB r [] x = true) → vChks hit t key r i l = vChks true t key r i l
  | [], _, _ => rfl
  | x :: l, i, h => by
    simp only [vChks, vChks_eq l (i + 1) (fun y hy => h y (by simp [hy]))]
    rw [h x (by simp)]
    simp
theorem vRows_nil : ∀ (l : List Rw), vRows wr rm gt t T l = [] → ∀ r ∈ l, vRow wr rm gt t T r = []
  | [], _, _, h => by cases h
  | y :: l, h, r, hr => by
    simp only [vRows, List.append_eq_nil_iff] at h
    rcases List.mem_cons.1 hr with rfl | hr
    · exact h.1
    · exact vRows_nil l h.2 r hr
theorem vRows_congr : ∀ (l : List Rw), (∀ r ∈ l, vRow wr rm gt t T r = vRow wr' rm' gt t T r) → vRows wr rm gt t T l = vRows wr' rm' gt t T l
  | [], _ => rfl
  | y :: l, h => by simp only [vRows]; rw [h y (by simp), vRows_congr l (fun r hr => h r (by simp [hr]))]
end
theorem vTabs_nil {wr rm gt : Int → Rw → Bool} : ∀ (ts : List Tb) (ls : List (List Rw)) (i : Int), vTabs wr rm gt i ts ls = [] → ∀ (k : Nat) (T : Tb) (l : List Rw), ts[k]? = some T → ls[k]? = some l → ∀ r ∈ l, vRow wr rm gt (i + k) T r = []
  | [], _, _, _, _, _, _, h, _, _, _ => by simp at h
  | _ :: _, [], _, _, _, _, _, _, h, _, _ => by simp at h
  | U :: ts, m :: ls, i, h, k, T, l, hT, hl, r, hr => by
    simp only [vTabs, List.append_eq_nil_iff] at h
    cases k with
    | zero =>
      simp only [List.getElem?_cons_zero, Option.some.injEq] at hT hl
      subst hT hl
      rw [show i + ((0 : Nat) : Int) = i by omega]
      exact vRows_nil _ h.1 r hr
    | succ k =>
      have := vTabs_nil ts ls (i + 1) h.2 k T l hT hl r hr
      rwa [show i + 1 + (k : Int) = i + ((k + 1 : Nat) : Int) by omega] at this
theorem vTabs_congr {wr rm wr' rm' gt : Int → Rw → Bool} : ∀ (ts : List Tb) (ls : List (List Rw)) (i : Int), (∀ (k : Nat) (T : Tb) (l : List Rw), ts[k]? = some T → ls[k]? = some l → ∀ r ∈ l, vRow wr rm gt (i + k) T r = vRow wr' rm' gt (i + k) T r) → vTabs wr rm gt i ts ls = vTabs wr' rm' gt i ts ls
  | [], _, _, _ => by simp [vTabs]
  | _ :: _, [], _, _ => by simp [vTabs]
  | U :: ts, m :: ls, i, h => by
    have h1 : vRows wr rm gt i U m = vRows wr' rm' gt i U m := vRows_congr m fun r hr => by
      have := h 0 U m rfl rfl r hr
      rw [show i + ((0 : Nat) : Int) = i by omega] at this
      exact this
    have h2 : vTabs wr rm gt (i + 1) ts ls = vTabs wr' rm' gt (i + 1) ts ls := vTabs_congr ts ls (i + 1) fun k T l hT hl r hr => by
      have := h (k + 1) T l hT hl r hr
      rw [show i + ((k + 1 : Nat) : Int) = i + 1 + (k : Int) by omega] at this
      exact this
    simp only [vTabs]
    rw [h1, h2]
/-- where a row of a list with a row put comes from -/
theorem putF_mem {T : Tb} {k row x : Rw} : ∀ (l : List Rw) (d : Bool), x ∈ putF T k row d l → x ∈ l ∨ (d = false ∧ x = row)
  | [], d, h => by
    cases d
    · simp [putF] at h; exact .inr ⟨rfl, h⟩
    · simp [putF] at h
  | y :: l, d, h => by
    unfold putF at h
    rcases List.mem_append.1 h with h | h
    · rcases List.mem_append.1 h with h | h
      · split at h
        · rename_i hc
          simp only [Bool.and_eq_true, Bool.not_eq_true'] at hc
          exact .inr ⟨hc.2, by simpa using h⟩
        · cases h
      · split at h
        · cases h
        · exact .inl (by simp at h; simp [h])
    · rcases putF_mem l _ h with h | ⟨h, h2⟩
      · exact .inl (by simp [h])
      · exact .inr ⟨by cases d <;> simp_all, h2⟩
/-- a row with another key stays -/
theorem putF_stays {T : Tb} {k row x : Rw} (hk : cmpR (keyT T x) k ≠ 0) : ∀ (l : List Rw) (d : Bool), x ∈ l → x ∈ putF T k row d l
  | [], _, h => by cases h
  | y :: l, d, h => by
    unfold putF
    rcases List.mem_cons.1 h with rfl | h
    · refine List.mem_append_left _ (List.mem_append_right _ ?_)
      rw [if_neg hk]
      simp
    · exact List.mem_append_right _ (putF_stays hk l _ h)
theorem stepC_at {tbs : List Tb} {c : Ch} {st st' : List (List Rw)} (h : stepC tbs c st = (0, st')) : ∃ (T : Tb) (l : List Rw), 0 ≤ c.t ∧ tbs[c.t.toNat]? = some T ∧ okC T c = true ∧ st[c.t.toNat]? = some l ∧ (getT T l (keyC T c)).getD [] = c.o ∧ st' = st.set c.t.toNat (putRw T (keyC T c) c.n l) := by
  unfold stepC at h
  cases hv : validC tbs c with
  | false => rw [hv] at h; simp at h
  | true =>
    rw [hv] at h
    obtain ⟨h0, T, hT, hok⟩ := validC_at hv
    simp only [Bool.true_eq_false, if_false] at h
    cases hl : st[c.t.toNat]? with
    | none => rw [hT, hl] at h; simp at h
    | some l =>
      rw [hT, hl] at h
      simp only at h
      unfold listC at h
      by_cases hg : (getT T l (keyC T c)).getD [] = c.o
      · rw [if_pos hg] at h
        simp only at h
        split at h
        · simp at h
        · injection h with _ h
          exact ⟨T, l, h0, hT, hok, rfl, hg, h.symm⟩
      · rw [if_neg hg] at h
        simp at h
theorem setq_at {α : Type} {l : List α} {i j : Nat} {x y : α} (h : (l.set i x)[j]? = some y) : (i = j ∧ y = x) ∨ (i ≠ j ∧ l[j]? = some y) := by
  rw [List.getElem?_set] at h
  by_cases e : i = j
  · rw [if_pos e] at h
    split at h
    · injection h with h; exact .inl ⟨e, h.symm⟩
    · cases h
  · rw [if_neg e] at h
    exact .inr ⟨e, h⟩
theorem memK_cons {tbs : List Tb} {sel : Ch → Rw} {c : Ch} {cs : List Ch} {t : Nat} {T : Tb} {key : Rw} (hT : tbs[t]? = some T) (h : memK tbs sel (c :: cs) t key = false) : memK tbs sel cs t key = false ∧ (c.t = t → 0 < (sel c).length → cmpR (keyT T (sel c)) key ≠ 0) := by
  unfold memK at h ⊢
  rw [Int.toNat_natCast, hT] at h ⊢
  simp only [List.any_cons, Bool.or_eq_false_iff] at h ⊢
  refine ⟨h.2, fun h1 h2 h3 => ?_⟩
  have h0 := h.1
  rw [decide_eq_true h1, decide_eq_true h2, decide_eq_true h3] at h0
  cases h0
/-- a row whose key no change writes was there before -/
theorem appS_stays {tbs : List Tb} {t : Nat} {T : Tb} {r : Rw} (hT : tbs[t]? = some T) : ∀ (cs : List Ch) (st st' : List (List Rw)), appS tbs cs st = (0, st') → memK tbs Ch.n cs t (keyT T r) = false → ∀ l', st'[t]? = some l' → r ∈ l' → ∃ l, st[t]? = some l ∧ r ∈ l
  | [], st, st', h, _, l', hl, hr => by
    injection h with _ h
    subst h
    exact ⟨l', hl, hr⟩
  | c :: cs, st, st', h, hm, l', hl, hr => by
    have e1 : appS tbs (c :: cs) st = if (stepC tbs c st).1 ≠ 0 then stepC tbs c st else appS tbs cs (stepC tbs c st).2 := rfl
    rw [e1] at h
    obtain ⟨hm1, hm2⟩ := memK_cons hT hm
    split at h
    · rename_i h1
      rw [h] at h1
      exact absurd rfl h1
    · rename_i h1
      obtain ⟨st1, hs1⟩ : ∃ s, stepC tbs c st = (0, s) := ⟨(stepC tbs c st).2, by
        have : (stepC tbs c st).1 = 0 := by omega
        exact Prod.ext this rfl⟩
      rw [hs1] at h
      obtain ⟨l1, hl1, hr1⟩ := appS_stays hT cs st1 st' h hm1 l' hl hr
      obtain ⟨U, m, h0, hU, hok, hm0, hg, rfl⟩ := stepC_at hs1
      rcases setq_at hl1 with ⟨he, rfl⟩ | ⟨_, hl2⟩
      · rw [he] at hU hm0
        rw [hT] at hU
        injection hU with hU
        subst hU
        rcases putF_mem m _ hr1 with h2 | ⟨h2, h3⟩
        · exact ⟨m, hm0, h2⟩
        · subst h3
          refine absurd ?_ (hm2 (by omega) ?_)
          · exact cmpR_self _
          · have := of_decide_eq_false h2
            omega
      · exact ⟨l1, hl2, hr1⟩
/-- a key that no change takes away stays -/
theorem appS_keeps {tbs : List Tb} {t : Nat} {T : Tb} {key : Rw} (hT : tbs[t]? = some T) (hc : 1 ≤ T.cols.length) : ∀ (cs : List Ch) (st st' : List (List Rw)), OkS tbs st → appS tbs cs st = (0, st') → memK tbs Ch.o cs t key = false → gtS tbs st t key = true → gtS tbs st' t key = true
  | [], st, st', _, h, _, hg => by
    injection h with _ h
    subst h
    exact hg
  | c :: cs, st, st', hok, h, hm, hg => by
    have e1 : appS tbs (c :: cs) st = if (stepC tbs c st).1 ≠ 0 then stepC tbs c st else appS tbs cs (stepC tbs c st).2 := rfl
    rw [e1] at h
    obtain ⟨hm1, hm2⟩ := memK_cons hT hm
    split at h
    · rename_i h1
      rw [h] at h1
      exact absurd rfl h1
    · rename_i h1
      obtain ⟨st1, hs1⟩ : ∃ s, stepC tbs c st = (0, s) := ⟨(stepC tbs c st).2, by
        have : (stepC tbs c st).1 = 0 := by omega
        exact Prod.ext this rfl⟩
      have hok1 : OkS tbs st1 := by have := stepC_ok hok (c := c) (by rw [hs1]); rwa [hs1] at this
      rw [hs1] at h
      refine appS_keeps hT hc cs st1 st' hok1 h hm1 ?_
      obtain ⟨U, m, h0, hU, _, hm0, hg0, rfl⟩ := stepC_at hs1
      unfold gtS getS at hg ⊢
      rw [Int.toNat_natCast, hT] at hg ⊢
      by_cases he : c.t.toNat = t
      · rw [he] at hU hm0
        rw [hT] at hU
        injection hU with hU
        subst hU
        have hlt : t < st.length := (List.getElem?_eq_some_iff.1 hm0).1
        rw [he, List.getElem?_set_self hlt]
        rw [hm0] at hg
        simp only at hg ⊢
        obtain ⟨x, hx⟩ := Option.isSome_iff_exists.1 hg
        have hxm := List.mem_of_find?_eq_some hx
        have hxk : cmpR (keyT T x) key = 0 := by simpa using List.find?_some hx
        have hxe := (cmpR_zero _ _).1 hxk
        have hk : cmpR (keyT T x) (keyC T c) ≠ 0 := fun e => by
          have e2 := (cmpR_zero _ _).1 e
          rw [← e2, hxe, hx] at hg0
          simp only [Option.getD_some] at hg0
          have hf := rowsB_fit _ none (tabsB_at _ _ _ _ m hok.tb hT hm0) x hxm
          have hne := fits_ne hc hf
          exact hm2 (by omega) (by show 0 < c.o.length; rw [← hg0]; omega) (by show cmpR (keyT T c.o) key = 0; rw [← hg0]; exact hxk)
        have hin : x ∈ putRw T (keyC T c) c.n m := putF_stays hk m _ hxm
        refine List.find?_isSome.2 ⟨x, hin, by simpa using hxk⟩
      · rw [List.getElem?_set_ne he]
        exact hg
/-- behind changes of a state without violations, those that the changes may have caused are all -/
theorem keeps_plain {ver : Int} {tbs : List Tb} {st st' : List (List Rw)} {cs : List Ch} (hg : GoodS ver tbs) (h0 : OkS tbs st) (hno : vioS (fun _ _ => true) (fun _ _ => true) tbs st = []) (h : appS tbs cs st = (0, st')) :
    vioS (memK tbs Ch.n cs) (memK tbs Ch.o cs) tbs st' = vioS (fun _ _ => true) (fun _ _ => true) tbs st' := by
  refine vTabs_congr _ _ _ fun k T l hT hl r hr => ?_
  rw [Int.zero_add]
  unfold vRow
  cases hw : memK tbs Ch.n cs k (keyT T r) with
  | true => rw [vRefs_eq (rm' := fun _ _ => true) T.refs 0 (fun x _ => .inr (by simp))]
  | false =>
    obtain ⟨l0, hl0, hr0⟩ := appS_stays hT cs st st' h hw l hl hr
    have hv := vTabs_nil _ _ _ hno k T l0 hT hl0 r hr0
    unfold vRow at hv
    rw [List.append_eq_nil_iff] at hv
    have hv1 := vRefs_nil _ _ hv.1
    have hv2 := vChks_nil _ _ hv.2
    rw [vChks_eq T.chks 0 hv2, vRefs_eq (rm' := fun _ _ => true) T.refs 0 fun x hx => ?_]
    have hR := hg.rf T (List.mem_of_getElem? hT) x hx
    obtain ⟨U, hU, _, _⟩ := hR.ex
    obtain ⟨u, hu⟩ := Int.eq_ofNat_of_zero_le hR.t0
    have hx1 := hv1 x hx
    rw [hu, Int.toNat_natCast] at hU
    rw [hu] at hx1 ⊢
    by_cases hm : memK tbs Ch.o cs u (cellsR r x.cols) = true
    · exact .inr (by rw [hm]; rfl)
    · have hGU := hg.tb U (List.mem_of_getElem? hU)
      exact .inl (appS_keeps hU (by have := hGU.k1; have := hGU.k2; omega) cs st st' h0 h (by simpa using hm) hx1)
end Go.Proofs.YtponkkljlbifmaaGreat

/-
  What the law's arguments are in memory, and that they read behind the call as before. No walk here.
-/
namespace Go.Proofs.YtponkkljlbifmaaGreat
open Go.ChangeShapes Go.WideShapes Go.ChangeAt Go.RowKit
set_option maxRecDepth 100000
open Go.ChangeMaps (open_string shut_string)

theorem own : ownKnob Tryz.prog.godebug = none := by kernel_rfl
theorem laidOut : laidOutB Tryz.prog = true := by kernel_rfl

section
variable {H : Type} {enc : TypeId × Value → H} {P : Program}
/-- the arguments read behind the call as before -/
theorem trodAll_below (hl : laidOutB P = true) {W W' : World} (hb : Below W.heap.size W W') : ∀ {ts : List TypeId} {vs : List Value} {ds : List (DataW H)} {ps : List MemPlace},
    (∀ t ∈ ts, P.readableRec t = true ∧ t < P.types.size) → DataW.TrodAll enc P W 0 (fun _ => true) true ts vs ds ps → (∀ x ∈ ps, x.block < W.heap.size) → DataW.TrodAll enc P W' 0 (fun b => decide (b < W.heap.size)) true ts vs ds ps
  | [], vs, ds, ps, _, h, _ => by
    obtain ⟨rfl, rfl, rfl⟩ := trodAll_nil h
    exact trodAll_mk0
  | t :: ts, vs, ds, ps, ht, h, hlt => by
    obtain ⟨v0, vs0, d0, ds0, p0, q0, rfl, rfl, rfl, h0, r0⟩ := trodAll_cons h
    have hr := ht t List.mem_cons_self
    exact trodAll_cons_mk (Below.trod hl hr.1 hr.2 h0 hb (fun x hx => hlt x (List.mem_append_left _ hx))) (trodAll_below hl hb (fun t h => ht t (List.mem_cons_of_mem _ h)) r0 (fun x hx => hlt x (List.mem_append_right _ hx)))
theorem okWide_slice_form {w : World} {r : Reach} {base : Nat} {t e : TypeId} {A : Option Addr} {n c : Nat} (ht : P.underlying t = some (.slice e)) (h : Value.okWide P w r base t (.slice A n c)) :
    (A = none → n = 0 ∧ c = 0) ∧ (∀ ad, A = some ad → ad.spot = none) ∧ n ≤ c ∧ c ≤ 9223372036854775807 := by
  simp only [Value.okWide, ht, Cell.okWide] at h
  cases A with
  | none =>
    unfold Cell.ok at h
    rw [ht] at h
    split at h <;> simp_all
  | some a =>
    unfold Cell.ok at h
    rw [ht] at h
    simp only at h
    obtain ⟨h1, h2, h3⟩ := h
    refine ⟨(fun h => by cases h), fun ad e => ?_, h1, ?_⟩
    · injection e with e
      rw [← e]
      exact h3.2.1
    · have : IntKind.i64.max = 9223372036854775807 := by decide
      omega
end

/-- a list of bytes as argument -/
theorem open_u8s {H : Type} {enc : TypeId × Value → H} {W : World} {base : Nat} {r : Reach} {b0 : Nat} {v : Value} {d : DataW H} {p : List MemPlace} (hv : Value.okWide Tryz.prog W r b0 22 v) (h : DataW.Trod enc Tryz.prog W base (fun _ => true) true 22 v d p) :
    ∃ (A : Option Addr) (n c : Nat) (zs : List Int), v = .slice A n c ∧ Sl 1 u8c W A n zs ∧ (∀ z ∈ zs, 0 ≤ z ∧ z ≤ 255) ∧ (A = none → n = 0 ∧ c = 0) ∧ (∀ ad, A = some ad → ad.spot = none) ∧ n ≤ c ∧ c ≤ 9223372036854775807 := by
  obtain ⟨A, n, c, rfl⟩ := okWide_slice Tryz.underlying22 hv
  obtain ⟨f1, f2, f3, f4⟩ := okWide_slice_form Tryz.underlying22 hv
  obtain ⟨fuel, hf⟩ := h
  have hf' : DataW.trod enc Tryz.prog W base (fun _ => true) true fuel 22 [.slice A n c] = some (d, p) := hf
  rcases open_ints Tryz.underlying22 Tryz.underlying5 (by kernel_rfl) hf' with ⟨h0, _⟩ | ⟨a, len, cap, zs, h0, hb, hl, hm, hzl, _, hc, hw⟩
  · injection h0 with h0
    injection h0 with e1 e2 e3
    subst e1 e2 e3
    exact ⟨none, 0, 0, [], rfl, Sl.nil, fun z hz => (by cases hz), fun _ => ⟨rfl, rfl⟩, fun ad e => (by cases e), Nat.le_refl _, by omega⟩
  · injection h0 with h0
    injection h0 with e1 e2 e3
    subst e1 e2 e3
    refine ⟨some a, n, c, zs.take n, rfl, ⟨?_, fun hn => ?_⟩, fun z hz => bounds_u8 (hw z (List.mem_of_mem_take hz)), f1, f2, f3, f4⟩
    · rw [List.length_take, hzl]; simp; omega
    · obtain ⟨b, o, sp⟩ := a
      obtain rfl : sp = none := f2 _ rfl
      refine ⟨b, o, rfl, fun k x hx j u hu => ?_⟩
      rw [List.getElem?_take] at hx
      split at hx
      · rename_i hk
        rcases j with _ | j
        · simp only [u8c, List.getElem?_cons_zero, Option.some.injEq] at hu
          subst hu
          have hkl := (List.getElem?_eq_some_iff.1 hx).1
          have := hc k hkl
          rw [add_at] at this
          rw [Nat.mul_one, Nat.add_zero, this, List.getD, hx]
          rfl
        · simp [u8c] at hu
      · cases hx
end Go.Proofs.YtponkkljlbifmaaGreat
