/-
  Texts: IgChP, IgRGet, Begun, Makes, Rep, OwnI.
-/
import Derived.Test.YtponkkljlbifmaaGreatG36
import Derived.RegionTactic
import Derived.BigRegion
set_option linter.unusedVariables false
/-
  Plain: a change as Case makes it fits the state; what Changes holds in memory.
-/
namespace Go.Proofs.YtponkkljlbifmaaGreat
open Go.RowKit
set_option maxRecDepth 100000
open Pd

theorem fitL_mix : ∀ (a b : Rw) (ks : List Int) (k : Nat), fitL a ks = true → fitL b ks = true → fitL (a.take k ++ b.drop k) ks = true
  | [], [], [], k, _, _ => by simp [fitL]
  | x :: a, y :: b, c :: ks, 0, _, h => by simpa using h
  | x :: a, y :: b, c :: ks, k + 1, h1, h2 => by
    simp only [fitL, Bool.and_eq_true] at h1 h2
    simp only [List.take_succ_cons, List.drop_succ_cons, List.cons_append, fitL, Bool.and_eq_true]
    exact ⟨h1.1, fitL_mix a b ks k h1.2 h2.2⟩
  | [], [], _ :: _, _, h, _ => by simp [fitL] at h
  | [], _ :: _, [], _, _, h => by simp [fitL] at h
  | [], _ :: _, _ :: _, _, h, _ => by simp [fitL] at h
  | _ :: _, _, [], _, h, _ => by simp [fitL] at h
  | _ :: _, [], _ :: _, _, _, h => by simp [fitL] at h
theorem fits_key {T : Tb} {a b : Rw} (h1 : fitsB T a = true) (h2 : fitsB T b = true) : fitsB T (keyT T a ++ b.drop (keyT T a).length) = true := by
  have hl : (keyT T a).length = min T.key.toNat a.length := keyT_len T a
  have h := fitL_mix a b T.kinds (keyT T a).length h1 h2
  have : a.take (keyT T a).length = keyT T a := by
    rw [hl]
    unfold keyT
    rw [← List.take_take, List.take_length]
  rw [this] at h
  exact h
theorem getT_key {T : Tb} {l : List Rw} {key r : Rw} (h : getT T l key = some r) : keyT T r = key := by
  have := List.find?_some h
  exact (cmpR_zero _ _).1 (by simpa using this)
theorem OkS.row8' {ver : Int} {tbs : List Tb} {st : List (List Rw)} (h : OkS tbs st) (hg : GoodS ver tbs) {k : Nat} {l : List Rw} (hl : st[k]? = some l) : ∀ x ∈ l, x.length ≤ 8 := fun x hx => by
  have hk : k < tbs.length := by rw [← h.ln]; exact (List.getElem?_eq_some_iff.1 hl).1
  have h1 := fitL_len (rowsB_fit _ none (tabsB_at _ _ _ _ l h.tb (List.getElem?_eq_getElem hk) hl) x hx)
  unfold Tb.kinds at h1
  rw [List.length_map] at h1
  have := (hg.tb _ (List.getElem_mem hk)).cl
  omega
/-- a change as Case makes it -/
theorem change_step {ver : Int} {tbs : List Tb} {st : List (List Rw)} (hok : OkS tbs st) (hg : GoodS ver tbs) {t : Nat} {T : Tb} {l : List Rw} (hT : tbs[t]? = some T) (hl : st[t]? = some l) {r nn : Rw} (hf : fitsB T r = true)
    (hnn : nn = r ∨ (nn = [] ∧ ¬ ((getT T l (keyT T r)).getD []).length = 0)) (hct : cntS st + 1 ≤ 512) :
    stepC tbs ⟨(t : Int), (getT T l (keyT T r)).getD [], nn⟩ st = (0, st.set t (putRw T (keyT T r) nn l)) ∧ cntS (st.set t (putRw T (keyT T r) nn l)) ≤ cntS st + 1 := by
  have hGT := hg.tb T (List.mem_of_getElem? hT)
  have hcl : 1 ≤ T.cols.length := by have := hGT.k1; have := hGT.k2; omega
  have hr0 := fits_ne hcl hf
  have hrows := tabsB_at _ _ _ T l hok.tb hT hl
  obtain ⟨o, ho⟩ : ∃ o, (getT T l (keyT T r)).getD [] = o := ⟨_, rfl⟩
  rw [ho] at hnn ⊢
  have ho2 : ¬ o.length = 0 → fitsB T o = true ∧ keyT T o = keyT T r := fun h0 => by
    cases hg2 : getT T l (keyT T r) with
    | none => rw [hg2] at ho; rw [← ho] at h0; exact absurd rfl h0
    | some x =>
      rw [hg2] at ho
      simp only [Option.getD_some] at ho
      subst ho
      exact ⟨rowsB_fit _ none hrows x (List.mem_of_find?_eq_some hg2), getT_key hg2⟩
  have hkey : keyC T ⟨(t : Int), o, nn⟩ = keyT T r := by
    unfold keyC
    show (if o.length = 0 then keyT T nn else keyT T o) = _
    by_cases h0 : o.length = 0
    · rw [if_pos h0]
      rcases hnn with h | ⟨_, h⟩
      · rw [h]
      · exact absurd h0 h
    · rw [if_neg h0]
      exact (ho2 h0).2
  have hval : validC tbs ⟨(t : Int), o, nn⟩ = true := by
    unfold validC tabC
    rw [if_pos (by show 0 ≤ (t : Int); omega)]
    show (match tbs[(t : Int).toNat]? with | none => false | some T => okC T ⟨(t : Int), o, nn⟩) = true
    rw [Int.toNat_natCast, hT]
    show okC T ⟨(t : Int), o, nn⟩ = true
    unfold okC
    simp only [Bool.and_eq_true, Bool.or_eq_true, Bool.not_eq_true', decide_eq_true_eq, Bool.and_eq_false_iff, decide_eq_false_iff_not]
    rcases hnn with h | ⟨h, h0⟩
    · subst h
      refine ⟨⟨⟨.inr hr0, ?_⟩, .inr hf⟩, ?_⟩
      · by_cases h0 : o.length = 0
        · exact .inl h0
        · exact .inr (ho2 h0).1
      · by_cases h0 : o.length = 0
        · exact .inl (.inl h0)
        · exact .inr (by rw [(ho2 h0).2, cmpR_self])
    · subst h
      exact ⟨⟨⟨.inl h0, .inr (ho2 h0).1⟩, .inl rfl⟩, .inl (.inr rfl)⟩
  have hcn := cntS_set st t l (putRw T (keyT T r) nn l) hl
  have hpl := putRw_len (T := T) (key := keyT T r) (row := nn) l
  refine ⟨?_, by omega⟩
  unfold stepC
  rw [if_neg (by rw [hval]; simp)]
  show (match tbs[(t : Int).toNat]?, st[(t : Int).toNat]? with | some T, some l => _ | _, _ => _) = _
  rw [Int.toNat_natCast, hT, hl]
  show (match listC T ⟨(t : Int), o, nn⟩ l with | none => _ | some m => _) = _
  have hlc : listC T ⟨(t : Int), o, nn⟩ l = some (putRw T (keyT T r) nn l) := by
    unfold listC
    rw [hkey, ho]
    exact if_pos rfl
  rw [hlc]
  show (if 512 < cntS (st.set t (putRw T (keyT T r) nn l)) then _ else _) = _
  rw [if_neg (by omega)]
theorem appS_snoc {tbs : List Tb} : ∀ (cs : List Ch) (st st1 st2 : List (List Rw)) (c : Ch), appS tbs cs st = (0, st1) → stepC tbs c st1 = (0, st2) → appS tbs (cs ++ [c]) st = (0, st2)
  | [], st, st1, st2, c, h1, h2 => by
    unfold appS at h1
    injection h1 with _ h1
    subst h1
    show (if (stepC tbs c st).1 ≠ 0 then stepC tbs c st else appS tbs [] (stepC tbs c st).2) = _
    rw [h2]
    rfl
  | d :: cs, st, st1, st2, c, h1, h2 => by
    have e1 : appS tbs (d :: cs) st = if (stepC tbs d st).1 ≠ 0 then stepC tbs d st else appS tbs cs (stepC tbs d st).2 := rfl
    have e2 : appS tbs ((d :: cs) ++ [c]) st = if (stepC tbs d st).1 ≠ 0 then stepC tbs d st else appS tbs (cs ++ [c]) (stepC tbs d st).2 := rfl
    rw [e1] at h1
    rw [e2]
    split at h1
    · rename_i h
      rw [h1] at h
      exact absurd rfl h
    · rename_i h
      rw [if_neg h]
      exact appS_snoc cs _ st1 st2 c h1 h2

theorem own_bne {w w' : World} {b base : Nat} {T e : TypeId} {cs : Array Value} {size n : Nat} {v : Value} {xs : List Value} (h : w.ownsRow base e size v n xs) (hb : Blk w b T cs) (hT : T ≠ e) (hbt : But (· = b) w w') : w'.ownsRow base e size v n xs := by
  refine own_at h (fun g _ hlt hv => hbt.block g hlt (fun e2 => ?_))
  subst e2
  rcases h.2 with ⟨hq, _⟩ | ⟨g1, cap1, cur1, hq, _, hh1, _⟩
  · rw [hq] at hv; simp [Value.ownBlock] at hv
  · rw [hq] at hv
    simp only [Value.ownBlock, Option.some.injEq] at hv
    subst hv
    unfold Blk at hb
    rw [hh1] at hb
    injection hb with hb
    injection hb with _ ht
    exact hT ht.symm
/-- what Changes holds: S: what may change under the state's lists -/
structure ChI (w w1 : World) (S : Nat → Prop) (g b n cb : Nat) (pad : List Value) (sc : Array Value) (wr : World) (ls : List TlP) (O : Option Addr) (cn oc : Nat) (es : List ChE) : Prop where
  st : StP S wr b n ls pad
  y : Blk wr (w.heap.size + 1) 25 #[.slice (some ⟨b, 0, none⟩) n cb]
  z : Blk wr w.heap.size 30 sc
  r : Blk wr (w.heap.size + 1 + 1) 25 #[.slice none 0 0]
  ca : CaseAt wr g
  bu : But (· = g) w wr
  hb : w1.heap.size ≤ b
  gl : g < w.heap.size
  s1 : w.heap.size + 1 + 1 < w1.heap.size
  sz : w1.heap.size ≤ wr.heap.size
  sb : S b
  slo : ∀ k, k < w1.heap.size → S k
  shi : ∀ k, S k → k < wr.heap.size
  sow : ∀ k, (Value.slice O cn oc).ownBlock = some k → S k
  own : wr.ownsRow w1.heap.size 91 3 (.slice O cn oc) cn (es.flatMap ChE.cs)
  len : es.length = cn
  rows : ∀ e ∈ es, OwnRow wr w1.heap.size (e.o, e.c.o) ∧ OwnRow wr w1.heap.size (e.n, e.c.n)
section
variable {w w1 wr w' : World} {S : Nat → Prop} {g b n cb : Nat} {pad : List Value} {sc : Array Value} {ls : List TlP} {O : Option Addr} {cn oc : Nat} {es : List ChE}
theorem ChI.case (h : ChI w w1 S g b n cb pad sc wr ls O cn oc es) (hc : CaseAt w' g) (hb : But (· = g) wr w') : ChI w w1 S g b n cb pad sc w' ls O cn oc es := by
  have h1 := h.gl
  have h2 := h.hb
  have h3 := h.s1
  refine ⟨h.st.but hb (fun k hk => by subst hk; exact h.slo _ (by omega)) (by omega), h.y.but hb (by omega), h.z.but hb (by omega), h.r.but hb (by omega), hc, h.bu.trans hb, h2, h1, h3, Nat.le_trans h.sz hb.size, h.sb, h.slo, fun k hk => Nat.lt_of_lt_of_le (h.shi k hk) hb.size, h.sow, own_at h.own (fun k hk hlt _ => hb.block k hlt (by omega)), h.len, fun e he => ?_⟩
  exact ⟨⟨own_at (h.rows e he).1.1 (fun k hk hlt _ => hb.block k hlt (by omega)), (h.rows e he).1.2⟩, ⟨own_at (h.rows e he).2.1 (fun k hk hlt _ => hb.block k hlt (by omega)), (h.rows e he).2.2⟩⟩
theorem ChI.below (h : ChI w w1 S g b n cb pad sc wr ls O cn oc es) (hb : Below wr.heap.size wr w') : ChI w w1 S g b n cb pad sc w' ls O cn oc es := h.case (h.ca.below hb) (But.ofB hb)
theorem ChI.put (h : ChI w w1 S g b n cb pad sc wr ls O cn oc es) (hb : But (· = b) wr w') {ls' : List TlP} (hs : StP S w' b n ls' pad) : ChI w w1 S g b n cb pad sc w' ls' O cn oc es := by
  have h1 := h.gl
  have h2 := h.hb
  have h3 := h.s1
  refine ⟨hs, h.y.but hb (by omega), h.z.but hb (by omega), h.r.but hb (by omega), h.ca.far hb (fun k e => by omega), ⟨hb.os.trans h.bu.os, hb.tape.trans h.bu.tape, hb.output.trans h.bu.output, Nat.le_trans h.bu.size hb.size, fun k hk hne => (hb.block k (Nat.lt_of_lt_of_le hk h.bu.size) (by omega)).trans (h.bu.block k hk hne)⟩, h2, h1, h3, Nat.le_trans h.sz hb.size, h.sb, h.slo, fun k hk => Nat.lt_of_lt_of_le (h.shi k hk) hb.size, h.sow, own_bne h.own h.st.blk (by decide) hb, h.len, fun e he => ?_⟩
  exact ⟨⟨own_bne (h.rows e he).1.1 h.st.blk (by decide) hb, (h.rows e he).1.2⟩, ⟨own_bne (h.rows e he).2.1 h.st.blk (by decide) hb, (h.rows e he).2.2⟩⟩
/-- the state's box is stored again -/
theorem ChI.again (h : ChI w w1 S g b n cb pad sc wr ls O cn oc es) : ChI w w1 S g b n cb pad sc (wr.setCell ⟨w.heap.size + 1, 0, none⟩ (.slice (some ⟨b, 0, none⟩) n cb)) ls O cn oc es := by
  have h1 := h.gl
  have h2 := h.hb
  have h3 := h.s1
  have hb : But (· = w.heap.size + 1) wr (wr.setCell ⟨w.heap.size + 1, 0, none⟩ (.slice (some ⟨b, 0, none⟩) n cb)) := But.set (S := (· = w.heap.size + 1)) wr (p := ⟨w.heap.size + 1, 0, none⟩) rfl _
  refine ⟨h.st.but hb (fun k hk => h.slo _ (by omega)) (by omega), ?_, h.z.but hb (by omega), h.r.but hb (by omega), h.ca.far hb (fun k e => by omega), ⟨hb.os.trans h.bu.os, hb.tape.trans h.bu.tape, hb.output.trans h.bu.output, Nat.le_trans h.bu.size hb.size, fun k hk hne => (hb.block k (Nat.lt_of_lt_of_le hk h.bu.size) (by omega)).trans (h.bu.block k hk hne)⟩, h2, h1, h3, Nat.le_trans h.sz hb.size, h.sb, h.slo, fun k hk => Nat.lt_of_lt_of_le (h.shi k hk) hb.size, h.sow, own_at h.own (fun k hk hlt _ => hb.block k hlt (by omega)), h.len, fun e he => ?_⟩
  · have := h.y.set_ 0 (.slice (some ⟨b, 0, none⟩) n cb)
    simpa using this
  · exact ⟨⟨own_at (h.rows e he).1.1 (fun k hk hlt _ => hb.block k hlt (by omega)), (h.rows e he).1.2⟩, ⟨own_at (h.rows e he).2.1 (fun k hk hlt _ => hb.block k hlt (by omega)), (h.rows e he).2.2⟩⟩
/-- a change is appended -/
theorem ChI.add (h : ChI w w1 S g b n cb pad sc wr ls O cn oc es) {e : ChE} (he1 : OwnRow wr w1.heap.size (e.o, e.c.o)) (he2 : OwnRow wr w1.heap.size (e.n, e.c.n)) {o : Obj} {g' cap : Nat} (ho : w'.ownsRow w1.heap.size 91 3 (.slice (some ⟨g', 0, none⟩) (cn + 1) cap) (cn + 1) (es.flatMap ChE.cs ++ ChE.cs e)) (hg : (wr.alloc o).grownBy w' (Value.slice O cn oc).ownBlock) (hB : Below w1.heap.size wr w') (hat : (Value.slice O cn oc).ownBlock = some g' ∨ g' = wr.heap.size + 1) (hlt : g' < w'.heap.size) :
    ChI w w1 (fun k => S k ∨ k = g') g b n cb pad sc w' ls (some ⟨g', 0, none⟩) (cn + 1) cap (es ++ [e]) := by
  have h1 := h.gl
  have h2 := h.hb
  have h3 := h.s1
  have hg2 := grown_of_alloc hg
  have hblk : ∀ k T cs, Blk wr k T cs → T ≠ 91 → Blk w' k T cs := fun k T cs hk hT => by
    refine (hg2.block k hk.lt (fun e2 => ?_)).trans hk
    rcases h.own.2 with ⟨hv, _⟩ | ⟨g1, cap1, cur1, hv, _, hh1, _⟩
    · rw [hv] at e2; simp [Value.ownBlock] at e2
    · rw [hv] at e2
      simp only [Value.ownBlock, Option.some.injEq] at e2
      subst e2
      unfold Blk at hk
      rw [hh1] at hk
      injection hk with hk
      injection hk with _ ht
      exact hT ht.symm
  have hcb : But (fun k => (Value.slice O cn oc).ownBlock = some k) wr w' := ⟨hg2.os, hg2.tape, hg2.output, hg2.size, fun k hk hne => hg2.block k hk (fun e2 => hne e2.symm)⟩
  refine ⟨⟨hblk _ _ _ h.st.blk (by decide), h.st.len, fun p hp w2 hw2 => h.st.ok p hp w2 ⟨hw2.os.trans hg2.os, hw2.tape.trans hg2.tape, hw2.output.trans hg2.output, Nat.le_trans hg2.size hw2.size, fun k hk hs => ?_⟩⟩, hblk _ _ _ h.y (by decide), hblk _ _ _ h.z (by decide), hblk _ _ _ h.r (by decide), ?_, ⟨hB.os.trans h.bu.os, hB.tape.trans h.bu.tape, hB.output.trans h.bu.output, Nat.le_trans h.bu.size hB.size, fun k hk hne => (hB.block k (by omega)).trans (h.bu.block k hk hne)⟩, h2, h1, h3, Nat.le_trans h.sz hB.size, .inl h.sb, fun k hk => .inl (h.slo k hk), fun k hk => ?_, fun k hk => ?_, by rw [List.flatMap_append]; simpa using ho, by rw [List.length_append, h.len]; rfl, fun y hy => ?_⟩
  · have hkg : k ≠ g' := fun e2 => by
      rcases hat with hat | hat
      · exact hs (h.sow k (by rw [hat, e2]))
      · omega
    rw [hw2.block k (Nat.lt_of_lt_of_le hk hg2.size) (fun e2 => e2.elim hs hkg)]
    exact hg2.block k hk (fun e2 => hs (h.sow k e2.symm))
  · obtain ⟨A, n', c', k', zs, hb1, hsl, hz, hn', hk', hlt'⟩ := h.ca.ex
    have hgw : g < wr.heap.size := h.ca.lt
    refine ⟨A, n', c', k', zs, (hB.block g (by omega)).trans hb1, ?_, hz, hn', hk', hlt'⟩
    refine ⟨hsl.1, fun hn => ?_⟩
    obtain ⟨b2, o2, e2, hc2⟩ := hsl.2 hn
    have hb2 := hlt' hn b2 o2 e2
    refine ⟨b2, o2, e2, fun i x hx j u hu => ?_⟩
    rw [hB.cell (p := ⟨b2, o2 + i * 1 + j, none⟩) (show b2 < w1.heap.size by omega)]
    exact hc2 i x hx j u hu
  · rcases hk with hk | hk
    · exact Nat.lt_of_lt_of_le (h.shi k hk) hB.size
    · omega
  · simp only [Value.ownBlock, Option.some.injEq] at hk
    exact .inr hk.symm
  · have hy2 : OwnRow wr w1.heap.size (y.o, y.c.o) ∧ OwnRow wr w1.heap.size (y.n, y.c.n) := by
      rcases List.mem_append.1 hy with hy | hy
      · exact h.rows y hy
      · rw [List.mem_singleton.1 hy]; exact ⟨he1, he2⟩
    exact ⟨⟨own_type hy2.1.1 h.own (by decide) hg2, hy2.1.2⟩, ⟨own_type hy2.2.1 h.own (by decide) hg2, hy2.2.2⟩⟩
theorem one_ch (x : ChE) : ∀ u ∈ ChE.cs x, u.oneCell' = true := by simp [ChE.cs, Value.oneCell']
end
/-- the result's box is written -/
theorem ChI.fin {w w1 wr : World} {S : Nat → Prop} {g b n cb : Nat} {pad : List Value} {sc : Array Value} {ls : List TlP} {O : Option Addr} {cn oc : Nat} {es : List ChE} (h : ChI w w1 S g b n cb pad sc wr ls O cn oc es) (u : Value) :
    ChsS (wr.setCell ⟨w.heap.size + 1 + 1, 0, none⟩ u) O cn es ∧ StS (wr.setCell ⟨w.heap.size + 1 + 1, 0, none⟩ u) (some ⟨b, 0, none⟩) n ls ∧ CaseAt (wr.setCell ⟨w.heap.size + 1 + 1, 0, none⟩ u) g ∧ But (· = g) w (wr.setCell ⟨w.heap.size + 1 + 1, 0, none⟩ u) ∧ (wr.setCell ⟨w.heap.size + 1 + 1, 0, none⟩ u).cell? ⟨w.heap.size + 1 + 1, 0, none⟩ = some u := by
  have hb : But (· = w.heap.size + 1 + 1) wr (wr.setCell ⟨w.heap.size + 1 + 1, 0, none⟩ u) := But.set (S := (· = w.heap.size + 1 + 1)) wr (p := ⟨w.heap.size + 1 + 1, 0, none⟩) rfl _
  have h1 := h.gl
  have h2 := h.hb
  have h3 := h.s1
  have hos : ∀ q c, OwnRow wr w1.heap.size (q, c) → OwnRow (wr.setCell ⟨w.heap.size + 1 + 1, 0, none⟩ u) w1.heap.size (q, c) := fun q c ho => ⟨own_bne ho.1 h.r (by decide) hb, ho.2⟩
  refine ⟨⟨Sl.of_own ChE.cs_len h.len (own_bne h.own h.r (by decide) hb), fun e he => ⟨(hos _ _ (h.rows e he).1).ok, (hos _ _ (h.rows e he).2).ok⟩⟩, (h.st.but hb (fun k hk => h.slo k (by omega)) (by omega)).st, h.ca.far hb (fun k e => by omega), ⟨hb.os.trans h.bu.os, hb.tape.trans h.bu.tape, hb.output.trans h.bu.output, Nat.le_trans h.bu.size hb.size, fun k hk hne => (hb.block k (Nat.lt_of_lt_of_le hk h.bu.size) (by omega)).trans (h.bu.block k hk hne)⟩, ?_⟩
  have := (h.r.set_ 0 u).cell 0
  simpa using this
/-- one more change, after all that were -/
theorem chP_step {tbs : List Tb} {es : List ChE} {st0 st st1 st2 : List (List Rw)} {cn : Nat} {t : Int} {o o' nn : Rw} {p q : Hd} (hp : appS tbs (es.map (·.c)) st0 = (0, st) ∧ OkS tbs st ∧ cntS st ≤ cntS st0 + cn) (ho : o' = o) (hs : stepC tbs ⟨t, o', nn⟩ st = (0, st1) ∧ cntS st1 ≤ cntS st + 1) (he : st2 = st1) :
    appS tbs ((es ++ ([⟨⟨t, o, nn⟩, p, q⟩] : List ChE)).map (·.c)) st0 = (0, st2) ∧ OkS tbs st2 ∧ cntS st2 ≤ cntS st0 + (cn + 1) := by
  subst ho he
  obtain ⟨h1, h2, h3⟩ := hp
  obtain ⟨s1, s2⟩ := hs
  have s3 := stepC_ok h2 (c := ⟨t, o', nn⟩) (by rw [s1])
  rw [s1] at s3
  refine ⟨?_, s3, by omega⟩
  rw [List.map_append]
  exact appS_snoc _ _ _ _ _ h1 s1
end Go.Proofs.YtponkkljlbifmaaGreat

/-
  The reference's find and Get of the row with a key.
-/
namespace Go.Proofs.YtponkkljlbifmaaGreat
open Go.RowKit
set_option maxRecDepth 100000
open Pd

/-- where the first row with a key stands -/
def FindO (T : Tb) (l : List Rw) (key : Rw) (w : World) (e : Ending) (w' : World) : Prop :=
  ((∃ (j : Nat) (r : Rw), e = .returned (.int .i64 (j : Int)) ∧ l[j]? = some r ∧ getT T l key = some r) ∨ (e = .returned (.int .i64 (-1)) ∧ getT T l key = none)) ∧ Below w.heap.size w w'
set_option maxHeartbeats 4000000 in
theorem rfind_any (ver : Int) (A : Option Addr) (n c : Nat) (tbs : List Tb) (B : Option Addr) (m cb : Nat) (ls : List TlP) (t : Nat) (T : Tb) (pl : TlP) (K : Option Addr) (kn kc : Nat) (key : Rw) (w : World) (hs : ScS w A n tbs) (hn : n ≤ 8) (hT : tbs[t]? = some T) (h0 : 0 ≤ T.key) (h8 : T.key ≤ 8) (hst : StS w B m ls) (hl : ls[t]? = some pl) (hk : RowOk w ((K, kn, kc), key)) :
    Calls Tryz.prog 66 #[.agg #[.int .i64 ver, .slice A n c], .agg #[.slice B m cb], .int .i64 (t : Int), .slice K kn kc] w fun e w' => FindO T (tlR pl) key w e w' := by
  have ht : t < n := by rw [← hs.len]; exact (List.getElem?_eq_some_iff.1 hT).1
  have htm : t < m := by rw [← hst.sl.len]; exact (List.getElem?_eq_some_iff.1 hl).1
  have g0 : decide ((t : Int) < 0) = false := by simp
  have g1 : decide (n ≤ t) = false := by simp; omega
  have g2 : decide (m ≤ t) = false := by simp; omega
  have HB : Hid (Below w.heap.size w ((w.alloc (.cells #[.int .i64 ver, .slice A n c] 30)).alloc (.cells #[.slice B m cb] 25))) := Lib.hid (((Below.refl _ _).alloc (Nat.le_refl _) _).alloc (by simp) _)
  have HS := Lib.hid (hs.keep (keeps_of HB.out))
  have HST := Lib.hid (hst.keep (keeps_of HB.out))
  have HK := Lib.hid (hk.keep (keeps_of HB.out))
  have HZ := Lib.hid ((Blk.new w 30 #[.int .i64 ver, .slice A n c]).alloc (.cells #[.slice B m cb] 25))
  have HY := Lib.hid (Blk.new (w.alloc (.cells #[.int .i64 ver, .slice A n c] 30)) 25 #[.slice B m cb])
  rw [World.size_alloc] at HY
  have Hl := Lib.hid hl
  have HT := Lib.hid hT
  clear hs hst hk hl hT
  go_enter Tryz.func66, Tryz.ntmps66
  go_upto_region 1 with fail
  generalize hW : (w.alloc (.cells #[.int .i64 ver, .slice A n c] 30)).alloc (.cells #[.slice B m cb] 25) = w1 at *
  have z := HZ.out.cell
  have zy := HY.out.cell
  obtain ⟨b, o, ⟨⟨L, ln, lc⟩, ps⟩, rfl, hl2, hok, c0⟩ := HST.out.at htm
  obtain rfl : pl = ((L, ln, lc), ps) := by have := Hl.out; rw [hl2] at this; injection this with this; exact this.symm
  dsimp only at c0
  have HR := Lib.hid hok.rd
  have Hf : Hid (getT T ((tlR ((L, ln, lc), ps)).drop 0) key = getT T (tlR ((L, ln, lc), ps)) key) := Lib.hid rfl
  have Hlen := Lib.hid hok.len
  dsimp only at HR Hlen
  obtain ⟨rr, Hrr⟩ : ∃ z, Hid (getT T (tlR ((L, ln, lc), ps)) key = z) := ⟨_, Lib.hid rfl⟩
  rw [Hrr.out] at Hf
  have hlm : ln ≤ 9223372036854775807 := Nat.le_trans hok.le hok.mx
  clear hl2 hok
  go_wp2_with fail
  clear z zy c0
  go_loopw [33] (fun i wr => ∃ k : Nat, k ≤ ln ∧ i = .int .i64 (k : Int) ∧ Hid (getT T ((tlR ((L, ln, lc), ps)).drop k) key = rr) ∧ Hid (Below w1.heap.size w1 wr)) (fun i _ => ln - (intOf i).toNat)
  case atStart => exact ⟨0, by omega, rfl, Hf, Lib.hid (Below.refl _ _)⟩
  case round =>
    obtain ⟨k, hk, rfl, Hq, HBr⟩ := hrel
    have z := (HZ.out.below HBr.out).cell
    by_cases hlt : k < ln
    · obtain ⟨b2, o2, ⟨⟨R, rn, rc⟩, r⟩, rfl, c1, hro, hp⟩ := (HR.out.keep (keeps_of HBr.out)).get2 hlt
      dsimp only at c1
      have Hst := Lib.hid (getT_step (tlR_at hp) Hq.out)
      have Hp : Hid ((tlR ((some ⟨b2, o2, none⟩, ln, lc), ps))[k]? = some r) := Lib.hid (tlR_at hp)
      have HRO := Lib.hid hro
      clear hro hp Hq
      go_wp2_with fail
      refine (rkey_any ver A n c tbs t T R rn rc r _ (HS.out.keep (keeps_of HBr.out)) hn HT.out h0 h8 HRO.out).mono ?_
      rintro e w2 ⟨QA, qc, rfl, hqo, hb2⟩
      have HB2 := Lib.hid (Below.next HBr.out hb2)
      have HQ := Lib.hid hqo.ok
      clear z hb2 hqo HBr c1 HRO
      go_wp2_with fail
      refine (rcomp_rw QA _ qc (keyT T r) K kn kc key _ HQ.out (HK.out.keep (keeps_of HB2.out))).mono ?_
      rintro e w3 ⟨rfl, hb3⟩
      have HB3 := Lib.hid (Below.next HB2.out hb3)
      clear hb3 HB2 HQ
      by_cases hc : cmpR (keyT T r) key = 0
      · have Hs2 := Hst.out
        rw [if_pos hc] at Hs2
        rw [hc]
        have HE : Hid (FindO T (tlR ((some ⟨b2, o2, none⟩, ln, lc), ps)) key w (.returned (.int .i64 (k : Int))) w3) := Lib.hid ⟨.inl ⟨k, r, rfl, Hp.out, by rw [Hrr.out, ← Hs2]⟩, HB.out.trans (HB3.out.mono HB.out.size)⟩
        clear hc Hs2
        go_wp2
        go_ret
        exact HE.out
      · have g3 : (cmpR (keyT T r) key == 0) = false := by simp [hc]
        have Hs2 := Lib.hid Hst.out
        rw [if_neg hc] at Hs2
        generalize cmpR (keyT T r) key = cc at *
        clear hc
        go_wp2
        go_roundw
        case rel => exact ⟨k + 1, by omega, by go_num, Hs2, HB3⟩
        case measure => simp [intOf]; omega
    · obtain rfl : k = ln := by omega
      have hf : rr = none := by
        rw [← Hq.out, List.drop_of_length_le (by rw [Hlen.out]; exact Nat.le_refl _)]
        rfl
      have HE : Hid (FindO T (tlR ((L, k, lc), ps)) key w (.returned (.int .i64 (-1))) wr) := Lib.hid ⟨.inr ⟨rfl, by rw [Hrr.out, hf]⟩, HB.out.trans (HBr.out.mono HB.out.size)⟩
      clear z hf
      go_wp2
      go_ret
      exact HE.out
/-- a copy of the row with a key -/
def RGetO (T : Tb) (l : List Rw) (key : Rw) (w : World) (e : Ending) (w' : World) : Prop :=
  ((∃ (r : Rw) (R : Option Addr) (rc : Nat), e = .returned (.tuple #[.slice R r.length rc, .bool true]) ∧ getT T l key = some r ∧ OwnRow w' w.heap.size ((R, r.length, rc), r)) ∨ (e = .returned (.tuple #[.slice none 0 0, .bool false]) ∧ getT T l key = none)) ∧ Below w.heap.size w w'
set_option maxHeartbeats 4000000 in
theorem rget_any (ver : Int) (A : Option Addr) (n c : Nat) (tbs : List Tb) (B : Option Addr) (m cb : Nat) (ls : List TlP) (t : Nat) (T : Tb) (pl : TlP) (K : Option Addr) (kn kc : Nat) (key : Rw) (w : World) (hs : ScS w A n tbs) (hn : n ≤ 8) (hT : tbs[t]? = some T) (h0 : 0 ≤ T.key) (hk8 : T.key ≤ 8) (hst : StS w B m ls) (hl : ls[t]? = some pl) (hk : RowOk w ((K, kn, kc), key)) (h8 : ∀ r ∈ tlR pl, r.length ≤ 1000) :
    Calls Tryz.prog 37 #[.agg #[.int .i64 ver, .slice A n c], .agg #[.slice B m cb], .int .i64 (t : Int), .slice K kn kc] w fun e w' => RGetO T (tlR pl) key w e w' := by
  have htm : t < m := by rw [← hst.sl.len]; exact (List.getElem?_eq_some_iff.1 hl).1
  have HB : Hid (Below w.heap.size w ((w.alloc (.cells #[.int .i64 ver, .slice A n c] 30)).alloc (.cells #[.slice B m cb] 25))) := Lib.hid (((Below.refl _ _).alloc (Nat.le_refl _) _).alloc (by simp) _)
  have HS := Lib.hid (hs.keep (keeps_of HB.out))
  have HST := Lib.hid (hst.keep (keeps_of HB.out))
  have HK := Lib.hid (hk.keep (keeps_of HB.out))
  have HY := Lib.hid (Blk.new (w.alloc (.cells #[.int .i64 ver, .slice A n c] 30)) 25 #[.slice B m cb])
  rw [World.size_alloc] at HY
  have Hl := Lib.hid hl
  have HT := Lib.hid hT
  clear hs hst hk hl hT
  go_enter Tryz.func37, Tryz.ntmps37
  go_wp2_with fail
  refine (rfind_any ver A n c tbs B m cb ls t T pl K kn kc key _ HS.out hn HT.out h0 hk8 HST.out Hl.out HK.out).mono ?_
  rintro e w1 ⟨⟨j, r, rfl, hj, hg⟩ | ⟨rfl, hg⟩, hb1⟩
  · have HB1 := Lib.hid (Below.next HB.out hb1)
    have HY1 := Lib.hid (HY.out.below hb1)
    obtain ⟨b, o, ⟨⟨L, ln, lc⟩, ps⟩, rfl, hl2, hok, c0⟩ := (HST.out.keep (keeps_of hb1)).at htm
    obtain rfl : pl = ((L, ln, lc), ps) := by have := Hl.out; rw [hl2] at this; injection this with this; exact this.symm
    dsimp only at c0
    have hjl : j < ln := by
      have h1 := (List.getElem?_eq_some_iff.1 hj).1
      have h2 := hok.len
      dsimp only at h2
      omega
    obtain ⟨b2, o2, ⟨⟨R, rn, rc⟩, r'⟩, rfl, c1, hro, hp⟩ := hok.rd.get2 hjl
    obtain rfl : r' = r := by have : (tlR ((some ⟨b2, o2, none⟩, ln, lc), ps))[j]? = some r' := tlR_at hp; rw [hj] at this; injection this with this; exact this.symm
    dsimp only at c1
    have HRO := Lib.hid hro
    have hrn : rn = r'.length := hro.rd.len.symm
    have hr8 := h8 r' (List.mem_of_getElem? hj)
    have Hg := Lib.hid hg
    have zy := HY1.out.cell
    subst hrn
    have gj : decide ((j : Int) < 0) = false := by simp
    clear hl2 hok hj hg hro hp hb1
    go_wp2_with fail
    refine (copy_any ((R, r'.length, rc), r') _ HRO.out (by show r'.length ≤ _; omega)).mono ?_
    rintro e w2 ⟨A', c', rfl, hown, hb2⟩
    have hsz : w.heap.size ≤ w1.heap.size := HB1.out.size
    have HE : Hid (RGetO T (tlR ((some ⟨b2, o2, none⟩, ln, lc), ps)) key w (.returned (.tuple #[.slice A' r'.length c', .bool true])) w2) := Lib.hid ⟨.inl ⟨r', A', c', rfl, Hg.out, ⟨own_weaken hown hsz, rfl⟩⟩, Below.next HB1.out hb2⟩
    clear hown hb2 c0 c1 zy
    dsimp only
    go_wp2
    exact bodyPost_ret (v := .tuple #[.slice A' r'.length c', .bool true]) (by simp [results, Tryz.results37, go_sem]) rfl HE.out
  · have HE : Hid (RGetO T (tlR pl) key w (.returned (.tuple #[.slice none 0 0, .bool false])) w1) := Lib.hid ⟨.inr ⟨rfl, hg⟩, Below.next HB.out hb1⟩
    clear hg hb1
    go_wp2
    exact bodyPost_ret (v := .tuple #[.slice none 0 0, .bool false]) (by simp [results, Tryz.results37, go_sem]) rfl HE.out
end Go.Proofs.YtponkkljlbifmaaGreat

namespace Go.Proofs.YtponkkljlbifmaaGreat
open Go.RowKit
set_option maxRecDepth 100000

def vn (i : Int) : Vl := ⟨4, i, ⟨#[]⟩⟩
end Go.Proofs.YtponkkljlbifmaaGreat

namespace Go.Proofs.YtponkkljlbifmaaGreat
open Go.RowKit
set_option maxRecDepth 100000

theorem CaseAt.drew {w : World} {g : Nat} (h : CaseAt w g) : CaseAt w.drew g := h.below ((Below.refl _ _).drew)
end Go.Proofs.YtponkkljlbifmaaGreat

/-
  Lists that stand for sets of values; the law's own and, or, not; two lists that are the same.
-/
namespace Go.Proofs.YtponkkljlbifmaaGreat
open Go.RowKit
set_option maxRecDepth 100000

/-- l is canonical, has at most m points, and contains the valid values of f -/
structure Rep (l : List Iv) (f : Vl → Bool) (m : Nat) : Prop where
  good : Good l m
  eq : ∀ v, validV v = true → inL l v = f v
theorem comb_good {op : Bool → Bool → Bool} {a b : List Iv} {m n : Nat} (ha : Good a m) (hb : Good b n) (hop : op false false = false) (hmn : m + n ≤ 127) : combineL op a b = (mergeL op a b, 0) := by
  have hg := ha.merge hb hop
  have hl := hg.len
  unfold combineL
  rw [ha.valid (by omega), hb.valid (by omega)]
  simp only [Bool.and_self, if_true]
  rw [if_pos (by omega)]
theorem Rep.op {o : Bool → Bool → Bool} {a b : List Iv} {f g : Vl → Bool} {m n : Nat} (ha : Rep a f m) (hb : Rep b g n) (hop : o false false = false) (hmn : m + n ≤ 127) : Rep (combineL o a b).1 (fun v => o (f v) (g v)) (m + n) := by
  rw [comb_good ha.good hb.good hop hmn]
  refine ⟨ha.good.merge hb.good hop, fun v hv => ?_⟩
  show inL (mergeL o a b) v = _
  rw [(merge_spec o hop ha.good.ord hb.good.ord).2.2 v, ha.eq v hv, hb.eq v hv]
theorem Rep.err {o : Bool → Bool → Bool} {a b : List Iv} {f g : Vl → Bool} {m n : Nat} (ha : Rep a f m) (hb : Rep b g n) (hop : o false false = false) (hmn : m + n ≤ 127) : (combineL o a b).2 = 0 := by
  rw [comb_good ha.good hb.good hop hmn]
theorem Rep.ext {a b : List Iv} {f g : Vl → Bool} {m n : Nat} (ha : Rep a f m) (hb : Rep b g n) (h : ∀ v, f v = g v) : a = b :=
  ord_ext ha.good.ord hb.good.ord fun v hv => by rw [ha.eq v hv, hb.eq v hv, h v]
theorem all_le (v : Vl) (hv : validV v = true) : inL allL v = true := by
  have h : cmpV ⟨1, 0, ⟨#[]⟩⟩ v ≤ 0 := by
    rcases valid_eq hv with ⟨a1, a2, a3⟩ | ⟨a1, a2, a3⟩ | ⟨a1, a2, a3⟩ | ⟨a1, a3⟩ | ⟨a1, a2, a3⟩
    · rw [cmpV_text a1.symm a2.symm]; exact nil_le _
    all_goals (rw [cmpV_kind (by simp only; omega)]; omega)
  simp [allL, inL, inI, h]
theorem Rep.all : Rep allL (fun _ => true) 1 := ⟨good_all, all_le⟩
theorem Rep.none : Rep [] (fun _ => false) 0 := ⟨Good.nil 0, fun _ _ => rfl⟩
theorem Rep.empty {l : List Iv} {f : Vl → Bool} {m : Nat} (h : Rep l f m) (hf : ∀ v, f v = false) : l = [] := h.ext Rep.none hf
theorem Rep.len {l : List Iv} {f : Vl → Bool} {m : Nat} (h : Rep l f m) (hm : m ≤ 1000) : l.length ≤ 1000000 := by
  have := h.good.len
  omega
end Go.Proofs.YtponkkljlbifmaaGreat

namespace Go.Proofs.YtponkkljlbifmaaGreat
open Go.RowKit
set_option maxRecDepth 100000

theorem IvAt.drew {w : World} {b p : Nat} {x : Iv} (h : IvAt w b p x) : IvAt w.drew b p x := ⟨h.c0, h.c1, h.c2, h.c3, h.c4, h.c5, h.c6⟩
theorem CaseAt.belowB {w w' : World} {g B : Nat} (h : CaseAt w g) (hb : Below B w w') (hB : g < B) : CaseAt w' g :=
  h.far (S := fun b => B ≤ b) ⟨hb.os, hb.tape, hb.output, hb.size, fun k _ hk => hb.block k (by simpa using hk)⟩ (fun b hb => by omega)
theorem But.belowB {S : Nat → Prop} {w0 w w' : World} {B : Nat} (h : But S w0 w) (hb : Below B w w') (hB : w0.heap.size ≤ B) : But S w0 w' :=
  ⟨hb.os.trans h.os, hb.tape.trans h.tape, hb.output.trans h.output, Nat.le_trans h.size hb.size, fun k hk hs => (hb.block k (by omega)).trans (h.block k hk hs)⟩
end Go.Proofs.YtponkkljlbifmaaGreat
