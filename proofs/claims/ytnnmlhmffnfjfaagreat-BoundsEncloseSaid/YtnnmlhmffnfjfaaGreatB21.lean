/-
  Texts: RegionI, RegionN, PdD, PdO, EqF, PdR, RegionB, CRegion, GCols, Pds4, TwoApp.
-/
import Derived.Test.YtnnmlhmffnfjfaaGreatB20
import Derived.Laws.EntriesVeiled
set_option linter.unusedVariables false
set_option maxRecDepth 100000
namespace Go.Proofs.YtnnmlhmffnfjfaaGreat
open Go.RowKit
def tmI (a : Act) : Nat → Value := fun d => a.tmps.getD d undef
def updD (d : Nat → Bool) (e : Nat) : Nat → Bool := fun j => if j = e then true else d j
theorem updD_self (d : Nat → Bool) (e : Nat) : updD d e e = true := by simp [updD]
theorem updD_ne {d : Nat → Bool} {e j : Nat} (h : j ≠ e) : updD d e j = d j := by simp [updD, h]
section
variable {P : Program} {ops : Array Oper} {Q : Exit → Act → World → Prop} {R : World → World → Prop} {D : List Nat} {I : (Nat → Bool) → (Nat → Value) → World → Prop} {a1 : Act}
def stepsI (R : World → World → Prop) (P : Program) (ops : Array Oper) (Q : Exit → Act → World → Prop) (a1 : Act) (D : List Nat) (I : (Nat → Bool) → (Nat → Value) → World → Prop) (es : List Nat) : List Nat → Prop
 | [] => True
 | e :: r => (∀ d us w, d e = false → (∀ j, j ∈ es → reach ops ops.size e j = true → d j = true) → I d us w →
     wpList P ops (Exit.then (fun a' w' => (R w w' ∧ I (updD d e) (tmI a') w') ∧ a' = overU a1 D (tmI a')) Q) [opAt ops e] (overU a1 D us) w) ∧ stepsI R P ops Q a1 D I es r
theorem steps_mem {es : List Nat} : ∀ {r : List Nat}, stepsI R P ops Q a1 D I es r → ∀ e ∈ r, ∀ d us w, d e = false → (∀ j, j ∈ es → reach ops ops.size e j = true → d j = true) → I d us w →
 wpList P ops (Exit.then (fun a' w' => (R w w' ∧ I (updD d e) (tmI a') w') ∧ a' = overU a1 D (tmI a')) Q) [opAt ops e] (overU a1 D us) w
 | [], _, e, he => by cases he
 | x :: r, h, e, he => by
   rcases List.mem_cons.1 he with rfl | he
   · exact h.1
   · exact steps_mem h.2 e he
def backB (ops : Array Oper) : Bool := (List.range ops.size).all fun i => (opAt ops i).after.all fun x => !Region.binds .any x || decide (x.on < i)
theorem ready_least (hb : backB ops = true) {listed : Array Bool} (hr : Region.ready .any ops listed = []) (hs : listed.size = ops.size) : ∀ n i, i < n → i < ops.size → listed.getD i false = true := by
 intro n
 induction n with
 | zero => intro i hi; omega
 | succ n ih =>
   intro i hi hlt
   by_cases h : listed.getD i false = true
   · exact h
   · exfalso
     have hm : i ∈ Region.ready .any ops listed := by
      refine mem_ready.2 ⟨?_, opAt ops i, at_of_lt hlt, fun e he hbd => ?_⟩
      · have h1 : i < listed.size := by omega
        rw [Array.getD_eq_getD_getElem?, Array.getElem?_eq_getElem h1] at h ⊢
        simpa using h
      · have h1 := List.all_eq_true.1 hb i (List.mem_range.2 hlt)
        have h2 := Array.all_eq_true_iff_forall_mem.1 h1 e he
        rw [hbd] at h2
        simp only [Bool.not_true, Bool.false_or, decide_eq_true_eq] at h2
        exact ih e.on (by omega) (by omega)
     rw [hr] at hm
     cases hm
theorem size_set {listed : Array Bool} {i : Nat} (h : listed.size = ops.size) : (listed.setIfInBounds i true).size = ops.size := by simp [h]
def undone (d : Nat → Bool) (es : List Nat) : Nat := (es.filter fun e => !d e).length
theorem undone_upd {d : Nat → Bool} {e : Nat} : ∀ {es : List Nat}, es.Nodup → e ∈ es → d e = false → undone (updD d e) es + 1 = undone d es
 | [], _, h, _ => by cases h
 | x :: r, hn, h, hd => by
   have hn' := List.nodup_cons.1 hn
   by_cases hx : x = e
   · subst hx
     have h1 : undone (updD d x) r = undone d r := by
      unfold undone
      congr 1
      refine List.filter_congr fun y hy => ?_
      rw [updD_ne (fun h5 => hn'.1 (by rw [← h5]; exact hy))]
     have h2 : undone (updD d x) (x :: r) = undone (updD d x) r := by unfold undone; simp [updD_self]
     have h3 : undone d (x :: r) = undone d r + 1 := by unfold undone; simp [hd]
     omega
   · have he : e ∈ r := by
      rcases List.mem_cons.1 h with h | h
      · exact absurd h.symm hx
      · exact h
     have ih := undone_upd hn'.2 he hd
     have h2 : undone (updD d e) (x :: r) = undone (updD d e) r + (if d x = false then 1 else 0) := by
      unfold undone
      rw [List.filter_cons, updD_ne hx]
      cases d x <;> simp
     have h3 : undone d (x :: r) = undone d r + (if d x = false then 1 else 0) := by
      unfold undone
      rw [List.filter_cons]
      cases d x <;> simp
     omega
theorem undone_zero {d : Nat → Bool} {es : List Nat} (h : undone d es = 0) : ∀ e ∈ es, d e = true := fun e he => by
 unfold undone at h
 cases hd : d e
 · have : e ∈ es.filter fun e => !d e := List.mem_filter.2 ⟨he, by simp [hd]⟩
   rw [List.eq_nil_of_length_eq_zero h] at this
   cases this
 · rfl
def Goes (ops : Array Oper) (l0 : Array Bool) (es : List Nat) (d : Nat → Bool) (listed : Array Bool) : Prop := listed.size = ops.size ∧ ∀ i, i < ops.size → (listed.getD i false = true ↔ l0.getD i false = true ∨ (i ∈ es ∧ d i = true))
theorem inv_any (hb : backB ops = true) {l0 : Array Bool} {es : List Nat} (hes : es.Nodup) (hlt : ∀ e ∈ es, e < ops.size ∧ l0.getD e false = false) (hcov : ∀ i, i < ops.size → l0.getD i false = true ∨ i ∈ es)
 (hst : stepsI R P ops Q a1 D I es es) (hend : ∀ d us w, (∀ e ∈ es, d e = true) → I d us w → Q .normal (overU a1 D us) w) :
 ∀ (fuel : Nat) (d : Nat → Bool) (listed : Array Bool) (us : Nat → Value) (w : World), Goes ops l0 es d listed → Closed ops listed → undone d es = fuel → I d us w → wpAnyR [] R R P .any ops Q fuel listed (overU a1 D us) w
 | 0, d, listed, us, w, hg, hcl, hu, hI => by
   have hall := undone_zero hu
   refine ⟨?_, hend d us w hall hI⟩
   unfold Region.ready
   rw [List.filter_eq_nil_iff]
   intro i hi
   have hi := List.mem_range.1 hi
   have h1 : listed.getD i true = true := getD_ft ((hg.2 i hi).2 (by
    rcases hcov i hi with h | h
    · exact .inl h
    · exact .inr ⟨h, hall i h⟩))
   simp [h1]
 | fuel + 1, d, listed, us, w, hg, hcl, hu, hI => by
   refine ⟨fun hr => ?_, fun i hi => ?_⟩
   · have h1 := ready_least hb hr hg.1
     refine hend d us w (fun e he => ?_) hI
     have h2 := h1 (e + 1) e (by omega) (hlt e he).1
     rcases (hg.2 e (hlt e he).1).1 h2 with h | h
     · rw [(hlt e he).2] at h; cases h
     · exact h.2
   · obtain ⟨hun, oj, hoj, hall⟩ := mem_ready.1 hi
     have hilt : i < ops.size := (Array.getElem?_eq_some_iff.1 hoj).1
     have hnl : listed.getD i false = false := getD_tf hun
     have hie : i ∈ es := by
      rcases hcov i hilt with h | h
      · rw [(hg.2 i hilt).2 (.inl h)] at hnl; cases hnl
      · exact h
     have hdi : d i = false := by
      cases hd : d i
      · rfl
      · rw [(hg.2 i hilt).2 (.inr ⟨hie, hd⟩)] at hnl; cases hnl
     have hdeps : ∀ j, j ∈ es → reach ops ops.size i j = true → d j = true := fun j hj hre => by
      have h1 := reach_closed hcl ops.size i j hre oj hoj hall
      rcases (hg.2 j (hlt j hj).1).1 h1 with h | h
      · rw [(hlt j hj).2] at h; cases h
      · exact h.2
     have h1 := op_of_list (at_of_lt hilt) (steps_mem hst i hie d us w hdi hdeps hI)
     refine wpOp_mono (fun a' w' h2 => ⟨⟨fun _ => .inr h2.1.1, .inr h2.1.1⟩, ?_⟩) h1
     rw [h2.2]
     refine inv_any hb hes hlt hcov hst hend fuel (updD d i) _ _ _ ⟨size_set hg.1, fun q hq => ?_⟩ (hcl.more hoj hall) (by have := undone_upd hes hie hdi; omega) h2.1.2
     by_cases hqi : q = i
     · subst hqi
       have h3 : (listed.setIfInBounds q true).getD q false = true := by
        rw [Array.getD_eq_getD_getElem?, Array.getElem?_setIfInBounds]
        have : q < listed.size := by have := hg.1; omega
        simp [this]
       rw [h3, updD_self]
       simp [hie]
     · have h3 : (listed.setIfInBounds i true).getD q false = listed.getD q false := by
        rw [Array.getD_eq_getD_getElem?, Array.getD_eq_getD_getElem?, Array.getElem?_setIfInBounds_ne (Ne.symm hqi)]
       rw [h3, updD_ne hqi]
       exact hg.2 q hq
def checkI (ops : Array Oper) (qs es : List Nat) : Bool := match checkV [] ops qs (Array.replicate ops.size false) with
 | some l0 => decide (l0.size = ops.size) && (backB ops && (decide es.Nodup && (es.all (fun e => decide (e < ops.size) && !l0.getD e false) && ((List.range ops.size).all (fun i => l0.getD i false || es.contains i) && decide (qs.length + es.length = ops.size)))))
 | none => false
theorem wp_region_inv {id : Nat} {a : Act} {w : World} {l : List Oper} (R : World → World → Prop) (hR : ∀ a b c, R a b → R b c → R a c) (D qs es : List Nat) (I : (Nat → Bool) → (Nat → Value) → World → Prop) (hm : P.follows .mixedOrders = true)
 (hc : (Region.noSelect l.toArray && checkI l.toArray qs es) = true)
 (hQ : ∀ c a d v w, Q (.panic c) (Act.put a d v) w → Q (.panic c) a w)
 (h : wpQuiet P l.toArray (fun W => ∃ x : LaterR R w.drew, W = afterR R w.drew x) (fun a1 => a1 = overU a1 D (tmI a1) ∧ I (fun _ => false) (tmI a1) w.drew ∧ stepsI R P l.toArray Q a1 D I es es ∧ (∀ d us w', (∀ e ∈ es, d e = true) → I d us w' → Q .normal (overU a1 D us) w')) (pickOps l.toArray qs) a) :
 (Code.region id l.toArray true).wp P Q a w := by
 rw [Bool.and_eq_true] at hc
 obtain ⟨hns, hk⟩ := hc
 unfold checkI at hk
 split at hk
 · rename_i l0 hl0
   simp only [Bool.and_eq_true, decide_eq_true_eq] at hk
   obtain ⟨hsz, hb, hnd, hlt, hcov, hlen⟩ := hk
   refine wp_region_any hm ?_
   have key := quiet_blockR (late := []) (R1 := R) (R2 := R) (Q := Q) hR [] (fun j w w' _ he => he.2) hns hQ (w := w.drew) (fuel := es.length) (l' := l0)
    (K := fun a1 => a1 = overU a1 D (tmI a1) ∧ I (fun _ => false) (tmI a1) w.drew ∧ stepsI R P l.toArray Q a1 D I es es ∧ (∀ d us w', (∀ e ∈ es, d e = true) → I d us w' → Q .normal (overU a1 D us) w'))
    (fun a1 hcl ⟨h0, h1, h2, h3⟩ => by
     rw [h0]
     refine inv_any (l0 := l0) (es := es) hb hnd (fun e he => ?_) (fun i hi => ?_) h2 h3 es.length (fun _ => false) l0 (tmI a1) w.drew ⟨hsz, fun i hi => ⟨fun h => .inl h, fun h => by
      rcases h with h | ⟨_, h⟩
      · exact h
      · cases h⟩⟩ hcl (by unfold undone; simp) h1
     · have := List.all_eq_true.1 hlt e he
       simpa using this
     · have := List.all_eq_true.1 hcov i (List.mem_range.2 hi)
       simpa using this) qs (Array.replicate l.toArray.size false) a (Closed.start _) hl0 h
   rw [hlen] at key
   exact wpAny_of_R _ _ _ _ key
 · cases hk
end
structure BlkSp where
 e : Nat
 t : Nat
 s : Nat
 T : TypeId
 Z : Array Value
 F : Array Value
abbrev ptrV (B : Nat) : Value := .pointer (some ⟨B, 0, none⟩)
structure BlksI (W0 : World) (bs : List BlkSp) (gs : List (Nat × Nat × Value)) (d : Nat → Bool) (us : Nat → Value) (w : World) : Prop where
 be : Below W0.heap.size W0 w
 st : ∀ b ∈ bs, d b.t = true → d b.e = true
 at_ : ∀ b ∈ bs, d b.e = true → ∃ B, us b.s = ptrV B ∧ W0.heap.size ≤ B ∧ Blk w B b.T (if d b.t = true then b.F else b.Z)
 ne : ∀ b ∈ bs, ∀ b' ∈ bs, b.s ≠ b'.s → d b.e = true → d b'.e = true → ∀ B C, us b.s = ptrV B → us b'.s = ptrV C → B ≠ C
 gs : ∀ q ∈ gs, d q.1 = true → us q.2.1 = q.2.2
section
variable {W0 : World} {bs : List BlkSp} {gs : List (Nat × Nat × Value)} {d : Nat → Bool} {us us' : Nat → Value} {w w' : World}
theorem ptr_inj {B C : Nat} (h : ptrV B = ptrV C) : B = C := by
 injection h with h
 injection h with h
 injection h with h
theorem updI {d : Nat → Bool} {e j : Nat} (hne : j ≠ e) (h : updD d e j = true) : d j = true := by rwa [updD_ne hne] at h
theorem BlksI.start (W0 : World) (bs : List BlkSp) (gs : List (Nat × Nat × Value)) (us : Nat → Value) : BlksI W0 bs gs (fun _ => false) us W0 :=
 ⟨Below.refl _ _, fun _ _ h => (by cases h), fun _ _ h => (by cases h), fun _ _ _ _ _ h => (by cases h), fun _ _ h => (by cases h)⟩
theorem BlksI.alloc (h : BlksI W0 bs gs d us w) {b : BlkSp} (hb : b ∈ bs) (hd : d b.e = false) (hsep : ∀ b' ∈ bs, (b'.s = b.s → b' = b) ∧ (b'.e = b.e → b'.s = b.s) ∧ b'.t ≠ b.e) (hq : ∀ q ∈ gs, q.1 ≠ b.e)
 (h0 : us' b.s = ptrV w.heap.size) (h1 : ∀ b' ∈ bs, b'.s ≠ b.s → us' b'.s = us b'.s) (h2 : ∀ q ∈ gs, us' q.2.1 = us q.2.1) : BlksI W0 bs gs (updD d b.e) us' (w.alloc (.cells b.Z b.T)) := by
 refine ⟨h.be.alloc h.be.size _, fun b' hb' ht => ?_, fun b' hb' he => ?_, fun b1 hb1 b2 hb2 hs he1 he2 B C e1 e2 => ?_, fun q hq' hd' => ?_⟩
 · have h3 := h.st b' hb' (updI (hsep b' hb').2.2 ht)
   by_cases h4 : b'.e = b.e
   · rw [h4, updD_self]
   · rw [updD_ne h4]; exact h3
 · by_cases hs : b'.s = b.s
   · obtain rfl := (hsep b' hb').1 hs
     refine ⟨w.heap.size, h0, h.be.size, ?_⟩
     rw [updD_ne (hsep b' hb').2.2, if_neg (fun h3 => by have := h.st b' hb h3; rw [hd] at this; cases this)]
     exact Blk.new w b'.T b'.Z
   · obtain ⟨B, e1, e2, e3⟩ := h.at_ b' hb' (updI (fun e => hs ((hsep b' hb').2.1 e)) he)
     exact ⟨B, (h1 b' hb' hs).trans e1, e2, by rw [updD_ne (hsep b' hb').2.2]; exact e3.alloc _⟩
 · by_cases hs1 : b1.s = b.s
   · have hs2 : b2.s ≠ b.s := fun e => hs (hs1.trans e.symm)
     obtain ⟨C', c1, c2, c3⟩ := h.at_ b2 hb2 (updI (fun e => hs2 ((hsep b2 hb2).2.1 e)) he2)
     have hlt := c3.lt
     obtain rfl := (hsep b1 hb1).1 hs1
     have e3 := ptr_inj (h0.symm.trans e1)
     have e4 := ptr_inj (c1.symm.trans ((h1 b2 hb2 hs2).symm.trans e2))
     omega
   · have he1' := updI (fun e => hs1 ((hsep b1 hb1).2.1 e)) he1
     by_cases hs2 : b2.s = b.s
     · obtain ⟨B', c1, c2, c3⟩ := h.at_ b1 hb1 he1'
       have hlt := c3.lt
       obtain rfl := (hsep b2 hb2).1 hs2
       have e3 := ptr_inj (h0.symm.trans e2)
       have e4 := ptr_inj (c1.symm.trans ((h1 b1 hb1 hs1).symm.trans e1))
       omega
     · exact h.ne b1 hb1 b2 hb2 hs he1' (updI (fun e => hs2 ((hsep b2 hb2).2.1 e)) he2) B C ((h1 b1 hb1 hs1).symm.trans e1) ((h1 b2 hb2 hs2).symm.trans e2)
 · rw [h2 q hq']
   exact h.gs q hq' (updI (hq q hq') hd')
theorem BlksI.store (h : BlksI W0 bs gs d us w) {b : BlkSp} (hb : b ∈ bs) (hd : d b.t = false) (he : d b.e = true) (hsep : ∀ b' ∈ bs, (b'.s = b.s → b' = b) ∧ b'.e ≠ b.t ∧ (b'.t = b.t → b'.s = b.s)) (hq : ∀ q ∈ gs, q.1 ≠ b.t)
 (h1 : ∀ b' ∈ bs, us' b'.s = us b'.s) (h2 : ∀ q ∈ gs, us' q.2.1 = us q.2.1) {B : Nat} (hB : us b.s = ptrV B) (hw : But (· = B) w w') (hbe : Below W0.heap.size W0 w') (hF : Blk w' B b.T b.F) : BlksI W0 bs gs (updD d b.t) us' w' := by
 refine ⟨hbe, fun b' hb' ht => ?_, fun b' hb' he' => ?_, fun b1 hb1 b2 hb2 hs he1 he2 B C e1 e2 => ?_, fun q hq' hd' => ?_⟩
 · rw [updD_ne (hsep b' hb').2.1]
   by_cases h3 : b'.t = b.t
   · obtain rfl := (hsep b' hb').1 ((hsep b' hb').2.2 h3)
     exact he
   · exact h.st b' hb' (updI h3 ht)
 · have he2 := updI (hsep b' hb').2.1 he'
   obtain ⟨C, c1, c2, c3⟩ := h.at_ b' hb' he2
   by_cases hs : b'.s = b.s
   · obtain rfl := (hsep b' hb').1 hs
     obtain rfl := ptr_inj (c1.symm.trans hB)
     exact ⟨C, (h1 b' hb').trans c1, c2, by rw [updD_self, if_pos rfl]; exact hF⟩
   · refine ⟨C, (h1 b' hb').trans c1, c2, ?_⟩
     rw [updD_ne (fun e => hs ((hsep b' hb').2.2 e))]
     exact c3.but hw (h.ne b' hb' b hb hs he2 he C B c1 hB)
 · exact h.ne b1 hb1 b2 hb2 hs (updI (hsep b1 hb1).2.1 he1) (updI (hsep b2 hb2).2.1 he2) B C ((h1 b1 hb1).symm.trans e1) ((h1 b2 hb2).symm.trans e2)
 · rw [h2 q hq']
   exact h.gs q hq' (updI (hq q hq') hd')
theorem BlksI.assign (h : BlksI W0 bs gs d us w) {q : Nat × Nat × Value} (hq : q ∈ gs) (hd : d q.1 = false) (hsep : ∀ b ∈ bs, b.e ≠ q.1 ∧ b.t ≠ q.1) (hqs : ∀ q' ∈ gs, q'.1 = q.1 → q' = q)
 (h0 : us' q.2.1 = q.2.2) (h1 : ∀ b ∈ bs, us' b.s = us b.s) (h2 : ∀ q' ∈ gs, q'.1 ≠ q.1 → us' q'.2.1 = us q'.2.1) : BlksI W0 bs gs (updD d q.1) us' w := by
 refine ⟨h.be, fun b hb ht => ?_, fun b hb he => ?_, fun b1 hb1 b2 hb2 hs he1 he2 B C e1 e2 => ?_, fun q' hq' hd' => ?_⟩
 · rw [updD_ne (hsep b hb).1]
   exact h.st b hb (updI (hsep b hb).2 ht)
 · rw [h1 b hb, updD_ne (hsep b hb).2]
   exact h.at_ b hb (updI (hsep b hb).1 he)
 · exact h.ne b1 hb1 b2 hb2 hs (updI (hsep b1 hb1).1 he1) (updI (hsep b2 hb2).1 he2) B C ((h1 b1 hb1).symm.trans e1) ((h1 b2 hb2).symm.trans e2)
 · by_cases h3 : q'.1 = q.1
   · obtain rfl := hqs q' hq' h3
     exact h0
   · rw [h2 q' hq' h3]
     exact h.gs q' hq' (updI h3 hd')
end
theorem dnV_val2 {row ps : List Vl} {o : Od} (h : o.k = 3) : dnV row ps o = o.v := by unfold dnV; rw [if_pos h]
theorem dnV_row {row ps : List Vl} {o : Od} (h : o.k = 1) : dnV row ps o = if 0 ≤ o.ix ∧ o.ix < (row.length : Int) then row.getD o.ix.toNat zeroV else zeroV := by unfold dnV; rw [if_neg (by omega), if_pos h]
theorem dnV_par {row ps : List Vl} {o : Od} (h : o.k = 2) : dnV row ps o = if 0 ≤ o.ix ∧ o.ix < (ps.length : Int) then ps.getD o.ix.toNat zeroV else zeroV := by unfold dnV; rw [if_neg (by omega), if_neg (by omega), if_pos h]
theorem dnV_none {row ps : List Vl} {o : Od} (h1 : o.k ≠ 1) (h2 : o.k ≠ 2) (h3 : o.k ≠ 3) : dnV row ps o = zeroV := by unfold dnV; rw [if_neg h3, if_neg h1, if_neg h2]
set_option maxHeartbeats 4000000 in
theorem denoted_any (row ps : List Vl) (o : Od) (Ac : Option Addr) (nc cc : Nat) (Ap : Option Addr) (np cp : Nat) (w : World) (hc : VlS w Ac nc row) (hp : VlS w Ap np ps) :
 Calls Tryz.prog 90 #[.agg #[.int .i64 o.k, .int .i64 o.ix, .int .i64 o.v.k, .int .i64 o.v.i, .string o.v.t], .slice Ac nc cc, .slice Ap np cp] w fun e w' => e = .returned (.agg #[.int .i64 (dnV row ps o).k, .int .i64 (dnV row ps o).i, .string (dnV row ps o).t]) ∧ Below w.heap.size w w' := by
 obtain ⟨k, ix, ⟨vk, vi, vt⟩⟩ := o
 obtain ⟨rr, Hrr⟩ : ∃ z, Hid (dnV row ps ⟨k, ix, ⟨vk, vi, vt⟩⟩ = z) := ⟨_, rfl⟩
 rw [Hrr.out]
 have Hlc := zH hc.len
 have Hlp := zH hp.len
 have HC := zH ((hc.keep (keeps_alloc w (.cells #[.int .i64 k, .int .i64 ix, .int .i64 vk, .int .i64 vi, .string vt] 61))).keep (keeps_alloc _ (.cells #[.int .i64 0, .int .i64 0, .string ⟨#[]⟩] 59)))
 have HP := zH ((hp.keep (keeps_alloc w (.cells #[.int .i64 k, .int .i64 ix, .int .i64 vk, .int .i64 vi, .string vt] 61))).keep (keeps_alloc _ (.cells #[.int .i64 0, .int .i64 0, .string ⟨#[]⟩] 59)))
 have HX := zH ((Blk.new w 61 #[.int .i64 k, .int .i64 ix, .int .i64 vk, .int .i64 vi, .string vt]).alloc (.cells #[.int .i64 0, .int .i64 0, .string ⟨#[]⟩] 59))
 have HR := zH (Blk.new (w.alloc (.cells #[.int .i64 k, .int .i64 ix, .int .i64 vk, .int .i64 vi, .string vt] 61)) 59 #[.int .i64 0, .int .i64 0, .string ⟨#[]⟩])
 rw [show (w.alloc (.cells #[.int .i64 k, .int .i64 ix, .int .i64 vk, .int .i64 vi, .string vt] 61)).heap.size = w.heap.size + 1 by simp] at HR
 have HB0 := (Below.refl w.heap.size w).alloc (Nat.le_refl _) (.cells #[.int .i64 k, .int .i64 ix, .int .i64 vk, .int .i64 vi, .string vt] 61)
 have HB := zH (HB0.alloc HB0.size (.cells #[.int .i64 0, .int .i64 0, .string ⟨#[]⟩] 59))
 clear HB0 hc hp
 go_enter Tryz.func90, Tryz.ntmps90
 go_upto_region 1 with fail
 generalize hW : (w.alloc (.cells #[.int .i64 k, .int .i64 ix, .int .i64 vk, .int .i64 vi, .string vt] 61)).alloc (.cells #[.int .i64 0, .int .i64 0, .string ⟨#[]⟩] 59) = w1 at *
 clear hW
 have zx := HX.out.cell
 have zr := HR.out.cell
 have zf := HR.out.free
 by_cases h3 : k = 3
 · obtain rfl : ⟨vk, vi, vt⟩ = rr := by rw [← Hrr.out, dnV_val2 h3]
   subst h3
   clear Hrr
   go_wp2
   refine bodyPost_ret (v := .agg #[.int .i64 vk, .int .i64 vi, .string vt]) (by simp [results, Tryz.results90, go_sem, zr]) rfl ⟨rfl, ?_⟩
   repeat (first | exact HB.out | refine Below.setCell ?_ (by simp) _)
 by_cases h1 : k = 1
 · have Hs : Hid ((if 0 ≤ ix ∧ ix < (row.length : Int) then row.getD ix.toNat zeroV else zeroV) = rr) := zH (by rw [← Hrr.out, dnV_row h1])
   by_cases h0 : ix < 0
   · obtain rfl : zeroV = rr := by rw [← Hs.out, if_neg (fun h => by omega)]
     have g1 : decide (ix < 0) = true := decide_eq_true h0
     have g2 : decide (0 ≤ ix) = false := decide_eq_false (by omega)
     clear Hs h0 Hrr h3
     subst h1
     go_wp2
     refine bodyPost_ret (v := .agg #[.int .i64 0, .int .i64 0, .string ⟨#[]⟩]) (by simp [results, Tryz.results90, go_sem, zr]) rfl ⟨rfl, ?_⟩
     repeat (first | exact HB.out | refine Below.setCell ?_ (by simp) _)
   · have g1 : decide (ix < 0) = false := decide_eq_false h0
     by_cases hn : ix < (nc : Int)
     · obtain ⟨j, rfl⟩ := Int.eq_ofNat_of_zero_le (Int.not_lt.1 h0)
       obtain ⟨b, o, ⟨xk, xi, xt⟩, rfl, hx, hxc⟩ := HC.out.at (show j < nc by omega)
       have c0 : w1.cell? ⟨b, o + j * 3, none⟩ = some (.int .i64 xk) := hxc 0 (.int .i64 xk) rfl
       have c1 : w1.cell? ⟨b, o + j * 3 + 1, none⟩ = some (.int .i64 xi) := hxc 1 (.int .i64 xi) rfl
       have c2 : w1.cell? ⟨b, o + j * 3 + 2, none⟩ = some (.string xt) := hxc 2 (.string xt) rfl
       obtain rfl : ⟨xk, xi, xt⟩ = rr := by rw [← Hs.out, if_pos ⟨by omega, by rw [Hlc.out]; omega⟩, Int.toNat_natCast, List.getD_eq_getElem?_getD, hx]; rfl
       have hjn : j < nc := by omega
       have g3 : decide (nc ≤ j) = false := by simp; omega
       clear hx hxc Hs h0 hn Hrr h3 g1
       subst h1
       go_wp2
       refine bodyPost_ret (v := .agg #[.int .i64 xk, .int .i64 xi, .string xt]) (by simp [results, Tryz.results90, go_sem, zr]) rfl ⟨rfl, ?_⟩
       repeat (first | exact HB.out | refine Below.setCell ?_ (by simp) _)
     · have g2 : decide ((nc : Int) ≤ ix) = true := decide_eq_true (by omega)
       have g3 : decide (0 ≤ ix) = true := decide_eq_true (by omega)
       have g4 : decide (ix < (nc : Int)) = false := decide_eq_false hn
       obtain rfl : zeroV = rr := by rw [← Hs.out, if_neg (fun h => by have := Hlc.out; omega)]
       clear Hs h0 hn Hrr h3
       subst h1
       go_wp2
       refine bodyPost_ret (v := .agg #[.int .i64 0, .int .i64 0, .string ⟨#[]⟩]) (by simp [results, Tryz.results90, go_sem, zr]) rfl ⟨rfl, ?_⟩
       repeat (first | exact HB.out | refine Below.setCell ?_ (by simp) _)
 by_cases h2 : k = 2
 · have Hs : Hid ((if 0 ≤ ix ∧ ix < (ps.length : Int) then ps.getD ix.toNat zeroV else zeroV) = rr) := zH (by rw [← Hrr.out, dnV_par h2])
   by_cases h0 : ix < 0
   · obtain rfl : zeroV = rr := by rw [← Hs.out, if_neg (fun h => by omega)]
     have g1 : decide (ix < 0) = true := decide_eq_true h0
     have g2 : decide (0 ≤ ix) = false := decide_eq_false (by omega)
     clear Hs h0 Hrr h3 h1
     subst h2
     go_wp2
     refine bodyPost_ret (v := .agg #[.int .i64 0, .int .i64 0, .string ⟨#[]⟩]) (by simp [results, Tryz.results90, go_sem, zr]) rfl ⟨rfl, ?_⟩
     repeat (first | exact HB.out | refine Below.setCell ?_ (by simp) _)
   · have g1 : decide (ix < 0) = false := decide_eq_false h0
     by_cases hn : ix < (np : Int)
     · obtain ⟨j, rfl⟩ := Int.eq_ofNat_of_zero_le (Int.not_lt.1 h0)
       obtain ⟨b, o, ⟨xk, xi, xt⟩, rfl, hx, hxc⟩ := HP.out.at (show j < np by omega)
       have c0 : w1.cell? ⟨b, o + j * 3, none⟩ = some (.int .i64 xk) := hxc 0 (.int .i64 xk) rfl
       have c1 : w1.cell? ⟨b, o + j * 3 + 1, none⟩ = some (.int .i64 xi) := hxc 1 (.int .i64 xi) rfl
       have c2 : w1.cell? ⟨b, o + j * 3 + 2, none⟩ = some (.string xt) := hxc 2 (.string xt) rfl
       obtain rfl : ⟨xk, xi, xt⟩ = rr := by rw [← Hs.out, if_pos ⟨by omega, by rw [Hlp.out]; omega⟩, Int.toNat_natCast, List.getD_eq_getElem?_getD, hx]; rfl
       have hjn : j < np := by omega
       have g3 : decide (np ≤ j) = false := by simp; omega
       clear hx hxc Hs h0 hn Hrr h3 h1 g1
       subst h2
       go_wp2
       refine bodyPost_ret (v := .agg #[.int .i64 xk, .int .i64 xi, .string xt]) (by simp [results, Tryz.results90, go_sem, zr]) rfl ⟨rfl, ?_⟩
       repeat (first | exact HB.out | refine Below.setCell ?_ (by simp) _)
     · have g2 : decide ((np : Int) ≤ ix) = true := decide_eq_true (by omega)
       have g3 : decide (0 ≤ ix) = true := decide_eq_true (by omega)
       have g4 : decide (ix < (np : Int)) = false := decide_eq_false hn
       obtain rfl : zeroV = rr := by rw [← Hs.out, if_neg (fun h => by have := Hlp.out; omega)]
       clear Hs h0 hn Hrr h3 h1
       subst h2
       go_wp2
       refine bodyPost_ret (v := .agg #[.int .i64 0, .int .i64 0, .string ⟨#[]⟩]) (by simp [results, Tryz.results90, go_sem, zr]) rfl ⟨rfl, ?_⟩
       repeat (first | exact HB.out | refine Below.setCell ?_ (by simp) _)
 obtain rfl : zeroV = rr := by rw [← Hrr.out, dnV_none h1 h2 h3]
 have g1 : (k == 1) = false := by simpa using h1
 have g2 : (k == 2) = false := by simpa using h2
 have g3 : (k == 3) = false := by simpa using h3
 clear h1 h2 h3 Hrr
 go_wp2
 refine bodyPost_ret (v := .agg #[.int .i64 0, .int .i64 0, .string ⟨#[]⟩]) (by simp [results, Tryz.results90, go_sem, zr]) rfl ⟨rfl, ?_⟩
 repeat (first | exact HB.out | refine Below.setCell ?_ (by simp) _)
theorem ord_equal (o : Int) (w : World) : Calls Tryz.prog 148 #[.int .i64 o] w fun e w' => e = .returned (.bool (cmpB2 1 o)) ∧ w = w' := by
 have h : cmpB2 1 o = decide (o = 0) := rfl
 rw [h]
 by_cases h0 : o = 0
 · rw [decide_eq_true h0]
   have g1 : (o == 0) = true := by simpa using h0
   clear h0 h
   go_enter Tryz.func148, Tryz.ntmps148
   go_wp2
   go_ret
   exact ⟨rfl, rfl⟩
 · rw [decide_eq_false h0]
   have g1 : (o == 0) = false := by simpa using h0
   clear h0 h
   go_enter Tryz.func148, Tryz.ntmps148
   go_wp2
   go_ret
   exact ⟨rfl, rfl⟩
theorem ord_different (o : Int) (w : World) : Calls Tryz.prog 149 #[.int .i64 o] w fun e w' => e = .returned (.bool (cmpB2 2 o)) ∧ w = w' := by
 have h : cmpB2 2 o = decide (o ≠ 0) := rfl
 rw [h]
 by_cases h0 : o ≠ 0
 · rw [decide_eq_true h0]
   have g1 : (o != 0) = true := by simpa using h0
   clear h0 h
   go_enter Tryz.func149, Tryz.ntmps149
   go_wp2
   go_ret
   exact ⟨rfl, rfl⟩
 · rw [decide_eq_false h0]
   have g1 : (o != 0) = false := by simpa using h0
   clear h0 h
   go_enter Tryz.func149, Tryz.ntmps149
   go_wp2
   go_ret
   exact ⟨rfl, rfl⟩
theorem ord_less (o : Int) (w : World) : Calls Tryz.prog 150 #[.int .i64 o] w fun e w' => e = .returned (.bool (cmpB2 3 o)) ∧ w = w' := by
 have h : cmpB2 3 o = decide (o < 0) := rfl
 rw [h]
 by_cases h0 : o < 0
 · rw [decide_eq_true h0]
   have g1 : decide (o < 0) = true := by simpa using h0
   clear h0 h
   go_enter Tryz.func150, Tryz.ntmps150
   go_wp2
   go_ret
   exact ⟨rfl, rfl⟩
 · rw [decide_eq_false h0]
   have g1 : decide (o < 0) = false := by simpa using h0
   clear h0 h
   go_enter Tryz.func150, Tryz.ntmps150
   go_wp2
   go_ret
   exact ⟨rfl, rfl⟩
theorem ord_atMost (o : Int) (w : World) : Calls Tryz.prog 151 #[.int .i64 o] w fun e w' => e = .returned (.bool (cmpB2 4 o)) ∧ w = w' := by
 have h : cmpB2 4 o = decide (o ≤ 0) := rfl
 rw [h]
 by_cases h0 : o ≤ 0
 · rw [decide_eq_true h0]
   have g1 : decide (o ≤ 0) = true := by simpa using h0
   clear h0 h
   go_enter Tryz.func151, Tryz.ntmps151
   go_wp2
   go_ret
   exact ⟨rfl, rfl⟩
 · rw [decide_eq_false h0]
   have g1 : decide (o ≤ 0) = false := by simpa using h0
   clear h0 h
   go_enter Tryz.func151, Tryz.ntmps151
   go_wp2
   go_ret
   exact ⟨rfl, rfl⟩
theorem ord_greater (o : Int) (w : World) : Calls Tryz.prog 152 #[.int .i64 o] w fun e w' => e = .returned (.bool (cmpB2 5 o)) ∧ w = w' := by
 have h : cmpB2 5 o = decide (0 < o) := rfl
 rw [h]
 by_cases h0 : 0 < o
 · rw [decide_eq_true h0]
   have g1 : decide (0 < o) = true := by simpa using h0
   clear h0 h
   go_enter Tryz.func152, Tryz.ntmps152
   go_wp2
   go_ret
   exact ⟨rfl, rfl⟩
 · rw [decide_eq_false h0]
   have g1 : decide (0 < o) = false := by simpa using h0
   clear h0 h
   go_enter Tryz.func152, Tryz.ntmps152
   go_wp2
   go_ret
   exact ⟨rfl, rfl⟩
theorem ord_atLeast (o : Int) (w : World) : Calls Tryz.prog 153 #[.int .i64 o] w fun e w' => e = .returned (.bool (cmpB2 6 o)) ∧ w = w' := by
 have h : cmpB2 6 o = decide (0 ≤ o) := rfl
 rw [h]
 by_cases h0 : 0 ≤ o
 · rw [decide_eq_true h0]
   have g1 : decide (0 ≤ o) = true := by simpa using h0
   clear h0 h
   go_enter Tryz.func153, Tryz.ntmps153
   go_wp2
   go_ret
   exact ⟨rfl, rfl⟩
 · rw [decide_eq_false h0]
   have g1 : decide (0 ≤ o) = false := by simpa using h0
   clear h0 h
   go_enter Tryz.func153, Tryz.ntmps153
   go_wp2
   go_ret
   exact ⟨rfl, rfl⟩
def ordF (cm : Int) : Value := if cm = 1 then .func (.func 148) #[] #[] else if cm = 2 then .func (.func 149) #[] #[] else if cm = 3 then .func (.func 150) #[] #[] else if cm = 4 then .func (.func 151) #[] #[] else if cm = 5 then .func (.func 152) #[] #[] else if cm = 6 then .func (.func 153) #[] #[] else Value.nilFunc
theorem comparison_any (cm : Int) (w : World) : Calls Tryz.prog 92 #[.int .i64 cm] w fun e w' => e = .returned (ordF cm) ∧ Below w.heap.size w w' := by
 have HB := zH ((Below.refl w.heap.size w).alloc (Nat.le_refl _) (.cells #[Value.nilFunc, (.func (.func 148) #[] #[]), (.func (.func 149) #[] #[]), (.func (.func 150) #[] #[]), (.func (.func 151) #[] #[]), (.func (.func 152) #[] #[]), (.func (.func 153) #[] #[])] 190))
 have HX := zH (Blk.new w 190 #[Value.nilFunc, (.func (.func 148) #[] #[]), (.func (.func 149) #[] #[]), (.func (.func 150) #[] #[]), (.func (.func 151) #[] #[]), (.func (.func 152) #[] #[]), (.func (.func 153) #[] #[])])
 by_cases h : 1 ≤ cm ∧ cm ≤ 6
 · have h : cm = 1 ∨ cm = 2 ∨ cm = 3 ∨ cm = 4 ∨ cm = 5 ∨ cm = 6 := by omega
   rcases h with rfl | rfl | rfl | rfl | rfl | rfl
   all_goals
    go_enter Tryz.func92, Tryz.ntmps92
    go_upto_region 2 with fail
    generalize hW : w.alloc (.cells #[Value.nilFunc, (.func (.func 148) #[] #[]), (.func (.func 149) #[] #[]), (.func (.func 150) #[] #[]), (.func (.func 151) #[] #[]), (.func (.func 152) #[] #[]), (.func (.func 153) #[] #[])] 190) = w1 at *
    clear hW
    have zx := HX.out.cell
    go_wp2
    go_ret
    exact ⟨rfl, HB.out⟩
 · have hf : ordF cm = Value.nilFunc := by
    unfold ordF
    repeat rw [if_neg (by omega)]
   rw [hf]
   clear hf
   by_cases h0 : cm = 0
   · subst h0
     clear h
     go_enter Tryz.func92, Tryz.ntmps92
     go_upto_region 2 with fail
     generalize hW : w.alloc (.cells #[Value.nilFunc, (.func (.func 148) #[] #[]), (.func (.func 149) #[] #[]), (.func (.func 150) #[] #[]), (.func (.func 151) #[] #[]), (.func (.func 152) #[] #[]), (.func (.func 153) #[] #[])] 190) = w1 at *
     clear hW
     have zx := HX.out.cell
     go_wp2
     go_ret
     exact ⟨rfl, HB.out⟩
   · by_cases h1 : cm < 0
     · have g1 : decide (cm < 0) = true := decide_eq_true h1
       clear h h0 h1
       go_enter Tryz.func92, Tryz.ntmps92
       go_upto_region 2 with fail
       generalize hW : w.alloc (.cells #[Value.nilFunc, (.func (.func 148) #[] #[]), (.func (.func 149) #[] #[]), (.func (.func 150) #[] #[]), (.func (.func 151) #[] #[]), (.func (.func 152) #[] #[]), (.func (.func 153) #[] #[])] 190) = w1 at *
       clear hW
       have zx := HX.out.cell
       go_wp2
       go_ret
       exact ⟨rfl, HB.out⟩
     · have g1 : decide (cm < 0) = false := decide_eq_false h1
       have g2 : decide (7 ≤ cm) = true := decide_eq_true (by omega)
       clear h h0 h1
       go_enter Tryz.func92, Tryz.ntmps92
       go_upto_region 2 with fail
       generalize hW : w.alloc (.cells #[Value.nilFunc, (.func (.func 148) #[] #[]), (.func (.func 149) #[] #[]), (.func (.func 150) #[] #[]), (.func (.func 151) #[] #[]), (.func (.func 152) #[] #[]), (.func (.func 153) #[] #[])] 190) = w1 at *
       clear hW
       have zx := HX.out.cell
       go_wp2
       go_ret
       exact ⟨rfl, HB.out⟩
theorem run_neqF (f : Fn) (w : World) : (binOp .neq 145 (.func f #[] #[]) .nilFunc).run Tryz.prog w = .ok (.bool true) w := by
 first
 | rfl
 | (simp [go_sem]; done)
 | (simp only [binOp]; simp [go_sem]; done)
 | skip
theorem run_neqN (w : World) : (binOp .neq 145 .nilFunc .nilFunc).run Tryz.prog w = .ok (.bool false) w := by
 first
 | rfl
 | (simp [go_sem]; done)
 | (simp only [binOp]; simp [go_sem]; done)
 | skip
end Go.Proofs.YtnnmlhmffnfjfaaGreat
namespace Go.Proofs.YtnnmlhmffnfjfaaGreat
open Go.RowKit
set_option maxRecDepth 100000
open Pd
namespace Pd
def rest (p : Pd) (k : Nat) : Pd := mkP p.h (p.args.drop k)
theorem rest_zero (p : Pd) : p.rest 0 = p := by rw [rest, List.drop_zero, mk_args]
theorem rest_at {p q : Pd} {k : Nat} (h : p.args[k]? = some q) : p.rest k = .cons q (p.rest (k + 1)) := by
 have hk : k < p.args.length := (List.getElem?_eq_some_iff.1 h).1
 have he : p.args[k] = q := (List.getElem?_eq_some_iff.1 h).2
 rw [rest, rest, List.drop_eq_getElem_cons hk, he]
 rfl
theorem rest_end {p : Pd} {k : Nat} (h : p.len ≤ k) : p.rest k = .nil p.h := by
 rw [rest, List.drop_eq_nil_of_le (by rw [len_args]; exact h)]
 rfl
theorem len_lt : ∀ p : Pd, p.len < p.nodes
 | nil _ => Nat.lt_succ_self 0
 | cons a t => by have := len_lt t; have := nodes_pos a; simp only [len, nodes]; omega
theorem at_mem {p q : Pd} {k : Nat} (h : p.args[k]? = some q) : q ∈ p.args := List.mem_of_getElem? h
theorem at_nodes {p q : Pd} {k : Nat} (h : p.args[k]? = some q) : q.nodes < p.nodes := nodes_mem (at_mem h)
end Pd
section
variable {p q : Pd} {k : Nat}
theorem sm_rest (h : p.args[k]? = some q) (l : Nat) (b : Int) : smA l b (p.rest k) = match smB l b q with
 | none => none
 | some b' => smA l b' (p.rest (k + 1)) := by
 rw [Pd.rest_at h]
 rfl
theorem val_rest (h : p.args[k]? = some q) (cols ps : List Int) : validA cols ps (p.rest k) = (validB cols ps q && validA cols ps (p.rest (k + 1))) := by
 rw [Pd.rest_at h]
 rfl
theorem hold_rest (h : p.args[k]? = some q) (row ps : List Vl) : holdsA row ps (p.rest k) = (holdsB row ps q && (holdsA row ps (p.rest (k + 1))).1, holdsB row ps q || (holdsA row ps (p.rest (k + 1))).2.1, !holdsB row ps q) := by
 rw [Pd.rest_at h]
 rfl
theorem nodes_rest (h : p.args[k]? = some q) : (p.rest k).nodes = q.nodes + (p.rest (k + 1)).nodes := by
 rw [Pd.rest_at h]
 rfl
theorem depth_rest (h : p.args[k]? = some q) : (p.rest k).depth = max (q.depth + 1) (p.rest (k + 1)).depth := by
 rw [Pd.rest_at h]
 rfl
end
end Go.Proofs.YtnnmlhmffnfjfaaGreat
namespace Go.Proofs.YtnnmlhmffnfjfaaGreat
open Go.RowKit
inductive PlanB where
 | last (qs : List Nat)
 | one (qs : List Nat) (e : Nat) (t : PlanB)
 | two (qs : List Nat) (e : Nat) (t : PlanB) (f : Nat) (s : PlanB)
def PlanB.len : PlanB → Nat
 | .last qs => qs.length
 | .one qs _ t => qs.length + (t.len + 1)
 | .two qs _ t _ _ => qs.length + (t.len + 1)
section
variable {P : Program} {ops : Array Oper} {Q : Exit → Act → World → Prop} {R : World → World → Prop}
def checkB (ops : Array Oper) : PlanB → Array Bool → Bool
 | .last qs, listed => match checkV [] ops qs listed with
   | some l => (Region.ready .any ops l).isEmpty
   | none => false
 | .one qs e t, listed => match checkV [] ops qs listed with
   | some l => (Region.ready .any ops l == [e]) && (decide (e < ops.size) && checkB ops t (l.setIfInBounds e true))
   | none => false
 | .two qs e t f s, listed => match checkV [] ops qs listed with
   | some l => (Region.ready .any ops l == [e, f]) && (decide (e < ops.size) && (decide (f < ops.size) && (decide (t.len = s.len) && (checkB ops t (l.setIfInBounds e true) && checkB ops s (l.setIfInBounds f true)))))
   | none => false
def wpPlanB (R : World → World → Prop) (P : Program) (ops : Array Oper) (Q : Exit → Act → World → Prop) : PlanB → Act → World → Prop
 | .last qs, a, w => wpQuiet P ops (fun W => ∃ x : LaterR R w, W = afterR R w x) (fun a' => Q .normal a' w) (pickOps ops qs) a
 | .one qs e t, a, w => wpQuiet P ops (fun W => ∃ x : LaterR R w, W = afterR R w x) (fun a' => wpList P ops (Exit.then (fun a'' w' => R w w' ∧ wpPlanB R P ops Q t a'' w') Q) [opAt ops e] a' w) (pickOps ops qs) a
 | .two qs e t f s, a, w => wpQuiet P ops (fun W => ∃ x : LaterR R w, W = afterR R w x) (fun a' =>
  wpList P ops (Exit.then (fun a'' w' => R w w' ∧ wpPlanB R P ops Q t a'' w') Q) [opAt ops e] a' w ∧
  wpList P ops (Exit.then (fun a'' w' => R w w' ∧ wpPlanB R P ops Q s a'' w') Q) [opAt ops f] a' w) (pickOps ops qs) a
theorem plan_anyB (hR : ∀ a b c, R a b → R b c → R a c) (hns : Region.noSelect ops = true) (hQ : ∀ c a d v w, Q (.panic c) (Act.put a d v) w → Q (.panic c) a w) :
 ∀ (t : PlanB) (listed : Array Bool) (a : Act) (w : World), Closed ops listed → checkB ops t listed = true → wpPlanB R P ops Q t a w → wpAnyR [] R R P .any ops Q t.len listed a w
 | .last qs, listed, a, w, hcl, hc, h => by
   unfold checkB at hc
   split at hc
   · rename_i l hl
     exact quiet_blockR hR [] (fun j w w' _ he => he.2) hns hQ (fuel := 0) (fun a' _ h' => ⟨by simpa using hc, h'⟩) qs listed a hcl hl h
   · cases hc
 | .one qs e t, listed, a, w, hcl, hc, h => by
   unfold checkB at hc
   split at hc
   · rename_i l hl
     simp only [Bool.and_eq_true, beq_iff_eq, decide_eq_true_eq] at hc
     refine quiet_blockR hR [] (fun j w w' _ he => he.2) hns hQ (fuel := t.len + 1) (fun a' hcl' h' => ?_) qs listed a hcl hl h
     refine ⟨fun h0 => (by rw [hc.1] at h0; cases h0), fun i hi => ?_⟩
     have hrd := hi
     rw [hc.1] at hi
     have hie : i = e := by simpa using hi
     subst hie
     obtain ⟨_, oj, hoj, hall⟩ := mem_ready.1 hrd
     exact wpOp_mono (fun a'' w' ⟨hb, h''⟩ => ⟨⟨fun _ => .inr hb, .inr hb⟩, plan_anyB hR hns hQ t _ a'' w' (hcl'.more hoj hall) hc.2.2 h''⟩) (op_of_list (at_of_lt hc.2.1) h')
   · cases hc
 | .two qs e t f s, listed, a, w, hcl, hc, h => by
   unfold checkB at hc
   split at hc
   · rename_i l hl
     simp only [Bool.and_eq_true, beq_iff_eq, decide_eq_true_eq] at hc
     obtain ⟨hr, he, hf, hlen, ht, hs⟩ := hc
     refine quiet_blockR hR [] (fun j w w' _ he => he.2) hns hQ (fuel := t.len + 1) (fun a' hcl' h' => ?_) qs listed a hcl hl h
     refine ⟨fun h0 => (by rw [hr] at h0; cases h0), fun i hi => ?_⟩
     have hrd := hi
     rw [hr] at hi
     obtain ⟨_, oj, hoj, hall⟩ := mem_ready.1 hrd
     have hie : i = e ∨ i = f := by simpa using hi
     rcases hie with rfl | rfl
     · exact wpOp_mono (fun a'' w' ⟨hb, h''⟩ => ⟨⟨fun _ => .inr hb, .inr hb⟩, plan_anyB hR hns hQ t _ a'' w' (hcl'.more hoj hall) ht h''⟩) (op_of_list (at_of_lt he) h'.1)
     · rw [hlen]
       exact wpOp_mono (fun a'' w' ⟨hb, h''⟩ => ⟨⟨fun _ => .inr hb, .inr hb⟩, plan_anyB hR hns hQ s _ a'' w' (hcl'.more hoj hall) hs h''⟩) (op_of_list (at_of_lt hf) h'.2)
   · cases hc
theorem wp_region_planB {id : Nat} {a : Act} {w : World} {l : List Oper} (R : World → World → Prop) (hR : ∀ a b c, R a b → R b c → R a c) (t : PlanB) (hm : P.follows .mixedOrders = true)
 (hc : (Region.noSelect l.toArray && (checkB l.toArray t (Array.replicate l.toArray.size false) && decide (t.len = l.toArray.size))) = true)
 (hQ : ∀ c a d v w, Q (.panic c) (Act.put a d v) w → Q (.panic c) a w)
 (h : wpPlanB R P l.toArray Q t a w.drew) : (Code.region id l.toArray true).wp P Q a w := by
 simp only [Bool.and_eq_true, decide_eq_true_eq] at hc
 refine wp_region_any hm ?_
 have h1 := plan_anyB hR hc.1 hQ t _ a _ (Closed.start _) hc.2.1 h
 rw [hc.2.2] at h1
 exact wpAny_of_R _ _ _ _ h1
end
end Go.Proofs.YtnnmlhmffnfjfaaGreat
namespace Go.Proofs.YtnnmlhmffnfjfaaGreat
open Go.RowKit
open Rg
theorem RgP.case {w w' : World} {g : Nat} (hc : CaseAt w g) (hb : But (· = g) w w') : ∀ {r : Rg} {b o : Nat}, RgP w r b o → RgP w' r b o
 | .nil _ _, _, _, _ => trivial
 | .cons vs rest tail, b, o, h => by
   obtain ⟨⟨A1, n1, c1, h1, h2, h3⟩, h4, h5, ⟨A', n', c', h6, h7, h8, h9⟩, h10⟩ := h
   have hne : ¬ b = g := by
    intro e
    subst e
    obtain ⟨A2, n2, c2, k2, zs, hB, _⟩ := hc.ex
    rw [hB.cell] at h1 h5
    rcases o with _ | _ | o <;> simp at h1 h5
   have hk : ∀ j v, w.cell? ⟨b, j, none⟩ = some v → w'.cell? ⟨b, j, none⟩ = some v := fun j v hv => by
    have hlt := cell_lt (w := w) (a := ⟨b, j, none⟩) (by rw [hv]; rfl)
    rw [World.cell?_of_block (w := w) (hb.block b hlt hne)]
    exact hv
   refine ⟨⟨A1, n1, c1, hk _ _ h1, h2, h3.but hb (iv_ne hc h3)⟩, hk _ _ h4, hk _ _ h5, ⟨A', n', c', hk _ _ h6, h7, h8, fun hn => ?_⟩, RgP.case hc hb h10⟩
   obtain ⟨b', o', e, h⟩ := h9 hn
   exact ⟨b', o', e, RgP.case hc hb h⟩
theorem RgS.case {w w' : World} {g : Nat} (hc : CaseAt w g) (hb : But (· = g) w w') {x : Int} {f : Bool} {A : Option Addr} {n c : Nat} {r : Rg} (h : RgS w x f A n c r) : RgS w' x f A n c r :=
 ⟨h.hw, h.hf, h.ok, h.len, fun hn => by
  obtain ⟨b, o, e, hp⟩ := h.ex hn
  exact ⟨b, o, e, hp.case hc hb⟩⟩
theorem But.then {S T : Nat → Prop} {a b c : World} (h : But S a b) (k : But T b c) (hT : ∀ q, T q → a.heap.size ≤ q) : But S a c :=
 ⟨k.os.trans h.os, k.tape.trans h.tape, k.output.trans h.output, Nat.le_trans h.size k.size, fun q hq hs => (k.block q (Nat.lt_of_lt_of_le hq h.size) (fun e => by have := hT q e; omega)).trans (h.block q hq hs)⟩
theorem CaseAt.ne {w : World} {g q : Nat} {T : TypeId} {cs : Array Value} (h : CaseAt w g) (hb : Blk w q T cs) (hT : T ≠ 87) : q ≠ g := fun e => by
 obtain ⟨A', n', c', k', zs, hB, _⟩ := h.ex
 subst e
 unfold Blk at hB hb
 rw [hB] at hb
 injection hb with hb
 injection hb with _ hb
 exact hT hb.symm
theorem CaseAt.off {w w' : World} {g q : Nat} {T : TypeId} {x : Int} {f : Bool} {v : Value} (h : CaseAt w g) (hB : Blk w q T #[.int .i64 x, .bool f, v]) (hv : ∀ z, v ≠ .int .u8 z) (hb : But (· = q) w w') (hne : g ≠ q) : CaseAt w' g := h.but hb hne fun b hb i z => by
 subst hb
 rw [hB.cell]
 rcases i with _ | _ | _ | i <;> simp
 exact hv z
def SetR (w : World) (p : SetP) : Prop := GoodR p.2 7 ∧ p.1.2.1 = p.2.length ∧ OwnI7 w p.1.1 p.2 p.1.2.2
theorem SetR.but {w w' : World} {p : SetP} {S : Nat → Prop} (h : SetR w p) (hb : But S w w') (hs : ∀ q, (Value.slice p.1.1 p.2.length p.1.2.2).ownBlock = some q → ¬ S q) : SetR w' p := ⟨h.1, h.2.1, h.2.2.but hb hs⟩
def SomeR (w : World) (g wd : Nat) (e : Ending) (w' : World) : Prop :=
 ∃ (x : Int) (f : Bool) (A : Option Addr) (n c : Nat) (r : Rg), e = .returned (.agg #[.int .i64 x, .bool f, .slice A n c]) ∧ RgS w' x f A n c r ∧ OkR r ∧ r.w = (wd : Int) ∧ WfR r ∧ CaseAt w' g ∧ But (· = g) w w'
structure CRg (w : World) (g wd O : Nat) (x : Int) (f : Bool) (A : Option Addr) (n c : Nat) (r : Rg) (wr : World) : Prop where
 bo : Blk wr O 71 #[.int .i64 x, .bool f, .slice A n c]
 br : Blk wr w.heap.size 71 #[.int .i64 0, .bool false, .slice none 0 0]
 rs : RgS wr x f A n c r
 ok : OkR r
 rw_ : r.w = (wd : Int)
 wf : WfR r
 cs : CaseAt wr g
 bu : But (· = g) w wr
 hO : w.heap.size < O
theorem CRg.case {w : World} {g wd O : Nat} {x : Int} {f : Bool} {A : Option Addr} {n c : Nat} {r : Rg} {wr wr' : World} (h : CRg w g wd O x f A n c r wr) (hb : But (· = g) wr wr') (hc : CaseAt wr' g) : CRg w g wd O x f A n c r wr' :=
 ⟨h.bo.but hb (h.cs.ne h.bo (by decide)), h.br.but hb (h.cs.ne h.br (by decide)), h.rs.case h.cs hb, h.ok, h.rw_, h.wf, hc, h.bu.trans hb, h.hO⟩
theorem CRg.below {w : World} {g wd O : Nat} {x : Int} {f : Bool} {A : Option Addr} {n c : Nat} {r : Rg} {wr wr' : World} (h : CRg w g wd O x f A n c r wr) (hb : Below wr.heap.size wr wr') : CRg w g wd O x f A n c r wr' := h.case (But.of_below hb) (h.cs.below hb)
theorem CRg.put {w : World} {g wd O : Nat} {x : Int} {f : Bool} {A : Option Addr} {n c : Nat} {r : Rg} {wr : World} (h : CRg w g wd O x f A n c r wr) {x' : Int} {f' : Bool} {A' : Option Addr} {n' c' : Nat} {r' : Rg} (hr : RgS wr x' f' A' n' c' r') (ho : OkR r') (hw : r'.w = (wd : Int)) (hf : WfR r') : CRg w g wd O x' f' A' n' c' r' (put3R wr O (.int .i64 x') (.bool f') (.slice A' n' c')) := by
 have hb := put3R_but wr O (.int .i64 x') (.bool f') (.slice A' n' c')
 have hO := h.hO
 exact ⟨put3R_blk h.bo, h.br.but hb (by omega), RgS.off h.bo hb hr, ho, hw, hf, h.cs.off h.bo (fun z => by simp) hb (Ne.symm (h.cs.ne h.bo (by decide))), h.bu.then hb (fun q hq => by omega), hO⟩
theorem CRg.fin {w : World} {g wd O : Nat} {x : Int} {f : Bool} {A : Option Addr} {n c : Nat} {r : Rg} {wr : World} (h : CRg w g wd O x f A n c r wr) : SomeR w g wd (.returned (.agg #[.int .i64 x, .bool f, .slice A n c])) (put3R wr w.heap.size (.int .i64 x) (.bool f) (.slice A n c)) := by
 have hb := put3R_but wr w.heap.size (.int .i64 x) (.bool f) (.slice A n c)
 exact ⟨x, f, A, n, c, r, rfl, RgS.off h.br hb h.rs, h.ok, h.rw_, h.wf, h.cs.off h.br (fun z => by simp) hb (Ne.symm (h.cs.ne h.br (by decide))), h.bu.then hb (fun q hq => by omega)⟩
end Go.Proofs.YtnnmlhmffnfjfaaGreat
namespace Go.Proofs.YtnnmlhmffnfjfaaGreat
open Go.RowKit
theorem i64c_len (z : Int) : (i64c z).length = 1 := rfl
theorem one_i64 (z : Int) : ∀ u ∈ i64c z, u.oneCell' = true := by simp [i64c, Value.oneCell']
theorem info_i64 : (Tryz.prog.info? 3).map (fun i => (i.zero, i.size, i.bytes)) = some (some (.int .i64 0), 1, 8) := by kernel_rfl
structure ClN (g : Nat) (w : World) (A : Option Addr) (n : Nat) (cs : List Int) : Prop where
 sl : ClS w A n cs
 ne : 0 < n → ∀ b o, A = some ⟨b, o, none⟩ → b ≠ g
theorem ClN.keep {g : Nat} {w w' : World} {A : Option Addr} {n : Nat} {cs : List Int} (h : ClN g w A n cs) (hk : Keeps w w') : ClN g w' A n cs := ⟨h.sl.keep hk, h.ne⟩
theorem ClN.case {g : Nat} {w w' : World} {A : Option Addr} {n : Nat} {cs : List Int} (h : ClN g w A n cs) (hb : But (· = g) w w') : ClN g w' A n cs :=
 ⟨h.sl.but hb (fun hn b o hA => h.ne hn b o hA), h.ne⟩
end Go.Proofs.YtnnmlhmffnfjfaaGreat
namespace Go.Proofs.YtnnmlhmffnfjfaaGreat
open Go.RowKit
open Rg
def lessB (B : Nat) (a b : World) : Prop := Below B a b
theorem lessB_of {B B' : Nat} {a b : World} (h : Below B' a b) (hB : B ≤ B') : lessB B a b := ⟨h.os, h.tape, h.output, h.size, fun q hq => h.block q (Nat.lt_of_lt_of_le hq hB)⟩
theorem lessB_trans (B : Nat) : ∀ a b c, lessB B a b → lessB B b c → lessB B a c := fun _ _ _ h k => ⟨k.os.trans h.os, k.tape.trans h.tape, k.output.trans h.output, Nat.le_trans h.size k.size, fun q hq => (k.block q hq).trans (h.block q hq)⟩
theorem keep_blk {w w' : World} {B V : Nat} {T : TypeId} {cs : Array Value} (h : Blk w V T cs) (hb : Below B w w') (hV : V < B) : Blk w' V T cs := (hb.block V hV).trans h
structure BxQ (w : World) (V : Nat) (x : Int) (f : Bool) (A : Option Addr) (n c : Nat) (r : Rg) : Prop where
 b : Blk w V 71 #[.int .i64 x, .bool f, .slice A n c]
 s : RgS w x f A n c r
section
variable {w w' : World} {V : Nat} {x : Int} {f : Bool} {A : Option Addr} {n c : Nat} {r : Rg}
theorem BxQ.case {g : Nat} (h : BxQ w V x f A n c r) (hc : CaseAt w g) (hb : But (· = g) w w') : BxQ w' V x f A n c r := ⟨h.b.but hb (hc.ne h.b (by decide)), h.s.case hc hb⟩
theorem BxQ.below (h : BxQ w V x f A n c r) (hb : Below w.heap.size w w') : BxQ w' V x f A n c r := ⟨h.b.below hb, h.s.keep (keeps_of hb)⟩
theorem BxQ.alloc (h : BxQ w V x f A n c r) (o : Obj) : BxQ (w.alloc o) V x f A n c r := ⟨h.b.alloc o, h.s.keep (keeps_alloc w o)⟩
theorem BxQ.off (h : BxQ w V x f A n c r) {B : Nat} {x' : Int} {f' : Bool} {A' : Option Addr} {n' c' : Nat} (hB : Blk w B 71 #[.int .i64 x', .bool f', .slice A' n' c']) (hb : But (· = B) w w') (hne : V ≠ B) : BxQ w' V x f A n c r := ⟨h.b.but hb hne, h.s.off hB hb⟩
theorem BxQ.put {x' : Int} {f' : Bool} {A' : Option Addr} {n' c' : Nat} {r' : Rg} (h : BxQ w V x f A n c r) (hr : RgS w x' f' A' n' c' r') : BxQ (put3R w V (.int .i64 x') (.bool f') (.slice A' n' c')) V x' f' A' n' c' r' :=
 ⟨put3R_blk h.b, hr.off h.b (put3R_but _ _ _ _ _)⟩
end
structure PdS (w : World) (g Va Vb Vw : Nat) (xa : Int) (fa : Bool) (Aa : Option Addr) (na ca : Nat) (ra : Rg) (xb : Int) (fb : Bool) (Ab : Option Addr) (nb cb : Nat) (rb : Rg) (xw : Int) (fw : Bool) (Aw : Option Addr) (nw cw : Nat) (rw_ : Rg) (wr : World) : Prop where
 a : BxQ wr Va xa fa Aa na ca ra
 b : BxQ wr Vb xb fb Ab nb cb rb
 r : BxQ wr Vw xw fw Aw nw cw rw_
 cs : CaseAt wr g
 bel : Below w.heap.size w wr
 hg : w.heap.size ≤ g
 hVa : w.heap.size ≤ Va
 hVb : w.heap.size ≤ Vb
 hab : Va ≠ Vb
 hra : Va ≠ Vw
 hrb : Vb ≠ Vw
section
variable {w wr w' : World} {g Va Vb Vw : Nat} {xa : Int} {fa : Bool} {Aa : Option Addr} {na ca : Nat} {ra : Rg} {xb : Int} {fb : Bool} {Ab : Option Addr} {nb cb : Nat} {rb : Rg} {xw : Int} {fw : Bool} {Aw : Option Addr} {nw cw : Nat} {rw_ : Rg}
theorem PdS.case (h : PdS w g Va Vb Vw xa fa Aa na ca ra xb fb Ab nb cb rb xw fw Aw nw cw rw_ wr) (hc : CaseAt w' g) (hb : But (· = g) wr w') : PdS w g Va Vb Vw xa fa Aa na ca ra xb fb Ab nb cb rb xw fw Aw nw cw rw_ w' :=
 ⟨h.a.case h.cs hb, h.b.case h.cs hb, h.r.case h.cs hb, hc, hb.below h.bel h.bel.size (fun k hk => by subst hk; exact h.hg), h.hg, h.hVa, h.hVb, h.hab, h.hra, h.hrb⟩
end
end Go.Proofs.YtnnmlhmffnfjfaaGreat
namespace Go.Proofs.YtnnmlhmffnfjfaaGreat
open Go.RowKit
structure Pr (H : Nat) (w0 w : World) (v1 : Value) (n1 : Nat) (xs1 : List Value) (v2 : Value) (n2 : Nat) (xs2 : List Value) (l1 l2 : Option (Nat × Value)) : Prop where
 o1 : w.ownsRow H 3 1 v1 n1 xs1
 o2 : w.ownsRow H 3 1 v2 n2 xs2
 ne : ∀ b, v1.ownBlock = some b → v2.ownBlock ≠ some b
 b1 : ∀ q, l1 = some q → Blk w q.1 3 #[q.2] ∧ v1.ownBlock ≠ some q.1 ∧ v2.ownBlock ≠ some q.1
 b2 : ∀ q, l2 = some q → Blk w q.1 3 #[q.2] ∧ v1.ownBlock ≠ some q.1 ∧ v2.ownBlock ≠ some q.1
 be : Below H w0 w
section
variable {H : Nat} {w0 w : World} {v1 : Value} {n1 : Nat} {xs1 : List Value} {v2 : Value} {n2 : Nat} {xs2 : List Value} {l1 l2 : Option (Nat × Value)}
theorem Pr.drew (h : Pr H w0 w v1 n1 xs1 v2 n2 xs2 l1 l2) : Pr H w0 w.drew v1 n1 xs1 v2 n2 xs2 l1 l2 :=
 ⟨h.o1.drew, h.o2.drew, h.ne, fun q e => ⟨(h.b1 q e).1.drew, (h.b1 q e).2⟩, fun q e => ⟨(h.b2 q e).1.drew, (h.b2 q e).2⟩, h.be.drew⟩
theorem Pr.build (h : Pr H w0 w v1 n1 xs1 v2 n2 xs2 none l2) (hH : H ≤ w0.heap.size) (x : Value) : Pr H w0 (w.alloc (.cells #[x] 3)) v1 n1 xs1 v2 n2 xs2 (some (w.heap.size, x)) l2 :=
 ⟨h.o1.alloc _, h.o2.alloc _, h.ne, fun q e => by
  obtain rfl : q = (w.heap.size, x) := by injection e with e; exact e.symm
  exact ⟨Blk.new _ _ _, fun e => by have := (own_lt h.o1 e).2.1; simp at this, fun e => by have := (own_lt h.o2 e).2.1; simp at this⟩, fun q e => ⟨(h.b2 q e).1.alloc _, (h.b2 q e).2⟩, h.be.alloc (by have := h.be.size; omega) _⟩
theorem Pr.app {w' : World} {g cap x' : Nat} {x : Value} (h : Pr H w0 w v1 n1 xs1 v2 n2 xs2 (some (x', x)) l2) (hH : H ≤ w0.heap.size)
 (ho : w'.ownsRow H 3 1 (.slice (some ⟨g, 0, none⟩) (n1 + 1) cap) (n1 + 1) (xs1 ++ [x])) (hg : w.grownBy w' v1.ownBlock) (ha : v1.ownBlock = some g ∨ g = w.heap.size) :
 Pr H w0 w' (.slice (some ⟨g, 0, none⟩) (n1 + 1) cap) (n1 + 1) (xs1 ++ [x]) v2 n2 xs2 none l2 := by
 have hn : v2.ownBlock ≠ some g := fun e => by
  rcases ha with h1 | h1
  · exact h.ne g h1 e
  · have := (own_lt h.o2 e).2.1
    omega
 refine ⟨ho, own_at h.o2 fun k _ hk e => hg.block k hk (fun e2 => h.ne k e2.symm e), fun b e1 e2 => ?_, fun q e => (by cases e), fun q e => ?_, h.be.grown hg (by have := h.be.size; omega) (own_base h.o1)⟩
 · simp only [Value.ownBlock, Option.some.injEq] at e1
   subst e1
   exact hn e2
 · obtain ⟨q1, q2, q3⟩ := h.b2 q e
   refine ⟨q1.grown hg (fun e2 => q2 e2.symm), fun e2 => ?_, q3⟩
   simp only [Value.ownBlock, Option.some.injEq] at e2
   rcases ha with h1 | h1
   · rw [e2] at h1; exact q2 h1
   · have := q1.lt
     omega
theorem Pr.less {w' : World} {v1' v2' : Value} {n1' n2' : Nat} {xs1' xs2' : List Value} {l1' l2' : Option (Nat × Value)} (h : Pr H w w' v1 n1 xs1 v2 n2 xs2 l1 l2) : lessB H w w' := h.be
end
end Go.Proofs.YtnnmlhmffnfjfaaGreat
