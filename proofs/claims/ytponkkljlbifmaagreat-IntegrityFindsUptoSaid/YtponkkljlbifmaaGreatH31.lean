/-
  Texts: IgApM, IgAmM, IgAmT.
-/
import Derived.Test.YtponkkljlbifmaaGreatH30
set_option linter.unusedVariables false
/-
  What table.Apply holds in memory.
-/
namespace Go.Proofs.YtponkkljlbifmaaGreat
open Go.RowKit
set_option maxRecDepth 100000
open Pd

abbrev hdc (p : TlP) : Value := .slice p.1.1 p.1.2.1 p.1.2.2
section
variable {w w' : World} {b : Nat} {T : TypeId} {cs : Array Value}
/-- what is no slice does not lie in a block of slices -/
theorem rowok_but (hb : Blk w b T cs) (hsl : ∀ u ∈ cs.toList, ∃ A n c, u = Value.slice A n c) (hbt : But (· = b) w w') {q : RowP} (h : RowOk w q) : RowOk w' q := by
  refine ⟨⟨h.rd.1, fun hn => ?_⟩, h.nl, h.le, h.mx⟩
  obtain ⟨b', o, e, hc⟩ := h.rd.2 hn
  refine ⟨b', o, e, fun k x hx j u hu => ?_⟩
  have h1 := hc k x hx j u hu
  have hlt := cell_lt (w := w) (a := ⟨b', o + k * 3 + j, none⟩) (by rw [h1]; rfl)
  by_cases hbb : b' = b
  · subst hbb
    rw [hb.cell, ← Array.getElem?_toList] at h1
    obtain ⟨A, n, c, e⟩ := hsl u (List.mem_of_getElem? h1)
    subst e
    rcases j with _ | _ | _ | j <;> simp [Vl.cs] at hu
  · rw [World.cell?_of_block (w := w) (hbt.block b' hlt hbb)]
    exact h1
theorem TlW.but {B : Nat} {p : TlP} (h : TlW w B p) (hb : Blk w b T cs) (hsl : ∀ u ∈ cs.toList, ∃ A n c, u = Value.slice A n c) (hbt : But (· = b) w w') (hT : T ≠ 75 := by decide) : TlW w' B p := by
  have hne : ∀ b' cs', Blk w b' 75 cs' → ¬ b' = b := fun b' cs' h1 e => by
    subst e
    unfold Blk at h1 hb
    rw [h1] at hb
    injection hb with hb
    injection hb with _ ht
    exact hT ht.symm
  refine ⟨⟨⟨h.ok.rd.sl.but hbt (fun hn b' o e hs => ?_), fun q hq => rowok_but hb hsl hbt (h.ok.rd.ok q hq)⟩, h.ok.nl, h.ok.le, h.ok.mx⟩, fun hn => ?_, h.sp⟩
  · obtain ⟨b2, o2, cs2, h1, h2, _⟩ := h.bl hn
    rw [e] at h1
    injection h1 with h1
    injection h1 with h1
    subst h1
    exact hne _ _ h2 hs
  · obtain ⟨b2, o2, cs2, h1, h2, h3⟩ := h.bl hn
    exact ⟨b2, o2, cs2, h1, h2.but hbt (hne _ _ h2), h3⟩
end
theorem hdc_sl (ls : List TlP) : ∀ u ∈ (ls.map hdc).toArray.toList, ∃ A n c, u = Value.slice A n c := fun u hu => by
  obtain ⟨p, _, rfl⟩ := List.mem_map.1 hu
  exact ⟨_, _, _, rfl⟩
/-- the boxes and the lists of Apply -/
structure ApI (w : World) (b h3 n : Nat) (sc st : Array Value) (wr : World) (ls : List TlP) : Prop where
  blk : Blk wr b 79 (ls.map hdc).toArray
  len : ls.length = n
  ok : ∀ p ∈ ls, TlW wr w.heap.size p
  z : Blk wr w.heap.size 30 sc
  s : Blk wr (w.heap.size + 1) 25 st
  r : Blk wr (w.heap.size + 2) 25 #[.slice none 0 0]
  x : Blk wr h3 25 #[.slice (some ⟨b, 0, none⟩) n n]
  be : Below w.heap.size w wr
  hb : w.heap.size + 2 < b
  hx : b < h3
section
variable {w wr w' : World} {b h3 n : Nat} {sc st : Array Value} {ls : List TlP}
theorem ApI.below (h : ApI w b h3 n sc st wr ls) (hb : Below wr.heap.size wr w') : ApI w b h3 n sc st w' ls :=
  ⟨h.blk.below hb, h.len, fun p hp => (h.ok p hp).below hb, h.z.below hb, h.s.below hb, h.r.below hb, h.x.below hb, Below.next h.be hb, h.hb, h.hx⟩
theorem ApI.at (h : ApI w b h3 n sc st wr ls) {t : Nat} (ht : t < n) : ∃ p, ls[t]? = some p ∧ TlW wr w.heap.size p ∧ wr.cell? ⟨b, t, none⟩ = some (hdc p) := by
  have hl : t < ls.length := by rw [h.len]; exact ht
  refine ⟨ls[t], List.getElem?_eq_getElem hl, h.ok _ (List.getElem_mem hl), ?_⟩
  rw [h.blk.cell]
  simp [hl]
/-- a list is stored -/
theorem ApI.put (h : ApI w b h3 n sc st wr ls) {t : Nat} {L : Option Addr} {ln lc : Nat} {ps : List RowP} (hp : TlW wr w.heap.size ((L, ln, lc), ps)) : ApI w b h3 n sc st (wr.setCell ⟨b, t, none⟩ (.slice L ln lc)) (ls.set t ((L, ln, lc), ps)) := by
  have h1 := h.hb
  have h2 := h.hx
  have hbt : But (· = b) wr (wr.setCell ⟨b, t, none⟩ (.slice L ln lc)) := But.set (S := (· = b)) wr (p := ⟨b, t, none⟩) rfl _
  refine ⟨?_, by rw [List.length_set]; exact h.len, fun q hq => ?_, h.z.but hbt (by omega), h.s.but hbt (by omega), h.r.but hbt (by omega), h.x.but hbt (by omega), hbt.below h.be h.be.size (fun k hk => by omega), h1, h2⟩
  · have := h.blk.set_ t (.slice L ln lc)
    rw [set_tl ls t L ln lc ps] at this
    exact this
  · rcases List.mem_or_eq_of_mem_set hq with hq | rfl
    · exact (h.ok q hq).but h.blk (hdc_sl ls) hbt
    · exact hp.but h.blk (hdc_sl ls) hbt
end
/-- a list in the making, stored after each row; wt: the world before its first -/
structure CpS (wt : World) (b t : Nat) (ls : List TlP) (L : Option Addr) (ln lc : Nat) (qs : List RowP) (wr : World) : Prop where
  own : wr.ownsRow wt.heap.size 75 1 (.slice L ln lc) ln (qs.flatMap rowc)
  len : qs.length = ln
  rows : ∀ q ∈ qs, OwnRow wr wt.heap.size q
  bu : But (· = b) wt wr
  blk : Blk wr b 79 ((ls.set t ((L, ln, lc), qs)).map hdc).toArray
section
variable {w wt wr w' : World} {b h3 n t : Nat} {sc st : Array Value} {ls : List TlP} {L : Option Addr} {ln lc : Nat} {qs : List RowP}
theorem CpS.below (h : CpS wt b t ls L ln lc qs wr) (hb : Below wr.heap.size wr w') : CpS wt b t ls L ln lc qs w' :=
  ⟨own_at h.own (fun g _ hlt _ => hb.block g hlt), h.len, fun q hq => (h.rows q hq).below hb, h.bu.trans (But.ofB hb), h.blk.below hb⟩
theorem CpS.tl (h : CpS wt b t ls L ln lc qs wr) {B : Nat} (hB : B ≤ wt.heap.size) : TlW wr B ((L, ln, lc), qs) := by
  obtain ⟨f1, f2, f3⟩ := own_forms h.own
  refine ⟨⟨⟨Sl.of_own (cs := rowc) (fun _ => rfl) h.len h.own, fun q hq => (h.rows q hq).ok⟩, f1, f3, ?_⟩, fun hn => ?_, f2⟩
  · rcases h.own.2 with ⟨hv, _⟩ | ⟨g, cap, cur, hv, _, _, _, hm, _⟩
    · injection hv with _ _ h3; simp only; omega
    · injection hv with _ _ h3; simp only [maxLen] at hm; simp only; omega
  · obtain ⟨b2, o2, cs2, h1, h2, h3⟩ := SlB.own h.own hn hn
    exact ⟨b2, o2, cs2, h1, h2, Nat.le_trans hB h3⟩
/-- the list is whole -/
theorem CpS.done (h : CpS wt b t ls L ln lc qs wr) (hi : ApI w b h3 n sc st wt ls) : ApI w b h3 n sc st wr (ls.set t ((L, ln, lc), qs)) := by
  have h1 := hi.hb
  have h2 := hi.hx
  refine ⟨h.blk, by rw [List.length_set]; exact hi.len, fun q hq => ?_, hi.z.but h.bu (by omega), hi.s.but h.bu (by omega), hi.r.but h.bu (by omega), hi.x.but h.bu (by omega), h.bu.below hi.be hi.be.size (fun k hk => by omega), h1, h2⟩
  rcases List.mem_or_eq_of_mem_set hq with hq | rfl
  · exact (hi.ok q hq).but hi.blk (hdc_sl ls) h.bu
  · exact h.tl hi.be.size
/-- one more row: appended and stored -/
theorem CpS.add (h : CpS wt b t ls L ln lc qs wr) (hbl : b < wt.heap.size) {q : RowP} (hq : OwnRow wr wt.heap.size q) {o : Obj} {g cap : Nat} (ho : w'.ownsRow wt.heap.size 75 1 (.slice (some ⟨g, 0, none⟩) (ln + 1) cap) (ln + 1) (qs.flatMap rowc ++ rowc q)) (hg : (wr.alloc o).grownBy w' (Value.slice L ln lc).ownBlock) (hB : Below wt.heap.size wr w') :
    CpS wt b t ls (some ⟨g, 0, none⟩) (ln + 1) cap (qs ++ [q]) (w'.setCell ⟨b, t, none⟩ (.slice (some ⟨g, 0, none⟩) (ln + 1) cap)) := by
  have hg2 := grown_of_alloc hg
  have hbt : But (· = b) w' (w'.setCell ⟨b, t, none⟩ (.slice (some ⟨g, 0, none⟩) (ln + 1) cap)) := But.set (S := (· = b)) w' (p := ⟨b, t, none⟩) rfl _
  refine ⟨own_at (by rw [List.flatMap_append]; simpa using ho) (fun k hk hlt _ => hbt.block k hlt (by omega)), by rw [List.length_append, h.len]; rfl, fun y hy => ?_, ⟨hB.os.trans h.bu.os, hB.tape.trans h.bu.tape, hB.output.trans h.bu.output, Nat.le_trans h.bu.size (Nat.le_trans hB.size hbt.size), fun k hk hne => ?_⟩, ?_⟩
  · have : OwnRow w' wt.heap.size y := by
      rcases List.mem_append.1 hy with hy | hy
      · exact (h.rows y hy).grown h.own hg2
      · rw [List.mem_singleton.1 hy]
        exact hq.grown h.own hg2
    exact ⟨own_at this.1 (fun k hk hlt _ => hbt.block k hlt (by omega)), this.2⟩
  · rw [hbt.block k (Nat.lt_of_lt_of_le hk (Nat.le_trans h.bu.size hB.size)) hne, hB.block k hk]
    exact h.bu.block k hk hne
  · have h1 : Blk w' b 79 ((ls.set t ((L, ln, lc), qs)).map hdc).toArray := (hB.block b hbl).trans h.blk
    have h2 := h1.set_ t (.slice (some ⟨g, 0, none⟩) (ln + 1) cap)
    rw [set_tl _ t _ _ _ (qs ++ [q]), List.set_set] at h2
    exact h2
theorem CpS.start (hi : ApI w b h3 n sc st wt ls) (ht : ls[t]? = some ((none, 0, 0), [])) : CpS wt b t ls none 0 0 [] wt := by
  have : ls.set t ((none, 0, 0), []) = ls := by
    obtain ⟨h1, h2⟩ := List.getElem?_eq_some_iff.1 ht
    rw [← h2]
    exact List.set_getElem_self h1
  exact ⟨⟨by simp, .inl ⟨rfl, rfl⟩⟩, rfl, fun _ h => absurd h List.not_mem_nil, But.refl _ _, by rw [this]; exact hi.blk⟩
end
end Go.Proofs.YtponkkljlbifmaaGreat

/-
  The keys of changes, plain; what integrity.among holds in memory.
-/
namespace Go.Proofs.YtponkkljlbifmaaGreat
open Go.RowKit
set_option maxRecDepth 100000
open Pd

/-- the keys of the changes' rows of a table -/
def keysL (T : Tb) (sel : Ch → Rw) (j : Nat) (cs : List Ch) : List Rw := (cs.filter fun c => decide (c.t = (j : Int)) && decide (0 < (sel c).length)).map fun c => keyT T (sel c)
theorem keysL_snoc (T : Tb) (sel : Ch → Rw) (j : Nat) (cs : List Ch) (c : Ch) : keysL T sel j (cs ++ [c]) = keysL T sel j cs ++ (if c.t = (j : Int) ∧ 0 < (sel c).length then [keyT T (sel c)] else []) := by
  unfold keysL
  rw [List.filter_append, List.map_append]
  congr 1
  by_cases h1 : c.t = (j : Int) <;> by_cases h2 : 0 < (sel c).length <;> simp [h1, h2]
theorem keysL_len (T : Tb) (sel : Ch → Rw) (j : Nat) (cs : List Ch) : (keysL T sel j cs).length ≤ cs.length := by
  unfold keysL
  rw [List.length_map]
  exact List.length_filter_le _ _
theorem memK_keys {tbs : List Tb} {sel : Ch → Rw} {cs : List Ch} {j : Nat} {T : Tb} (hT : tbs[j]? = some T) (key : Rw) : memK tbs sel cs (j : Int) key = decide (key ∈ keysL T sel j cs) := by
  unfold memK
  rw [Int.toNat_natCast, hT]
  unfold keysL
  rw [Bool.eq_iff_iff]
  simp only [List.any_eq_true, Bool.and_eq_true, decide_eq_true_eq, List.mem_map, List.mem_filter]
  constructor
  · rintro ⟨c, hc, ⟨h1, h2⟩, h3⟩
    exact ⟨c, ⟨hc, h1, h2⟩, (cmpR_zero _ _).1 h3⟩
  · rintro ⟨c, ⟨hc, h1, h2⟩, h3⟩
    exact ⟨c, hc, ⟨h1, h2⟩, (cmpR_zero _ _).2 h3⟩
/-- a search among rows that ascend finds what is there -/
theorem found_mem : ∀ (l : List Rw) (key : Rw), ascR l → foundF (fun r => cmpR r key) l (l.countP fun r => decide (cmpR r key < 0)) = decide (key ∈ l)
  | [], _, _ => rfl
  | r :: l, key, h => by
    have hp := List.pairwise_cons.1 h
    rw [List.countP_cons]
    by_cases hc : cmpR r key < 0
    · rw [if_pos (by simpa using hc)]
      have ih := found_mem l key hp.2
      have hne : ¬ key = r := fun e => by rw [e, cmpR_self] at hc; omega
      unfold foundF at ih ⊢
      rw [List.getElem?_cons_succ, ih]
      simp [hne]
    · rw [if_neg (by simpa using hc)]
      have h0 : (l.countP fun r => decide (cmpR r key < 0)) = 0 := by
        rw [List.countP_eq_zero]
        intro x hx
        have h1 := hp.1 x hx
        have h2 := cmpR_anti r key
        have h3 := cmpR_lt_of_le (a := key) (by omega) h1
        have h4 := cmpR_anti key x
        simp; omega
      rw [h0]
      unfold foundF
      simp only [Nat.add_zero, List.getElem?_cons_zero]
      rw [Bool.eq_iff_iff, decide_eq_true_eq, decide_eq_true_eq]
      constructor
      · intro h5
        rw [(cmpR_zero _ _).1 h5]
        exact List.mem_cons_self
      · intro h5
        rcases List.mem_cons.1 h5 with h5 | h5
        · rw [h5, cmpR_self]
        · have h6 := hp.1 key h5
          omega
/-- every change of a list that is applied is valid -/
theorem appS_valid {tbs : List Tb} : ∀ (cs : List Ch) (st : List (List Rw)), (appS tbs cs st).1 = 0 → ∀ c ∈ cs, validC tbs c = true
  | [], _, _, c, hc => by cases hc
  | d :: cs, st, h, c, hc => by
    unfold appS at h
    split at h
    · rename_i h1
      exact absurd h h1
    · rename_i h1
      have h2 : (stepC tbs d st).1 = 0 := by omega
      rcases List.mem_cons.1 hc with rfl | hc
      · cases hv : validC tbs c with
        | true => rfl
        | false => unfold stepC at h2; rw [hv] at h2; simp at h2
      · exact appS_valid cs _ h c hc
theorem applyS_valid {tbs : List Tb} {st : List (List Rw)} {cs : List Ch} (h : (applyS tbs st cs).1 = 0) : ∀ c ∈ cs, validC tbs c = true := by
  unfold applyS at h
  split at h
  · rename_i h1
    exact absurd h h1
  · exact appS_valid cs st h

/-- lists that grow one beside the other, each in a block of its own -/
structure KyI (w : World) (b h3 n : Nat) (sc : Array Value) (wr : World) (ls : List TlP) : Prop where
  blk : Blk wr b 79 (ls.map hdc).toArray
  len : ls.length = n
  own : ∀ p ∈ ls, wr.ownsRow w.heap.size 75 1 (hdc p) p.1.2.1 (p.2.flatMap rowc) ∧ p.2.length = p.1.2.1 ∧ ∀ q ∈ p.2, OwnRow wr w.heap.size q
  sep : ∀ (i j : Nat) (p q : TlP), ls[i]? = some p → ls[j]? = some q → i ≠ j → ∀ g, (hdc p).ownBlock = some g → (hdc q).ownBlock ≠ some g
  z : Blk wr w.heap.size 30 sc
  x : Blk wr h3 23 #[.slice (some ⟨b, 0, none⟩) n n]
  be : Below w.heap.size w wr
  hb : w.heap.size < b
  hx : b < h3
theorem own_tlw {w : World} {base B : Nat} {p : TlP} (h : w.ownsRow base 75 1 (hdc p) p.1.2.1 (p.2.flatMap rowc)) (hl : p.2.length = p.1.2.1) (hq : ∀ q ∈ p.2, RowOk w q) (hB : B ≤ base) : TlW w B p := by
  obtain ⟨⟨L, ln, lc⟩, qs⟩ := p
  obtain ⟨f1, f2, f3⟩ := own_forms h
  refine ⟨⟨⟨Sl.of_own (cs := rowc) (fun _ => rfl) hl h, hq⟩, f1, f3, ?_⟩, fun hn => ?_, f2⟩
  · rcases h.2 with ⟨hv, _⟩ | ⟨g, cap, cur, hv, _, _, _, hm, _⟩
    · change Value.slice L ln lc = _ at hv
      injection hv with _ _ h3; simp only; omega
    · change Value.slice L ln lc = _ at hv
      injection hv with _ _ h3; simp only [maxLen] at hm; simp only; omega
  · obtain ⟨b2, o2, cs2, h1, h2, h3⟩ := SlB.own h hn hn
    exact ⟨b2, o2, cs2, h1, h2, Nat.le_trans hB h3⟩
/-- an own block of rows is no block of another type -/
theorem ownR_ne {w : World} {base g b : Nat} {v : Value} {n : Nat} {xs : List Value} {T : TypeId} {cs : Array Value} (h : w.ownsRow base 75 1 v n xs) (hg : v.ownBlock = some g) (hb : Blk w b T cs) (hT : T ≠ 75) : b ≠ g := fun e => by
  subst e
  rcases h.2 with ⟨hv, _⟩ | ⟨g', cap, cur, hv, _, hh, _⟩
  · rw [hv] at hg; simp [Value.ownBlock] at hg
  · rw [hv] at hg
    simp only [Value.ownBlock, Option.some.injEq] at hg
    subst hg
    unfold Blk at hb
    rw [hh] at hb
    injection hb with hb
    injection hb with _ ht
    exact hT ht.symm
theorem own_blt {w : World} {base g : Nat} {v : Value} {n : Nat} {xs : List Value} {T : TypeId} (h : w.ownsRow base T 1 v n xs) (hg : v.ownBlock = some g) : base ≤ g ∧ g < w.heap.size := by
  rcases h.2 with ⟨hv, _⟩ | ⟨g', cap, cur, hv, hb, hh, _⟩
  · rw [hv] at hg; simp [Value.ownBlock] at hg
  · rw [hv] at hg
    simp only [Value.ownBlock, Option.some.injEq] at hg
    subst hg
    exact ⟨hb, (Array.getElem?_eq_some_iff.1 hh).1⟩
section
variable {w wr w' : World} {b h3 n : Nat} {sc : Array Value} {ls : List TlP}
theorem KyI.below (h : KyI w b h3 n sc wr ls) (hb : Below wr.heap.size wr w') : KyI w b h3 n sc w' ls :=
  ⟨h.blk.below hb, h.len, fun p hp => ⟨own_at (h.own p hp).1 (fun g _ hlt _ => hb.block g hlt), (h.own p hp).2.1, fun q hq => ((h.own p hp).2.2 q hq).below hb⟩, h.sep, h.z.below hb, h.x.below hb, Below.next h.be hb, h.hb, h.hx⟩
theorem KyI.at (h : KyI w b h3 n sc wr ls) {t : Nat} (ht : t < n) : ∃ p, ls[t]? = some p ∧ wr.cell? ⟨b, t, none⟩ = some (hdc p) := by
  have hl : t < ls.length := by rw [h.len]; exact ht
  refine ⟨ls[t], List.getElem?_eq_getElem hl, ?_⟩
  rw [h.blk.cell]
  simp [hl]
/-- a key is appended to a list, which is stored -/
theorem KyI.add (h : KyI w b h3 n sc wr ls) {t : Nat} {L : Option Addr} {ln lc : Nat} {ps : List RowP} (hl : ls[t]? = some ((L, ln, lc), ps)) {q : RowP} (hq : OwnRow wr w.heap.size q) {o : Obj} {g cap : Nat} (ho : w'.ownsRow w.heap.size 75 1 (.slice (some ⟨g, 0, none⟩) (ln + 1) cap) (ln + 1) (ps.flatMap rowc ++ rowc q)) (hg : (wr.alloc o).grownBy w' (Value.slice L ln lc).ownBlock) (hB : Below w.heap.size wr w') (hat : (Value.slice L ln lc).ownBlock = some g ∨ g = wr.heap.size + 1) :
    KyI w b h3 n sc (w'.setCell ⟨b, t, none⟩ (.slice (some ⟨g, 0, none⟩) (ln + 1) cap)) (ls.set t ((some ⟨g, 0, none⟩, ln + 1, cap), ps ++ [q])) := by
  have h1 := h.hb
  have h2 := h.hx
  have hg2 := grown_of_alloc hg
  have hto := h.own _ (List.mem_of_getElem? hl)
  have hkeep : ∀ k T cs, Blk wr k T cs → T ≠ 75 → Blk w' k T cs := fun k T cs hk hT => (hg2.block k hk.lt (fun e => ownR_ne hto.1 e.symm hk hT rfl)).trans hk
  have hbt : But (· = b) w' (w'.setCell ⟨b, t, none⟩ (.slice (some ⟨g, 0, none⟩) (ln + 1) cap)) := But.set (S := (· = b)) w' (p := ⟨b, t, none⟩) rfl _
  have hblk := hkeep b _ _ h.blk (by decide)
  have hrow : ∀ y, OwnRow wr w.heap.size y → OwnRow (w'.setCell ⟨b, t, none⟩ (.slice (some ⟨g, 0, none⟩) (ln + 1) cap)) w.heap.size y := fun y hy => by
    have h3 := hy.grown hto.1 hg2
    refine ⟨own_at h3.1 (fun k _ hlt hk => hbt.block k hlt (fun e => ?_)), h3.2⟩
    subst e
    rcases h3.1.2 with ⟨hv, _⟩ | ⟨g', cap', cur, hv, _, hh, _⟩
    · rw [hv] at hk; simp [Value.ownBlock] at hk
    · rw [hv] at hk
      simp only [Value.ownBlock, Option.some.injEq] at hk
      subst hk
      unfold Blk at hblk
      rw [hh] at hblk
      injection hblk with hblk
      injection hblk with _ ht
      exact absurd ht (by decide)
  have htl : t < ls.length := (List.getElem?_eq_some_iff.1 hl).1
  refine ⟨?_, by rw [List.length_set]; exact h.len, fun p hp => ?_, fun i j p p' hi hj hij k hk hk2 => ?_, (hkeep _ _ _ h.z (by decide)).but hbt (by omega), (hkeep _ _ _ h.x (by decide)).but hbt (by omega), ?_, h1, h2⟩
  · have h3 := hblk.set_ t (.slice (some ⟨g, 0, none⟩) (ln + 1) cap)
    rw [set_tl ls t _ _ _ (ps ++ [q])] at h3
    exact h3
  · obtain ⟨i, hi⟩ := List.mem_iff_getElem?.1 hp
    rw [List.getElem?_set] at hi
    split at hi
    · rename_i e
      injection hi with hi
      subst hi
      refine ⟨own_at (by rw [List.flatMap_append]; simpa using ho) (fun k _ hlt hk => hbt.block k hlt (fun e => ?_)), by rw [List.length_append, hto.2.1]; rfl, fun y hy => ?_⟩
      · subst e
        exact ownR_ne ho hk hblk (by decide) rfl
      · rcases List.mem_append.1 hy with hy | hy
        · exact hrow y (hto.2.2 y hy)
        · rw [List.mem_singleton.1 hy]
          exact hrow q hq
    · rename_i e
      have hpo := h.own p (List.mem_of_getElem? hi)
      have hpw : w'.ownsRow w.heap.size 75 1 (hdc p) p.1.2.1 (p.2.flatMap rowc) := own_at hpo.1 (fun k _ hlt hk => hg2.block k hlt (fun e2 => h.sep i t p _ hi hl (fun e3 => e e3.symm) k hk e2.symm))
      refine ⟨own_at hpw (fun k _ hlt hk => hbt.block k hlt (fun e => ?_)), hpo.2.1, fun y hy => hrow y (hpo.2.2 y hy)⟩
      subst e
      exact ownR_ne hpw hk hblk (by decide) rfl
  · -- lists stay apart
    have hnew : ∀ i p, ls[i]? = some p → i ≠ t → (hdc p).ownBlock ≠ some g := fun i p hi hne hpg => by
      rcases hat with hat | hat
      · exact h.sep t i _ p hl hi (fun e => hne e.symm) g hat hpg
      · have := (own_blt (h.own p (List.mem_of_getElem? hi)).1 hpg).2
        omega
    have hgb : (hdc ((some ⟨g, 0, none⟩, ln + 1, cap), ps ++ [q])).ownBlock = some g := rfl
    rw [List.getElem?_set] at hi hj
    split at hi
    · rename_i e
      injection hi with hi
      subst hi
      rw [if_neg (fun e2 => hij (e.symm.trans e2))] at hj
      rw [hgb] at hk
      injection hk with hk
      subst hk
      exact hnew j p' hj (fun e2 => hij (e.symm.trans e2.symm)) hk2
    · rename_i e
      split at hj
      · rename_i e2
        injection hj with hj
        subst hj
        rw [hgb] at hk2
        injection hk2 with hk2
        subst hk2
        exact hnew i p hi (fun e3 => e e3.symm) hk
      · exact h.sep i j p p' hi hj hij k hk hk2
  · have h3 : Below w.heap.size w w' := h.be.trans hB
    exact hbt.below h3 h3.size (fun k hk => by omega)
end
end Go.Proofs.YtponkkljlbifmaaGreat

/-
  The test that integrity.among makes: is a key among the keys?
-/
namespace Go.Proofs.YtponkkljlbifmaaGreat
open Go.RowKit
set_option maxRecDepth 100000
open Pd

/-- the lists of keys, done or being done -/
structure SeI (w : World) (b h3 n : Nat) (wr : World) (ls : List TlP) : Prop where
  blk : Blk wr b 79 (ls.map hdc).toArray
  len : ls.length = n
  ok : ∀ p ∈ ls, TlW wr w.heap.size p
  x : Blk wr h3 23 #[.slice (some ⟨b, 0, none⟩) n n]
  be : Below w.heap.size w wr
  hb : w.heap.size < b
  hx : b < h3
section
variable {w wr w' : World} {b h3 n : Nat} {ls : List TlP}
theorem SeI.below (h : SeI w b h3 n wr ls) (hb : Below wr.heap.size wr w') : SeI w b h3 n w' ls :=
  ⟨h.blk.below hb, h.len, fun p hp => (h.ok p hp).below hb, h.x.below hb, Below.next h.be hb, h.hb, h.hx⟩
theorem SeI.at (h : SeI w b h3 n wr ls) {t : Nat} (ht : t < n) : ∃ p, ls[t]? = some p ∧ TlW wr w.heap.size p ∧ wr.cell? ⟨b, t, none⟩ = some (hdc p) := by
  have hl : t < ls.length := by rw [h.len]; exact ht
  refine ⟨ls[t], List.getElem?_eq_getElem hl, h.ok _ (List.getElem_mem hl), ?_⟩
  rw [h.blk.cell]
  simp [hl]
theorem SeI.put (h : SeI w b h3 n wr ls) {t : Nat} {L : Option Addr} {ln lc : Nat} {ps : List RowP} (hp : TlW wr w.heap.size ((L, ln, lc), ps)) : SeI w b h3 n (wr.setCell ⟨b, t, none⟩ (.slice L ln lc)) (ls.set t ((L, ln, lc), ps)) := by
  have h1 := h.hb
  have h2 := h.hx
  have hbt : But (· = b) wr (wr.setCell ⟨b, t, none⟩ (.slice L ln lc)) := But.set (S := (· = b)) wr (p := ⟨b, t, none⟩) rfl _
  refine ⟨?_, by rw [List.length_set]; exact h.len, fun q hq => ?_, h.x.but hbt (by omega), hbt.below h.be h.be.size (fun k hk => by omega), h1, h2⟩
  · have := h.blk.set_ t (.slice L ln lc)
    rw [set_tl ls t L ln lc ps] at this
    exact this
  · rcases List.mem_or_eq_of_mem_set hq with hq | rfl
    · exact (h.ok q hq).but h.blk (hdc_sl ls) hbt
    · exact hp.but h.blk (hdc_sl ls) hbt
theorem KyI.se {sc : Array Value} (h : KyI w b h3 n sc wr ls) : SeI w b h3 n wr ls :=
  ⟨h.blk, h.len, fun p hp => own_tlw (h.own p hp).1 (h.own p hp).2.1 (fun q hq => ((h.own p hp).2.2 q hq).ok) (Nat.le_refl _), h.x, h.be, h.hb, h.hx⟩
end
theorem amcl_any (w0 w : World) (b h3 n t : Nat) (ls : List TlP) (p : TlP) (K : Option Addr) (kn kc : Nat) (key : Rw) (hI : SeI w0 b h3 n w ls) (hl : ls[t]? = some p) (ha : ascR (p.2.map (·.2))) (hn : p.1.2.1 ≤ 1000000) (hk : RowOk w ((K, kn, kc), key)) :
    Calls Tryz.prog 68 #[.int .i64 (t : Int), .slice K kn kc, .pointer (some ⟨h3, 0, none⟩)] w fun e w' => e = .returned (.bool (decide (key ∈ p.2.map (·.2)))) ∧ Below w.heap.size w w' := by
  have htn : t < n := by rw [← hI.len]; exact (List.getElem?_eq_some_iff.1 hl).1
  obtain ⟨p', hl', htl, hc⟩ := hI.at htn
  obtain rfl : p' = p := by rw [hl] at hl'; injection hl' with hl'; exact hl'.symm
  obtain ⟨⟨L, ln, lc⟩, ps⟩ := p'
  have HTL := Lib.hid htl
  have HK := Lib.hid hk
  have HA := Lib.hid ha
  have z := hI.x.cell
  clear hI hl hl' htl hk ha
  dsimp only at hn ⊢
  obtain ⟨q, Hq⟩ : ∃ z, Hid (decide (key ∈ ps.map (·.2)) = z) := ⟨_, Lib.hid rfl⟩
  rw [Hq.out]
  go_enter Tryz.func68, Tryz.ntmps68
  go_wp2_with fail
  refine (search_any 54 #[] (fun r => cmpR r key) L ln lc ps (.slice K kn kc) _ HTL.out.ok.rd (fun h => HTL.out.free h) hn entR (fun hp b o S hA hS hrow x hx => ?_) (fun a b x y hab hx hy hlt => ?_)).mono ?_
  · exact comprowsL_any x.1.1 K x.1.2.1 kn x.1.2.2 kc x.2 key S (hrow x hx).rd (hrow _ HK.out).rd (hrow x hx).lenle (hrow _ HK.out).lenle
  · rcases Nat.lt_or_ge a b with h1 | h1
    · have h2 : (ps.map (·.2))[a]? = some x.2 := by rw [List.getElem?_map, hx]; rfl
      have h3 : (ps.map (·.2))[b]? = some y.2 := by rw [List.getElem?_map, hy]; rfl
      obtain ⟨h4, h5⟩ := List.getElem?_eq_some_iff.1 h2
      obtain ⟨h6, h7⟩ := List.getElem?_eq_some_iff.1 h3
      have h8 := List.pairwise_iff_getElem.1 HA.out a b h4 h6 h1
      rw [h5, h7] at h8
      exact cmpR_lt_of_le (by omega) hlt
    · obtain rfl : a = b := by omega
      rw [hx] at hy
      injection hy with hy
      rw [hy]
      exact hlt
  rintro e w1 ⟨rfl, hb1⟩
  rw [found_mem _ key HA.out]
  have HB := Lib.hid hb1
  clear hb1
  rw [Hq.out]
  go_wp2
  go_ret
  exact ⟨rfl, HB.out⟩
/-- the lists of keys make a test -/
theorem amtest_any {w wr : World} {b h3 n : Nat} {ls : List TlP} {tbs : List Tb} {sel : Ch → Rw} {cs : List Ch} (hI : SeI w b h3 n wr ls) (hn : tbs.length = n) (hc : cs.length ≤ 1000000)
    (hk : ∀ (k : Nat) (T : Tb) (p : TlP), tbs[k]? = some T → ls[k]? = some p → p.2.map (·.2) = setL (keysL T sel k cs)) : TestOk 68 #[.pointer (some ⟨h3, 0, none⟩)] wr n (memK tbs sel cs) := by
  intro W hW t K kn kc key ht hkey
  obtain ⟨p, hl, _, _⟩ := hI.at ht
  obtain ⟨T, hT⟩ : ∃ T, tbs[t]? = some T := ⟨_, List.getElem?_eq_getElem (by rw [hn]; exact ht)⟩
  have h1 := hk t T p hT hl
  have h2 := (hI.ok p (List.mem_of_getElem? hl)).ok.len
  unfold tlR at h2
  rw [h1] at h2
  have h3 := setL_len (keysL T sel t cs)
  have h4 := keysL_len T sel t cs
  refine (amcl_any w W b _ n t ls p K kn kc key (hI.below hW) hl (by rw [h1]; exact setL_asc _) (by omega) hkey).mono fun e w' ⟨he, hb⟩ => ⟨?_, hb⟩
  rw [he, memK_keys hT, h1]
  congr 2
  rw [decide_eq_decide]
  exact setL_mem _ _
end Go.Proofs.YtponkkljlbifmaaGreat
