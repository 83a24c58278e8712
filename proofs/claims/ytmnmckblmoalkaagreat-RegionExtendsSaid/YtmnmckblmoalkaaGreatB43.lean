/-
  Texts: GBoxes.
-/
import Derived.Test.YtmnmckblmoalkaaGreatB42
import Derived.Test.YtmnmckblmoalkaaGreatB36
set_option linter.unusedVariables false
/-
  The program's boxes of a region: how many they are, what they are, and where they lie.
-/
namespace Go.Proofs.YtmnmckblmoalkaaGreat
open Go.RowKit
set_option maxRecDepth 100000
open Rg

/-- the boxes, in order -/
def boxesR : Rg → List (List (List Iv))
  | .nil _ f => if f then [[]] else []
  | .cons vs rest tail => (boxesR rest).map (vs :: ·) ++ boxesR tail
theorem boxesR_len : ∀ r : Rg, (boxesR r).length = nbox r
  | .nil _ f => by cases f <;> rfl
  | .cons vs rest tail => by simp [boxesR, nbox, boxesR_len rest, boxesR_len tail]
theorem boxesR_parts : ∀ r : Rg, r.f = false → boxesR r = r.parts.flatMap fun p => (boxesR p.2).map (p.1 :: ·)
  | .nil _ f, h => by
    simp only [Rg.f] at h
    subst h
    rfl
  | .cons vs rest tail, h => by simp [boxesR, parts, boxesR_parts tail h]
theorem nbox_le : ∀ {d : Nat} {r : Rg}, Form d r → nbox r ≤ r.size + 1 ∧ (0 < d → nbox r ≤ r.size)
  | d, .nil x f, h => by
    refine ⟨by unfold nbox; split <;> simp [Rg.size], fun hd => ?_⟩
    cases d with
    | zero => omega
    | succ d =>
      have h2 : f = false := h.2.1
      subst h2
      simp [nbox]
  | 0, .cons vs rest tail, h => by have := h.2; simp [parts] at this
  | d + 1, .cons vs rest tail, h => by
    obtain ⟨h1, h2, h3, h4⟩ := h
    have hr := (nbox_le (h3 (vs, rest) (by simp [parts])).2.2.1).1
    have ht := (nbox_le (d := d + 1) (r := tail) ⟨h1, h2, fun p hp => h3 p (by simp [parts, hp]), by
      have := h4
      simp only [parts, List.pairwise_cons] at this
      exact this.2⟩).2 (by omega)
    simp only [nbox, Rg.size]
    dsimp only at hr
    omega
theorem boxesR_row : ∀ {d : Nat} {r : Rg}, Form d r → ∀ b ∈ boxesR r, b.length = d
  | d, .nil x f, h, b, hb => by
    unfold boxesR at hb
    split at hb
    · rename_i hf
      cases d with
      | zero => rw [List.mem_singleton] at hb; rw [hb]; rfl
      | succ d =>
        have h2 : f = false := h.2.1
        rw [h2] at hf
        cases hf
    · cases hb
  | 0, .cons vs rest tail, h, _, _ => by have := h.2; simp [parts] at this
  | d + 1, .cons vs rest tail, h, b, hb => by
    obtain ⟨h1, h2, h3, h4⟩ := h
    unfold boxesR at hb
    rcases List.mem_append.1 hb with hb | hb
    · obtain ⟨q, hq, rfl⟩ := List.mem_map.1 hb
      have := boxesR_row (h3 (vs, rest) (by simp [parts])).2.2.1 q hq
      rw [List.length_cons, this]
    · exact boxesR_row (d := d + 1) (r := tail) ⟨h1, h2, fun p hp => h3 p (by simp [parts, hp]), by
        have := h4
        simp only [parts, List.pairwise_cons] at this
        exact this.2⟩ b hb
/-- a box that was built: where its row lies, and its sets -/
abbrev BoxP := (Option Addr × Nat × Nat) × List SetP
def bxc (e : BoxP) : List Value := [.slice e.1.1 e.1.2.1 e.1.2.2]
theorem bxc_len (e : BoxP) : (bxc e).length = 1 := rfl
theorem one_bx (e : BoxP) : ∀ u ∈ bxc e, u.oneCell' = true := by simp [bxc, Value.oneCell']
structure BoxE (B : Nat) (W w : World) (e : BoxP) : Prop where
  own : w.ownsRow B 72 1 (.slice e.1.1 e.1.2.1 e.1.2.2) e.1.2.1 (e.2.flatMap setc)
  len : e.2.length = e.1.2.1
  set : ∀ p ∈ e.2, okS p.1.1 p.1.2.1 p.1.2.2 ∧ p.1.2.1 ≤ 1000000 ∧ IvS W p.1.1 p.1.2.1 p.2
theorem BoxE.but {B : Nat} {W w w' : World} {e : BoxP} {S : Nat → Prop} (h : BoxE B W w e) (hb : But S w w') (hs : ∀ k, (Value.slice e.1.1 e.1.2.1 e.1.2.2).ownBlock = some k → ¬ S k) : BoxE B W w' e := ⟨own_but h.own hb hs, h.len, h.set⟩
theorem BoxE.below {B : Nat} {W w w' : World} {e : BoxP} (h : BoxE B W w e) (hb : Below w.heap.size w w') : BoxE B W w' e := h.but (S := fun _ => False) (But.of_below hb) (fun _ _ h => h)
/-- what boxes returns -/
def BoxOut (W w : World) (r : Rg) (e : Ending) (w' : World) : Prop :=
  ∃ (A : Option Addr) (n c : Nat) (es : List BoxP), e = .returned (.slice A n c) ∧ w'.ownsRow w.heap.size 71 1 (.slice A n c) n (es.flatMap bxc) ∧ es.length = n ∧ (∀ x ∈ es, BoxE w.heap.size W w' x) ∧ es.map (fun x => x.2.map (·.2)) = boxesR r ∧ Below w.heap.size w w'
/-- the state of the loops -/
structure BxS (W w : World) (A : Option Addr) (t c : Nat) (es : List BoxP) (wr : World) : Prop where
  own : wr.ownsRow (w.heap.size + 1) 71 1 (.slice A t c) t (es.flatMap bxc)
  len : es.length = t
  el : ∀ x ∈ es, BoxE (w.heap.size + 1) W wr x
  bel : Below w.heap.size w wr
  lo : w.heap.size + 1 ≤ wr.heap.size
theorem BxS.below {W w wr w' : World} {A : Option Addr} {t c : Nat} {es : List BoxP} (h : BxS W w A t c es wr) (hb : Below wr.heap.size wr w') : BxS W w A t c es w' :=
  ⟨own_at h.own fun g _ hl _ => hb.block g hl, h.len, fun x hx => (h.el x hx).below hb, Below.next h.bel hb, Nat.le_trans h.lo hb.size⟩
theorem own_mono {w : World} {B B' : Nat} {e : TypeId} {sz n : Nat} {v : Value} {xs : List Value} (h : w.ownsRow B e sz v n xs) (hB : B' ≤ B) : w.ownsRow B' e sz v n xs := by
  refine ⟨h.1, ?_⟩
  rcases h.2 with h2 | ⟨g, cap, cur, h3, h4, h5⟩
  · exact .inl h2
  · exact .inr ⟨g, cap, cur, h3, Nat.le_trans hB h4, h5⟩
/-- one box more -/
theorem BxS.more {W w wr w' : World} {A : Option Addr} {t c : Nat} {es : List BoxP} (h : BxS W w A t c es wr) {x : BoxP} (hx : BoxE (w.heap.size + 1) W wr x) {A' : Option Addr} {c' : Nat} (hown : w'.ownsRow (w.heap.size + 1) 71 1 (.slice A' (t + 1) c') (t + 1) (es.flatMap bxc ++ bxc x))
    (hb : But (fun q => (Value.slice A t c).ownBlock = some q) wr w') : BxS W w A' (t + 1) c' (es ++ [x]) w' := by
  refine ⟨by rw [List.flatMap_append]; simpa using hown, by simp [h.len], fun q hq => ?_, hb.below h.bel h.bel.size (fun q hq => by have := (own_lt h.own hq).1; omega), Nat.le_trans h.lo hb.size⟩
  have hq' : BoxE (w.heap.size + 1) W wr q := by
    rcases List.mem_append.1 hq with hq | hq
    · exact h.el q hq
    · rw [List.mem_singleton.1 hq]
      exact hx
  exact hq'.but hb fun k hk hs => own_types hq'.own h.own (by decide) hk hs
theorem BxS.out {W w wr : World} {A : Option Addr} {t c : Nat} {es : List BoxP} {r : Rg} (h : BxS W w A t c es wr) (he : es.map (fun x => x.2.map (·.2)) = boxesR r) : BoxOut W w r (.returned (.slice A t c)) wr :=
  ⟨A, t, c, es, rfl, own_mono h.own (Nat.le_succ _), h.len, fun x hx => ⟨own_mono (h.el x hx).own (Nat.le_succ _), (h.el x hx).len, (h.el x hx).set⟩, he, h.bel⟩
theorem info_bx : (Tryz.prog.info? 71).map (fun i => (i.zero, i.size, i.bytes)) = some (some (.slice none 0 0), 1, 24) := by kernel_rfl
set_option maxHeartbeats 8000000 in
theorem gboxes_any (W : World) (d : Nat) : ∀ (r : Rg) (x : Int) (f : Bool) (A : Option Addr) (n c : Nat) (w : World), d ≤ 12 → FormF d r → r.size ≤ 64 → RgS W x f A n c r → Below W.heap.size W w →
    Calls Tryz.prog 102 #[.agg #[.int .i64 x, .bool f, .slice A n c]] w fun e w' => BoxOut W w r e w' := by
  induction d using Nat.strongRecOn with
  | _ d ih =>
    intro r x f A n c w hd hF hsz hR hW
    obtain ⟨il, hil, hl0, hl1, hl2⟩ := info_parts info_lst
    obtain ⟨ib, hib, hb0, hb1, hb2⟩ := info_parts info_bx
    have HT := Lib.hid (Blk.new w 27 #[.int .i64 x, .bool f, .slice A n c])
    have HB := Lib.hid ((Below.refl w.heap.size w).alloc (Nat.le_refl _) (.cells #[.int .i64 x, .bool f, .slice A n c] 27))
    have hff := hR.hf
    have HF := Lib.hid hF
    have Hsz := Lib.hid hsz
    have HR := Lib.hid hR
    have HI := Lib.hid ih
    have HW := Lib.hid hW
    have hn64 : n ≤ 64 := by have := hR.len; have := len_le_size r; omega
    have hnb : nbox r ≤ 65 := by have := (nbox_le hF.1).1; omega
    have HNB := Lib.hid hnb
    have hs1 : (w.alloc (.cells #[.int .i64 x, .bool f, .slice A n c] 27)).heap.size = w.heap.size + 1 := World.size_alloc _ _
    clear hF hsz hR ih hW hnb
    generalize hW0 : w.alloc (.cells #[.int .i64 x, .bool f, .slice A n c] 27) = W0 at *
    have zo := HT.out.cell
    go_enter Tryz.func102, Tryz.ntmps102
    go_upto_region 1 with fail
    try rw [hW0]
    clear hW0
    cases f
    · go_wp2_with fail
      go_loopw [14, 3] (fun i v wr => ∃ (k t : Nat) (A' : Option Addr) (c' : Nat) (es : List BoxP), k ≤ n ∧ i = .int .i64 (k : Int) ∧ v = .slice A' t c' ∧ Hid (BxS W w A' t c' es wr) ∧ Hid (es.map (fun x => x.2.map (·.2)) = (r.parts.take k).flatMap fun p => (boxesR p.2).map (p.1 :: ·))) (fun i _ _ => n - (intOf i).toNat)
      case atStart => exact ⟨0, 0, none, 0, [], by omega, rfl, rfl, Lib.hid ⟨⟨by simp, .inl ⟨rfl, rfl⟩⟩, rfl, (fun x hx => by cases hx), HB.out, by omega⟩, Lib.hid (by simp)⟩
      case round =>
        clear zo
        obtain ⟨k, t, A', c', es, hk, rfl, rfl, HQ, He⟩ := hrel
        by_cases hkn : k < n
        · obtain ⟨b, o, p, A1, n1, c1, px, pf, A2, n2, c2, rfl, hp, hptW, hpt⟩ := HR.out.at2 (keeps_of (Below.next HW.out HQ.out.bel)) hkn
          have hdp : 0 < d := by
            rcases Nat.eq_zero_or_pos d with h | h
            · subst h
              have h1 := HF.out.1.2
              rw [h1] at hp
              simp at hp
            · exact h
          have Hfv := Lib.hid (fits_valid (d := d - 1) (by rw [show d - 1 + 1 = d by omega]; exact HF.out) (List.mem_of_getElem? hp))
          have Hps := Lib.hid (show p.2.size ≤ 64 by have := size_at hp; have := Hsz.out; omega)
          have Htk := Lib.hid (take_snoc' hp)
          have HPW := Lib.hid hptW
          have Ht := Lib.hid HQ.out.len
          have Hp := Lib.hid hp
          obtain ⟨d0, d1, d2, d3, hk3, hk4, hk5⟩ := hpt
          have hal : Below wr.heap.size wr (wr.alloc (.cells #[.slice A1 n1 c1, .int .i64 px, .bool pf, .slice A2 n2 c2] 86)) := (Below.refl _ _).alloc (Nat.le_refl _) _
          have HPB := Lib.hid (Blk.new wr 86 #[.slice A1 n1 c1, .int .i64 px, .bool pf, .slice A2 n2 c2])
          have HQ1 := Lib.hid (HQ.out.below hal)
          have hown0 : ∀ q, (Value.slice A' t c').ownBlock = some q → q < wr.heap.size := fun q hq => (own_lt HQ.out.own hq).2.1
          have HO0 := Lib.hid hown0
          have hwr : w.heap.size + 1 ≤ wr.heap.size := HQ.out.lo
          clear hk3 hk4 hk5 hptW hp hown0
          go_upto_region 7 with fail
          have HW1 : Hid (wr.heap.size ≤ (wr.alloc (.cells #[.slice A1 n1 c1, .int .i64 px, .bool pf, .slice A2 n2 c2] 86)).heap.size) := Lib.hid hal.size
          generalize hW1 : wr.alloc (.cells #[.slice A1 n1 c1, .int .i64 px, .bool pf, .slice A2 n2 c2] 86) = W1 at *
          clear hW1 hal d0 d1 d2 d3 HQ
          generalize hV5 : wr.heap.size = V5 at *
          have zp := HPB.out.cell
          go_wp2_with fail
          refine (HI.out (d - 1) (by omega) p.2 px pf A2 n2 c2 _ (by omega) Hfv.out.2.2 Hps.out HPW.out.rg (Below.next HW.out HQ1.out.bel)).mono ?_
          rintro e w2 ⟨A5, n5, c5, es5, rfl, hown5, hlen5, hel5, heq5, hb2⟩
          have hn5 : n5 ≤ 65 := by
            have h1 := (nbox_le Hfv.out.2.2.1).1
            have h2 := Hps.out
            rw [← boxesR_len, ← heq5, List.length_map] at h1
            omega
          have HQ2 := Lib.hid (HQ1.out.below hb2)
          have HPB2 := Lib.hid (HPB.out.below hb2)
          have H5 := Lib.hid (And.intro hown5 (And.intro hlen5 (And.intro hel5 heq5)))
          have hs2 : V5 < w2.heap.size := HPB2.out.lt
          clear hown5 hlen5 hel5 heq5 hb2 zp HQ1 HPB
          go_wp2_with fail
          go_loopw [22, 3] (fun i v wr => ∃ (j t2 : Nat) (A6 : Option Addr) (c6 : Nat) (es6 : List BoxP), j ≤ n5 ∧ i = .int .i64 (j : Int) ∧ v = .slice A6 t2 c6 ∧ Hid (BxS W w A6 t2 c6 es6 wr) ∧ Hid (es6.map (fun x => x.2.map (·.2)) = ((r.parts.take k).flatMap fun p => (boxesR p.2).map (p.1 :: ·)) ++ ((boxesR p.2).take j).map (p.1 :: ·)) ∧ Hid ((∀ q, V5 ≤ q → q < w2.heap.size → wr.heap[q]? = w2.heap[q]?) ∧ (∀ q, (Value.slice A6 t2 c6).ownBlock = some q → q < V5 ∨ w2.heap.size ≤ q) ∧ w2.heap.size ≤ wr.heap.size ∧ t2 = t + j)) (fun i _ _ => n5 - (intOf i).toNat)
          case atStart => exact ⟨0, t, A', c', es, by omega, rfl, rfl, HQ2, Lib.hid (by rw [He.out]; simp), Lib.hid ⟨fun _ _ _ => rfl, fun q hq => .inl (HO0.out q hq), Nat.le_refl _, rfl⟩⟩
          case round =>
            obtain ⟨j, t2, A6, c6, es6, hj, rfl, rfl, HS, He6, HM⟩ := hrel
            by_cases hjn : j < n5
            · have hxl : j < es5.length := by rw [H5.out.2.1]; exact hjn
              obtain ⟨⟨⟨A8, m8, c8⟩, l8⟩, he5⟩ : ∃ e5, es5[j]? = some e5 := ⟨_, List.getElem?_eq_getElem hxl⟩
              have hel := H5.out.2.2.1 ((A8, m8, c8), l8) (List.mem_of_getElem? he5)
              have hbj : (boxesR p.2)[j]? = some (l8.map (·.2)) := by
                rw [← H5.out.2.2.2, List.getElem?_map, he5]
                rfl
              have hrow : l8.length ≤ 12 := by
                have h1 := boxesR_row Hfv.out.2.2.1 _ (List.mem_of_getElem? hbj)
                rw [List.length_map] at h1
                omega
              have hw1 : V5 ≤ W1.heap.size := HW1.out
              have hkp : ∀ q, W1.heap.size ≤ q → q < w2.heap.size → wr.heap[q]? = w2.heap[q]? := fun q h1 h2 => HM.out.1 q (Nat.le_trans hw1 h1) h2
              have hl5 := own_at H5.out.1 (fun q h1 h2 _ => hkp q h1 h2)
              have hr5 := own_at hel.own (fun q h1 h2 _ => hkp q h1 h2)
              have hpb : Blk wr V5 86 #[.slice A1 n1 c1, .int .i64 px, .bool pf, .slice A2 n2 c2] := (HM.out.1 _ (Nat.le_refl _) hs2).trans HPB2.out
              obtain ⟨b5, o5, ea, hcl⟩ := (Sl.of_own bxc_len H5.out.2.1 hl5).2 (by omega)
              have d0 : wr.cell? ⟨b5, o5 + j, none⟩ = some (.slice A8 m8 c8) := by simpa using hcl j ((A8, m8, c8), l8) he5 0 _ rfl
              have zp := hpb.cell
              subst ea
              have hnil5 : A8 = none → m8 = 0 ∧ c8 = 0 := (own_okS hr5).2
              have HR5 := Lib.hid (Sl.of_own setc_len hel.len hr5)
              have hm12 : m8 ≤ 12 := by have h1 := hel.len; dsimp only at h1; omega
              have HEL := Lib.hid hel
              have HBJ := Lib.hid hbj
              have hrs : w.heap.size + 1 ≤ wr.heap.size := HS.out.lo
              have hlen6 := HS.out.len
              have ht2 : t2 ≤ 130 := by
                have h1 := HM.out.2.2.2
                have h2 : t ≤ 65 := by
                  have h3 := congrArg List.length He.out
                  rw [List.length_map] at h3
                  have h4 : ((r.parts.take k).flatMap fun p => (boxesR p.2).map (p.1 :: ·)).length ≤ (boxesR r).length := by
                    rw [boxesR_parts r hff, ← List.take_append_drop k r.parts, List.flatMap_append, List.length_append, List.take_append_drop]
                    exact Nat.le_add_right _ _
                  rw [boxesR_len] at h4
                  have h5 := HNB.out
                  have h6 := Ht.out
                  omega
                omega
              clear hel hrow hbj hkp hl5 hr5 hpb hcl he5 hxl
              have hown1 : (wr.alloc (.cells #[.slice A1 n1 c1] 72)).ownsRow (w.heap.size + 1) 72 1 (.slice (some ⟨wr.heap.size, 0, none⟩) 1 1) 1 (([((A1, n1, c1), p.1)] : List SetP).flatMap setc) := ⟨rfl, .inr ⟨wr.heap.size, 1, _, rfl, hrs, Blk.new _ _ _, Nat.le_refl 1, Nat.le_of_ble_eq_true rfl, rfl, rfl⟩⟩
              go_upto_region 11 with (first
                | (at_builtin; refine wpList_append_sf (cs := setc) (wr.alloc (.cells #[.slice A1 n1 c1] 72)) (by rfl) _ (.tmp 30) _ (by rfl) (w.heap.size + 1) 72 il _ 1 24 Tryz.underlying71 hil hl0 hl1 hl2 (by rfl) (by omega) (.slice (some ⟨wr.heap.size, 0, none⟩) 1 1) 1 [((A1, n1, c1), p.1)] (by rfl) hown1 A8 m8 c8 l8 (by rfl) (HR5.out.keep (keeps_alloc _ _)) hnil5 setc_len one_set (by simp only [maxLen]; omega) (by omega) (by simp; omega) ?_; intro A7 c7 w7 hown7 hg7 hB7 hat7 hnil7
                   have hbf7 : Below wr.heap.size wr w7 := ((Below.refl _ _).alloc (Nat.le_refl _) (.cells #[.slice A1 n1 c1] 72)).grown hg7 (by simp) (fun k hk => by simp only [Value.ownBlock, Option.some.injEq] at hk; omega)
                   have HS7 := Lib.hid (HS.out.below hbf7)
                   have HOW7 := Lib.hid hown7
                   have HB7 := Lib.hid hbf7
                   have hs7 := hbf7.size
                   clear hown7 hg7 hB7 hat7 hnil7 hbf7 hown1 hnil5)
                | (at_builtin; refine wpList_append_one2 (by rfl) (.tmp 26) (.tmp 32) _ (by rfl) (w.heap.size + 1) 71 ib _ 1 24 Tryz.underlying81 hib hb0 hb1 hb2 (by rfl) (by omega) (.slice A6 t2 c6) t2 _ (by rfl) w7 #[.slice A7 (1 + m8) c7] HS7.out.own w7.heap.size (by rfl) (by rfl) (by rfl) (one_bx ((A7, 1 + m8, c7), [])) (by simp only [maxLen]; omega) (by omega) HS7.out.lo ?_; intro g9 cap9 w9 hown9 hg9 hB9 hat9 hlt9))
              have hbu : But (fun q => (Value.slice A6 t2 c6).ownBlock = some q) w7 w9 := (But.alloc _ _).trans (But.of_grown hg9 (fun q hq => hq))
              have HX : Hid (BoxE (w.heap.size + 1) W w7 ((A7, 1 + m8, c7), ((A1, n1, c1), p.1) :: l8)) := Lib.hid ⟨HOW7.out, by show l8.length + 1 = 1 + m8; have := HEL.out.len; dsimp only at this; omega, fun q hq => by
                rcases List.mem_cons.1 hq with rfl | hq
                · exact ⟨HPW.out.ok, by have h1 := HPW.out.vs.len; have h2 := Hfv.out.2.1; show n1 ≤ 1000000; omega, HPW.out.vs⟩
                · exact HEL.out.set q hq⟩
              have HS9 := Lib.hid (HS7.out.more HX.out (by simpa [bxc] using hown9) hbu)
              have He9 : Hid ((es6 ++ [((A7, 1 + m8, c7), ((A1, n1, c1), p.1) :: l8)]).map (fun x => x.2.map (·.2)) = ((r.parts.take k).flatMap fun p => (boxesR p.2).map (p.1 :: ·)) ++ ((boxesR p.2).take (j + 1)).map (p.1 :: ·)) := Lib.hid (by
                rw [List.map_append, He6.out, take_snoc' HBJ.out, List.map_append, List.append_assoc]
                rfl)
              have HM9 : Hid ((∀ q, V5 ≤ q → q < w2.heap.size → w9.heap[q]? = w2.heap[q]?) ∧ (∀ q, (Value.slice (some ⟨g9, 0, none⟩) (t2 + 1) cap9).ownBlock = some q → q < V5 ∨ w2.heap.size ≤ q) ∧ w2.heap.size ≤ w9.heap.size ∧ t2 + 1 = t + (j + 1)) := by
                have h1 := HM.out.2.2.1
                have h2 := hbu.size
                refine Lib.hid ⟨fun q q1 q2 => ?_, fun q hq => ?_, by omega, by have := HM.out.2.2.2; omega⟩
                · rw [hbu.block q (by omega) (fun hs => by have := HM.out.2.1 q hs; omega), HB7.out.block q (by omega)]
                  exact HM.out.1 q q1 q2
                · simp only [Value.ownBlock, Option.some.injEq] at hq
                  subst hq
                  rcases hat9 with e | e
                  · exact HM.out.2.1 _ e
                  · right
                    omega
              clear hown9 hg9 hB9 hat9 hlt9 hbu HX HS7 HS He6 HM
              go_wp2
              go_roundw
              case rel => exact ⟨j + 1, t2 + 1, some ⟨g9, 0, none⟩, cap9, _, by omega, by go_num, rfl, HS9, He9, HM9⟩
              case measure => simp [intOf]; omega
            · obtain rfl : j = n5 := by omega
              have hE2 : es6.map (fun x => x.2.map (·.2)) = (r.parts.take (k + 1)).flatMap fun p => (boxesR p.2).map (p.1 :: ·) := by
                rw [He6.out, show (boxesR p.2).take j = boxesR p.2 from List.take_of_length_le (by rw [← H5.out.2.2.2, List.length_map, H5.out.2.1]; exact Nat.le_refl _), Htk.out, List.flatMap_append]
                simp
              have HE2 := Lib.hid hE2
              clear hE2
              go_wp2
              go_roundw
              case rel => exact ⟨k + 1, t2, A6, c6, es6, by omega, by go_num, rfl, HS, HE2⟩
              case measure => simp [intOf]; omega
        · obtain rfl : k = n := by omega
          have hEq : es.map (fun x => x.2.map (·.2)) = boxesR r := by
            rw [He.out, List.take_of_length_le (by rw [len_parts, HR.out.len]; exact Nat.le_refl _), boxesR_parts r hff]
          have HE := Lib.hid (HQ.out.out hEq)
          clear hEq
          go_wp2
          go_ret
          exact HE.out
    · have hd0 : d = 0 := by
        rcases Nat.eq_zero_or_pos d with h | h
        · exact h
        · have h2 := HF.out.1
          rw [show d = (d - 1) + 1 by omega] at h2
          have := h2.2.1
          rw [hff] at this
          cases this
      have hbr : boxesR r = [[]] := by
        have h2 := HF.out.1
        rw [hd0] at h2
        cases r with
        | nil y g => simp only [Rg.f] at hff; simp [boxesR, hff]
        | cons vs rest tail => have := h2.2; simp [parts] at this
      have hba : Below W0.heap.size W0 (W0.alloc (.cells #[.slice none 0 0] 71)) := (Below.refl _ _).alloc (Nat.le_refl _) _
      have HE : Hid (BoxOut W w r (.returned (.slice (some ⟨w.heap.size + 1, 0, none⟩) 1 1)) (W0.alloc (.cells #[.slice none 0 0] 71))) := by
        have h := Blk.new W0 71 #[.slice none 0 0]
        rw [hs1] at h
        refine Lib.hid ⟨_, 1, 1, [((none, 0, 0), [])], rfl, ⟨rfl, .inr ⟨w.heap.size + 1, 1, _, rfl, by omega, h, Nat.le_refl 1, Nat.le_of_ble_eq_true rfl, rfl, rfl⟩⟩, rfl, fun x hx => ?_, by rw [hbr]; rfl, Below.next HB.out hba⟩
        rw [List.mem_singleton] at hx
        subst hx
        exact ⟨⟨by simp, .inl ⟨rfl, rfl⟩⟩, rfl, (fun p hp => by cases hp)⟩
      clear hba hbr hd0 hff
      go_wp2
      go_ret
      exact HE.out
end Go.Proofs.YtmnmckblmoalkaaGreat
