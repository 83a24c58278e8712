/-
  Texts: GShape, ProjP, Pds4.
-/
import Derived.Test.YtmnmckblmoalkaaGreatB44
set_option linter.unusedVariables false
/-
  The functions that the program's Project and Lift hand to unite: which sets they make of the sets of a box. The reference's list of full sets, with its memory.
-/
namespace Go.Proofs.YtmnmckblmoalkaaGreat
open Go.RowKit
set_option maxRecDepth 100000

def noSet : SetP := ((none, 0, 0), [])
/-- the set at a column -/
def pk (ps : List SetP) (c : Int) : SetP := ps.getD c.toNat noSet
/-- the sets of the chosen columns -/
def pickL (cs : List Int) (b : List (List Iv)) : List (List Iv) := cs.map fun c => b.getD c.toNat []
theorem pk_map (ps : List SetP) (cs : List Int) : (cs.map (pk ps)).map (·.2) = pickL cs (ps.map (·.2)) := by
  unfold pickL
  rw [List.map_map]
  refine List.map_congr_left fun c _ => ?_
  simp only [Function.comp, pk, List.getD_eq_getElem?_getD, List.getElem?_map]
  cases ps[c.toNat]? <;> rfl
theorem pk_mem {ps : List SetP} {c : Int} (h0 : 0 ≤ c) (h1 : c < (ps.length : Int)) : pk ps c ∈ ps := by
  have h : c.toNat < ps.length := by omega
  unfold pk
  rw [List.getD_eq_getElem?_getD, List.getElem?_eq_getElem h]
  exact List.getElem_mem h
theorem pk_at {ps : List SetP} {k : Nat} {p : SetP} (h : ps[k]? = some p) : pk ps (k : Int) = p := by
  unfold pk
  rw [Int.toNat_natCast, List.getD_eq_getElem?_getD, h]
  rfl
/-- sets that were made -/
def ShOut (w : World) (ls : List (List Iv)) (e : Ending) (w' : World) : Prop := ∃ (A : Option Addr) (n c : Nat) (qs : List SetP), e = .returned (.slice A n c) ∧ SetsS w' A n qs ∧ qs.map (·.2) = ls ∧ Below w.heap.size w w'
theorem mk_slices (n : Nat) : (madeCells (Value.slice none 0 0).cells (n * 1)).toList = List.replicate n (Value.slice none 0 0) := by
  have h1 : ∀ i : Nat, (Value.slice none 0 0).cells[i % (Value.slice none 0 0).cells.size]! = Value.slice none 0 0 := fun i => by
    show (#[Value.slice none 0 0] : Array Value)[i % 1]! = _
    rw [Nat.mod_one]
    rfl
  unfold madeCells
  rw [Nat.mul_one, Array.toList_map, List.eq_replicate_iff]
  exact ⟨by simp, fun b hb => by
    obtain ⟨i, _, rfl⟩ := List.mem_map.1 hb
    exact h1 i⟩
set_option maxHeartbeats 2000000 in
theorem gpick_any (A : Option Addr) (n c : Nat) (ps : List SetP) (q : Nat) (Ac : Option Addr) (m cc : Nat) (cs : List Int) (w : World) (hs : SetsS w A n ps) (hq : Blk w q 30 #[.slice Ac m cc]) (hc : ClS w Ac m cs) (hcs : ∀ x ∈ cs, 0 ≤ x ∧ x < (n : Int)) (hm : m ≤ 12) (hn : n ≤ 12) :
    Calls Tryz.prog 53 #[.slice A n c, .pointer (some ⟨q, 0, none⟩)] w fun e w' => ShOut w (pickL cs (ps.map (·.2))) e w' := by
  obtain ⟨il, hil, hl0, hl1, hl2⟩ := info_parts info_lst
  have HS := Lib.hid hs
  have HQ := Lib.hid hq
  have HC := Lib.hid hc
  have HCS := Lib.hid hcs
  have Hln := Lib.hid hs.sl.len
  have Hlc := Lib.hid hc.len
  have zq := hq.cell
  clear hs hc hcs hq
  go_enter Tryz.func53, Tryz.ntmps53
  go_wp2_with (at_make; refine wpList_make_full _ rfl _ _ 71 rfl w.heap.size 72 il (.slice none 0 0) 1 Tryz.underlying71 hil hl0 hl1 .i64 .i64 _ _ m rfl rfl rfl rfl (by rw [hl2]; omega) (by unfold maxLen; omega) (by omega) ?_; intro w1 hown1 hgrow1; have hb01 : Below w.heap.size w w1 := fresh_none hgrow1; have HB1 := Lib.hid hb01; have HOW1 := Lib.hid hown1; rw [mk_slices] at HOW1; have HQ1 := Lib.hid (HQ.out.below hb01); clear hown1 hgrow1 hb01 zq; have zq := HQ1.out.cell)
  go_loopw [12] (fun i wr => ∃ (k : Nat) (qs : List SetP), k ≤ m ∧ i = .int .i64 (k : Int) ∧ Hid (wr.ownsRow w.heap.size 72 1 (.slice (some ⟨w.heap.size, 0, none⟩) m m) m (qs.flatMap setc ++ List.replicate (m - k) (Value.slice none 0 0))) ∧ Hid (qs = (cs.take k).map (pk ps)) ∧ Hid (Below w.heap.size w wr)) (fun i _ => m - (intOf i).toNat)
  case atStart => exact ⟨0, [], by omega, rfl, Lib.hid (by simpa using HOW1.out), Lib.hid (by simp), HB1⟩
  case round =>
    clear HOW1 HB1 zq
    obtain ⟨k, qs, hk, rfl, HOW, Hqs, HB⟩ := hrel
    have hQr := HQ.out.below HB.out
    have zq := hQr.cell
    have hql : qs.length = k := by rw [Hqs.out, List.length_map, List.length_take, Hlc.out]; omega
    have Hql := Lib.hid hql
    clear hql
    by_cases hlt : k < m
    · obtain ⟨bc, oc, x, rfl, hx, hxc⟩ := (HC.out.keep (keeps_of HB.out)).at hlt
      have d0 := hxc 0 _ rfl
      simp only [Nat.mul_one, Nat.add_zero] at d0
      have hxr := HCS.out x (List.mem_of_getElem? hx)
      have Hx := Lib.hid hx
      clear hx hxc
      obtain ⟨j, rfl⟩ := Int.eq_ofNat_of_zero_le hxr.1
      have hj : j < n := by omega
      clear hxr
      obtain ⟨b, o, p, rfl, hp, hpc⟩ := (HS.out.keep (keeps_of HB.out)).sl.at hj
      obtain ⟨⟨A1, n1, c1⟩, l1⟩ := p
      have d1 := hpc 0 _ rfl
      simp only [Nat.mul_one, Nat.add_zero] at d1
      have Hp := Lib.hid hp
      clear hp hpc hQr
      have hfl : (qs.flatMap setc).length = k := by rw [flat_len setc_len, Hql.out, Nat.mul_one]
      have hcc := HOW.out.cells (g := w.heap.size) rfl k (.slice none 0 0) (by rw [List.getElem?_append_right (by omega), hfl, Nat.sub_self, show m - k = (m - k - 1) + 1 by omega, List.replicate_succ]; rfl)
      rw [add_at, Nat.zero_add] at hcc
      have hfz := fun z => HOW.out.frozenAt z
      have HFL := Lib.hid hfl
      clear hfl
      go_wp2
      go_roundw
      case rel =>
        refine ⟨k + 1, qs ++ [((A1, n1, c1), l1)], by omega, by go_num, Lib.hid ?_, Lib.hid ?_, Lib.hid (HB.out.setCell (p := ⟨w.heap.size, k, none⟩) (Nat.le_refl _) _)⟩
        · have h1 := (HOW.out.stored k (.slice A1 n1 c1)).1
          rw [set_rep HFL.out hlt] at h1
          rw [List.flatMap_append]
          exact h1
        · rw [take_snocI Hx.out, List.map_append, ← Hqs.out, List.map_singleton, pk_at Hp.out]
      case measure => simp [intOf]; omega
    · obtain rfl : k = m := by omega
      have HE : Hid (ShOut w (pickL cs (ps.map (·.2))) (.returned (.slice (some ⟨w.heap.size, 0, none⟩) k k)) wr) := by
        refine Lib.hid ⟨_, _, _, qs, rfl, ⟨?_, fun p hp => ?_⟩, ?_, HB.out⟩
        · refine Sl.of_own (base := w.heap.size) (e := 72) (c := k) setc_len Hql.out ?_
          have h1 := HOW.out
          rwa [Nat.sub_self, List.replicate_zero, List.append_nil] at h1
        · rw [Hqs.out] at hp
          obtain ⟨x, hx, rfl⟩ := List.mem_map.1 hp
          have h1 := HCS.out x (List.mem_of_mem_take hx)
          have h2 := HS.out.ok _ (pk_mem (ps := ps) h1.1 (by rw [Hln.out]; exact h1.2))
          exact ⟨h2.1, h2.2.1, h2.2.2.keep (keeps_of HB.out)⟩
        · rw [Hqs.out, pk_map, List.take_of_length_le (by rw [Hlc.out]; exact Nat.le_refl _)]
      clear hQr
      go_wp2
      go_ret
      exact HE.out
/-- the sets of a box in their columns, all others full -/
def liftK (N : Nat) (cs : List Int) (b : List (List Iv)) (k : Nat) : List (List Iv) := ((cs.zip b).take k).foldl (fun acc e => acc.set e.1.toNat e.2) (List.replicate N allL)
def liftL (N : Nat) (cs : List Int) (b : List (List Iv)) : List (List Iv) := liftK N cs b (cs.zip b).length
theorem liftK_succ {N : Nat} {cs : List Int} {b : List (List Iv)} {k : Nat} {c : Int} {s : List Iv} (h1 : cs[k]? = some c) (h2 : b[k]? = some s) : liftK N cs b (k + 1) = (liftK N cs b k).set c.toNat s := by
  have h : (cs.zip b)[k]? = some (c, s) := by
    rw [List.getElem?_zip_eq_some]
    exact ⟨h1, h2⟩
  unfold liftK
  rw [List.take_add_one, h, List.foldl_append]
  rfl
theorem liftK_len (N : Nat) (cs : List Int) (b : List (List Iv)) (k : Nat) : (liftK N cs b k).length = N := by
  unfold liftK
  generalize (cs.zip b).take k = l
  have key : ∀ (l : List (Int × List Iv)) (a : List (List Iv)), a.length = N → (l.foldl (fun acc e => acc.set e.1.toNat e.2) a).length = N := by
    intro l
    induction l with
    | nil => exact fun a h => h
    | cons x l ih => exact fun a h => ih _ (by simpa using h)
  exact key l _ (by simp)
/-- a row of sets of its own, each from elsewhere or full -/
structure LfS (w : World) (B : Nat) (A : Option Addr) (N c : Nat) (ps qs : List SetP) : Prop where
  own : w.ownsRow B 72 1 (.slice A N c) N (qs.flatMap setc)
  len : qs.length = N
  el : ∀ q ∈ qs, q ∈ ps ∨ AllP w q
theorem LfS.sets {w0 w : World} {B : Nat} {A A0 : Option Addr} {N c n0 : Nat} {ps qs : List SetP} (h : LfS w B A N c ps qs) (hs : SetsS w0 A0 n0 ps) (hb : Keeps w0 w) : SetsS w A N qs := by
  refine ⟨Sl.of_own setc_len h.len h.own, fun q hq => ?_⟩
  rcases h.el q hq with h1 | ⟨g, rfl, h1⟩
  · have h2 := hs.ok q h1
    exact ⟨h2.1, h2.2.1, h2.2.2.keep hb⟩
  · exact ⟨⟨Nat.le_refl _, fun h => by cases h⟩, by show 1 ≤ 1000000; omega, all_iv h1⟩
theorem flat_setc (qs : List SetP) (j : Nat) (p : SetP) : (qs.set j p).flatMap setc = (qs.flatMap setc).set j (.slice p.1.1 p.1.2.1 p.1.2.2) := by
  induction qs generalizing j with
  | nil => rfl
  | cons q qs ih =>
    cases j with
    | zero => rfl
    | succ j =>
      rw [List.set_cons_succ, List.flatMap_cons, ih, List.flatMap_cons]
      rfl
/-- one set put into its column -/
theorem LfS.put {w : World} {B g : Nat} {N c : Nat} {ps qs : List SetP} (h : LfS w B (some ⟨g, 0, none⟩) N c ps qs) {p : SetP} (hp : p ∈ ps) (j : Nat) : LfS (w.setCell ⟨g, j, none⟩ (.slice p.1.1 p.1.2.1 p.1.2.2)) B (some ⟨g, 0, none⟩) N c ps (qs.set j p) := by
  have hbz : But (fun q => (Value.slice (some ⟨g, 0, none⟩) N c).ownBlock = some q) w (w.setCell ⟨g, j, none⟩ (.slice p.1.1 p.1.2.1 p.1.2.2)) := But.set (S := fun q => (Value.slice (some ⟨g, 0, none⟩) N c).ownBlock = some q) _ (p := ⟨g, j, none⟩) rfl _
  refine ⟨?_, by rw [List.length_set]; exact h.len, fun q hq => ?_⟩
  · have h1 := (h.own.stored j (.slice p.1.1 p.1.2.1 p.1.2.2)).1
    rw [← flat_setc] at h1
    exact h1
  · rcases List.mem_or_eq_of_mem_set hq with h2 | rfl
    · rcases h.el q h2 with h3 | h3
      · exact .inl h3
      · exact .inr (h3.but hbz (fun q hq cs => own_notI h.own hq cs))
    · exact .inl hp
theorem LfS.below {w w' : World} {B : Nat} {A : Option Addr} {N c : Nat} {ps qs : List SetP} (h : LfS w B A N c ps qs) (hb : Below w.heap.size w w') : LfS w' B A N c ps qs :=
  ⟨own_at h.own (fun q _ hl _ => hb.block q hl), h.len, fun q hq => (h.el q hq).imp id (·.below hb)⟩
theorem setAt (qs : List SetP) (j : Nat) (p : SetP) : (qs.set j p).map (·.2) = (qs.map (·.2)).set j p.2 := by rw [List.map_set]
set_option maxHeartbeats 4000000 in
theorem glift1_any (A : Option Addr) (n c : Nat) (ps : List SetP) (q1 q2 : Nat) (N : Nat) (Ac : Option Addr) (m cc : Nat) (cs : List Int) (w : World) (hs : SetsS w A n ps) (hq1 : Blk w q1 3 #[.int .i64 (N : Int)]) (hq2 : Blk w q2 30 #[.slice Ac m cc]) (hc : ClS w Ac m cs) (hcs : ∀ x ∈ cs, 0 ≤ x ∧ x < (N : Int)) (hm : m = n) (hn : n ≤ 12) (hN : N ≤ 12) :
    Calls Tryz.prog 58 #[.slice A n c, .pointer (some ⟨q1, 0, none⟩), .pointer (some ⟨q2, 0, none⟩)] w fun e w' => ShOut w (liftL N cs (ps.map (·.2))) e w' := by
  subst hm
  obtain ⟨il, hil, hl0, hl1, hl2⟩ := info_parts info_lst
  have HS := Lib.hid hs
  have HQ1 := Lib.hid hq1
  have HQ2 := Lib.hid hq2
  have HC := Lib.hid hc
  have HCS := Lib.hid hcs
  have Hln := Lib.hid hs.sl.len
  have Hlc := Lib.hid hc.len
  have zq := hq1.cell
  clear hs hc hcs hq1 hq2
  go_enter Tryz.func58, Tryz.ntmps58
  go_wp2_with (at_make; refine wpList_make_full _ rfl _ _ 71 rfl w.heap.size 72 il (.slice none 0 0) 1 Tryz.underlying71 hil hl0 hl1 .i64 .i64 _ _ N rfl rfl rfl rfl (by rw [hl2]; omega) (by unfold maxLen; omega) (by omega) ?_; intro w1 hown1 hgrow1; have hb01 : Below w.heap.size w w1 := fresh_none hgrow1; have HB1 := Lib.hid hb01; have HOW1 := Lib.hid hown1; rw [mk_slices] at HOW1; clear hown1 hgrow1 hb01 zq)
  go_loopw [13] (fun i wr => ∃ (k : Nat) (qs : List SetP), k ≤ N ∧ i = .int .i64 (k : Int) ∧ Hid (wr.ownsRow w.heap.size 72 1 (.slice (some ⟨w.heap.size, 0, none⟩) N N) N (qs.flatMap setc ++ List.replicate (N - k) (Value.slice none 0 0))) ∧ Hid (qs.length = k ∧ ∀ p ∈ qs, AllP wr p) ∧ Hid (Below w.heap.size w wr)) (fun i _ => N - (intOf i).toNat)
  case atStart => exact ⟨0, [], by omega, rfl, Lib.hid (by simpa using HOW1.out), Lib.hid ⟨rfl, by simp⟩, HB1⟩
  case round =>
    clear HOW1 HB1
    obtain ⟨k, qs, hk, rfl, HOW, HQ, HB⟩ := hrel
    by_cases hlt : k < N
    · go_wp2_with fail
      refine (gall2_any _).mono ?_
      rintro e w2 ⟨g, rfl, hS, hb2⟩
      have HOW2 := Lib.hid (own_at HOW.out (fun q _ hl _ => hb2.block q hl))
      have HB2 := Lib.hid (Below.next HB.out hb2)
      have HP2 : Hid (∀ p ∈ qs ++ [((some ⟨g, 0, none⟩, 1, 1), allL)], AllP w2 p) := Lib.hid fun p hp => by
        rcases List.mem_append.1 hp with hp | hp
        · exact (HQ.out.2 p hp).below hb2
        · exact ⟨g, List.mem_singleton.1 hp, hS⟩
      have hfl : (qs.flatMap setc).length = k := by rw [flat_len setc_len, HQ.out.1, Nat.mul_one]
      have hcc := HOW2.out.cells (g := w.heap.size) rfl k (.slice none 0 0) (by rw [List.getElem?_append_right (by omega), hfl, Nat.sub_self, show N - k = (N - k - 1) + 1 by omega, List.replicate_succ]; rfl)
      rw [add_at, Nat.zero_add] at hcc
      have hfz := fun z => HOW2.out.frozenAt z
      have HFL := Lib.hid hfl
      clear hS hb2 HOW HB hfl
      go_wp2
      go_roundw
      case rel =>
        have hbz : But (fun q => (Value.slice (some ⟨w.heap.size, 0, none⟩) N N).ownBlock = some q) w2 (w2.setCell ⟨w.heap.size, k, none⟩ (.slice (some ⟨g, 0, none⟩) 1 1)) := But.set (S := fun q => (Value.slice (some ⟨w.heap.size, 0, none⟩) N N).ownBlock = some q) _ (p := ⟨w.heap.size, k, none⟩) rfl _
        refine ⟨k + 1, qs ++ [((some ⟨g, 0, none⟩, 1, 1), allL)], by omega, by go_num, Lib.hid ?_, Lib.hid ⟨by simp [HQ.out.1], fun p hp => (HP2.out p hp).but hbz (fun q hq cs => own_notI HOW2.out hq cs)⟩, Lib.hid (HB2.out.setCell (p := ⟨w.heap.size, k, none⟩) (Nat.le_refl _) _)⟩
        have h1 := (HOW2.out.stored k (.slice (some ⟨g, 0, none⟩) 1 1)).1
        rw [set_rep HFL.out hlt] at h1
        rw [List.flatMap_append]
        exact h1
      case measure => simp [intOf]; omega
    · obtain rfl : k = N := by omega
      have HL : Hid (LfS wr w.heap.size (some ⟨w.heap.size, 0, none⟩) k k ps qs ∧ qs.map (·.2) = liftK k cs (ps.map (·.2)) 0) := by
        refine Lib.hid ⟨⟨?_, HQ.out.1, fun q hq => .inr (HQ.out.2 q hq)⟩, ?_⟩
        · have h1 := HOW.out
          rwa [Nat.sub_self, List.replicate_zero, List.append_nil] at h1
        · show _ = List.replicate k allL
          rw [List.eq_replicate_iff]
          refine ⟨by simp [HQ.out.1], fun l hl => ?_⟩
          obtain ⟨p, h, rfl⟩ := List.mem_map.1 hl
          obtain ⟨g, rfl, _⟩ := HQ.out.2 p h
          rfl
      clear HOW HQ hlt hk
      have zq := (HQ2.out.below HB.out).cell
      go_wp2_with fail
      clear zq
      go_loopw [23] (fun i wx => ∃ (j : Nat) (qs : List SetP), j ≤ m ∧ i = .int .i64 (j : Int) ∧ Hid (LfS wx w.heap.size (some ⟨w.heap.size, 0, none⟩) k k ps qs ∧ qs.map (·.2) = liftK k cs (ps.map (·.2)) j) ∧ Hid (Below w.heap.size w wx)) (fun i _ => m - (intOf i).toNat)
      case atStart => exact ⟨0, qs, by omega, rfl, HL, HB⟩
      case round =>
        clear HL HB
        obtain ⟨j, qs, hj, rfl, HL, HB⟩ := hrel
        by_cases hjm : j < m
        · obtain ⟨bc, oc, x, rfl, hx, hxc⟩ := (HC.out.keep (keeps_of HB.out)).at hjm
          have d0 := hxc 0 _ rfl
          simp only [Nat.mul_one, Nat.add_zero] at d0
          have hxr := HCS.out x (List.mem_of_getElem? hx)
          have Hx := Lib.hid hx
          clear hx hxc
          obtain ⟨z, rfl⟩ := Int.eq_ofNat_of_zero_le hxr.1
          have hz : z < k := by omega
          clear hxr
          obtain ⟨b, o, p, rfl, hp, hpc⟩ := (HS.out.keep (keeps_of HB.out)).sl.at hjm
          obtain ⟨⟨A1, n1, c1⟩, l1⟩ := p
          have d1 := hpc 0 _ rfl
          simp only [Nat.mul_one, Nat.add_zero] at d1
          have Hp := Lib.hid hp
          clear hp hpc
          obtain ⟨u, hu⟩ : ∃ u, (qs.flatMap setc)[z]? = some u := ⟨_, List.getElem?_eq_getElem (by rw [flat_len setc_len, HL.out.1.len]; omega)⟩
          have hcc := HL.out.1.own.cells (g := w.heap.size) rfl z u hu
          rw [add_at, Nat.zero_add] at hcc
          have hfz := fun z => HL.out.1.own.frozenAt z
          clear hu
          go_wp2
          go_roundw
          case rel =>
            refine ⟨j + 1, qs.set z ((A1, n1, c1), l1), by omega, by go_num, Lib.hid ⟨HL.out.1.put (p := ((A1, n1, c1), l1)) (List.mem_of_getElem? Hp.out) z, ?_⟩, Lib.hid (HB.out.setCell (p := ⟨w.heap.size, z, none⟩) (Nat.le_refl _) _)⟩
            rw [setAt, HL.out.2, liftK_succ Hx.out (by rw [List.getElem?_map, Hp.out]; rfl), Int.toNat_natCast]
          case measure => simp [intOf]; omega
        · obtain rfl : j = m := by omega
          have HE : Hid (ShOut w (liftL k cs (ps.map (·.2))) (.returned (.slice (some ⟨w.heap.size, 0, none⟩) k k)) wr) := by
            refine Lib.hid ⟨_, _, _, qs, rfl, HL.out.1.sets HS.out (keeps_of HB.out), ?_, HB.out⟩
            rw [HL.out.2, liftL, List.length_zip, List.length_map, Hlc.out, Hln.out, Nat.min_self]
          go_wp2
          go_ret
          exact HE.out
set_option maxHeartbeats 1000000 in
/-- the reference's list of full sets, with its memory -/
theorem fall2_any (n : Nat) (hn : n ≤ 12) (w : World) : Calls Tryz.prog 65 #[.int .i64 (n : Int)] w fun e w' => ∃ (A : Option Addr) (c : Nat) (ps : List SetP), e = .returned (.slice A n c) ∧ w'.ownsRow w.heap.size 72 1 (.slice A n c) n (ps.flatMap setc) ∧ ps.length = n ∧ (∀ p ∈ ps, AllP w' p) ∧ Below w.heap.size w w' := by
  obtain ⟨il, hil, hl0, hl1, hl2⟩ := info_parts info_lst
  go_enter Tryz.func65, Tryz.ntmps65
  go_wp2_with fail
  go_loopw [3, 4] (fun v i wr => ∃ (k : Nat) (A' : Option Addr) (c' : Nat) (ps : List SetP), k ≤ n ∧ i = .int .i64 (k : Int) ∧ v = .slice A' k c' ∧ wr.ownsRow w.heap.size 72 1 (.slice A' k c') k (ps.flatMap setc) ∧ Hid (ps.length = k ∧ ∀ p ∈ ps, AllP wr p) ∧ Below w.heap.size w wr) (fun _ i _ => n - (intOf i).toNat)
  case atStart => exact ⟨0, none, 0, [], by omega, rfl, rfl, ⟨by simp, .inl ⟨rfl, rfl⟩⟩, Lib.hid ⟨rfl, by simp⟩, Below.refl _ _⟩
  case round =>
    obtain ⟨k, A', c', ps, hk, rfl, rfl, hown, HQ, hb⟩ := hrel
    by_cases hlt : k < n
    · have HOW := Lib.hid hown
      have HB := Lib.hid hb
      clear hown hb
      go_wp2_with fail
      refine (rall2_any _).mono ?_
      rintro e w1 ⟨g, rfl, hS, hb1⟩
      have HS1 := Lib.hid hS
      have HOW1 := Lib.hid (own_at HOW.out (fun q _ hl _ => hb1.block q hl))
      have HB1 := Lib.hid (Below.next HB.out hb1)
      have hs1 := HB1.out.size
      have HP1 : Hid (∀ p ∈ ps ++ [((some ⟨g, 0, none⟩, 1, 1), allL)], AllP w1 p) := Lib.hid fun p hp => by
        rcases List.mem_append.1 hp with hp | hp
        · exact (HQ.out.2 p hp).below hb1
        · exact ⟨g, List.mem_singleton.1 hp, hS⟩
      clear hS hb1
      go_wp2_with (at_builtin; refine wpList_append_one2 (by rfl) (.tmp 10) (.tmp 12) _ (by rfl) w.heap.size 72 il _ 1 24 Tryz.underlying71 hil hl0 hl1 hl2 (by rfl) (by omega) (.slice A' k c') k _ (by rfl) w1 #[.slice (some ⟨g, 0, none⟩) 1 1] HOW1.out w1.heap.size (by rfl) (by rfl) (by rfl) (one_set ((some ⟨g, 0, none⟩, 1, 1), allL)) (by simp only [maxLen]; omega) (by omega) hs1 ?_; intro g6 cap6 w6 hown6 hg6 hB6 hat6 hlt6)
      go_roundw
      case rel =>
        have hbu := (But.alloc (S := fun q => (Value.slice A' k c').ownBlock = some q) w1 (.cells #[.slice (some ⟨g, 0, none⟩) 1 1] 72)).trans (But.of_grown hg6 (fun q hq => hq))
        refine ⟨k + 1, _, cap6, ps ++ [((some ⟨g, 0, none⟩, 1, 1), allL)], by omega, by go_num, rfl, ?_, Lib.hid ⟨by simp [HQ.out.1], fun p hp => (HP1.out p hp).but hbu (fun q hq cs => own_notI HOW1.out hq cs)⟩, HB1.out.trans hB6⟩
        rw [List.flatMap_append]
        simpa [setc] using hown6
      case measure => simp [intOf]; omega
    · obtain rfl : k = n := by omega
      have HOW := Lib.hid hown
      have HB := Lib.hid hb
      clear hown hb
      go_wp2
      go_ret
      exact ⟨A', c', ps, rfl, HOW.out, HQ.out.1, HQ.out.2, HB.out⟩
end Go.Proofs.YtmnmckblmoalkaaGreat

/-
  Plain: what a union of boxes one after another is, and projection, lifting and the universal projection made of it. No walk here.
-/
namespace Go.Proofs.YtmnmckblmoalkaaGreat
open Go.RowKit
set_option maxRecDepth 100000
open Rg

/-- the union of boxes one after another: its error, its result -/
noncomputable def uniE : List (List (List Iv)) → Rg → Int
  | [], _ => 0
  | b :: l, r => if opErr opUr r (boxR b) = 0 then uniE l (opRes opUr r (boxR b)) else opErr opUr r (boxR b)
noncomputable def uniR : List (List (List Iv)) → Rg → Rg
  | [], r => r
  | b :: l, r => if opErr opUr r (boxR b) = 0 then uniR l (opRes opUr r (boxR b)) else zeroR
/-- projection -/
noncomputable def pjE (r : Rg) (cs : List Int) : Int := if okB r = true then (if dstB r.w cs = true then uniE ((boxesR r).map (pickL cs)) (.nil (cs.length : Int) false) else 1) else 40
noncomputable def pjR (r : Rg) (cs : List Int) : Rg := if okB r = true then (if dstB r.w cs = true then uniR ((boxesR r).map (pickL cs)) (.nil (cs.length : Int) false) else zeroR) else zeroR
/-- lifting -/
noncomputable def lfE (r : Rg) (cs : List Int) (W : Int) : Int := if okB r = true ∧ (cs.length : Int) = r.w then (if (0 ≤ W ∧ W ≤ 12) ∧ dstB W cs = true then uniE ((boxesR r).map (liftL W.toNat cs)) (.nil W false) else 1) else 40
noncomputable def lfR (r : Rg) (cs : List Int) (W : Int) : Rg := if okB r = true ∧ (cs.length : Int) = r.w then (if (0 ≤ W ∧ W ≤ 12) ∧ dstB W cs = true then uniR ((boxesR r).map (liftL W.toNat cs)) (.nil W false) else zeroR) else zeroR
/-- the universal projection -/
noncomputable def faE (r : Rg) (cs : List Int) : Int := if okB r = true then (if dstB r.w cs = true then (if cpErr r = 0 then (if pjE (cpRes r) cs = 0 then cpErr (pjR (cpRes r) cs) else pjE (cpRes r) cs) else cpErr r) else 1) else 40
noncomputable def faR (r : Rg) (cs : List Int) : Rg := if faE r cs = 0 then cpRes (pjR (cpRes r) cs) else zeroR
/-- all values in the sets are small -/
def wfB (b : List (List Iv)) : Prop := ∀ s ∈ b, ∀ x ∈ s, rgV x.f ∧ rgV x.t
theorem boxes_wf : ∀ {r : Rg}, WfR r → ∀ b ∈ boxesR r, wfB b
  | .nil _ f, _, b, hb => by
    unfold boxesR at hb
    split at hb
    · rw [List.mem_singleton] at hb
      subst hb
      exact fun s hs => by cases hs
    · cases hb
  | .cons vs rest tail, h, b, hb => by
    unfold boxesR at hb
    rcases List.mem_append.1 hb with hb | hb
    · obtain ⟨q, hq, rfl⟩ := List.mem_map.1 hb
      intro s hs
      rcases List.mem_cons.1 hs with rfl | hs
      · exact h.1
      · exact boxes_wf h.2.1 q hq s hs
    · exact boxes_wf h.2.2 b hb
theorem pick_wf {b : List (List Iv)} (h : wfB b) (cs : List Int) : wfB (pickL cs b) := fun s hs => by
  obtain ⟨c, _, rfl⟩ := List.mem_map.1 hs
  rw [List.getD_eq_getElem?_getD]
  cases h1 : b[c.toNat]? with
  | none => exact fun x hx => by cases hx
  | some t => exact h t (List.mem_of_getElem? h1)
theorem alls_wf (N : Nat) : wfB (List.replicate N allL) := fun s hs => by
  rw [(List.mem_replicate.1 hs).2]
  intro x hx
  simp only [allL, List.mem_singleton] at hx
  subst hx
  exact ⟨⟨by decide, by decide⟩, ⟨by decide, by decide⟩⟩
theorem liftK_wf {b : List (List Iv)} (h : wfB b) (N : Nat) (cs : List Int) (k : Nat) : wfB (liftK N cs b k) := by
  unfold liftK
  have key : ∀ (l : List (Int × List Iv)) (a : List (List Iv)), wfB a → (∀ e ∈ l, ∀ x ∈ e.2, rgV x.f ∧ rgV x.t) → wfB (l.foldl (fun acc e => acc.set e.1.toNat e.2) a) := by
    intro l
    induction l with
    | nil => exact fun a h _ => h
    | cons e l ih =>
      refine fun a ha he => ih _ (fun s hs => ?_) (fun x hx => he x (List.mem_cons_of_mem _ hx))
      rcases List.mem_or_eq_of_mem_set hs with h1 | rfl
      · exact ha s h1
      · exact he e List.mem_cons_self
  refine key _ _ (alls_wf N) fun e he => ?_
  have h1 := List.mem_of_mem_take he
  exact h e.2 (List.of_mem_zip h1).2
theorem pick_len (cs : List Int) (b : List (List Iv)) : (pickL cs b).length = cs.length := by simp [pickL]
theorem lift_len (N : Nat) (cs : List Int) (b : List (List Iv)) : (liftL N cs b).length = N := liftK_len N cs b _
end Go.Proofs.YtmnmckblmoalkaaGreat

/-
  The state of RegionProducts between its statements: the boxes of a, b and of the region that was handed in.
-/
namespace Go.Proofs.YtmnmckblmoalkaaGreat
open Go.RowKit
set_option maxRecDepth 100000
open Rg

def lessB (B : Nat) (a b : World) : Prop := Below B a b
theorem lessB_of {B B' : Nat} {a b : World} (h : Below B' a b) (hB : B ≤ B') : lessB B a b := ⟨h.os, h.tape, h.output, h.size, fun q hq => h.block q (Nat.lt_of_lt_of_le hq hB)⟩
theorem lessB_trans (B : Nat) : ∀ a b c, lessB B a b → lessB B b c → lessB B a c := fun _ _ _ h k => ⟨k.os.trans h.os, k.tape.trans h.tape, k.output.trans h.output, Nat.le_trans h.size k.size, fun q hq => (k.block q hq).trans (h.block q hq)⟩
theorem keep_blk {w w' : World} {B V : Nat} {T : TypeId} {cs : Array Value} (h : Blk w V T cs) (hb : Below B w w') (hV : V < B) : Blk w' V T cs := (hb.block V hV).trans h
/-- a region in a box -/
structure BxQ (w : World) (V : Nat) (x : Int) (f : Bool) (A : Option Addr) (n c : Nat) (r : Rg) : Prop where
  b : Blk w V 27 #[.int .i64 x, .bool f, .slice A n c]
  s : RgS w x f A n c r
section
variable {w w' : World} {V : Nat} {x : Int} {f : Bool} {A : Option Addr} {n c : Nat} {r : Rg}
theorem BxQ.case {g : Nat} (h : BxQ w V x f A n c r) (hc : CaseAt w g) (hb : But (· = g) w w') : BxQ w' V x f A n c r := ⟨h.b.but hb (hc.ne h.b (by decide)), h.s.case hc hb⟩
theorem BxQ.below (h : BxQ w V x f A n c r) (hb : Below w.heap.size w w') : BxQ w' V x f A n c r := ⟨h.b.below hb, h.s.keep (keeps_of hb)⟩
theorem BxQ.alloc (h : BxQ w V x f A n c r) (o : Obj) : BxQ (w.alloc o) V x f A n c r := ⟨h.b.alloc o, h.s.keep (keeps_alloc w o)⟩
/-- a region goes into another box -/
theorem BxQ.off (h : BxQ w V x f A n c r) {B : Nat} {x' : Int} {f' : Bool} {A' : Option Addr} {n' c' : Nat} (hB : Blk w B 27 #[.int .i64 x', .bool f', .slice A' n' c']) (hb : But (· = B) w w') (hne : V ≠ B) : BxQ w' V x f A n c r := ⟨h.b.but hb hne, h.s.off hB hb⟩
theorem BxQ.put {x' : Int} {f' : Bool} {A' : Option Addr} {n' c' : Nat} {r' : Rg} (h : BxQ w V x f A n c r) (hr : RgS w x' f' A' n' c' r') : BxQ (put3R w V (.int .i64 x') (.bool f') (.slice A' n' c')) V x' f' A' n' c' r' :=
  ⟨put3R_blk h.b, hr.off h.b (put3R_but _ _ _ _ _)⟩
end
/-- the three boxes -/
structure PdS (w : World) (g Va Vb Vw : Nat) (xa : Int) (fa : Bool) (Aa : Option Addr) (na ca : Nat) (ra : Rg) (xb : Int) (fb : Bool) (Ab : Option Addr) (nb cb : Nat) (rb : Rg) (xw : Int) (fw : Bool) (Aw : Option Addr) (nw cw : Nat) (rw_ : Rg) (wr : World) : Prop where
  a : BxQ wr Va xa fa Aa na ca ra
  b : BxQ wr Vb xb fb Ab nb cb rb
  r : BxQ wr Vw xw fw Aw nw cw rw_
  cs : CaseAt wr g
  bel : Below w.heap.size w wr
  hg : w.heap.size ≤ g
  hVa : w.heap.size ≤ Va
  hVb : w.heap.size ≤ Vb
  hab : Va ≠ Vb
  hra : Va ≠ Vw
  hrb : Vb ≠ Vw
section
variable {w wr w' : World} {g Va Vb Vw : Nat} {xa : Int} {fa : Bool} {Aa : Option Addr} {na ca : Nat} {ra : Rg} {xb : Int} {fb : Bool} {Ab : Option Addr} {nb cb : Nat} {rb : Rg} {xw : Int} {fw : Bool} {Aw : Option Addr} {nw cw : Nat} {rw_ : Rg}
theorem PdS.case (h : PdS w g Va Vb Vw xa fa Aa na ca ra xb fb Ab nb cb rb xw fw Aw nw cw rw_ wr) (hc : CaseAt w' g) (hb : But (· = g) wr w') : PdS w g Va Vb Vw xa fa Aa na ca ra xb fb Ab nb cb rb xw fw Aw nw cw rw_ w' :=
  ⟨h.a.case h.cs hb, h.b.case h.cs hb, h.r.case h.cs hb, hc, hb.below h.bel h.bel.size (fun k hk => by subst hk; exact h.hg), h.hg, h.hVa, h.hVb, h.hab, h.hra, h.hrb⟩
theorem PdS.puta (h : PdS w g Va Vb Vw xa fa Aa na ca ra xb fb Ab nb cb rb xw fw Aw nw cw rw_ wr) {x : Int} {f : Bool} {A : Option Addr} {n c : Nat} {r : Rg} (hr : RgS wr x f A n c r) :
    PdS w g Va Vb Vw x f A n c r xb fb Ab nb cb rb xw fw Aw nw cw rw_ (put3R wr Va (.int .i64 x) (.bool f) (.slice A n c)) := by
  have hb := put3R_but wr Va (.int .i64 x) (.bool f) (.slice A n c)
  exact ⟨h.a.put hr, h.b.off h.a.b hb (Ne.symm h.hab), h.r.off h.a.b hb (Ne.symm h.hra), h.cs.off h.a.b (fun z => by simp) hb (Ne.symm (h.cs.ne h.a.b (by decide))), put3R_below h.bel h.hVa _ _ _, h.hg, h.hVa, h.hVb, h.hab, h.hra, h.hrb⟩
end
end Go.Proofs.YtmnmckblmoalkaaGreat
