/-
  Texts: GShape, ProjP, RgLaw2, RgLaw3, PtLaw, GCells.
-/
import Derived.Test.YtmnmckblmoalkaaGreatB41
import Derived.Test.YtmnmckblmoalkaaGreatB43
import Derived.Test.YtmnmckblmoalkaaGreatB38
set_option linter.unusedVariables false
/-
  The functions that the program's Project and Lift hand to unite: which sets they make of the sets of a box. The reference's list of full sets, with its memory.
-/
namespace Go.Proofs.YtmnmckblmoalkaaGreat
open Go.RowKit
set_option maxRecDepth 100000

def noSet : SetP := ((none, 0, 0), [])
/-- the set at a column -/
def pk (ps : List SetP) (c : Int) : SetP := ps.getD c.toNat noSet
/-- the sets of the chosen columns -/
def pickL (cs : List Int) (b : List (List Iv)) : List (List Iv) := cs.map fun c => b.getD c.toNat []
theorem pk_map (ps : List SetP) (cs : List Int) : (cs.map (pk ps)).map (·.2) = pickL cs (ps.map (·.2)) := by
  unfold pickL
  rw [List.map_map]
  refine List.map_congr_left fun c _ => ?_
  simp only [Function.comp, pk, List.getD_eq_getElem?_getD, List.getElem?_map]
  cases ps[c.toNat]? <;> rfl
theorem pk_mem {ps : List SetP} {c : Int} (h0 : 0 ≤ c) (h1 : c < (ps.length : Int)) : pk ps c ∈ ps := by
  have h : c.toNat < ps.length := by omega
  unfold pk
  rw [List.getD_eq_getElem?_getD, List.getElem?_eq_getElem h]
  exact List.getElem_mem h
theorem pk_at {ps : List SetP} {k : Nat} {p : SetP} (h : ps[k]? = some p) : pk ps (k : Int) = p := by
  unfold pk
  rw [Int.toNat_natCast, List.getD_eq_getElem?_getD, h]
  rfl
/-- sets that were made -/
def ShOut (w : World) (ls : List (List Iv)) (e : Ending) (w' : World) : Prop := ∃ (A : Option Addr) (n c : Nat) (qs : List SetP), e = .returned (.slice A n c) ∧ SetsS w' A n qs ∧ qs.map (·.2) = ls ∧ Below w.heap.size w w'
theorem mk_slices (n : Nat) : (madeCells (Value.slice none 0 0).cells (n * 1)).toList = List.replicate n (Value.slice none 0 0) := by
  have h1 : ∀ i : Nat, (Value.slice none 0 0).cells[i % (Value.slice none 0 0).cells.size]! = Value.slice none 0 0 := fun i => by
    show (#[Value.slice none 0 0] : Array Value)[i % 1]! = _
    rw [Nat.mod_one]
    rfl
  unfold madeCells
  rw [Nat.mul_one, Array.toList_map, List.eq_replicate_iff]
  exact ⟨by simp, fun b hb => by
    obtain ⟨i, _, rfl⟩ := List.mem_map.1 hb
    exact h1 i⟩
set_option maxHeartbeats 2000000 in
theorem gpick_any (A : Option Addr) (n c : Nat) (ps : List SetP) (q : Nat) (Ac : Option Addr) (m cc : Nat) (cs : List Int) (w : World) (hs : SetsS w A n ps) (hq : Blk w q 30 #[.slice Ac m cc]) (hc : ClS w Ac m cs) (hcs : ∀ x ∈ cs, 0 ≤ x ∧ x < (n : Int)) (hm : m ≤ 12) (hn : n ≤ 12) :
    Calls Tryz.prog 53 #[.slice A n c, .pointer (some ⟨q, 0, none⟩)] w fun e w' => ShOut w (pickL cs (ps.map (·.2))) e w' := by
  obtain ⟨il, hil, hl0, hl1, hl2⟩ := info_parts info_lst
  have HS := Lib.hid hs
  have HQ := Lib.hid hq
  have HC := Lib.hid hc
  have HCS := Lib.hid hcs
  have Hln := Lib.hid hs.sl.len
  have Hlc := Lib.hid hc.len
  have zq := hq.cell
  clear hs hc hcs hq
  go_enter Tryz.func53, Tryz.ntmps53
  go_wp2_with (at_make; refine wpList_make_full _ rfl _ _ 71 rfl w.heap.size 72 il (.slice none 0 0) 1 Tryz.underlying71 hil hl0 hl1 .i64 .i64 _ _ m rfl rfl rfl rfl (by rw [hl2]; omega) (by unfold maxLen; omega) (by omega) ?_; intro w1 hown1 hgrow1; have hb01 : Below w.heap.size w w1 := fresh_none hgrow1; have HB1 := Lib.hid hb01; have HOW1 := Lib.hid hown1; rw [mk_slices] at HOW1; have HQ1 := Lib.hid (HQ.out.below hb01); clear hown1 hgrow1 hb01 zq; have zq := HQ1.out.cell)
  go_loopw [12] (fun i wr => ∃ (k : Nat) (qs : List SetP), k ≤ m ∧ i = .int .i64 (k : Int) ∧ Hid (wr.ownsRow w.heap.size 72 1 (.slice (some ⟨w.heap.size, 0, none⟩) m m) m (qs.flatMap setc ++ List.replicate (m - k) (Value.slice none 0 0))) ∧ Hid (qs = (cs.take k).map (pk ps)) ∧ Hid (Below w.heap.size w wr)) (fun i _ => m - (intOf i).toNat)
  case atStart => exact ⟨0, [], by omega, rfl, Lib.hid (by simpa using HOW1.out), Lib.hid (by simp), HB1⟩
  case round =>
    clear HOW1 HB1 zq
    obtain ⟨k, qs, hk, rfl, HOW, Hqs, HB⟩ := hrel
    have hQr := HQ.out.below HB.out
    have zq := hQr.cell
    have hql : qs.length = k := by rw [Hqs.out, List.length_map, List.length_take, Hlc.out]; omega
    have Hql := Lib.hid hql
    clear hql
    by_cases hlt : k < m
    · obtain ⟨bc, oc, x, rfl, hx, hxc⟩ := (HC.out.keep (keeps_of HB.out)).at hlt
      have d0 := hxc 0 _ rfl
      simp only [Nat.mul_one, Nat.add_zero] at d0
      have hxr := HCS.out x (List.mem_of_getElem? hx)
      have Hx := Lib.hid hx
      clear hx hxc
      obtain ⟨j, rfl⟩ := Int.eq_ofNat_of_zero_le hxr.1
      have hj : j < n := by omega
      clear hxr
      obtain ⟨b, o, p, rfl, hp, hpc⟩ := (HS.out.keep (keeps_of HB.out)).sl.at hj
      obtain ⟨⟨A1, n1, c1⟩, l1⟩ := p
      have d1 := hpc 0 _ rfl
      simp only [Nat.mul_one, Nat.add_zero] at d1
      have Hp := Lib.hid hp
      clear hp hpc hQr
      have hfl : (qs.flatMap setc).length = k := by rw [flat_len setc_len, Hql.out, Nat.mul_one]
      have hcc := HOW.out.cells (g := w.heap.size) rfl k (.slice none 0 0) (by rw [List.getElem?_append_right (by omega), hfl, Nat.sub_self, show m - k = (m - k - 1) + 1 by omega, List.replicate_succ]; rfl)
      rw [add_at, Nat.zero_add] at hcc
      have hfz := fun z => HOW.out.frozenAt z
      have HFL := Lib.hid hfl
      clear hfl
      go_wp2
      go_roundw
      case rel =>
        refine ⟨k + 1, qs ++ [((A1, n1, c1), l1)], by omega, by go_num, Lib.hid ?_, Lib.hid ?_, Lib.hid (HB.out.setCell (p := ⟨w.heap.size, k, none⟩) (Nat.le_refl _) _)⟩
        · have h1 := (HOW.out.stored k (.slice A1 n1 c1)).1
          rw [set_rep HFL.out hlt] at h1
          rw [List.flatMap_append]
          exact h1
        · rw [take_snocI Hx.out, List.map_append, ← Hqs.out, List.map_singleton, pk_at Hp.out]
      case measure => simp [intOf]; omega
    · obtain rfl : k = m := by omega
      have HE : Hid (ShOut w (pickL cs (ps.map (·.2))) (.returned (.slice (some ⟨w.heap.size, 0, none⟩) k k)) wr) := by
        refine Lib.hid ⟨_, _, _, qs, rfl, ⟨?_, fun p hp => ?_⟩, ?_, HB.out⟩
        · refine Sl.of_own (base := w.heap.size) (e := 72) (c := k) setc_len Hql.out ?_
          have h1 := HOW.out
          rwa [Nat.sub_self, List.replicate_zero, List.append_nil] at h1
        · rw [Hqs.out] at hp
          obtain ⟨x, hx, rfl⟩ := List.mem_map.1 hp
          have h1 := HCS.out x (List.mem_of_mem_take hx)
          have h2 := HS.out.ok _ (pk_mem (ps := ps) h1.1 (by rw [Hln.out]; exact h1.2))
          exact ⟨h2.1, h2.2.1, h2.2.2.keep (keeps_of HB.out)⟩
        · rw [Hqs.out, pk_map, List.take_of_length_le (by rw [Hlc.out]; exact Nat.le_refl _)]
      clear hQr
      go_wp2
      go_ret
      exact HE.out
/-- the sets of a box in their columns, all others full -/
def liftK (N : Nat) (cs : List Int) (b : List (List Iv)) (k : Nat) : List (List Iv) := ((cs.zip b).take k).foldl (fun acc e => acc.set e.1.toNat e.2) (List.replicate N allL)
def liftL (N : Nat) (cs : List Int) (b : List (List Iv)) : List (List Iv) := liftK N cs b (cs.zip b).length
theorem liftK_succ {N : Nat} {cs : List Int} {b : List (List Iv)} {k : Nat} {c : Int} {s : List Iv} (h1 : cs[k]? = some c) (h2 : b[k]? = some s) : liftK N cs b (k + 1) = (liftK N cs b k).set c.toNat s := by
  have h : (cs.zip b)[k]? = some (c, s) := by
    rw [List.getElem?_zip_eq_some]
    exact ⟨h1, h2⟩
  unfold liftK
  rw [List.take_add_one, h, List.foldl_append]
  rfl
theorem liftK_len (N : Nat) (cs : List Int) (b : List (List Iv)) (k : Nat) : (liftK N cs b k).length = N := by
  unfold liftK
  generalize (cs.zip b).take k = l
  have key : ∀ (l : List (Int × List Iv)) (a : List (List Iv)), a.length = N → (l.foldl (fun acc e => acc.set e.1.toNat e.2) a).length = N := by
    intro l
    induction l with
    | nil => exact fun a h => h
    | cons x l ih => exact fun a h => ih _ (by simpa using h)
  exact key l _ (by simp)
/-- a row of sets of its own, each from elsewhere or full -/
structure LfS (w : World) (B : Nat) (A : Option Addr) (N c : Nat) (ps qs : List SetP) : Prop where
  own : w.ownsRow B 72 1 (.slice A N c) N (qs.flatMap setc)
  len : qs.length = N
  el : ∀ q ∈ qs, q ∈ ps ∨ AllP w q
theorem LfS.sets {w0 w : World} {B : Nat} {A A0 : Option Addr} {N c n0 : Nat} {ps qs : List SetP} (h : LfS w B A N c ps qs) (hs : SetsS w0 A0 n0 ps) (hb : Keeps w0 w) : SetsS w A N qs := by
  refine ⟨Sl.of_own setc_len h.len h.own, fun q hq => ?_⟩
  rcases h.el q hq with h1 | ⟨g, rfl, h1⟩
  · have h2 := hs.ok q h1
    exact ⟨h2.1, h2.2.1, h2.2.2.keep hb⟩
  · exact ⟨⟨Nat.le_refl _, fun h => by cases h⟩, by show 1 ≤ 1000000; omega, all_iv h1⟩
theorem flat_setc (qs : List SetP) (j : Nat) (p : SetP) : (qs.set j p).flatMap setc = (qs.flatMap setc).set j (.slice p.1.1 p.1.2.1 p.1.2.2) := by
  induction qs generalizing j with
  | nil => rfl
  | cons q qs ih =>
    cases j with
    | zero => rfl
    | succ j =>
      rw [List.set_cons_succ, List.flatMap_cons, ih, List.flatMap_cons]
      rfl
/-- one set put into its column -/
theorem LfS.put {w : World} {B g : Nat} {N c : Nat} {ps qs : List SetP} (h : LfS w B (some ⟨g, 0, none⟩) N c ps qs) {p : SetP} (hp : p ∈ ps) (j : Nat) : LfS (w.setCell ⟨g, j, none⟩ (.slice p.1.1 p.1.2.1 p.1.2.2)) B (some ⟨g, 0, none⟩) N c ps (qs.set j p) := by
  have hbz : But (fun q => (Value.slice (some ⟨g, 0, none⟩) N c).ownBlock = some q) w (w.setCell ⟨g, j, none⟩ (.slice p.1.1 p.1.2.1 p.1.2.2)) := But.set (S := fun q => (Value.slice (some ⟨g, 0, none⟩) N c).ownBlock = some q) _ (p := ⟨g, j, none⟩) rfl _
  refine ⟨?_, by rw [List.length_set]; exact h.len, fun q hq => ?_⟩
  · have h1 := (h.own.stored j (.slice p.1.1 p.1.2.1 p.1.2.2)).1
    rw [← flat_setc] at h1
    exact h1
  · rcases List.mem_or_eq_of_mem_set hq with h2 | rfl
    · rcases h.el q h2 with h3 | h3
      · exact .inl h3
      · exact .inr (h3.but hbz (fun q hq cs => own_notI h.own hq cs))
    · exact .inl hp
theorem LfS.below {w w' : World} {B : Nat} {A : Option Addr} {N c : Nat} {ps qs : List SetP} (h : LfS w B A N c ps qs) (hb : Below w.heap.size w w') : LfS w' B A N c ps qs :=
  ⟨own_at h.own (fun q _ hl _ => hb.block q hl), h.len, fun q hq => (h.el q hq).imp id (·.below hb)⟩
theorem setAt (qs : List SetP) (j : Nat) (p : SetP) : (qs.set j p).map (·.2) = (qs.map (·.2)).set j p.2 := by rw [List.map_set]
set_option maxHeartbeats 4000000 in
theorem glift1_any (A : Option Addr) (n c : Nat) (ps : List SetP) (q1 q2 : Nat) (N : Nat) (Ac : Option Addr) (m cc : Nat) (cs : List Int) (w : World) (hs : SetsS w A n ps) (hq1 : Blk w q1 3 #[.int .i64 (N : Int)]) (hq2 : Blk w q2 30 #[.slice Ac m cc]) (hc : ClS w Ac m cs) (hcs : ∀ x ∈ cs, 0 ≤ x ∧ x < (N : Int)) (hm : m = n) (hn : n ≤ 12) (hN : N ≤ 12) :
    Calls Tryz.prog 58 #[.slice A n c, .pointer (some ⟨q1, 0, none⟩), .pointer (some ⟨q2, 0, none⟩)] w fun e w' => ShOut w (liftL N cs (ps.map (·.2))) e w' := by
  subst hm
  obtain ⟨il, hil, hl0, hl1, hl2⟩ := info_parts info_lst
  have HS := Lib.hid hs
  have HQ1 := Lib.hid hq1
  have HQ2 := Lib.hid hq2
  have HC := Lib.hid hc
  have HCS := Lib.hid hcs
  have Hln := Lib.hid hs.sl.len
  have Hlc := Lib.hid hc.len
  have zq := hq1.cell
  clear hs hc hcs hq1 hq2
  go_enter Tryz.func58, Tryz.ntmps58
  go_wp2_with (at_make; refine wpList_make_full _ rfl _ _ 71 rfl w.heap.size 72 il (.slice none 0 0) 1 Tryz.underlying71 hil hl0 hl1 .i64 .i64 _ _ N rfl rfl rfl rfl (by rw [hl2]; omega) (by unfold maxLen; omega) (by omega) ?_; intro w1 hown1 hgrow1; have hb01 : Below w.heap.size w w1 := fresh_none hgrow1; have HB1 := Lib.hid hb01; have HOW1 := Lib.hid hown1; rw [mk_slices] at HOW1; clear hown1 hgrow1 hb01 zq)
  go_loopw [13] (fun i wr => ∃ (k : Nat) (qs : List SetP), k ≤ N ∧ i = .int .i64 (k : Int) ∧ Hid (wr.ownsRow w.heap.size 72 1 (.slice (some ⟨w.heap.size, 0, none⟩) N N) N (qs.flatMap setc ++ List.replicate (N - k) (Value.slice none 0 0))) ∧ Hid (qs.length = k ∧ ∀ p ∈ qs, AllP wr p) ∧ Hid (Below w.heap.size w wr)) (fun i _ => N - (intOf i).toNat)
  case atStart => exact ⟨0, [], by omega, rfl, Lib.hid (by simpa using HOW1.out), Lib.hid ⟨rfl, by simp⟩, HB1⟩
  case round =>
    clear HOW1 HB1
    obtain ⟨k, qs, hk, rfl, HOW, HQ, HB⟩ := hrel
    by_cases hlt : k < N
    · go_wp2_with fail
      refine (gall2_any _).mono ?_
      rintro e w2 ⟨g, rfl, hS, hb2⟩
      have HOW2 := Lib.hid (own_at HOW.out (fun q _ hl _ => hb2.block q hl))
      have HB2 := Lib.hid (Below.next HB.out hb2)
      have HP2 : Hid (∀ p ∈ qs ++ [((some ⟨g, 0, none⟩, 1, 1), allL)], AllP w2 p) := Lib.hid fun p hp => by
        rcases List.mem_append.1 hp with hp | hp
        · exact (HQ.out.2 p hp).below hb2
        · exact ⟨g, List.mem_singleton.1 hp, hS⟩
      have hfl : (qs.flatMap setc).length = k := by rw [flat_len setc_len, HQ.out.1, Nat.mul_one]
      have hcc := HOW2.out.cells (g := w.heap.size) rfl k (.slice none 0 0) (by rw [List.getElem?_append_right (by omega), hfl, Nat.sub_self, show N - k = (N - k - 1) + 1 by omega, List.replicate_succ]; rfl)
      rw [add_at, Nat.zero_add] at hcc
      have hfz := fun z => HOW2.out.frozenAt z
      have HFL := Lib.hid hfl
      clear hS hb2 HOW HB hfl
      go_wp2
      go_roundw
      case rel =>
        have hbz : But (fun q => (Value.slice (some ⟨w.heap.size, 0, none⟩) N N).ownBlock = some q) w2 (w2.setCell ⟨w.heap.size, k, none⟩ (.slice (some ⟨g, 0, none⟩) 1 1)) := But.set (S := fun q => (Value.slice (some ⟨w.heap.size, 0, none⟩) N N).ownBlock = some q) _ (p := ⟨w.heap.size, k, none⟩) rfl _
        refine ⟨k + 1, qs ++ [((some ⟨g, 0, none⟩, 1, 1), allL)], by omega, by go_num, Lib.hid ?_, Lib.hid ⟨by simp [HQ.out.1], fun p hp => (HP2.out p hp).but hbz (fun q hq cs => own_notI HOW2.out hq cs)⟩, Lib.hid (HB2.out.setCell (p := ⟨w.heap.size, k, none⟩) (Nat.le_refl _) _)⟩
        have h1 := (HOW2.out.stored k (.slice (some ⟨g, 0, none⟩) 1 1)).1
        rw [set_rep HFL.out hlt] at h1
        rw [List.flatMap_append]
        exact h1
      case measure => simp [intOf]; omega
    · obtain rfl : k = N := by omega
      have HL : Hid (LfS wr w.heap.size (some ⟨w.heap.size, 0, none⟩) k k ps qs ∧ qs.map (·.2) = liftK k cs (ps.map (·.2)) 0) := by
        refine Lib.hid ⟨⟨?_, HQ.out.1, fun q hq => .inr (HQ.out.2 q hq)⟩, ?_⟩
        · have h1 := HOW.out
          rwa [Nat.sub_self, List.replicate_zero, List.append_nil] at h1
        · show _ = List.replicate k allL
          rw [List.eq_replicate_iff]
          refine ⟨by simp [HQ.out.1], fun l hl => ?_⟩
          obtain ⟨p, h, rfl⟩ := List.mem_map.1 hl
          obtain ⟨g, rfl, _⟩ := HQ.out.2 p h
          rfl
      clear HOW HQ hlt hk
      have zq := (HQ2.out.below HB.out).cell
      go_wp2_with fail
      clear zq
      go_loopw [23] (fun i wx => ∃ (j : Nat) (qs : List SetP), j ≤ m ∧ i = .int .i64 (j : Int) ∧ Hid (LfS wx w.heap.size (some ⟨w.heap.size, 0, none⟩) k k ps qs ∧ qs.map (·.2) = liftK k cs (ps.map (·.2)) j) ∧ Hid (Below w.heap.size w wx)) (fun i _ => m - (intOf i).toNat)
      case atStart => exact ⟨0, qs, by omega, rfl, HL, HB⟩
      case round =>
        clear HL HB
        obtain ⟨j, qs, hj, rfl, HL, HB⟩ := hrel
        by_cases hjm : j < m
        · obtain ⟨bc, oc, x, rfl, hx, hxc⟩ := (HC.out.keep (keeps_of HB.out)).at hjm
          have d0 := hxc 0 _ rfl
          simp only [Nat.mul_one, Nat.add_zero] at d0
          have hxr := HCS.out x (List.mem_of_getElem? hx)
          have Hx := Lib.hid hx
          clear hx hxc
          obtain ⟨z, rfl⟩ := Int.eq_ofNat_of_zero_le hxr.1
          have hz : z < k := by omega
          clear hxr
          obtain ⟨b, o, p, rfl, hp, hpc⟩ := (HS.out.keep (keeps_of HB.out)).sl.at hjm
          obtain ⟨⟨A1, n1, c1⟩, l1⟩ := p
          have d1 := hpc 0 _ rfl
          simp only [Nat.mul_one, Nat.add_zero] at d1
          have Hp := Lib.hid hp
          clear hp hpc
          obtain ⟨u, hu⟩ : ∃ u, (qs.flatMap setc)[z]? = some u := ⟨_, List.getElem?_eq_getElem (by rw [flat_len setc_len, HL.out.1.len]; omega)⟩
          have hcc := HL.out.1.own.cells (g := w.heap.size) rfl z u hu
          rw [add_at, Nat.zero_add] at hcc
          have hfz := fun z => HL.out.1.own.frozenAt z
          clear hu
          go_wp2
          go_roundw
          case rel =>
            refine ⟨j + 1, qs.set z ((A1, n1, c1), l1), by omega, by go_num, Lib.hid ⟨HL.out.1.put (p := ((A1, n1, c1), l1)) (List.mem_of_getElem? Hp.out) z, ?_⟩, Lib.hid (HB.out.setCell (p := ⟨w.heap.size, z, none⟩) (Nat.le_refl _) _)⟩
            rw [setAt, HL.out.2, liftK_succ Hx.out (by rw [List.getElem?_map, Hp.out]; rfl), Int.toNat_natCast]
          case measure => simp [intOf]; omega
        · obtain rfl : j = m := by omega
          have HE : Hid (ShOut w (liftL k cs (ps.map (·.2))) (.returned (.slice (some ⟨w.heap.size, 0, none⟩) k k)) wr) := by
            refine Lib.hid ⟨_, _, _, qs, rfl, HL.out.1.sets HS.out (keeps_of HB.out), ?_, HB.out⟩
            rw [HL.out.2, liftL, List.length_zip, List.length_map, Hlc.out, Hln.out, Nat.min_self]
          go_wp2
          go_ret
          exact HE.out
end Go.Proofs.YtmnmckblmoalkaaGreat

/-
  Plain: what a union of boxes one after another is, and projection, lifting and the universal projection made of it. No walk here.
-/
namespace Go.Proofs.YtmnmckblmoalkaaGreat
open Go.RowKit
set_option maxRecDepth 100000
open Rg

/-- the union of boxes one after another: its error, its result -/
noncomputable def uniE : List (List (List Iv)) → Rg → Int
  | [], _ => 0
  | b :: l, r => if opErr opUr r (boxR b) = 0 then uniE l (opRes opUr r (boxR b)) else opErr opUr r (boxR b)
noncomputable def uniR : List (List (List Iv)) → Rg → Rg
  | [], r => r
  | b :: l, r => if opErr opUr r (boxR b) = 0 then uniR l (opRes opUr r (boxR b)) else zeroR
/-- projection -/
noncomputable def pjE (r : Rg) (cs : List Int) : Int := if okB r = true then (if dstB r.w cs = true then uniE ((boxesR r).map (pickL cs)) (.nil (cs.length : Int) false) else 1) else 40
noncomputable def pjR (r : Rg) (cs : List Int) : Rg := if okB r = true then (if dstB r.w cs = true then uniR ((boxesR r).map (pickL cs)) (.nil (cs.length : Int) false) else zeroR) else zeroR
/-- lifting -/
noncomputable def lfE (r : Rg) (cs : List Int) (W : Int) : Int := if okB r = true ∧ (cs.length : Int) = r.w then (if (0 ≤ W ∧ W ≤ 12) ∧ dstB W cs = true then uniE ((boxesR r).map (liftL W.toNat cs)) (.nil W false) else 1) else 40
noncomputable def lfR (r : Rg) (cs : List Int) (W : Int) : Rg := if okB r = true ∧ (cs.length : Int) = r.w then (if (0 ≤ W ∧ W ≤ 12) ∧ dstB W cs = true then uniR ((boxesR r).map (liftL W.toNat cs)) (.nil W false) else zeroR) else zeroR
/-- the universal projection -/
noncomputable def faE (r : Rg) (cs : List Int) : Int := if okB r = true then (if dstB r.w cs = true then (if cpErr r = 0 then (if pjE (cpRes r) cs = 0 then cpErr (pjR (cpRes r) cs) else pjE (cpRes r) cs) else cpErr r) else 1) else 40
noncomputable def faR (r : Rg) (cs : List Int) : Rg := if faE r cs = 0 then cpRes (pjR (cpRes r) cs) else zeroR
/-- all values in the sets are small -/
def wfB (b : List (List Iv)) : Prop := ∀ s ∈ b, ∀ x ∈ s, rgV x.f ∧ rgV x.t
theorem boxes_wf : ∀ {r : Rg}, WfR r → ∀ b ∈ boxesR r, wfB b
  | .nil _ f, _, b, hb => by
    unfold boxesR at hb
    split at hb
    · rw [List.mem_singleton] at hb
      subst hb
      exact fun s hs => by cases hs
    · cases hb
  | .cons vs rest tail, h, b, hb => by
    unfold boxesR at hb
    rcases List.mem_append.1 hb with hb | hb
    · obtain ⟨q, hq, rfl⟩ := List.mem_map.1 hb
      intro s hs
      rcases List.mem_cons.1 hs with rfl | hs
      · exact h.1
      · exact boxes_wf h.2.1 q hq s hs
    · exact boxes_wf h.2.2 b hb
theorem pick_wf {b : List (List Iv)} (h : wfB b) (cs : List Int) : wfB (pickL cs b) := fun s hs => by
  obtain ⟨c, _, rfl⟩ := List.mem_map.1 hs
  rw [List.getD_eq_getElem?_getD]
  cases h1 : b[c.toNat]? with
  | none => exact fun x hx => by cases hx
  | some t => exact h t (List.mem_of_getElem? h1)
theorem alls_wf (N : Nat) : wfB (List.replicate N allL) := fun s hs => by
  rw [(List.mem_replicate.1 hs).2]
  intro x hx
  simp only [allL, List.mem_singleton] at hx
  subst hx
  exact ⟨⟨by decide, by decide⟩, ⟨by decide, by decide⟩⟩
theorem liftK_wf {b : List (List Iv)} (h : wfB b) (N : Nat) (cs : List Int) (k : Nat) : wfB (liftK N cs b k) := by
  unfold liftK
  have key : ∀ (l : List (Int × List Iv)) (a : List (List Iv)), wfB a → (∀ e ∈ l, ∀ x ∈ e.2, rgV x.f ∧ rgV x.t) → wfB (l.foldl (fun acc e => acc.set e.1.toNat e.2) a) := by
    intro l
    induction l with
    | nil => exact fun a h _ => h
    | cons e l ih =>
      refine fun a ha he => ih _ (fun s hs => ?_) (fun x hx => he x (List.mem_cons_of_mem _ hx))
      rcases List.mem_or_eq_of_mem_set hs with h1 | rfl
      · exact ha s h1
      · exact he e List.mem_cons_self
  refine key _ _ (alls_wf N) fun e he => ?_
  have h1 := List.mem_of_mem_take he
  exact h e.2 (List.of_mem_zip h1).2
theorem pick_len (cs : List Int) (b : List (List Iv)) : (pickL cs b).length = cs.length := by simp [pickL]
theorem lift_len (N : Nat) (cs : List Int) (b : List (List Iv)) : (liftL N cs b).length = N := liftK_len N cs b _
end Go.Proofs.YtmnmckblmoalkaaGreat

/-
  Plain: what the operations on canonical regions answer; the laws as equalities of answers. No program here.
-/
namespace Go.Proofs.YtmnmckblmoalkaaGreat
open Go.RowKit
set_option maxRecDepth 100000
open Rg

theorem opRes_bad {op : Bool → Bool → Bool} {a b : Rg} (h : ¬ opErr op a b = 0) : opRes op a b = zeroR := by rw [opRes, if_neg h]
section
variable {n : Nat} {a b : Rg} (ha : OkR a) (hwa : a.w = (n : Int))
include ha hwa
theorem ok_formN : Form n a := by
  have := ha.2.2.2.1
  rw [hwa, Int.toNat_natCast] at this
  exact this
theorem ok_n12 : n ≤ 12 := by have := ha.2.1; omega
variable (hb : OkR b) (hwb : b.w = (n : Int))
include hb hwb
theorem op_spec (op : Bool → Bool → Bool) : opErr op a b = (if (comb op n a b).size ≤ 64 ∧ (comb op n a b).fits = true then 0 else 2) ∧ (opErr op a b = 0 → opRes op a b = comb op n a b ∧ OkR (opRes op a b) ∧ (opRes op a b).w = (n : Int)) := by
  have h1 := op_err (op := op) ha hb (hwa.trans hwb.symm)
  rw [hwa, Int.toNat_natCast] at h1
  refine ⟨h1, fun h0 => ?_⟩
  have h2 := op_ok h0
  have h3 := h2.2.1
  rw [hwa, Int.toNat_natCast] at h3
  refine ⟨h3, h2.1, ?_⟩
  rw [h3]
  exact (comb_form _ _ _ _ (ok_formN ha hwa) (ok_formN hb hwb)).width
theorem op_02 (op : Bool → Bool → Bool) : opErr op a b = 0 ∨ opErr op a b = 2 := by
  rw [(op_spec ha hwa hb hwb op).1]
  split
  · exact .inl rfl
  · exact .inr rfl
end
section
variable {n : Nat} {a b c : Rg} (ha : OkR a) (hwa : a.w = (n : Int))
include ha hwa
theorem cp_spec : cpErr a = (if (cplR n a).size ≤ 64 ∧ (cplR n a).fits = true then 0 else 2) ∧ (cpErr a = 0 → cpRes a = cplR n a ∧ OkR (cpRes a) ∧ (cpRes a).w = (n : Int)) := by
  have hv := okB_true.2 ha
  have hn := ok_n12 ha hwa
  have h1 : a.w.toNat = n := by rw [hwa, Int.toNat_natCast]
  have h2 := op_spec (all_ok hn) (all_w n) ha hwa opMr
  rw [cpErr, cpRes, if_pos hv, if_pos hv, h1]
  exact h2
theorem cp_02 : cpErr a = 0 ∨ cpErr a = 2 := by
  rw [(cp_spec ha hwa).1]
  split
  · exact .inl rfl
  · exact .inr rfl
variable (hb : OkR b) (hwb : b.w = (n : Int))
include hb hwb
variable (hc : OkR c) (hwc : c.w = (n : Int))
include hc hwc
end
end Go.Proofs.YtmnmckblmoalkaaGreat

/-
  Plain: the laws of the algebra of canonical regions, as the program's own equality. No program here.
-/
namespace Go.Proofs.YtmnmckblmoalkaaGreat
open Go.RowKit
set_option maxRecDepth 100000
open Rg

section
variable {n : Nat} {a b r : Rg} (ha : OkR a) (hwa : a.w = (n : Int))
include ha hwa
variable (hb : OkR b) (hwb : b.w = (n : Int))
include hb hwb
end
end Go.Proofs.YtmnmckblmoalkaaGreat

/-
  Plain: which rows the program's Has finds in canonical regions and in what the operations make of them. No program here.
-/
namespace Go.Proofs.YtmnmckblmoalkaaGreat
open Go.RowKit
set_option maxRecDepth 100000
open Rg

theorem gfits_mem : ∀ {r : Rg}, r.fits = true → ∀ p ∈ r.parts, p.1.length ≤ 64 ∧ p.2.fits = true
  | nil _ _, _, p, hp => by simp [parts] at hp
  | cons vs r t, h, p, hp => by
    simp only [fits, Bool.and_eq_true, decide_eq_true_eq] at h
    simp only [parts, List.mem_cons] at hp
    rcases hp with rfl | hp
    · exact ⟨h.1.1, h.1.2⟩
    · exact gfits_mem h.2 p hp
theorem fnd_at (n : Int) {v : Vl} (hv : validV v = true) : ∀ r : Rg, (∀ p ∈ r.parts, validL p.1 = true) → (∃ p ∈ r.parts, fnd r.parts v = some p.2 ∧ r.at_ n v = p.2) ∨ (fnd r.parts v = none ∧ r.at_ n v = nil n false)
  | nil _ _, _ => .inr ⟨rfl, rfl⟩
  | cons vs q t, h => by
    have h0 := h (vs, q) List.mem_cons_self
    simp only [parts, fnd, at_, hasL, hv, h0, Bool.true_and]
    cases inL vs v
    · rcases fnd_at n hv t (fun p hp => h p (List.mem_cons_of_mem _ hp)) with ⟨p, hp, h1, h2⟩ | h1
      · exact .inl ⟨p, List.mem_cons_of_mem _ hp, h1, h2⟩
      · exact .inr h1
    · exact .inl ⟨(vs, q), List.mem_cons_self, rfl, rfl⟩
theorem hasF_den : ∀ (l : List Vl) (n : Nat) (r : Rg), Form n r → r.fits = true → goodRow n l → hasF r l = r.den l
  | [], _, r, _, _, _ => (den_nil r).symm
  | v :: l, 0, r, _, _, hg => by cases hg.1
  | v :: l, n + 1, r, hf, ht, hg => by
    have hv := hg.2 v List.mem_cons_self
    have hg' : goodRow n l := ⟨by have := hg.1; simp at this; exact this, fun u hu => hg.2 u (List.mem_cons_of_mem _ hu)⟩
    rw [den_cons (n : Int) v l r, hasF]
    rcases fnd_at (n : Int) hv r (fun p hp => by
      have h1 := hf.2.2.1 p hp
      have h2 := gfits_mem ht p hp
      simp [validL, h1.2.1, h2.1]) with ⟨p, hp, h1, h2⟩ | ⟨h1, h2⟩
    · rw [h1, h2]
      exact hasF_den l n p.2 (hf.2.2.1 p hp).2.2.1 (gfits_mem ht p hp).2 hg'
    · rw [h1, h2]
      cases l <;> rfl
theorem hasR_den {n : Nat} {a : Rg} {row : List Vl} (ha : OkR a) (hwa : a.w = (n : Int)) (h : goodRow n row) : hasR a row = a.den row := by
  rw [hasR, okB_true.2 ha, hwa, h.1, decide_eq_true rfl]
  exact hasF_den row n a (ok_formN ha hwa) ha.2.2.2.2 h
end Go.Proofs.YtmnmckblmoalkaaGreat

/-
  Case.Cells: a row of valid values of the length that is asked for.
-/
namespace Go.Proofs.YtmnmckblmoalkaaGreat
open Go.RowKit
set_option maxRecDepth 100000

theorem gcase_belowB {w w' : World} {g B : Nat} (h : CaseAt w g) (hb : Below B w w') (hB : g < B) : CaseAt w' g :=
  h.far (S := fun b => B ≤ b) ⟨hb.os, hb.tape, hb.output, hb.size, fun k _ hk => hb.block k (by simpa using hk)⟩ (fun b hb => by omega)
theorem gbut_belowB {S : Nat → Prop} {w0 w w' : World} {B : Nat} (h : But S w0 w) (hb : Below B w w') (hB : w0.heap.size ≤ B) : But S w0 w' :=
  ⟨hb.os.trans h.os, hb.tape.trans h.tape, hb.output.trans h.output, Nat.le_trans h.size hb.size, fun k hk hs => (hb.block k (by omega)).trans (h.block k hk hs)⟩
theorem gown_but {w w' : World} {base g : Nat} {e : TypeId} {size n : Nat} {v : Value} {xs : List Value} (h : w.ownsRow base e size v n xs) (hb : But (· = g) w w') (hg : g < base) : w'.ownsRow base e size v n xs :=
  own_at h (fun G hG hlt _ => hb.block G hlt (fun e => by omega))
def GCRel (m : Nat) (w : World) (g : Nat) (x i : Value) (wr : World) : Prop := ∃ (k : Nat) (l : List Vl) (A : Option Addr) (c : Nat), i = .int .i64 (k : Int) ∧ x = .slice A l.length c ∧ l.length + k = m ∧ (∀ v ∈ l, validV v = true) ∧ wr.ownsRow w.heap.size 49 3 (.slice A l.length c) l.length (l.flatMap Vl.cs) ∧ CaseAt wr g ∧ But (· = g) w wr
/-- a row was drawn -/
def RowP' (m : Nat) (w : World) (g : Nat) (e : Ending) (w' : World) : Prop := ∃ (A : Option Addr) (n c : Nat) (l : List Vl), e = .returned (.slice A n c) ∧ n = l.length ∧ n = m ∧ (∀ v ∈ l, validV v = true) ∧ w'.ownsRow w.heap.size 49 3 (.slice A n c) n (l.flatMap Vl.cs) ∧ VlS w' A n l ∧ CaseAt w' g ∧ But (· = g) w w'
set_option maxRecDepth 100000 in
set_option maxHeartbeats 4000000 in
theorem gcells_any (g : Nat) (m : Nat) (hm : m ≤ 12) (w : World) (hc : CaseAt w g) : Calls Tryz.prog 28 #[.pointer (some ⟨g, 0, none⟩), .int .i64 (m : Int)] w fun e w' => RowP' m w g e w' := by
  obtain ⟨i0, hi, hz0, hz1, hz2⟩ := info_parts info_vl
  have hgl := hc.lt
  go_enter Tryz.func28, Tryz.ntmps28
  go_wp2_with fail
  go_loopw [5, 1] (fun x i wr => GCRel m w g x i wr) (fun _ i _ => (intOf i).toNat)
  case atStart => exact ⟨m, [], none, 0, rfl, rfl, by simp, by simp, ⟨by simp, .inl ⟨rfl, rfl⟩⟩, hc, But.refl _ _⟩
  case round =>
    obtain ⟨k, l, A, c, rfl, rfl, hl, hvl, hown, hcr, hbr⟩ := hrel
    have HO := Lib.hid hown
    have HVL := Lib.hid hvl
    clear hown hvl
    by_cases hlt : 0 < k
    · go_wp2_with fail
      refine (any2_any g _ hcr).mono ?_
      rintro e w2 ⟨⟨⟨ak, ai, ab⟩, hav, har, rfl⟩, hc2, hb2⟩
      have HO2 := gown_but HO.out hb2 hgl
      have hsz : w.heap.size ≤ w2.heap.size := (hbr.trans hb2).size
      have HAV := Lib.hid hav
      clear hav har
      go_wp2_with (at_builtin; refine wpList_append_one2 (by rfl) (.tmp 10) (.tmp 13) _ (by rfl) w.heap.size 49 i0 _ 3 32 Tryz.underlying44 hi hz0 hz1 hz2 (by rfl) (by omega) (.slice A l.length c) l.length _ (by rfl) w2 _ HO2 w2.heap.size (by rfl) (by rfl) (by rfl) (one_vl ⟨ak, ai, ab⟩) (by simp only [maxLen]; omega) (by omega) hsz ?_; intro g6 cap6 w6 hown6 hg6 hB6 hat6 hlt6)
      go_roundw
      case rel =>
        refine ⟨k - 1, l ++ [⟨ak, ai, ab⟩], some ⟨g6, 0, none⟩, cap6, congrArg (Value.int .i64) (by omega), by simp, by simp; omega, ?_, ?_, gcase_belowB hc2 hB6 hgl, gbut_belowB (hbr.trans hb2) hB6 (Nat.le_refl _)⟩
        · intro v hv
          rcases List.mem_append.1 hv with h | h
          · exact HVL.out v h
          · simp at h
            subst h
            exact HAV.out
        · rw [List.flatMap_append]
          simpa [Vl.cs] using hown6
      case measure => simp [intOf]; omega
    · go_wp2
      go_ret
      exact ⟨A, l.length, c, l, rfl, rfl, by omega, HVL.out, HO.out, Sl.of_own (fun _ => rfl) rfl HO.out, hcr, hbr⟩
end Go.Proofs.YtmnmckblmoalkaaGreat
