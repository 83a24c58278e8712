/-
  Texts: IgBs, IgApC, AppC.
-/
import Derived.Test.YtponkkljlbifmaaGreatH28
import Derived.ArgAppend
set_option linter.unusedVariables false
/-
  slices.BinarySearchFunc over rows, by the shelf's contract.
-/
namespace Go.Proofs.YtponkkljlbifmaaGreat
open Go.RowKit Go.Sort Go.Shelf
set_option maxRecDepth 100000

abbrev AnyRow (w : World) : Type := { p : RowP // RowOk w p }
instance (w : World) : Inhabited (AnyRow w) := ⟨⟨((none, 0, 0), []), ⟨Sl.nil, fun _ => ⟨rfl, rfl⟩, Nat.le_refl _, by simp⟩⟩⟩
def encA {w : World} (x : AnyRow w) : Value := .slice x.1.1.1 x.1.1.2.1 x.1.1.2.2
section
variable {w : World} {blk off m : Nat} {d dk : Array (AnyRow w)} {os : Array Obj}
theorem swa_but : But (· = blk) w (sortWorld encA w blk off m dk os) :=
  ⟨rfl, rfl, rfl, by simp [sortWorld], fun k hk hne => by
    unfold sortWorld
    rw [heap_grow_old _ _ (by simpa using hk)]
    simp only [putRow, mapBlock, heap_ahead, Array.getElem?_modify]
    rw [if_neg (fun e => hne e.symm)]⟩
/-- what is no slice reads as before -/
theorem swa_cell (hH : Holds encA w blk off d) (hs : dk.size = d.size) {b o : Nat} {v : Value} (hv : w.cell? ⟨b, o, none⟩ = some v) (hns : ∀ A n c, v ≠ .slice A n c) : (sortWorld encA w blk off m dk os).cell? ⟨b, o, none⟩ = some v := by
  have hlt := cell_lt (w := w) (a := ⟨b, o, none⟩) (by rw [hv]; rfl)
  unfold sortWorld
  rw [cell?_grow _ _ _ (by simpa using hlt), cell?_putRow_other]
  · exact hv
  · by_cases hb : b = blk
    · subst hb
      by_cases h1 : o < off
      · exact .inr (.inl h1)
      · by_cases h2 : off + dk.size ≤ o
        · exact .inr (.inr h2)
        · have h3 := (hH (o - off) (by omega)).1
          rw [show off + (o - off) = o by omega, hv] at h3
          injection h3 with h3
          exact absurd h3 (hns _ _ _)
    · exact .inl hb
theorem swa_vl (hH : Holds encA w blk off d) (hs : dk.size = d.size) {A : Option Addr} {n : Nat} {l : List Vl} (h : VlS w A n l) : VlS (sortWorld encA w blk off m dk os) A n l := by
  refine ⟨h.1, fun hn => ?_⟩
  obtain ⟨b, o, e, hc⟩ := h.2 hn
  refine ⟨b, o, e, fun k x hx j u hu => swa_cell hH hs (hc k x hx j u hu) fun A n c e => ?_⟩
  subst e
  rcases j with _ | _ | _ | j <;> simp [Vl.cs] at hu
theorem swa_row (hH : Holds encA w blk off d) (hs : dk.size = d.size) {p : RowP} (h : RowOk w p) : RowOk (sortWorld encA w blk off m dk os) p := ⟨swa_vl hH hs h.rd, h.nl, h.le, h.mx⟩
theorem swa_below (hH : Holds encA w blk off d) (hblk : blk < w.heap.size) {w' : World} (h : SW encA w blk off d w') : Below w.heap.size w w' := by
  obtain ⟨n, os, rfl⟩ := h
  unfold sortWorld
  rw [show putRow encA (Go.Sort.ahead w n) blk off d = Go.Sort.ahead w n from putRow_self encA _ blk off d hH]
  exact ⟨rfl, rfl, rfl, by simp, fun k hk => heap_grow_old _ _ (by simpa using hk)⟩
end
/-- where a row stands among rows -/
def foundF (f : Rw → Int) (l : List Rw) (i : Nat) : Bool := match l[i]? with
  | none => false
  | some r => decide (f r = 0)
def toA {w : World} (ps : List RowP) (h : ∀ p ∈ ps, RowOk w p) : Array (AnyRow w) := (ps.attach.map fun p => ⟨p.1, h p.1 p.2⟩).toArray
theorem toA_size {w : World} (ps : List RowP) (h : ∀ p ∈ ps, RowOk w p) : (toA ps h).size = ps.length := by simp [toA]
theorem toA_at {w : World} (ps : List RowP) (h : ∀ p ∈ ps, RowOk w p) (j : Nat) (hj : j < ps.length) : ((toA ps h)[j]!).1 = ps[j] := by
  rw [getElem!_pos (toA ps h) j (by rw [toA_size]; exact hj)]
  simp [toA]
theorem toA_list {w : World} (ps : List RowP) (h : ∀ p ∈ ps, RowOk w p) : (toA ps h).toList.map (·.1) = ps := by
  simp only [toA, List.map_map, Function.comp_def]
  first | exact List.attach_map_subtype_val ps | exact List.attach_map_val ps | simp
/-- a search: g answers f of a row, in every world of the search -/
theorem search_any (g : Nat) (cb : Array Value) (f : Rw → Int) (A : Option Addr) (n cap : Nat) (ps : List RowP) (tv : Value) (w : World) (hps : RowsS w A n ps) (hfz : 0 < n → ∀ b o, A = some ⟨b, o, none⟩ → ∀ j, w.frozen? ⟨b, j, none⟩ = false) (hn : n ≤ 1000000)
    (eg : ∀ args w, (callFunc g args).run Tryz.prog w = .ok (.enter g args) w)
    (hcl : 0 < n → ∀ b o S, A = some ⟨b, o, none⟩ → But (· = b) w S → (∀ q, RowOk w q → RowOk S q) → ∀ x : RowP, RowOk w x → Calls Tryz.prog g (#[.slice x.1.1 x.1.2.1 x.1.2.2, tv] ++ cb) S fun e w' => e = .returned (.int .i64 (f x.2)) ∧ Lay S w')
    (hmono : ∀ (a b : Nat) (x y : RowP), a ≤ b → ps[a]? = some x → ps[b]? = some y → f y.2 < 0 → f x.2 < 0) :
    Calls Tryz.prog 69 #[.slice A n cap, tv, .func (.func g) #[] cb] w fun e w' =>
      e = .returned (.tuple #[.int .i64 (((ps.map (·.2)).countP fun r => decide (f r < 0) : Nat) : Int), .bool (foundF f (ps.map (·.2)) ((ps.map (·.2)).countP fun r => decide (f r < 0)))]) ∧ Below w.heap.size w w' := by
  have hlen := hps.sl.len
  rcases Nat.eq_zero_or_pos n with h0 | h0
  · subst h0
    obtain rfl : ps = [] := List.eq_nil_of_length_eq_zero hlen
    have hcon := Any.slices_BinarySearchFunc_none Tryz.searchL A cap tv (.func (.func g) #[] cb) w
    exact hcon.mono fun e w' ⟨he, hw⟩ => ⟨he, by rw [hw]; exact Below.refl _ _⟩
  · obtain ⟨blk, off, rfl, hc⟩ := hps.sl.2 h0
    have hsz : (toA ps hps.ok).size = n := by rw [toA_size, hlen]
    have hat : ∀ j (hj : j < ps.length), ((toA ps hps.ok)[j]!).1 = ps[j] := toA_at ps hps.ok
    have hH : Holds encA w blk off (toA ps hps.ok) := by
      intro j hj
      have hj' : j < ps.length := by rw [toA_size] at hj; exact hj
      refine ⟨?_, hfz h0 _ _ rfl _⟩
      have h1 := hc j _ (List.getElem?_eq_getElem hj') 0 _ rfl
      rw [Nat.mul_one, Nat.add_zero] at h1
      rw [h1]
      unfold encA
      rw [hat j hj']
    have hblk : blk < w.heap.size := Sl.lt (sz := 1) (cs := rowc) (fun _ => rfl) (by omega) hps.sl h0 blk off rfl
    have hcon := Any.slices_BinarySearchFunc Tryz.searchL (encA (w := w)) (fun _ => rfl) tv (fun x => f x.1.2) g cb blk off cap (toA ps hps.ok) w eg (fun m os dk hs x => (hcl h0 blk off _ rfl swa_but (fun q hq => swa_row hH hs hq) x.1 x.2).mono fun e w' ⟨he, hl⟩ => ⟨he, lay_of hl⟩) hH hblk (by omega) (fun a b hab hb hy => by
      rw [hsz] at hb
      rw [hat b (by omega)] at hy
      rw [hat a (by omega)]
      exact hmono a b _ _ hab (List.getElem?_eq_getElem _) (List.getElem?_eq_getElem _) hy)
    have hcnt : (toA ps hps.ok).toList.countP (fun x => decide (f x.1.2 < 0)) = (ps.map (·.2)).countP fun r => decide (f r < 0) := by
      conv => rhs; rw [← toA_list ps hps.ok]
      rw [List.map_map, List.countP_map]
      rfl
    rw [hsz, hcnt] at hcon
    refine hcon.mono fun e w' ⟨he, hw⟩ => ⟨he.trans ?_, swa_below hH hblk hw⟩
    generalize (ps.map (·.2)).countP (fun r => decide (f r < 0)) = i
    unfold foundF
    by_cases hi : i < n
    · have hi' : i < ps.length := by omega
      rw [hat i hi', List.getElem?_map, List.getElem?_eq_getElem hi', decide_eq_true hi, Bool.true_and]
      rfl
    · rw [List.getElem?_map, List.getElem?_eq_none (by omega), decide_eq_false hi, Bool.false_and]
      rfl
end Go.Proofs.YtponkkljlbifmaaGreat

/-
  The comparison that table.applied hands to the search.
-/
namespace Go.Proofs.YtponkkljlbifmaaGreat
open Go.RowKit
set_option maxRecDepth 100000
open Pd

theorem appcl_any (ver : Int) (A : Option Addr) (n c : Nat) (tbs : List Tb) (t : Nat) (T : Tb) (b1 b2 : Nat) (u1 u2 : Value) (X : Option Addr) (xn xc : Nat) (x : Rw) (K : Option Addr) (kn kc : Nat) (key : Rw) (w : World) (hs : ScS w A n tbs) (hn : n ≤ 8) (hT : tbs[t]? = some T) (h0 : 0 ≤ T.key)
    (hb1 : Blk w b1 30 #[.int .i64 ver, .slice A n c]) (hb2 : Blk w b2 91 #[.int .i64 (t : Int), u1, u2]) (hx : RowOk w ((X, xn, xc), x)) (hk : RowOk w ((K, kn, kc), key)) :
    Calls Tryz.prog 75 #[.slice X xn xc, .slice K kn kc, .pointer (some ⟨b1, 0, none⟩), .pointer (some ⟨b2, 0, none⟩)] w fun e w' => e = .returned (.int .i64 (cmpR (keyT T x) key)) ∧ Lay w w' := by
  have HS := Lib.hid hs
  have HX := Lib.hid hx
  have HK := Lib.hid hk
  have HT := Lib.hid hT
  have z1 := hb1.cell
  have z2 := hb2.cell
  clear hs hx hk hT hb1 hb2
  go_enter Tryz.func75, Tryz.ntmps75
  go_wp2_with fail
  refine (prefixW_any ver A n c tbs t T X xn xc x _ HS.out hn HT.out h0 HX.out).mono ?_
  rintro e w1 ⟨⟨⟨⟨Q, qn, qc⟩, y⟩, rfl, hq, hqo, hb⟩, hl⟩
  dsimp only at hq
  subst hq
  have HQ := Lib.hid hqo
  have HK1 := Lib.hid (HK.out.keep (keeps_of hb))
  have HL := Lib.hid hl
  clear hqo hb hl z1 z2
  go_wp2_with fail
  refine (comprowsL_any Q K qn kn qc kc (keyT T x) key _ HQ.out.rd HK1.out.rd HQ.out.lenle HK1.out.lenle).mono ?_
  rintro e w2 ⟨rfl, hl⟩
  have HE := Lib.hid (HL.out.trans hl)
  clear hl
  go_wp2
  go_ret
  exact ⟨rfl, HE.out⟩
theorem ent_appcl : ∀ args w, (callFunc 75 args).run Tryz.prog w = .ok (.enter 75 args) w := Go.Proofs.enters_of Tryz.func75 (by kernel_rfl) rfl
end Go.Proofs.YtponkkljlbifmaaGreat

/-
  Append of a slice onto a slice without room: nothing of what was there changes. No program here.
-/
namespace Go.Proofs.YtponkkljlbifmaaGreat
open Go.RowKit
set_option maxRecDepth 100000

/-- nothing is appended -/
theorem wpList_append_zero {P : Program} (w : World) {ops : Array Oper} {rest : List Oper} {o : Oper} {a : Act} {Q : Exit → Act → World → Prop} (hgd : o.guard = none) (s x : Operand) (t : TypeId)
    (ho : o.op = .call { callee := .builtin .append, args := #[s, x], argTypes := #[t, t] }) (e : TypeId) (i : TypeInfo) (ht : P.underlying t = some (.slice e)) (hi : P.info? e = some i)
    (A : Option Addr) (n cap : Nat) (hn : n ≤ cap) (hs : a.eval s = .slice A n cap) (B : Option Addr) (c : Nat) (hx : a.eval x = .slice B 0 c)
    (h : wpList P ops Q rest (a.put o.dst (.slice A n cap)) w) : wpList P ops Q (o :: rest) a w := by
  refine wpList_plain hgd fun K hK => ?_
  have hrun : (Builtin.append_ #[t, t] o.type #[.slice A n cap, .slice B 0 c]).run P w = .ok (.slice A n cap) w := by
    cases B with
    | none => cases A <;> simp [Builtin.append_, run_underlying ht, sizeOf, typeInfo, hi, Builtin.lenOf, Builtin.firstCells, hn, storeCells]
    | some ad =>
      have hf := run_firstCells_some (P := P) w i.size 0 ad 0 c [] (by simp) (fun j u hu => by simp at hu)
      cases A <;> simp [Builtin.append_, run_underlying ht, sizeOf, typeInfo, hi, Builtin.lenOf, hf, hn, storeCells]
  unfold Oper.wp
  simp [execOp, ho, resolve, invoke, builtin, hs, hx, hrun, Result.andThen]
  exact hK _ _ h
theorem sl_flat {α : Type} {sz : Nat} {cs : α → List Value} (hcs : ∀ y, (cs y).length = sz) (hsz : 0 < sz) {w : World} {ad : Addr} {n : Nat} {l : List α} (h : Sl sz cs w (some ad) n l) : ∀ j u, (l.flatMap cs)[j]? = some u → w.cell? (ad.add j) = some u := by
  intro j u hu
  obtain ⟨y, hy, hyu⟩ := flat_get hcs hsz l j u hu
  have hm : 0 < n := by
    have h3 := (List.getElem?_eq_some_iff.1 hy).1
    rw [h.len] at h3
    exact Nat.lt_of_le_of_lt (Nat.zero_le _) h3
  obtain ⟨b', o', hA, hc⟩ := h.2 hm
  injection hA with hA
  subst hA
  have h2 := hc _ y hy _ u hyu
  rw [add_at, ← h2, Nat.add_assoc, Nat.mul_comm, Nat.div_add_mod]
/-- a slice lies in a block of its elements, not below B -/
def SlB (w : World) (e : TypeId) (B : Nat) (A : Option Addr) (n : Nat) : Prop := 0 < n → ∃ b o cs, A = some ⟨b, o, none⟩ ∧ Blk w b e cs ∧ B ≤ b
theorem SlB.below {w w' : World} {e : TypeId} {B : Nat} {A : Option Addr} {n : Nat} (h : SlB w e B A n) (hb : Below w.heap.size w w') : SlB w' e B A n := fun hn => by
  obtain ⟨b, o, cs, h1, h2, h3⟩ := h hn
  exact ⟨b, o, cs, h1, h2.below hb, h3⟩
theorem SlB.own {w : World} {e : TypeId} {B size : Nat} {A : Option Addr} {n c m : Nat} {xs : List Value} (h : w.ownsRow B e size (.slice A n c) m xs) (hm : 0 < m) : SlB w e B A n := fun _ => by
  rcases h.2 with ⟨_, hn⟩ | ⟨g, cap, cur, hv, hg, hh, _⟩
  · omega
  · injection hv with hv
    exact ⟨g, 0, cur, hv, hh, hg⟩
/-- a slice is appended onto one whose length is its capacity -/
theorem wpList_append_cap {α : Type} {cs : α → List Value} {P : Program} (w : World) {ops : Array Oper} {rest : List Oper} {o : Oper} {a : Act} {Q : Exit → Act → World → Prop} (hgd : o.guard = none) (s x : Operand) (t : TypeId)
    (ho : o.op = .call { callee := .builtin .append, args := #[s, x], argTypes := #[t, t] })
    (e : TypeId) (i : TypeInfo) (z : Value) (size bytes : Nat) (ht : P.underlying t = some (.slice e)) (hi : P.info? e = some i) (hz : i.zero = some z)
    (hsize : i.size = size) (hby : i.bytes = bytes) (hzs : z.cells.size = size) (hsz : 0 < size) (hcs : ∀ y, (cs y).length = size) (h1 : ∀ y, ∀ u ∈ cs y, u.oneCell' = true)
    (A : Option Addr) (n : Nat) (xs : List α) (hs : a.eval s = .slice A n n) (hA : Sl size cs w A n xs) (hnA : A = none → n = 0) (hsA : ∀ ad, A = some ad → ad.spot = none)
    (B : Option Addr) (m c : Nat) (ys : List α) (hx : a.eval x = .slice B m c) (hB : Sl size cs w B m ys) (base : Nat) (hbase : base ≤ w.heap.size) (hlb : SlB w e base A n) (h63 : n + m ≤ maxLen) (hbytes : (n + m) * bytes ≤ 140737488355328)
    (h : ∀ A' c' w', Sl size cs w' A' (n + m) (xs ++ ys) → (A' = none → n + m = 0 ∧ c' = 0) → (∀ ad, A' = some ad → ad.spot = none) → n + m ≤ c' → c' ≤ 9223372036854775807 → SlB w' e base A' (n + m) → Below w.heap.size w w' →
      wpList P ops Q rest (a.put o.dst (.slice A' (n + m) c')) w') : wpList P ops Q (o :: rest) a w := by
  rcases Nat.eq_zero_or_pos m with h0 | h0
  · subst h0
    obtain rfl : ys = [] := List.eq_nil_of_length_eq_zero hB.len
    refine wpList_append_zero w hgd s x t ho e i ht hi A n n (Nat.le_refl _) hs B c hx ?_
    exact h A n w (by simpa using hA) (fun e => ⟨hnA e, hnA e⟩) hsA (Nat.le_refl _) (by simp only [maxLen] at h63; omega) hlb (Below.refl _ _)
  · obtain ⟨b, off, rfl, _⟩ := hB.2 h0
    refine wpList_append_grows w hgd s x t ho e i z size bytes ht hi hz hsize hby hzs hsz A n n (xs.flatMap cs) hs (fun e => ⟨hnA e, hnA e⟩) (by rw [flat_len hcs, hA.len]) (fun ad e => ?_) ⟨b, off, none⟩ m c (ys.flatMap cs) hx (by rw [flat_len hcs, hB.len]) (sl_flat hcs hsz hB) (fun u hu => ?_) (by omega) h63 hbytes ?_
    · subst e
      exact sl_flat hcs hsz hA
    · rw [List.mem_flatMap] at hu
      obtain ⟨y, _, hu⟩ := hu
      exact h1 y u hu
    · intro v' w' hown hg
      obtain ⟨g, cap, rfl, hgb, hgl⟩ := hown.form (by omega)
      rw [← List.flatMap_append] at hown
      have hl : (xs ++ ys).length = n + m := by rw [List.length_append, hA.len, hB.len]
      have hle : n + m ≤ cap ∧ cap ≤ 9223372036854775807 := by
        rcases hown.2 with ⟨hv, hn⟩ | ⟨g', cap', cur, hv, _, _, hnc, hmx, _⟩
        · omega
        · injection hv with _ _ hv
          subst hv
          simp only [maxLen] at hmx
          exact ⟨hnc, by omega⟩
      exact h _ _ w' (Sl.of_own hcs hl hown) (fun e => (by cases e)) (fun ad e => by injection e with e; subst e; rfl) hle.1 hle.2 (fun _ => by
        obtain ⟨b, o, cs', h1, h2, h3⟩ := SlB.own hown (by omega) (show 0 < n + m by omega)
        exact ⟨b, o, cs', h1, h2, by omega⟩) ((Below.refl _ _).grown hg (Nat.le_refl _) (fun k hk => by cases hk))
end Go.Proofs.YtponkkljlbifmaaGreat
