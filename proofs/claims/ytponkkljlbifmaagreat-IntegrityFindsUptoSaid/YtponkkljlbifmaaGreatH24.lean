/-
  Texts: BdTree.
-/
import Derived.Test.YtponkkljlbifmaaGreatH23
set_option linter.unusedVariables false
/-
  Case.tree: a valid predicate, laid into new memory.
-/
namespace Go.Proofs.YtponkkljlbifmaaGreat
open Go.RowKit
set_option maxRecDepth 100000
open Pd
set_option linter.unusedVariables false

theorem info_pd : (Tryz.prog.info? 71).map (fun i => (i.zero, i.size, i.bytes)) = some (some (.agg #[.int .i64 0, .int .i64 0, .int .i64 0, .int .i64 0, .int .i64 0, .int .i64 0, .string ⟨#[]⟩, .int .i64 0, .int .i64 0, .int .i64 0, .int .i64 0, .string ⟨#[]⟩, .slice none 0 0]), 13, 136) := by kernel_rfl
/-- a valid predicate was drawn; it lies in new memory -/
def tnD : Nat → Nat
  | 0 => 1
  | d + 1 => 1 + 3 * tnD d
theorem tnD_pos : ∀ d, 1 ≤ tnD d
  | 0 => Nat.le_refl _
  | d + 1 => by unfold tnD; omega
theorem tnD_succ {d : Nat} (h : 0 < d) : tnD d = 1 + 3 * tnD (d - 1) := by
  cases d with
  | zero => omega
  | succ d => rfl
def TreeR (cols : List Int) (K : Nat) (w : World) (g : Nat) (e : Ending) (w' : World) : Prop := ∃ (p : Pd) (A : Option Addr) (n c : Nat), e = .returned (.agg (pdV p.h A n c)) ∧ PrdL (fun b => w.heap.size ≤ b) w' A n c p ∧ validB cols [] p = true ∧ wfP p ∧ CaseAt w' g ∧ But (· = g) w w' ∧ p.nodes ≤ K
def TreeC (cols : List Int) (d : Nat) : Prop := ∀ (B g : Nat) (Ac : Option Addr) (nc cc : Nat) (dz : Int) (w : World), dz = (d : Int) → CaseAt w g → ClJ B g w Ac nc cols → nc ≤ 12 → colB cols = true → Calls Tryz.prog 49 #[.pointer (some ⟨g, 0, none⟩), .slice Ac nc cc, .slice none 0 0, .int .i64 dz] w fun e w' => TreeR cols (tnD d) w g e w'
/-- the state: the result's box is empty -/
structure TrS (w : World) (g T : Nat) (wr : World) : Prop where
  bt : Blk wr T 71 #[.int .i64 0, .int .i64 0, .int .i64 0, .int .i64 0, .int .i64 0, .int .i64 0, .string ⟨#[]⟩, .int .i64 0, .int .i64 0, .int .i64 0, .int .i64 0, .string ⟨#[]⟩, .slice none 0 0]
  cs : CaseAt wr g
  bu : But (· = g) w wr
  hT : w.heap.size ≤ T
  hg : g < w.heap.size
section
variable {w wr wr' : World} {g T : Nat}
theorem TrS.step (h : TrS w g T wr) (hb : But (· = g) wr wr') (hc : CaseAt wr' g) : TrS w g T wr' := ⟨h.bt.but hb (by have := h.hT; have := h.hg; omega), hc, h.bu.trans hb, h.hT, h.hg⟩
theorem TrS.below (h : TrS w g T wr) (hb : Below wr.heap.size wr wr') : TrS w g T wr' := h.step (But.of_below hb) (h.cs.below hb)
theorem TrS.off {U : Nat} (h : TrS w g T wr) (hb : But (· = U) wr wr') (hU : T < U) : TrS w g T wr' := ⟨h.bt.but hb (by omega), case_far h.cs hb (by have := h.hT; have := h.hg; omega), but_new h.bu hb (by have := h.hT; omega), h.hT, h.hg⟩
theorem TrS.belowB {B : Nat} (h : TrS w g T wr) (hb : Below B wr wr') (hB : T < B) : TrS w g T wr' := ⟨(hb.block T hB).trans h.bt, gcase_belowB h.cs hb (by have := h.hT; have := h.hg; omega), gbut_belowB h.bu hb (by have := h.hT; omega), h.hT, h.hg⟩
theorem TrS.fin {cols : List Int} {K : Nat} (h : TrS w g T wr) {p : Pd} {A : Option Addr} {n c : Nat} (hp : PrdL (fun b => w.heap.size ≤ b ∧ b ≠ T) wr A n c p) (hv : validB cols [] p = true) (hw : wfP p) (hK : p.nodes ≤ K) (vs : List Value) (hvs : (pdV p.h A n c).toList = vs) : TreeR cols K w g (.returned (.agg (pdV p.h A n c))) (putL wr T 0 vs) :=
  ⟨p, A, n, c, rfl, (hp.but (putL_but T vs wr 0) (fun b h _ => h.2)).mono (fun _ h _ => h.1), hv, hw, case_far h.cs (putL_but _ _ _ _) (by have := h.hT; have := h.hg; omega), but_new h.bu (putL_but _ _ _ _) h.hT, hK⟩
theorem valid_leaf {cols : List Int} {cm k : Int} {l r : Od} (hc : 1 ≤ cm ∧ cm ≤ 6) (hk : k = 3 ∨ k = 4 ∨ k = 5) (hl : OdOk cols k l) (hr : OdOk cols k r) : validB cols [] (.nil ⟨3, cm, l, r⟩) = true ∧ wfP (.nil ⟨3, cm, l, r⟩) := by
  refine ⟨?_, ⟨hl.rg, hr.rg⟩, trivial⟩
  show (headOk cols [] ⟨3, cm, l, r⟩ 0 && true) = true
  unfold headOk
  rw [if_pos rfl, Bool.and_true]
  refine decide_eq_true ⟨rfl, hc, ?_, ?_⟩
  · rw [show kindOf cols [] l = k from hl.kd]; omega
  · rw [show kindOf cols [] l = k from hl.kd, show kindOf cols [] r = k from hr.kd]
theorem ok_zero (op : Int) : okNd (plainN op) := ⟨⟨by show minI ≤ (0 : Int); decide, by show (0 : Int) ≤ 9223372036854775807; decide⟩, ⟨by show minI ≤ (0 : Int); decide, by show (0 : Int) ≤ 9223372036854775807; decide⟩⟩
theorem plain_plain (op : Int) : plainH (plainN op) = true := decide_eq_true ⟨rfl, rfl, rfl⟩
theorem valid_const {cols : List Int} {op : Int} (h : op = 1 ∨ op = 2) : validB cols [] (.nil (plainN op)) = true ∧ wfP (.nil (plainN op)) := by
  refine ⟨?_, ok_zero op, trivial⟩
  rcases h with rfl | rfl <;> rfl
theorem valid_not {cols : List Int} {q : Pd} (hv : validB cols [] q = true) (hw : wfP q) : validB cols [] (.cons q (.nil (plainN 6))) = true ∧ wfP (.cons q (.nil (plainN 6))) := by
  refine ⟨?_, ok_zero 6, hw.1, hw.2, trivial⟩
  show (headOk cols [] (plainN 6) 1 && (validB cols [] q && true)) = true
  rw [hv]
  rfl
theorem valid_many {cols : List Int} {op : Int} (h : op = 4 ∨ op = 5) {l : List Pd} (hl : ∀ q ∈ l, validB cols [] q = true ∧ wfP q) : validB cols [] (mkP (plainN op) l) = true ∧ wfP (mkP (plainN op) l) := by
  refine ⟨?_, ?_⟩
  · unfold validB
    rw [h_mk, Bool.and_eq_true, validA_mem, args_mk]
    refine ⟨?_, fun q hq => (hl q hq).1⟩
    unfold headOk
    rcases h with rfl | rfl
    · exact plain_plain 4
    · exact plain_plain 5
  · refine ⟨by rw [h_mk]; exact ok_zero op, ?_⟩
    clear h
    induction l with
    | nil => trivial
    | cons a l ih => exact ⟨(hl a List.mem_cons_self).2.1, (hl a List.mem_cons_self).2.2, ih fun q hq => hl q (List.mem_cons_of_mem _ hq)⟩
end
theorem nodes_mk (h : Nd) {K : Nat} : ∀ {l : List Pd}, (∀ q ∈ l, q.nodes ≤ K) → (mkP h l).nodes ≤ 1 + l.length * K
  | [], _ => by simp [mkP, nodes]
  | a :: l, hl => by
    have h1 := hl a List.mem_cons_self
    have h2 := nodes_mk h (l := l) (fun q hq => hl q (List.mem_cons_of_mem _ hq))
    simp only [mkP, nodes, List.length_cons, Nat.succ_mul]
    omega
/-- only the case turns -/
def onlyT (g : Nat) (a b : World) : Prop := But (· = g) a b
theorem onlyT_trans (g : Nat) : ∀ a b c, onlyT g a b → onlyT g b c → onlyT g a c := fun _ _ _ h k => But.trans h k
/-- the state of the loop over the arguments -/
structure LpS (cols : List Int) (K : Nat) (w : World) (g T O : Nat) (op : Int) (A : Option Addr) (n c : Nat) (es : List PdE) (wr : World) : Prop where
  q : TrS w g T wr
  bo : Blk wr O 71 #[.int .i64 op, .int .i64 0, .int .i64 0, .int .i64 0, .int .i64 0, .int .i64 0, .string ⟨#[]⟩, .int .i64 0, .int .i64 0, .int .i64 0, .int .i64 0, .string ⟨#[]⟩, .slice A n c]
  ow : wr.ownsRow (O + 1) 71 13 (.slice A n c) n (es.flatMap PdE.cs)
  ln : es.length = n
  ps : ∀ e ∈ es, PrdL (fun b => O + 1 ≤ b ∧ some b ≠ (Value.slice A n c).ownBlock) wr e.A e.n e.c e.p ∧ validB cols [] e.p = true ∧ wfP e.p ∧ e.p.nodes ≤ K
  lo : T < O
section
variable {cols : List Int} {K : Nat} {w wr wr' : World} {g T O : Nat} {op : Int} {A : Option Addr} {n c : Nat} {es : List PdE}
theorem LpS.gO (h : LpS cols K w g T O op A n c es wr) : g < O := by have := h.q.hT; have := h.q.hg; have := h.lo; omega
theorem LpS.step (h : LpS cols K w g T O op A n c es wr) (hb : But (· = g) wr wr') (hc : CaseAt wr' g) : LpS cols K w g T O op A n c es wr' := by
  have hg := h.gO
  refine ⟨h.q.step hb hc, h.bo.but hb (by omega), own_but h.ow hb (fun q hq => by have := (own_lt h.ow hq).1; omega), h.ln, fun e he => ⟨(h.ps e he).1.but hb (fun b hl _ => by have := hl.1; omega), (h.ps e he).2⟩, h.lo⟩
theorem LpS.below (h : LpS cols K w g T O op A n c es wr) (hb : Below wr.heap.size wr wr') : LpS cols K w g T O op A n c es wr' := h.step (But.of_below hb) (h.q.cs.below hb)
theorem LpS.app (h : LpS cols K w g T O op A n c es wr) {V : Nat} (hV : ∀ b, (Value.slice A n c).ownBlock = some b → b < V) (hVO : O < V) {q : PdE} (hq : PrdL (fun b => V ≤ b) wr q.A q.n q.c q.p) (hv : validB cols [] q.p = true) (hw : wfP q.p ∧ q.p.nodes ≤ K)
    {cs : Array Value} {G cap : Nat} {w6 : World} (ho : w6.ownsRow (O + 1) 71 13 (.slice (some ⟨G, 0, none⟩) (n + 1) cap) (n + 1) ((es ++ [q]).flatMap PdE.cs)) (hg : (wr.alloc (.cells cs 71)).grownBy w6 (Value.slice A n c).ownBlock) (hB : Below (O + 1) wr w6) (hat : (Value.slice A n c).ownBlock = some G ∨ G = wr.heap.size + 1) :
    LpS cols K w g T O op (some ⟨G, 0, none⟩) (n + 1) cap (es ++ [q]) (w6.setCell ⟨O, 12, none⟩ (.slice (some ⟨G, 0, none⟩) (n + 1) cap)) := by
  have hs : (wr.alloc (.cells cs 71)).heap.size = wr.heap.size + 1 := by simp
  have hset : But (· = O) w6 (w6.setCell ⟨O, 12, none⟩ (.slice (some ⟨G, 0, none⟩) (n + 1) cap)) := But.set (S := fun k => k = O) w6 (p := ⟨O, 12, none⟩) rfl _
  have hGr : But (fun k => (Value.slice A n c).ownBlock = some k) (wr.alloc (.cells cs 71)) w6 := But.of_grown hg (fun k hk => hk)
  have hbo : Blk w6 O 71 _ := (hB.block O (by omega)).trans h.bo
  refine ⟨(h.q.belowB hB (by have := h.lo; omega)).off hset h.lo, hbo.set_ 12 _, own_but ho hset (fun k hk => by have := (own_lt ho hk).1; omega), by rw [List.length_append, h.ln]; rfl, fun e he => ?_, h.lo⟩
  have key : ∀ {e : PdE}, PrdL (fun b => O + 1 ≤ b ∧ some b ≠ (Value.slice A n c).ownBlock) wr e.A e.n e.c e.p → PrdL (fun b => O + 1 ≤ b ∧ some b ≠ (Value.slice (some ⟨G, 0, none⟩) (n + 1) cap).ownBlock) (w6.setCell ⟨O, 12, none⟩ (.slice (some ⟨G, 0, none⟩) (n + 1) cap)) e.A e.n e.c e.p := by
    intro e hP
    have h1 := hP.mono (L' := fun b => (O + 1 ≤ b ∧ some b ≠ (Value.slice A n c).ownBlock) ∧ b < wr.heap.size) fun b hl hb => ⟨hl, hb⟩
    have h2 := (h1.but (But.alloc (S := fun _ => False) wr (.cells cs 71)) (fun _ _ _ h => h)).but hGr (fun b hl _ e => hl.1.2 e.symm)
    refine (h2.but hset (fun b hl _ => by have := hl.1.1; omega)).mono fun b hl _ => ⟨hl.1.1, fun e => ?_⟩
    have eG : b = G := by simpa [Value.ownBlock] using e
    rcases hat with hat | hat
    · exact hl.1.2 (by rw [hat, eG])
    · have := hl.2; omega
  rcases List.mem_append.1 he with he | he
  · exact ⟨key (h.ps e he).1, (h.ps e he).2⟩
  · rw [List.mem_singleton.1 he]
    exact ⟨key (hq.mono fun b hl _ => ⟨by omega, fun e => by have := hV b e.symm; omega⟩), hv, hw⟩
theorem LpS.fin {K' : Nat} (h : LpS cols K w g T O op A n c es wr) (hop : op = 4 ∨ op = 5) (hK : 1 + n * K ≤ K') (vs : List Value) (hvs : (pdV (plainN op) A n c).toList = vs) : TreeR cols K' w g (.returned (.agg (pdV (plainN op) A n c))) (putL wr T 0 vs) := by
  have hP := pdl_own (L := fun b => O + 1 ≤ b) (plainN op) h.ow h.ln (fun b hb => (own_lt h.ow hb).1) (fun e he => (h.ps e he).1.mono fun _ hl _ => hl.1)
  obtain ⟨hv, hw⟩ := valid_many hop (cols := cols) (l := es.map PdE.p) (fun q hq => by
    obtain ⟨e, he, rfl⟩ := List.mem_map.1 hq
    exact ⟨(h.ps e he).2.1, (h.ps e he).2.2.1⟩)
  have hN : (mkP (plainN op) (es.map PdE.p)).nodes ≤ K' := by
    have h1 := nodes_mk (plainN op) (l := es.map PdE.p) (K := K) (fun q hq => by
      obtain ⟨e, he, rfl⟩ := List.mem_map.1 hq
      exact (h.ps e he).2.2.2)
    rw [List.length_map, h.ln] at h1
    omega
  have hh : (mkP (plainN op) (es.map PdE.p)).h = plainN op := h_mk _ _
  have hf := h.q.fin (p := mkP (plainN op) (es.map PdE.p)) (A := A) (n := n) (c := c) (hP.mono fun b hl _ => ⟨by have := h.lo; have := h.q.hT; omega, by have := h.lo; omega⟩) hv hw hN vs (by rw [hh]; exact hvs)
  rw [hh] at hf
  exact hf
end
set_option maxRecDepth 100000 in
set_option maxHeartbeats 16000000 in
theorem tree_step (cols : List Int) (d : Nat) (hd : d ≤ 3) (ih : 0 < d → TreeC cols (d - 1)) : TreeC cols d := by
  intro B g Ac nc cc dz w hdz hc hl hn hcb
  obtain ⟨i1, hi, hz0, hz1, hz2⟩ := info_parts info_pd
  have IH := Lib.hid ih
  have HCB := Lib.hid hcb
  have HL0 := Lib.hid hl
  have HDZ := Lib.hid hdz
  have hdz0 : 0 ≤ dz := by omega
  have hdz3 : dz ≤ 3 := by omega
  obtain ⟨W0, HW0⟩ : ∃ W : World, Hid (w.alloc (.cells #[.int .i64 0, .int .i64 0, .int .i64 0, .int .i64 0, .int .i64 0, .int .i64 0, .string ⟨#[]⟩, .int .i64 0, .int .i64 0, .int .i64 0, .int .i64 0, .string ⟨#[]⟩, .slice none 0 0] 71) = W) := ⟨_, rfl⟩
  obtain ⟨T, HTe⟩ : ∃ z, Hid (w.heap.size = z) := ⟨_, rfl⟩
  have HQ : Hid (TrS w g T W0) := by
    rw [← HW0.out, ← HTe.out]
    exact Lib.hid ⟨Blk.new _ _ _, hc.below ((Below.refl _ _).alloc (Nat.le_refl _) _), But.alloc _ _, Nat.le_refl _, hc.lt⟩
  clear hc hl hcb ih hdz
  go_enter Tryz.func49, Tryz.ntmps49
  go_wp2_with fail
  rw [HW0.out, HTe.out]
  refine (int_any g 9 _ HQ.out.cs (by omega) (by omega)).mono ?_
  rintro e w1 ⟨⟨x, hx1, hx2, rfl⟩, hc1, hb1⟩
  replace HQ := Lib.hid (HQ.out.step hb1 hc1)
  have HX := Lib.hid (And.intro hx1 hx2)
  clear hc1 hb1 HW0 hx1 hx2
  go_upto_region 2 with fail
  go_cut [9, 16] from 14 (fun n b wc => n = .int .i64 x ∧ ∃ bb : Bool, b = .bool bb ∧ Hid (bb = true → x = 0) ∧ Hid (TrS w g T wc))
  case first =>
    by_cases h0 : x = 0
    · subst h0
      go_wp2_with fail
      refine (bool_any g 2 _ HQ.out.cs (by omega) (by omega)).mono ?_
      rintro e w2 ⟨⟨b, rfl⟩, hc2, hb2⟩
      replace HQ := Lib.hid (HQ.out.step hb2 hc2)
      clear hc2 hb2
      go_wp2
      go_meet
      case rel => exact ⟨rfl, b, rfl, Lib.hid (fun _ => by trivial), HQ⟩
    · have g1 : (x == 0) = false := by simp [h0]
      clear h0
      go_wp2
      go_meet
      case rel => exact ⟨rfl, false, rfl, Lib.hid (fun h => by cases h), HQ⟩
  case rest =>
  clear HQ
  obtain ⟨rfl, bb, rfl, HBB, HQ⟩ := hcut
  obtain ⟨w2, Hw2⟩ : ∃ z, z = wc := ⟨_, rfl⟩
  subst Hw2
  cases bb
  rotate_left
  · go_wp2_with fail
    refine (int_any g 2 _ HQ.out.cs (by omega) (by omega)).mono ?_
    rintro e w3 ⟨⟨y, hy1, hy2, rfl⟩, hc3, hb3⟩
    replace HQ := Lib.hid (HQ.out.step hb3 hc3)
    have hv := valid_const (cols := cols) (op := 1 + y) (by omega)
    have HE : Hid (TreeR cols (tnD d) w g (.returned (.agg #[.int .i64 (1 + y), .int .i64 0, .int .i64 0, .int .i64 0, .int .i64 0, .int .i64 0, .string ⟨#[]⟩, .int .i64 0, .int .i64 0, .int .i64 0, .int .i64 0, .string ⟨#[]⟩, .slice none 0 0])) (putL w3 T 0 [.int .i64 (1 + y), .int .i64 0, .int .i64 0, .int .i64 0, .int .i64 0, .int .i64 0, .string ⟨#[]⟩, .int .i64 0, .int .i64 0, .int .i64 0, .int .i64 0, .string ⟨#[]⟩, .slice none 0 0])) := Lib.hid (HQ.out.fin (p := .nil (plainN (1 + y))) (PrdL.nil _ _ _) hv.1 hv.2 (tnD_pos d) _ rfl)
    clear hc3 hb3 hv
    obtain ⟨yc0, yf0, yc1, yf1, yc2, yf2, yc3, yf3, yc4, yf4, yc5, yf5, yc6, yf6, yc7, yf7, yc8, yf8, yc9, yf9, yc10, yf10, yc11, yf11, yc12, yf12, yc13, yB, yE⟩ := put13 (w := w3) (HQ.out.bt) (.int .i64 (1 + y)) (.int .i64 0) (.int .i64 0) (.int .i64 0) (.int .i64 0) (.int .i64 0) (.string ⟨#[]⟩) (.int .i64 0) (.int .i64 0) (.int .i64 0) (.int .i64 0) (.string ⟨#[]⟩) (.slice none 0 0)
    rw [yE] at HE
    clear yB yE
    clear HL0 HQ HX HBB IH HCB HDZ hi hz0 hz1 hz2 HTe
    go_wp2
    exact bodyPost_ret (v := .agg #[.int .i64 (1 + y), .int .i64 0, .int .i64 0, .int .i64 0, .int .i64 0, .int .i64 0, .string ⟨#[]⟩, .int .i64 0, .int .i64 0, .int .i64 0, .int .i64 0, .string ⟨#[]⟩, .slice none 0 0]) (by simp [results, Tryz.results49, go_sem, yc13]) rfl HE.out
  go_upto_region 4 with fail
  go_cut [27] from 14 (fun b wc => wc = w2 ∧ b = .bool (decide (x < 6 ∨ d = 0)))
  case first =>
    by_cases h6 : x < 6
    · go_wp2
      go_meet
      case rel => exact ⟨rfl, by rw [decide_eq_true (.inl h6)]⟩
    · by_cases hd0 : d = 0
      · have h1 : dz < 1 := by have := HDZ.out; omega
        go_wp2
        go_meet
        case rel => exact ⟨rfl, by rw [decide_eq_true (.inr hd0)]⟩
      · have h1 : ¬ dz < 1 := by have := HDZ.out; omega
        go_wp2
        go_meet
        case rel => exact ⟨rfl, by rw [decide_eq_false (fun h => by omega)]⟩
  case rest =>
  obtain ⟨rfl, rfl⟩ := hcut
  obtain ⟨w2, Hw2⟩ : ∃ z, z = wc := ⟨_, rfl⟩
  subst Hw2
  by_cases hlf : x < 6 ∨ d = 0
  · rw [decide_eq_true hlf]
    clear hlf IH HX HBB
    go_upto_if 36 with fail
    go_cut [10] from 14 (fun v wc => ∃ kk : Int, v = .int .i64 kk ∧ Hid (kk = 3 ∨ kk = 4 ∨ kk = 5) ∧ Hid (TrS w g T wc))
    case first =>
      by_cases hnc : 0 < nc
      · go_wp2_with fail
        refine (int_any g (nc : Int) _ HQ.out.cs (by omega) (by omega)).mono ?_
        rintro e w3 ⟨⟨y, hy1, hy2, rfl⟩, hc3, hb3⟩
        obtain ⟨m, rfl⟩ := Int.eq_ofNat_of_zero_le hy1
        have hm : m < nc := by omega
        replace HQ := Lib.hid (HQ.out.step hb3 hc3)
        clear hy1 hy2 hc3 hb3
        obtain ⟨bc, oc, kk, rfl, hx, hxc⟩ := (HL0.out.case HQ.out.bu).sl.at hm
        have d0 := hxc 0 _ rfl
        simp only [Nat.mul_one, Nat.add_zero] at d0
        have Hkk : Hid (kk = 3 ∨ kk = 4 ∨ kk = 5) := Lib.hid (by
          have h := List.all_eq_true.1 HCB.out kk (List.mem_of_getElem? hx)
          have h := of_decide_eq_true h
          omega)
        clear hx hxc
        go_wp2
        go_meet
        case rel => exact ⟨kk, rfl, Hkk, HQ⟩
      · obtain rfl : 0 = nc := by omega
        go_wp2
        go_meet
        case rel => exact ⟨4, rfl, Lib.hid (by omega), HQ⟩
    case rest =>
    clear HQ
    obtain ⟨kk, rfl, HK, HQ⟩ := hcut
    obtain ⟨w3, Hw3⟩ : ∃ z, z = wc := ⟨_, rfl⟩
    subst Hw3
    go_wp2_with fail
    refine (int_any g 6 _ HQ.out.cs (by omega) (by omega)).mono ?_
    rintro e w4 ⟨⟨y, hy1, hy2, rfl⟩, hc4, hb4⟩
    replace HQ := Lib.hid (HQ.out.step hb4 hc4)
    have HY : Hid (1 ≤ 1 + y ∧ 1 + y ≤ 6) := Lib.hid (by omega)
    clear hc4 hb4
    go_wp2_with fail
    refine (operand_any B g cols Ac nc cc kk _ HQ.out.cs (HL0.out.case HQ.out.bu) hn HK.out).mono ?_
    rintro e w5 ⟨l, rfl, hlo, hc5, hb5⟩
    replace HQ := Lib.hid (HQ.out.step hb5 hc5)
    have HLO := Lib.hid hlo
    clear hc5 hb5 hlo
    go_wp2_with fail
    refine (value3_any g kk _ HQ.out.cs HK.out).mono ?_
    rintro e w6 ⟨⟨⟨vk, vi, vt⟩, hv1, hv2, hv3, rfl⟩, hc6, hb6⟩
    replace HQ := Lib.hid (HQ.out.step hb6 hc6)
    have HRO := Lib.hid (od_val (cols := cols) hv1 hv2 hv3 HK.out)
    clear hv1 hv2 hv3 hc6 hb6
    have HTV : Hid (T < w6.heap.size) := Lib.hid HQ.out.bt.lt
    replace HQ := Lib.hid (HQ.out.below ((Below.refl _ _).alloc (Nat.le_refl _) (.cells #[.int .i64 3, .int .i64 (1 + y), .int .i64 l.k, .int .i64 l.ix, .int .i64 l.v.k, .int .i64 l.v.i, .string l.v.t, .int .i64 3, .int .i64 0, .int .i64 vk, .int .i64 vi, .string vt, .slice none 0 0] 71)))
    have HV := Lib.hid (Blk.new w6 71 #[.int .i64 3, .int .i64 (1 + y), .int .i64 l.k, .int .i64 l.ix, .int .i64 l.v.k, .int .i64 l.v.i, .string l.v.t, .int .i64 3, .int .i64 0, .int .i64 vk, .int .i64 vi, .string vt, .slice none 0 0])
    obtain ⟨V, HVe⟩ : ∃ z, Hid (w6.heap.size = z) := ⟨_, rfl⟩
    rw [HVe.out] at HV HTV
    go_upto_region 9 with fail
    rw [HVe.out]
    generalize hW : w6.alloc (.cells #[.int .i64 3, .int .i64 (1 + y), .int .i64 l.k, .int .i64 l.ix, .int .i64 l.v.k, .int .i64 l.v.i, .string l.v.t, .int .i64 3, .int .i64 0, .int .i64 vk, .int .i64 vi, .string vt, .slice none 0 0] 71) = w7 at *
    clear hW HVe
    go_wp2_with fail
    refine (bool_any g 3 _ HQ.out.cs (by omega) (by omega)).mono ?_
    rintro e w8 ⟨⟨b, rfl⟩, hc8, hb8⟩
    have HVg : Hid (V ≠ g) := Lib.hid (HQ.out.cs.ne HV.out (by decide))
    replace HV := Lib.hid (HV.out.but hb8 HVg.out)
    replace HQ := Lib.hid (HQ.out.step hb8 hc8)
    clear hc8 hb8
    go_upto_if 58 with fail
    go_cut [] from 14 (fun wc => ∃ r : Od, Hid (Blk wc V 71 #[.int .i64 3, .int .i64 (1 + y), .int .i64 l.k, .int .i64 l.ix, .int .i64 l.v.k, .int .i64 l.v.i, .string l.v.t, .int .i64 r.k, .int .i64 r.ix, .int .i64 r.v.k, .int .i64 r.v.i, .string r.v.t, .slice none 0 0]) ∧ Hid (OdOk cols kk r) ∧ Hid (TrS w g T wc))
    case first =>
      cases b
      · go_wp2
        go_meet
        case rel => exact ⟨⟨3, 0, ⟨vk, vi, vt⟩⟩, HV, HRO, HQ⟩
      · go_wp2_with fail
        refine (operand_any B g cols Ac nc cc kk _ HQ.out.cs (HL0.out.case HQ.out.bu) hn HK.out).mono ?_
        rintro e w9 ⟨r, rfl, hlo, hc9, hb9⟩
        replace HV := Lib.hid (HV.out.but hb9 HVg.out)
        replace HQ := Lib.hid (HQ.out.step hb9 hc9)
        have HR2 := Lib.hid hlo
        clear hc9 hb9 hlo
        obtain ⟨yc0, yf0, yc1, yf1, yc2, yf2, yc3, yf3, yc4, yf4, yc5, yB, yE⟩ := put5 (w := w9) (HV.out) (.int .i64 r.k) (.int .i64 r.ix) (.int .i64 r.v.k) (.int .i64 r.v.i) (.string r.v.t)
        have HV2 : Hid (Blk ((((((w9).setCell ⟨V, 7, none⟩ (.int .i64 r.k)).setCell ⟨V, 8, none⟩ (.int .i64 r.ix)).setCell ⟨V, 9, none⟩ (.int .i64 r.v.k)).setCell ⟨V, 10, none⟩ (.int .i64 r.v.i)).setCell ⟨V, 11, none⟩ (.string r.v.t)) V 71 #[.int .i64 3, .int .i64 (1 + y), .int .i64 l.k, .int .i64 l.ix, .int .i64 l.v.k, .int .i64 l.v.i, .string l.v.t, .int .i64 r.k, .int .i64 r.ix, .int .i64 r.v.k, .int .i64 r.v.i, .string r.v.t, .slice none 0 0]) := Lib.hid yB
        have HQ2 : Hid (TrS w g T ((((((w9).setCell ⟨V, 7, none⟩ (.int .i64 r.k)).setCell ⟨V, 8, none⟩ (.int .i64 r.ix)).setCell ⟨V, 9, none⟩ (.int .i64 r.v.k)).setCell ⟨V, 10, none⟩ (.int .i64 r.v.i)).setCell ⟨V, 11, none⟩ (.string r.v.t))) := Lib.hid (by
          rw [← yE]
          exact HQ.out.off (putL_but V [.int .i64 r.k, .int .i64 r.ix, .int .i64 r.v.k, .int .i64 r.v.i, .string r.v.t] w9 7) HTV.out)
        clear HQ HV yB yE
        go_wp2
        go_meet
        case rel => exact ⟨r, HV2, HR2, HQ2⟩
    case rest =>
    clear HQ HV HRO
    obtain ⟨r, HV, HRO, HQ⟩ := hcut
    obtain ⟨w9, Hw9⟩ : ∃ z, z = wc := ⟨_, rfl⟩
    subst Hw9
    go_wp2_with fail
    refine (bool_any g 6 _ HQ.out.cs (by omega) (by omega)).mono ?_
    rintro e w10 ⟨⟨b2, rfl⟩, hc10, hb10⟩
    replace HV := Lib.hid (HV.out.but hb10 HVg.out)
    replace HQ := Lib.hid (HQ.out.step hb10 hc10)
    clear hc10 hb10
    go_upto_if 66 with fail
    go_cut [] from 14 (fun wc => ∃ l r : Od, Hid (Blk wc V 71 #[.int .i64 3, .int .i64 (1 + y), .int .i64 l.k, .int .i64 l.ix, .int .i64 l.v.k, .int .i64 l.v.i, .string l.v.t, .int .i64 r.k, .int .i64 r.ix, .int .i64 r.v.k, .int .i64 r.v.i, .string r.v.t, .slice none 0 0]) ∧ Hid (OdOk cols kk l ∧ OdOk cols kk r) ∧ Hid (TrS w g T wc))
    case first =>
      cases b2
      · go_wp2
        go_meet
        case rel => exact ⟨l, r, HV, Lib.hid ⟨HLO.out, HRO.out⟩, HQ⟩
      · skip
        obtain ⟨yc0, yf0, yc1, yf1, yc2, yf2, yc3, yf3, yc4, yf4, yc5, yf5, yc6, yf6, yc7, yf7, yc8, yf8, yc9, yf9, yc10, yB, yE⟩ := put10 (w := w10) (HV.out) (.int .i64 r.k) (.int .i64 r.ix) (.int .i64 r.v.k) (.int .i64 r.v.i) (.string r.v.t) (.int .i64 l.k) (.int .i64 l.ix) (.int .i64 l.v.k) (.int .i64 l.v.i) (.string l.v.t)
        have HV2 : Hid (Blk (((((((((((w10).setCell ⟨V, 2, none⟩ (.int .i64 r.k)).setCell ⟨V, 3, none⟩ (.int .i64 r.ix)).setCell ⟨V, 4, none⟩ (.int .i64 r.v.k)).setCell ⟨V, 5, none⟩ (.int .i64 r.v.i)).setCell ⟨V, 6, none⟩ (.string r.v.t)).setCell ⟨V, 7, none⟩ (.int .i64 l.k)).setCell ⟨V, 8, none⟩ (.int .i64 l.ix)).setCell ⟨V, 9, none⟩ (.int .i64 l.v.k)).setCell ⟨V, 10, none⟩ (.int .i64 l.v.i)).setCell ⟨V, 11, none⟩ (.string l.v.t)) V 71 #[.int .i64 3, .int .i64 (1 + y), .int .i64 r.k, .int .i64 r.ix, .int .i64 r.v.k, .int .i64 r.v.i, .string r.v.t, .int .i64 l.k, .int .i64 l.ix, .int .i64 l.v.k, .int .i64 l.v.i, .string l.v.t, .slice none 0 0]) := Lib.hid yB
        have HQ2 : Hid (TrS w g T (((((((((((w10).setCell ⟨V, 2, none⟩ (.int .i64 r.k)).setCell ⟨V, 3, none⟩ (.int .i64 r.ix)).setCell ⟨V, 4, none⟩ (.int .i64 r.v.k)).setCell ⟨V, 5, none⟩ (.int .i64 r.v.i)).setCell ⟨V, 6, none⟩ (.string r.v.t)).setCell ⟨V, 7, none⟩ (.int .i64 l.k)).setCell ⟨V, 8, none⟩ (.int .i64 l.ix)).setCell ⟨V, 9, none⟩ (.int .i64 l.v.k)).setCell ⟨V, 10, none⟩ (.int .i64 l.v.i)).setCell ⟨V, 11, none⟩ (.string l.v.t))) := Lib.hid (by
          rw [← yE]
          exact HQ.out.off (putL_but V [.int .i64 r.k, .int .i64 r.ix, .int .i64 r.v.k, .int .i64 r.v.i, .string r.v.t, .int .i64 l.k, .int .i64 l.ix, .int .i64 l.v.k, .int .i64 l.v.i, .string l.v.t] w10 2) HTV.out)
        clear HQ HV yB yE
        go_wp2
        go_meet
        case rel => exact ⟨r, l, HV2, Lib.hid ⟨HRO.out, HLO.out⟩, HQ2⟩
    case rest =>
    clear HQ HV HLO HRO
    obtain ⟨l2, r2, HV, HLR, HQ⟩ := hcut
    obtain ⟨w11, Hw11⟩ : ∃ z, z = wc := ⟨_, rfl⟩
    subst Hw11
    have hv := valid_leaf HY.out HK.out HLR.out.1 HLR.out.2
    have HE : Hid (TreeR cols (tnD d) w g (.returned (.agg #[.int .i64 3, .int .i64 (1 + y), .int .i64 l2.k, .int .i64 l2.ix, .int .i64 l2.v.k, .int .i64 l2.v.i, .string l2.v.t, .int .i64 r2.k, .int .i64 r2.ix, .int .i64 r2.v.k, .int .i64 r2.v.i, .string r2.v.t, .slice none 0 0])) (putL w11 T 0 [.int .i64 3, .int .i64 (1 + y), .int .i64 l2.k, .int .i64 l2.ix, .int .i64 l2.v.k, .int .i64 l2.v.i, .string l2.v.t, .int .i64 r2.k, .int .i64 r2.ix, .int .i64 r2.v.k, .int .i64 r2.v.i, .string r2.v.t, .slice none 0 0])) := Lib.hid (HQ.out.fin (p := .nil ⟨3, 1 + y, l2, r2⟩) (PrdL.nil _ _ _) hv.1 hv.2 (tnD_pos d) _ rfl)
    obtain ⟨yc0, yf0, yc1, yf1, yc2, yf2, yc3, yf3, yc4, yf4, yc5, yf5, yc6, yf6, yc7, yf7, yc8, yf8, yc9, yf9, yc10, yf10, yc11, yf11, yc12, yf12, yc13, yB, yE⟩ := put13 (w := w11) (HQ.out.bt) (.int .i64 3) (.int .i64 (1 + y)) (.int .i64 l2.k) (.int .i64 l2.ix) (.int .i64 l2.v.k) (.int .i64 l2.v.i) (.string l2.v.t) (.int .i64 r2.k) (.int .i64 r2.ix) (.int .i64 r2.v.k) (.int .i64 r2.v.i) (.string r2.v.t) (.slice none 0 0)
    have zv := HV.out.cell
    rw [yE] at HE
    clear yB yE
    clear HL0 HQ HV HY HLR HK HCB HDZ hi hz0 hz1 hz2 HTe hv HTV HVg
    go_wp2
    exact bodyPost_ret (v := .agg #[.int .i64 3, .int .i64 (1 + y), .int .i64 l2.k, .int .i64 l2.ix, .int .i64 l2.v.k, .int .i64 l2.v.i, .string l2.v.t, .int .i64 r2.k, .int .i64 r2.ix, .int .i64 r2.v.k, .int .i64 r2.v.i, .string r2.v.t, .slice none 0 0]) (by simp [results, Tryz.results49, go_sem, yc13]) rfl HE.out
  rw [decide_eq_false hlf]
  have HD1 : Hid (0 < d ∧ dz - 1 = ((d - 1 : Nat) : Int)) := Lib.hid (by have := HDZ.out; omega)
  by_cases h6 : x = 6
  · subst h6
    clear hlf HX HBB
    go_wp2_with fail
    refine (IH.out HD1.out.1 B g Ac nc cc _ _ HD1.out.2 HQ.out.cs (HL0.out.case HQ.out.bu) hn HCB.out).mono ?_
    rintro e w3 ⟨q, A, n, c, rfl, hP, hv, hw, hc3, hb3, hk3⟩
    have hT2 := HQ.out.bt.lt
    have h23 := hb3.size
    replace HQ := Lib.hid (HQ.out.step hb3 hc3)
    have hwT := HQ.out.hT
    have hV := valid_not (cols := cols) hv hw
    have hKn : (Pd.cons q (.nil (plainN 6))).nodes ≤ tnD d := by
      rw [tnD_succ HD1.out.1]
      show q.nodes + 1 ≤ _
      omega
    have hal : Below w3.heap.size w3 (w3.alloc (.cells (pdV q.h A n c) 71)) := (Below.refl _ _).alloc (Nat.le_refl _) _
    have hPN : PrdL (fun b => w.heap.size ≤ b ∧ b ≠ T) (w3.alloc (.cells (pdV q.h A n c) 71)) (some ⟨w3.heap.size, 0, none⟩) 1 1 (mkP (plainN 6) ([⟨q, A, n, c⟩].map PdE.p)) :=
      pdl_blk (es := [⟨q, A, n, c⟩]) (plainN 6) (Blk.new _ _ _) (by simp [PdE.cs]) rfl ⟨by omega, by omega⟩ (fun e he => by
        rw [List.mem_singleton.1 he]
        exact (hP.mono (L' := fun b => w.heap.size ≤ b ∧ b ≠ T) (fun b hb _ => ⟨by omega, by omega⟩)).below hal)
    have HQ3 := Lib.hid (HQ.out.below hal)
    have HE : Hid (TreeR cols (tnD d) w g (.returned (.agg #[.int .i64 6, .int .i64 0, .int .i64 0, .int .i64 0, .int .i64 0, .int .i64 0, .string ⟨#[]⟩, .int .i64 0, .int .i64 0, .int .i64 0, .int .i64 0, .string ⟨#[]⟩, .slice (some ⟨w3.heap.size, 0, none⟩) 1 1])) (putL (w3.alloc (.cells (pdV q.h A n c) 71)) T 0 [.int .i64 6, .int .i64 0, .int .i64 0, .int .i64 0, .int .i64 0, .int .i64 0, .string ⟨#[]⟩, .int .i64 0, .int .i64 0, .int .i64 0, .int .i64 0, .string ⟨#[]⟩, .slice (some ⟨w3.heap.size, 0, none⟩) 1 1])) := Lib.hid (HQ3.out.fin (p := .cons q (.nil (plainN 6))) hPN hV.1 hV.2 hKn _ rfl)
    clear hP hv hw hc3 hb3 hT2 h23 hwT hV hal hPN HQ hKn hk3
    unfold pdV at HE HQ3 ⊢
    obtain ⟨yc0, yf0, yc1, yf1, yc2, yf2, yc3, yf3, yc4, yf4, yc5, yf5, yc6, yf6, yc7, yf7, yc8, yf8, yc9, yf9, yc10, yf10, yc11, yf11, yc12, yf12, yc13, yB, yE⟩ := put13 (w := w3.alloc (.cells #[.int .i64 q.h.op, .int .i64 q.h.cm, .int .i64 q.h.l.k, .int .i64 q.h.l.ix, .int .i64 q.h.l.v.k, .int .i64 q.h.l.v.i, .string q.h.l.v.t, .int .i64 q.h.r.k, .int .i64 q.h.r.ix, .int .i64 q.h.r.v.k, .int .i64 q.h.r.v.i, .string q.h.r.v.t, .slice A n c] 71)) (HQ3.out.bt) (.int .i64 6) (.int .i64 0) (.int .i64 0) (.int .i64 0) (.int .i64 0) (.int .i64 0) (.string ⟨#[]⟩) (.int .i64 0) (.int .i64 0) (.int .i64 0) (.int .i64 0) (.string ⟨#[]⟩) (.slice (some ⟨w3.heap.size, 0, none⟩) 1 1)
    rw [yE] at HE
    clear yB yE
    clear HL0 HQ3 HCB HDZ HD1 IH hi hz0 hz1 hz2 HTe
    go_wp2
    exact bodyPost_ret (v := .agg #[.int .i64 6, .int .i64 0, .int .i64 0, .int .i64 0, .int .i64 0, .int .i64 0, .string ⟨#[]⟩, .int .i64 0, .int .i64 0, .int .i64 0, .int .i64 0, .string ⟨#[]⟩, .slice (some ⟨w3.heap.size, 0, none⟩) 1 1]) (by simp [results, Tryz.results49, go_sem, yc13]) rfl HE.out
  have HOp : Hid (4 + x - 7 = 4 ∨ 4 + x - 7 = 5) := Lib.hid (by have := HX.out; omega)
  have g6 : (x == 6) = false := by simp [h6]
  obtain ⟨hx1, hx2⟩ := HX.out
  obtain ⟨V, HVe⟩ : ∃ z, Hid (w2.heap.size = z) := ⟨_, rfl⟩
  have HLp : Hid (LpS cols (tnD (d - 1)) w g T w2.heap.size (4 + x - 7) none 0 0 [] (w2.alloc (.cells #[.int .i64 (4 + x - 7), .int .i64 0, .int .i64 0, .int .i64 0, .int .i64 0, .int .i64 0, .string ⟨#[]⟩, .int .i64 0, .int .i64 0, .int .i64 0, .int .i64 0, .string ⟨#[]⟩, .slice none 0 0] 71))) := Lib.hid ⟨HQ.out.below ((Below.refl _ _).alloc (Nat.le_refl _) _), Blk.new _ _ _, ⟨by simp, .inl ⟨rfl, rfl⟩⟩, rfl, fun e h => (by cases h), HQ.out.bt.lt⟩
  rw [HVe.out] at HLp
  clear h6 HX HBB HQ hlf
  go_upto_region 17 with fail
  rw [HVe.out]
  generalize hW : w2.alloc (.cells #[.int .i64 (4 + x - 7), .int .i64 0, .int .i64 0, .int .i64 0, .int .i64 0, .int .i64 0, .string ⟨#[]⟩, .int .i64 0, .int .i64 0, .int .i64 0, .int .i64 0, .string ⟨#[]⟩, .slice none 0 0] 71) = w3 at *
  clear hW HVe g6
  obtain ⟨op, Hop⟩ : ∃ z, Hid (4 + x - 7 = z) := ⟨_, rfl⟩
  rw [Hop.out] at HOp HLp
  go_wp2_with fail
  refine (int_any g 3 _ HLp.out.q.cs (by omega) (by omega)).mono ?_
  rintro e w4 ⟨⟨y, hy1, hy2, rfl⟩, hc4, hb4⟩
  obtain ⟨n0, rfl⟩ := Int.eq_ofNat_of_zero_le hy1
  have hn0 : n0 < 3 := by omega
  replace HLp := Lib.hid (HLp.out.step hb4 hc4)
  clear hc4 hb4 hy1 hy2
  go_wp2_with fail
  go_loopw [13] (fun i wr => ∃ (k : Nat) (A : Option Addr) (n c : Nat) (es : List PdE), k ≤ 3 ∧ n + k ≤ 3 ∧ i = .int .i64 ((k : Int) - 1) ∧ Hid (LpS cols (tnD (d - 1)) w g T V op A n c es wr)) (fun i _ => (intOf i + 1).toNat)
  case atStart => exact ⟨n0 + 1, none, 0, 0, [], by omega, by omega, congrArg (Value.int .i64) (by omega), HLp⟩
  case round =>
    clear HLp
    obtain ⟨k, A, n, c, es, hk, hkn, rfl, HLp⟩ := hrel
    by_cases hlt : 0 < k
    rotate_left
    · obtain rfl : 0 = k := by omega
      have HE : Hid (TreeR cols (tnD d) w g (.returned (.agg #[.int .i64 op, .int .i64 0, .int .i64 0, .int .i64 0, .int .i64 0, .int .i64 0, .string ⟨#[]⟩, .int .i64 0, .int .i64 0, .int .i64 0, .int .i64 0, .string ⟨#[]⟩, .slice A n c])) (putL wr T 0 [.int .i64 op, .int .i64 0, .int .i64 0, .int .i64 0, .int .i64 0, .int .i64 0, .string ⟨#[]⟩, .int .i64 0, .int .i64 0, .int .i64 0, .int .i64 0, .string ⟨#[]⟩, .slice A n c])) := Lib.hid (HLp.out.fin HOp.out (by rw [tnD_succ HD1.out.1, Nat.add_le_add_iff_left]; exact Nat.mul_le_mul_right _ (by omega)) _ rfl)
      obtain ⟨yc0, yf0, yc1, yf1, yc2, yf2, yc3, yf3, yc4, yf4, yc5, yf5, yc6, yf6, yc7, yf7, yc8, yf8, yc9, yf9, yc10, yf10, yc11, yf11, yc12, yf12, yc13, yB, yE⟩ := put13 (w := wr) (HLp.out.q.bt) (.int .i64 op) (.int .i64 0) (.int .i64 0) (.int .i64 0) (.int .i64 0) (.int .i64 0) (.string ⟨#[]⟩) (.int .i64 0) (.int .i64 0) (.int .i64 0) (.int .i64 0) (.string ⟨#[]⟩) (.slice A n c)
      have zv := HLp.out.bo.cell
      rw [yE] at HE
      clear yB yE
      clear HL0 HLp HCB HDZ HD1 IH hi hz0 hz1 hz2 HTe HOp Hop
      go_wp2
      exact bodyPost_ret (v := .agg #[.int .i64 op, .int .i64 0, .int .i64 0, .int .i64 0, .int .i64 0, .int .i64 0, .string ⟨#[]⟩, .int .i64 0, .int .i64 0, .int .i64 0, .int .i64 0, .string ⟨#[]⟩, .slice A n c]) (by simp [results, Tryz.results49, go_sem, yc13]) rfl HE.out
    go_upto_region 20 with fail
    refine wp_region_planR [9, 11] (onlyT g) anyW (onlyT_trans g) anyW_trans (.one [0, 1, 2, 3, 4, 5, 6] [] 7 (.one [] [] 8 (.one [] [] 9 (.one [] [10] 11 (.last [] []))))) (by kernel_rfl) (by kernel_rfl) (fun _ _ d _ _ h => by cases d <;> exact h) ?_
    replace HLp := Lib.hid (HLp.out.below (Below.refl wr.heap.size wr).drew)
    generalize hWd : wr.drew = wd at *
    clear hWd
    have qo : ∀ (z : LaterR (onlyT g) wd) j, (afterR (onlyT g) wd z).cell? ⟨V, j, none⟩ = (#[.int .i64 op, .int .i64 0, .int .i64 0, .int .i64 0, .int .i64 0, .int .i64 0, .string ⟨#[]⟩, .int .i64 0, .int .i64 0, .int .i64 0, .int .i64 0, .string ⟨#[]⟩, .slice A n c] : Array Value)[j]? := fun z j => z.cell (HLp.out.bo.cell j) (fun W h => (HLp.out.bo.but h (by have := HLp.out.gO; omega)).cell j)
    unfold wpPlanR
    simp only [pickOps, opAt, List.map_cons, List.map_nil, List.getElem?_toArray, List.getElem?_cons_zero, List.getElem?_cons_succ, Option.getD_some]
    repeat (go_big_quiet_step (fail))
    refine wpQuiet_nil ?_
    repeat (go_big_quiet_step (fail))
    refine wpQuiet_nil ?_
    clear qo
    go_wp2_with fail
    refine (IH.out HD1.out.1 B g Ac nc cc _ _ HD1.out.2 HLp.out.q.cs (HL0.out.case HLp.out.q.bu) hn HCB.out).mono ?_
    rintro e w5 ⟨q, Aq, nq, cq, rfl, hP, hv, hw, hc5, hb5, hk5⟩
    go_wp2_with fail
    refine ⟨⟨fun _ => hb5, trivial⟩, ?_⟩
    have HVs : Hid ((∀ b, (Value.slice A n c).ownBlock = some b → b < wd.heap.size) ∧ V < wd.heap.size) := Lib.hid ⟨fun b hb => (own_lt HLp.out.ow hb).2.1, HLp.out.bo.lt⟩
    replace HLp := Lib.hid (HLp.out.step hb5 hc5)
    have HP := Lib.hid hP
    have Hv := Lib.hid (And.intro hv (And.intro hw hk5))
    have hsz : V + 1 ≤ w5.heap.size := HLp.out.bo.lt
    clear hP hv hw hc5 hb5 hk5
    unfold pdV
    unfold wpPlanR
    simp only [pickOps, opAt, List.map_nil, List.getElem?_toArray, List.getElem?_cons_zero, List.getElem?_cons_succ, Option.getD_some]
    repeat (go_big_quiet_step (fail))
    refine wpQuiet_nil ?_
    repeat (go_big_quiet_step (fail))
    refine wpQuiet_nil ?_
    go_wp2_with fail
    refine ⟨⟨fun _ => But.alloc _ _, trivial⟩, ?_⟩
    unfold wpPlanR
    simp only [pickOps, opAt, List.map_nil, List.getElem?_toArray, List.getElem?_cons_zero, List.getElem?_cons_succ, Option.getD_some]
    repeat (go_big_quiet_step (fail))
    refine wpQuiet_nil ?_
    repeat (go_big_quiet_step (fail))
    refine wpQuiet_nil ?_
    go_wp2_with (at_builtin; go_loud (refine wpList_append_one2 (by rfl) (.tmp 96) (.tmp 103) _ (by rfl) (V + 1) 71 i1 _ 13 136 Tryz.underlying60 hi hz0 hz1 hz2 (by rfl) (by omega) (.slice A n c) n _ (by rfl) w5 _ HLp.out.ow w5.heap.size (by rfl) (by rfl) (by rfl) (one_pd ⟨q, Aq, nq, cq⟩) (by simp only [maxLen]; omega) (by omega) hsz ?_; intro g6 cap6 w6 hown6 hg6 hB6 hat6 hlt6))
    refine ⟨⟨fun h => (h (by decide)).elim, trivial⟩, ?_⟩
    have hO6 : w6.ownsRow (V + 1) 71 13 (.slice (some ⟨g6, 0, none⟩) (n + 1) cap6) (n + 1) ((es ++ ([⟨q, Aq, nq, cq⟩] : List PdE)).flatMap PdE.cs) := by
      rw [List.flatMap_append]
      exact hown6
    have HL2 := Lib.hid (HLp.out.app (q := ⟨q, Aq, nq, cq⟩) HVs.out.1 HVs.out.2 HP.out Hv.out.1 Hv.out.2 hO6 hg6 hB6 hat6)
    have HV6 : Hid (Blk w6 V 71 #[.int .i64 op, .int .i64 0, .int .i64 0, .int .i64 0, .int .i64 0, .int .i64 0, .string ⟨#[]⟩, .int .i64 0, .int .i64 0, .int .i64 0, .int .i64 0, .string ⟨#[]⟩, .slice A n c]) := Lib.hid ((hB6.block V (by omega)).trans HLp.out.bo)
    clear HLp HP Hv HVs hO6 hown6 hg6 hB6 hat6 hlt6
    have zo := HV6.out.cell
    have zf := HV6.out.free
    unfold wpPlanR
    simp only [pickOps, opAt, List.map_cons, List.map_nil, List.getElem?_toArray, List.getElem?_cons_zero, List.getElem?_cons_succ, Option.getD_some]
    repeat (go_big_quiet_step (fail))
    refine wpQuiet_nil ?_
    repeat (go_big_quiet_step (fail))
    refine wpQuiet_nil ?_
    go_wp2_with fail
    refine ⟨⟨fun h => (h (by decide)).elim, trivial⟩, ?_⟩
    unfold wpPlanR
    simp only [pickOps, List.map_nil]
    go_simp
    repeat (go_big_quiet_step (fail))
    refine wpQuiet_nil ?_
    repeat (go_big_quiet_step (fail))
    refine wpQuiet_nil ?_
    clear zo zf
    go_wp2
    go_roundw
    case rel => exact ⟨k - 1, _, n + 1, cap6, _, by omega, by omega, congrArg (Value.int .i64) (by omega), HL2⟩
    case measure => simp [intOf]; omega
theorem tree_any (cols : List Int) : ∀ d : Nat, d ≤ 3 → TreeC cols d
  | 0, h => tree_step cols 0 h fun h => absurd h (by omega)
  | d + 1, h => tree_step cols (d + 1) h fun _ => tree_any cols d (by omega)
end Go.Proofs.YtponkkljlbifmaaGreat
