/-
  Texts: Spoilt4.
-/
import Derived.Deep.Cut
import Derived.Test.YtnocbigcdjlliaaGreatB46
set_option linter.unusedVariables false
/-
  law04's spoilt: a region with one thing changed still reads as a region.
-/
namespace Go.Proofs.YtnocbigcdjlliaaGreat
open Go.RowKit
set_option maxRecDepth 100000
open Rg

def onlyG (g : Nat) (a b : World) : Prop := But (· = g) a b
theorem onlyG_trans (g : Nat) : ∀ a b c, onlyG g a b → onlyG g b c → onlyG g a c := fun _ _ _ h k => But.trans h k
def moreW (a b : World) : Prop := Below a.heap.size a b
theorem moreW_trans : ∀ a b c, moreW a b → moreW b c → moreW a c := fun _ _ _ h k => Below.next h k
theorem row_rest {w : World} {B G n c : Nat} {ms : List PM} (h : w.ownsRow B 85 4 (.slice (some ⟨G, 0, none⟩) n c) n (ms.flatMap PM.cs)) {i : Nat} {m : PM} (hm : ms[i]? = some m) (x : Int) (f : Bool) (A : Option Addr) (n' c' : Nat) (r : Rg) :
    (((w.setCell ⟨G, i * 4 + 1, none⟩ (.int .i64 x)).setCell ⟨G, i * 4 + 2, none⟩ (.bool f)).setCell ⟨G, i * 4 + 3, none⟩ (.slice A n' c')).ownsRow B 85 4 (.slice (some ⟨G, 0, none⟩) n c) n ((ms.set i { m with x := x, f := f, A2 := A, n2 := n', c2 := c', r := r }).flatMap PM.cs) := by
  have h1 := row_put h hm 1 (.int .i64 x) (m' := { m with x := x }) (by omega) rfl
  have h2 := row_put h1 (set_m hm) 2 (.bool f) (m' := { m with x := x, f := f }) (by omega) rfl
  have h3 := row_put h2 (set_m (set_m hm)) 3 (.slice A n' c') (m' := { m with x := x, f := f, A2 := A, n2 := n', c2 := c', r := r }) (by omega) rfl
  rw [List.set_set, List.set_set] at h3
  exact h3
theorem row_whole {w : World} {B G n c : Nat} {ms : List PM} (h : w.ownsRow B 85 4 (.slice (some ⟨G, 0, none⟩) n c) n (ms.flatMap PM.cs)) {i : Nat} {m : PM} (hm : ms[i]? = some m) (q : PM) :
    ((((w.setCell ⟨G, i * 4, none⟩ (.slice q.A1 q.n1 q.c1)).setCell ⟨G, i * 4 + 1, none⟩ (.int .i64 q.x)).setCell ⟨G, i * 4 + 2, none⟩ (.bool q.f)).setCell ⟨G, i * 4 + 3, none⟩ (.slice q.A2 q.n2 q.c2)).ownsRow B 85 4 (.slice (some ⟨G, 0, none⟩) n c) n ((ms.set i q).flatMap PM.cs) := by
  have h0 := row_put h hm 0 (.slice q.A1 q.n1 q.c1) (m' := { m with A1 := q.A1, n1 := q.n1, c1 := q.c1 }) (by omega) rfl
  have h1 := row_put h0 (set_m hm) 1 (.int .i64 q.x) (m' := { m with A1 := q.A1, n1 := q.n1, c1 := q.c1, x := q.x }) (by omega) rfl
  have h2 := row_put h1 (set_m (set_m hm)) 2 (.bool q.f) (m' := { m with A1 := q.A1, n1 := q.n1, c1 := q.c1, x := q.x, f := q.f }) (by omega) rfl
  have h3 := row_put h2 (set_m (set_m (set_m hm))) 3 (.slice q.A2 q.n2 q.c2) (m' := q) (by omega) rfl
  rw [List.set_set, List.set_set, List.set_set] at h3
  exact h3
theorem row_cells {w : World} {B G n c k : Nat} {ms : List PM} {m : PM} (h : w.ownsRow B 85 4 (.slice (some ⟨G, 0, none⟩) n c) n (ms.flatMap PM.cs)) (hl : ms.length = n) (hm : ms[k]? = some m) :
    w.cell? ⟨G, k * 4, none⟩ = some (.slice m.A1 m.n1 m.c1) ∧ w.cell? ⟨G, k * 4 + 1, none⟩ = some (.int .i64 m.x) ∧ w.cell? ⟨G, k * 4 + 2, none⟩ = some (.bool m.f) ∧ w.cell? ⟨G, k * 4 + 3, none⟩ = some (.slice m.A2 m.n2 m.c2) := by
  have hlt := (List.getElem?_eq_some_iff.1 hm).1
  obtain ⟨b6, o6, e6, hcl⟩ := (Sl.of_own PM.cs_len hl h).2 (by omega)
  obtain ⟨rfl, rfl⟩ : G = b6 ∧ 0 = o6 := by injection e6 with h; injection h with h1 h2; exact ⟨h1, h2⟩
  have h0 := hcl k m hm
  exact ⟨by simpa using h0 0 _ rfl, by simpa using h0 1 _ rfl, by simpa using h0 2 _ rfl, by simpa using h0 3 _ rfl⟩
theorem but3 {S : Nat → Prop} (w : World) (G a b c : Nat) (u v x : Value) (h : S G) : But S w (((w.setCell ⟨G, a, none⟩ u).setCell ⟨G, b, none⟩ v).setCell ⟨G, c, none⟩ x) :=
  ((But.set (S := S) w (p := ⟨G, a, none⟩) h u).trans (But.set (S := S) _ (p := ⟨G, b, none⟩) h v)).trans (But.set (S := S) _ (p := ⟨G, c, none⟩) h x)
theorem SpS.parts {w wr w' : World} {g : Nat} {x : Int} {f : Bool} {A : Option Addr} {n c : Nat} {ms ms' : List PM} (h : SpS w g x f A n c ms wr) (hb : But (fun q => w.heap.size + 5 ≤ q) wr w') (hp : PartsIn (w.heap.size + 5) w' A n c ms') (hw : ∀ m ∈ ms', (∀ x ∈ m.vs, rgV x.f ∧ rgV x.t) ∧ WfR m.r) : SpRel w g w' := by
  have hg := h.hg
  obtain ⟨r, h1, h2⟩ := row_some (S := fun q => w.heap.size + 2 ≤ q) x f hp.own hp.len (fun q hq => by have := (own_lt hp.own hq).1; omega) (hp.rdT (fun q h1 _ _ => by omega) hw)
  exact ⟨x, f, A, n, c, r, h.bo.but hb (by omega), h.br.but hb (by omega), h1, h2, h.cs.far hb (fun q hq => by omega), h.bu.then hb (fun q hq => by omega)⟩

theorem end_at {s : Code} {P : Program} {Q : Exit → Act → World → Prop} {a : Act} {w W : World} {g : Nat} (h : SpRel w g W) (k : ∀ wE, SpRel w g wE → s.wp P Q a wE) : s.wp P Q a W := k W h
set_option maxRecDepth 100000 in
set_option maxHeartbeats 32000000 in
theorem spoilt4_any (g : Nat) (d : Nat) : ∀ (r : Rg) (x : Int) (f : Bool) (A : Option Addr) (n c : Nat) (w : World), d ≤ 12 → Form d r → within r → WfR r → CaseAt w g → RgS w x f A n c r →
    Calls Tryz.prog 33 #[.pointer (some ⟨g, 0, none⟩), .agg #[.int .i64 x, .bool f, .slice A n c]] w fun e w' => SomeReg w g e w' := by
  induction d using Nat.strongRecOn with
  | _ d ih =>
    intro r x f A n c w hd hF hI hW hc hR
    obtain ⟨i0, hi0, hz0, hz1, hz2⟩ := info_parts info_iv
    obtain ⟨i1, hi1, hy0, hy1, hy2⟩ := info_parts info_pt
    have hgl := hc.lt
    have hx1 : 0 ≤ x := by rw [← hR.hw, hF.width]; omega
    have hx2 : x ≤ 12 := by rw [← hR.hw, hF.width]; omega
    have hn64 : n ≤ 64 := by have := len_le_size r; have := hI.1; have := hR.len; omega
    have HI := Lib.hid ih
    have HF := Lib.hid (And.intro hF (And.intro hI hW))
    obtain ⟨W0, HW0⟩ : ∃ W : World, Hid ((w.alloc (.cells #[.int .i64 x, .bool f, .slice A n c] 28)).alloc (.cells #[.int .i64 0, .bool false, .slice none 0 0] 28) = W) := ⟨_, rfl⟩
    have HC : Hid (Blk W0 w.heap.size 28 #[.int .i64 x, .bool f, .slice A n c] ∧ Blk W0 (w.heap.size + 1) 28 #[.int .i64 0, .bool false, .slice none 0 0] ∧ W0.heap.size = w.heap.size + 2) := by
      rw [← HW0.out]
      exact Lib.hid ⟨(Blk.new _ _ _).alloc _, Blk.step (by simp), by simp⟩
    have HB0 : Hid (Below w.heap.size w W0) := by
      rw [← HW0.out]
      exact Lib.hid (((Below.refl _ _).alloc (Nat.le_refl _) _).alloc (by simp) _)
    have HR0 := Lib.hid (hR.keep (keeps_of HB0.out))
    have HC0 := Lib.hid (hc.below HB0.out)
    clear ih hF hI hW hc hR
    go_enter Tryz.func33, Tryz.ntmps33
    go_upto_region 1 with fail
    rw [HW0.out]
    have zo := HC.out.1.cell
    go_wp2_with fail
    refine (fcopyP_any r x f A n c W0 HR0.out (sm_within HF.out.2.1)).mono ?_
    rintro e w1 ⟨x1, f1, A1, n1, c1, ms, rfl, hF1, hb1, hP1, hm1⟩
    have hS1 := hF1.s
    have ex1 : x1 = x := by rw [← hS1.hw, HR0.out.hw]
    have ef1 : f1 = f := by rw [← hS1.hf, HR0.out.hf]
    have en1 : n1 = n := by rw [hS1.len, HR0.out.len]
    subst x1 f1 n1
    clear zo hS1
    have HS2 : Hid (SpS w g x f A1 n c1 ms (put3R w1 w.heap.size (.int .i64 x) (.bool f) (.slice A1 n c1))) := by
      have hp := put3R_but w1 w.heap.size (.int .i64 x) (.bool f) (.slice A1 n c1)
      rw [HC.out.2.2] at hP1
      refine Lib.hid ⟨put3R_blk (HC.out.1.below hb1), (HC.out.2.1.below hb1).but hp (by omega), hP1.but hp (fun k hk => by omega), fun m hm => ?_, (HC0.out.below hb1).far hp (fun q hq => by omega), But.of_below (put3R_below (Below.next HB0.out hb1) (Nat.le_refl _) _ _ _), hgl⟩
      exact HF.out.2.2.mem (by rw [← hm1]; exact List.mem_map_of_mem hm)
    have Hm1 := Lib.hid hm1
    have zr := (HC.out.1.below hb1).cell
    obtain ⟨ff1, ff2, ff3⟩ := put3R_free (HC.out.1.below hb1) (.int .i64 x) (.bool f)
    have y3 := (put3R_blk (a' := .int .i64 x) (b' := .bool f) (c' := .slice A1 n c1) (HC.out.1.below hb1)).cell
    have y1 := ((HC.out.1.below hb1).set_ 0 (.int .i64 x)).cell
    have y2 := (((HC.out.1.below hb1).set_ 0 (.int .i64 x)).set_ 1 (.bool f)).cell
    unfold put3R at y3
    clear hF1 hb1 hP1 hm1
    go_upto_region 2 with fail
    clear zr ff1 ff2 ff3 y1 y2 y3
    generalize hWW : put3R w1 w.heap.size (.int .i64 x) (.bool f) (.slice A1 n c1) = w2 at *
    unfold put3R at hWW
    rw [hWW]
    clear hWW HC HB0 HR0 HC0 HW0
    have zo := HS2.out.bo.cell
    by_cases hn0 : n = 0
    · subst hn0
      go_upto_region 3 with fail
      clear zo
      refine wp_region_planR [9, 11] (onlyG g) (anyW) (onlyG_trans g) (anyW_trans) (.one [0, 1, 2, 6] [] 3 (.one [4, 5, 8] [] 7 (.one [] [] 9 (.one [10] [] 11 (.last [] []))))) (by kernel_rfl) (by kernel_rfl) (fun _ _ d _ _ h => by cases d <;> exact h) ?_
      have HS3 := Lib.hid (HS2.out.below ((Below.refl _ _).drew))
      generalize hW3 : World.drew _ = w3 at *
      clear hW3 HS2
      have qo : ∀ (y : LaterR (onlyG g) w3) z, (afterR (onlyG g) w3 y).cell? ⟨w.heap.size, z, none⟩ = (#[.int .i64 x, .bool f, .slice A1 0 c1] : Array Value)[z]? := fun y z => y.cell (HS3.out.bo.cell z) (fun W h => (HS3.out.bo.but h (by have := hgl; omega)).cell z)
      unfold wpPlanR
      simp only [pickOps, opAt, List.map_cons, List.map_nil, List.getElem?_toArray, List.getElem?_cons_zero, List.getElem?_cons_succ, Option.getD_some]
      repeat (go_big_quiet_step (fail))
      refine wpQuiet_nil ?_
      repeat (go_big_quiet_step (fail))
      refine wpQuiet_nil ?_
      clear qo
      go_wp2_with fail
      refine (int_any g 3 _ HS3.out.cs (by omega) (by omega)).mono ?_
      rintro e w4 ⟨⟨y, hy1, hy2, rfl⟩, hc4, hb4⟩
      go_wp2_with fail
      refine ⟨⟨fun _ => hb4, trivial⟩, ?_⟩
      have HS4 := Lib.hid (HS3.out.case hc4 hb4)
      clear HS3 hc4 hb4
      unfold wpPlanR
      simp only [pickOps, opAt, List.map_cons, List.map_nil, List.getElem?_toArray, List.getElem?_cons_zero, List.getElem?_cons_succ, Option.getD_some]
      repeat (go_big_quiet_step (fail))
      refine wpQuiet_nil ?_
      repeat (go_big_quiet_step (fail))
      refine wpQuiet_nil ?_
      go_wp2_with fail
      refine (bool_any g 2 _ HS4.out.cs (by omega) (by omega)).mono ?_
      rintro e w5 ⟨⟨bb, rfl⟩, hc5, hb5⟩
      go_wp2_with fail
      refine ⟨⟨fun _ => hb5, trivial⟩, ?_⟩
      have HS5 := Lib.hid (HS4.out.case hc5 hb5)
      clear HS4 hc5 hb5
      have zo := HS5.out.bo.cell
      have zf := HS5.out.bo.free
      unfold wpPlanR
      simp only [pickOps, opAt, List.map_nil, List.getElem?_toArray, List.getElem?_cons_zero, List.getElem?_cons_succ, Option.getD_some]
      repeat (go_big_quiet_step (fail))
      refine wpQuiet_nil ?_
      repeat (go_big_quiet_step (fail))
      refine wpQuiet_nil ?_
      go_wp2_with fail
      refine ⟨⟨fun h => (h (by decide)).elim, trivial⟩, ?_⟩
      have HO6 := Lib.hid (HS5.out.bo.set_ 0 (.int .i64 (x + y - 1)))
      clear zo zf
      have zf := HO6.out.free
      have zo := HO6.out.cell
      unfold wpPlanR
      simp only [pickOps, opAt, List.map_cons, List.map_nil, List.getElem?_toArray, List.getElem?_cons_zero, List.getElem?_cons_succ, Option.getD_some]
      repeat (go_big_quiet_step (fail))
      refine wpQuiet_nil ?_
      repeat (go_big_quiet_step (fail))
      refine wpQuiet_nil ?_
      go_wp2_with fail
      refine ⟨⟨fun h => (h (by decide)).elim, trivial⟩, ?_⟩
      have HO7 := Lib.hid (HO6.out.set_ 1 (.bool bb))
      have HE : Hid (SpRel w g ((w5.setCell ⟨w.heap.size, 0, none⟩ (.int .i64 (x + y - 1))).setCell ⟨w.heap.size, 1, none⟩ (.bool bb))) := Lib.hid (HS5.out.box (y := x + y - 1) (d := bb) ((But.set (S := fun q => q = w.heap.size) _ (p := ⟨w.heap.size, 0, none⟩) rfl _).trans (But.set (S := fun q => q = w.heap.size) _ (p := ⟨w.heap.size, 1, none⟩) rfl _)) HO7.out)
      clear zf zo HO6 HO7
      unfold wpPlanR
      simp only [pickOps, List.map_nil]
      repeat (go_big_quiet_step (fail))
      refine wpQuiet_nil ?_
      repeat (go_big_quiet_step (fail))
      refine wpQuiet_nil ?_
      generalize hWE : (w5.setCell ⟨w.heap.size, 0, none⟩ (.int .i64 (x + y - 1))).setCell ⟨w.heap.size, 1, none⟩ (.bool bb) = w7 at *
      clear hWE HS5
      obtain ⟨x', f', A', n', c', r', hbo, hbr, hr, hw, hc, hb⟩ := HE.out
      have zo := hbo.cell
      have zr := hbr.cell
      obtain ⟨ff1, ff2, ff3⟩ := put3R_free hbr (.int .i64 x') (.bool f')
      have y3 := (put3R_blk (a' := .int .i64 x') (b' := .bool f') (c' := .slice A' n' c') hbr).cell
      have y1 := (hbr.set_ 0 (.int .i64 x')).cell
      have y2 := ((hbr.set_ 0 (.int .i64 x')).set_ 1 (.bool f')).cell
      have HFin := Lib.hid (SpRel.fin hbr hr hw hc hb hgl)
      unfold put3R at y3
      clear hbo hbr hr hw hc hb
      go_wp2
      exact bodyPost_ret (v := .agg #[.int .i64 x', .bool f', .slice A' n' c']) (by simp [results, Tryz.results33, go_sem, y3]) rfl HFin.out
    · obtain ⟨G, cap, hv, hGb, hGl⟩ := HS2.out.pt.own.form (by omega)
      obtain ⟨rfl, rfl⟩ : A1 = some ⟨G, 0, none⟩ ∧ c1 = cap := by injection hv with h1 h2 h3; exact ⟨h1, h3⟩
      clear hv hGl
      go_upto_region 5 with fail
      clear zo
      refine wp_region_planR [] (onlyG g) (anyW) (onlyG_trans g) (anyW_trans) (.one [0, 1, 2, 3, 4, 5] [] 6 (.last [7, 8] [])) (by kernel_rfl) (by kernel_rfl) (fun _ _ d _ _ h => by cases d <;> exact h) ?_
      have HS3 := Lib.hid (HS2.out.below ((Below.refl _ _).drew))
      generalize hW3 : World.drew _ = w3 at *
      clear hW3 HS2
      have qo : ∀ (y : LaterR (onlyG g) w3) z, (afterR (onlyG g) w3 y).cell? ⟨w.heap.size, z, none⟩ = (#[.int .i64 x, .bool f, .slice (some ⟨G, 0, none⟩) n c1] : Array Value)[z]? := fun y z => y.cell (HS3.out.bo.cell z) (fun W h => (HS3.out.bo.but h (by have := hgl; omega)).cell z)
      unfold wpPlanR
      simp only [pickOps, opAt, List.map_cons, List.map_nil, List.getElem?_toArray, List.getElem?_cons_zero, List.getElem?_cons_succ, Option.getD_some]
      repeat (go_big_quiet_step (fail))
      refine wpQuiet_nil ?_
      repeat (go_big_quiet_step (fail))
      refine wpQuiet_nil ?_
      clear qo
      go_wp2_with fail
      refine (int_any g (n : Int) _ HS3.out.cs (by omega) (by omega)).mono ?_
      rintro e w4 ⟨⟨y, hy1, hy2, rfl⟩, hc4, hb4⟩
      obtain ⟨k, rfl⟩ := Int.eq_ofNat_of_zero_le hy1
      have hkn : k < n := by omega
      clear hy1 hy2
      go_wp2_with fail
      refine ⟨⟨fun _ => hb4, trivial⟩, ?_⟩
      have HS4 := Lib.hid (HS3.out.case hc4 hb4)
      clear HS3 hc4 hb4
      unfold wpPlanR
      simp only [pickOps, opAt, List.map_cons, List.map_nil, List.getElem?_toArray, List.getElem?_cons_zero, List.getElem?_cons_succ, Option.getD_some]
      repeat (go_big_quiet_step (fail))
      refine wpQuiet_nil ?_
      repeat (go_big_quiet_step (fail))
      refine wpQuiet_nil ?_
      go_wp2_with fail
      refine (int_any g 8 _ HS4.out.cs (by omega) (by omega)).mono ?_
      rintro e w5 ⟨⟨y, hy1, hy2, rfl⟩, hc5, hb5⟩
      have HS5 := Lib.hid (HS4.out.case hc5 hb5)
      clear HS4 hc5 hb5
      have hmk : k < ms.length := by rw [HS5.out.pt.len]; exact hkn
      obtain ⟨m, hm⟩ : ∃ m, ms[k]? = some m := ⟨_, List.getElem?_eq_getElem hmk⟩
      have Hm := Lib.hid hm
      have Hmm := Lib.hid (List.mem_of_getElem? hm)
      clear hm hmk
      
      have hcl : ∃ d', d = d' + 1 ∧ Form d' m.r ∧ within m.r ∧ WfR m.r ∧ m.vs ≠ [] := by
        have hpr : m.pr ∈ r.parts := by rw [← Hm1.out]; exact List.mem_map_of_mem Hmm.out
        obtain ⟨h1, h2, h3⟩ := HF.out
        cases d with
        | zero => have := h1.2; rw [this] at hpr; cases hpr
        | succ d' => exact ⟨d', rfl, (h1.2.2.1 _ hpr).2.2.1, ⟨by have := size_mem hpr; have := h2.1; simp only [PM.pr] at *; omega, (fits_mem h2.2 hpr).2⟩, (h3.mem hpr).2, (h1.2.2.1 _ hpr).1⟩
      obtain ⟨d', hdd, hF', hI', hW', hvs'⟩ := hcl
      have hmx : m.x = (d' : Int) := by rw [← (HS5.out.pt.ok m Hmm.out).rg.s.hw, hF'.width]
      have hn1 : 0 < m.n1 := by rw [← (HS5.out.pt.ok m Hmm.out).len]; exact List.length_pos_iff.2 hvs'
      have hn2 : m.n1 ≤ 64 := by
        have hpr : m.pr ∈ r.parts := by rw [← Hm1.out]; exact List.mem_map_of_mem Hmm.out
        have := (fits_mem HF.out.2.1.2 hpr).1
        rw [← (HS5.out.pt.ok m Hmm.out).len]
        exact this
      have HFm := Lib.hid (And.intro hF' (And.intro hI' hW'))
      have hmx1 : 0 ≤ m.x := by omega
      have hmx2 : m.x ≤ 12 := by omega
      have Hdd := Lib.hid (And.intro hdd hmx)
      clear hF' hI' hW' hvs' hdd hmx
      obtain ⟨b6, o6, e6, hcl⟩ := (Sl.of_own PM.cs_len HS5.out.pt.len HS5.out.pt.own).2 (by omega)
      obtain ⟨rfl, rfl⟩ : G = b6 ∧ 0 = o6 := by injection e6 with h; injection h with h1 h2; exact ⟨h1, h2⟩
      have h0 := hcl k m Hm.out
      have HCL := Lib.hid hcl
      have d0 : w5.cell? ⟨G, k * 4, none⟩ = some (.slice m.A1 m.n1 m.c1) := by simpa using h0 0 _ rfl
      have d1 : w5.cell? ⟨G, k * 4 + 1, none⟩ = some (.int .i64 m.x) := by simpa using h0 1 _ rfl
      have d2 : w5.cell? ⟨G, k * 4 + 2, none⟩ = some (.bool m.f) := by simpa using h0 2 _ rfl
      have d3 : w5.cell? ⟨G, k * 4 + 3, none⟩ = some (.slice m.A2 m.n2 m.c2) := by simpa using h0 3 _ rfl
      have e2 : w5.cell? ⟨G, k * 4 + 1 + 1, none⟩ = some (.bool m.f) := d2
      have e3 : w5.cell? ⟨G, k * 4 + 1 + 2, none⟩ = some (.slice m.A2 m.n2 m.c2) := d3
      clear h0 e6 hcl
      have hyy : y = 0 ∨ y = 1 ∨ y = 2 ∨ y = 3 ∨ y = 4 ∨ y = 5 ∨ y = 6 ∨ y = 7 := by omega
      clear hy1 hy2
      rcases hyy with rfl | rfl | rfl | rfl | rfl | rfl | rfl | rfl
      · have hfz := fun q => HS5.out.pt.own.frozenAt q
        go_upto_region 22 with fail
        refine end_at (w := w) (g := g) ?_ ?_
        · exact HS5.out.row (But.set (S := fun q => (Value.slice (some ⟨G, 0, none⟩) n c1).ownBlock = some q) _ (p := ⟨G, k * 4, none⟩) rfl _) (row_put HS5.out.pt.own Hm.out 0 (.slice none 0 0) (m' := { m with A1 := none, n1 := 0, c1 := 0, vs := [] }) (by omega) rfl) (by rw [List.length_set]; exact HS5.out.pt.len) (fun ho => mem_set ho (ho m Hmm.out).vs0)
        · intro wE hE
          obtain ⟨x', f', A', n', c', r', hbo, hbr, hr, hw, hc, hb⟩ := hE
          have zo := hbo.cell
          have zr := hbr.cell
          obtain ⟨ff1, ff2, ff3⟩ := put3R_free hbr (.int .i64 x') (.bool f')
          have y3 := (put3R_blk (a' := .int .i64 x') (b' := .bool f') (c' := .slice A' n' c') hbr).cell
          have y1 := (hbr.set_ 0 (.int .i64 x')).cell
          have y2 := ((hbr.set_ 0 (.int .i64 x')).set_ 1 (.bool f')).cell
          have HFin := Lib.hid (SpRel.fin hbr hr hw hc hb hgl)
          unfold put3R at y3
          clear hbo hbr hr hw hc hb
          go_wp2
          exact bodyPost_ret (v := .agg #[.int .i64 x', .bool f', .slice A' n' c']) (by simp [results, Tryz.results33, go_sem, y3]) rfl HFin.out
      · go_upto_region 11 with fail
        refine wp_region_planR [12, 15] (moreW) (anyW) (moreW_trans) (anyW_trans) (.one [1, 2, 3, 4, 5, 6, 7, 8, 9, 10] [0] 11 (.one [] [] 12 (.one [13, 14] [] 15 (.last [] [])))) (by kernel_rfl) (by kernel_rfl) (fun _ _ d _ _ h => by cases d <;> exact h) ?_
        have hbd : Below w5.heap.size w5 w5.drew := (Below.refl _ _).drew
        have HS6 := Lib.hid (HS5.out.below hbd)
        replace d0 := keep_cell (keeps_of hbd) d0
        generalize hW6 : w5.drew = w6 at *
        clear hW6 hbd d1 d2 d3 e2 e3 HS5
        have hov := (HS6.out.pt.ok m Hmm.out)
        have HOV := Lib.hid hov.own
        have HLV := Lib.hid hov.len
        obtain ⟨vb, vc, hvv, hvb, _⟩ := hov.own.form hn1
        obtain ⟨xv, hxv⟩ : ∃ xv, m.vs[0]? = some xv := ⟨_, List.getElem?_eq_getElem (by rw [hov.len]; exact hn1)⟩
        obtain ⟨b7, o7, x7, hA7, hx7, hc7⟩ := (Sl.of_own Iv.cs_len hov.len hov.own).at hn1
        have hA1 : m.A1 = some ⟨vb, 0, none⟩ := by injection hvv
        obtain rfl : x7 = xv := by rw [hxv] at hx7; injection hx7 with h; exact h.symm
        obtain ⟨rfl, rfl⟩ : vb = b7 ∧ 0 = o7 := by rw [hA1] at hA7; injection hA7 with h; injection h with h1 h2; exact ⟨h1, h2⟩
        obtain ⟨⟨xk, xi, xt⟩, ⟨yk, yi, yt⟩, xo⟩ := x7
        obtain ⟨v0, v1, v2, v3, v4, v5, v6⟩ := IvAt.of hc7
        simp only [Nat.zero_add, Nat.zero_mul] at v0 v1 v2 v3 v4 v5 v6
        have HA1 := Lib.hid hA1
        have HXV := Lib.hid hxv
        rw [hA1] at d0
        clear hov hvv hxv hx7 hc7 hA7 hA1
        have q0 : ∀ y : LaterR moreW w6, (afterR moreW w6 y).cell? ⟨G, k * 4, none⟩ = some (.slice (some ⟨vb, 0, none⟩) m.n1 m.c1) := fun y => y.cell d0 (fun W h => keep_cell (keeps_of h) d0)
        have z0 : ∀ y : LaterR moreW w6, (afterR moreW w6 y).cell? ⟨vb, 0, none⟩ = some (.int .i64 xk) := fun y => y.cell v0 (fun W h => keep_cell (keeps_of h) v0)
        have z1 : ∀ y : LaterR moreW w6, (afterR moreW w6 y).cell? ⟨vb, 1, none⟩ = some (.int .i64 xi) := fun y => y.cell v1 (fun W h => keep_cell (keeps_of h) v1)
        have z2 : ∀ y : LaterR moreW w6, (afterR moreW w6 y).cell? ⟨vb, 2, none⟩ = some (.string xt) := fun y => y.cell v2 (fun W h => keep_cell (keeps_of h) v2)
        have z3 : ∀ y : LaterR moreW w6, (afterR moreW w6 y).cell? ⟨vb, 3, none⟩ = some (.int .i64 yk) := fun y => y.cell v3 (fun W h => keep_cell (keeps_of h) v3)
        have z4 : ∀ y : LaterR moreW w6, (afterR moreW w6 y).cell? ⟨vb, 4, none⟩ = some (.int .i64 yi) := fun y => y.cell v4 (fun W h => keep_cell (keeps_of h) v4)
        have z5 : ∀ y : LaterR moreW w6, (afterR moreW w6 y).cell? ⟨vb, 5, none⟩ = some (.string yt) := fun y => y.cell v5 (fun W h => keep_cell (keeps_of h) v5)
        have z6 : ∀ y : LaterR moreW w6, (afterR moreW w6 y).cell? ⟨vb, 6, none⟩ = some (.bool xo) := fun y => y.cell v6 (fun W h => keep_cell (keeps_of h) v6)
        clear v0 v1 v2 v3 v4 v5 v6 d0
        unfold wpPlanR
        simp only [pickOps, opAt, List.map_cons, List.map_nil, List.getElem?_toArray, List.getElem?_cons_zero, List.getElem?_cons_succ, Option.getD_some]
        repeat (go_big_quiet_step (fail))
        refine wpQuiet_nil ?_
        repeat (go_big_quiet_step (fail))
        refine wpQuiet_nil ?_
        clear q0 z0 z1 z2 z3 z4 z5 z6
        have HOV' : Hid (w6.ownsRow (w.heap.size + 5) 70 7 (.slice (some ⟨vb, 0, none⟩) m.n1 m.c1) m.n1 (m.vs.flatMap Iv.cs)) := Lib.hid (by have h := HOV.out; unfold PM.vv at h; rw [HA1.out] at h; exact h)
        go_wp2_with fail
        refine ⟨⟨fun _ => (Below.refl _ _).alloc (Nat.le_refl _) _, trivial⟩, ?_⟩
        unfold wpPlanR
        simp only [pickOps, opAt, List.map_nil, List.getElem?_toArray, List.getElem?_cons_zero, List.getElem?_cons_succ, Option.getD_some]
        repeat (go_big_quiet_step (fail))
        refine wpQuiet_nil ?_
        repeat (go_big_quiet_step (fail))
        refine wpQuiet_nil ?_
        go_wp2_with (at_builtin; go_loud (refine wpList_append_one2 (by rfl) (.tmp 53) (.tmp 60) _ (by rfl) (w.heap.size + 5) 70 i0 _ 7 72 Tryz.underlying64 hi0 hz0 hz1 hz2 (by rfl) (by omega) (.slice (some ⟨vb, 0, none⟩) m.n1 m.c1) m.n1 _ (by rfl) w6 #[.int .i64 xk, .int .i64 xi, .string xt, .int .i64 yk, .int .i64 yi, .string yt, .bool xo] HOV'.out w6.heap.size (by rfl) (by rfl) (by rfl) (one_iv ⟨⟨xk, xi, xt⟩, ⟨yk, yi, yt⟩, xo⟩) (by simp only [maxLen]; omega) (by omega) (Nat.le_of_lt (Nat.lt_of_le_of_lt (own_lt HS6.out.pt.own (k := G) rfl).1 (own_lt HS6.out.pt.own (k := G) rfl).2.1)) ?_; intro g9 cap9 w9 hown9 hg9 hB9 hat9 hlt9))
        refine ⟨⟨fun h => (h (by decide)).elim, trivial⟩, ?_⟩
        have hbu9 : But (fun q => m.vv.ownBlock = some q) w6 w9 := (But.alloc _ _).trans (But.of_grown hg9 (fun q hq => by unfold PM.vv; rw [HA1.out]; exact hq))
        have HOW9 : Hid (w9.ownsRow (w.heap.size + 5) 85 4 (.slice (some ⟨G, 0, none⟩) n c1) n (ms.flatMap PM.cs)) := Lib.hid (own_but HS6.out.pt.own hbu9 (fun q hq hs => own_types HOV.out HS6.out.pt.own (by decide) hs hq))
        have HN9 := Lib.hid hown9
        have HAT9 := Lib.hid hat9
        have HBU9 := Lib.hid hbu9
        have hfz := fun q => HOW9.out.frozenAt q
        have d0 := (row_cells HOW9.out HS6.out.pt.len Hm.out).1
        clear hown9 hg9 hB9 hat9 hbu9
        unfold wpPlanR
        simp only [pickOps, opAt, List.map_cons, List.map_nil, List.getElem?_toArray, List.getElem?_cons_zero, List.getElem?_cons_succ, Option.getD_some]
        repeat (go_big_quiet_step (fail))
        refine wpQuiet_nil ?_
        repeat (go_big_quiet_step (fail))
        refine wpQuiet_nil ?_
        go_wp2_with fail
        refine ⟨⟨fun h => (h (by decide)).elim, trivial⟩, ?_⟩
        unfold wpPlanR
        simp only [pickOps, List.map_nil]
        repeat (go_big_quiet_step (fail))
        refine wpQuiet_nil ?_
        repeat (go_big_quiet_step (fail))
        refine wpQuiet_nil ?_
        go_upto_region 22 with fail
        refine end_at (w := w) (g := g) ?_ ?_
        · have hset := But.set (S := fun q => (Value.slice (some ⟨G, 0, none⟩) n c1).ownBlock = some q) w9 (p := ⟨G, k * 4, none⟩) rfl (.slice (some ⟨g9, 0, none⟩) (m.n1 + 1) cap9)
          have hall : But (fun q => (Value.slice (some ⟨G, 0, none⟩) n c1).ownBlock = some q ∨ m.vv.ownBlock = some q) w6 (w9.setCell ⟨G, k * 4, none⟩ (.slice (some ⟨g9, 0, none⟩) (m.n1 + 1) cap9)) := (HBU9.out.wide (fun q hq => .inr hq)).trans (hset.wide (fun q hq => .inl hq))
          refine HS6.out.parts (hall.wide (fun q hq => ?_)) (HS6.out.pt.set Hm.out (A1 := some ⟨g9, 0, none⟩) (n1 := m.n1 + 1) (c1 := cap9) (vs := m.vs ++ [⟨⟨xk, xi, xt⟩, ⟨yk, yi, yt⟩, xo⟩]) (row_put HOW9.out Hm.out 0 (.slice (some ⟨g9, 0, none⟩) (m.n1 + 1) cap9) (by omega) rfl) (own_but ?_ hset ?_) (by rw [List.length_append, HLV.out]; rfl) hall ?_) ?_
          · rcases hq with hq | hq
            · exact (own_lt HS6.out.pt.own hq).1
            · exact (own_lt HOV.out hq).1
          · rw [List.flatMap_append]
            simpa [Iv.cs] using HN9.out
          · intro q hq hs
            exact own_types HN9.out HOW9.out (by decide) hq hs
          · intro q hq
            simp only [Value.ownBlock, Option.some.injEq] at hq
            subst hq
            rcases HAT9.out with e | e
            · left
              unfold PM.vv
              rw [HA1.out]
              exact e
            · right
              omega
          · refine mem_set HS6.out.wf ?_
            have h1 := HS6.out.wf m Hmm.out
            refine ⟨fun z hz => ?_, h1.2⟩
            rcases List.mem_append.1 hz with hz | hz
            · exact h1.1 z hz
            · rw [List.mem_singleton] at hz
              subst hz
              exact h1.1 _ (List.mem_of_getElem? HXV.out)
        · intro wE hE
          obtain ⟨x', f', A', n', c', r', hbo, hbr, hr, hw, hc, hb⟩ := hE
          have zo := hbo.cell
          have zr := hbr.cell
          obtain ⟨ff1, ff2, ff3⟩ := put3R_free hbr (.int .i64 x') (.bool f')
          have y3 := (put3R_blk (a' := .int .i64 x') (b' := .bool f') (c' := .slice A' n' c') hbr).cell
          have y1 := (hbr.set_ 0 (.int .i64 x')).cell
          have y2 := ((hbr.set_ 0 (.int .i64 x')).set_ 1 (.bool f')).cell
          have HFin := Lib.hid (SpRel.fin hbr hr hw hc hb hgl)
          unfold put3R at y3
          clear hbo hbr hr hw hc hb
          go_wp2
          exact bodyPost_ret (v := .agg #[.int .i64 x', .bool f', .slice A' n' c']) (by simp [results, Tryz.results33, go_sem, y3]) rfl HFin.out
      · go_upto_region 13 with fail
        refine wp_region_planR [10, 12] (onlyG g) (anyW) (onlyG_trans g) (anyW_trans) (.one [0, 1, 2, 4, 5, 6, 7] [] 3 (.one [8] [] 9 (.one [] [] 10 (.one [11] [] 12 (.last [] []))))) (by kernel_rfl) (by kernel_rfl) (fun _ _ d _ _ h => by cases d <;> exact h) ?_
        have hbd : Below w5.heap.size w5 w5.drew := (Below.refl _ _).drew
        have HS6 := Lib.hid (HS5.out.below hbd)
        replace d1 := keep_cell (keeps_of hbd) d1
        replace d2 := keep_cell (keeps_of hbd) d2
        replace d3 := keep_cell (keeps_of hbd) d3
        generalize hW6 : w5.drew = w6 at *
        clear hW6 hbd d0 e2 e3 HS5
        have hGg : ¬ G = g := by have := HS6.out.hg; omega
        have q1 : ∀ y : LaterR (onlyG g) w6, (afterR (onlyG g) w6 y).cell? ⟨G, k * 4 + 1, none⟩ = some (.int .i64 m.x) := fun y => y.cell d1 (fun W h => by rw [World.cell?_of_block (w := w6) (h.block G (cell_lt (a := ⟨G, k * 4 + 1, none⟩) (by rw [d1]; rfl)) hGg)]; exact d1)
        have q2 : ∀ y : LaterR (onlyG g) w6, (afterR (onlyG g) w6 y).cell? ⟨G, k * 4 + 2, none⟩ = some (.bool m.f) := fun y => y.cell d2 (fun W h => by rw [World.cell?_of_block (w := w6) (h.block G (cell_lt (a := ⟨G, k * 4 + 2, none⟩) (by rw [d2]; rfl)) hGg)]; exact d2)
        have q3 : ∀ y : LaterR (onlyG g) w6, (afterR (onlyG g) w6 y).cell? ⟨G, k * 4 + 3, none⟩ = some (.slice m.A2 m.n2 m.c2) := fun y => y.cell d3 (fun W h => by rw [World.cell?_of_block (w := w6) (h.block G (cell_lt (a := ⟨G, k * 4 + 3, none⟩) (by rw [d3]; rfl)) hGg)]; exact d3)
        have q4 : ∀ y : LaterR (onlyG g) w6, (afterR (onlyG g) w6 y).cell? ⟨G, k * 4 + 1 + 1, none⟩ = some (.bool m.f) := q2
        have q5 : ∀ y : LaterR (onlyG g) w6, (afterR (onlyG g) w6 y).cell? ⟨G, k * 4 + 1 + 2, none⟩ = some (.slice m.A2 m.n2 m.c2) := q3
        have qo : ∀ (y : LaterR (onlyG g) w6) z, (afterR (onlyG g) w6 y).cell? ⟨w.heap.size, z, none⟩ = (#[.int .i64 x, .bool f, .slice (some ⟨G, 0, none⟩) n c1] : Array Value)[z]? := fun y z => y.cell (HS6.out.bo.cell z) (fun W h => (HS6.out.bo.but h (by have := hgl; omega)).cell z)
        clear d1 d2 d3
        unfold wpPlanR
        simp only [pickOps, opAt, List.map_cons, List.map_nil, List.getElem?_toArray, List.getElem?_cons_zero, List.getElem?_cons_succ, Option.getD_some]
        repeat (go_big_quiet_step (fail))
        refine wpQuiet_nil ?_
        repeat (go_big_quiet_step (fail))
        refine wpQuiet_nil ?_
        clear q1 q2 q3 q4 q5 qo
        go_wp2_with fail
        refine (cinterval2_any g _ HS6.out.cs).mono ?_
        rintro e w7 ⟨l4, A4, c4, hG4, rfl, _, _, _, hO4, hc7, hb7⟩
        go_wp2_with fail
        refine ⟨⟨fun _ => hb7, trivial⟩, ?_⟩
        have HS7 := Lib.hid (HS6.out.case hc7 hb7)
        have HO4 := Lib.hid hO4
        have HG4 := Lib.hid hG4
        have hl4 := hG4.len
        clear HS6 hc7 hb7 hO4 hG4
        unfold wpPlanR
        simp only [pickOps, opAt, List.map_cons, List.map_nil, List.getElem?_toArray, List.getElem?_cons_zero, List.getElem?_cons_succ, Option.getD_some]
        repeat (go_big_quiet_step (fail))
        refine wpQuiet_nil ?_
        repeat (go_big_quiet_step (fail))
        refine wpQuiet_nil ?_
        go_wp2_with fail
        refine ⟨⟨fun _ => But.alloc _ _, trivial⟩, ?_⟩
        unfold wpPlanR
        simp only [pickOps, opAt, List.map_nil, List.getElem?_toArray, List.getElem?_cons_zero, List.getElem?_cons_succ, Option.getD_some]
        repeat (go_big_quiet_step (fail))
        refine wpQuiet_nil ?_
        repeat (go_big_quiet_step (fail))
        refine wpQuiet_nil ?_
        go_wp2_with (at_builtin; go_loud (refine wpList_append_one2 (by rfl) (.tmp 67) (.tmp 75) _ (by rfl) (w.heap.size + 5) 85 i1 _ 4 64 Tryz.underlying26 hi1 hy0 hy1 hy2 (by rfl) (by omega) (.slice (some ⟨G, 0, none⟩) n c1) n _ (by rfl) w7 #[.slice A4 l4.length c4, .int .i64 m.x, .bool m.f, .slice m.A2 m.n2 m.c2] HS7.out.pt.own w7.heap.size (by rfl) (by rfl) (by rfl) (one_pm (PM.mk A4 l4.length c4 l4 m.x m.f m.A2 m.n2 m.c2 m.r 0 0)) (by simp only [maxLen]; omega) (by omega) (Nat.le_of_lt (Nat.lt_of_le_of_lt (own_lt HS7.out.pt.own (k := G) rfl).1 (own_lt HS7.out.pt.own (k := G) rfl).2.1)) ?_; intro g9 cap9 w9 hown9 hg9 hB9 hat9 hlt9))
        refine ⟨⟨fun h => (h (by decide)).elim, trivial⟩, ?_⟩
        have hbu9 : But (fun q => (Value.slice (some ⟨G, 0, none⟩) n c1).ownBlock = some q) w7 w9 := (But.alloc _ _).trans (But.of_grown hg9 (fun q hq => hq))
        have HN9 := Lib.hid hown9
        have HBU9 := Lib.hid hbu9
        have HBO9 := Lib.hid (HS7.out.bo.but hbu9 (fun hq => by have := (own_lt HS7.out.pt.own hq).1; omega))
        have zo := HBO9.out.cell
        have zf := HBO9.out.free
        clear hown9 hg9 hB9 hat9 hbu9
        unfold wpPlanR
        simp only [pickOps, opAt, List.map_cons, List.map_nil, List.getElem?_toArray, List.getElem?_cons_zero, List.getElem?_cons_succ, Option.getD_some]
        repeat (go_big_quiet_step (fail))
        refine wpQuiet_nil ?_
        repeat (go_big_quiet_step (fail))
        refine wpQuiet_nil ?_
        go_wp2_with fail
        refine ⟨⟨fun h => (h (by decide)).elim, trivial⟩, ?_⟩
        unfold wpPlanR
        simp only [pickOps, List.map_nil]
        repeat (go_big_quiet_step (fail))
        refine wpQuiet_nil ?_
        repeat (go_big_quiet_step (fail))
        refine wpQuiet_nil ?_
        go_upto_region 22 with fail
        refine end_at (w := w) (g := g) ?_ ?_
        · refine HS7.out.other (w1 := w9) (ms' := ms ++ [PM.mk A4 l4.length c4 l4 m.x m.f m.A2 m.n2 m.c2 m.r 0 0]) (n' := n + 1) (c' := cap9) (A' := some ⟨g9, 0, none⟩) HBU9.out ?_ ?_ (fun ho q hq => ?_) (But.set (S := fun q => q = w.heap.size) _ (p := ⟨w.heap.size, 2, none⟩) rfl _) (HBO9.out.set_ 2 (.slice (some ⟨g9, 0, none⟩) (n + 1) cap9))
          · rw [List.flatMap_append]
            simpa [PM.cs] using HN9.out
          · rw [List.length_append, HS7.out.pt.len]; rfl
          · rcases List.mem_append.1 hq with hq | hq
            · exact ho q hq
            · rw [List.mem_singleton] at hq
              subst hq
              have hsam : Sam (fun _ => False) w7 w9 := Sam.of_but HBU9.out (fun _ _ h => h) (fun z cs hz he => by
                obtain ⟨_, _, cs', h1⟩ := own_lt HS7.out.pt.own hz
                rw [h1] at he
                injection he with he
                injection he with _ he
                exact absurd he (by decide))
              have hO9 := HO4.out.t hsam
              exact RdT.of (fun w' hs => ⟨(hO9.t hs).ok, (hO9.t hs).s⟩) (fun w' hs => ((ho m Hmm.out).rd w' hs).rg) (HG4.out.wf) (ho m Hmm.out).wr
        · intro wE hE
          obtain ⟨x', f', A', n', c', r', hbo, hbr, hr, hw, hc, hb⟩ := hE
          have zo := hbo.cell
          have zr := hbr.cell
          obtain ⟨ff1, ff2, ff3⟩ := put3R_free hbr (.int .i64 x') (.bool f')
          have y3 := (put3R_blk (a' := .int .i64 x') (b' := .bool f') (c' := .slice A' n' c') hbr).cell
          have y1 := (hbr.set_ 0 (.int .i64 x')).cell
          have y2 := ((hbr.set_ 0 (.int .i64 x')).set_ 1 (.bool f')).cell
          have HFin := Lib.hid (SpRel.fin hbr hr hw hc hb hgl)
          unfold put3R at y3
          clear hbo hbr hr hw hc hb
          go_wp2
          exact bodyPost_ret (v := .agg #[.int .i64 x', .bool f', .slice A' n' c']) (by simp [results, Tryz.results33, go_sem, y3]) rfl HFin.out
      · have zo := HS5.out.bo.cell
        have zf := HS5.out.bo.free
        go_upto_region 22 with fail
        refine end_at (w := w) (g := g) ?_ ?_
        · exact HS5.out.box (y := x) (d := true) (But.set (S := fun q => q = w.heap.size) _ (p := ⟨w.heap.size, 1, none⟩) rfl _) (HS5.out.bo.set_ 1 (.bool true))
        · intro wE hE
          obtain ⟨x', f', A', n', c', r', hbo, hbr, hr, hw, hc, hb⟩ := hE
          have zo := hbo.cell
          have zr := hbr.cell
          obtain ⟨ff1, ff2, ff3⟩ := put3R_free hbr (.int .i64 x') (.bool f')
          have y3 := (put3R_blk (a' := .int .i64 x') (b' := .bool f') (c' := .slice A' n' c') hbr).cell
          have y1 := (hbr.set_ 0 (.int .i64 x')).cell
          have y2 := ((hbr.set_ 0 (.int .i64 x')).set_ 1 (.bool f')).cell
          have HFin := Lib.hid (SpRel.fin hbr hr hw hc hb hgl)
          unfold put3R at y3
          clear hbo hbr hr hw hc hb
          go_wp2
          exact bodyPost_ret (v := .agg #[.int .i64 x', .bool f', .slice A' n' c']) (by simp [results, Tryz.results33, go_sem, y3]) rfl HFin.out
      · have hfz := fun q => HS5.out.pt.own.frozenAt q
        go_upto_region 22 with fail
        refine end_at (w := w) (g := g) ?_ ?_
        · exact HS5.out.row (but3 _ G _ _ _ _ _ _ rfl) (row_rest HS5.out.pt.own Hm.out m.x false none 0 0 (.nil m.x false)) (by rw [List.length_set]; exact HS5.out.pt.len) (fun ho => mem_set ho ((ho m Hmm.out).rest (RgT.nil _ _) trivial))
        · intro wE hE
          obtain ⟨x', f', A', n', c', r', hbo, hbr, hr, hw, hc, hb⟩ := hE
          have zo := hbo.cell
          have zr := hbr.cell
          obtain ⟨ff1, ff2, ff3⟩ := put3R_free hbr (.int .i64 x') (.bool f')
          have y3 := (put3R_blk (a' := .int .i64 x') (b' := .bool f') (c' := .slice A' n' c') hbr).cell
          have y1 := (hbr.set_ 0 (.int .i64 x')).cell
          have y2 := ((hbr.set_ 0 (.int .i64 x')).set_ 1 (.bool f')).cell
          have HFin := Lib.hid (SpRel.fin hbr hr hw hc hb hgl)
          unfold put3R at y3
          clear hbo hbr hr hw hc hb
          go_wp2
          exact bodyPost_ret (v := .agg #[.int .i64 x', .bool f', .slice A' n' c']) (by simp [results, Tryz.results33, go_sem, y3]) rfl HFin.out
      · have hm0' : 0 < ms.length := by rw [HS5.out.pt.len]; omega
        obtain ⟨m0, hm0⟩ : ∃ m0, ms[0]? = some m0 := ⟨_, List.getElem?_eq_getElem hm0'⟩
        have hml' : n - 1 < ms.length := by rw [HS5.out.pt.len]; omega
        obtain ⟨ml, hml⟩ : ∃ ml, ms[n - 1]? = some ml := ⟨_, List.getElem?_eq_getElem hml'⟩
        have HM0 := Lib.hid hm0
        have HML := Lib.hid hml
        have h0 := HCL.out 0 m0 hm0
        have hl := HCL.out (n - 1) ml hml
        have a0 : w5.cell? ⟨G, 0, none⟩ = some (.slice m0.A1 m0.n1 m0.c1) := by simpa using h0 0 _ rfl
        have a1 : w5.cell? ⟨G, 1, none⟩ = some (.int .i64 m0.x) := by simpa using h0 1 _ rfl
        have a2 : w5.cell? ⟨G, 2, none⟩ = some (.bool m0.f) := by simpa using h0 2 _ rfl
        have a3 : w5.cell? ⟨G, 3, none⟩ = some (.slice m0.A2 m0.n2 m0.c2) := by simpa using h0 3 _ rfl
        have l0 : w5.cell? ⟨G, (n - 1) * 4, none⟩ = some (.slice ml.A1 ml.n1 ml.c1) := by simpa using hl 0 _ rfl
        have l1 : w5.cell? ⟨G, (n - 1) * 4 + 1, none⟩ = some (.int .i64 ml.x) := by simpa using hl 1 _ rfl
        have l2 : w5.cell? ⟨G, (n - 1) * 4 + 2, none⟩ = some (.bool ml.f) := by simpa using hl 2 _ rfl
        have l3 : w5.cell? ⟨G, (n - 1) * 4 + 3, none⟩ = some (.slice ml.A2 ml.n2 ml.c2) := by simpa using hl 3 _ rfl
        clear h0 hl hm0 hml hm0' hml' d0 d1 d2 d3 e2 e3
        go_upto_region 19 with fail
        refine wp_region_planR [21, 23] (noW) (onlyG G) (noW_trans) (onlyG_trans G) (.one [0, 1, 8, 9, 10, 11, 12, 13, 14, 15, 16, 17, 18, 19, 20] [2, 3, 4, 5, 6, 7] 21 (.one [22] [] 23 (.last [] []))) (by kernel_rfl) (by kernel_rfl) (fun _ _ d _ _ h => by cases d <;> exact h) ?_
        have hbd : Below w5.heap.size w5 w5.drew := (Below.refl _ _).drew
        have HS6 := Lib.hid (HS5.out.below hbd)
        replace a0 := keep_cell (keeps_of hbd) a0
        replace a1 := keep_cell (keeps_of hbd) a1
        replace a2 := keep_cell (keeps_of hbd) a2
        replace a3 := keep_cell (keeps_of hbd) a3
        replace l0 := keep_cell (keeps_of hbd) l0
        replace l1 := keep_cell (keeps_of hbd) l1
        replace l2 := keep_cell (keeps_of hbd) l2
        replace l3 := keep_cell (keeps_of hbd) l3
        generalize hW6 : w5.drew = w6 at *
        clear hW6 hbd HS5 HCL
        have qo : ∀ (y : LaterR noW w6) z, (afterR noW w6 y).cell? ⟨w.heap.size, z, none⟩ = (#[.int .i64 x, .bool f, .slice (some ⟨G, 0, none⟩) n c1] : Array Value)[z]? := fun y z => y.cell (HS6.out.bo.cell z) (fun W h => h.elim)
        have hGO : ¬ w.heap.size = G := by have := (own_lt HS6.out.pt.own (k := G) rfl).1; omega
        have qw : ∀ (y : LaterR (onlyG G) w6) z, (afterR (onlyG G) w6 y).cell? ⟨w.heap.size, z, none⟩ = (#[.int .i64 x, .bool f, .slice (some ⟨G, 0, none⟩) n c1] : Array Value)[z]? := fun y z => y.cell (HS6.out.bo.cell z) (fun W h => (HS6.out.bo.but h hGO).cell z)
        have qa0 : ∀ y : LaterR noW w6, (afterR noW w6 y).cell? ⟨G, 0, none⟩ = some (.slice m0.A1 m0.n1 m0.c1) := fun y => y.cell a0 (fun W h => h.elim)
        have qa1 : ∀ y : LaterR noW w6, (afterR noW w6 y).cell? ⟨G, 1, none⟩ = some (.int .i64 m0.x) := fun y => y.cell a1 (fun W h => h.elim)
        have qa2 : ∀ y : LaterR noW w6, (afterR noW w6 y).cell? ⟨G, 2, none⟩ = some (.bool m0.f) := fun y => y.cell a2 (fun W h => h.elim)
        have qa3 : ∀ y : LaterR noW w6, (afterR noW w6 y).cell? ⟨G, 3, none⟩ = some (.slice m0.A2 m0.n2 m0.c2) := fun y => y.cell a3 (fun W h => h.elim)
        have ql0 : ∀ y : LaterR noW w6, (afterR noW w6 y).cell? ⟨G, (n - 1) * 4, none⟩ = some (.slice ml.A1 ml.n1 ml.c1) := fun y => y.cell l0 (fun W h => h.elim)
        have ql1 : ∀ y : LaterR noW w6, (afterR noW w6 y).cell? ⟨G, (n - 1) * 4 + 1, none⟩ = some (.int .i64 ml.x) := fun y => y.cell l1 (fun W h => h.elim)
        have ql2 : ∀ y : LaterR noW w6, (afterR noW w6 y).cell? ⟨G, (n - 1) * 4 + 2, none⟩ = some (.bool ml.f) := fun y => y.cell l2 (fun W h => h.elim)
        have ql3 : ∀ y : LaterR noW w6, (afterR noW w6 y).cell? ⟨G, (n - 1) * 4 + 3, none⟩ = some (.slice ml.A2 ml.n2 ml.c2) := fun y => y.cell l3 (fun W h => h.elim)
        clear a0 a1 a2 a3 l0 l1 l2 l3
        unfold wpPlanR
        simp only [pickOps, opAt, List.map_cons, List.map_nil, List.getElem?_toArray, List.getElem?_cons_zero, List.getElem?_cons_succ, Option.getD_some]
        repeat (go_big_quiet_step (fail))
        refine wpQuiet_nil ?_
        repeat (go_big_quiet_step (fail))
        refine wpQuiet_nil ?_
        clear qo qw qa0 qa1 qa2 qa3 ql0 ql1 ql2 ql3
        have hfz := fun q => HS6.out.pt.own.frozenAt q
        obtain ⟨a0, a1, a2, a3⟩ := row_cells HS6.out.pt.own HS6.out.pt.len HM0.out
        simp only [Nat.zero_mul, Nat.zero_add] at a0 a1 a2 a3
        go_wp2_with fail
        refine ⟨⟨fun h => (h (by decide)).elim, ((but3 (S := fun q => q = G) _ G _ _ _ _ _ _ rfl).trans (But.set (S := fun q => q = G) _ (p := ⟨G, 3, none⟩) rfl _))⟩, ?_⟩
        have HW1 := Lib.hid (row_whole HS6.out.pt.own HM0.out ml)
        clear hfz a0 a1 a2 a3
        have hmz : ∃ mz, (ms.set 0 ml)[n - 1]? = some mz := ⟨_, List.getElem?_eq_getElem (by rw [List.length_set, HS6.out.pt.len]; omega)⟩
        obtain ⟨mz, hmz⟩ := hmz
        have Hmz := Lib.hid hmz
        have hfz := fun q => HW1.out.frozenAt q
        obtain ⟨a0, a1, a2, a3⟩ := row_cells HW1.out (by rw [List.length_set]; exact HS6.out.pt.len) hmz
        clear hmz
        simp only [Nat.zero_mul, Nat.zero_add] at hfz a0 a1 a2 a3
        unfold wpPlanR
        simp only [pickOps, opAt, List.map_cons, List.map_nil, List.getElem?_toArray, List.getElem?_cons_zero, List.getElem?_cons_succ, Option.getD_some]
        repeat (go_big_quiet_step (fail))
        refine wpQuiet_nil ?_
        repeat (go_big_quiet_step (fail))
        refine wpQuiet_nil ?_
        go_wp2_with fail
        refine ⟨⟨fun h => (h (by decide)).elim, ((but3 (S := fun q => q = G) _ G _ _ _ _ _ _ rfl).trans (But.set (S := fun q => q = G) _ (p := ⟨G, (n - 1) * 4 + 3, none⟩) rfl _))⟩, ?_⟩
        unfold wpPlanR
        simp only [pickOps, List.map_nil]
        repeat (go_big_quiet_step (fail))
        refine wpQuiet_nil ?_
        repeat (go_big_quiet_step (fail))
        refine wpQuiet_nil ?_
        go_upto_region 22 with fail
        refine end_at (w := w) (g := g) ?_ ?_
        · refine HS6.out.row ?_ (row_whole HW1.out Hmz.out m0) (by rw [List.length_set, List.length_set]; exact HS6.out.pt.len) (fun ho => mem_set (mem_set ho (ho ml (List.mem_of_getElem? HML.out))) (ho m0 (List.mem_of_getElem? HM0.out)))
          exact (((but3 (S := fun q => (Value.slice (some ⟨G, 0, none⟩) n c1).ownBlock = some q) _ G _ _ _ _ _ _ rfl).trans (But.set (S := fun q => (Value.slice (some ⟨G, 0, none⟩) n c1).ownBlock = some q) _ (p := ⟨G, 0 * 4 + 3, none⟩) rfl _)).trans (but3 _ G _ _ _ _ _ _ rfl)).trans (But.set (S := fun q => (Value.slice (some ⟨G, 0, none⟩) n c1).ownBlock = some q) _ (p := ⟨G, (n - 1) * 4 + 3, none⟩) rfl _)
        · intro wE hE
          obtain ⟨x', f', A', n', c', r', hbo, hbr, hr, hw, hc, hb⟩ := hE
          have zo := hbo.cell
          have zr := hbr.cell
          obtain ⟨ff1, ff2, ff3⟩ := put3R_free hbr (.int .i64 x') (.bool f')
          have y3 := (put3R_blk (a' := .int .i64 x') (b' := .bool f') (c' := .slice A' n' c') hbr).cell
          have y1 := (hbr.set_ 0 (.int .i64 x')).cell
          have y2 := ((hbr.set_ 0 (.int .i64 x')).set_ 1 (.bool f')).cell
          have HFin := Lib.hid (SpRel.fin hbr hr hw hc hb hgl)
          unfold put3R at y3
          clear hbo hbr hr hw hc hb
          go_wp2
          exact bodyPost_ret (v := .agg #[.int .i64 x', .bool f', .slice A' n' c']) (by simp [results, Tryz.results33, go_sem, y3]) rfl HFin.out
      · have hfz := fun q => HS5.out.pt.own.frozenAt q
        go_upto_region 22 with fail
        refine end_at (w := w) (g := g) ?_ ?_
        · exact HS5.out.row (But.set (S := fun q => (Value.slice (some ⟨G, 0, none⟩) n c1).ownBlock = some q) _ (p := ⟨G, k * 4 + 1, none⟩) rfl _) (row_put HS5.out.pt.own Hm.out 1 (.int .i64 (m.x + 1)) (m' := { m with x := m.x + 1, r := mkR (m.x + 1) m.f m.r.parts }) (by omega) rfl) (by rw [List.length_set]; exact HS5.out.pt.len) (fun ho => mem_set ho ((ho m Hmm.out).wide _))
        · intro wE hE
          obtain ⟨x', f', A', n', c', r', hbo, hbr, hr, hw, hc, hb⟩ := hE
          have zo := hbo.cell
          have zr := hbr.cell
          obtain ⟨ff1, ff2, ff3⟩ := put3R_free hbr (.int .i64 x') (.bool f')
          have y3 := (put3R_blk (a' := .int .i64 x') (b' := .bool f') (c' := .slice A' n' c') hbr).cell
          have y1 := (hbr.set_ 0 (.int .i64 x')).cell
          have y2 := ((hbr.set_ 0 (.int .i64 x')).set_ 1 (.bool f')).cell
          have HFin := Lib.hid (SpRel.fin hbr hr hw hc hb hgl)
          unfold put3R at y3
          clear hbo hbr hr hw hc hb
          go_wp2
          exact bodyPost_ret (v := .agg #[.int .i64 x', .bool f', .slice A' n' c']) (by simp [results, Tryz.results33, go_sem, y3]) rfl HFin.out
      · go_wp2_with fail
        refine (HI.out d' (by have := Hdd.out.1; omega) m.r m.x m.f m.A2 m.n2 m.c2 _ (by have := Hdd.out.1; omega) HFm.out.1 HFm.out.2.1 HFm.out.2.2 HS5.out.cs (HS5.out.pt.ok m Hmm.out).rg.s).mono ?_
        rintro e w7 ⟨x7, f7, A7, n7, c7, r7, rfl, hr7, hw7, hc7, hb7⟩
        have HS7 := Lib.hid (HS5.out.case hc7 hb7)
        have HR7 := Lib.hid (And.intro hr7 hw7)
        have hG5 : Hid (G < w5.heap.size) := Lib.hid (by have := HS5.out.pt.own.form (by omega); exact (own_lt HS5.out.pt.own (k := G) rfl).2.1)
        have hsz := hb7.size
        clear hr7 hw7 hc7 hb7 d0 d1 d2 d3 e2 e3
        have hfz := fun q => HS7.out.pt.own.frozenAt q
        obtain ⟨d0, d1, d2, d3⟩ := row_cells HS7.out.pt.own HS7.out.pt.len Hm.out
        have e2 := d2
        have e3 := d3
        rw [show k * 4 + 2 = k * 4 + 1 + 1 from rfl] at e2
        rw [show k * 4 + 3 = k * 4 + 1 + 2 from rfl] at e3
        go_upto_region 22 with fail
        refine end_at (w := w) (g := g) ?_ ?_
        · have hb3 : But (fun q => (Value.slice (some ⟨G, 0, none⟩) n c1).ownBlock = some q) w7 (((w7.setCell ⟨G, k * 4 + 1, none⟩ (.int .i64 x7)).setCell ⟨G, k * 4 + 2, none⟩ (.bool f7)).setCell ⟨G, k * 4 + 3, none⟩ (.slice A7 n7 c7)) := but3 _ G _ _ _ _ _ _ rfl
          refine HS7.out.row hb3 (row_rest HS7.out.pt.own Hm.out x7 f7 A7 n7 c7 r7) (by rw [List.length_set]; exact HS7.out.pt.len) (fun ho => mem_set ho ((ho m Hmm.out).rest (HR7.out.1.step (Sam.of_but hb3 (fun q hq hs => ?_) (fun q cs hq he => ?_)) (fun q hq => ?_) hb3.size) HR7.out.2))
          · simp only [Value.ownBlock, Option.some.injEq] at hq
            have := hG5.out
            omega
          · obtain ⟨_, _, cs', h1⟩ := own_lt HS7.out.pt.own hq
            rw [h1] at he
            injection he with he
            injection he with _ he
            exact absurd he (by decide)
          · have := HS5.out.lt
            omega
        · intro wE hE
          obtain ⟨x', f', A', n', c', r', hbo, hbr, hr, hw, hc, hb⟩ := hE
          have zo := hbo.cell
          have zr := hbr.cell
          obtain ⟨ff1, ff2, ff3⟩ := put3R_free hbr (.int .i64 x') (.bool f')
          have y3 := (put3R_blk (a' := .int .i64 x') (b' := .bool f') (c' := .slice A' n' c') hbr).cell
          have y1 := (hbr.set_ 0 (.int .i64 x')).cell
          have y2 := ((hbr.set_ 0 (.int .i64 x')).set_ 1 (.bool f')).cell
          have HFin := Lib.hid (SpRel.fin hbr hr hw hc hb hgl)
          unfold put3R at y3
          clear hbo hbr hr hw hc hb
          go_wp2
          exact bodyPost_ret (v := .agg #[.int .i64 x', .bool f', .slice A' n' c']) (by simp [results, Tryz.results33, go_sem, y3]) rfl HFin.out
end Go.Proofs.YtnocbigcdjlliaaGreat
