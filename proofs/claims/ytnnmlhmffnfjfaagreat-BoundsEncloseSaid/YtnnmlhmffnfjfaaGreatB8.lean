/-
  Texts: RgSame, RgFormP, RgForm, RgValid.
-/
import Derived.Test.YtnnmlhmffnfjfaaGreatB7
set_option linter.unusedVariables false
set_option maxRecDepth 100000
namespace Go.Proofs.YtnnmlhmffnfjfaaGreat
open Go.RowKit
open Rg
theorem rg_eq_iff (a b : Rg) : a = b ↔ a.w = b.w ∧ a.f = b.f ∧ a.parts = b.parts := ⟨fun h => by subst h; exact ⟨rfl, rfl, rfl⟩, fun ⟨h1, h2, h3⟩ => Rg.ext h1 h2 h3⟩
set_option maxRecDepth 8000 in
set_option maxHeartbeats 4000000 in
theorem rsame_any (a : Rg) : ∀ (x : Int) (f : Bool) (A : Option Addr) (n c : Nat) (y : Int) (g : Bool) (B : Option Addr) (m d : Nat) (b : Rg) (w : World), RgS w x f A n c a → RgS w y g B m d b → a.size ≤ 1000 → a.fits = true →
 Calls Tryz.prog 101 #[.agg #[.int .i64 x, .bool f, .slice A n c], .agg #[.int .i64 y, .bool g, .slice B m d]] w fun e w' => e = .returned (.bool (decide (a = b))) ∧ Below w.heap.size w w' := by
 induction hsz : a.size using Nat.strongRecOn generalizing a with
 | _ s ih =>
   intro x f A n c y g B m d b w hR hS hs hft
   have hB0 : Below w.heap.size w ((w.alloc (.cells #[.int .i64 x, .bool f, .slice A n c] 71)).alloc (.cells #[.int .i64 y, .bool g, .slice B m d] 71)) := ((Below.refl _ _).alloc (Nat.le_refl _) _).alloc (by simp) _
   have h0 : decide (a = b) = (decide (x = y) && decide (f = g) && decide (a.parts = b.parts)) := by
    rw [Bool.eq_iff_iff]
    simp only [decide_eq_true_eq, Bool.and_eq_true]
    rw [rg_eq_iff, hR.hw, hS.hw, hR.hf, hS.hf, and_assoc]
   have hn := hR.len
   have hm := hS.len
   have hns : n ≤ s := by have := len_le_size a; omega
   rw [h0]
   clear h0
   by_cases hxy : x = y
   · by_cases hfg : f = g
     · by_cases hnm : n = m
       · subst hxy hfg hnm
         generalize hr : (decide (x = x) && decide (f = f) && decide (a.parts = b.parts)) = r
         have HRR : Hid (decide (a.parts.drop 0 = b.parts.drop 0) = r) := by
          show _ = _
          simpa using hr
         have HI := zH ih
         have HR := zH hR
         have HS := zH hS
         have Hsz := zH hsz
         have HF := zH hft
         have HB0 := zH hB0
         clear ih hR hS hsz hr hft hn hm hB0
         have g1 : (x != x) = false := by simp
         have g2 : (f != f) = false := by simp
         go_enter Tryz.func101, Tryz.ntmps101
         go_wp2
         obtain ⟨W0, HW0⟩ : ∃ W : World, Hid ((w.alloc (.cells #[.int .i64 x, .bool f, .slice A n c] 71)).alloc (.cells #[.int .i64 x, .bool f, .slice B n d] 71) = W) := ⟨_, rfl⟩
         rw [HW0.out] at HB0
         have E2 : Hid (Blk W0 (w.heap.size + 1) 71 #[.int .i64 x, .bool f, .slice B n d]) := by
          have := Blk.new (w.alloc (.cells #[.int .i64 x, .bool f, .slice A n c] 71)) 71 #[.int .i64 x, .bool f, .slice B n d]
          rw [HW0.out, World.size_alloc] at this
          exact this
         go_loopw [34] (fun i wr => ∃ k : Nat, k ≤ n ∧ i = .int .i64 (k : Int) ∧ Hid (decide (a.parts.drop k = b.parts.drop k) = r) ∧ Below W0.heap.size W0 wr) (fun i _ => n - (intOf i).toNat)
         case atStart => exact ⟨0, by omega, rfl, HRR, by rw [HW0.out]; exact Below.refl _ _⟩
         case round =>
          obtain ⟨k, hk, rfl, hinv, hb0⟩ := hrel
          have hb := Below.next HB0.out hb0
          have hsw : w.heap.size + 1 < wr.heap.size := by have h1 := E2.out.lt; have h2 := hb0.size; omega
          by_cases hlt : k < n
          · obtain ⟨b1, o1, p, A1, n1, c1, x1, f1, A2, n2, c2, rfl, hp, hpt0, hpt⟩ := HR.out.at2 (keeps_of hb) hlt
            obtain ⟨b2, o2, q, B1, m1, d1, y1, g1', B2, m2, d2, rfl, hq, hqt0, hqt⟩ := HS.out.at2 (keeps_of hb) hlt
            have hK := keeps_of hb
            have Hst : Hid (r = (decide (p.1 = q.1) && decide (p.2 = q.2) && decide (a.parts.drop (k + 1) = b.parts.drop (k + 1)))) := by
             show _ = _
             rw [← hinv.out, drop_at hp, drop_at hq, Bool.eq_iff_iff]
             simp only [List.cons.injEq, decide_eq_true_eq, Bool.and_eq_true, Prod.ext_iff]
            have hps := size_at hp
            rw [Hsz.out] at hps
            have hpf := fits_mem HF.out (List.mem_of_getElem? hp)
            have HI' := zH (HI.out p.2.size hps p.2 rfl)
            have Hpf := zH hpf.2
            obtain ⟨p0, p1, p2, p3, pok, pvs, prg⟩ := hpt
            obtain ⟨q0, q1, q2, q3, qok, _, _⟩ := hqt.keep (keeps_alloc wr (.cells #[.slice A1 n1 c1, .int .i64 x1, .bool f1, .slice A2 n2 c2] 141))
            have qvs := hqt.vs
            have qrg := hqt.rg
            have hn1 : n1 ≤ 64 := by have := pvs.len; omega
            have PV := zH pvs
            have QV := zH qvs
            have PR := zH prg
            have QR := zH qrg
            have z1 := (E2.out.below hb0).cell
            clear hp hq hpt0 hqt0 hqt pok qok pvs qvs prg qrg hinv hpf
            have hba : Below wr.heap.size wr ((wr.alloc (.cells #[.slice A1 n1 c1, .int .i64 x1, .bool f1, .slice A2 n2 c2] 141)).alloc (.cells #[.slice B1 m1 d1, .int .i64 y1, .bool g1', .slice B2 m2 d2] 141)) := ((Below.refl _ _).alloc (Nat.le_refl _) _).alloc (by simp) _
            have HBA := zH hba
            clear hba
            by_cases hnm : n1 = m1
            · subst hnm
              have g3 : ((n1 : Int) != (n1 : Int)) = false := by simp
              go_wp2_with fail
              refine (HI'.out x1 f1 A2 n2 c2 y1 g1' B2 m2 d2 q.2 _ (PR.out.keep (keeps_of HBA.out)) (QR.out.keep (keeps_of HBA.out)) (by omega) Hpf.out).mono ?_
              rintro e w2 ⟨rfl, hb2⟩
              have hb2' := Below.next HBA.out hb2
              have E3 := zH (((Blk.new wr 141 #[.slice A1 n1 c1, .int .i64 x1, .bool f1, .slice A2 n2 c2]).alloc (.cells #[.slice B1 n1 d1, .int .i64 y1, .bool g1', .slice B2 m2 d2] 141)).below hb2)
              have E4 : Hid (Blk w2 (wr.heap.size + 1) 141 #[.slice B1 n1 d1, .int .i64 y1, .bool g1', .slice B2 m2 d2]) := by
               have := (Blk.new (wr.alloc (.cells #[.slice A1 n1 c1, .int .i64 x1, .bool f1, .slice A2 n2 c2] 141)) 141 #[.slice B1 n1 d1, .int .i64 y1, .bool g1', .slice B2 m2 d2]).below hb2
               rw [World.size_alloc] at this
               exact this
              have z3 := E3.out.cell
              clear p0 p1 p2 p3 q0 q1 q2 q3 z1
              have PV2 := zH (PV.out.keep (keeps_of hb2'))
              have QV2 := zH (QV.out.keep (keeps_of hb2'))
              have HB2 := zH (Below.next hb0 hb2')
              clear hb2 hb2' hb hb0 HBA PR QR
              obtain ⟨q2, Hq2⟩ : ∃ t, Hid (decide (p.2 = q.2) = t) := ⟨_, rfl⟩
              rw [Hq2.out]
              cases q2
              · go_wp2
                go_ret
                exact ⟨ret_bool (by rw [Hst.out, Hq2.out]; simp), Below.next HB0.out HB2.out⟩
              · go_wp2
                obtain ⟨r2, Hr2⟩ : ∃ t, Hid (decide (p.1.drop 0 = q.1.drop 0) = t) := ⟨_, rfl⟩
                clear z3
                go_loopw [62] (fun i wr' => ∃ j : Nat, j ≤ n1 ∧ i = .int .i64 (j : Int) ∧ Hid (decide (p.1.drop j = q.1.drop j) = r2) ∧ Below w2.heap.size w2 wr') (fun i _ => n1 - (intOf i).toNat)
                case atStart => exact ⟨0, by omega, rfl, Hr2, Below.refl _ _⟩
                case round =>
                 obtain ⟨j, hj, rfl, hinv2, hb3⟩ := hrel
                 have hB4 := Below.next HB2.out hb3
                 by_cases hjl : j < n1
                 · obtain ⟨b3, o3, u, rfl, hu, huc⟩ := (PV2.out.keep (keeps_of hb3)).at hjl
                   obtain ⟨b4, o4, v, rfl, hv, hvc⟩ := (QV2.out.keep (keeps_of hb3)).at hjl
                   have Hst2 : Hid (r2 = (decide (u = v) && decide (p.1.drop (j + 1) = q.1.drop (j + 1)))) := by
                    show _ = _
                    rw [← hinv2.out, drop_at hu, drop_at hv]
                    simp
                   have hev := run_neqI u v
                   obtain ⟨t, Ht⟩ : ∃ t, Hid (decide (u ≠ v) = t) := ⟨_, rfl⟩
                   rw [Ht.out] at hev
                   obtain ⟨⟨fk, fi, ft⟩, ⟨tk, ti, tt⟩, xo⟩ := u
                   obtain ⟨⟨gk, gi, gt⟩, ⟨uk, ui, ut⟩, yo⟩ := v
                   dsimp only at hev
                   obtain ⟨a0, a1, a2, a3, a4, a5, a6⟩ := IvAt.of huc
                   obtain ⟨v0, v1, v2, v3, v4, v5, v6⟩ := IvAt.of hvc
                   dsimp only at a0 a1 a2 a3 a4 a5 a6 v0 v1 v2 v3 v4 v5 v6
                   have hE4 := E4.out.below hb3
                   have hsz3 := hE4.lt
                   clear hu hv huc hvc
                   go_wp2
                   have hxx := (Blk.new wr 187 #[.int .i64 fk, .int .i64 fi, .string ft, .int .i64 tk, .int .i64 ti, .string tt, .bool xo]).drew.cell
                   have hyy := (hE4.alloc (.cells #[.int .i64 fk, .int .i64 fi, .string ft, .int .i64 tk, .int .i64 ti, .string tt, .bool xo] 187)).drew.cell
                   obtain ⟨s0, s1, s2, s3, s4, s5, s6⟩ := (IvAt.mk (w := wr) (b := b4) (p := o4 + j * 7) (x := ⟨⟨gk, gi, gt⟩, ⟨uk, ui, ut⟩, yo⟩) v0 v1 v2 v3 v4 v5 v6).keep (keeps_alloc wr (.cells #[.int .i64 fk, .int .i64 fi, .string ft, .int .i64 tk, .int .i64 ti, .string tt, .bool xo] 187)).drew
                   dsimp only at s0 s1 s2 s3 s4 s5 s6
                   have hB5 : Below w.heap.size w (wr.alloc (.cells #[.int .i64 fk, .int .i64 fi, .string ft, .int .i64 tk, .int .i64 ti, .string tt, .bool xo] 187)).drew := ((Below.next HB0.out hB4).alloc (Below.next HB0.out hB4).size _).drew
                   have hB6 : Below w2.heap.size w2 (wr.alloc (.cells #[.int .i64 fk, .int .i64 fi, .string ft, .int .i64 tk, .int .i64 ti, .string tt, .bool xo] 187)).drew := (hb3.alloc hb3.size _).drew
                   clear a0 a1 a2 a3 a4 a5 a6 v0 v1 v2 v3 v4 v5 v6 hE4
                   generalize hWn : (wr.alloc (.cells #[.int .i64 fk, .int .i64 fi, .string ft, .int .i64 tk, .int .i64 ti, .string tt, .bool xo] 187)).drew = Wn at *
                   have hca := @cell_after Wn
                   refine wp_region_seg [] [0, 1, 2, 3, 4, 5, 6] (by kernel_rfl) (by kernel_rfl) (fun _ _ d _ _ h => by cases d <;> exact h) ?_
                   rw [hWn]
                   clear hWn
                   simp only [pickSegs, pickOps, opAt, pkO]
                   unfold wpBlocks
                   repeat (go_big_quiet_step (fail))
                   refine wpQuiet_nil ?_
                   clear hca hxx hyy s0 s1 s2 s3 s4 s5 s6
                   cases t
                   · go_wp2
                     go_roundw
                     case rel => exact ⟨j + 1, by omega, by go_num, (by show _ = _; rw [Hst2.out]; have := Ht.out; simp at this; simp [this]), hB6⟩
                     case measure => simp [intOf]; omega
                   · go_wp2
                     go_ret
                     refine ⟨ret_bool ?_, hB5⟩
                     have h1 := Ht.out
                     have h2 := Hst2.out
                     have h3 := Hr2.out
                     simp only [decide_eq_true_eq] at h1
                     rw [decide_eq_false h1, Bool.false_and] at h2
                     rw [h2, List.drop_zero, List.drop_zero] at h3
                     rw [Hst.out, h3]
                     rfl
                 · go_wp2
                   go_roundw
                   case rel =>
                    refine ⟨k + 1, by omega, by go_num, ?_, hB4⟩
                    have h1 : p.1.drop j = [] := List.drop_eq_nil_of_le (by have := PV.out.len; omega)
                    have h2 : q.1.drop j = [] := List.drop_eq_nil_of_le (by have := QV.out.len; omega)
                    have h3 := hinv2.out
                    rw [h1, h2] at h3
                    have h4 := Hr2.out
                    rw [← h3, List.drop_zero, List.drop_zero] at h4
                    show _ = _
                    rw [Hst.out, h4, Hq2.out]
                    simp
                   case measure => simp [intOf]; omega
            · have g3 : ((n1 : Int) != (m1 : Int)) = true := by simp; omega
              have Hne : Hid (p.1 ≠ q.1) := zH (fun h => hnm (by rw [← PV.out.len, ← QV.out.len, h]))
              clear hnm
              go_wp2
              go_ret
              exact ⟨ret_bool (by rw [Hst.out]; simp [Hne.out]), Below.next hb HBA.out⟩
          · go_wp2
            go_ret
            have h1 : a.parts.drop k = [] := List.drop_eq_nil_of_le (by rw [len_parts]; have := HR.out.len; omega)
            have h2 : b.parts.drop k = [] := List.drop_eq_nil_of_le (by rw [len_parts]; have := HS.out.len; omega)
            exact ⟨ret_bool (by rw [← hinv.out, h1, h2]; simp), hb⟩
       · have hr : (decide (x = y) && decide (f = g) && decide (a.parts = b.parts)) = false := by
          have : a.parts ≠ b.parts := fun h => hnm (by rw [hn, hm, ← len_parts, ← len_parts, h])
          simp [this]
         rw [hr]
         have g3 : ((n : Int) != (m : Int)) = true := by simp; omega
         subst hxy hfg
         have g1 : (x != x) = false := by simp
         have g2 : (f != f) = false := by simp
         have HB0 := zH hB0
         clear ih hR hS hsz hr hft hn hm hB0 hnm
         go_enter Tryz.func101, Tryz.ntmps101
         go_wp2
         go_ret
         exact ⟨rfl, HB0.out⟩
     · have hr : (decide (x = y) && decide (f = g) && decide (a.parts = b.parts)) = false := by simp [hfg]
       rw [hr]
       subst hxy
       have g1 : (x != x) = false := by simp
       have HB0 := zH hB0
       clear ih hR hS hsz hr hft hn hm hB0
       cases f <;> cases g <;> first | exact absurd rfl hfg | skip
       all_goals
        clear hfg
        go_enter Tryz.func101, Tryz.ntmps101
        go_wp2
        go_ret
        exact ⟨rfl, HB0.out⟩
   · have hr : (decide (x = y) && decide (f = g) && decide (a.parts = b.parts)) = false := by simp [hxy]
     rw [hr]
     have g1 : (x != y) = true := by simp [hxy]
     have HB0 := zH hB0
     clear ih hR hS hsz hr hft hn hm hB0 hxy
     go_enter Tryz.func101, Tryz.ntmps101
     go_wp2
     go_ret
     exact ⟨rfl, HB0.out⟩
def PtOk (n : Nat) (p : List Iv × Rg) : Prop := p.1 ≠ [] ∧ validL p.1 = true ∧ p.2.nix = false ∧ Form n p.2 ∧ p.2.fits = true
def RelP (p q : List Iv × Rg) : Prop := cmpV (lo p.1) (lo q.1) < 0 ∧ disj p.1 q.1 ∧ p.2 ≠ q.2
def FormF (n : Nat) (r : Rg) : Prop := Form n r ∧ r.fits = true
theorem fits_iff : ∀ r : Rg, r.fits = true ↔ ∀ p ∈ r.parts, p.1.length ≤ 64 ∧ p.2.fits = true
 | .nil _ _ => by simp [Rg.fits, parts]
 | .cons vs rest tail => by
   have ih := fits_iff tail
   simp only [Rg.fits, parts, Bool.and_eq_true, decide_eq_true_eq, List.mem_cons, forall_eq_or_imp, ih]
theorem formF_zero (r : Rg) : FormF 0 r ↔ r.w = 0 ∧ r.len = 0 := by
 unfold FormF Form
 rw [← len_parts]
 constructor
 · rintro ⟨⟨h1, h2⟩, _⟩; exact ⟨h1, by rw [h2]; rfl⟩
 · rintro ⟨h1, h2⟩
   have h2 := List.eq_nil_of_length_eq_zero h2
   exact ⟨⟨h1, h2⟩, (fits_iff r).2 (by rw [h2]; simp)⟩
theorem formF_succ (n : Nat) (r : Rg) : FormF (n + 1) r ↔ r.w = ((n + 1 : Nat) : Int) ∧ r.f = false ∧ (∀ p ∈ r.parts, PtOk n p) ∧ r.parts.Pairwise RelP := by
 unfold FormF
 rw [fits_iff]
 constructor
 · rintro ⟨⟨h1, h2, h3, h4⟩, h5⟩
   refine ⟨h1, h2, fun p hp => ?_, h4⟩
   obtain ⟨a1, a2, a3, a4⟩ := h3 p hp
   obtain ⟨b1, b2⟩ := h5 p hp
   exact ⟨a1, by simp [validL, b1, a2], a4, a3, b2⟩
 · rintro ⟨h1, h2, h3, h4⟩
   have h3' : ∀ p ∈ r.parts, p.1.length ≤ 64 ∧ ordFrom none p.1 = true := fun p hp => by
    have := (h3 p hp).2.1
    simpa [validL] using this
   exact ⟨⟨h1, h2, fun p hp => ⟨(h3 p hp).1, (h3' p hp).2, (h3 p hp).2.2.2.1, (h3 p hp).2.2.1⟩, h4⟩, fun p hp => ⟨(h3' p hp).1, (h3 p hp).2.2.2.2⟩⟩
theorem not_ptok {n : Nat} {r : Rg} {k : Nat} {p : List Iv × Rg} (hp : r.parts[k]? = some p) (h : ¬ PtOk n p) : ¬ FormF (n + 1) r := fun hf => h (((formF_succ n r).1 hf).2.2.1 p (List.mem_of_getElem? hp))
theorem rel_at {n : Nat} {r : Rg} {j k : Nat} {p q : List Iv × Rg} (hf : FormF (n + 1) r) (hjk : j < k) (hq : r.parts[j]? = some q) (hp : r.parts[k]? = some p) : RelP q p := by
 have h := ((formF_succ n r).1 hf).2.2.2
 rw [List.pairwise_iff_getElem] at h
 obtain ⟨h1, e1⟩ := List.getElem?_eq_some_iff.1 hq
 obtain ⟨h2, e2⟩ := List.getElem?_eq_some_iff.1 hp
 have := h j k h1 h2 hjk
 rw [e1, e2] at this
 exact this
theorem meet_iff {a b : List Iv} (ha : validL a = true) (hb : validL b = true) : ((combineL opI a b).2 = 0 ∧ (combineL opI a b).1.length = 0) ↔ disj a b := by
 have ha' : ordFrom none a = true := by simp [validL] at ha; exact ha.2
 have hb' : ordFrom none b = true := by simp [validL] at hb; exact hb.2
 obtain ⟨m1, _, m3⟩ := merge_spec opI rfl ha' hb'
 have key : mergeL opI a b = [] ↔ disj a b := by
  constructor
  · intro h v _ hv
    have := m3 v
    rw [h, hv] at this
    simpa [inL, opI] using this.symm
  · intro h
    rcases hm : mergeL opI a b with _ | ⟨x, l⟩
    · rfl
    · obtain ⟨l1, l2⟩ := lo_in m1 (by rw [hm]; simp)
      have h3 := m3 (lo (mergeL opI a b))
      rw [l2] at h3
      have h4 : inL a (lo (mergeL opI a b)) = true ∧ inL b (lo (mergeL opI a b)) = true := by simpa [opI] using h3.symm
      rw [h _ l1 h4.1] at h4
      cases h4.2
 rw [← key]
 unfold combineL
 rw [ha, hb]
 simp only [Bool.and_self, if_true]
 split
 · simp
 · rename_i hl
   constructor
   · intro h; cases h.1
   · intro h; rw [h] at hl; simp at hl
def GoodTo (n : Nat) (L : List (List Iv × Rg)) : Prop := (∀ p ∈ L, PtOk n p) ∧ L.Pairwise RelP
theorem GoodTo.snoc {n : Nat} {L : List (List Iv × Rg)} {p : List Iv × Rg} (h : GoodTo n L) (hp : PtOk n p) (hr : ∀ q ∈ L, RelP q p) : GoodTo n (L ++ [p]) := by
 refine ⟨fun q hq => ?_, List.pairwise_append.2 ⟨h.2, List.pairwise_singleton _ _, fun q hq s hs => ?_⟩⟩
 · rcases List.mem_append.1 hq with hq | hq
   · exact h.1 q hq
   · have : q = p := by simpa using hq
     rw [this]; exact hp
 · have : s = p := by simpa using hs
   rw [this]; exact hr q hq
theorem lo_take {n : Nat} {l : List (List Iv × Rg)} {k : Nat} {p : List Iv × Rg} (h : GoodTo n (l.take (k + 1))) {q : List Iv × Rg} (hq : l[k]? = some q) (hlt : cmpV (lo q.1) (lo p.1) < 0) : ∀ s ∈ l.take (k + 1), cmpV (lo s.1) (lo p.1) < 0 := by
 rw [take_snoc' hq] at h ⊢
 intro s hs
 rcases List.mem_append.1 hs with hs | hs
 · exact cmpV_lt_trans ((List.pairwise_append.1 h.2).2.2 s hs q (by simp)).1 hlt
 · have : s = q := by simpa using hs
   rw [this]; exact hlt
open Classical in
noncomputable def formB (n : Nat) (r : Rg) : Bool := decide (FormF n r)
theorem formB_true {n : Nat} {r : Rg} : formB n r = true ↔ FormF n r := by simp [formB]
theorem formB_false {n : Nat} {r : Rg} (h : ¬ FormF n r) : formB n r = false := by simp [formB, h]
theorem lo_at {w : World} {A : Option Addr} {n : Nat} {l : List Iv} (h : IvS w A n l) (hn : 0 < n) : ∃ (b o : Nat) (x : Iv), A = some ⟨b, o, none⟩ ∧ lo l = x.f ∧ VlAt w b o x.f := by
 obtain ⟨b, o, x, e, hx, hc⟩ := h.at hn
 have := (IvAt.of hc).from_
 rw [Nat.zero_mul, Nat.add_zero] at this
 refine ⟨b, o, x, e, ?_, this⟩
 cases l with
 | nil => simp at hx
 | cons y l => simp only [List.getElem?_cons_zero, Option.some.injEq] at hx; subst hx; rfl
set_option maxRecDepth 8000 in
set_option maxHeartbeats 8000000 in
theorem formed_any : ∀ (d : Nat) (r : Rg) (x : Int) (f : Bool) (A : Option Addr) (n c : Nat) (w : World), RgS w x f A n c r → r.size ≤ 64 → d ≤ 12 →
 Calls Tryz.prog 158 #[.agg #[.int .i64 x, .bool f, .slice A n c], .int .i64 (d : Int)] w fun e w' => e = .returned (.bool (formB d r)) ∧ Below w.heap.size w w' := by
 intro d
 induction d with
 | zero =>
   intro r x f A n c w hR hs _
   have h0 : formB 0 r = (decide (x = 0) && decide (n = 0)) := by
    rw [Bool.eq_iff_iff, formB_true, formF_zero, hR.hw, ← hR.len]
    simp
   rw [h0]
   have hB0 : Below w.heap.size w (w.alloc (.cells #[.int .i64 x, .bool f, .slice A n c] 71)) := (Below.refl _ _).alloc (Nat.le_refl _) _
   clear h0 hR hs
   by_cases hx : x = 0
   · subst hx
     go_enter Tryz.func158, Tryz.ntmps158
     go_wp2
     go_ret
     refine ⟨ret_bool ?_, hB0⟩
     rw [Bool.eq_iff_iff]
     simp
   · have g1 : (x != 0) = true := by simp [hx]
     have hr : (decide (x = 0) && decide (n = 0)) = false := by simp [hx]
     rw [hr]
     clear hr hx
     go_enter Tryz.func158, Tryz.ntmps158
     go_wp2
     go_ret
     exact ⟨rfl, hB0⟩
 | succ d ih =>
   intro r x f A n c w hR hs hd
   have hB0 : Below w.heap.size w (w.alloc (.cells #[.int .i64 x, .bool f, .slice A n c] 71)) := (Below.refl _ _).alloc (Nat.le_refl _) _
   by_cases hx : x = ((d + 1 : Nat) : Int)
   · cases f
     · have HF : Hid (FormF (d + 1) r ↔ GoodTo d r.parts) := by
        show _ ↔ _
        rw [formF_succ, hR.hw, hR.hf]
        simp [hx, GoodTo]
       have g1 : (x != ((d + 1 : Nat) : Int)) = false := by simp [hx]
       have g2 : (((d + 1 : Nat) : Int) == 0) = false := by simp; omega
       generalize hdd : ((d + 1 : Nat) : Int) = dd at *
       have hdn : n ≤ 64 := by have := hR.len; have := len_le_size r; omega
       have hnc := hR.ok.1
       have HI := zH ih
       have HR := zH hR
       have HX := zH hx
       have HDD := zH hdd
       have hd1 : dd - 1 = (d : Int) := by omega
       have hd2 : 1 ≤ dd ∧ dd ≤ 12 := by omega
       have HD1 := zH hd1
       clear ih hR hx hdd hd1
       obtain ⟨W0, HW0⟩ : ∃ W : World, Hid (w.alloc (.cells #[.int .i64 x, .bool false, .slice A n c] 71) = W) := ⟨_, rfl⟩
       rw [HW0.out] at hB0
       have E1 : Hid (Blk W0 w.heap.size 71 #[.int .i64 x, .bool false, .slice A n c]) := by
        have := Blk.new w 71 #[.int .i64 x, .bool false, .slice A n c]
        rw [HW0.out] at this
        exact this
       go_enter Tryz.func158, Tryz.ntmps158
       go_wp2
       go_loopw [26] (fun i wr => ∃ k : Nat, k ≤ n ∧ i = .int .i64 (k : Int) ∧ Hid (GoodTo d (r.parts.take k)) ∧ Below W0.heap.size W0 wr) (fun i _ => n - (intOf i).toNat)
       case atStart => exact ⟨0, by omega, rfl, ⟨by simp, by simp⟩, by rw [HW0.out]; exact Below.refl _ _⟩
       case round =>
        obtain ⟨k, hk, rfl, hinv, hb0⟩ := hrel
        have hb := Below.next hB0 hb0
        by_cases hlt : k < n
        · obtain ⟨b1, o1, p, A1, n1, c1, x1, f1, A2, n2, c2, rfl, hp, hpt⟩ := (HR.out.keep (keeps_of hb)).at hlt
          have HPT := zH hpt
          have HP := zH hp
          have hps := size_at hp
          obtain ⟨p0, p1, p2, p3, pok, pvs, prg⟩ := hpt
          have PV := zH pvs
          have PR := zH prg
          have hn1 := pvs.len
          have Hn1 := zH hn1
          have z1 := (E1.out.below hb0).cell
          have Pb := zH (Blk.new wr 141 #[.slice A1 n1 c1, .int .i64 x1, .bool f1, .slice A2 n2 c2])
          have hba : Below wr.heap.size wr (wr.alloc (.cells #[.slice A1 n1 c1, .int .i64 x1, .bool f1, .slice A2 n2 c2] 141)) := (Below.refl _ _).alloc (Nat.le_refl _) _
          have HBA := zH hba
          clear hp pok pvs prg hn1 hba
          by_cases hn0 : n1 = 0
          · have g3 : ((n1 : Int) == 0) = true := by simp [hn0]
            have Hno : Hid (¬ PtOk d p) := zH fun h => h.1 (List.eq_nil_of_length_eq_zero (by rw [Hn1.out, hn0]))
            clear hn0
            go_wp2
            go_ret
            exact ⟨ret_bool (formB_false (not_ptok HP.out Hno.out)).symm, Below.next hb HBA.out⟩
          · have g3 : ((n1 : Int) == 0) = false := by simp [hn0]
            have hn0' : 0 < n1 := by omega
            clear hn0
            go_wp2_with fail
            refine (validL_any A1 n1 c1 p.1 _ (PV.out.keep (keeps_of HBA.out))).mono ?_
            rintro e w1 ⟨rfl, hb1⟩
            obtain ⟨v1, Hv1⟩ : ∃ t, Hid (validL p.1 = t) := ⟨_, rfl⟩
            rw [Hv1.out]
            have hB1 := Below.next HBA.out hb1
            have y1 := (Pb.out.below hb1).cell
            clear z1 p0 p1 p2 p3
            cases v1
            · have Hno : Hid (¬ PtOk d p) := zH fun h => by have h1 := h.2.1; rw [Hv1.out] at h1; cases h1
              go_wp2
              go_ret
              exact ⟨ret_bool (formB_false (not_ptok HP.out Hno.out)).symm, Below.next hb hB1⟩
            · go_wp2_with fail
              refine (rempty_any x1 f1 A2 n2 c2 p.2 _ (PR.out.keep (keeps_of hB1))).mono ?_
              rintro e w2 ⟨rfl, hb2⟩
              obtain ⟨v2, Hv2⟩ : ∃ t, Hid (p.2.nix = t) := ⟨_, rfl⟩
              rw [Hv2.out]
              have hB2 := Below.next hB1 hb2
              have y2 := ((Pb.out.below hb1).below hb2).cell
              clear y1
              cases v2
              · go_wp2_with fail
                rw [HD1.out]
                refine (HI.out p.2 x1 f1 A2 n2 c2 _ (PR.out.keep (keeps_of hB2)) (by omega) (by omega)).mono ?_
                rintro e w3 ⟨rfl, hb3⟩
                obtain ⟨v3, Hv3⟩ : ∃ t, Hid (formB d p.2 = t) := ⟨_, rfl⟩
                rw [Hv3.out]
                have hB3 := Below.next hB2 hb3
                have Y3 := zH (((Pb.out.below hb1).below hb2).below hb3)
                have y3 := Y3.out.cell
                clear y2
                cases v3
                · have Hno : Hid (¬ PtOk d p) := zH fun h => by have h1 := formB_true.2 ⟨h.2.2.2.1, h.2.2.2.2⟩; rw [Hv3.out] at h1; cases h1
                  go_wp2
                  go_ret
                  exact ⟨ret_bool (formB_false (not_ptok HP.out Hno.out)).symm, Below.next hb hB3⟩
                · have Hpo : Hid (PtOk d p) := by
                   have h1 := formB_true.1 Hv3.out
                   refine ⟨fun h => ?_, Hv1.out, Hv2.out, h1.1, h1.2⟩
                   have := Hn1.out
                   rw [h] at this
                   simp at this
                   omega
                  have HB3 := zH hB3
                  have hbw := zH (Below.next hb0 hB3)
                  clear hb1 hb2 hb3 hB1 hB2 hB3 HBA Pb Hv1 Hv2 Hv3
                  go_wp2
                  have hca := @cell_after w3
                  have hkc : k ≤ c := by omega
                  have z3 := (E1.out.below hbw.out).cell
                  refine wp_region_later (by kernel_rfl) (by kernel_rfl) ?_
                  rcases Nat.eq_zero_or_pos k with hk0 | hk0
                  · have g0 : decide (0 < k) = false := by simp [hk0]
                    have HK0 := zH hk0
                    clear hk0
                    repeat (go_big_quiet_step (fail))
                    refine wpQuiet_nil ?_
                    intro w4 hb4
                    have z4 := (E1.out.below (Below.next hbw.out hb4)).cell
                    have HB4 := zH hb4
                    clear hca z3 y3 hb4 g0
                    go_wp2
                    go_loopw [80] (fun i wr' => i = .int .i64 0 ∧ Below w4.heap.size w4 wr') (fun _ _ => 0)
                    case atStart => exact ⟨rfl, Below.refl _ _⟩
                    case round =>
                     obtain ⟨rfl, hb5⟩ := hrel
                     have g5 : decide (0 < k) = false := by have := HK0.out; simp; omega
                     go_wp2
                     go_roundw
                     case rel =>
                      refine ⟨k + 1, by omega, by go_num, ?_, Below.next (Below.next hbw.out HB4.out) hb5⟩
                      show GoodTo _ _
                      rw [take_snoc' HP.out]
                      refine hinv.out.snoc Hpo.out fun q hq => ?_
                      rw [HK0.out] at hq
                      simp at hq
                     case measure => simp [intOf]; omega
                  · have g0 : decide (0 < k) = true := by simp [hk0]
                    obtain ⟨b6, o6, pp, B1, m1, d1, x2, f2, B2, m2, d2, hA6, hpp, hppt⟩ := (HR.out.keep (keeps_of hb)).at (show k - 1 < n by omega)
                    obtain ⟨rfl, rfl⟩ : b1 = b6 ∧ o1 = o6 := by injection hA6 with h; injection h with h1 h2; exact ⟨h1, h2⟩
                    have hpp3 := hppt.keep (keeps_of HB3.out)
                    have Hpk : Hid (PtOk d pp) := hinv.out.1 pp (List.mem_of_getElem? (i := k - 1) (by rw [List.getElem?_take, if_pos (by omega)]; exact hpp))
                    have hm1 : 0 < m1 := by
                     have h1 := hpp3.vs.len
                     have h2 := Hpk.out.1
                     rcases Nat.eq_zero_or_pos m1 with h | h
                     · exact absurd (List.eq_nil_of_length_eq_zero (by omega)) h2
                     · exact h
                    obtain ⟨b7, o7, u, rfl, hlu, hu⟩ := lo_at hpp3.vs hm1
                    obtain ⟨b8, o8, v, rfl, hlv, hv⟩ := lo_at (PV.out.keep (keeps_of HB3.out)) hn0'
                    obtain ⟨q0, _, _, _, _, _, _⟩ := hpp3
                    obtain ⟨⟨uk, ui, ut⟩, u', uo⟩ := u
                    obtain ⟨⟨vk, vi, vt⟩, v', vo⟩ := v
                    obtain ⟨u0, u1, u2⟩ := hu
                    obtain ⟨v0, v1, v2⟩ := hv
                    dsimp only at hlu hlv u0 u1 u2 v0 v1 v2
                    have HLU := zH hlu
                    have HLV := zH hlv
                    have HPP := zH hpp
                    have HPPT := zH hppt
                    clear hlu hlv hpp hA6 hppt
                    obtain ⟨cv, Hcv⟩ : ∃ t, Hid (cmpV ⟨uk, ui, ut⟩ ⟨vk, vi, vt⟩ = t) := ⟨_, rfl⟩
                    repeat (go_big_quiet_step (first | (go_at_call 93; exact later_of (compare_any ⟨_, _, _⟩ ⟨_, _, _⟩ _))))
                    refine wpQuiet_nil ?_
                    intro w4 hb4
                    rw [Hcv.out]
                    have z4 := (E1.out.below (Below.next hbw.out hb4)).cell
                    have HB4 := zH (Below.next HB3.out hb4)
                    have Y4 := zH (Y3.out.below hb4)
                    clear hca z3 y3 hb4 g0 q0 u0 u1 u2 v0 v1 v2 Y3 HB3
                    rcases Int.lt_or_le cv 0 with hc0 | hc0
                    · have g5 : decide (0 ≤ cv) = false := by simp; omega
                      rw [g5]
                      have PV4 := zH (PV.out.keep (keeps_of HB4.out))
                      have PR4 := zH (PR.out.keep (keeps_of HB4.out))
                      have Hfit := zH Hpo.out.2.2.2.2
                      go_wp2
                      go_loopw [80] (fun i wr' => ∃ j : Nat, j ≤ k ∧ i = .int .i64 (j : Int) ∧ Hid (∀ q ∈ r.parts.take j, disj q.1 p.1 ∧ q.2 ≠ p.2) ∧ Below w4.heap.size w4 wr') (fun i _ => k - (intOf i).toNat)
                      case atStart => exact ⟨0, by omega, rfl, (by show ∀ q ∈ _, _; simp), Below.refl _ _⟩
                      case round =>
                       obtain ⟨j, hj, rfl, hinv2, hb5⟩ := hrel
                       have hb5' := Below.next HB4.out hb5
                       by_cases hjk : j < k
                       · obtain ⟨b9, o9, q, C1, l1, e1, x3, f3, C2, l2, e2, hA9, hq, hqt⟩ := (HR.out.keep (keeps_of (Below.next hb hb5'))).at (show j < n by omega)
                         obtain ⟨rfl, rfl⟩ : b1 = b9 ∧ o1 = o9 := by injection hA9 with h; injection h with h1 h2; exact ⟨h1, h2⟩
                         have Hqo : Hid (PtOk d q) := hinv.out.1 q (List.mem_of_getElem? (i := j) (by rw [List.getElem?_take, if_pos (by omega)]; exact hq))
                         have hqs := size_at hq
                         obtain ⟨q0, q1, q2, q3, qok, qvs, qrg⟩ := hqt
                         have QV := zH qvs
                         have QR := zH qrg
                         have HQ := zH hq
                         have hy5 := Y4.out.below hb5
                         have hl5 := hy5.lt
                         have Y5 := zH (hy5.alloc (.cells #[.slice C1 l1 e1, .int .i64 x3, .bool f3, .slice C2 l2 e2] 141))
                         have y5 := Y5.out.cell
                         have Q5 := zH (Blk.new wr 141 #[.slice C1 l1 e1, .int .i64 x3, .bool f3, .slice C2 l2 e2])
                         have hba5 : Below wr.heap.size wr (wr.alloc (.cells #[.slice C1 l1 e1, .int .i64 x3, .bool f3, .slice C2 l2 e2] 141)) := (Below.refl _ _).alloc (Nat.le_refl _) _
                         have HB5 := zH (Below.next hb5 hba5)
                         have HBA5 := zH hba5
                         clear hq qok qvs qrg hA9 hy5 hba5
                         go_wp2_with fail
                         refine (intersect_any C1 (some ⟨b8, o8, none⟩) l1 n1 e1 c1 q.1 p.1 _ (QV.out.keep (keeps_of HBA5.out)) (PV4.out.keep (keeps_of HB5.out))).mono ?_
                         rintro e w6 ⟨A6, c6, rfl, hS6, hb6⟩
                         have HM := zH (meet_iff Hqo.out.2.1 Hpo.out.2.1)
                         obtain ⟨rr, Hrr⟩ : ∃ t, Hid (combineL opI q.1 p.1 = t) := ⟨_, rfl⟩
                         rw [Hrr.out] at hS6 HM
                         rw [Hrr.out]
                         obtain ⟨rl, re⟩ := rr
                         dsimp only at hS6
                         dsimp only at HM
                         have Y6 := (Y5.out.below hb6).cell
                         have Q6 := (Q5.out.below hb6).cell
                         have HB6x := zH hb6
                         have HB6 := zH (Below.next HB5.out hb6)
                         clear y5 q0 q1 q2 q3 hS6 hb6
                         have HBR := zH (Below.next hb (Below.next HB4.out HB6.out))
                         by_cases hre : re = 0
                         · have g6 : (re != 0) = false := by simp [hre]
                           have HRE := zH hre
                           clear hre
                           by_cases hrl : rl.length = 0
                           · have g7 : decide (0 < rl.length) = false := by simp [List.eq_nil_of_length_eq_zero hrl]
                             have Hdj : Hid (disj q.1 p.1) := HM.out.1 ⟨HRE.out, hrl⟩
                             clear hrl
                             go_wp2_with fail
                             refine (rsame_any q.2 x3 f3 C2 l2 e2 x1 f1 A2 n2 c2 p.2 _ (QR.out.keep ((keeps_of HBA5.out).trans (keeps_of HB6x.out))) (PR4.out.keep (keeps_of HB6.out)) (by omega) Hqo.out.2.2.2.2).mono ?_
                             rintro e w7 ⟨rfl, hb7⟩
                             obtain ⟨sm, Hsm⟩ : ∃ t, Hid (decide (q.2 = p.2) = t) := ⟨_, rfl⟩
                             rw [Hsm.out]
                             clear Y6 Q6
                             cases sm
                             · go_wp2
                               go_roundw
                               case rel =>
                                refine ⟨j + 1, by omega, by go_num, ?_, Below.next HB6.out hb7⟩
                                show ∀ s ∈ _, _
                                rw [take_snoc' HQ.out]
                                intro s hs
                                rcases List.mem_append.1 hs with hs | hs
                                · exact hinv2.out s hs
                                · have : s = q := by simpa using hs
                                  rw [this]
                                  exact ⟨Hdj.out, by simpa using Hsm.out⟩
                               case measure => simp [intOf]; omega
                             · have Hno : Hid (¬ FormF (d + 1) r) := zH fun h => (rel_at h hjk HQ.out HP.out).2.2 (by simpa using Hsm.out)
                               go_wp2
                               go_ret
                               exact ⟨ret_bool (formB_false Hno.out).symm, Below.next HBR.out hb7⟩
                           · have g7 : decide (0 < rl.length) = true := by simp only [decide_eq_true_eq]; omega
                             have Hno : Hid (¬ FormF (d + 1) r) := zH fun h => hrl (HM.out.2 (rel_at h hjk HQ.out HP.out).2.1).2
                             clear hrl
                             go_wp2
                             go_ret
                             exact ⟨ret_bool (formB_false Hno.out).symm, HBR.out⟩
                         · have g6 : (re != 0) = true := by simp [hre]
                           have Hno : Hid (¬ FormF (d + 1) r) := zH fun h => hre (HM.out.2 (rel_at h hjk HQ.out HP.out).2.1).1
                           clear hre
                           go_wp2
                           go_ret
                           exact ⟨ret_bool (formB_false Hno.out).symm, HBR.out⟩
                       · go_wp2
                         go_roundw
                         case rel =>
                          refine ⟨k + 1, by omega, by go_num, ?_, Below.next hb0 hb5'⟩
                          show GoodTo _ _
                          have hkj : j = k := by omega
                          have h2 := hinv2.out
                          rw [hkj] at h2
                          rw [take_snoc' HP.out]
                          refine hinv.out.snoc Hpo.out fun q hq => ⟨?_, h2 q hq⟩
                          have h3 := lo_take (k := k - 1) (p := p) (by rw [Nat.sub_add_cancel hk0]; exact hinv.out) HPP.out (by rw [HLU.out, HLV.out, Hcv.out]; exact hc0)
                          rw [Nat.sub_add_cancel hk0] at h3
                          exact h3 q hq
                         case measure => simp [intOf]; omega
                    · have g5 : decide (0 ≤ cv) = true := by simp; omega
                      have Hno : Hid (¬ FormF (d + 1) r) := zH fun h => by
                       have := (rel_at h (show k - 1 < k by omega) HPP.out HP.out).1
                       rw [HLU.out, HLV.out, Hcv.out] at this
                       omega
                      go_wp2
                      go_ret
                      exact ⟨ret_bool (formB_false Hno.out).symm, Below.next hb HB4.out⟩
              · have Hno : Hid (¬ PtOk d p) := zH fun h => by have h1 := h.2.2.1; rw [Hv2.out] at h1; cases h1
                go_wp2
                go_ret
                exact ⟨ret_bool (formB_false (not_ptok HP.out Hno.out)).symm, Below.next hb hB2⟩
        · go_wp2
          go_ret
          refine ⟨ret_bool ?_, hb⟩
          have h1 := hinv.out
          rw [List.take_of_length_le (by rw [len_parts]; have := HR.out.len; omega)] at h1
          exact (formB_true.2 (HF.out.2 h1)).symm
     · rw [formB_false (fun h => by have := ((formF_succ d r).1 h).2.1; rw [hR.hf] at this; cases this)]
       have g1 : (x != ((d + 1 : Nat) : Int)) = false := by simp [hx]
       have g2 : (((d + 1 : Nat) : Int) == 0) = false := by simp; omega
       generalize ((d + 1 : Nat) : Int) = dd at *
       clear ih hR hx
       go_enter Tryz.func158, Tryz.ntmps158
       go_wp2
       go_ret
       exact ⟨rfl, hB0⟩
   · rw [formB_false (fun h => hx (by rw [← hR.hw]; exact ((formF_succ d r).1 h).1))]
     have g1 : (x != ((d + 1 : Nat) : Int)) = true := by simp only [bne_iff_ne]; exact hx
     generalize ((d + 1 : Nat) : Int) = dd at *
     clear ih hR hx
     go_enter Tryz.func158, Tryz.ntmps158
     go_wp2
     go_ret
     exact ⟨rfl, hB0⟩
def OkR (r : Rg) : Prop := 0 ≤ r.w ∧ r.w ≤ 12 ∧ r.size ≤ 64 ∧ FormF r.w.toNat r
open Classical in
noncomputable def okB (r : Rg) : Bool := decide (OkR r)
theorem okB_true {r : Rg} : okB r = true ↔ OkR r := by simp [okB]
theorem okB_false {r : Rg} (h : ¬ OkR r) : okB r = false := by simp [okB, h]
set_option maxHeartbeats 1000000 in
theorem rvalidR_any (r : Rg) (x : Int) (f : Bool) (A : Option Addr) (n c : Nat) (w : World) (hR : RgS w x f A n c r) :
 Calls Tryz.prog 94 #[.agg #[.int .i64 x, .bool f, .slice A n c]] w fun e w' => e = .returned (.bool (okB r)) ∧ Below w.heap.size w w' := by
 have hx := hR.hw
 have HR := zH hR
 have HX := zH hx
 clear hR hx
 have E0 := zH (Blk.new w 71 #[.int .i64 x, .bool f, .slice A n c])
 have hB0 : Below w.heap.size w (w.alloc (.cells #[.int .i64 x, .bool f, .slice A n c] 71)) := (Below.refl _ _).alloc (Nat.le_refl _) _
 have HB0 := zH hB0
 clear hB0
 have HB1 := zH ((HB0.out).alloc (by simp) (.cells #[.int .i64 64] 3))
 rcases Int.lt_or_le x 0 with h0 | h0
 · rw [okB_false (fun h => by have h1 := h.1; rw [HX.out] at h1; omega)]
   have g1 : decide (0 ≤ x) = false := by simp; omega
   go_enter Tryz.func94, Tryz.ntmps94
   go_wp2
   go_ret
   exact ⟨rfl, HB1.out⟩
 · have g1 : decide (0 ≤ x) = true := by simp; omega
   rcases Int.lt_or_le 12 x with h1 | h1
   · rw [okB_false (fun h => by have h2 := h.2.1; rw [HX.out] at h2; omega)]
     have g2 : decide (x ≤ 12) = false := by simp; omega
     go_enter Tryz.func94, Tryz.ntmps94
     go_wp2
     go_ret
     exact ⟨rfl, HB1.out⟩
   · have g2 : decide (x ≤ 12) = true := by simp; omega
     have hfew := few_any (w.alloc (.cells #[.int .i64 x, .bool f, .slice A n c] 71)) (w.heap.size + 1) (by simp) r x f A n c 64 ((w.alloc (.cells #[.int .i64 x, .bool f, .slice A n c] 71)).alloc (.cells #[.int .i64 64] 3)) (HR.out.keep (keeps_alloc _ _)) (by omega) ((Below.refl _ _).alloc (Nat.le_refl _) _) (by
      have := Blk.new (w.alloc (.cells #[.int .i64 x, .bool f, .slice A n c] 71)) 3 #[.int .i64 64]
      rw [World.size_alloc] at this
      exact this)
     have HFEW := zH hfew
     clear hfew
     go_enter Tryz.func94, Tryz.ntmps94
     go_wp2_with fail
     refine HFEW.out.mono ?_
     rintro e w1 ⟨rfl, hb1, _⟩
     have hz := (E0.out.below hb1).cell
     have hB2 := Below.next HB0.out hb1
     by_cases hs : r.size ≤ 64
     · have g3 : decide (r.size ≤ 64) = true := by simp [hs]
       rw [g3]
       obtain ⟨d, rfl⟩ := Int.eq_ofNat_of_zero_le h0
       go_wp2_with fail
       refine (formed_any d r _ f A n c _ (HR.out.keep (keeps_of hB2)) hs (by omega)).mono ?_
       rintro e w2 ⟨rfl, hb2⟩
       go_wp2
       go_ret
       refine ⟨ret_bool ?_, Below.next hB2 hb2⟩
       rw [Bool.eq_iff_iff, okB_true, formB_true]
       unfold OkR
       rw [HX.out]
       constructor
       · intro h; exact ⟨h0, h1, hs, h⟩
       · intro h; exact h.2.2.2
     · have g3 : decide (r.size ≤ 64) = false := by simp; omega
       rw [g3]
       have Hno := zH (okB_false (fun h => hs h.2.2.1))
       go_wp2
       go_ret
       exact ⟨ret_bool Hno.out.symm, hB2⟩
def RgRes (w : World) (r : Rg) (er : Int) (e : Ending) (w' : World) : Prop :=
 ∃ (x : Int) (f : Bool) (A : Option Addr) (n c : Nat), e = .returned (.tuple #[.agg #[.int .i64 x, .bool f, .slice A n c], .int .i64 er]) ∧ RgS w' x f A n c r ∧ Below w.heap.size w w'
def zeroR : Rg := .nil 0 false
theorem emptyR_any (x : Int) (w : World) : Calls Tryz.prog 83 #[.int .i64 x] w fun e w' => RgRes w (if 0 ≤ x ∧ x ≤ 12 then .nil x false else zeroR) (if 0 ≤ x ∧ x ≤ 12 then 0 else 1) e w' := by
 have hB0 : ∀ v : Value, Below w.heap.size w (w.alloc (.cells #[v, .bool false, .slice none 0 0] 71)) := fun v => (Below.refl _ _).alloc (Nat.le_refl _) _
 rcases Int.lt_or_le x 0 with h0 | h0
 · have g1 : decide (x < 0) = true := by simp; omega
   rw [if_neg (by omega), if_neg (by omega)]
   go_enter Tryz.func83, Tryz.ntmps83
   go_wp2
   refine bodyPost_ret (v := .tuple #[.agg #[.int .i64 0, .bool false, .slice none 0 0], .int .i64 1]) (by simp [results, Tryz.results83, go_sem]) rfl ⟨0, false, none, 0, 0, rfl, RgS.nil _ _, ?_⟩
   repeat (first | exact Below.refl _ _ | refine Below.setCell ?_ (by simp) _ | refine Below.alloc ?_ (by simp) _)
 · have g1 : decide (x < 0) = false := by simp; omega
   rcases Int.lt_or_le 12 x with h1 | h1
   · have g2 : decide (12 < x) = true := by simp; omega
     rw [if_neg (by omega), if_neg (by omega)]
     go_enter Tryz.func83, Tryz.ntmps83
     go_wp2
     refine bodyPost_ret (v := .tuple #[.agg #[.int .i64 0, .bool false, .slice none 0 0], .int .i64 1]) (by simp [results, Tryz.results83, go_sem]) rfl ⟨0, false, none, 0, 0, rfl, RgS.nil _ _, ?_⟩
     repeat (first | exact Below.refl _ _ | refine Below.setCell ?_ (by simp) _ | refine Below.alloc ?_ (by simp) _)
   · have g2 : decide (12 < x) = false := by simp; omega
     rw [if_pos ⟨h0, h1⟩, if_pos ⟨h0, h1⟩]
     go_enter Tryz.func83, Tryz.ntmps83
     go_wp2
     refine bodyPost_ret (v := .tuple #[.agg #[.int .i64 x, .bool false, .slice none 0 0], .int .i64 0]) (by simp [results, Tryz.results83, go_sem]) rfl ⟨x, false, none, 0, 0, rfl, RgS.nil _ _, ?_⟩
     repeat (first | exact Below.refl _ _ | refine Below.setCell ?_ (by simp) _ | refine Below.alloc ?_ (by simp) _)
end Go.Proofs.YtnnmlhmffnfjfaaGreat
