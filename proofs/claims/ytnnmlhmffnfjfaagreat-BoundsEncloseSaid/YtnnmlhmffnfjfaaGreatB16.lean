/-
  Texts: Oper, Sm, GHas, Graft, FA, FSame, FForm, FValid, RegionR, FHas, FMem, FCopy, FStep, Join2, FComb0, FComb, FBox.
-/
import Derived.Test.YtnnmlhmffnfjfaaGreatB15
import Derived.Deep.Cut
import Derived.Deep.CutBlock
set_option linter.unusedVariables false
set_option maxRecDepth 100000
namespace Go.Proofs.YtnnmlhmffnfjfaaGreat
open Go.RowKit
open Rg
noncomputable def opErr (op : Bool → Bool → Bool) (a b : Rg) : Int := if okB a && okB b && decide (a.w = b.w) then (if (comb op a.w.toNat a b).size ≤ 64 ∧ (comb op a.w.toNat a b).fits = true then 0 else 2) else 40
noncomputable def opRes (op : Bool → Bool → Bool) (a b : Rg) : Rg := if opErr op a b = 0 then comb op a.w.toNat a b else zeroR
theorem RgRes.zero {w w' : World} {er : Int} (hb : Below w.heap.size w w') : RgRes w zeroR er (.returned (.tuple #[.agg #[.int .i64 0, .bool false, .slice none 0 0], .int .i64 er])) w' := ⟨0, false, none, 0, 0, rfl, RgS.nil _ _, hb⟩
theorem ok_form {a : Rg} (h : OkR a) : Form a.w.toNat a ∧ within a := ⟨h.2.2.2.1, h.2.2.1, h.2.2.2.2⟩
set_option maxHeartbeats 2000000 in
theorem operate_any (tb tl tr : Bool) (a : Rg) (xa : Int) (fa : Bool) (Aa : Option Addr) (na ca : Nat) (b : Rg) (xb : Int) (fb : Bool) (Ab : Option Addr) (nb cb : Nat) (w : World) (hA : RgS w xa fa Aa na ca a) (hB : RgS w xb fb Ab nb cb b) (wA : WfR a) (wB : WfR b) :
 Calls Tryz.prog 96 #[.agg #[.int .i64 xa, .bool fa, .slice Aa na ca], .agg #[.int .i64 xb, .bool fb, .slice Ab nb cb], .agg #[.bool tb, .bool tl, .bool tr]] w fun e w' => RgRes w (opRes (ofT tb tl tr) a b) (opErr (ofT tb tl tr) a b) e w' := by
 obtain ⟨er, Her⟩ : ∃ z, Hid (opErr (ofT tb tl tr) a b = z) := ⟨_, rfl⟩
 obtain ⟨rr, Hrr⟩ : ∃ z, Hid (opRes (ofT tb tl tr) a b = z) := ⟨_, rfl⟩
 rw [Her.out, Hrr.out]
 have Hz : er ≠ 0 → rr = zeroR := fun h => by rw [← Hrr.out, opRes, if_neg (by rw [Her.out]; exact h)]
 have HZ := zH Hz
 have HA := zH hA
 have HB := zH hB
 have HW := zH (And.intro wA wB)
 have hxa := hA.hw
 have hxb := hB.hw
 clear hA hB wA wB Hz
 obtain ⟨W0, HW0⟩ : ∃ W : World, Hid ((((w.alloc (.cells #[.int .i64 xa, .bool fa, .slice Aa na ca] 71)).alloc (.cells #[.int .i64 xb, .bool fb, .slice Ab nb cb] 71)).alloc (.cells #[.bool tb, .bool tl, .bool tr] 153)).alloc (.cells #[.int .i64 0, .bool false, .slice none 0 0] 71) = W) := ⟨_, rfl⟩
 have HC : Hid (Blk W0 w.heap.size 71 #[.int .i64 xa, .bool fa, .slice Aa na ca] ∧ Blk W0 (w.heap.size + 1) 71 #[.int .i64 xb, .bool fb, .slice Ab nb cb] ∧ Blk W0 (w.heap.size + 2) 153 #[.bool tb, .bool tl, .bool tr] ∧ Blk W0 (w.heap.size + 3) 71 #[.int .i64 0, .bool false, .slice none 0 0]) := by
  rw [← HW0.out]
  exact zH ⟨(((Blk.step rfl).alloc _).alloc _).alloc _, ((Blk.step (by simp)).alloc _).alloc _, (Blk.step (by simp)).alloc _, Blk.step (by simp)⟩
 have HB0 : Hid (Below w.heap.size w W0) := by
  rw [← HW0.out]
  exact zH (((((Below.refl _ _).alloc (Nat.le_refl _) _).alloc (by simp) _).alloc (by simp; omega) _).alloc (by simp; omega) _)
 obtain ⟨va, Hva⟩ : ∃ t, Hid (okB a = t) := ⟨_, rfl⟩
 obtain ⟨vb, Hvb⟩ : ∃ t, Hid (okB b = t) := ⟨_, rfl⟩
 go_enter Tryz.func96, Tryz.ntmps96
 go_wp2_with fail
 rw [HW0.out]
 refine (rvalidR_any a xa fa Aa na ca _ (HA.out.keep (keeps_of HB0.out))).mono ?_
 rintro e w1 ⟨rfl, hb1⟩
 rw [Hva.out]
 have HC1 := zH (And.intro (HC.out.1.below hb1) (And.intro (HC.out.2.1.below hb1) (And.intro (HC.out.2.2.1.below hb1) (HC.out.2.2.2.below hb1))))
 have HB1 := zH (Below.next HB0.out hb1)
 clear hb1 HC HB0
 have z3 := HC1.out.2.2.2.cell
 obtain ⟨ff1, ff2, ff3⟩ := put3R_free HC1.out.2.2.2 (.int .i64 0) (.bool false)
 cases va
 · have y3 := (put3R_blk (a' := .int .i64 0) (b' := .bool false) (c' := .slice none 0 0) HC1.out.2.2.2).cell
   have y1 := (HC1.out.2.2.2.set_ 0 (.int .i64 0)).cell
   have y2 := ((HC1.out.2.2.2.set_ 0 (.int .i64 0)).set_ 1 (.bool false)).cell
   have HBr := zH (put3R_below HB1.out (show w.heap.size ≤ w.heap.size + 3 by omega) (.int .i64 0) (.bool false) (.slice none 0 0))
   have e1 : er = 40 := by rw [← Her.out]; simp [opErr, Hva.out]
   have e2 := HZ.out (by omega)
   subst e1 e2
   unfold put3R at y3
   go_wp2
   exact bodyPost_ret (v := .tuple #[.agg #[.int .i64 0, .bool false, .slice none 0 0], .int .i64 40]) (by simp [results, Tryz.results96, go_sem, y3]) rfl (RgRes.zero HBr.out)
 · have z2 := HC1.out.2.1.cell
   clear ff1 ff2 ff3 z3
   go_wp2_with fail
   refine (rvalidR_any b xb fb Ab nb cb _ (HB.out.keep (keeps_of HB1.out))).mono ?_
   rintro e w2 ⟨rfl, hb2⟩
   rw [Hvb.out]
   have HC2 := zH (And.intro (HC1.out.1.below hb2) (And.intro (HC1.out.2.1.below hb2) (And.intro (HC1.out.2.2.1.below hb2) (HC1.out.2.2.2.below hb2))))
   have HB2 := zH (Below.next HB1.out hb2)
   clear hb2 HC1 HB1 z2
   have z1 := HC2.out.1.cell
   have z2 := HC2.out.2.1.cell
   have z3 := HC2.out.2.2.2.cell
   obtain ⟨ff1, ff2, ff3⟩ := put3R_free HC2.out.2.2.2 (.int .i64 0) (.bool false)
   have bad : ∀ (h : er = 40), rr = zeroR := fun h => HZ.out (by omega)
   have BAD := zH bad
   clear bad
   have y3 := (put3R_blk (a' := .int .i64 0) (b' := .bool false) (c' := .slice none 0 0) HC2.out.2.2.2).cell
   have y1 := (HC2.out.2.2.2.set_ 0 (.int .i64 0)).cell
   have y2 := ((HC2.out.2.2.2.set_ 0 (.int .i64 0)).set_ 1 (.bool false)).cell
   have HBr := zH (put3R_below HB2.out (show w.heap.size ≤ w.heap.size + 3 by omega) (.int .i64 0) (.bool false) (.slice none 0 0))
   unfold put3R at y3
   cases vb
   · have e1 : er = 40 := by rw [← Her.out]; simp [opErr, Hvb.out]
     have e2 := BAD.out e1
     subst e1 e2
     go_wp2
     exact bodyPost_ret (v := .tuple #[.agg #[.int .i64 0, .bool false, .slice none 0 0], .int .i64 40]) (by simp [results, Tryz.results96, go_sem, y3]) rfl (RgRes.zero HBr.out)
   · by_cases hw : xa = xb
     · have g1 : (xa != xb) = false := by simp [hw]
       have HWW := zH hw
       have z5 := HC2.out.2.2.1.cell
       have oka := ok_form (okB_true.1 Hva.out)
       have okb := ok_form (okB_true.1 Hvb.out)
       have hn12 : a.w.toNat ≤ 12 := by have := (okB_true.1 Hva.out).2.1; omega
       have hwb : b.w.toNat = a.w.toNat := by rw [hxa, hxb, hw]
       rw [hwb] at okb
       have HOA := zH oka
       have HOB := zH okb
       clear hw oka okb hwb y1 y2 y3 HBr ff1 ff2 ff3 z3 hxa hxb
       go_wp2_with fail
       refine (comb_any tb tl tr a.w.toNat hn12 a b xa fa Aa na ca xb fb Ab nb cb _ (HA.out.keep (keeps_of HB2.out)) (HB.out.keep (keeps_of HB2.out)) HOA.out.1 HOB.out.1 HW.out.1 HW.out.2 HOA.out.2 HOB.out.2).mono ?_
       rintro e w3 ⟨x, f, A, n, c, ok, rfl, hok, hF, hb3⟩
       have HOK := zH hok
       have HF := zH hF
       have HT3 := zH (HC2.out.2.2.2.below hb3)
       have HB3 := zH (Below.next HB2.out hb3)
       have hE : er = if (comb (ofT tb tl tr) a.w.toNat a b).size ≤ 64 ∧ (comb (ofT tb tl tr) a.w.toNat a b).fits = true then 0 else 2 := by
        rw [← Her.out, opErr, Hva.out, Hvb.out, if_pos]
        simp only [Bool.and_true, Bool.true_and, decide_eq_true_eq]
        rw [HA.out.hw, HB.out.hw]
        exact HWW.out
       have HE := zH hE
       have HR3 : Hid (ok = true → RgS (w3.alloc (.cells #[.int .i64 x, .bool f, .slice A n c] 71)) x f A n c (comb (ofT tb tl tr) a.w.toNat a b)) := zH (fun h => (HF.out h).s.keep (keeps_alloc _ _))
       have HT4 := zH (HT3.out.alloc (.cells #[.int .i64 x, .bool f, .slice A n c] 71))
       have HN4 := zH (Blk.new w3 71 #[.int .i64 x, .bool f, .slice A n c])
       have HB4 := zH (HB3.out.alloc HB3.out.size (.cells #[.int .i64 x, .bool f, .slice A n c] 71))
       have hne : ¬ w.heap.size + 3 = w3.heap.size := by have := HT3.out.lt; omega
       clear hok hF hE HC2 HB2 z1 z2 z5 hb3
       go_upto_region 4 with fail
       generalize hW4 : w3.alloc (.cells #[.int .i64 x, .bool f, .slice A n c] 71) = W4 at *
       clear hW4 HF
       have z3 := HT4.out.cell
       cases ok
       · have e1 : er = 2 := by rw [HE.out]; exact if_neg (fun h => by have := HOK.out.2 h; cases this)
         have e2 := HZ.out (by omega)
         subst e1 e2
         obtain ⟨ff1, ff2, ff3⟩ := put3R_free HT4.out (.int .i64 0) (.bool false)
         have y3 := (put3R_blk (a' := .int .i64 0) (b' := .bool false) (c' := .slice none 0 0) HT4.out).cell
         have y1 := (HT4.out.set_ 0 (.int .i64 0)).cell
         have y2 := ((HT4.out.set_ 0 (.int .i64 0)).set_ 1 (.bool false)).cell
         have HBr := zH (put3R_below HB4.out (show w.heap.size ≤ w.heap.size + 3 by omega) (.int .i64 0) (.bool false) (.slice none 0 0))
         unfold put3R at y3
         go_wp2
         exact bodyPost_ret (v := .tuple #[.agg #[.int .i64 0, .bool false, .slice none 0 0], .int .i64 2]) (by simp [results, Tryz.results96, go_sem, y3]) rfl (RgRes.zero HBr.out)
       · have e1 : er = 0 := by rw [HE.out]; exact if_pos (HOK.out.1 rfl)
         have e2 : rr = comb (ofT tb tl tr) a.w.toNat a b := by rw [← Hrr.out, opRes, if_pos (by rw [Her.out]; exact e1)]
         subst e1 e2
         have z4 := HN4.out.cell
         obtain ⟨ff1, ff2, ff3⟩ := put3R_free HT4.out (.int .i64 x) (.bool f)
         have y3 := (put3R_blk (a' := .int .i64 x) (b' := .bool f) (c' := .slice A n c) HT4.out).cell
         have y1 := (HT4.out.set_ 0 (.int .i64 x)).cell
         have y2 := ((HT4.out.set_ 0 (.int .i64 x)).set_ 1 (.bool f)).cell
         have HBr := zH (put3R_below HB4.out (show w.heap.size ≤ w.heap.size + 3 by omega) (.int .i64 x) (.bool f) (.slice A n c))
         have HRr := zH (RgS.off HT4.out (put3R_but _ (w.heap.size + 3) (.int .i64 x) (.bool f) (.slice A n c)) (HR3.out rfl))
         unfold put3R at y3
         go_wp2
         exact bodyPost_ret (v := .tuple #[.agg #[.int .i64 x, .bool f, .slice A n c], .int .i64 0]) (by simp [results, Tryz.results96, go_sem, y3]) rfl ⟨x, f, A, n, c, rfl, HRr.out, HBr.out⟩
     · have g1 : (xa != xb) = true := by simp [hw]
       have e1 : er = 40 := by
        rw [← Her.out]
        simp [opErr, hxa, hxb, hw]
       have e2 := BAD.out e1
       subst e1 e2
       clear hxa hxb
       go_wp2
       exact bodyPost_ret (v := .tuple #[.agg #[.int .i64 0, .bool false, .slice none 0 0], .int .i64 40]) (by simp [results, Tryz.results96, go_sem, y3]) rfl (RgRes.zero HBr.out)
def SmR : Rg → Prop
 | .nil _ _ => True
 | .cons vs rest tail => vs.length ≤ 100000 ∧ rest.len ≤ 100000 ∧ SmR rest ∧ SmR tail
def Sm (r : Rg) : Prop := r.len ≤ 100000 ∧ SmR r
theorem SmR.mem {p : List Iv × Rg} : ∀ {r : Rg}, SmR r → p ∈ r.parts → p.1.length ≤ 100000 ∧ Sm p.2
 | .nil _ _, _, h => by cases h
 | .cons vs rest tail, hs, h => by
   rcases List.mem_cons.1 h with rfl | h
   · exact ⟨hs.1, hs.2.1, hs.2.2.1⟩
   · exact SmR.mem hs.2.2.2 h
theorem SmR.of {w : Int} {f : Bool} : ∀ {L : List (List Iv × Rg)}, (∀ p ∈ L, p.1.length ≤ 100000 ∧ Sm p.2) → SmR (mkR w f L)
 | [], _ => trivial
 | p :: L, h => ⟨(h p List.mem_cons_self).1, (h p List.mem_cons_self).2.1, (h p List.mem_cons_self).2.2, SmR.of fun q hq => h q (List.mem_cons_of_mem _ hq)⟩
theorem len_mk (w : Int) (f : Bool) (L : List (List Iv × Rg)) : (mkR w f L).len = L.length := by rw [← len_parts, parts_mk]
theorem Sm.of {w : Int} {f : Bool} {L : List (List Iv × Rg)} (hl : L.length ≤ 100000) (h : ∀ p ∈ L, p.1.length ≤ 100000 ∧ Sm p.2) : Sm (mkR w f L) := ⟨by rw [len_mk]; exact hl, SmR.of h⟩
theorem Sm.nil (w : Int) (f : Bool) : Sm (.nil w f) := ⟨Nat.zero_le _, trivial⟩
theorem Sm.mem {p : List Iv × Rg} {r : Rg} (h : Sm r) (hp : p ∈ r.parts) : p.1.length ≤ 100000 ∧ Sm p.2 := SmR.mem h.2 hp
def fnd : List (List Iv × Rg) → Vl → Option Rg
 | [], _ => none
 | p :: ps, v => if hasL p.1 v then some p.2 else fnd ps v
def hasF : Rg → List Vl → Bool
 | r, [] => r.f
 | r, v :: l => match fnd r.parts v with
   | none => false
   | some q => hasF q l
noncomputable def hasR (r : Rg) (l : List Vl) : Bool := okB r && decide ((l.length : Int) = r.w) && hasF r l
theorem fnd_step {ps : List (List Iv × Rg)} {k : Nat} {p : List Iv × Rg} {v : Vl} {o : Option Rg} (hp : ps[k]? = some p) (h : fnd (ps.drop k) v = o) : (if hasL p.1 v then some p.2 else fnd (ps.drop (k + 1)) v) = o := by
 rw [drop_at hp] at h
 exact h
theorem hasF_step {r : Rg} {l : List Vl} {k : Nat} {v : Vl} {rr : Bool} (hv : l[k]? = some v) (h : hasF r (l.drop k) = rr) : (match fnd (r.parts.drop 0) v with | none => false | some q => hasF q (l.drop (k + 1))) = rr := by
 rw [drop_at hv] at h
 exact h
set_option maxHeartbeats 4000000 in
theorem ghas_any (r : Rg) (x : Int) (f : Bool) (A : Option Addr) (n c : Nat) (l : List Vl) (B : Option Addr) (m cb : Nat) (w : World) (hR : RgS w x f A n c r) (hV : VlS w B m l) :
 Calls Tryz.prog 38 #[.agg #[.int .i64 x, .bool f, .slice A n c], .slice B m cb] w fun e w' => e = .returned (.bool (hasR r l)) ∧ Below w.heap.size w w' := by
 obtain ⟨rr, Hrr⟩ : ∃ z, Hid (hasR r l = z) := ⟨_, rfl⟩
 rw [Hrr.out]
 have Hxw := zH hR.hw
 have Hlm := zH hV.1
 have HR := zH hR
 have HV := zH hV
 clear hR hV
 obtain ⟨v1, H1⟩ : ∃ z, Hid (okB r = z) := ⟨_, rfl⟩
 go_enter Tryz.func38, Tryz.ntmps38
 go_wp2_with fail
 refine (rvalidR_any r x f A n c _ (HR.out.keep (keeps_alloc _ _))).mono ?_
 rintro e w1 ⟨rfl, hb1⟩
 rw [H1.out]
 have HT := zH ((Blk.new w 71 #[.int .i64 x, .bool f, .slice A n c]).below hb1)
 have HB1 := zH (Below.next ((Below.refl _ _).alloc (Nat.le_refl _) _) hb1)
 clear hb1
 have z := HT.out.cell
 cases v1
 · obtain rfl : rr = false := by rw [← Hrr.out, hasR, H1.out]; rfl
   clear z
   go_wp2
   go_ret
   exact ⟨rfl, HB1.out⟩
 · by_cases hmx : (m : Int) = x
   · have hok1 := okB_true.1 H1.out
     have hm12 : (m : Int) ≤ 12 := by have := hok1.2.1; have := Hxw.out; omega
     have Hsz1 := zH hok1.2.2.1
     clear hok1
     have Hf : Hid (hasF r (l.drop 0) = rr) := zH (by rw [← Hrr.out, hasR, H1.out, decide_eq_true (by rw [Hxw.out, Hlm.out]; exact hmx)]; rfl)
     subst hmx
     have HR1 := zH (HR.out.keep (keeps_of HB1.out))
     clear Hxw Hrr H1 HR
     go_wp2_with fail
     go_loopw [22] (fun i wr => ∃ (k : Nat) (r' : Rg) (x' : Int) (f' : Bool) (A' : Option Addr) (n' c' : Nat), k ≤ m ∧ i = .int .i64 (k : Int) ∧ Hid (hasF r' (l.drop k) = rr) ∧ Hid (Blk wr w.heap.size 71 #[.int .i64 x', .bool f', .slice A' n' c']) ∧ Hid (RgS wr x' f' A' n' c' r') ∧ Hid (Below w.heap.size w wr) ∧ Hid (r'.size ≤ 64)) (fun i _ => m - (intOf i).toNat)
     case atStart => exact ⟨0, r, _, f, A, n, c, by omega, rfl, Hf, HT, HR1, HB1, Hsz1⟩
     case round =>
      obtain ⟨k, r', x', f', A', n', c', hk, rfl, Hq, HTr, HRr, HBr, Hsz⟩ := hrel
      clear z HT HR1 HB1 Hf Hsz1
      have hn64 : n' ≤ 64 := by have := HRr.out.len; have := len_le_size r'; have := Hsz.out; omega
      by_cases hlt : k < m
      · obtain ⟨b, o, ⟨vk, vi, vt⟩, rfl, hv, hc⟩ := (HV.out.keep (keeps_of HBr.out)).at hlt
        have c0 : wr.cell? ⟨b, o + k * 3, none⟩ = some (.int .i64 vk) := hc 0 (.int .i64 vk) rfl
        have c1 : wr.cell? ⟨b, o + k * 3 + 1, none⟩ = some (.int .i64 vi) := hc 1 (.int .i64 vi) rfl
        have c2 : wr.cell? ⟨b, o + k * 3 + 2, none⟩ = some (.string vt) := hc 2 (.string vt) rfl
        have Hst := zH (hasF_step hv Hq.out)
        clear hv hc Hq
        have HX := zH (Blk.new wr 59 #[.int .i64 vk, .int .i64 vi, .string vt])
        have HTx := zH (HTr.out.alloc (.cells #[.int .i64 vk, .int .i64 vi, .string vt] 59))
        have HRx := zH (HRr.out.keep (keeps_alloc wr (.cells #[.int .i64 vk, .int .i64 vi, .string vt] 59)))
        have HBx := zH (HBr.out.alloc HBr.out.size (.cells #[.int .i64 vk, .int .i64 vi, .string vt] 59))
        obtain ⟨X, HXe⟩ : ∃ z, Hid (wr.heap.size = z) := ⟨_, rfl⟩
        rw [HXe.out] at HX
        have Hne := zH (show w.heap.size ≠ X by have := HTr.out.lt; have := HXe.out; omega)
        go_upto_region 7 with fail
        rw [HXe.out]
        generalize hW2 : wr.alloc (.cells #[.int .i64 vk, .int .i64 vi, .string vt] 59) = w2 at *
        clear hW2 HTr HRr HBr c0 c1 c2
        have z := HTx.out.cell
        obtain ⟨fo, Hfo⟩ : ∃ z, Hid (fnd (r'.parts.drop 0) ⟨vk, vi, vt⟩ = z) := ⟨_, rfl⟩
        rw [Hfo.out] at Hst
        go_wp2_with fail
        go_loopw [29, 7] (fun j t wr => ∃ (q : Nat), q ≤ n' ∧ j = .int .i64 (q : Int) ∧ t = .int .i64 (-1) ∧ Hid (fnd (r'.parts.drop q) ⟨vk, vi, vt⟩ = fo) ∧ Hid (Below w2.heap.size w2 wr)) (fun j _ _ => n' - (intOf j).toNat)
        case atStart => exact ⟨0, by omega, rfl, rfl, Hfo, zH (Below.refl _ _)⟩
        case round =>
         obtain ⟨q, hq, rfl, rfl, Hfq, HBq⟩ := hrel
         clear z
         by_cases hqn : q < n'
         · obtain ⟨b2, o2, p, A1, n1, c1, px, pf, A2, n2, c2, rfl, hp, hpt⟩ := (HRx.out.keep (keeps_of HBq.out)).at hqn
           have Hs2 := zH (fnd_step hp Hfq.out)
           have Hps := zH (show p.2.size ≤ 64 by have := size_at hp; have := Hsz.out; omega)
           have HPT := zH hpt
           obtain ⟨d0, d1, d2, d3, hok, hvs, hrg⟩ := hpt
           clear hp hok hvs hrg Hfq
           have HX2 := zH ((HX.out.below HBq.out).alloc (.cells #[.slice A1 n1 c1, .int .i64 px, .bool pf, .slice A2 n2 c2] 141))
           have HT2 := zH ((HTx.out.below HBq.out).alloc (.cells #[.slice A1 n1 c1, .int .i64 px, .bool pf, .slice A2 n2 c2] 141))
           have HP2 := zH (HPT.out.keep (keeps_alloc wr (.cells #[.slice A1 n1 c1, .int .i64 px, .bool pf, .slice A2 n2 c2] 141)))
           have HB2 := zH (HBq.out.alloc HBq.out.size (.cells #[.slice A1 n1 c1, .int .i64 px, .bool pf, .slice A2 n2 c2] 141))
           have zx := HX2.out.cell
           go_wp2_with fail
           generalize hW3 : wr.alloc (.cells #[.slice A1 n1 c1, .int .i64 px, .bool pf, .slice A2 n2 c2] 141) = w3 at *
           clear hW3 d0 d1 d2 d3 zx HBq HPT
           refine (has_any A1 n1 c1 p.1 ⟨vk, vi, vt⟩ _ HP2.out.vs).mono ?_
           rintro e w4 ⟨rfl, hb4⟩
           obtain ⟨d, Hd⟩ : ∃ z, Hid (hasL p.1 ⟨vk, vi, vt⟩ = z) := ⟨_, rfl⟩
           rw [Hd.out] at Hs2 ⊢
           have HB4 := zH (Below.next HB2.out hb4)
           cases d
           · go_wp2
             go_roundw
             case rel => exact ⟨q + 1, by omega, by go_num, rfl, zH Hs2.out, HB4⟩
             case measure => simp [intOf]; omega
           · have hfo : some p.2 = fo := Hs2.out
             subst hfo
             have HT4 := zH (HT2.out.below hb4)
             obtain ⟨e0, e1, e2, e3, hok, hvs, hrg⟩ := HP2.out.keep (keeps_of hb4)
             have hpx : p.2.w = px := hrg.hw
             have HRp := zH (RgS.off HT4.out (put3R_but _ w.heap.size (.int .i64 px) (.bool pf) (.slice A2 n2 c2)) hrg)
             have HBp := zH (put3R_below (Below.next HBx.out HB4.out) (Nat.le_refl w.heap.size) (.int .i64 px) (.bool pf) (.slice A2 n2 c2))
             have HTp := zH (put3R_blk (a' := .int .i64 px) (b' := .bool pf) (c' := .slice A2 n2 c2) HT4.out)
             have zr := HT4.out.cell
             obtain ⟨ff1, ff2, ff3⟩ := put3R_free HT4.out (.int .i64 px) (.bool pf)
             have y1 := (HT4.out.set_ 0 (.int .i64 px)).cell
             have y2 := ((HT4.out.set_ 0 (.int .i64 px)).set_ 1 (.bool pf)).cell
             have g1 : decide ((q : Int) < 0) = false := by simp
             clear hok hvs hrg hb4 hpx
             go_wp2
             go_roundw
             case rel => exact ⟨k + 1, p.2, px, pf, A2, n2, c2, by omega, by go_num, zH Hst.out, HTp, HRp, HBp, Hps⟩
             case measure => simp [intOf]; omega
         · have hfo : none = fo := by
            rw [← Hfq.out, List.drop_eq_nil_of_le (by rw [len_parts]; have := HRx.out.len; omega)]
            rfl
           subst hfo
           obtain rfl : false = rr := Hst.out
           go_wp2
           go_ret
           exact ⟨rfl, Below.next HBx.out HBq.out⟩
      · have h1 := Hq.out
        rw [List.drop_eq_nil_of_le (by rw [Hlm.out]; omega)] at h1
        have h2 := HRr.out.hf
        have z := HTr.out.cell
        clear HV Hlm
        go_wp2
        go_ret
        exact ⟨ret_bool (by rw [← h1]; exact h2.symm), HBr.out⟩
   · obtain rfl : rr = false := by rw [← Hrr.out, hasR, H1.out, decide_eq_false (by rw [Hxw.out, Hlm.out]; exact hmx)]; rfl
     have g1 : ((m : Int) != x) = true := by simpa using hmx
     go_wp2
     go_ret
     exact ⟨rfl, HB1.out⟩
noncomputable def eqB (a b : Rg) : Bool := okB a && okB b && decide (a = b)
end Go.Proofs.YtnnmlhmffnfjfaaGreat
namespace Go.Proofs.YtnnmlhmffnfjfaaGreat
open Go.RowKit
structure LaterR (R : World → World → Prop) (w : World) where
 nxt : World
 rel : nxt = w ∨ R w nxt
instance (R : World → World → Prop) (w : World) : Nonempty (LaterR R w) := ⟨⟨w, .inl rfl⟩⟩
instance (R : World → World → Prop) (w : World) : Inhabited (LaterR R w) := ⟨⟨w, .inl rfl⟩⟩
def afterR (R : World → World → Prop) (w : World) (x : LaterR R w) : World := x.nxt
abbrev clsR (R : World → World → Prop) (w : World) : World → Prop := fun W => ∃ x : LaterR R w, W = afterR R w x
theorem clsR_iff {R : World → World → Prop} {w W : World} : clsR R w W ↔ (W = w ∨ R w W) := ⟨fun ⟨x, h⟩ => by rw [h]; exact x.rel, fun h => ⟨⟨W, h⟩, rfl⟩⟩
theorem LaterR.cell {R : World → World → Prop} {w : World} (y : LaterR R w) {a : Addr} {v : Option Value} (h0 : w.cell? a = v) (h : ∀ W, R w W → W.cell? a = v) : (afterR R w y).cell? a = v := by
 rcases y.rel with e | e
 · show y.nxt.cell? a = v
   rw [e]
   exact h0
 · exact h _ e
inductive PlanR where
 | last (qs ws : List Nat)
 | one (qs ws : List Nat) (e : Nat) (t : PlanR)
def PlanR.len : PlanR → Nat
 | .last qs ws => qs.length + ws.length
 | .one qs ws _ t => qs.length + (ws.length + (t.len + 1))
structure Eff (late : List Nat) (R1 R2 : World → World → Prop) (i : Nat) (w w' : World) : Prop where
 r1 : i ∉ late → R1 w w'
 r2 : R2 w w'
def EffC (late : List Nat) (R1 R2 : World → World → Prop) (i : Nat) (w w' : World) : Prop := (i ∉ late → w' = w ∨ R1 w w') ∧ (w' = w ∨ R2 w w')
theorem Eff.c {late : List Nat} {R1 R2 : World → World → Prop} {i : Nat} {w w' : World} (h : Eff late R1 R2 i w w') : EffC late R1 R2 i w w' := ⟨fun hn => .inr (h.r1 hn), .inr h.r2⟩
theorem EffC.refl {late : List Nat} {R1 R2 : World → World → Prop} {i : Nat} {w : World} : EffC late R1 R2 i w w := ⟨fun _ => .inl rfl, .inl rfl⟩
def reach (ops : Array Oper) : Nat → Nat → Nat → Bool
 | 0, _, _ => false
 | n + 1, f, i => match ops[f]? with
   | none => false
   | some o => o.after.any fun e => Region.binds .any e && (e.on == i || reach ops n e.on i)
def Closed (ops : Array Oper) (listed : Array Bool) : Prop := ∀ k o, ops[k]? = some o → listed.getD k true = true → ∀ e ∈ o.after, Region.binds .any e = true → listed.getD e.on false = true
theorem getD_ft {l : Array Bool} {k : Nat} (h : l.getD k false = true) : l.getD k true = true := by
 rw [Array.getD_eq_getD_getElem?] at h ⊢
 cases hk : l[k]? with
 | none => rfl
 | some b => rw [hk] at h; exact h
theorem getD_tf {l : Array Bool} {k : Nat} (h : l.getD k true = false) : l.getD k false = false := by
 rw [Array.getD_eq_getD_getElem?] at h ⊢
 cases hk : l[k]? with
 | none => rfl
 | some b => rw [hk] at h; exact h
theorem getD_more {l : Array Bool} {j k : Nat} (h : l.getD k false = true) : (l.setIfInBounds j true).getD k false = true := by
 by_cases hjk : j = k
 · subst hjk
   rw [Array.getD_eq_getD_getElem?] at h ⊢
   rw [Array.getElem?_setIfInBounds]
   by_cases hj : j < l.size
   · simp [hj]
   · simp [Array.getElem?_eq_none (Nat.le_of_not_lt hj)] at h
 · rw [getD_set_ne false hjk]
   exact h
theorem reach_closed {ops : Array Oper} {listed : Array Bool} (hc : Closed ops listed) : ∀ (n f i : Nat), reach ops n f i = true → ∀ o, ops[f]? = some o → (∀ e ∈ o.after, Region.binds .any e = true → listed.getD e.on false = true) → listed.getD i false = true
 | 0, _, _, h, _, _, _ => by cases h
 | n + 1, f, i, h, o, ho, hall => by
   unfold reach at h
   rw [ho] at h
   simp only [Array.any_eq_true', Bool.and_eq_true, Bool.or_eq_true, beq_iff_eq] at h
   obtain ⟨e, he, hb, h⟩ := h
   rcases h with h | h
   · rw [← h]; exact hall e he hb
   · have h1 := hall e he hb
     cases hk : ops[e.on]? with
     | none => cases n with
       | zero => cases h
       | succ n => unfold reach at h; rw [hk] at h; cases h
     | some o' => exact reach_closed hc n e.on i h o' hk fun e' he' hb' => hc e.on o' hk (getD_ft h1) e' he' hb'
theorem Closed.more {ops : Array Oper} {listed : Array Bool} (hc : Closed ops listed) {j : Nat} {oj : Oper} (hoj : ops[j]? = some oj) (hall : ∀ e ∈ oj.after, Region.binds .any e = true → listed.getD e.on false = true) : Closed ops (listed.setIfInBounds j true) := by
 intro k o ho hk e he hb
 by_cases hjk : j = k
 · subst hjk
   rw [hoj] at ho
   injection ho with ho
   subst ho
   exact getD_more (hall e he hb)
 · rw [getD_set_ne true hjk] at hk
   exact getD_more (hc k o ho hk e he hb)
theorem Closed.start (ops : Array Oper) : Closed ops (Array.replicate ops.size false) := by
 intro k o ho hk
 have hlt : k < ops.size := (Array.getElem?_eq_some_iff.1 ho).1
 rw [Array.getD_eq_getD_getElem?, Array.getElem?_replicate, if_pos hlt] at hk
 cases hk
def lateOk (late : List Nat) (ops : Array Oper) (listed : Array Bool) (i : Nat) : Bool := late.all fun f => listed.getD f true || reach ops ops.size f i
def checkV (late : List Nat) (ops : Array Oper) : List Nat → Array Bool → Option (Array Bool)
 | [], listed => some listed
 | i :: r, listed => if plainAt ops i && (Region.ready .any ops listed).contains i && Region.free .any ops listed i && lateOk late ops listed i then checkV late ops r (listed.setIfInBounds i true) else none
section
variable {P : Program} {ops : Array Oper} {Q : Exit → Act → World → Prop} {md : Region.Mode} {R1 R2 : World → World → Prop} {late : List Nat}
def wpAnyR (late : List Nat) (R1 R2 : World → World → Prop) (P : Program) (md : Region.Mode) (ops : Array Oper) (Q : Exit → Act → World → Prop) : Nat → Array Bool → Act → World → Prop
 | 0, listed, a, w => Region.ready md ops listed = [] ∧ Q .normal a w
 | fuel + 1, listed, a, w =>
   (Region.ready md ops listed = [] → Q .normal a w) ∧
   ∀ i ∈ Region.ready md ops listed, wpOp P ops Q i (fun a' w' => EffC late R1 R2 i w w' ∧ wpAnyR late R1 R2 P md ops Q fuel (listed.setIfInBounds i true) a' w') a w
theorem wpAny_of_R : ∀ (fuel : Nat) (listed : Array Bool) (a : Act) (w : World), wpAnyR late R1 R2 P md ops Q fuel listed a w → wpAny P md ops Q fuel listed a w
 | 0, _, _, _, h => h
 | fuel + 1, _, _, _, h => ⟨h.1, fun i hi => wpOp_mono (fun a' w' h' => wpAny_of_R fuel _ a' w' h'.2) (h.2 i hi)⟩
theorem wpAnyR_first {R : World → World → Prop} (hR : ∀ a b c, R a b → R b c → R a c) (ok : Nat → Prop) (hok : ∀ j w w', ok j → EffC late R1 R2 j w w' → w' = w ∨ R w w')
 {i : Nat} {oi : Oper} {v : Value} (hi : ops[i]? = some oi) (hsel : ∀ (j : Nat) (o : Oper) cs b, ops[j]? = some o → o.op ≠ .select cs b)
 (hQ : ∀ c a w, Q (.panic c) (a.put oi.dst v) w → Q (.panic c) a w) :
 ∀ (fuel : Nat) (listed : Array Bool) (a : Act) (w : World), Closed ops listed →
   (∀ f, ¬ ok f → listed.getD f true = false → reach ops ops.size f i = true) →
   (∀ j oj, ops[j]? = some oj → j ≠ i → listed.getD j true = false → (∀ e ∈ oj.after, Region.binds .any e = true → e.on ≠ i) → oi.apart ops oj = true) →
   i ∈ Region.ready .any ops listed → YieldsIf P ops (fun W => W = w ∨ R w W) oi v a →
   wpAnyR late R1 R2 P .any ops Q fuel (listed.setIfInBounds i true) (a.put oi.dst v) w → wpAnyR late R1 R2 P .any ops Q (fuel + 1) listed a w := by
 intro fuel
 induction fuel with
 | zero =>
   intro listed a w _ _ _ hr hy H
   refine ⟨fun h => (by rw [h] at hr; cases hr), fun j hj => ?_⟩
   by_cases hji : j = i
   · subst hji; exact hy.wpOp hi (.inl rfl) ⟨EffC.refl, H⟩
   · have := ready_mono hj hji
     rw [H.1] at this
     cases this
 | succ fuel ih =>
   intro listed a w hcl hfin hfree hr hy H
   refine ⟨fun h => (by rw [h] at hr; cases hr), fun j hj => ?_⟩
   by_cases hji : j = i
   · subst hji; exact hy.wpOp hi (.inl rfl) ⟨EffC.refl, H⟩
   · have h1 := H.2 j (ready_mono hj hji)
     obtain ⟨hjun, oj, hoj, hall⟩ := mem_ready.1 hj
     have h0 := (mem_ready.1 hr).1
     have hnot : ∀ e ∈ oj.after, Region.binds .any e = true → e.on ≠ i := fun e he hb heq => by
      have h1 := hall e he hb
      rw [heq, getD_tf h0] at h1
      cases h1
     have h2 := wpOp_putIf hoj (hfree j oj hoj hji hjun hnot) (fun cs b => hsel i oi cs b hi) (fun cs b => hsel j oj cs b hoj) hQ hy h1
     have hun' : ∀ k, (listed.setIfInBounds j true).getD k true = false → listed.getD k true = false := fun k hun => by
      by_cases hjk : j = k
      · subst hjk; exact hjun
      · rw [getD_set_ne true hjk] at hun; exact hun
     have hfree' : ∀ k ok, ops[k]? = some ok → k ≠ i → (listed.setIfInBounds j true).getD k true = false →
      (∀ e ∈ ok.after, Region.binds .any e = true → e.on ≠ i) → oi.apart ops ok = true := fun k ok hk hki hun hno => hfree k ok hk hki (hun' k hun) hno
     refine wpOp_mono (fun a' w' h3 => ⟨h3.2.1, ih (listed.setIfInBounds j true) a' w' (hcl.more hoj hall) (fun f hf hu => hfin f hf (hun' f hu)) hfree' (ready_mono hr (Ne.symm hji)) (YieldsIf.shrink (fun W hW => ?_) h3.1) ?_⟩) h2
     · by_cases hj1 : ok j
       · rcases hok j w w' hj1 h3.2.1 with e | e
         · rw [e] at hW; exact hW
         · rcases hW with hW | hW
           · rw [hW]; exact .inr e
           · exact .inr (hR _ _ _ e hW)
       · exfalso
         have h4 := reach_closed hcl ops.size j i (hfin j hj1 hjun) oj hoj hall
         rw [getD_tf h0] at h4
         cases h4
     · rw [Array.setIfInBounds_comm _ _ hji]
       exact h3.2.2
theorem quiet_blockR {R : World → World → Prop} (hR : ∀ a b c, R a b → R b c → R a c) (lt : List Nat) (hok : ∀ j w w', j ∉ lt → EffC late R1 R2 j w w' → w' = w ∨ R w w')
 (hns : Region.noSelect ops = true) (hQ : ∀ c a d v w, Q (.panic c) (Act.put a d v) w → Q (.panic c) a w) {K : Act → Prop} {w : World} {fuel : Nat} {l' : Array Bool}
 (hK : ∀ a, Closed ops l' → K a → wpAnyR late R1 R2 P .any ops Q fuel l' a w) :
 ∀ (qs : List Nat) (listed : Array Bool) (a : Act), Closed ops listed → checkV lt ops qs listed = some l' → wpQuiet P ops (clsR R w) K (pickOps ops qs) a → wpAnyR late R1 R2 P .any ops Q (qs.length + fuel) listed a w
 | [], listed, a, hcl, hc, h => by
   simp only [checkV, Option.some.injEq] at hc
   subst hc
   simp only [List.length_nil, Nat.zero_add]
   exact hK a hcl h
 | i :: r, listed, a, hcl, hc, h => by
   unfold checkV at hc
   split at hc
   · rename_i hcond
     simp only [Bool.and_eq_true] at hcond
     obtain ⟨⟨⟨hp, hr⟩, hf⟩, hd⟩ := hcond
     have hrd : i ∈ Region.ready .any ops listed := by simpa using hr
     have hfin : ∀ f, ¬ f ∉ lt → listed.getD f true = false → reach ops ops.size f i = true := fun f hl hu => by
      have h1 := List.all_eq_true.1 hd f (Decidable.of_not_not hl)
      rw [hu, Bool.false_or] at h1
      exact h1
     cases hi : ops[i]? with
     | none => simp [plainAt, hi] at hp
     | some o =>
       simp only [plainAt, hi] at hp
       have hpick : pickOps ops (i :: r) = o :: pickOps ops r := by simp [pickOps, opAt, hi]
       rw [hpick] at h
       unfold wpQuiet at h
       have hlen : (i :: r).length + fuel = (r.length + fuel) + 1 := by simp; omega
       have hcl' : Closed ops (listed.setIfInBounds i true) := by
        obtain ⟨_, oj, hoj, hall⟩ := mem_ready.1 hrd
        exact hcl.more hoj hall
       rw [hlen]
       by_cases hw : Region.wanted o (yielded ops a.tmps) = true
       · rw [if_pos hw] at h
         obtain ⟨v, h1, h2⟩ := h
         refine wpAnyR_first hR (fun j => j ∉ lt) hok hi (Region.noSelect_spec hns) (fun c a w => hQ c a _ _ w) _ listed a w hcl hfin (Region.free_spec hi hf) hrd (v := v) (.inl ⟨hw, fun W hW => ?_⟩) (quiet_blockR hR lt hok hns hQ hK r _ _ hcl' hc h2)
         have h3 := h1 W (clsR_iff.2 hW)
         have hg := gives_plain o hp a.eval P W
         unfold Oper.quietAt at h3
         generalize (execOp a.eval o).run P W = res at *
         cases res with
         | ok n w' =>
           cases n <;> simp only [Oper.quietUpon] at h3 <;> simp only [gives] at hg
           obtain ⟨e1, e2⟩ := h3
           rw [e1, e2]
         | halt x w' => simp only [Oper.quietUpon] at h3
       · rw [if_neg hw] at h
         exact wpAnyR_first hR (fun j => j ∉ lt) hok hi (Region.noSelect_spec hns) (fun c a w => hQ c a _ _ w) _ listed a w hcl hfin (Region.free_spec hi hf) hrd (v := undef) (.inr ⟨by simpa using hw, rfl⟩) (quiet_blockR hR lt hok hns hQ hK r _ _ hcl' hc h)
   · cases hc
def checkW (late : List Nat) (ops : Array Oper) : PlanR → Array Bool → Bool
 | .last qs ws, listed => match checkV late ops qs listed with
   | some l => match checkV [] ops ws l with
     | some l => (Region.ready .any ops l).isEmpty
     | none => false
   | none => false
 | .one qs ws e t, listed => match checkV late ops qs listed with
   | some l => match checkV [] ops ws l with
     | some l => (Region.ready .any ops l == [e]) && (decide (e < ops.size) && checkW late ops t (l.setIfInBounds e true))
     | none => false
   | none => false
def wpPlanR (late : List Nat) (R1 R2 : World → World → Prop) (P : Program) (ops : Array Oper) (Q : Exit → Act → World → Prop) : PlanR → Act → World → Prop
 | .last qs ws, a, w => wpQuiet P ops (fun W => ∃ x : LaterR R1 w, W = afterR R1 w x) (fun a' => wpQuiet P ops (fun W => ∃ x : LaterR R2 w, W = afterR R2 w x) (fun a' => Q .normal a' w) (pickOps ops ws) a') (pickOps ops qs) a
 | .one qs ws e t, a, w => wpQuiet P ops (fun W => ∃ x : LaterR R1 w, W = afterR R1 w x) (fun a' => wpQuiet P ops (fun W => ∃ x : LaterR R2 w, W = afterR R2 w x) (fun a' => wpList P ops (Exit.then (fun a'' w' => Eff late R1 R2 e w w' ∧ wpPlanR late R1 R2 P ops Q t a'' w') Q) [opAt ops e] a' w) (pickOps ops ws) a') (pickOps ops qs) a
theorem plan_anyR (hR1 : ∀ a b c, R1 a b → R1 b c → R1 a c) (hR2 : ∀ a b c, R2 a b → R2 b c → R2 a c) (hns : Region.noSelect ops = true) (hQ : ∀ c a d v w, Q (.panic c) (Act.put a d v) w → Q (.panic c) a w) :
 ∀ (t : PlanR) (listed : Array Bool) (a : Act) (w : World), Closed ops listed → checkW late ops t listed = true → wpPlanR late R1 R2 P ops Q t a w → wpAnyR late R1 R2 P .any ops Q t.len listed a w
 | .last qs ws, listed, a, w, hcl, hc, h => by
   unfold checkW at hc
   split at hc
   · rename_i l hl
     split at hc
     · rename_i l2 hl2
       refine quiet_blockR hR1 late (fun j w w' hj he => he.1 hj) hns hQ (fuel := ws.length) (fun a' hcl' h' => ?_) qs listed a hcl hl h
       exact quiet_blockR hR2 [] (fun j w w' _ he => he.2) hns hQ (fuel := 0) (fun a' _ h' => ⟨by simpa using hc, h'⟩) ws l a' hcl' hl2 h'
     · cases hc
   · cases hc
 | .one qs ws e t, listed, a, w, hcl, hc, h => by
   unfold checkW at hc
   split at hc
   · rename_i l hl
     split at hc
     · rename_i l2 hl2
       simp only [Bool.and_eq_true, beq_iff_eq, decide_eq_true_eq] at hc
       refine quiet_blockR hR1 late (fun j w w' hj he => he.1 hj) hns hQ (fuel := ws.length + (t.len + 1)) (fun a' hcl' h' => ?_) qs listed a hcl hl h
       refine quiet_blockR hR2 [] (fun j w w' _ he => he.2) hns hQ (fuel := t.len + 1) (fun a' hcl' h' => ?_) ws l a' hcl' hl2 h'
       refine ⟨fun h0 => (by rw [hc.1] at h0; cases h0), fun i hi => ?_⟩
       have hrd := hi
       rw [hc.1] at hi
       have hie : i = e := by simpa using hi
       subst hie
       obtain ⟨_, oj, hoj, hall⟩ := mem_ready.1 hrd
       exact wpOp_mono (fun a'' w' ⟨hb, h''⟩ => ⟨hb.c, plan_anyR hR1 hR2 hns hQ t _ a'' w' (hcl'.more hoj hall) hc.2.2 h''⟩) (op_of_list (at_of_lt hc.2.1) h')
     · cases hc
   · cases hc
theorem wp_region_planR {id : Nat} {a : Act} {w : World} {l : List Oper} (late : List Nat) (R1 R2 : World → World → Prop) (hR1 : ∀ a b c, R1 a b → R1 b c → R1 a c) (hR2 : ∀ a b c, R2 a b → R2 b c → R2 a c) (t : PlanR) (hm : P.follows .mixedOrders = true)
 (hc : (Region.noSelect l.toArray && (checkW late l.toArray t (Array.replicate l.toArray.size false) && decide (t.len = l.toArray.size))) = true)
 (hQ : ∀ c a d v w, Q (.panic c) (Act.put a d v) w → Q (.panic c) a w)
 (h : wpPlanR late R1 R2 P l.toArray Q t a w.drew) : (Code.region id l.toArray true).wp P Q a w := by
 simp only [Bool.and_eq_true, decide_eq_true_eq] at hc
 refine wp_region_any hm ?_
 have h1 := plan_anyR hR1 hR2 hc.1 hQ t _ a _ (Closed.start _) hc.2.1 h
 rw [hc.2.2] at h1
 exact wpAny_of_R _ _ _ _ h1
def anyW (_ _ : World) : Prop := True
theorem anyW_trans : ∀ a b c, anyW a b → anyW b c → anyW a c := fun _ _ _ _ _ => trivial
end
end Go.Proofs.YtnnmlhmffnfjfaaGreat
namespace Go.Proofs.YtnnmlhmffnfjfaaGreat
open Go.RowKit
open Rg
structure KM where
 i : Int
 k : Int
 x : Int
 f : Bool
 A : Option Addr
 n : Nat
 c : Nat
 r : Rg
 lo : Nat
 hi : Nat
def KM.cs (m : KM) : List Value := [.int .i64 m.i, .int .i64 m.k, .int .i64 m.x, .bool m.f, .slice m.A m.n m.c]
theorem KM.cs_len (m : KM) : (KM.cs m).length = 5 := rfl
structure FSt (B : Nat) (w : World) (A : Option Addr) (n c : Nat) (ms : List PM) (Ak : Option Addr) (nk ck : Nat) (ks : List KM) : Prop where
 pt : PartsIn B w A n c ms
 kown : w.ownsRow B 253 5 (.slice Ak nk ck) nk (ks.flatMap KM.cs)
 klen : ks.length = nk
 krg : ∀ m ∈ ks, RgF m.lo m.hi w m.x m.f m.A m.n m.c m.r ∧ B ≤ m.lo ∧ m.hi ≤ w.heap.size
 kfar : ∀ m ∈ ks, ∀ q, m.lo ≤ q → q < m.hi → (Value.slice Ak nk ck).ownBlock ≠ some q ∧ (Value.slice A n c).ownBlock ≠ some q ∧ ∀ m' ∈ ms, m'.vv.ownBlock ≠ some q
 pfar : ∀ m ∈ ms, ∀ q, m.lo ≤ q → q < m.hi → (Value.slice Ak nk ck).ownBlock ≠ some q
section
variable {B : Nat} {w w' : World} {A A' : Option Addr} {n c n' c' : Nat} {ms ms' : List PM} {Ak Ak' : Option Addr} {nk ck nk' ck' : Nat} {ks : List KM}
theorem FSt.below (h : FSt B w A n c ms Ak nk ck ks) (hb : Below w.heap.size w w') : FSt B w' A n c ms Ak nk ck ks :=
 ⟨h.pt.below hb, own_at h.kown fun g _ hlt _ => hb.block g hlt, h.klen, fun m hm => by
  obtain ⟨h1, h2, h3⟩ := h.krg m hm
  exact ⟨h1.keep fun k _ hk => hb.block k (Nat.lt_of_lt_of_le hk h3), h2, Nat.le_trans h3 hb.size⟩, h.kfar, h.pfar⟩
theorem FSt.step (h : FSt B w A n c ms Ak nk ck ks) (hp : PartsIn B w' A' n' c' ms') (hb : But (fun q => (Value.slice A n c).ownBlock = some q ∨ (∃ m ∈ ms, m.vv.ownBlock = some q) ∨ q < B) w w')
 (hlA : ∀ q, (Value.slice A' n' c').ownBlock = some q → (Value.slice A n c).ownBlock = some q ∨ w.heap.size ≤ q)
 (hlV : ∀ m' ∈ ms', ∀ q, m'.vv.ownBlock = some q → (∃ m ∈ ms, m.vv.ownBlock = some q) ∨ w.heap.size ≤ q)
 (hrg : ∀ m' ∈ ms', (∃ m ∈ ms, m.lo = m'.lo ∧ m.hi = m'.hi) ∨ ∀ q, m'.lo ≤ q → q < m'.hi → (Value.slice Ak nk ck).ownBlock ≠ some q) : FSt B w' A' n' c' ms' Ak nk ck ks := by
 refine ⟨hp, own_but h.kown hb fun k hk hs => ?_, h.klen, fun m hm => ?_, fun m hm q h1 h2 => ?_, fun m hm q h1 h2 => ?_⟩
 · rcases hs with hs | ⟨m, hm, hs⟩ | hs
   · exact own_types h.kown h.pt.own (by decide) hk hs
   · exact own_types h.kown (h.pt.ok m hm).own (by decide) hk hs
   · have := (own_lt h.kown hk).1; omega
 · obtain ⟨h1, h2, h3⟩ := h.krg m hm
   refine ⟨h1.keep fun k hk1 hk2 => hb.block k (Nat.lt_of_lt_of_le hk2 h3) fun hs => ?_, h2, Nat.le_trans h3 hb.size⟩
   obtain ⟨_, f2, f3⟩ := h.kfar m hm k hk1 hk2
   rcases hs with hs | ⟨m', hm', hs⟩ | hs
   · exact f2 hs
   · exact f3 m' hm' hs
   · omega
 · obtain ⟨f1, f2, f3⟩ := h.kfar m hm q h1 h2
   have hlt := Nat.lt_of_lt_of_le h2 (h.krg m hm).2.2
   refine ⟨f1, fun hs => ?_, fun m' hm' hs => ?_⟩
   · rcases hlA q hs with e | e
     · exact f2 e
     · omega
   · rcases hlV m' hm' q hs with ⟨m2, hm2, e⟩ | e
     · exact f3 m2 hm2 e
     · omega
 · rcases hrg m hm with ⟨m2, hm2, e1, e2⟩ | hf
   · exact h.pfar m2 hm2 q (by omega) (by omega)
   · exact hf q h1 h2
theorem FSt.known (h : FSt B w A n c ms Ak nk ck ks) {i k x : Int} {f : Bool} {A2 : Option Addr} {n2 c2 lo hi : Nat} {r : Rg}
 (hown : w'.ownsRow B 253 5 (.slice Ak' (nk + 1) ck') (nk + 1) ((ks ++ [KM.mk i k x f A2 n2 c2 r lo hi]).flatMap KM.cs))
 (hb : But (fun q => (Value.slice Ak nk ck).ownBlock = some q) w w') (hloc : ∀ q, (Value.slice Ak' (nk + 1) ck').ownBlock = some q → (Value.slice Ak nk ck).ownBlock = some q ∨ w.heap.size ≤ q)
 (hr : RgF lo hi w x f A2 n2 c2 r) (hlo : B ≤ lo) (hhi : hi ≤ w.heap.size)
 (hfar : ∀ q, lo ≤ q → q < hi → (Value.slice Ak nk ck).ownBlock ≠ some q ∧ (Value.slice A n c).ownBlock ≠ some q ∧ ∀ m ∈ ms, m.vv.ownBlock ≠ some q) :
 FSt B w' A n c ms Ak' (nk + 1) ck' (ks ++ [KM.mk i k x f A2 n2 c2 r lo hi]) := by
 have hkn : ∀ q, (Value.slice Ak nk ck).ownBlock = some q → (Value.slice A n c).ownBlock ≠ some q ∧ ∀ m ∈ ms, m.vv.ownBlock ≠ some q := fun q hq =>
  ⟨own_types h.kown h.pt.own (by decide) hq, fun m hm => own_types h.kown (h.pt.ok m hm).own (by decide) hq⟩
 refine ⟨⟨own_but h.pt.own hb fun q hq hs => (hkn q hs).1 hq, h.pt.len, fun m hm => (h.pt.ok m hm).but hb (fun q hq hs => (hkn q hs).2 m hm hq) (fun q h1 h2 hs => h.pfar m hm q h1 h2 hs), h.pt.apart, h.pt.far⟩, hown, by simp [h.klen], fun m hm => ?_, fun m hm q h1 h2 => ?_, fun m hm q h1 h2 hs => ?_⟩
 · rcases List.mem_append.1 hm with hm | hm
   · obtain ⟨h1, h2, h3⟩ := h.krg m hm
     exact ⟨h1.keep fun q q1 q2 => hb.block q (Nat.lt_of_lt_of_le q2 h3) fun hs => (h.kfar m hm q q1 q2).1 hs, h2, Nat.le_trans h3 hb.size⟩
   · rw [List.mem_singleton] at hm
     subst hm
     exact ⟨hr.keep fun q q1 q2 => hb.block q (Nat.lt_of_lt_of_le q2 hhi) fun hs => (hfar q q1 q2).1 hs, hlo, Nat.le_trans hhi hb.size⟩
 · have key : q < w.heap.size ∧ (Value.slice Ak nk ck).ownBlock ≠ some q ∧ (Value.slice A n c).ownBlock ≠ some q ∧ ∀ m' ∈ ms, m'.vv.ownBlock ≠ some q := by
    rcases List.mem_append.1 hm with hm | hm
    · exact ⟨Nat.lt_of_lt_of_le h2 (h.krg m hm).2.2, h.kfar m hm q h1 h2⟩
    · rw [List.mem_singleton] at hm
      subst hm
      exact ⟨Nat.lt_of_lt_of_le h2 hhi, hfar q h1 h2⟩
   refine ⟨fun hs => ?_, key.2.2⟩
   rcases hloc q hs with e | e
   · exact key.2.1 e
   · have := key.1; omega
 · rcases hloc q hs with e | e
   · exact h.pfar m hm q h1 h2 e
   · have h3 := (h.pt.ok m hm).hi; omega
end
def RgNew (w : World) (r : Rg) (e : Ending) (w' : World) : Prop :=
 ∃ (x : Int) (f : Bool) (A : Option Addr) (n c : Nat), e = .returned (.agg #[.int .i64 x, .bool f, .slice A n c]) ∧ RgF w.heap.size w'.heap.size w' x f A n c r ∧ Below w.heap.size w w'
def RgNewP (w : World) (r : Rg) (e : Ending) (w' : World) : Prop :=
 ∃ (x : Int) (f : Bool) (A : Option Addr) (n c : Nat) (ms : List PM), e = .returned (.agg #[.int .i64 x, .bool f, .slice A n c]) ∧ RgF w.heap.size w'.heap.size w' x f A n c r ∧ Below w.heap.size w w' ∧ PartsIn (w.heap.size + 3) w' A n c ms ∧ ms.map PM.pr = r.parts
theorem RgNewP.new {w : World} {r : Rg} {e : Ending} {w' : World} (h : RgNewP w r e w') : RgNew w r e w' := by
 obtain ⟨x, f, A, n, c, ms, h1, h2, h3, _, _⟩ := h
 exact ⟨x, f, A, n, c, h1, h2, h3⟩
theorem RgF.hw {lo hi : Nat} {w : World} {x : Int} {f : Bool} {A : Option Addr} {n c : Nat} {r : Rg} (h : RgF lo hi w x f A n c r) : r.w = x := h.s.hw
theorem fresh_none {w w' : World} (h : w.grownBy w' none) : Below w.heap.size w w' :=
 (Below.refl _ _).grown h (Nat.le_refl _) (fun k hk => by cases hk)
def valsTo (ro : Vl → Rg) (P : List Vl) (r : Rg) : Nat → List Iv
 | 0 => []
 | k + 1 => if decide (ro (P.getD k zeroV) = r) then joinL (valsTo ro P r k) (segI P k) else valsTo ro P r k
def partsTo (ro : Vl → Rg) (P : List Vl) (k : Nat) : List (List Iv × Rg) := (resU ro (P.take k)).map fun r => (valsTo ro P r k, r)
end Go.Proofs.YtnnmlhmffnfjfaaGreat
namespace Go.Proofs.YtnnmlhmffnfjfaaGreat
open Go.RowKit
end Go.Proofs.YtnnmlhmffnfjfaaGreat
namespace Go.Proofs.YtnnmlhmffnfjfaaGreat
open Go.RowKit
open Rg
theorem info_lst : (Tryz.prog.info? 139).map (fun i => (i.zero, i.size, i.bytes)) = some (some (.slice none 0 0), 1, 24) := by kernel_rfl
structure FC where
 N : Nat
 k : Int
 a : Rg
 b : Rg
 xa : Int
 fa : Bool
 Aa : Option Addr
 na : Nat
 ca : Nat
 xb : Int
 fb : Bool
 Ab : Option Addr
 nb : Nat
 cb : Nat
 Ap : Option Addr
 P : List Vl
 O : Nat
 w0 : World
def FC.at_ (g : FC) (p : Vl) : Rg := comb (opR g.k) g.N (g.a.at_ (g.N : Int) p) (g.b.at_ (g.N : Int) p)
structure FS0 (g : FC) (w : World) : Prop where
 hs : g.w0.heap.size + 3 ≤ g.O ∧ g.O + 1 ≤ w.heap.size
 bel : Below g.w0.heap.size g.w0 w
 ba : Blk w g.w0.heap.size 71 #[.int .i64 g.xa, .bool g.fa, .slice g.Aa g.na g.ca]
 bb : Blk w (g.w0.heap.size + 1) 71 #[.int .i64 g.xb, .bool g.fb, .slice g.Ab g.nb g.cb]
 br : Blk w (g.w0.heap.size + 2) 71 #[.int .i64 0, .bool false, .slice none 0 0]
 ra : RgF 0 g.O w g.xa g.fa g.Aa g.na g.ca g.a
 rb : RgF 0 g.O w g.xb g.fb g.Ab g.nb g.cb g.b
 pts : VlS w g.Ap g.P.length g.P
 pl : 0 < g.P.length → ∀ b o, g.Ap = some ⟨b, o, none⟩ → b < g.O
theorem FS0.but {g : FC} {w w' : World} {S : Nat → Prop} (h : FS0 g w) (hb : But S w w') (hS : ∀ q, S q → g.O ≤ q) : FS0 g w' := by
 have hs := h.hs
 have hsz := hb.size
 exact ⟨⟨hs.1, by omega⟩, hb.below h.bel (by omega) (fun q hq => by have := hS q hq; omega), h.ba.but hb (fun e => by have := hS _ e; omega), h.bb.but hb (fun e => by have := hS _ e; omega), h.br.but hb (fun e => by have := hS _ e; omega),
  h.ra.keep fun q _ hq => hb.block q (by omega) (fun e => by have := hS _ e; omega), h.rb.keep fun q _ hq => hb.block q (by omega) (fun e => by have := hS _ e; omega),
  h.pts.but hb (fun hn b o hA e => by have := h.pl hn b o hA; have := hS _ e; omega), h.pl⟩
theorem FS0.below {g : FC} {w w' : World} (h : FS0 g w) (hb : Below w.heap.size w w') : FS0 g w' := h.but (S := fun _ => False) (But.of_below hb) (fun _ h => h.elim)
theorem RgS.f0 {w : World} {x : Int} {f : Bool} {A : Option Addr} {n c O : Nat} {r : Rg} (h : RgS w x f A n c r) (hO : w.heap.size ≤ O) : RgF 0 O w x f A n c r := fun w' hw => h.keep fun a ha => by
 have hlt := cell_lt ha
 exact World.cell?_of_block (w := w) (hw a.block (Nat.zero_le _) (by omega))
structure FR (g : FC) (k : Nat) (Ak : Option Addr) (nk ck : Nat) (w : World) (A : Option Addr) (n c : Nat) (ms : List PM) (ks : List KM) : Prop where
 s0 : FS0 g w
 bo : Blk w g.O 71 #[.int .i64 g.xa, .bool false, .slice A n c]
 st : FSt (g.O + 1) w A n c ms Ak nk ck ks
 pr : ms.map PM.pr = partsTo g.at_ g.P k
 kn : ∀ m ∈ ks, m.r = comb (opR g.k) g.N (restR g.a m.i) (restR g.b m.k)
 le : n ≤ k
end Go.Proofs.YtnnmlhmffnfjfaaGreat
