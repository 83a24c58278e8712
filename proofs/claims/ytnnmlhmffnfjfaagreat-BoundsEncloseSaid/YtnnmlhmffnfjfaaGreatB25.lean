/-
  Texts: PdN, BdOver.
-/
import Derived.Test.YtnnmlhmffnfjfaaGreatB21
set_option linter.unusedVariables false
set_option maxRecDepth 100000
namespace Go.Proofs.YtnnmlhmffnfjfaaGreat
open Go.RowKit
open Pd
section
variable {p q : Pd} {k : Nat}
theorem cr_rest (h : p.args[k]? = some q) : crA (p.rest k) = (crB q || crA (p.rest (k + 1))) := by
 rw [Pd.rest_at h]
 rfl
theorem an_rest (h : p.args[k]? = some q) (cols : List Int) (acc : Rg × Rg) : (nx cols (p.rest k)).an acc = (nodeX cols q).bind fun r => (stepX opIr acc r).bind (nx cols (p.rest (k + 1))).an := by
 rw [Pd.rest_at h]
 rfl
theorem or_rest (h : p.args[k]? = some q) (cols : List Int) (acc : Rg × Rg) : (nx cols (p.rest k)).or acc = (nodeX cols q).bind fun r => (stepX opUr acc r).bind (nx cols (p.rest (k + 1))).or := by
 rw [Pd.rest_at h]
 rfl
end
end Go.Proofs.YtnnmlhmffnfjfaaGreat
namespace Go.Proofs.YtnnmlhmffnfjfaaGreat
open Go.RowKit
open Rg
open Pd
def oP (o : Option (Rg × Rg)) : Rg × Rg := o.getD (zeroR, zeroR)
def oE (o : Option (Rg × Rg)) : Int := if o.isSome = true then 0 else 2
def WalkRes (w : World) (o : Option (Rg × Rg)) (e : Ending) (w' : World) : Prop := PairRes w (oP o).1 (oP o).2 (oE o) e w'
theorem pair_noEmp {n : Nat} {r : Rg × Rg} (h : Pair n r) : noEmp r.1 ∧ noEmp r.2 := ⟨ok_noEmp h.o1, ok_noEmp h.o2⟩
theorem op_noEmp {n : Nat} {a x : Rg} (ha : OkR a) (hwa : a.w = (n : Int)) (hx : OkR x) (hwx : x.w = (n : Int)) (op : Bool → Bool → Bool) : (opErr op a x = 0 ∨ opErr op a x = 2) ∧ noEmp (opRes op a x) := by
 have h := op_spec ha hwa hx hwx op
 have h1 : opErr op a x = 0 ∨ opErr op a x = 2 := by
  rw [h.1]
  split
  · exact .inl rfl
  · exact .inr rfl
 refine ⟨h1, ?_⟩
 rcases h1 with h1 | h1
 · exact ok_noEmp (h.2 h1).2.1
 · rw [opRes, if_neg (by rw [h1]; decide)]
   exact trivial
set_option maxHeartbeats 16000000 in
theorem over_any (F1 F2 : Nat) (hent1 : ∀ args w, (callFunc F1 args).run Tryz.prog w = .ok (.enter F1 args) w) (hent2 : ∀ args w, (callFunc F2 args).run Tryz.prog w = .ok (.enter F2 args) w) (sr : Rg) (ob : Bool → Bool → Bool) (G : Pd → Rg × Rg → Option (Rg × Rg)) (cols : List Int) (p : Pd) (A : Option Addr) (n c : Nat) (Bc Bw : Nat) (nc : Nat) (w : World) (hs : PrdS w A n c p) (hn : nc ≤ 12) (hcl : cols.length = nc) (hnodes : p.nodes ≤ 1000)
 (hst : ∀ W, Calls Tryz.prog F1 #[.int .i64 (nc : Int)] W fun e w' => RgRes W sr 0 e w')
 (hsp : ∀ (a : Rg) (xa : Int) (fa : Bool) (Aa : Option Addr) (na ca : Nat) (b : Rg) (xb : Int) (fb : Bool) (Ab : Option Addr) (nb cb : Nat) (W : World), RgS W xa fa Aa na ca a → RgS W xb fb Ab nb cb b → WfR a → WfR b → Calls Tryz.prog F2 #[.agg #[.int .i64 xa, .bool fa, .slice Aa na ca], .agg #[.int .i64 xb, .bool fb, .slice Ab nb cb]] W fun e w' => RgRes W (opRes ob a b) (opErr ob a b) e w')
 (hr0 : Pair nc (sr, sr)) (hr1 : ∀ (k : Nat) (q : Pd), p.args[k]? = some q → ∀ acc, G (p.rest k) acc = (nodeX cols q).bind fun r => (stepX ob acc r).bind (G (p.rest (k + 1)))) (hr2 : ∀ k, p.len ≤ k → ∀ acc, G (p.rest k) acc = some acc)
 (hpr : ∀ q ∈ p.args, ∀ r, nodeX cols q = some r → Pair nc r)
 (hwk : ∀ q ∈ p.args, ∀ (A : Option Addr) (n c : Nat) (W : World), Below w.heap.size w W → PrdS W A n c q → Calls Tryz.prog 78 #[.agg (pdV q.h A n c), .pointer (some ⟨Bc, 0, none⟩), .pointer (some ⟨Bw, 0, none⟩)] W fun e w' => WalkRes W (nodeX cols q) e w') :
 Calls Tryz.prog 84 #[.agg #[.func (.func F1) #[] #[], .func (.func F2) #[] #[]], .slice A n c, .int .i64 (nc : Int), .func (.func 78) #[] #[.pointer (some ⟨Bc, 0, none⟩), .pointer (some ⟨Bw, 0, none⟩)]] w fun e w' => WalkRes w (G p (sr, sr)) e w' := by
 obtain ⟨rr, Hrr⟩ : ∃ z, Hid (G p (sr, sr) = z) := ⟨_, rfl⟩
 rw [Hrr.out]
 have HPR := zH hpr
 have HST := zH hst
 have HSP := zH hsp
 have HPP := zH hr0
 have HR1 := zH hr1
 have HR2 := zH hr2
 have HWK := zH hwk
 have hn1 : n ≤ 1000 := by have := len_lt p; have := hs.len; omega
 have Hlen := zH hs.len
 have HS := zH ((hs.keep (keeps_alloc w (.cells #[.func (.func F1) #[] #[], .func (.func F2) #[] #[]] 133))).keep (keeps_alloc _ (.cells #[.int .i64 0, .bool false, .slice none 0 0, .int .i64 0, .bool false, .slice none 0 0] 127)))
 have HF := zH ((Blk.new w 133 #[.func (.func F1) #[] #[], .func (.func F2) #[] #[]]).alloc (.cells #[.int .i64 0, .bool false, .slice none 0 0, .int .i64 0, .bool false, .slice none 0 0] 127))
 have HR : Hid (Blk _ (w.alloc (.cells #[.func (.func F1) #[] #[], .func (.func F2) #[] #[]] 133)).heap.size 127 (prC 0 false none 0 0 0 false none 0 0)) := zH (Blk.new (w.alloc (.cells #[.func (.func F1) #[] #[], .func (.func F2) #[] #[]] 133)) 127 #[.int .i64 0, .bool false, .slice none 0 0, .int .i64 0, .bool false, .slice none 0 0])
 rw [show (w.alloc (.cells #[.func (.func F1) #[] #[], .func (.func F2) #[] #[]] 133)).heap.size = w.heap.size + 1 by simp] at HR
 have HB0 := (Below.refl w.heap.size w).alloc (Nat.le_refl _) (.cells #[.func (.func F1) #[] #[], .func (.func F2) #[] #[]] 133)
 have HB := zH (HB0.alloc HB0.size (.cells #[.int .i64 0, .bool false, .slice none 0 0, .int .i64 0, .bool false, .slice none 0 0] 127))
 clear HB0 hs hpr hwk hnodes hcl hst hsp hr0 hr1 hr2
 go_enter Tryz.func84, Tryz.ntmps84
 go_upto_region 1 with fail
 obtain ⟨X, HXe⟩ : ∃ z, Hid (w.heap.size = z) := ⟨_, rfl⟩
 obtain ⟨R, HRe⟩ : ∃ z, Hid (w.heap.size + 1 = z) := ⟨_, rfl⟩
 have HRl : Hid (w.heap.size ≤ R) := zH (by have := HRe.out; omega)
 rw [HRe.out] at HR
 rw [HXe.out] at HF
 rw [HRe.out, HXe.out]
 generalize hW : (w.alloc (.cells #[.func (.func F1) #[] #[], .func (.func F2) #[] #[]] 133)).alloc (.cells #[.int .i64 0, .bool false, .slice none 0 0, .int .i64 0, .bool false, .slice none 0 0] 127) = w1 at *
 clear hW HXe HRe
 have HXR : Hid (X < w1.heap.size ∧ R < w1.heap.size) := zH ⟨HF.out.lt, HR.out.lt⟩
 go_cut [10, 11] (fun v e w8 => ∃ (T : Nat) (y : Int) (g : Bool) (C : Option Addr) (m d : Nat) (y' : Int) (g' : Bool) (C' : Option Addr) (m' d' : Nat), v = .pointer (some ⟨T, 0, none⟩) ∧ e = .int .i64 0 ∧ Hid (w1.heap.size ≤ T) ∧ Hid (Blk w8 T 127 (prC y g C m d y' g' C' m' d')) ∧ Hid (RgS w8 y g C m d (sr)) ∧ Hid (RgS w8 y' g' C' m' d' (sr)) ∧ Hid (Below w1.heap.size w1 w8))
 case first =>
  obtain ⟨S, HSS⟩ : ∃ S : Nat → Prop, Hid ((fun q => w1.drew.heap.size ≤ q) = S) := ⟨_, rfl⟩
  have hSX : ¬ S X := by rw [← HSS.out]; intro h; have := HXR.out.1; have e : w1.drew.heap.size = w1.heap.size := rfl; omega
  have HNx : Hid (noEmp (sr)) := zH ((pair_noEmp HPP.out).1)
  refine wp_region_planB (But S) (fun _ _ _ h k => h.trans k) (.two [0, 1, 2, 7, 8, 9] 3 (.two [4, 5] 6 (.two [] 10 (.two [11, 12] 13 (.one [14, 15, 16] 17 (.one [] 18 (.last [19]))) 17 (.one [] 13 (.one [14, 15, 16] 18 (.last [19])))) 17 (.one [] 10 (.one [11, 12] 13 (.one [14, 15, 16] 18 (.last [19]))))) 17 (.one [] 6 (.one [] 10 (.one [11, 12] 13 (.one [14, 15, 16] 18 (.last [19])))))) 17 (.one [] 3 (.one [4, 5] 6 (.one [] 10 (.one [11, 12] 13 (.one [14, 15, 16] 18 (.last [19]))))))) (by kernel_rfl) (by kernel_rfl) (fun _ _ d _ _ h => by cases d <;> exact h) ?_
  have qX : ∀ (y : LaterR (But S) w1.drew) z, (afterR (But S) w1.drew y).cell? ⟨X, z, none⟩ = (#[.func (.func F1) #[] #[], .func (.func F2) #[] #[]] : Array Value)[z]? := fun y z => y.cell (HF.out.drew.cell z) (fun W h => (HF.out.drew.but h hSX).cell z)
  have HD := zH (Below.refl w1.drew.heap.size w1.drew)
  have Hwe : Hid (w1.drew.heap.size = w1.heap.size) := zH rfl
  clear hSX HF HR HB HS
  have HW1 : Hid (∀ W, Below w1.drew.heap.size w1.drew W → Below w1.heap.size w1 W) := zH (fun W h => Below.trans (Below.refl w1.heap.size w1).drew h)
  generalize hWd : w1.drew = wd at *
  clear hWd
  unfold wpPlanB
  simp only [pickOps, opAt, pkO]
  repeat (go_big_quiet_step (fail))
  refine wpQuiet_nil ?_
  clear qX
  refine ⟨?_, ?_⟩
  focus
   go_wp2_with fail
   refine (HST.out _).mono ?_
   rintro e v61 ⟨x, f, A2, n2, c2, rfl, hS, hb⟩
   go_wp2_with fail
   refine ⟨But.of_below hb, ?_⟩
   replace HD := zH (Below.next HD.out hb)
   have HE := zH hS
   clear hS hb
   unfold wpPlanB
   simp only [pickOps, opAt, pkO]
   go_simp
   repeat (go_big_quiet_step (fail))
   refine wpQuiet_nil ?_
   refine ⟨?_, ?_⟩
   focus
    go_wp2_with fail
    refine (bjoin_any x f A2 n2 c2 0 _).mono ?_
    rintro e v62 ⟨P, Y, rfl, hPl, hP, hY, hb⟩
    go_wp2_with fail
    refine ⟨But.of_below hb, ?_⟩
    have HPl : Hid (wd.heap.size ≤ P ∧ (∀ T, T < v61.heap.size → T ≠ P)) := zH ⟨Nat.le_trans HD.out.size hPl, fun T h e => by omega⟩
    replace HD := zH (Below.next HD.out hb)
    replace HE := zH (HE.out.keep (keeps_of hb))
    have HP := zH hP
    have HY := zH hY
    clear hPl hP hY hb
    unfold wpPlanB
    simp only [pickOps, opAt, pkO]
    go_simp
    repeat (go_big_quiet_step (fail))
    refine wpQuiet_nil ?_
    refine ⟨?_, ?_⟩
    focus
     go_wp2_with fail
     refine (HST.out _).mono ?_
     rintro e v63 ⟨x3, f3, A3, n3, c3, rfl, hS, hb⟩
     go_wp2_with fail
     refine ⟨But.of_below hb, ?_⟩
     replace HD := zH (Below.next HD.out hb)
     replace HE := zH (HE.out.keep (keeps_of hb))
     replace HP := zH (HP.out.below hb)
     replace HY := zH (HY.out.below hb)
     have HT := zH hS
     clear hS hb
     unfold wpPlanB
     simp only [pickOps, opAt, pkO]
     go_simp
     repeat (go_big_quiet_step (fail))
     refine wpQuiet_nil ?_
     refine ⟨?_, ?_⟩
     focus
      go_wp2_with fail
      refine (bjoin1_any x f A2 n2 c2 (sr) 0 x3 f3 A3 n3 c3 (sr) 0 P Y _ HP.out HY.out HE.out HT.out HNx.out HNx.out).mono ?_
      rintro e v64 ⟨y, g, C, m, d, y', g', C', m', d', rfl, hA, hA', hu⟩
      go_wp2_with fail
      refine ⟨⟨hu.os, hu.tape, hu.output, hu.size, fun k hk hs => hu.block k hk (fun e => hs (by rw [← HSS.out]; rw [e]; exact HPl.out.1))⟩, ?_⟩
      rw [show jR 0 0 (sr) = sr from by rw [jR, if_pos ⟨rfl, rfl⟩]] at hA hA'
      rw [show jE 0 0 = 0 from rfl]
      replace HD := zH (hu.below HD.out HD.out.size (fun k hk => by subst hk; exact HPl.out.1))
      have HA := zH hA
      have HA' := zH hA'
      clear hA hA' hu HP HY HE HT
      unfold prC
      unfold wpPlanB
      simp only [pickOps, opAt, pkO]
      go_simp
      repeat (go_big_quiet_step (fail))
      refine wpQuiet_nil ?_
      have hb : Below v64.heap.size v64 (v64.alloc (.cells #[.int .i64 0, .bool false, .slice none 0 0, .int .i64 0, .bool false, .slice none 0 0] 127)) := (Below.refl _ _).alloc (Nat.le_refl _) _
      have HTb : Hid (Blk (v64.alloc (.cells #[.int .i64 0, .bool false, .slice none 0 0, .int .i64 0, .bool false, .slice none 0 0] 127)) v64.heap.size 127 (prC 0 false none 0 0 0 false none 0 0)) := zH (Blk.new v64 127 #[.int .i64 0, .bool false, .slice none 0 0, .int .i64 0, .bool false, .slice none 0 0])
      have HT0 : Hid (wd.heap.size ≤ v64.heap.size) := zH HD.out.size
      go_wp2_with fail
      refine ⟨But.of_below hb, ?_⟩
      replace HD := zH (Below.next HD.out hb)
      replace HA := zH (HA.out.keep (keeps_of hb))
      replace HA' := zH (HA'.out.keep (keeps_of hb))
      obtain ⟨T, HTe⟩ : ∃ z, Hid (v64.heap.size = z) := ⟨_, rfl⟩
      have HTl : Hid (T < (v64.alloc (.cells #[.int .i64 0, .bool false, .slice none 0 0, .int .i64 0, .bool false, .slice none 0 0] 127)).heap.size) := zH (by rw [← HTe.out]; exact HTb.out.lt)
      have HTw : Hid (wd.heap.size ≤ T) := zH (by have h1 := HT0.out; have h2 := HTe.out; omega)
      rw [HTe.out] at HTb
      rw [HTe.out]
      generalize hWW : v64.alloc (.cells #[.int .i64 0, .bool false, .slice none 0 0, .int .i64 0, .bool false, .slice none 0 0] 127) = v65 at *
      clear hWW HTe HT0 hb
     rotate_left 1
     focus
      have hb : Below v63.heap.size v63 (v63.alloc (.cells #[.int .i64 0, .bool false, .slice none 0 0, .int .i64 0, .bool false, .slice none 0 0] 127)) := (Below.refl _ _).alloc (Nat.le_refl _) _
      have HTb : Hid (Blk (v63.alloc (.cells #[.int .i64 0, .bool false, .slice none 0 0, .int .i64 0, .bool false, .slice none 0 0] 127)) v63.heap.size 127 (prC 0 false none 0 0 0 false none 0 0)) := zH (Blk.new v63 127 #[.int .i64 0, .bool false, .slice none 0 0, .int .i64 0, .bool false, .slice none 0 0])
      have HT0 : Hid (wd.heap.size ≤ v63.heap.size) := zH HD.out.size
      have HTP : Hid (v63.heap.size ≠ P) := zH (by have := HP.out.lt; omega)
      go_wp2_with fail
      refine ⟨But.of_below hb, ?_⟩
      replace HD := zH (Below.next HD.out hb)
      replace HE := zH (HE.out.keep (keeps_of hb))
      replace HP := zH (HP.out.below hb)
      replace HY := zH (HY.out.below hb)
      replace HT := zH (HT.out.keep (keeps_of hb))
      obtain ⟨T, HTe⟩ : ∃ z, Hid (v63.heap.size = z) := ⟨_, rfl⟩
      have HTl : Hid (T < (v63.alloc (.cells #[.int .i64 0, .bool false, .slice none 0 0, .int .i64 0, .bool false, .slice none 0 0] 127)).heap.size) := zH (by rw [← HTe.out]; exact HTb.out.lt)
      have HTw : Hid (wd.heap.size ≤ T) := zH (by have h1 := HT0.out; have h2 := HTe.out; omega)
      rw [HTe.out] at HTb HTP
      rw [HTe.out]
      generalize hWW : v63.alloc (.cells #[.int .i64 0, .bool false, .slice none 0 0, .int .i64 0, .bool false, .slice none 0 0] 127) = v64 at *
      clear hWW HTe HT0 hb
      unfold wpPlanB
      simp only [pickOps, opAt, pkO]
      go_simp
      repeat (go_big_quiet_step (fail))
      refine wpQuiet_nil ?_
      go_wp2_with fail
      refine (bjoin1_any x f A2 n2 c2 (sr) 0 x3 f3 A3 n3 c3 (sr) 0 P Y _ HP.out HY.out HE.out HT.out HNx.out HNx.out).mono ?_
      rintro e v65 ⟨y, g, C, m, d, y', g', C', m', d', rfl, hA, hA', hu⟩
      go_wp2_with fail
      refine ⟨⟨hu.os, hu.tape, hu.output, hu.size, fun k hk hs => hu.block k hk (fun e => hs (by rw [← HSS.out]; rw [e]; exact HPl.out.1))⟩, ?_⟩
      rw [show jR 0 0 (sr) = sr from by rw [jR, if_pos ⟨rfl, rfl⟩]] at hA hA'
      rw [show jE 0 0 = 0 from rfl]
      replace HTb := zH (HTb.out.but hu HTP.out)
      replace HD := zH (hu.below HD.out HD.out.size (fun k hk => by subst hk; exact HPl.out.1))
      have HA := zH hA
      have HA' := zH hA'
      clear hA hA' hu HP HY HE HT
      unfold prC
    rotate_left 2
    focus
     have hb : Below v62.heap.size v62 (v62.alloc (.cells #[.int .i64 0, .bool false, .slice none 0 0, .int .i64 0, .bool false, .slice none 0 0] 127)) := (Below.refl _ _).alloc (Nat.le_refl _) _
     have HTb : Hid (Blk (v62.alloc (.cells #[.int .i64 0, .bool false, .slice none 0 0, .int .i64 0, .bool false, .slice none 0 0] 127)) v62.heap.size 127 (prC 0 false none 0 0 0 false none 0 0)) := zH (Blk.new v62 127 #[.int .i64 0, .bool false, .slice none 0 0, .int .i64 0, .bool false, .slice none 0 0])
     have HT0 : Hid (wd.heap.size ≤ v62.heap.size) := zH HD.out.size
     have HTP : Hid (v62.heap.size ≠ P) := zH (by have := HP.out.lt; omega)
     go_wp2_with fail
     refine ⟨But.of_below hb, ?_⟩
     replace HD := zH (Below.next HD.out hb)
     replace HE := zH (HE.out.keep (keeps_of hb))
     replace HP := zH (HP.out.below hb)
     replace HY := zH (HY.out.below hb)
     obtain ⟨T, HTe⟩ : ∃ z, Hid (v62.heap.size = z) := ⟨_, rfl⟩
     have HTl : Hid (T < (v62.alloc (.cells #[.int .i64 0, .bool false, .slice none 0 0, .int .i64 0, .bool false, .slice none 0 0] 127)).heap.size) := zH (by rw [← HTe.out]; exact HTb.out.lt)
     have HTw : Hid (wd.heap.size ≤ T) := zH (by have h1 := HT0.out; have h2 := HTe.out; omega)
     rw [HTe.out] at HTb HTP
     rw [HTe.out]
     generalize hWW : v62.alloc (.cells #[.int .i64 0, .bool false, .slice none 0 0, .int .i64 0, .bool false, .slice none 0 0] 127) = v63 at *
     clear hWW HTe HT0 hb
     unfold wpPlanB
     simp only [pickOps, opAt, pkO]
     go_simp
     repeat (go_big_quiet_step (fail))
     refine wpQuiet_nil ?_
     go_wp2_with fail
     refine (HST.out _).mono ?_
     rintro e v64 ⟨x3, f3, A3, n3, c3, rfl, hS, hb⟩
     go_wp2_with fail
     refine ⟨But.of_below hb, ?_⟩
     replace HD := zH (Below.next HD.out hb)
     replace HE := zH (HE.out.keep (keeps_of hb))
     replace HP := zH (HP.out.below hb)
     replace HY := zH (HY.out.below hb)
     replace HTb := zH (HTb.out.below hb)
     have HT := zH hS
     clear hS hb
     unfold wpPlanB
     simp only [pickOps, opAt, pkO]
     go_simp
     repeat (go_big_quiet_step (fail))
     refine wpQuiet_nil ?_
     go_wp2_with fail
     refine (bjoin1_any x f A2 n2 c2 (sr) 0 x3 f3 A3 n3 c3 (sr) 0 P Y _ HP.out HY.out HE.out HT.out HNx.out HNx.out).mono ?_
     rintro e v65 ⟨y, g, C, m, d, y', g', C', m', d', rfl, hA, hA', hu⟩
     go_wp2_with fail
     refine ⟨⟨hu.os, hu.tape, hu.output, hu.size, fun k hk hs => hu.block k hk (fun e => hs (by rw [← HSS.out]; rw [e]; exact HPl.out.1))⟩, ?_⟩
     rw [show jR 0 0 (sr) = sr from by rw [jR, if_pos ⟨rfl, rfl⟩]] at hA hA'
     rw [show jE 0 0 = 0 from rfl]
     replace HTb := zH (HTb.out.but hu HTP.out)
     replace HD := zH (hu.below HD.out HD.out.size (fun k hk => by subst hk; exact HPl.out.1))
     have HA := zH hA
     have HA' := zH hA'
     clear hA hA' hu HP HY HE HT
     unfold prC
   rotate_left 3
   focus
    have hb : Below v61.heap.size v61 (v61.alloc (.cells #[.int .i64 0, .bool false, .slice none 0 0, .int .i64 0, .bool false, .slice none 0 0] 127)) := (Below.refl _ _).alloc (Nat.le_refl _) _
    have HTb : Hid (Blk (v61.alloc (.cells #[.int .i64 0, .bool false, .slice none 0 0, .int .i64 0, .bool false, .slice none 0 0] 127)) v61.heap.size 127 (prC 0 false none 0 0 0 false none 0 0)) := zH (Blk.new v61 127 #[.int .i64 0, .bool false, .slice none 0 0, .int .i64 0, .bool false, .slice none 0 0])
    have HT0 : Hid (wd.heap.size ≤ v61.heap.size) := zH HD.out.size
    go_wp2_with fail
    refine ⟨But.of_below hb, ?_⟩
    replace HD := zH (Below.next HD.out hb)
    replace HE := zH (HE.out.keep (keeps_of hb))
    obtain ⟨T, HTe⟩ : ∃ z, Hid (v61.heap.size = z) := ⟨_, rfl⟩
    have HTl : Hid (T < (v61.alloc (.cells #[.int .i64 0, .bool false, .slice none 0 0, .int .i64 0, .bool false, .slice none 0 0] 127)).heap.size) := zH (by rw [← HTe.out]; exact HTb.out.lt)
    have HTw : Hid (wd.heap.size ≤ T) := zH (by have h1 := HT0.out; have h2 := HTe.out; omega)
    rw [HTe.out] at HTb
    rw [HTe.out]
    generalize hWW : v61.alloc (.cells #[.int .i64 0, .bool false, .slice none 0 0, .int .i64 0, .bool false, .slice none 0 0] 127) = v62 at *
    clear hWW HTe HT0 hb
    unfold wpPlanB
    simp only [pickOps, opAt, pkO]
    go_simp
    repeat (go_big_quiet_step (fail))
    refine wpQuiet_nil ?_
    go_wp2_with fail
    refine (bjoin_any x f A2 n2 c2 0 _).mono ?_
    rintro e v63 ⟨P, Y, rfl, hPl, hP, hY, hb⟩
    go_wp2_with fail
    refine ⟨But.of_below hb, ?_⟩
    have HPl : Hid (wd.heap.size ≤ P ∧ (∀ T, T < v62.heap.size → T ≠ P)) := zH ⟨Nat.le_trans HD.out.size hPl, fun T h e => by omega⟩
    have HTP : Hid (T ≠ P) := zH (HPl.out.2 T HTb.out.lt)
    replace HD := zH (Below.next HD.out hb)
    replace HE := zH (HE.out.keep (keeps_of hb))
    replace HTb := zH (HTb.out.below hb)
    have HP := zH hP
    have HY := zH hY
    clear hPl hP hY hb
    unfold wpPlanB
    simp only [pickOps, opAt, pkO]
    go_simp
    repeat (go_big_quiet_step (fail))
    refine wpQuiet_nil ?_
    go_wp2_with fail
    refine (HST.out _).mono ?_
    rintro e v64 ⟨x3, f3, A3, n3, c3, rfl, hS, hb⟩
    go_wp2_with fail
    refine ⟨But.of_below hb, ?_⟩
    replace HD := zH (Below.next HD.out hb)
    replace HE := zH (HE.out.keep (keeps_of hb))
    replace HTb := zH (HTb.out.below hb)
    replace HP := zH (HP.out.below hb)
    replace HY := zH (HY.out.below hb)
    have HT := zH hS
    clear hS hb
    unfold wpPlanB
    simp only [pickOps, opAt, pkO]
    go_simp
    repeat (go_big_quiet_step (fail))
    refine wpQuiet_nil ?_
    go_wp2_with fail
    refine (bjoin1_any x f A2 n2 c2 (sr) 0 x3 f3 A3 n3 c3 (sr) 0 P Y _ HP.out HY.out HE.out HT.out HNx.out HNx.out).mono ?_
    rintro e v65 ⟨y, g, C, m, d, y', g', C', m', d', rfl, hA, hA', hu⟩
    go_wp2_with fail
    refine ⟨⟨hu.os, hu.tape, hu.output, hu.size, fun k hk hs => hu.block k hk (fun e => hs (by rw [← HSS.out]; rw [e]; exact HPl.out.1))⟩, ?_⟩
    rw [show jR 0 0 (sr) = sr from by rw [jR, if_pos ⟨rfl, rfl⟩]] at hA hA'
    rw [show jE 0 0 = 0 from rfl]
    replace HTb := zH (HTb.out.but hu HTP.out)
    replace HD := zH (hu.below HD.out HD.out.size (fun k hk => by subst hk; exact HPl.out.1))
    have HA := zH hA
    have HA' := zH hA'
    clear hA hA' hu HP HY HE HT
    unfold prC
  rotate_left 4
  focus
   have hb : Below wd.heap.size wd (wd.alloc (.cells #[.int .i64 0, .bool false, .slice none 0 0, .int .i64 0, .bool false, .slice none 0 0] 127)) := (Below.refl _ _).alloc (Nat.le_refl _) _
   have HTb : Hid (Blk (wd.alloc (.cells #[.int .i64 0, .bool false, .slice none 0 0, .int .i64 0, .bool false, .slice none 0 0] 127)) wd.heap.size 127 (prC 0 false none 0 0 0 false none 0 0)) := zH (Blk.new wd 127 #[.int .i64 0, .bool false, .slice none 0 0, .int .i64 0, .bool false, .slice none 0 0])
   have HT0 : Hid (wd.heap.size ≤ wd.heap.size) := zH HD.out.size
   go_wp2_with fail
   refine ⟨But.of_below hb, ?_⟩
   replace HD := zH (Below.next HD.out hb)
   obtain ⟨T, HTe⟩ : ∃ z, Hid (wd.heap.size = z) := ⟨_, rfl⟩
   have HTl : Hid (T < (wd.alloc (.cells #[.int .i64 0, .bool false, .slice none 0 0, .int .i64 0, .bool false, .slice none 0 0] 127)).heap.size) := zH (by rw [← HTe.out]; exact HTb.out.lt)
   have HTw : Hid (wd.heap.size ≤ T) := zH (by have h1 := HT0.out; have h2 := HTe.out; omega)
   rw [HTe.out] at HTb
   rw [HTe.out]
   generalize hWW : wd.alloc (.cells #[.int .i64 0, .bool false, .slice none 0 0, .int .i64 0, .bool false, .slice none 0 0] 127) = v61 at *
   clear hWW HTe HT0 hb
   unfold wpPlanB
   simp only [pickOps, opAt, pkO]
   go_simp
   repeat (go_big_quiet_step (fail))
   refine wpQuiet_nil ?_
   go_wp2_with fail
   refine (HST.out _).mono ?_
   rintro e v62 ⟨x, f, A2, n2, c2, rfl, hS, hb⟩
   go_wp2_with fail
   refine ⟨But.of_below hb, ?_⟩
   replace HD := zH (Below.next HD.out hb)
   replace HTb := zH (HTb.out.below hb)
   have HE := zH hS
   clear hS hb
   unfold wpPlanB
   simp only [pickOps, opAt, pkO]
   go_simp
   repeat (go_big_quiet_step (fail))
   refine wpQuiet_nil ?_
   go_wp2_with fail
   refine (bjoin_any x f A2 n2 c2 0 _).mono ?_
   rintro e v63 ⟨P, Y, rfl, hPl, hP, hY, hb⟩
   go_wp2_with fail
   refine ⟨But.of_below hb, ?_⟩
   have HPl : Hid (wd.heap.size ≤ P ∧ (∀ T, T < v62.heap.size → T ≠ P)) := zH ⟨Nat.le_trans HD.out.size hPl, fun T h e => by omega⟩
   have HTP : Hid (T ≠ P) := zH (HPl.out.2 T HTb.out.lt)
   replace HD := zH (Below.next HD.out hb)
   replace HTb := zH (HTb.out.below hb)
   replace HE := zH (HE.out.keep (keeps_of hb))
   have HP := zH hP
   have HY := zH hY
   clear hPl hP hY hb
   unfold wpPlanB
   simp only [pickOps, opAt, pkO]
   go_simp
   repeat (go_big_quiet_step (fail))
   refine wpQuiet_nil ?_
   go_wp2_with fail
   refine (HST.out _).mono ?_
   rintro e v64 ⟨x3, f3, A3, n3, c3, rfl, hS, hb⟩
   go_wp2_with fail
   refine ⟨But.of_below hb, ?_⟩
   replace HD := zH (Below.next HD.out hb)
   replace HTb := zH (HTb.out.below hb)
   replace HE := zH (HE.out.keep (keeps_of hb))
   replace HP := zH (HP.out.below hb)
   replace HY := zH (HY.out.below hb)
   have HT := zH hS
   clear hS hb
   unfold wpPlanB
   simp only [pickOps, opAt, pkO]
   go_simp
   repeat (go_big_quiet_step (fail))
   refine wpQuiet_nil ?_
   go_wp2_with fail
   refine (bjoin1_any x f A2 n2 c2 (sr) 0 x3 f3 A3 n3 c3 (sr) 0 P Y _ HP.out HY.out HE.out HT.out HNx.out HNx.out).mono ?_
   rintro e v65 ⟨y, g, C, m, d, y', g', C', m', d', rfl, hA, hA', hu⟩
   go_wp2_with fail
   refine ⟨⟨hu.os, hu.tape, hu.output, hu.size, fun k hk hs => hu.block k hk (fun e => hs (by rw [← HSS.out]; rw [e]; exact HPl.out.1))⟩, ?_⟩
   rw [show jR 0 0 (sr) = sr from by rw [jR, if_pos ⟨rfl, rfl⟩]] at hA hA'
   rw [show jE 0 0 = 0 from rfl]
   replace HTb := zH (HTb.out.but hu HTP.out)
   replace HD := zH (hu.below HD.out HD.out.size (fun k hk => by subst hk; exact HPl.out.1))
   have HA := zH hA
   have HA' := zH hA'
   clear hA hA' hu HP HY HE HT
   unfold prC
  all_goals
   unfold wpPlanB
   simp only [pickOps, opAt, pkO]
   go_simp
   repeat (go_big_quiet_step (fail))
   refine wpQuiet_nil ?_
   have zr := HTb.out.cell
   have zf := HTb.out.free
   unfold prC at zr
   have HBr : Hid (Blk (put6 v65 T y g C m d y' g' C' m' d') T 127 (prC y g C m d y' g' C' m' d')) := zH (put6_blk HTb.out)
   have HDr := zH (put6_below (x := y) (f := g) (A := C) (n := m) (c := d) (x' := y') (f' := g') (A' := C') (n' := m') (c' := d') HD.out HTw.out)
   have HA3 := zH (RgS.off2 (a := zeroR) HTb.out (RgS.zero' _) (put6_but (w := v65) (B := T) (x := y) (f := g) (A := C) (n := m) (c := d) (x' := y') (f' := g') (A' := C') (n' := m') (c' := d')) HNx.out HA.out)
   have HA4 := zH (RgS.off2 (a := zeroR) HTb.out (RgS.zero' _) (put6_but (w := v65) (B := T) (x := y) (f := g) (A := C) (n := m) (c := d) (x' := y') (f' := g') (A' := C') (n' := m') (c' := d')) HNx.out HA'.out)
   have hbS : But (· = T) v65 (put6 v65 T y g C m d y' g' C' m' d') := put6_but
   have hbS2 : But S v65 (put6 v65 T y g C m d y' g' C' m' d') := ⟨hbS.os, hbS.tape, hbS.output, hbS.size, fun k hk hs => hbS.block k hk (fun e => hs (by rw [← HSS.out]; rw [e]; exact HTw.out))⟩
   clear hbS
   unfold put6 at HBr HDr HA3 HA4 hbS2
   go_wp2_with fail
   refine ⟨hbS2, ?_⟩
   unfold wpPlanB
   simp only [pickOps, opAt, pkO]
   go_simp
   repeat (go_big_quiet_step (fail))
   refine wpQuiet_nil ?_
   go_wp2_with fail
   go_meet
   case rel => exact ⟨T, y, g, C, m, d, y', g', C', m', d', rfl, rfl, zH (by have := HTw.out; have := Hwe.out; omega), HBr, HA3, HA4, zH (HW1.out _ HDr.out)⟩
 case rest =>
  obtain ⟨T, y, g, C, m, d, y', g', C', m', d', rfl, rfl, HTl, HTb, HA, HA', HBe⟩ := hcut
  have HTR : Hid (T ≠ R ∧ w.heap.size ≤ T) := zH (by have h1 := HTl.out; have h2 := HXR.out; have h3 := HB.out.size; omega)
  have H0 : Hid (G (p.rest 0) (sr, sr) = rr) := zH (by rw [rest_zero]; exact Hrr.out)
  have HP0 : Hid (Pair nc (sr, sr)) := HPP
  clear Hrr
  go_wp2_with fail
  go_loopw [11, 34] (fun er i wr => ∃ k : Nat, k ≤ n ∧ i = .int .i64 (k : Int) ∧ Hid (Below w1.heap.size w1 wr) ∧ ((er = .int .i64 0 ∧ ∃ (acc : Rg × Rg) (y : Int) (g : Bool) (C : Option Addr) (m d : Nat) (y' : Int) (g' : Bool) (C' : Option Addr) (m' d' : Nat), Hid (Blk wr T 127 (prC y g C m d y' g' C' m' d')) ∧ Hid (RgS wr y g C m d acc.1) ∧ Hid (RgS wr y' g' C' m' d' acc.2) ∧ Hid (Pair nc acc) ∧ Hid (G (p.rest k) acc = rr)) ∨ (er = .int .i64 2 ∧ Hid (rr = none)))) (fun _ i _ => n - (intOf i).toNat)
  case atStart => exact ⟨0, by omega, rfl, HBe, .inl ⟨rfl, (sr, sr), y, g, C, m, d, y', g', C', m', d', HTb, HA, HA', HP0, H0⟩⟩
  case round =>
   clear HTb HA HA' HBe H0 HP0
   obtain ⟨k, hk, rfl, HM, hst⟩ := hrel
   have HRw := zH (HR.out.below HM.out)
   have HBw := zH (Below.next HB.out HM.out)
   rcases hst with ⟨rfl, acc, y, g, C, m, d, y', g', C', m', d', HTb, HA, HA', HPa, Hq⟩ | ⟨rfl, Hnone⟩
   rotate_left
   · obtain rfl := Hnone.out
     by_cases hlt : k < n
     · have HSk := zH (HS.out.keep (keeps_of HM.out))
       obtain ⟨b', o', q, A1, n1, c1, rfl, hq, dd⟩ := HSk.out.at hlt
       obtain ⟨d0, d1, d2, d3, d4, d5, d6, d7, d8, d9, d10, d11, d12, ds⟩ := dd
       have HM3 := zH (HBw.out.alloc HBw.out.size (.cells #[.int .i64 q.h.op, .int .i64 q.h.cm, .int .i64 q.h.l.k, .int .i64 q.h.l.ix, .int .i64 q.h.l.v.k, .int .i64 q.h.l.v.i, .string q.h.l.v.t, .int .i64 q.h.r.k, .int .i64 q.h.r.ix, .int .i64 q.h.r.v.k, .int .i64 q.h.r.v.i, .string q.h.r.v.t, .slice A1 n1 c1] 64))
       have HR3 := zH (HRw.out.alloc (.cells #[.int .i64 q.h.op, .int .i64 q.h.cm, .int .i64 q.h.l.k, .int .i64 q.h.l.ix, .int .i64 q.h.l.v.k, .int .i64 q.h.l.v.i, .string q.h.l.v.t, .int .i64 q.h.r.k, .int .i64 q.h.r.ix, .int .i64 q.h.r.v.k, .int .i64 q.h.r.v.i, .string q.h.r.v.t, .slice A1 n1 c1] 64))
       clear ds hq HSk
       go_upto_region 5 with fail
       generalize hW3 : wr.alloc (.cells #[.int .i64 q.h.op, .int .i64 q.h.cm, .int .i64 q.h.l.k, .int .i64 q.h.l.ix, .int .i64 q.h.l.v.k, .int .i64 q.h.l.v.i, .string q.h.l.v.t, .int .i64 q.h.r.k, .int .i64 q.h.r.ix, .int .i64 q.h.r.v.k, .int .i64 q.h.r.v.i, .string q.h.r.v.t, .slice A1 n1 c1] 64) = w3 at *
       clear hW3 d0 d1 d2 d3 d4 d5 d6 d7 d8 d9 d10 d11 d12
       have zr := HR3.out.cell
       have zf := HR3.out.free
       unfold prC at zr
       have y6 := (put6_blk (x := 0) (f := false) (A := none) (n := 0) (c := 0) (x' := 0) (f' := false) (A' := none) (n' := 0) (c' := 0) HR3.out).cell
       unfold prC at y6
       have HBr := zH (put6_below (x := 0) (f := false) (A := none) (n := 0) (c := 0) (x' := 0) (f' := false) (A' := none) (n' := 0) (c' := 0) HM3.out HRl.out)
       unfold put6 at y6 HBr
       go_wp2
       exact bodyPost_ret (v := .tuple #[.agg #[.int .i64 0, .bool false, .slice none 0 0, .int .i64 0, .bool false, .slice none 0 0], .int .i64 2]) (by simp [results, Tryz.results84, go_sem, y6]) rfl ⟨0, false, none, 0, 0, 0, false, none, 0, 0, rfl, RgS.zero' _, RgS.zero' _, HBr.out⟩
     · skip
       have zr := HRw.out.cell
       have zf := HRw.out.free
       unfold prC at zr
       have y6 := (put6_blk (x := 0) (f := false) (A := none) (n := 0) (c := 0) (x' := 0) (f' := false) (A' := none) (n' := 0) (c' := 0) HRw.out).cell
       unfold prC at y6
       have HBr := zH (put6_below (x := 0) (f := false) (A := none) (n := 0) (c := 0) (x' := 0) (f' := false) (A' := none) (n' := 0) (c' := 0) HBw.out HRl.out)
       unfold put6 at y6 HBr
       go_wp2
       exact bodyPost_ret (v := .tuple #[.agg #[.int .i64 0, .bool false, .slice none 0 0, .int .i64 0, .bool false, .slice none 0 0], .int .i64 2]) (by simp [results, Tryz.results84, go_sem, y6]) rfl ⟨0, false, none, 0, 0, 0, false, none, 0, 0, rfl, RgS.zero' _, RgS.zero' _, HBr.out⟩
   by_cases hlt : k < n
   rotate_left
   · obtain rfl : some acc = rr := by
      rw [← Hq.out]
      exact (HR2.out k (by rw [← Hlen.out]; omega) acc).symm
     have zt := HTb.out.cell
     have zr := HRw.out.cell
     have zf := HRw.out.free
     unfold prC at zt zr
     have hne := pair_noEmp HPa.out
     have y6 := (put6_blk (x := y) (f := g) (A := C) (n := m) (c := d) (x' := y') (f' := g') (A' := C') (n' := m') (c' := d') HRw.out).cell
     unfold prC at y6
     have HBr := zH (put6_below (x := y) (f := g) (A := C) (n := m) (c := d) (x' := y') (f' := g') (A' := C') (n' := m') (c' := d') HBw.out HRl.out)
     have HA3 := zH (RgS.off2 (a := zeroR) HRw.out (RgS.zero' _) (put6_but (w := wr) (B := R) (x := y) (f := g) (A := C) (n := m) (c := d) (x' := y') (f' := g') (A' := C') (n' := m') (c' := d')) hne.1 HA.out)
     have HA4 := zH (RgS.off2 (a := zeroR) HRw.out (RgS.zero' _) (put6_but (w := wr) (B := R) (x := y) (f := g) (A := C) (n := m) (c := d) (x' := y') (f' := g') (A' := C') (n' := m') (c' := d')) hne.2 HA'.out)
     unfold put6 at y6 HBr HA3 HA4
     clear hne Hq
     go_wp2
     exact bodyPost_ret (v := .tuple #[.agg #[.int .i64 y, .bool g, .slice C m d, .int .i64 y', .bool g', .slice C' m' d'], .int .i64 0]) (by simp [results, Tryz.results84, go_sem, y6]) rfl ⟨y, g, C, m, d, y', g', C', m', d', rfl, HA3.out, HA4.out, HBr.out⟩
   have HSk := zH (HS.out.keep (keeps_of HM.out))
   obtain ⟨b', o', q, A1, n1, c1, rfl, hq, dd⟩ := HSk.out.at hlt
   have hb : Below wr.heap.size wr (wr.alloc (.cells #[.int .i64 q.h.op, .int .i64 q.h.cm, .int .i64 q.h.l.k, .int .i64 q.h.l.ix, .int .i64 q.h.l.v.k, .int .i64 q.h.l.v.i, .string q.h.l.v.t, .int .i64 q.h.r.k, .int .i64 q.h.r.ix, .int .i64 q.h.r.v.k, .int .i64 q.h.r.v.i, .string q.h.r.v.t, .slice A1 n1 c1] 64)) := (Below.refl _ _).alloc (Nat.le_refl _) _
   have HSq := zH (dd.s.keep (keeps_of hb))
   obtain ⟨d0, d1, d2, d3, d4, d5, d6, d7, d8, d9, d10, d11, d12, ds⟩ := dd
   have Hmem := zH (at_mem hq)
   have Hst := zH (HR1.out k _ hq acc)
   have HY := zH (Blk.new wr 64 #[.int .i64 q.h.op, .int .i64 q.h.cm, .int .i64 q.h.l.k, .int .i64 q.h.l.ix, .int .i64 q.h.l.v.k, .int .i64 q.h.l.v.i, .string q.h.l.v.t, .int .i64 q.h.r.k, .int .i64 q.h.r.ix, .int .i64 q.h.r.v.k, .int .i64 q.h.r.v.i, .string q.h.r.v.t, .slice A1 n1 c1])
   replace HM := zH (Below.next HM.out hb)
   replace HTb := zH (HTb.out.below hb)
   replace HA := zH (HA.out.keep (keeps_of hb))
   replace HA' := zH (HA'.out.keep (keeps_of hb))
   replace HF := zH (HF.out.below HM.out)
   clear ds hq HSk hb HRw HBw
   obtain ⟨Y, HYe⟩ : ∃ z, Hid (wr.heap.size = z) := ⟨_, rfl⟩
   rw [HYe.out] at HY
   go_upto_region 6 with fail
   rw [HYe.out]
   generalize hW3 : wr.alloc (.cells #[.int .i64 q.h.op, .int .i64 q.h.cm, .int .i64 q.h.l.k, .int .i64 q.h.l.ix, .int .i64 q.h.l.v.k, .int .i64 q.h.l.v.i, .string q.h.l.v.t, .int .i64 q.h.r.k, .int .i64 q.h.r.ix, .int .i64 q.h.r.v.k, .int .i64 q.h.r.v.i, .string q.h.r.v.t, .slice A1 n1 c1] 64) = w3 at *
   clear hW3 HYe d0 d1 d2 d3 d4 d5 d6 d7 d8 d9 d10 d11 d12
   have hb : Below w3.heap.size w3 (w3.alloc (.cells #[.int .i64 0, .bool false, .slice none 0 0, .int .i64 0, .bool false, .slice none 0 0] 127)) := (Below.refl _ _).alloc (Nat.le_refl _) _
   have HU : Hid (Blk (w3.alloc (.cells #[.int .i64 0, .bool false, .slice none 0 0, .int .i64 0, .bool false, .slice none 0 0] 127)) w3.heap.size 127 (prC 0 false none 0 0 0 false none 0 0)) := zH (Blk.new w3 127 #[.int .i64 0, .bool false, .slice none 0 0, .int .i64 0, .bool false, .slice none 0 0])
   have HTU : Hid (T ≠ w3.heap.size ∧ w1.heap.size ≤ w3.heap.size) := zH (by have h1 := HTb.out.lt; have h2 := HM.out.size; omega)
   replace HM := zH (Below.next HM.out hb)
   replace HTb := zH (HTb.out.below hb)
   replace HA := zH (HA.out.keep (keeps_of hb))
   replace HA' := zH (HA'.out.keep (keeps_of hb))
   replace HF := zH (HF.out.below hb)
   replace HY := zH (HY.out.below hb)
   replace HSq := zH (HSq.out.keep (keeps_of hb))
   clear hb
   obtain ⟨U, HUe⟩ : ∃ z, Hid (w3.heap.size = z) := ⟨_, rfl⟩
   rw [HUe.out] at HU HTU
   go_upto_region 7 with fail
   rw [HUe.out]
   generalize hW3 : w3.alloc (.cells #[.int .i64 0, .bool false, .slice none 0 0, .int .i64 0, .bool false, .slice none 0 0] 127) = w4 at *
   clear hW3 HUe
   have zy := HY.out.cell
   go_wp2_with fail
   refine (HWK.out q Hmem.out A1 n1 c1 _ (Below.next HB.out HM.out) HSq.out).mono ?_
   rintro e w5 ⟨y2, g2, C2, m2, d2, y3, g3, C3, m3, d3, rfl, hX, hX', hb⟩
   replace HM := zH (Below.next HM.out hb)
   replace HTb := zH (HTb.out.below hb)
   replace HA := zH (HA.out.keep (keeps_of hb))
   replace HA' := zH (HA'.out.keep (keeps_of hb))
   replace HF := zH (HF.out.below hb)
   replace HU := zH (HU.out.below hb)
   have HX := zH hX
   have HX' := zH hX'
   clear hX hX' hb zy HY HSq
   obtain ⟨oq, Hoq⟩ : ∃ z, Hid (nodeX cols q = z) := ⟨_, rfl⟩
   rw [Hoq.out] at HX HX' Hst ⊢
   have zu := HU.out.cell
   have zuf := HU.out.free
   unfold prC at zu ⊢
   have HMr := zH (put6_below (x := y2) (f := g2) (A := C2) (n := m2) (c := d2) (x' := y3) (f' := g3) (A' := C3) (n' := m3) (c' := d3) HM.out HTU.out.2)
   cases oq with
   | none =>
     have Hnn : Hid (rr = none) := zH (by rw [← Hq.out, Hst.out]; rfl)
     rw [show oE none = 2 from rfl]
     unfold put6 at HMr
     go_wp2
     go_roundw
     case rel => exact ⟨k + 1, by omega, by go_num, HMr, .inr ⟨rfl, Hnn⟩⟩
     case measure => simp [intOf]; omega
   | some r =>
     have HPr := zH (HPR.out q Hmem.out r Hoq.out)
     rw [show oE (some r) = 0 from rfl]
     have hne := pair_noEmp HPa.out
     have hner := pair_noEmp HPr.out
     have hut := put6_but (w := w5) (B := U) (x := y2) (f := g2) (A := C2) (n := m2) (c := d2) (x' := y3) (f' := g3) (A' := C3) (n' := m3) (c' := d3)
     replace HA := zH (RgS.off2 (a := zeroR) HU.out (RgS.zero' _) hut hne.1 HA.out)
     replace HA' := zH (RgS.off2 (a := zeroR) HU.out (RgS.zero' _) hut hne.2 HA'.out)
     replace HX := zH (RgS.off2 (a := zeroR) HU.out (RgS.zero' _) hut hner.1 HX.out)
     replace HX' := zH (RgS.off2 (a := zeroR) HU.out (RgS.zero' _) hut hner.2 HX'.out)
     replace HTb := zH (HTb.out.but hut HTU.out.1)
     replace HF := zH (HF.out.but hut (by have := HXR.out; have := HTU.out; omega))
     replace HU : Hid (Blk (put6 w5 U y2 g2 C2 m2 d2 y3 g3 C3 m3 d3) U 127 (prC y2 g2 C2 m2 d2 y3 g3 C3 m3 d3)) := zH (put6_blk HU.out)
     clear hut hne hner HM
     unfold put6 at HMr HA HA' HX HX' HTb HF HU
     go_upto_region 9 with fail
     generalize hW5 : (((((w5.setCell ⟨U, 0, none⟩ (.int .i64 y2)).setCell ⟨U, 1, none⟩ (.bool g2)).setCell ⟨U, 2, none⟩ (.slice C2 m2 d2)).setCell ⟨U, 3, none⟩ (.int .i64 y3)).setCell ⟨U, 4, none⟩ (.bool g3)).setCell ⟨U, 5, none⟩ (.slice C3 m3 d3) = w6 at *
     clear hW5 zu zuf
     refine wp_region_planR [23] (lessB w6.drew.heap.size) anyW (lessB_trans _) anyW_trans (.one [0, 1, 2, 3, 4, 5, 10, 11, 12, 13, 14, 15] [] 6 (.one [7, 8] [] 9 (.one [] [] 16 (.one [17, 18] [] 19 (.one [20, 21] [22] 23 (.last [24] [])))))) (by kernel_rfl) (by kernel_rfl) (fun _ _ d _ _ h => by cases d <;> exact h) ?_
     have hbd : Below w6.heap.size w6 w6.drew := (Below.refl _ _).drew
     replace HTb := zH (HTb.out.below hbd)
     replace HU := zH (HU.out.below hbd)
     replace HF := zH (HF.out.below hbd)
     replace HA := zH (HA.out.keep (keeps_of hbd))
     replace HA' := zH (HA'.out.keep (keeps_of hbd))
     replace HX := zH (HX.out.keep (keeps_of hbd))
     replace HX' := zH (HX'.out.keep (keeps_of hbd))
     replace HMr := zH (Below.next HMr.out hbd)
     clear hbd
     generalize hWd : w6.drew = wd at *
     clear hWd
     have HAv := HA
     have HMw : Hid (w1.heap.size ≤ wd.heap.size) := zH HMr.out.size
     have HTlt := zH HTb.out.lt
     have HUlt := zH HU.out.lt
     have HFlt := zH HF.out.lt
     have qT : ∀ (z : LaterR (lessB wd.heap.size) wd) j, (afterR (lessB wd.heap.size) wd z).cell? ⟨T, j, none⟩ = (prC y g C m d y' g' C' m' d')[j]? := fun z j => z.cell (HTb.out.cell j) (fun W h => (keep_blk HTb.out h HTlt.out).cell j)
     have qU : ∀ (z : LaterR (lessB wd.heap.size) wd) j, (afterR (lessB wd.heap.size) wd z).cell? ⟨U, j, none⟩ = (prC y2 g2 C2 m2 d2 y3 g3 C3 m3 d3)[j]? := fun z j => z.cell (HU.out.cell j) (fun W h => (keep_blk HU.out h HUlt.out).cell j)
     have qX : ∀ (z : LaterR (lessB wd.heap.size) wd) j, (afterR (lessB wd.heap.size) wd z).cell? ⟨X, j, none⟩ = (#[.func (.func F1) #[] #[], .func (.func F2) #[] #[]] : Array Value)[j]? := fun z j => z.cell (HF.out.cell j) (fun W h => (keep_blk HF.out h HFlt.out).cell j)
     unfold prC at qT qU
     unfold wpPlanR
     simp only [pickOps, opAt, pkO]
     repeat (go_big_quiet_step (fail))
     refine wpQuiet_nil ?_
     repeat (go_big_quiet_step (fail))
     refine wpQuiet_nil ?_
     clear qT qU qX HU HF
     go_wp2_with fail
     refine (HSP.out acc.1 y g C m d r.1 y2 g2 C2 m2 d2 _ HA.out HX.out HPa.out.f1 HPr.out.f1).mono ?_
     rintro e w7 ⟨h1, k1, D1, l1, b1, rfl, hR, hb⟩
     obtain ⟨e1, He1⟩ : ∃ z, Hid (opErr ob acc.1 r.1 = z) := ⟨_, rfl⟩
     rw [He1.out]
     go_wp2_with fail
     refine ⟨⟨fun _ => lessB_of hb (Nat.le_refl _), trivial⟩, ?_⟩
     have HWs : Hid (wd.heap.size ≤ w7.heap.size) := zH hb.size
     replace HTb := zH (HTb.out.below hb)
     replace HA' := zH (HA'.out.keep (keeps_of hb))
     replace HX' := zH (HX'.out.keep (keeps_of hb))
     replace HMr := zH (Below.next HMr.out hb)
     replace HAv := zH (HAv.out.keep (keeps_of hb))
     have HI := zH hR
     clear hb hR HA HX
     unfold wpPlanR
     simp only [pickOps, opAt, pkO]
     repeat (go_big_quiet_step (fail))
     refine wpQuiet_nil ?_
     repeat (go_big_quiet_step (fail))
     refine wpQuiet_nil ?_
     go_wp2_with fail
     refine (bjoin_any h1 k1 D1 l1 b1 e1 _).mono ?_
     rintro e w8 ⟨P, Z, rfl, hPl, hP, hZ, hb⟩
     go_wp2_with fail
     refine ⟨⟨fun _ => lessB_of hb HWs.out, trivial⟩, ?_⟩
     have HPl : Hid (wd.heap.size ≤ P ∧ T ≠ P) := zH (by have h1 := HTb.out.lt; have h2 := HWs.out; omega)
     replace HWs : Hid (wd.heap.size ≤ w8.heap.size) := zH (Nat.le_trans HWs.out hb.size)
     replace HTb := zH (HTb.out.below hb)
     replace HA' := zH (HA'.out.keep (keeps_of hb))
     replace HX' := zH (HX'.out.keep (keeps_of hb))
     replace HI := zH (HI.out.keep (keeps_of hb))
     replace HMr := zH (Below.next HMr.out hb)
     replace HAv := zH (HAv.out.keep (keeps_of hb))
     have HP := zH hP
     have HZ := zH hZ
     clear hb hPl hP hZ
     unfold wpPlanR
     simp only [pickOps, opAt, pkO]
     repeat (go_big_quiet_step (fail))
     refine wpQuiet_nil ?_
     repeat (go_big_quiet_step (fail))
     refine wpQuiet_nil ?_
     go_wp2_with fail
     refine (HSP.out acc.2 y' g' C' m' d' r.2 y3 g3 C3 m3 d3 _ HA'.out HX'.out HPa.out.f2 HPr.out.f2).mono ?_
     rintro e w9 ⟨h2, k2, D2, l2, b2, rfl, hR, hb⟩
     obtain ⟨e2, He2⟩ : ∃ z, Hid (opErr ob acc.2 r.2 = z) := ⟨_, rfl⟩
     rw [He2.out]
     go_wp2_with fail
     refine ⟨⟨fun _ => lessB_of hb HWs.out, trivial⟩, ?_⟩
     replace HWs : Hid (wd.heap.size ≤ w9.heap.size) := zH (Nat.le_trans HWs.out hb.size)
     replace HTb := zH (HTb.out.below hb)
     replace HI := zH (HI.out.keep (keeps_of hb))
     replace HMr := zH (Below.next HMr.out hb)
     replace HAv := zH (HAv.out.keep (keeps_of hb))
     replace HP := zH (HP.out.below hb)
     replace HZ := zH (HZ.out.below hb)
     have HJ := zH hR
     clear hb hR HA' HX'
     unfold wpPlanR
     simp only [pickOps, opAt, pkO]
     repeat (go_big_quiet_step (fail))
     refine wpQuiet_nil ?_
     repeat (go_big_quiet_step (fail))
     refine wpQuiet_nil ?_
     obtain ⟨ho1, hn1'⟩ := op_noEmp HPa.out.o1 HPa.out.w1 HPr.out.o1 HPr.out.w1 ob
     obtain ⟨ho2, hn2'⟩ := op_noEmp HPa.out.o2 HPa.out.w2 HPr.out.o2 HPr.out.w2 ob
     rw [He1.out] at ho1
     rw [He2.out] at ho2
     have HO : Hid ((e1 = 0 ∨ e1 = 2) ∧ (e2 = 0 ∨ e2 = 2)) := zH ⟨ho1, ho2⟩
     have HN : Hid (noEmp (opRes ob acc.1 r.1) ∧ noEmp (opRes ob acc.2 r.2)) := zH ⟨hn1', hn2'⟩
     clear ho1 ho2 hn1' hn2'
     go_wp2_with fail
     refine (bjoin1_any h1 k1 D1 l1 b1 (opRes ob acc.1 r.1) e1 h2 k2 D2 l2 b2 (opRes ob acc.2 r.2) e2 P Z _ HP.out HZ.out HI.out HJ.out HN.out.1 HN.out.2).mono ?_
     rintro e v1 ⟨s1, t1, E1, i1, j1, s2, t2, E2, i2, j2, rfl, hI, hJ, hu⟩
     go_wp2_with fail
     refine ⟨⟨fun _ => hu.below (Below.refl wd.heap.size _) HWs.out (fun k hk => by subst hk; exact HPl.out.1), trivial⟩, ?_⟩
     replace HTb := zH (HTb.out.but hu HPl.out.2)
     replace HAv := zH (RgS.off1 HP.out hu (pair_noEmp HPa.out).1 HAv.out)
     replace HMr := zH (hu.below HMr.out HMr.out.size (fun k hk => by subst hk; have h1 := HPl.out.1; have h2 := HMw.out; omega))
     obtain ⟨je, Hje⟩ : ∃ z, Hid (jE e1 e2 = z) := ⟨_, rfl⟩
     have HI2 := zH hI
     have HJ2 := zH hJ
     rw [Hje.out]
     clear hu hI hJ HI HJ HP HZ
     unfold prC
     unfold wpPlanR
     simp only [pickOps, opAt, pkO]
     repeat (go_big_quiet_step (fail))
     refine wpQuiet_nil ?_
     repeat (go_big_quiet_step (fail))
     refine wpQuiet_nil ?_
     have zt := HTb.out.cell
     have ztf := HTb.out.free
     unfold prC at zt
     have HTb2 : Hid (Blk (put6 v1 T s1 t1 E1 i1 j1 s2 t2 E2 i2 j2) T 127 (prC s1 t1 E1 i1 j1 s2 t2 E2 i2 j2)) := zH (put6_blk HTb.out)
     have HMr2 := zH (put6_below (x := s1) (f := t1) (A := E1) (n := i1) (c := j1) (x' := s2) (f' := t2) (A' := E2) (n' := i2) (c' := j2) HMr.out HTl.out)
     unfold put6 at HMr2
     by_cases hall : e1 = 0 ∧ e2 = 0
     · obtain ⟨rfl, rfl⟩ := hall
       have hop1 := op_spec HPa.out.o1 HPa.out.w1 HPr.out.o1 HPr.out.w1 ob
       have hop2 := op_spec HPa.out.o2 HPa.out.w2 HPr.out.o2 HPr.out.w2 ob
       have Hacc : Hid (stepX ob acc r = some (opRes ob acc.1 r.1, opRes ob acc.2 r.2)) := zH (by unfold stepX; rw [if_pos ⟨He1.out, He2.out⟩])
       have HPn : Hid (Pair nc (opRes ob acc.1 r.1, opRes ob acc.2 r.2)) := zH (step_pair HPa.out HPr.out Hacc.out).1
       have Hqn : Hid (G (p.rest (k + 1)) (opRes ob acc.1 r.1, opRes ob acc.2 r.2) = rr) := zH (by rw [← Hq.out, Hst.out, Option.bind_some, Hacc.out]; rfl)
       obtain rfl : 0 = je := by rw [← Hje.out]; rfl
       rw [show jR 0 0 (opRes ob acc.1 r.1) = opRes ob acc.1 r.1 from by rw [jR, if_pos ⟨rfl, rfl⟩]] at HI2
       rw [show jR 0 0 (opRes ob acc.2 r.2) = opRes ob acc.2 r.2 from by rw [jR, if_pos ⟨rfl, rfl⟩]] at HJ2
       have hTa : RgS v1 y g C m d acc.1 ∨ True := .inr trivial
       have HI3 := zH (RgS.off2 (a := acc.1) HTb.out HAv.out (put6_but (w := v1) (B := T) (x := s1) (f := t1) (A := E1) (n := i1) (c := j1) (x' := s2) (f' := t2) (A' := E2) (n' := i2) (c' := j2)) HN.out.1 HI2.out)
       have HJ3 := zH (RgS.off2 (a := acc.1) HTb.out HAv.out (put6_but (w := v1) (B := T) (x := s1) (f := t1) (A := E1) (n := i1) (c := j1) (x' := s2) (f' := t2) (A' := E2) (n' := i2) (c' := j2)) HN.out.2 HJ2.out)
       clear hop1 hop2 hTa
       unfold put6 at HTb2 HI3 HJ3
       go_wp2_with fail
       refine ⟨⟨fun h => (h (by decide)).elim, trivial⟩, ?_⟩
       unfold wpPlanR
       simp only [pickOps, opAt, pkO]
       go_simp
       repeat (go_big_quiet_step (fail))
       refine wpQuiet_nil ?_
       repeat (go_big_quiet_step (fail))
       refine wpQuiet_nil ?_
       go_wp2
       go_roundw
       case rel => exact ⟨k + 1, by omega, by go_num, HMr2, .inl ⟨rfl, (opRes ob acc.1 r.1, opRes ob acc.2 r.2), s1, t1, E1, i1, j1, s2, t2, E2, i2, j2, HTb2, HI3, HJ3, HPn, Hqn⟩⟩
       case measure => simp [intOf]; omega
     · obtain rfl : 2 = je := by
        rw [← Hje.out, jE]
        have h := HO.out
        split <;> omega
       have Hnn : Hid (rr = none) := zH (by
        rw [← Hq.out, Hst.out, Option.bind_some]
        unfold stepX
        rw [if_neg (fun h => hall ⟨by rw [← He1.out]; exact h.1, by rw [← He2.out]; exact h.2⟩)]
        rfl)
       clear hall HTb2
       go_wp2_with fail
       refine ⟨⟨fun h => (h (by decide)).elim, trivial⟩, ?_⟩
       unfold wpPlanR
       simp only [pickOps, opAt, pkO]
       go_simp
       repeat (go_big_quiet_step (fail))
       refine wpQuiet_nil ?_
       repeat (go_big_quiet_step (fail))
       refine wpQuiet_nil ?_
       go_wp2
       go_roundw
       case rel => exact ⟨k + 1, by omega, by go_num, HMr2, .inr ⟨rfl, Hnn⟩⟩
       case measure => simp [intOf]; omega
theorem over_an_any (cols : List Int) (p : Pd) (A : Option Addr) (n c : Nat) (Bc Bw : Nat) (nc : Nat) (w : World) (hs : PrdS w A n c p) (hn : nc ≤ 12) (hcl : cols.length = nc) (hnodes : p.nodes ≤ 1000)
 (hpr : ∀ q ∈ p.args, ∀ r, nodeX cols q = some r → Pair nc r)
 (hwk : ∀ q ∈ p.args, ∀ (A : Option Addr) (n c : Nat) (W : World), Below w.heap.size w W → PrdS W A n c q → Calls Tryz.prog 78 #[.agg (pdV q.h A n c), .pointer (some ⟨Bc, 0, none⟩), .pointer (some ⟨Bw, 0, none⟩)] W fun e w' => WalkRes W (nodeX cols q) e w') :
 Calls Tryz.prog 84 #[.agg #[.func (.func 81) #[] #[], .func (.func 42) #[] #[]], .slice A n c, .int .i64 (nc : Int), .func (.func 78) #[] #[.pointer (some ⟨Bc, 0, none⟩), .pointer (some ⟨Bw, 0, none⟩)]] w fun e w' => WalkRes w ((nx cols p).an (allR nc, allR nc)) e w' :=
 over_any 81 42 (Go.Proofs.enters_of Tryz.func81 (by kernel_rfl) rfl) (Go.Proofs.enters_of Tryz.func42 (by kernel_rfl) rfl) (allR nc) opIr (fun p acc => (nx cols p).an acc) cols p A n c Bc Bw nc w hs hn hcl hnodes
  (fun W => by
   have h := gAll_any (nc : Int) W
   rw [(all_ok0 hn).1, (all_ok0 hn).2] at h
   exact h)
  (fun a xa fa Aa na ca b xb fb Ab nb cb W h1 h2 h3 h4 => gintersect_any a xa fa Aa na ca b xb fb Ab nb cb W h1 h2 h3 h4)
  (all_pair hn) (fun k q hq acc => an_rest hq cols acc) (fun k hk acc => by rw [rest_end hk]; rfl) hpr hwk
theorem over_or_any (cols : List Int) (p : Pd) (A : Option Addr) (n c : Nat) (Bc Bw : Nat) (nc : Nat) (w : World) (hs : PrdS w A n c p) (hn : nc ≤ 12) (hcl : cols.length = nc) (hnodes : p.nodes ≤ 1000)
 (hpr : ∀ q ∈ p.args, ∀ r, nodeX cols q = some r → Pair nc r)
 (hwk : ∀ q ∈ p.args, ∀ (A : Option Addr) (n c : Nat) (W : World), Below w.heap.size w W → PrdS W A n c q → Calls Tryz.prog 78 #[.agg (pdV q.h A n c), .pointer (some ⟨Bc, 0, none⟩), .pointer (some ⟨Bw, 0, none⟩)] W fun e w' => WalkRes W (nodeX cols q) e w') :
 Calls Tryz.prog 84 #[.agg #[.func (.func 83) #[] #[], .func (.func 43) #[] #[]], .slice A n c, .int .i64 (nc : Int), .func (.func 78) #[] #[.pointer (some ⟨Bc, 0, none⟩), .pointer (some ⟨Bw, 0, none⟩)]] w fun e w' => WalkRes w ((nx cols p).or (Rg.nil (nc : Int) false, Rg.nil (nc : Int) false)) e w' :=
 over_any 83 43 (Go.Proofs.enters_of Tryz.func83 (by kernel_rfl) rfl) (Go.Proofs.enters_of Tryz.func43 (by kernel_rfl) rfl) (Rg.nil (nc : Int) false) opUr (fun p acc => (nx cols p).or acc) cols p A n c Bc Bw nc w hs hn hcl hnodes
  (fun W => by
   have h := emptyR_any (nc : Int) W
   rw [if_pos (by omega), if_pos (by omega)] at h
   exact h)
  (fun a xa fa Aa na ca b xb fb Ab nb cb W h1 h2 h3 h4 => gunion_any a xa fa Aa na ca b xb fb Ab nb cb W h1 h2 h3 h4)
  (em_pair hn) (fun k q hq acc => or_rest hq cols acc) (fun k hk acc => by rw [rest_end hk]; rfl) hpr hwk
end Go.Proofs.YtnnmlhmffnfjfaaGreat
