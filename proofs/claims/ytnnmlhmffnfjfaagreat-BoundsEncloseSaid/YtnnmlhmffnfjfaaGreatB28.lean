/-
  Texts: BdCase, BdOpd, Put.
-/
import Derived.Test.YtnnmlhmffnfjfaaGreatB27
set_option linter.unusedVariables false
set_option maxRecDepth 100000
namespace Go.Proofs.YtnnmlhmffnfjfaaGreat
open Go.RowKit
def SomeK (k : Int) (w : World) (g : Nat) (e : Ending) (w' : World) : Prop := (∃ v : Vl, validV v = true ∧ rngV v ∧ v.k = k ∧ e = .returned (.agg #[.int .i64 v.k, .int .i64 v.i, .string v.t])) ∧ CaseAt w' g ∧ But (· = g) w w'
set_option maxHeartbeats 1000000 in
theorem value3_any (g : Nat) (k : Int) (w : World) (hc : CaseAt w g) (hk : k = 3 ∨ k = 4 ∨ k = 5) :
 Calls Tryz.prog 89 #[.pointer (some ⟨g, 0, none⟩), .int .i64 k] w fun e w' => SomeK k w g e w' := by
 have hlt := hc.lt
 have hc0 := hc.below ((Below.refl _ _).alloc (Nat.le_refl _) (.cells #[.int .i64 0, .int .i64 0, .string ⟨#[]⟩] 59))
 have hX := Blk.new w 59 #[.int .i64 0, .int .i64 0, .string ⟨#[]⟩]
 have hB0 : But (· = g) w (w.alloc (.cells #[.int .i64 0, .int .i64 0, .string ⟨#[]⟩] 59)) := But.alloc _ _
 rcases hk with rfl | rfl | rfl
 · go_enter Tryz.func89, Tryz.ntmps89
   go_wp2_with fail
   refine (int_any g 2 _ hc0 (by omega) (by omega)).mono ?_
   rintro e w1 ⟨⟨x, hx1, hx2, rfl⟩, hc1, hb1⟩
   have hX1 := hX.but hb1 (by omega)
   have hXc := hX1.cell
   have hXf := hX1.free
   go_wp2
   refine bodyPost_ret (v := .agg #[.int .i64 3, .int .i64 x, .string ⟨#[]⟩]) (by simp [results, Tryz.results89, go_sem, hXc]) rfl ⟨⟨⟨3, x, ⟨#[]⟩⟩, ?_, ⟨by unfold minI; simp; omega, by simp; omega⟩, rfl, rfl⟩, ?_, ?_⟩
   · have : x = 0 ∨ x = 1 := by omega
     rcases this with rfl | rfl <;> decide +kernel
   · exact case_box hc1 hX1 (by omega) _ _ _
   · exact (((hB0.trans hb1).setNew (p := ⟨w.heap.size, 0, none⟩) (by simp) _).setNew (p := ⟨w.heap.size, 1, none⟩) (by simp) _).setNew (p := ⟨w.heap.size, 2, none⟩) (by simp) _
 · go_enter Tryz.func89, Tryz.ntmps89
   go_wp2_with fail
   refine (number2_any g _ hc0).mono ?_
   rintro e w1 ⟨⟨x, hxr, rfl⟩, hc1, hb1⟩
   have HXR := zH hxr
   clear hxr
   have hX1 := hX.but hb1 (by omega)
   have hXc := hX1.cell
   have hXf := hX1.free
   go_wp2
   refine bodyPost_ret (v := .agg #[.int .i64 4, .int .i64 x, .string ⟨#[]⟩]) (by simp [results, Tryz.results89, go_sem, hXc]) rfl ⟨⟨⟨4, x, ⟨#[]⟩⟩, ?_, HXR.out, rfl, rfl⟩, ?_, ?_⟩
   · simp [validV, ByteArray.toList_eq]
   · exact case_box hc1 hX1 (by omega) _ _ _
   · exact (((hB0.trans hb1).setNew (p := ⟨w.heap.size, 0, none⟩) (by simp) _).setNew (p := ⟨w.heap.size, 1, none⟩) (by simp) _).setNew (p := ⟨w.heap.size, 2, none⟩) (by simp) _
 · go_enter Tryz.func89, Tryz.ntmps89
   go_wp2_with fail
   refine (text_any g _ hc0).mono ?_
   rintro e w1 ⟨⟨x, hx, rfl⟩, hc1, hb1⟩
   have hX1 := hX.but hb1 (by omega)
   have hXc := hX1.cell
   have hXf := hX1.free
   go_wp2
   refine bodyPost_ret (v := .agg #[.int .i64 5, .int .i64 0, .string x]) (by simp [results, Tryz.results89, go_sem, hXc]) rfl ⟨⟨⟨5, 0, x⟩, ?_, ⟨by unfold minI; simp, by simp⟩, rfl, rfl⟩, ?_, ?_⟩
   · simp [validV]; omega
   · exact case_box hc1 hX1 (by omega) _ _ _
   · exact (((hB0.trans hb1).setNew (p := ⟨w.heap.size, 0, none⟩) (by simp) _).setNew (p := ⟨w.heap.size, 1, none⟩) (by simp) _).setNew (p := ⟨w.heap.size, 2, none⟩) (by simp) _
def KindsJ (B most : Nat) (w : World) (g : Nat) (e : Ending) (w' : World) : Prop := ∃ (A : Option Addr) (n c : Nat) (cs : List Int), e = .returned (.slice A n c) ∧ n = cs.length ∧ ClJ B g w' A n cs ∧ colB cs = true ∧ n ≤ most ∧ CaseAt w' g ∧ But (· = g) w w'
theorem colB_app {cs : List Int} {y : Int} (h : colB cs = true) (hy : 3 ≤ y ∧ y ≤ 5) : colB (cs ++ [y]) = true := by
 unfold colB at h ⊢
 rw [List.all_append, h]
 simp [hy]
set_option maxRecDepth 100000 in
set_option maxHeartbeats 4000000 in
theorem kinds6_any (B : Nat) (g : Nat) (W : Nat) (hW : W ≤ 12) (w : World) (hc : CaseAt w g) : Calls Tryz.prog 29 #[.pointer (some ⟨g, 0, none⟩), .int .i64 (W : Int)] w fun e w' => KindsJ B W w g e w' := by
 obtain ⟨i0, hi, hz0, hz1, hz2⟩ := info_parts info_i64
 have hgl := hc.lt
 go_enter Tryz.func29, Tryz.ntmps29
 go_wp2_with fail
 refine (int_any g ((W : Int) + 1) _ hc (by omega) (by omega)).mono ?_
 rintro e w1 ⟨⟨y, hy1, hy2, rfl⟩, hc1, hb1⟩
 obtain ⟨n0, rfl⟩ := Int.eq_ofNat_of_zero_le hy1
 have hn0 : n0 ≤ W := by omega
 clear hy1 hy2
 go_wp2_with fail
 go_loopw [5, 6] (fun v i wr => ∃ (k : Nat) (cs : List Int) (A : Option Addr) (c : Nat), k ≤ W ∧ cs.length + k ≤ W ∧ i = .int .i64 (k : Int) ∧ v = .slice A cs.length c ∧ Hid (wr.ownsRow w.heap.size 3 1 (.slice A cs.length c) cs.length (cs.flatMap i64c)) ∧ Hid (colB cs = true) ∧ Hid (CaseAt wr g) ∧ Hid (But (· = g) w wr)) (fun _ i _ => (intOf i).toNat)
 case atStart => exact ⟨n0, [], none, 0, hn0, by simpa using hn0, rfl, rfl, zH ⟨by simp, .inl ⟨rfl, rfl⟩⟩, zH rfl, zH hc1, zH hb1⟩
 case round =>
  clear hc1 hb1
  obtain ⟨k, cs, A, c, hk, hkl, rfl, rfl, HO, HD, HC, HB⟩ := hrel
  by_cases hlt : 0 < k
  · go_wp2_with fail
    refine (int_any g 3 _ HC.out (by omega) (by omega)).mono ?_
    rintro e w2 ⟨⟨y, hy1, hy2, rfl⟩, hc2, hb2⟩
    have HY : Hid (3 ≤ 3 + y ∧ 3 + y ≤ 5) := zH (by omega)
    have HO2 := zH (own_but HO.out hb2 (fun q hq => by have := (own_lt HO.out hq).1; omega))
    have HC2 := zH hc2
    have HB2 := zH (HB.out.trans hb2)
    have hsz : w.heap.size ≤ w2.heap.size := HB2.out.size
    clear hc2 hb2 HO HC HB
    go_wp2_with (at_builtin; refine wpList_append_one2 (by rfl) (.tmp 15) (.tmp 19) _ (by rfl) w.heap.size 3 i0 _ 1 8 Tryz.underlying65 hi hz0 hz1 hz2 (by rfl) (by omega) (.slice A cs.length c) cs.length _ (by rfl) w2 #[.int .i64 (3 + y)] HO2.out w2.heap.size (by rfl) (by rfl) (by rfl) (one_i64 (3 + y)) (by simp only [maxLen]; omega) (by omega) hsz ?_; intro g6 cap6 w6 hown6 hg6 hB6 hat6 hlt6)
    go_roundw
    case rel =>
     refine ⟨k - 1, cs ++ [3 + y], some ⟨g6, 0, none⟩, cap6, by omega, by simp; omega, congrArg (Value.int .i64) (by omega), by simp, zH ?_, zH (colB_app HD.out HY.out), zH (gcase_belowB HC2.out hB6 hgl), zH (gbut_belowB HB2.out hB6 (Nat.le_refl _))⟩
     rw [List.flatMap_append, List.length_append]
     exact hown6
    case measure => simp [intOf]; omega
  · have HE : Hid (KindsJ B W w g (.returned (.slice A cs.length c)) wr) := zH ⟨A, cs.length, c, cs, rfl, rfl, ⟨Sl.of_own i64c_len rfl HO.out, fun hn b o hA => by
     have h1 := own_lt HO.out (k := b) (by rw [hA]; rfl)
     exact ⟨by omega, .inr h1.2.2⟩⟩, HD.out, by omega, HC.out, HB.out⟩
    go_wp2
    go_ret
    exact HE.out
def RowT (cols : List Int) (w : World) (g : Nat) (e : Ending) (w' : World) : Prop := ∃ (A : Option Addr) (n c : Nat) (l : List Vl), e = .returned (.slice A n c) ∧ typedR cols l ∧ VlS w' A n l ∧ CaseAt w' g ∧ But (· = g) w w'
def typedK (cols : List Int) (l : List Vl) : Prop := ∀ (i : Nat) (v : Vl) (c : Int), l[i]? = some v → cols[i]? = some c → validV v = true ∧ rngV v ∧ (v.k = c ∨ v.k = 1 ∨ v.k = 2)
theorem typedK_app {cols : List Int} {l : List Vl} {v : Vl} {c : Int} (h : typedK cols l) (hc : cols[l.length]? = some c) (hv : validV v = true ∧ rngV v ∧ (v.k = c ∨ v.k = 1 ∨ v.k = 2)) : typedK cols (l ++ [v]) := fun i u d hu hd => by
 rcases Nat.lt_or_ge i l.length with h1 | h1
 · rw [List.getElem?_append_left h1] at hu
   exact h i u d hu hd
 · rw [List.getElem?_append_right h1] at hu
   have h2 : i - l.length = 0 := by
    have := (List.getElem?_eq_some_iff.1 hu).1
    simp at this
    omega
   rw [h2] at hu
   simp only [List.getElem?_cons_zero, Option.some.injEq] at hu
   obtain rfl : i = l.length := by omega
   rw [hc] at hd
   injection hd with hd
   subst hu hd
   exact hv
set_option maxRecDepth 100000 in
set_option maxHeartbeats 8000000 in
theorem row6_any (B : Nat) (g : Nat) (cols : List Int) (Ac : Option Addr) (nc cc : Nat) (w : World) (hc : CaseAt w g) (hl : ClJ B g w Ac nc cols) (hn : nc ≤ 12) (hcb : colB cols = true) : Calls Tryz.prog 36 #[.pointer (some ⟨g, 0, none⟩), .slice Ac nc cc, .int .i64 0, .int .i64 3] w fun e w' => RowT cols w g e w' := by
 obtain ⟨i1, hi, hz0, hz1, hz2⟩ := info_parts info_vl
 have hgl := hc.lt
 have HC0 := zH hc
 have HL0 := zH hl
 have HCB := zH hcb
 have Hlc := zH hl.sl.len
 clear hc hl hcb
 go_enter Tryz.func36, Tryz.ntmps36
 go_wp2_with fail
 go_loopw [9, 14] (fun x i wr => ∃ (k : Nat) (l : List Vl) (A : Option Addr) (c : Nat), k ≤ nc ∧ i = .int .i64 (k : Int) ∧ x = .slice A k c ∧ Hid (wr.ownsRow w.heap.size 59 3 (.slice A k c) k (l.flatMap Vl.cs)) ∧ Hid (l.length = k ∧ typedK cols l) ∧ Hid (CaseAt wr g) ∧ Hid (But (· = g) w wr)) (fun _ i _ => nc - (intOf i).toNat)
 case atStart => exact ⟨0, [], none, 0, by omega, rfl, rfl, zH ⟨by simp, .inl ⟨rfl, rfl⟩⟩, zH ⟨rfl, fun i v c h => (by simp at h)⟩, HC0, zH (But.refl _ _)⟩
 case round =>
  clear HC0
  obtain ⟨k, l, A, c, hk, rfl, rfl, HO, HT, HC, HB⟩ := hrel
  by_cases hlt : k < nc
  rotate_left
  · obtain rfl : k = nc := by omega
    have HE : Hid (RowT cols w g (.returned (.slice A k c)) wr) := zH ⟨A, k, c, l, rfl, ⟨by rw [HT.out.1, Hlc.out], HT.out.2⟩, Sl.of_own Vl.cs_len HT.out.1 HO.out, HC.out, HB.out⟩
    go_wp2
    go_ret
    exact HE.out
  obtain ⟨bc, oc, kk, rfl, hx, hxc⟩ := (HL0.out.case HB.out).sl.at hlt
  have d0 := hxc 0 _ rfl
  simp only [Nat.mul_one, Nat.add_zero] at d0
  have Hx : Hid (cols[l.length]? = some kk) := zH (by rw [HT.out.1]; exact hx)
  have Hkk : Hid (kk = 3 ∨ kk = 4 ∨ kk = 5) := zH (by
   have h := List.all_eq_true.1 HCB.out kk (List.mem_of_getElem? hx)
   have h := of_decide_eq_true h
   omega)
  clear hx hxc
  go_wp2_with fail
  refine (bool_any g 5 _ HC.out (by omega) (by omega)).mono ?_
  rintro e w2 ⟨⟨b1, rfl⟩, hc2, hb2⟩
  clear d0
  replace HO := zH (own_but HO.out hb2 (fun q hq => by have := (own_lt HO.out hq).1; omega))
  replace HB := zH (HB.out.trans hb2)
  replace HC := zH hc2
  clear hc2 hb2
  cases b1
  rotate_left
  · have hsz : w.heap.size ≤ w2.heap.size := HB.out.size
    go_wp2_with (at_builtin; refine wpList_append_one2 (by rfl) (.tmp 37) (.tmp 39) _ (by rfl) w.heap.size 59 i1 _ 3 32 Tryz.underlying53 hi hz0 hz1 hz2 (by rfl) (by omega) (.slice A k c) k _ (by rfl) w2 _ HO.out w2.heap.size (by rfl) (by rfl) (by rfl) (one_vl ⟨2, 0, ⟨#[]⟩⟩) (by simp only [maxLen]; omega) (by omega) hsz ?_; intro g6 cap6 w6 hown6 hg6 hB6 hat6 hlt6)
    go_roundw
    case rel =>
     refine ⟨k + 1, l ++ [⟨2, 0, ⟨#[]⟩⟩], some ⟨g6, 0, none⟩, cap6, by omega, by go_num, rfl, zH ?_, zH ⟨by rw [List.length_append, HT.out.1]; rfl, typedK_app HT.out.2 Hx.out ⟨by decide +kernel, ⟨by unfold minI; simp, by simp⟩, .inr (.inr rfl)⟩⟩, zH (gcase_belowB HC.out hB6 hgl), zH (gbut_belowB HB.out hB6 (Nat.le_refl _))⟩
     rw [List.flatMap_append]
     exact hown6
    case measure => simp [intOf]; omega
  go_wp2_with fail
  refine (bool_any g 5 _ HC.out (by omega) (by omega)).mono ?_
  rintro e w3 ⟨⟨b2, rfl⟩, hc3, hb3⟩
  replace HO := zH (own_but HO.out hb3 (fun q hq => by have := (own_lt HO.out hq).1; omega))
  replace HB := zH (HB.out.trans hb3)
  replace HC := zH hc3
  clear hc3 hb3
  cases b2
  rotate_left
  · have hsz : w.heap.size ≤ w3.heap.size := HB.out.size
    go_wp2_with (at_builtin; refine wpList_append_one2 (by rfl) (.tmp 53) (.tmp 55) _ (by rfl) w.heap.size 59 i1 _ 3 32 Tryz.underlying53 hi hz0 hz1 hz2 (by rfl) (by omega) (.slice A k c) k _ (by rfl) w3 _ HO.out w3.heap.size (by rfl) (by rfl) (by rfl) (one_vl ⟨1, 0, ⟨#[]⟩⟩) (by simp only [maxLen]; omega) (by omega) hsz ?_; intro g6 cap6 w6 hown6 hg6 hB6 hat6 hlt6)
    go_roundw
    case rel =>
     refine ⟨k + 1, l ++ [⟨1, 0, ⟨#[]⟩⟩], some ⟨g6, 0, none⟩, cap6, by omega, by go_num, rfl, zH ?_, zH ⟨by rw [List.length_append, HT.out.1]; rfl, typedK_app HT.out.2 Hx.out ⟨by decide +kernel, ⟨by unfold minI; simp, by simp⟩, .inr (.inl rfl)⟩⟩, zH (gcase_belowB HC.out hB6 hgl), zH (gbut_belowB HB.out hB6 (Nat.le_refl _))⟩
     rw [List.flatMap_append]
     exact hown6
    case measure => simp [intOf]; omega
  go_wp2_with fail
  refine (value3_any g kk _ HC.out Hkk.out).mono ?_
  rintro e w4 ⟨⟨⟨vk, vi, vt⟩, hv1, hv2, hv3, rfl⟩, hc4, hb4⟩
  have HVv : Hid (validV ⟨vk, vi, vt⟩ = true ∧ rngV ⟨vk, vi, vt⟩ ∧ (vk = kk ∨ vk = 1 ∨ vk = 2)) := zH ⟨hv1, hv2, .inl hv3⟩
  replace HO := zH (own_but HO.out hb4 (fun q hq => by have := (own_lt HO.out hq).1; omega))
  replace HB := zH (HB.out.trans hb4)
  replace HC := zH hc4
  have hsz : w.heap.size ≤ w4.heap.size := HB.out.size
  clear hc4 hb4 hv1 hv2 hv3
  go_wp2_with (at_builtin; refine wpList_append_one2 (by rfl) (.tmp 19) (.tmp 23) _ (by rfl) w.heap.size 59 i1 _ 3 32 Tryz.underlying53 hi hz0 hz1 hz2 (by rfl) (by omega) (.slice A k c) k _ (by rfl) w4 _ HO.out w4.heap.size (by rfl) (by rfl) (by rfl) (one_vl ⟨vk, vi, vt⟩) (by simp only [maxLen]; omega) (by omega) hsz ?_; intro g6 cap6 w6 hown6 hg6 hB6 hat6 hlt6)
  go_roundw
  case rel =>
   refine ⟨k + 1, l ++ [⟨vk, vi, vt⟩], some ⟨g6, 0, none⟩, cap6, by omega, by go_num, rfl, zH ?_, zH ⟨by rw [List.length_append, HT.out.1]; rfl, typedK_app HT.out.2 Hx.out HVv.out⟩, zH (gcase_belowB HC.out hB6 hgl), zH (gbut_belowB HB.out hB6 (Nat.le_refl _))⟩
   rw [List.flatMap_append]
   exact hown6
  case measure => simp [intOf]; omega
theorem info_od : (Tryz.prog.info? 61).map (fun i => (i.zero, i.size, i.bytes)) = some (some (.agg #[.int .i64 0, .int .i64 0, .int .i64 0, .int .i64 0, .string ⟨#[]⟩]), 5, 48) := by kernel_rfl
structure OdOk (cols : List Int) (k : Int) (o : Od) : Prop where
 rg : rngV o.v
 kd : kindOf cols [] o = k
def OpdR (cols : List Int) (k : Int) (w : World) (g : Nat) (e : Ending) (w' : World) : Prop := ∃ o : Od, e = .returned (.agg #[.int .i64 o.k, .int .i64 o.ix, .int .i64 o.v.k, .int .i64 o.v.i, .string o.v.t]) ∧ OdOk cols k o ∧ CaseAt w' g ∧ But (· = g) w w'
def opC (i : Nat) : List Value := [.int .i64 1, .int .i64 (i : Int), .int .i64 0, .int .i64 0, .string ⟨#[]⟩]
theorem opC_len (i : Nat) : (opC i).length = 5 := rfl
theorem one_op (i : Nat) : ∀ u ∈ opC i, u.oneCell' = true := by simp [opC, Value.oneCell']
theorem od_col {cols : List Int} {k : Int} {i : Nat} (h : cols[i]? = some k) : OdOk cols k ⟨1, (i : Int), zeroV⟩ := by
 have hl := (List.getElem?_eq_some_iff.1 h).1
 refine ⟨⟨by show minI ≤ (0 : Int); decide, by show (0 : Int) ≤ 9223372036854775807; decide⟩, ?_⟩
 unfold kindOf
 rw [if_neg (by show ¬ (1 : Int) = 3; decide), if_pos rfl, if_pos ⟨by show (0 : Int) ≤ (i : Int); omega, by show (i : Int) < _; omega, rfl⟩]
 show cols.getD ((i : Int).toNat) 0 = k
 rw [Int.toNat_natCast, List.getD_eq_getElem?_getD, h]
 rfl
theorem od_val {cols : List Int} {k : Int} {v : Vl} (hv : validV v = true) (hr : rngV v) (hk : v.k = k) (h3 : k = 3 ∨ k = 4 ∨ k = 5) : OdOk cols k ⟨3, 0, v⟩ := by
 refine ⟨hr, ?_⟩
 unfold kindOf
 rw [if_pos rfl, if_pos ⟨rfl, real_k.2 ⟨hv, by show 3 ≤ v.k; omega⟩⟩]
 exact hk
theorem case_far {w w' : World} {g U : Nat} (h : CaseAt w g) (hb : But (· = U) w w') (hU : g < U) : CaseAt w' g := h.far hb fun b e => by omega
theorem but_new {w0 w w' : World} {g U : Nat} (h : But (· = g) w0 w) (hb : But (· = U) w w') (hU : w0.heap.size ≤ U) : But (· = g) w0 w' := h.then hb fun q e => by omega
set_option maxRecDepth 100000 in
set_option maxHeartbeats 8000000 in
theorem operand_any (B : Nat) (g : Nat) (cols : List Int) (Ac : Option Addr) (nc cc : Nat) (kk : Int) (w : World) (hc : CaseAt w g) (hl : ClJ B g w Ac nc cols) (hn : nc ≤ 12) (hk : kk = 3 ∨ kk = 4 ∨ kk = 5) : Calls Tryz.prog 127 #[.pointer (some ⟨g, 0, none⟩), .slice Ac nc cc, .slice none 0 0, .int .i64 kk] w fun e w' => OpdR cols kk w g e w' := by
 obtain ⟨i1, hi, hz0, hz1, hz2⟩ := info_parts info_od
 have hgl := hc.lt
 obtain ⟨W0, HW0⟩ : ∃ W : World, Hid (w.alloc (.cells #[.int .i64 0, .int .i64 0, .int .i64 0, .int .i64 0, .string ⟨#[]⟩] 61) = W) := ⟨_, rfl⟩
 have HT : Hid (Blk W0 w.heap.size 61 #[.int .i64 0, .int .i64 0, .int .i64 0, .int .i64 0, .string ⟨#[]⟩]) := by rw [← HW0.out]; exact zH (Blk.new _ _ _)
 have HB0 : Hid (But (· = g) w W0) := by rw [← HW0.out]; exact zH (But.alloc _ _)
 have HC0 : Hid (CaseAt W0 g) := by rw [← HW0.out]; exact zH (hc.below ((Below.refl _ _).alloc (Nat.le_refl _) _))
 have HS0 : Hid (W0.heap.size = w.heap.size + 1) := by rw [← HW0.out]; exact zH (by simp)
 have HL0 := zH hl
 have HK := zH hk
 clear hc hl hk
 obtain ⟨T, HTe⟩ : ∃ z, Hid (w.heap.size = z) := ⟨_, rfl⟩
 rw [HTe.out] at HT HS0
 go_enter Tryz.func127, Tryz.ntmps127
 go_wp2_with fail
 rw [HW0.out, HTe.out]
 go_loopw [9, 17] (fun x i wr => ∃ (k : Nat) (l : List Nat) (A : Option Addr) (c : Nat), k ≤ nc ∧ i = .int .i64 (k : Int) ∧ x = .slice A l.length c ∧ Hid (l.length ≤ k) ∧ Hid (wr.ownsRow W0.heap.size 61 5 (.slice A l.length c) l.length (l.flatMap opC)) ∧ Hid (∀ i ∈ l, cols[i]? = some kk) ∧ Hid (CaseAt wr g) ∧ Hid (Blk wr T 61 #[.int .i64 0, .int .i64 0, .int .i64 0, .int .i64 0, .string ⟨#[]⟩]) ∧ Hid (But (· = g) w wr)) (fun _ i _ => nc - (intOf i).toNat)
 case atStart => exact ⟨0, [], none, 0, by omega, rfl, rfl, zH (Nat.le_refl _), zH ⟨by simp, .inl ⟨rfl, rfl⟩⟩, zH (fun i h => by cases h), HC0, HT, HB0⟩
 case round =>
  clear HC0 HT HB0
  obtain ⟨k, l, A, c, hkn, rfl, rfl, HLk, HO, HI, HC, HT, HB⟩ := hrel
  by_cases hlt : k < nc
  · obtain ⟨bc, oc, x, rfl, hx, hxc⟩ := (HL0.out.case HB.out).sl.at hlt
    have d0 := hxc 0 _ rfl
    simp only [Nat.mul_one, Nat.add_zero] at d0
    have Hx := zH hx
    clear hx hxc
    by_cases hxk : x = kk
    · subst hxk
      have hsz : W0.heap.size ≤ wr.heap.size := by rw [HS0.out]; have := HT.out.lt; omega
      have hlk := HLk.out
      go_wp2_with (at_builtin; refine wpList_append_one2 (by rfl) (.tmp 25) (.tmp 28) _ (by rfl) W0.heap.size 61 i1 _ 5 48 Tryz.underlying210 hi hz0 hz1 hz2 (by rfl) (by omega) (.slice A l.length c) l.length _ (by rfl) wr _ HO.out wr.heap.size (by rfl) (by rfl) (by rfl) (one_op k) (by simp only [maxLen]; omega) (by omega) hsz ?_; intro g6 cap6 w6 hown6 hg6 hB6 hat6 hlt6)
      go_roundw
      case rel =>
       refine ⟨k + 1, l ++ [k], some ⟨g6, 0, none⟩, cap6, by omega, by go_num, by simp, zH (by simp; omega), zH ?_, zH (fun i hi => ?_), zH (gcase_belowB HC.out hB6 (by have := HS0.out; have := HTe.out; omega)), zH ?_, zH (gbut_belowB HB.out hB6 (by have := HS0.out; have := HTe.out; omega))⟩
       · rw [List.flatMap_append, List.length_append]
         exact hown6
       · rcases List.mem_append.1 hi with hi | hi
         · exact HI.out i hi
         · rw [List.mem_singleton.1 hi]
           exact Hx.out
       · exact (hB6.block T (by have := HS0.out; omega)).trans HT.out
      case measure => simp [intOf]; omega
    · have g1 : (x == kk) = false := by simp [hxk]
      clear hxk
      go_wp2
      go_roundw
      case rel => exact ⟨k + 1, l, A, c, by omega, by go_num, rfl, zH (by have := HLk.out; omega), HO, HI, HC, HT, HB⟩
      case measure => simp [intOf]; omega
  · obtain rfl : k = nc := by omega
    have hlk := HLk.out
    go_wp2_with fail
    go_loopw [9, 33] (fun x i wx => x = .slice A l.length c ∧ i = .int .i64 0 ∧ wx = wr) (fun _ _ _ => 0)
    case atStart => exact ⟨rfl, rfl, rfl⟩
    case round =>
     obtain ⟨rfl, rfl, rfl⟩ := hrel
     go_wp2_with fail
     refine (int_any g ((l.length : Int) + 1) _ HC.out (by omega) (by omega)).mono ?_
     rintro e w2 ⟨⟨y, hy1, hy2, rfl⟩, hc2, hb2⟩
     obtain ⟨n0, rfl⟩ := Int.eq_ofNat_of_zero_le hy1
     have hn0 : n0 ≤ l.length := by omega
     clear hy1 hy2
     have HTg : Hid (T ≠ g) := zH (HC.out.ne HT.out (by decide))
     replace HO := zH (own_but HO.out hb2 (fun q hq => by have := (own_lt HO.out hq).1; have := HS0.out; have := HTe.out; omega))
     replace HT := zH (HT.out.but hb2 HTg.out)
     replace HB := zH (HB.out.trans hb2)
     replace HC := zH hc2
     clear hc2 hb2
     have HgT : Hid (g < T) := zH (by have := HTe.out; omega)
     have HwT : Hid (w.heap.size ≤ T) := zH (by have := HTe.out; omega)
     by_cases hlt2 : n0 < l.length
     · obtain ⟨b, o, x, rfl, hx, hxc⟩ := (Sl.of_own opC_len rfl HO.out).at hlt2
       have d0 := hxc 0 _ rfl
       have d1 := hxc 1 _ rfl
       have d2 := hxc 2 _ rfl
       have d3 := hxc 3 _ rfl
       have d4 := hxc 4 _ rfl
       simp only [Nat.add_zero] at d0
       have Hok := zH (od_col (HI.out x (List.mem_of_getElem? hx)))
       have HE : Hid (OpdR cols kk w g (.returned (.agg #[.int .i64 1, .int .i64 (x : Int), .int .i64 0, .int .i64 0, .string ⟨#[]⟩])) (putL w2 T 0 [.int .i64 1, .int .i64 (x : Int), .int .i64 0, .int .i64 0, .string ⟨#[]⟩])) := zH ⟨_, rfl, Hok.out, case_far HC.out (putL_but _ _ _ _) HgT.out, but_new HB.out (putL_but _ _ _ _) HwT.out⟩
       have yb0 := putL_blk [] 0 HT.out
       have yc0 := yb0.cell
       have yf0 := yb0.free
       have yb1 := putL_blk [.int .i64 1] 0 HT.out
       have yc1 := yb1.cell
       have yf1 := yb1.free
       have yb2 := putL_blk [.int .i64 1, .int .i64 (x : Int)] 0 HT.out
       have yc2 := yb2.cell
       have yf2 := yb2.free
       have yb3 := putL_blk [.int .i64 1, .int .i64 (x : Int), .int .i64 0] 0 HT.out
       have yc3 := yb3.cell
       have yf3 := yb3.free
       have yb4 := putL_blk [.int .i64 1, .int .i64 (x : Int), .int .i64 0, .int .i64 0] 0 HT.out
       have yc4 := yb4.cell
       have yf4 := yb4.free
       have yb5 := putL_blk [.int .i64 1, .int .i64 (x : Int), .int .i64 0, .int .i64 0, .string ⟨#[]⟩] 0 HT.out
       have yc5 := yb5.cell
       simp only [putL, putA, Nat.zero_add, Nat.reduceAdd] at yc0 yc1 yc2 yc3 yc4 yc5 yf0 yf1 yf2 yf3 yf4
       clear yb0 yb1 yb2 yb3 yb4 yb5
       simp only [putL, Nat.zero_add, Nat.reduceAdd] at HE
       clear hx hxc HL0 HO HI HLk HC HB HTe HwT HgT HS0 HW0 hi hz0 hz1 hz2 HTg Hok HK
       go_wp2
       exact bodyPost_ret (v := .agg #[.int .i64 1, .int .i64 (x : Int), .int .i64 0, .int .i64 0, .string ⟨#[]⟩]) (by simp [results, Tryz.results127, go_sem, yc5]) rfl HE.out
     · go_wp2_with fail
       refine (value3_any g kk _ HC.out HK.out).mono ?_
       rintro e w4 ⟨⟨⟨vk, vi, vt⟩, hv1, hv2, hv3, rfl⟩, hc4, hb4⟩
       have Hok := zH (od_val (cols := cols) hv1 hv2 hv3 HK.out)
       replace HT := zH (HT.out.but hb4 HTg.out)
       replace HB := zH (HB.out.trans hb4)
       replace HC := zH hc4
       clear hc4 hb4 hv1 hv2 hv3
       have HE : Hid (OpdR cols kk w g (.returned (.agg #[.int .i64 3, .int .i64 0, .int .i64 vk, .int .i64 vi, .string vt])) (putL w4 T 0 [.int .i64 3, .int .i64 0, .int .i64 vk, .int .i64 vi, .string vt])) := zH ⟨_, rfl, Hok.out, case_far HC.out (putL_but _ _ _ _) HgT.out, but_new HB.out (putL_but _ _ _ _) HwT.out⟩
       have yb0 := putL_blk [] 0 HT.out
       have yc0 := yb0.cell
       have yf0 := yb0.free
       have yb1 := putL_blk [.int .i64 3] 0 HT.out
       have yc1 := yb1.cell
       have yf1 := yb1.free
       have yb2 := putL_blk [.int .i64 3, .int .i64 0] 0 HT.out
       have yc2 := yb2.cell
       have yf2 := yb2.free
       have yb3 := putL_blk [.int .i64 3, .int .i64 0, .int .i64 vk] 0 HT.out
       have yc3 := yb3.cell
       have yf3 := yb3.free
       have yb4 := putL_blk [.int .i64 3, .int .i64 0, .int .i64 vk, .int .i64 vi] 0 HT.out
       have yc4 := yb4.cell
       have yf4 := yb4.free
       have yb5 := putL_blk [.int .i64 3, .int .i64 0, .int .i64 vk, .int .i64 vi, .string vt] 0 HT.out
       have yc5 := yb5.cell
       simp only [putL, putA, Nat.zero_add, Nat.reduceAdd] at yc0 yc1 yc2 yc3 yc4 yc5 yf0 yf1 yf2 yf3 yf4
       clear yb0 yb1 yb2 yb3 yb4 yb5
       simp only [putL, Nat.zero_add, Nat.reduceAdd] at HE
       go_wp2
       exact bodyPost_ret (v := .agg #[.int .i64 3, .int .i64 0, .int .i64 vk, .int .i64 vi, .string vt]) (by simp [results, Tryz.results127, go_sem, yc5]) rfl HE.out
theorem put13 {w : World} {U : Nat} {T : TypeId} {a0 a1 a2 a3 a4 a5 a6 a7 a8 a9 a10 a11 a12 : Value} (h : Blk w U T #[a0, a1, a2, a3, a4, a5, a6, a7, a8, a9, a10, a11, a12]) (v0 v1 v2 v3 v4 v5 v6 v7 v8 v9 v10 v11 v12 : Value) :
 (∀ i, (w).cell? ⟨U, i, none⟩ = (#[a0, a1, a2, a3, a4, a5, a6, a7, a8, a9, a10, a11, a12] : Array Value)[i]?) ∧
 (∀ i, (w).frozen? ⟨U, i, none⟩ = false) ∧
 (∀ i, ((w).setCell ⟨U, 0, none⟩ v0).cell? ⟨U, i, none⟩ = (#[v0, a1, a2, a3, a4, a5, a6, a7, a8, a9, a10, a11, a12] : Array Value)[i]?) ∧
 (∀ i, ((w).setCell ⟨U, 0, none⟩ v0).frozen? ⟨U, i, none⟩ = false) ∧
 (∀ i, (((w).setCell ⟨U, 0, none⟩ v0).setCell ⟨U, 1, none⟩ v1).cell? ⟨U, i, none⟩ = (#[v0, v1, a2, a3, a4, a5, a6, a7, a8, a9, a10, a11, a12] : Array Value)[i]?) ∧
 (∀ i, (((w).setCell ⟨U, 0, none⟩ v0).setCell ⟨U, 1, none⟩ v1).frozen? ⟨U, i, none⟩ = false) ∧
 (∀ i, ((((w).setCell ⟨U, 0, none⟩ v0).setCell ⟨U, 1, none⟩ v1).setCell ⟨U, 2, none⟩ v2).cell? ⟨U, i, none⟩ = (#[v0, v1, v2, a3, a4, a5, a6, a7, a8, a9, a10, a11, a12] : Array Value)[i]?) ∧
 (∀ i, ((((w).setCell ⟨U, 0, none⟩ v0).setCell ⟨U, 1, none⟩ v1).setCell ⟨U, 2, none⟩ v2).frozen? ⟨U, i, none⟩ = false) ∧
 (∀ i, (((((w).setCell ⟨U, 0, none⟩ v0).setCell ⟨U, 1, none⟩ v1).setCell ⟨U, 2, none⟩ v2).setCell ⟨U, 3, none⟩ v3).cell? ⟨U, i, none⟩ = (#[v0, v1, v2, v3, a4, a5, a6, a7, a8, a9, a10, a11, a12] : Array Value)[i]?) ∧
 (∀ i, (((((w).setCell ⟨U, 0, none⟩ v0).setCell ⟨U, 1, none⟩ v1).setCell ⟨U, 2, none⟩ v2).setCell ⟨U, 3, none⟩ v3).frozen? ⟨U, i, none⟩ = false) ∧
 (∀ i, ((((((w).setCell ⟨U, 0, none⟩ v0).setCell ⟨U, 1, none⟩ v1).setCell ⟨U, 2, none⟩ v2).setCell ⟨U, 3, none⟩ v3).setCell ⟨U, 4, none⟩ v4).cell? ⟨U, i, none⟩ = (#[v0, v1, v2, v3, v4, a5, a6, a7, a8, a9, a10, a11, a12] : Array Value)[i]?) ∧
 (∀ i, ((((((w).setCell ⟨U, 0, none⟩ v0).setCell ⟨U, 1, none⟩ v1).setCell ⟨U, 2, none⟩ v2).setCell ⟨U, 3, none⟩ v3).setCell ⟨U, 4, none⟩ v4).frozen? ⟨U, i, none⟩ = false) ∧
 (∀ i, (((((((w).setCell ⟨U, 0, none⟩ v0).setCell ⟨U, 1, none⟩ v1).setCell ⟨U, 2, none⟩ v2).setCell ⟨U, 3, none⟩ v3).setCell ⟨U, 4, none⟩ v4).setCell ⟨U, 5, none⟩ v5).cell? ⟨U, i, none⟩ = (#[v0, v1, v2, v3, v4, v5, a6, a7, a8, a9, a10, a11, a12] : Array Value)[i]?) ∧
 (∀ i, (((((((w).setCell ⟨U, 0, none⟩ v0).setCell ⟨U, 1, none⟩ v1).setCell ⟨U, 2, none⟩ v2).setCell ⟨U, 3, none⟩ v3).setCell ⟨U, 4, none⟩ v4).setCell ⟨U, 5, none⟩ v5).frozen? ⟨U, i, none⟩ = false) ∧
 (∀ i, ((((((((w).setCell ⟨U, 0, none⟩ v0).setCell ⟨U, 1, none⟩ v1).setCell ⟨U, 2, none⟩ v2).setCell ⟨U, 3, none⟩ v3).setCell ⟨U, 4, none⟩ v4).setCell ⟨U, 5, none⟩ v5).setCell ⟨U, 6, none⟩ v6).cell? ⟨U, i, none⟩ = (#[v0, v1, v2, v3, v4, v5, v6, a7, a8, a9, a10, a11, a12] : Array Value)[i]?) ∧
 (∀ i, ((((((((w).setCell ⟨U, 0, none⟩ v0).setCell ⟨U, 1, none⟩ v1).setCell ⟨U, 2, none⟩ v2).setCell ⟨U, 3, none⟩ v3).setCell ⟨U, 4, none⟩ v4).setCell ⟨U, 5, none⟩ v5).setCell ⟨U, 6, none⟩ v6).frozen? ⟨U, i, none⟩ = false) ∧
 (∀ i, (((((((((w).setCell ⟨U, 0, none⟩ v0).setCell ⟨U, 1, none⟩ v1).setCell ⟨U, 2, none⟩ v2).setCell ⟨U, 3, none⟩ v3).setCell ⟨U, 4, none⟩ v4).setCell ⟨U, 5, none⟩ v5).setCell ⟨U, 6, none⟩ v6).setCell ⟨U, 7, none⟩ v7).cell? ⟨U, i, none⟩ = (#[v0, v1, v2, v3, v4, v5, v6, v7, a8, a9, a10, a11, a12] : Array Value)[i]?) ∧
 (∀ i, (((((((((w).setCell ⟨U, 0, none⟩ v0).setCell ⟨U, 1, none⟩ v1).setCell ⟨U, 2, none⟩ v2).setCell ⟨U, 3, none⟩ v3).setCell ⟨U, 4, none⟩ v4).setCell ⟨U, 5, none⟩ v5).setCell ⟨U, 6, none⟩ v6).setCell ⟨U, 7, none⟩ v7).frozen? ⟨U, i, none⟩ = false) ∧
 (∀ i, ((((((((((w).setCell ⟨U, 0, none⟩ v0).setCell ⟨U, 1, none⟩ v1).setCell ⟨U, 2, none⟩ v2).setCell ⟨U, 3, none⟩ v3).setCell ⟨U, 4, none⟩ v4).setCell ⟨U, 5, none⟩ v5).setCell ⟨U, 6, none⟩ v6).setCell ⟨U, 7, none⟩ v7).setCell ⟨U, 8, none⟩ v8).cell? ⟨U, i, none⟩ = (#[v0, v1, v2, v3, v4, v5, v6, v7, v8, a9, a10, a11, a12] : Array Value)[i]?) ∧
 (∀ i, ((((((((((w).setCell ⟨U, 0, none⟩ v0).setCell ⟨U, 1, none⟩ v1).setCell ⟨U, 2, none⟩ v2).setCell ⟨U, 3, none⟩ v3).setCell ⟨U, 4, none⟩ v4).setCell ⟨U, 5, none⟩ v5).setCell ⟨U, 6, none⟩ v6).setCell ⟨U, 7, none⟩ v7).setCell ⟨U, 8, none⟩ v8).frozen? ⟨U, i, none⟩ = false) ∧
 (∀ i, (((((((((((w).setCell ⟨U, 0, none⟩ v0).setCell ⟨U, 1, none⟩ v1).setCell ⟨U, 2, none⟩ v2).setCell ⟨U, 3, none⟩ v3).setCell ⟨U, 4, none⟩ v4).setCell ⟨U, 5, none⟩ v5).setCell ⟨U, 6, none⟩ v6).setCell ⟨U, 7, none⟩ v7).setCell ⟨U, 8, none⟩ v8).setCell ⟨U, 9, none⟩ v9).cell? ⟨U, i, none⟩ = (#[v0, v1, v2, v3, v4, v5, v6, v7, v8, v9, a10, a11, a12] : Array Value)[i]?) ∧
 (∀ i, (((((((((((w).setCell ⟨U, 0, none⟩ v0).setCell ⟨U, 1, none⟩ v1).setCell ⟨U, 2, none⟩ v2).setCell ⟨U, 3, none⟩ v3).setCell ⟨U, 4, none⟩ v4).setCell ⟨U, 5, none⟩ v5).setCell ⟨U, 6, none⟩ v6).setCell ⟨U, 7, none⟩ v7).setCell ⟨U, 8, none⟩ v8).setCell ⟨U, 9, none⟩ v9).frozen? ⟨U, i, none⟩ = false) ∧
 (∀ i, ((((((((((((w).setCell ⟨U, 0, none⟩ v0).setCell ⟨U, 1, none⟩ v1).setCell ⟨U, 2, none⟩ v2).setCell ⟨U, 3, none⟩ v3).setCell ⟨U, 4, none⟩ v4).setCell ⟨U, 5, none⟩ v5).setCell ⟨U, 6, none⟩ v6).setCell ⟨U, 7, none⟩ v7).setCell ⟨U, 8, none⟩ v8).setCell ⟨U, 9, none⟩ v9).setCell ⟨U, 10, none⟩ v10).cell? ⟨U, i, none⟩ = (#[v0, v1, v2, v3, v4, v5, v6, v7, v8, v9, v10, a11, a12] : Array Value)[i]?) ∧
 (∀ i, ((((((((((((w).setCell ⟨U, 0, none⟩ v0).setCell ⟨U, 1, none⟩ v1).setCell ⟨U, 2, none⟩ v2).setCell ⟨U, 3, none⟩ v3).setCell ⟨U, 4, none⟩ v4).setCell ⟨U, 5, none⟩ v5).setCell ⟨U, 6, none⟩ v6).setCell ⟨U, 7, none⟩ v7).setCell ⟨U, 8, none⟩ v8).setCell ⟨U, 9, none⟩ v9).setCell ⟨U, 10, none⟩ v10).frozen? ⟨U, i, none⟩ = false) ∧
 (∀ i, (((((((((((((w).setCell ⟨U, 0, none⟩ v0).setCell ⟨U, 1, none⟩ v1).setCell ⟨U, 2, none⟩ v2).setCell ⟨U, 3, none⟩ v3).setCell ⟨U, 4, none⟩ v4).setCell ⟨U, 5, none⟩ v5).setCell ⟨U, 6, none⟩ v6).setCell ⟨U, 7, none⟩ v7).setCell ⟨U, 8, none⟩ v8).setCell ⟨U, 9, none⟩ v9).setCell ⟨U, 10, none⟩ v10).setCell ⟨U, 11, none⟩ v11).cell? ⟨U, i, none⟩ = (#[v0, v1, v2, v3, v4, v5, v6, v7, v8, v9, v10, v11, a12] : Array Value)[i]?) ∧
 (∀ i, (((((((((((((w).setCell ⟨U, 0, none⟩ v0).setCell ⟨U, 1, none⟩ v1).setCell ⟨U, 2, none⟩ v2).setCell ⟨U, 3, none⟩ v3).setCell ⟨U, 4, none⟩ v4).setCell ⟨U, 5, none⟩ v5).setCell ⟨U, 6, none⟩ v6).setCell ⟨U, 7, none⟩ v7).setCell ⟨U, 8, none⟩ v8).setCell ⟨U, 9, none⟩ v9).setCell ⟨U, 10, none⟩ v10).setCell ⟨U, 11, none⟩ v11).frozen? ⟨U, i, none⟩ = false) ∧
 (∀ i, ((((((((((((((w).setCell ⟨U, 0, none⟩ v0).setCell ⟨U, 1, none⟩ v1).setCell ⟨U, 2, none⟩ v2).setCell ⟨U, 3, none⟩ v3).setCell ⟨U, 4, none⟩ v4).setCell ⟨U, 5, none⟩ v5).setCell ⟨U, 6, none⟩ v6).setCell ⟨U, 7, none⟩ v7).setCell ⟨U, 8, none⟩ v8).setCell ⟨U, 9, none⟩ v9).setCell ⟨U, 10, none⟩ v10).setCell ⟨U, 11, none⟩ v11).setCell ⟨U, 12, none⟩ v12).cell? ⟨U, i, none⟩ = (#[v0, v1, v2, v3, v4, v5, v6, v7, v8, v9, v10, v11, v12] : Array Value)[i]?) ∧
 Blk ((((((((((((((w).setCell ⟨U, 0, none⟩ v0).setCell ⟨U, 1, none⟩ v1).setCell ⟨U, 2, none⟩ v2).setCell ⟨U, 3, none⟩ v3).setCell ⟨U, 4, none⟩ v4).setCell ⟨U, 5, none⟩ v5).setCell ⟨U, 6, none⟩ v6).setCell ⟨U, 7, none⟩ v7).setCell ⟨U, 8, none⟩ v8).setCell ⟨U, 9, none⟩ v9).setCell ⟨U, 10, none⟩ v10).setCell ⟨U, 11, none⟩ v11).setCell ⟨U, 12, none⟩ v12) U T #[v0, v1, v2, v3, v4, v5, v6, v7, v8, v9, v10, v11, v12] ∧
 putL w U 0 [v0, v1, v2, v3, v4, v5, v6, v7, v8, v9, v10, v11, v12] = (((((((((((((w).setCell ⟨U, 0, none⟩ v0).setCell ⟨U, 1, none⟩ v1).setCell ⟨U, 2, none⟩ v2).setCell ⟨U, 3, none⟩ v3).setCell ⟨U, 4, none⟩ v4).setCell ⟨U, 5, none⟩ v5).setCell ⟨U, 6, none⟩ v6).setCell ⟨U, 7, none⟩ v7).setCell ⟨U, 8, none⟩ v8).setCell ⟨U, 9, none⟩ v9).setCell ⟨U, 10, none⟩ v10).setCell ⟨U, 11, none⟩ v11).setCell ⟨U, 12, none⟩ v12 := by
 have b0 := h
 have b1 : Blk ((w).setCell ⟨U, 0, none⟩ v0) U T #[v0, a1, a2, a3, a4, a5, a6, a7, a8, a9, a10, a11, a12] := b0.set_ 0 v0
 have b2 : Blk (((w).setCell ⟨U, 0, none⟩ v0).setCell ⟨U, 1, none⟩ v1) U T #[v0, v1, a2, a3, a4, a5, a6, a7, a8, a9, a10, a11, a12] := b1.set_ 1 v1
 have b3 : Blk ((((w).setCell ⟨U, 0, none⟩ v0).setCell ⟨U, 1, none⟩ v1).setCell ⟨U, 2, none⟩ v2) U T #[v0, v1, v2, a3, a4, a5, a6, a7, a8, a9, a10, a11, a12] := b2.set_ 2 v2
 have b4 : Blk (((((w).setCell ⟨U, 0, none⟩ v0).setCell ⟨U, 1, none⟩ v1).setCell ⟨U, 2, none⟩ v2).setCell ⟨U, 3, none⟩ v3) U T #[v0, v1, v2, v3, a4, a5, a6, a7, a8, a9, a10, a11, a12] := b3.set_ 3 v3
 have b5 : Blk ((((((w).setCell ⟨U, 0, none⟩ v0).setCell ⟨U, 1, none⟩ v1).setCell ⟨U, 2, none⟩ v2).setCell ⟨U, 3, none⟩ v3).setCell ⟨U, 4, none⟩ v4) U T #[v0, v1, v2, v3, v4, a5, a6, a7, a8, a9, a10, a11, a12] := b4.set_ 4 v4
 have b6 : Blk (((((((w).setCell ⟨U, 0, none⟩ v0).setCell ⟨U, 1, none⟩ v1).setCell ⟨U, 2, none⟩ v2).setCell ⟨U, 3, none⟩ v3).setCell ⟨U, 4, none⟩ v4).setCell ⟨U, 5, none⟩ v5) U T #[v0, v1, v2, v3, v4, v5, a6, a7, a8, a9, a10, a11, a12] := b5.set_ 5 v5
 have b7 : Blk ((((((((w).setCell ⟨U, 0, none⟩ v0).setCell ⟨U, 1, none⟩ v1).setCell ⟨U, 2, none⟩ v2).setCell ⟨U, 3, none⟩ v3).setCell ⟨U, 4, none⟩ v4).setCell ⟨U, 5, none⟩ v5).setCell ⟨U, 6, none⟩ v6) U T #[v0, v1, v2, v3, v4, v5, v6, a7, a8, a9, a10, a11, a12] := b6.set_ 6 v6
 have b8 : Blk (((((((((w).setCell ⟨U, 0, none⟩ v0).setCell ⟨U, 1, none⟩ v1).setCell ⟨U, 2, none⟩ v2).setCell ⟨U, 3, none⟩ v3).setCell ⟨U, 4, none⟩ v4).setCell ⟨U, 5, none⟩ v5).setCell ⟨U, 6, none⟩ v6).setCell ⟨U, 7, none⟩ v7) U T #[v0, v1, v2, v3, v4, v5, v6, v7, a8, a9, a10, a11, a12] := b7.set_ 7 v7
 have b9 : Blk ((((((((((w).setCell ⟨U, 0, none⟩ v0).setCell ⟨U, 1, none⟩ v1).setCell ⟨U, 2, none⟩ v2).setCell ⟨U, 3, none⟩ v3).setCell ⟨U, 4, none⟩ v4).setCell ⟨U, 5, none⟩ v5).setCell ⟨U, 6, none⟩ v6).setCell ⟨U, 7, none⟩ v7).setCell ⟨U, 8, none⟩ v8) U T #[v0, v1, v2, v3, v4, v5, v6, v7, v8, a9, a10, a11, a12] := b8.set_ 8 v8
 have b10 : Blk (((((((((((w).setCell ⟨U, 0, none⟩ v0).setCell ⟨U, 1, none⟩ v1).setCell ⟨U, 2, none⟩ v2).setCell ⟨U, 3, none⟩ v3).setCell ⟨U, 4, none⟩ v4).setCell ⟨U, 5, none⟩ v5).setCell ⟨U, 6, none⟩ v6).setCell ⟨U, 7, none⟩ v7).setCell ⟨U, 8, none⟩ v8).setCell ⟨U, 9, none⟩ v9) U T #[v0, v1, v2, v3, v4, v5, v6, v7, v8, v9, a10, a11, a12] := b9.set_ 9 v9
 have b11 : Blk ((((((((((((w).setCell ⟨U, 0, none⟩ v0).setCell ⟨U, 1, none⟩ v1).setCell ⟨U, 2, none⟩ v2).setCell ⟨U, 3, none⟩ v3).setCell ⟨U, 4, none⟩ v4).setCell ⟨U, 5, none⟩ v5).setCell ⟨U, 6, none⟩ v6).setCell ⟨U, 7, none⟩ v7).setCell ⟨U, 8, none⟩ v8).setCell ⟨U, 9, none⟩ v9).setCell ⟨U, 10, none⟩ v10) U T #[v0, v1, v2, v3, v4, v5, v6, v7, v8, v9, v10, a11, a12] := b10.set_ 10 v10
 have b12 : Blk (((((((((((((w).setCell ⟨U, 0, none⟩ v0).setCell ⟨U, 1, none⟩ v1).setCell ⟨U, 2, none⟩ v2).setCell ⟨U, 3, none⟩ v3).setCell ⟨U, 4, none⟩ v4).setCell ⟨U, 5, none⟩ v5).setCell ⟨U, 6, none⟩ v6).setCell ⟨U, 7, none⟩ v7).setCell ⟨U, 8, none⟩ v8).setCell ⟨U, 9, none⟩ v9).setCell ⟨U, 10, none⟩ v10).setCell ⟨U, 11, none⟩ v11) U T #[v0, v1, v2, v3, v4, v5, v6, v7, v8, v9, v10, v11, a12] := b11.set_ 11 v11
 have b13 : Blk ((((((((((((((w).setCell ⟨U, 0, none⟩ v0).setCell ⟨U, 1, none⟩ v1).setCell ⟨U, 2, none⟩ v2).setCell ⟨U, 3, none⟩ v3).setCell ⟨U, 4, none⟩ v4).setCell ⟨U, 5, none⟩ v5).setCell ⟨U, 6, none⟩ v6).setCell ⟨U, 7, none⟩ v7).setCell ⟨U, 8, none⟩ v8).setCell ⟨U, 9, none⟩ v9).setCell ⟨U, 10, none⟩ v10).setCell ⟨U, 11, none⟩ v11).setCell ⟨U, 12, none⟩ v12) U T #[v0, v1, v2, v3, v4, v5, v6, v7, v8, v9, v10, v11, v12] := b12.set_ 12 v12
 exact ⟨b0.cell, b0.free, b1.cell, b1.free, b2.cell, b2.free, b3.cell, b3.free, b4.cell, b4.free, b5.cell, b5.free, b6.cell, b6.free, b7.cell, b7.free, b8.cell, b8.free, b9.cell, b9.free, b10.cell, b10.free, b11.cell, b11.free, b12.cell, b12.free, b13.cell, b13, rfl⟩
theorem put5 {w : World} {U : Nat} {T : TypeId} {a0 a1 a2 a3 a4 a5 a6 a7 a8 a9 a10 a11 a12 : Value} (h : Blk w U T #[a0, a1, a2, a3, a4, a5, a6, a7, a8, a9, a10, a11, a12]) (v0 v1 v2 v3 v4 : Value) :
 (∀ i, (w).cell? ⟨U, i, none⟩ = (#[a0, a1, a2, a3, a4, a5, a6, a7, a8, a9, a10, a11, a12] : Array Value)[i]?) ∧
 (∀ i, (w).frozen? ⟨U, i, none⟩ = false) ∧
 (∀ i, ((w).setCell ⟨U, 7, none⟩ v0).cell? ⟨U, i, none⟩ = (#[a0, a1, a2, a3, a4, a5, a6, v0, a8, a9, a10, a11, a12] : Array Value)[i]?) ∧
 (∀ i, ((w).setCell ⟨U, 7, none⟩ v0).frozen? ⟨U, i, none⟩ = false) ∧
 (∀ i, (((w).setCell ⟨U, 7, none⟩ v0).setCell ⟨U, 8, none⟩ v1).cell? ⟨U, i, none⟩ = (#[a0, a1, a2, a3, a4, a5, a6, v0, v1, a9, a10, a11, a12] : Array Value)[i]?) ∧
 (∀ i, (((w).setCell ⟨U, 7, none⟩ v0).setCell ⟨U, 8, none⟩ v1).frozen? ⟨U, i, none⟩ = false) ∧
 (∀ i, ((((w).setCell ⟨U, 7, none⟩ v0).setCell ⟨U, 8, none⟩ v1).setCell ⟨U, 9, none⟩ v2).cell? ⟨U, i, none⟩ = (#[a0, a1, a2, a3, a4, a5, a6, v0, v1, v2, a10, a11, a12] : Array Value)[i]?) ∧
 (∀ i, ((((w).setCell ⟨U, 7, none⟩ v0).setCell ⟨U, 8, none⟩ v1).setCell ⟨U, 9, none⟩ v2).frozen? ⟨U, i, none⟩ = false) ∧
 (∀ i, (((((w).setCell ⟨U, 7, none⟩ v0).setCell ⟨U, 8, none⟩ v1).setCell ⟨U, 9, none⟩ v2).setCell ⟨U, 10, none⟩ v3).cell? ⟨U, i, none⟩ = (#[a0, a1, a2, a3, a4, a5, a6, v0, v1, v2, v3, a11, a12] : Array Value)[i]?) ∧
 (∀ i, (((((w).setCell ⟨U, 7, none⟩ v0).setCell ⟨U, 8, none⟩ v1).setCell ⟨U, 9, none⟩ v2).setCell ⟨U, 10, none⟩ v3).frozen? ⟨U, i, none⟩ = false) ∧
 (∀ i, ((((((w).setCell ⟨U, 7, none⟩ v0).setCell ⟨U, 8, none⟩ v1).setCell ⟨U, 9, none⟩ v2).setCell ⟨U, 10, none⟩ v3).setCell ⟨U, 11, none⟩ v4).cell? ⟨U, i, none⟩ = (#[a0, a1, a2, a3, a4, a5, a6, v0, v1, v2, v3, v4, a12] : Array Value)[i]?) ∧
 Blk ((((((w).setCell ⟨U, 7, none⟩ v0).setCell ⟨U, 8, none⟩ v1).setCell ⟨U, 9, none⟩ v2).setCell ⟨U, 10, none⟩ v3).setCell ⟨U, 11, none⟩ v4) U T #[a0, a1, a2, a3, a4, a5, a6, v0, v1, v2, v3, v4, a12] ∧
 putL w U 7 [v0, v1, v2, v3, v4] = (((((w).setCell ⟨U, 7, none⟩ v0).setCell ⟨U, 8, none⟩ v1).setCell ⟨U, 9, none⟩ v2).setCell ⟨U, 10, none⟩ v3).setCell ⟨U, 11, none⟩ v4 := by
 have b0 := h
 have b1 : Blk ((w).setCell ⟨U, 7, none⟩ v0) U T #[a0, a1, a2, a3, a4, a5, a6, v0, a8, a9, a10, a11, a12] := b0.set_ 7 v0
 have b2 : Blk (((w).setCell ⟨U, 7, none⟩ v0).setCell ⟨U, 8, none⟩ v1) U T #[a0, a1, a2, a3, a4, a5, a6, v0, v1, a9, a10, a11, a12] := b1.set_ 8 v1
 have b3 : Blk ((((w).setCell ⟨U, 7, none⟩ v0).setCell ⟨U, 8, none⟩ v1).setCell ⟨U, 9, none⟩ v2) U T #[a0, a1, a2, a3, a4, a5, a6, v0, v1, v2, a10, a11, a12] := b2.set_ 9 v2
 have b4 : Blk (((((w).setCell ⟨U, 7, none⟩ v0).setCell ⟨U, 8, none⟩ v1).setCell ⟨U, 9, none⟩ v2).setCell ⟨U, 10, none⟩ v3) U T #[a0, a1, a2, a3, a4, a5, a6, v0, v1, v2, v3, a11, a12] := b3.set_ 10 v3
 have b5 : Blk ((((((w).setCell ⟨U, 7, none⟩ v0).setCell ⟨U, 8, none⟩ v1).setCell ⟨U, 9, none⟩ v2).setCell ⟨U, 10, none⟩ v3).setCell ⟨U, 11, none⟩ v4) U T #[a0, a1, a2, a3, a4, a5, a6, v0, v1, v2, v3, v4, a12] := b4.set_ 11 v4
 exact ⟨b0.cell, b0.free, b1.cell, b1.free, b2.cell, b2.free, b3.cell, b3.free, b4.cell, b4.free, b5.cell, b5, rfl⟩
theorem put10 {w : World} {U : Nat} {T : TypeId} {a0 a1 a2 a3 a4 a5 a6 a7 a8 a9 a10 a11 a12 : Value} (h : Blk w U T #[a0, a1, a2, a3, a4, a5, a6, a7, a8, a9, a10, a11, a12]) (v0 v1 v2 v3 v4 v5 v6 v7 v8 v9 : Value) :
 (∀ i, (w).cell? ⟨U, i, none⟩ = (#[a0, a1, a2, a3, a4, a5, a6, a7, a8, a9, a10, a11, a12] : Array Value)[i]?) ∧
 (∀ i, (w).frozen? ⟨U, i, none⟩ = false) ∧
 (∀ i, ((w).setCell ⟨U, 2, none⟩ v0).cell? ⟨U, i, none⟩ = (#[a0, a1, v0, a3, a4, a5, a6, a7, a8, a9, a10, a11, a12] : Array Value)[i]?) ∧
 (∀ i, ((w).setCell ⟨U, 2, none⟩ v0).frozen? ⟨U, i, none⟩ = false) ∧
 (∀ i, (((w).setCell ⟨U, 2, none⟩ v0).setCell ⟨U, 3, none⟩ v1).cell? ⟨U, i, none⟩ = (#[a0, a1, v0, v1, a4, a5, a6, a7, a8, a9, a10, a11, a12] : Array Value)[i]?) ∧
 (∀ i, (((w).setCell ⟨U, 2, none⟩ v0).setCell ⟨U, 3, none⟩ v1).frozen? ⟨U, i, none⟩ = false) ∧
 (∀ i, ((((w).setCell ⟨U, 2, none⟩ v0).setCell ⟨U, 3, none⟩ v1).setCell ⟨U, 4, none⟩ v2).cell? ⟨U, i, none⟩ = (#[a0, a1, v0, v1, v2, a5, a6, a7, a8, a9, a10, a11, a12] : Array Value)[i]?) ∧
 (∀ i, ((((w).setCell ⟨U, 2, none⟩ v0).setCell ⟨U, 3, none⟩ v1).setCell ⟨U, 4, none⟩ v2).frozen? ⟨U, i, none⟩ = false) ∧
 (∀ i, (((((w).setCell ⟨U, 2, none⟩ v0).setCell ⟨U, 3, none⟩ v1).setCell ⟨U, 4, none⟩ v2).setCell ⟨U, 5, none⟩ v3).cell? ⟨U, i, none⟩ = (#[a0, a1, v0, v1, v2, v3, a6, a7, a8, a9, a10, a11, a12] : Array Value)[i]?) ∧
 (∀ i, (((((w).setCell ⟨U, 2, none⟩ v0).setCell ⟨U, 3, none⟩ v1).setCell ⟨U, 4, none⟩ v2).setCell ⟨U, 5, none⟩ v3).frozen? ⟨U, i, none⟩ = false) ∧
 (∀ i, ((((((w).setCell ⟨U, 2, none⟩ v0).setCell ⟨U, 3, none⟩ v1).setCell ⟨U, 4, none⟩ v2).setCell ⟨U, 5, none⟩ v3).setCell ⟨U, 6, none⟩ v4).cell? ⟨U, i, none⟩ = (#[a0, a1, v0, v1, v2, v3, v4, a7, a8, a9, a10, a11, a12] : Array Value)[i]?) ∧
 (∀ i, ((((((w).setCell ⟨U, 2, none⟩ v0).setCell ⟨U, 3, none⟩ v1).setCell ⟨U, 4, none⟩ v2).setCell ⟨U, 5, none⟩ v3).setCell ⟨U, 6, none⟩ v4).frozen? ⟨U, i, none⟩ = false) ∧
 (∀ i, (((((((w).setCell ⟨U, 2, none⟩ v0).setCell ⟨U, 3, none⟩ v1).setCell ⟨U, 4, none⟩ v2).setCell ⟨U, 5, none⟩ v3).setCell ⟨U, 6, none⟩ v4).setCell ⟨U, 7, none⟩ v5).cell? ⟨U, i, none⟩ = (#[a0, a1, v0, v1, v2, v3, v4, v5, a8, a9, a10, a11, a12] : Array Value)[i]?) ∧
 (∀ i, (((((((w).setCell ⟨U, 2, none⟩ v0).setCell ⟨U, 3, none⟩ v1).setCell ⟨U, 4, none⟩ v2).setCell ⟨U, 5, none⟩ v3).setCell ⟨U, 6, none⟩ v4).setCell ⟨U, 7, none⟩ v5).frozen? ⟨U, i, none⟩ = false) ∧
 (∀ i, ((((((((w).setCell ⟨U, 2, none⟩ v0).setCell ⟨U, 3, none⟩ v1).setCell ⟨U, 4, none⟩ v2).setCell ⟨U, 5, none⟩ v3).setCell ⟨U, 6, none⟩ v4).setCell ⟨U, 7, none⟩ v5).setCell ⟨U, 8, none⟩ v6).cell? ⟨U, i, none⟩ = (#[a0, a1, v0, v1, v2, v3, v4, v5, v6, a9, a10, a11, a12] : Array Value)[i]?) ∧
 (∀ i, ((((((((w).setCell ⟨U, 2, none⟩ v0).setCell ⟨U, 3, none⟩ v1).setCell ⟨U, 4, none⟩ v2).setCell ⟨U, 5, none⟩ v3).setCell ⟨U, 6, none⟩ v4).setCell ⟨U, 7, none⟩ v5).setCell ⟨U, 8, none⟩ v6).frozen? ⟨U, i, none⟩ = false) ∧
 (∀ i, (((((((((w).setCell ⟨U, 2, none⟩ v0).setCell ⟨U, 3, none⟩ v1).setCell ⟨U, 4, none⟩ v2).setCell ⟨U, 5, none⟩ v3).setCell ⟨U, 6, none⟩ v4).setCell ⟨U, 7, none⟩ v5).setCell ⟨U, 8, none⟩ v6).setCell ⟨U, 9, none⟩ v7).cell? ⟨U, i, none⟩ = (#[a0, a1, v0, v1, v2, v3, v4, v5, v6, v7, a10, a11, a12] : Array Value)[i]?) ∧
 (∀ i, (((((((((w).setCell ⟨U, 2, none⟩ v0).setCell ⟨U, 3, none⟩ v1).setCell ⟨U, 4, none⟩ v2).setCell ⟨U, 5, none⟩ v3).setCell ⟨U, 6, none⟩ v4).setCell ⟨U, 7, none⟩ v5).setCell ⟨U, 8, none⟩ v6).setCell ⟨U, 9, none⟩ v7).frozen? ⟨U, i, none⟩ = false) ∧
 (∀ i, ((((((((((w).setCell ⟨U, 2, none⟩ v0).setCell ⟨U, 3, none⟩ v1).setCell ⟨U, 4, none⟩ v2).setCell ⟨U, 5, none⟩ v3).setCell ⟨U, 6, none⟩ v4).setCell ⟨U, 7, none⟩ v5).setCell ⟨U, 8, none⟩ v6).setCell ⟨U, 9, none⟩ v7).setCell ⟨U, 10, none⟩ v8).cell? ⟨U, i, none⟩ = (#[a0, a1, v0, v1, v2, v3, v4, v5, v6, v7, v8, a11, a12] : Array Value)[i]?) ∧
 (∀ i, ((((((((((w).setCell ⟨U, 2, none⟩ v0).setCell ⟨U, 3, none⟩ v1).setCell ⟨U, 4, none⟩ v2).setCell ⟨U, 5, none⟩ v3).setCell ⟨U, 6, none⟩ v4).setCell ⟨U, 7, none⟩ v5).setCell ⟨U, 8, none⟩ v6).setCell ⟨U, 9, none⟩ v7).setCell ⟨U, 10, none⟩ v8).frozen? ⟨U, i, none⟩ = false) ∧
 (∀ i, (((((((((((w).setCell ⟨U, 2, none⟩ v0).setCell ⟨U, 3, none⟩ v1).setCell ⟨U, 4, none⟩ v2).setCell ⟨U, 5, none⟩ v3).setCell ⟨U, 6, none⟩ v4).setCell ⟨U, 7, none⟩ v5).setCell ⟨U, 8, none⟩ v6).setCell ⟨U, 9, none⟩ v7).setCell ⟨U, 10, none⟩ v8).setCell ⟨U, 11, none⟩ v9).cell? ⟨U, i, none⟩ = (#[a0, a1, v0, v1, v2, v3, v4, v5, v6, v7, v8, v9, a12] : Array Value)[i]?) ∧
 Blk (((((((((((w).setCell ⟨U, 2, none⟩ v0).setCell ⟨U, 3, none⟩ v1).setCell ⟨U, 4, none⟩ v2).setCell ⟨U, 5, none⟩ v3).setCell ⟨U, 6, none⟩ v4).setCell ⟨U, 7, none⟩ v5).setCell ⟨U, 8, none⟩ v6).setCell ⟨U, 9, none⟩ v7).setCell ⟨U, 10, none⟩ v8).setCell ⟨U, 11, none⟩ v9) U T #[a0, a1, v0, v1, v2, v3, v4, v5, v6, v7, v8, v9, a12] ∧
 putL w U 2 [v0, v1, v2, v3, v4, v5, v6, v7, v8, v9] = ((((((((((w).setCell ⟨U, 2, none⟩ v0).setCell ⟨U, 3, none⟩ v1).setCell ⟨U, 4, none⟩ v2).setCell ⟨U, 5, none⟩ v3).setCell ⟨U, 6, none⟩ v4).setCell ⟨U, 7, none⟩ v5).setCell ⟨U, 8, none⟩ v6).setCell ⟨U, 9, none⟩ v7).setCell ⟨U, 10, none⟩ v8).setCell ⟨U, 11, none⟩ v9 := by
 have b0 := h
 have b1 : Blk ((w).setCell ⟨U, 2, none⟩ v0) U T #[a0, a1, v0, a3, a4, a5, a6, a7, a8, a9, a10, a11, a12] := b0.set_ 2 v0
 have b2 : Blk (((w).setCell ⟨U, 2, none⟩ v0).setCell ⟨U, 3, none⟩ v1) U T #[a0, a1, v0, v1, a4, a5, a6, a7, a8, a9, a10, a11, a12] := b1.set_ 3 v1
 have b3 : Blk ((((w).setCell ⟨U, 2, none⟩ v0).setCell ⟨U, 3, none⟩ v1).setCell ⟨U, 4, none⟩ v2) U T #[a0, a1, v0, v1, v2, a5, a6, a7, a8, a9, a10, a11, a12] := b2.set_ 4 v2
 have b4 : Blk (((((w).setCell ⟨U, 2, none⟩ v0).setCell ⟨U, 3, none⟩ v1).setCell ⟨U, 4, none⟩ v2).setCell ⟨U, 5, none⟩ v3) U T #[a0, a1, v0, v1, v2, v3, a6, a7, a8, a9, a10, a11, a12] := b3.set_ 5 v3
 have b5 : Blk ((((((w).setCell ⟨U, 2, none⟩ v0).setCell ⟨U, 3, none⟩ v1).setCell ⟨U, 4, none⟩ v2).setCell ⟨U, 5, none⟩ v3).setCell ⟨U, 6, none⟩ v4) U T #[a0, a1, v0, v1, v2, v3, v4, a7, a8, a9, a10, a11, a12] := b4.set_ 6 v4
 have b6 : Blk (((((((w).setCell ⟨U, 2, none⟩ v0).setCell ⟨U, 3, none⟩ v1).setCell ⟨U, 4, none⟩ v2).setCell ⟨U, 5, none⟩ v3).setCell ⟨U, 6, none⟩ v4).setCell ⟨U, 7, none⟩ v5) U T #[a0, a1, v0, v1, v2, v3, v4, v5, a8, a9, a10, a11, a12] := b5.set_ 7 v5
 have b7 : Blk ((((((((w).setCell ⟨U, 2, none⟩ v0).setCell ⟨U, 3, none⟩ v1).setCell ⟨U, 4, none⟩ v2).setCell ⟨U, 5, none⟩ v3).setCell ⟨U, 6, none⟩ v4).setCell ⟨U, 7, none⟩ v5).setCell ⟨U, 8, none⟩ v6) U T #[a0, a1, v0, v1, v2, v3, v4, v5, v6, a9, a10, a11, a12] := b6.set_ 8 v6
 have b8 : Blk (((((((((w).setCell ⟨U, 2, none⟩ v0).setCell ⟨U, 3, none⟩ v1).setCell ⟨U, 4, none⟩ v2).setCell ⟨U, 5, none⟩ v3).setCell ⟨U, 6, none⟩ v4).setCell ⟨U, 7, none⟩ v5).setCell ⟨U, 8, none⟩ v6).setCell ⟨U, 9, none⟩ v7) U T #[a0, a1, v0, v1, v2, v3, v4, v5, v6, v7, a10, a11, a12] := b7.set_ 9 v7
 have b9 : Blk ((((((((((w).setCell ⟨U, 2, none⟩ v0).setCell ⟨U, 3, none⟩ v1).setCell ⟨U, 4, none⟩ v2).setCell ⟨U, 5, none⟩ v3).setCell ⟨U, 6, none⟩ v4).setCell ⟨U, 7, none⟩ v5).setCell ⟨U, 8, none⟩ v6).setCell ⟨U, 9, none⟩ v7).setCell ⟨U, 10, none⟩ v8) U T #[a0, a1, v0, v1, v2, v3, v4, v5, v6, v7, v8, a11, a12] := b8.set_ 10 v8
 have b10 : Blk (((((((((((w).setCell ⟨U, 2, none⟩ v0).setCell ⟨U, 3, none⟩ v1).setCell ⟨U, 4, none⟩ v2).setCell ⟨U, 5, none⟩ v3).setCell ⟨U, 6, none⟩ v4).setCell ⟨U, 7, none⟩ v5).setCell ⟨U, 8, none⟩ v6).setCell ⟨U, 9, none⟩ v7).setCell ⟨U, 10, none⟩ v8).setCell ⟨U, 11, none⟩ v9) U T #[a0, a1, v0, v1, v2, v3, v4, v5, v6, v7, v8, v9, a12] := b9.set_ 11 v9
 exact ⟨b0.cell, b0.free, b1.cell, b1.free, b2.cell, b2.free, b3.cell, b3.free, b4.cell, b4.free, b5.cell, b5.free, b6.cell, b6.free, b7.cell, b7.free, b8.cell, b8.free, b9.cell, b9.free, b10.cell, b10, rfl⟩
end Go.Proofs.YtnnmlhmffnfjfaaGreat
