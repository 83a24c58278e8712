/-
  Texts: BdFn, MergeO, IvO, BdS, ListAt.
-/
import Derived.Test.YtnnmlhmffnfjfaaGreatB19
set_option linter.unusedVariables false
set_option maxRecDepth 100000
namespace Go.Proofs.YtnnmlhmffnfjfaaGreat
open Go.RowKit
open Rg
theorem all_ok0 {n : Nat} (hn : n ≤ 12) : allErr (n : Int) = 0 ∧ allRes (n : Int) = allR n := by
 have h1 : allErr (n : Int) = 0 := by
  unfold allErr
  rw [if_pos (by omega)]
 refine ⟨h1, ?_⟩
 unfold allRes
 first
 | (rw [if_pos (by omega)]; simp)
 | (rw [if_pos h1]; simp)
theorem cl_one {w : World} {g : Nat} {T : TypeId} {c : Int} (h : Blk w g T #[.int .i64 c]) : ClS w (some ⟨g, 0, none⟩) 1 [c] := by
 refine ⟨rfl, fun _ => ⟨g, 0, rfl, fun k x hx j u hu => ?_⟩⟩
 match k, hx with
 | 0, hx =>
   simp only [List.getElem?_cons_zero, Option.some.injEq] at hx
   subst hx
   match j, hu with
   | 0, hu =>
     rw [h.cell]
     exact hu
   | j + 1, hu => simp [i64c] at hu
 | k + 1, hx => simp at hx
theorem cl_two {w : World} {g : Nat} {T : TypeId} {c d : Int} (h : Blk w g T #[.int .i64 c, .int .i64 d]) : ClS w (some ⟨g, 0, none⟩) 2 [c, d] := by
 refine ⟨rfl, fun _ => ⟨g, 0, rfl, fun k x hx j u hu => ?_⟩⟩
 match k, hx with
 | 0, hx =>
   simp only [List.getElem?_cons_zero, Option.some.injEq] at hx
   subst hx
   match j, hu with
   | 0, hu =>
     rw [h.cell]
     exact hu
   | j + 1, hu => simp [i64c] at hu
 | 1, hx =>
   simp only [List.getElem?_cons_succ, List.getElem?_cons_zero, Option.some.injEq] at hx
   subst hx
   match j, hu with
   | 0, hu =>
     rw [h.cell]
     exact hu
   | j + 1, hu => simp [i64c] at hu
 | k + 2, hx => simp at hx
theorem ent_fnAll : ∀ args w, (callFunc 80 args).run Tryz.prog w = .ok (.enter 80 args) w := Go.Proofs.enters_of Tryz.func80 (by kernel_rfl) rfl
theorem ent_fnEmp : ∀ args w, (callFunc 82 args).run Tryz.prog w = .ok (.enter 82 args) w := Go.Proofs.enters_of Tryz.func82 (by kernel_rfl) rfl
theorem ent_fnHold : ∀ args w, (callFunc 134 args).run Tryz.prog w = .ok (.enter 134 args) w := Go.Proofs.enters_of Tryz.func134 (by kernel_rfl) rfl
theorem ent_fnCol : ∀ args w, (callFunc 137 args).run Tryz.prog w = .ok (.enter 137 args) w := Go.Proofs.enters_of Tryz.func137 (by kernel_rfl) rfl
theorem ent_fnBox : ∀ args w, (callFunc 140 args).run Tryz.prog w = .ok (.enter 140 args) w := Go.Proofs.enters_of Tryz.func140 (by kernel_rfl) rfl
set_option maxHeartbeats 4000000 in
theorem fnAll_any (q1 : Nat) (Ac : Option Addr) (nc cc : Nat) (w : World) (h1 : Blk w q1 65 #[.slice Ac nc cc]) (hn : nc ≤ 12) : Calls Tryz.prog 80 #[.pointer (some ⟨q1, 0, none⟩)] w fun e w' => RgRes w (allR nc) 0 e w' := by
 have E0 := zH (Blk.new w 71 #[.int .i64 0, .bool false, .slice none 0 0])
 have HB0 := zH ((Below.refl w.heap.size w).alloc (Nat.le_refl _) (.cells #[.int .i64 0, .bool false, .slice none 0 0] 71))
 have H1 := zH (h1.alloc (.cells #[.int .i64 0, .bool false, .slice none 0 0] 71))
 clear h1
 go_enter Tryz.func80, Tryz.ntmps80
 go_upto_region 1 with fail
 obtain ⟨R, HRe⟩ : ∃ z, Hid (w.heap.size = z) := ⟨_, rfl⟩
 have HRl : Hid (w.heap.size ≤ R) := zH (by rw [HRe.out]; exact Nat.le_refl _)
 rw [HRe.out] at E0
 rw [HRe.out]
 generalize hW : w.alloc (.cells #[.int .i64 0, .bool false, .slice none 0 0] 71) = w1 at *
 clear hW HRe
 have z1 := H1.out.cell
 go_wp2_with fail
 refine (gAll_any (nc : Int) _).mono ?_
 rintro e w2 ⟨x, f, A, n, c, rfl, hR, hb1⟩
 rw [(all_ok0 hn).2] at hR
 rw [(all_ok0 hn).1]
 clear z1
 have E1 := E0
 have HB1 := HB0
 clear E0 HB0
 have E2 := zH (E1.out.below hb1)
 have HB2 := zH (Below.next HB1.out hb1)
 have HR1 := zH hR
 clear hb1 hR E1 HB1
 have hc1 := E2.out.cell
 obtain ⟨ff1, ff2, ff3⟩ := put3R_free E2.out (.int .i64 x) (.bool f)
 have F1 : Hid (Blk _ _ _ #[.int .i64 x, .bool false, .slice none 0 0]) := zH (E2.out.set_ 0 (.int .i64 x))
 have F2 : Hid (Blk _ _ _ #[.int .i64 x, .bool f, .slice none 0 0]) := zH (F1.out.set_ 1 (.bool f))
 have F3 : Hid (Blk _ _ _ #[.int .i64 x, .bool f, .slice A n c]) := zH (F2.out.set_ 2 (.slice A n c))
 have y1 := F1.out.cell
 have y2 := F2.out.cell
 have y3 := F3.out.cell
 have HBr := zH (put3R_below HB2.out HRl.out (.int .i64 x) (.bool f) (.slice A n c))
 have HRr := zH (RgS.off E2.out (put3R_but w2 R (.int .i64 x) (.bool f) (.slice A n c)) HR1.out)
 go_wp2
 exact bodyPost_ret (v := .tuple #[.agg #[.int .i64 x, .bool f, .slice A n c], .int .i64 0]) (by simp [results, Tryz.results80, go_sem, y3]) rfl ⟨x, f, A, n, c, rfl, HRr.out, HBr.out⟩
set_option maxHeartbeats 4000000 in
theorem fnEmp_any (q1 : Nat) (Ac : Option Addr) (nc cc : Nat) (w : World) (h1 : Blk w q1 65 #[.slice Ac nc cc]) (hn : nc ≤ 12) : Calls Tryz.prog 82 #[.pointer (some ⟨q1, 0, none⟩)] w fun e w' => RgRes w (.nil (nc : Int) false) 0 e w' := by
 have E0 := zH (Blk.new w 71 #[.int .i64 0, .bool false, .slice none 0 0])
 have HB0 := zH ((Below.refl w.heap.size w).alloc (Nat.le_refl _) (.cells #[.int .i64 0, .bool false, .slice none 0 0] 71))
 have H1 := zH (h1.alloc (.cells #[.int .i64 0, .bool false, .slice none 0 0] 71))
 clear h1
 go_enter Tryz.func82, Tryz.ntmps82
 go_upto_region 1 with fail
 obtain ⟨R, HRe⟩ : ∃ z, Hid (w.heap.size = z) := ⟨_, rfl⟩
 have HRl : Hid (w.heap.size ≤ R) := zH (by rw [HRe.out]; exact Nat.le_refl _)
 rw [HRe.out] at E0
 rw [HRe.out]
 generalize hW : w.alloc (.cells #[.int .i64 0, .bool false, .slice none 0 0] 71) = w1 at *
 clear hW HRe
 have z1 := H1.out.cell
 go_wp2_with fail
 refine (emptyR_any (nc : Int) _).mono ?_
 rintro e w2 ⟨x, f, A, n, c, rfl, hR, hb1⟩
 rw [if_pos (by omega)] at hR
 rw [if_pos (by omega)]
 clear z1
 have E1 := E0
 have HB1 := HB0
 clear E0 HB0
 have E2 := zH (E1.out.below hb1)
 have HB2 := zH (Below.next HB1.out hb1)
 have HR1 := zH hR
 clear hb1 hR E1 HB1
 have hc1 := E2.out.cell
 obtain ⟨ff1, ff2, ff3⟩ := put3R_free E2.out (.int .i64 x) (.bool f)
 have F1 : Hid (Blk _ _ _ #[.int .i64 x, .bool false, .slice none 0 0]) := zH (E2.out.set_ 0 (.int .i64 x))
 have F2 : Hid (Blk _ _ _ #[.int .i64 x, .bool f, .slice none 0 0]) := zH (F1.out.set_ 1 (.bool f))
 have F3 : Hid (Blk _ _ _ #[.int .i64 x, .bool f, .slice A n c]) := zH (F2.out.set_ 2 (.slice A n c))
 have y1 := F1.out.cell
 have y2 := F2.out.cell
 have y3 := F3.out.cell
 have HBr := zH (put3R_below HB2.out HRl.out (.int .i64 x) (.bool f) (.slice A n c))
 have HRr := zH (RgS.off E2.out (put3R_but w2 R (.int .i64 x) (.bool f) (.slice A n c)) HR1.out)
 go_wp2
 exact bodyPost_ret (v := .tuple #[.agg #[.int .i64 x, .bool f, .slice A n c], .int .i64 0]) (by simp [results, Tryz.results82, go_sem, y3]) rfl ⟨x, f, A, n, c, rfl, HRr.out, HBr.out⟩
set_option maxHeartbeats 4000000 in
theorem fnHold_any (q1 q2 : Nat) (ho : Bool) (nc : Nat) (w : World) (h1 : Blk w q1 4 #[.bool ho]) (h2 : Blk w q2 3 #[.int .i64 (nc : Int)]) (hn : nc ≤ 12) : Calls Tryz.prog 134 #[.pointer (some ⟨q1, 0, none⟩), .pointer (some ⟨q2, 0, none⟩)] w fun e w' => RgRes w (if ho = true then allR nc else .nil (nc : Int) false) 0 e w' := by
 have E0 := zH (Blk.new w 71 #[.int .i64 0, .bool false, .slice none 0 0])
 have HB0 := zH ((Below.refl w.heap.size w).alloc (Nat.le_refl _) (.cells #[.int .i64 0, .bool false, .slice none 0 0] 71))
 have H1 := zH (h1.alloc (.cells #[.int .i64 0, .bool false, .slice none 0 0] 71))
 have H2 := zH (h2.alloc (.cells #[.int .i64 0, .bool false, .slice none 0 0] 71))
 clear h1 h2
 obtain ⟨rr, Hrr⟩ : ∃ z, Hid ((if ho = true then allR nc else .nil (nc : Int) false) = z) := ⟨_, rfl⟩
 rw [Hrr.out]
 go_enter Tryz.func134, Tryz.ntmps134
 go_upto_region 1 with fail
 obtain ⟨R, HRe⟩ : ∃ z, Hid (w.heap.size = z) := ⟨_, rfl⟩
 have HRl : Hid (w.heap.size ≤ R) := zH (by rw [HRe.out]; exact Nat.le_refl _)
 rw [HRe.out] at E0
 rw [HRe.out]
 generalize hW : w.alloc (.cells #[.int .i64 0, .bool false, .slice none 0 0] 71) = w1 at *
 clear hW HRe
 have z1 := H1.out.cell
 have z2 := H2.out.cell
 cases ho
 · obtain rfl : Rg.nil (nc : Int) false = rr := Hrr.out
   clear Hrr
   go_wp2_with fail
   refine (emptyR_any (nc : Int) _).mono ?_
   rintro e w2 ⟨x, f, A, n, c, rfl, hR, hb1⟩
   rw [if_pos (by omega)] at hR
   rw [if_pos (by omega)]
   clear z1 z2
   have E1 := E0
   have HB1 := HB0
   clear E0 HB0
   have E2 := zH (E1.out.below hb1)
   have HB2 := zH (Below.next HB1.out hb1)
   have HR1 := zH hR
   clear hb1 hR E1 HB1
   have hc1 := E2.out.cell
   obtain ⟨ff1, ff2, ff3⟩ := put3R_free E2.out (.int .i64 x) (.bool f)
   have F1 : Hid (Blk _ _ _ #[.int .i64 x, .bool false, .slice none 0 0]) := zH (E2.out.set_ 0 (.int .i64 x))
   have F2 : Hid (Blk _ _ _ #[.int .i64 x, .bool f, .slice none 0 0]) := zH (F1.out.set_ 1 (.bool f))
   have F3 : Hid (Blk _ _ _ #[.int .i64 x, .bool f, .slice A n c]) := zH (F2.out.set_ 2 (.slice A n c))
   have y1 := F1.out.cell
   have y2 := F2.out.cell
   have y3 := F3.out.cell
   have HBr := zH (put3R_below HB2.out HRl.out (.int .i64 x) (.bool f) (.slice A n c))
   have HRr := zH (RgS.off E2.out (put3R_but w2 R (.int .i64 x) (.bool f) (.slice A n c)) HR1.out)
   go_wp2
   exact bodyPost_ret (v := .tuple #[.agg #[.int .i64 x, .bool f, .slice A n c], .int .i64 0]) (by simp [results, Tryz.results134, go_sem, y3]) rfl ⟨x, f, A, n, c, rfl, HRr.out, HBr.out⟩
 · obtain rfl : allR nc = rr := Hrr.out
   clear Hrr
   go_wp2_with fail
   refine (gAll_any (nc : Int) _).mono ?_
   rintro e w2 ⟨x, f, A, n, c, rfl, hR, hb1⟩
   rw [(all_ok0 hn).2] at hR
   rw [(all_ok0 hn).1]
   clear z1 z2
   have E1 := E0
   have HB1 := HB0
   clear E0 HB0
   have E2 := zH (E1.out.below hb1)
   have HB2 := zH (Below.next HB1.out hb1)
   have HR1 := zH hR
   clear hb1 hR E1 HB1
   have hc1 := E2.out.cell
   obtain ⟨ff1, ff2, ff3⟩ := put3R_free E2.out (.int .i64 x) (.bool f)
   have F1 : Hid (Blk _ _ _ #[.int .i64 x, .bool false, .slice none 0 0]) := zH (E2.out.set_ 0 (.int .i64 x))
   have F2 : Hid (Blk _ _ _ #[.int .i64 x, .bool f, .slice none 0 0]) := zH (F1.out.set_ 1 (.bool f))
   have F3 : Hid (Blk _ _ _ #[.int .i64 x, .bool f, .slice A n c]) := zH (F2.out.set_ 2 (.slice A n c))
   have y1 := F1.out.cell
   have y2 := F2.out.cell
   have y3 := F3.out.cell
   have HBr := zH (put3R_below HB2.out HRl.out (.int .i64 x) (.bool f) (.slice A n c))
   have HRr := zH (RgS.off E2.out (put3R_but w2 R (.int .i64 x) (.bool f) (.slice A n c)) HR1.out)
   go_wp2
   exact bodyPost_ret (v := .tuple #[.agg #[.int .i64 x, .bool f, .slice A n c], .int .i64 0]) (by simp [results, Tryz.results134, go_sem, y3]) rfl ⟨x, f, A, n, c, rfl, HRr.out, HBr.out⟩
set_option maxHeartbeats 4000000 in
theorem fnCol_any (q1 q2 q3 : Nat) (o : Od) (As : Option Addr) (ns cs : Nat) (s : List Iv) (nc : Nat) (w : World) (h1 : Blk w q1 3 #[.int .i64 (nc : Int)]) (h2 : Blk w q2 139 #[.slice As ns cs]) (h3 : Blk w q3 61 #[.int .i64 o.k, .int .i64 o.ix, .int .i64 o.v.k, .int .i64 o.v.i, .string o.v.t]) (hs : IvS w As ns s) (hok : okS As ns cs) (hns : ns ≤ 1000000) (hv : validL s = true) (hi : 0 ≤ o.ix ∧ o.ix < (nc : Int)) (hn : nc ≤ 12) : Calls Tryz.prog 137 #[.pointer (some ⟨q1, 0, none⟩), .pointer (some ⟨q2, 0, none⟩), .pointer (some ⟨q3, 0, none⟩)] w fun e w' => RgRes w (bx2 nc o.ix o.ix s) 0 e w' := by
 have E0 := zH (Blk.new w 71 #[.int .i64 0, .bool false, .slice none 0 0])
 have HB0 := zH ((Below.refl w.heap.size w).alloc (Nat.le_refl _) (.cells #[.int .i64 0, .bool false, .slice none 0 0] 71))
 have H1 := zH (h1.alloc (.cells #[.int .i64 0, .bool false, .slice none 0 0] 71))
 have H2 := zH (h2.alloc (.cells #[.int .i64 0, .bool false, .slice none 0 0] 71))
 have H3 := zH (h3.alloc (.cells #[.int .i64 0, .bool false, .slice none 0 0] 71))
 have HS := zH (hs.keep (keeps_alloc w (.cells #[.int .i64 0, .bool false, .slice none 0 0] 71)))
 have HO : Hid (okS As ns cs ∧ ns ≤ 1000000 ∧ validL s = true) := zH ⟨hok, hns, hv⟩
 have HI := zH hi
 clear h1 h2 h3 hs hok hns hv hi
 go_enter Tryz.func137, Tryz.ntmps137
 go_upto_region 1 with fail
 obtain ⟨R, HRe⟩ : ∃ z, Hid (w.heap.size = z) := ⟨_, rfl⟩
 have HRl : Hid (w.heap.size ≤ R) := zH (by rw [HRe.out]; exact Nat.le_refl _)
 rw [HRe.out] at E0
 rw [HRe.out]
 generalize hW : w.alloc (.cells #[.int .i64 0, .bool false, .slice none 0 0] 71) = w1 at *
 clear hW HRe
 have z1 := H1.out.cell
 have z2 := H2.out.cell
 have z3 := H3.out.cell
 have HG := zH (Blk.new w1 3 #[.int .i64 o.ix])
 have HS1 := zH (HS.out.keep (keeps_alloc w1 (.cells #[.int .i64 o.ix] 3)))
 have E1 := zH (E0.out.alloc (.cells #[.int .i64 o.ix] 3))
 have HB1 := zH (HB0.out.alloc HB0.out.size (.cells #[.int .i64 o.ix] 3))
 go_wp2_with fail
 refine (bbox_any nc As ns cs s _ 1 1 [o.ix] o.ix o.ix _ HS1.out HO.out.1 HO.out.2.1 HO.out.2.2 (cl_one HG.out) (fun q hq => by rw [List.mem_singleton.1 hq]; exact HI.out) (fun q => by simp) (by omega) hn).mono ?_
 rintro e w2 ⟨x, f, A, n, c, rfl, hR, hb1⟩
 clear z1 z2 z3 E0 HB0 HG HS1
 have E2 := zH (E1.out.below hb1)
 have HB2 := zH (Below.next HB1.out hb1)
 have HR1 := zH hR
 clear hb1 hR E1 HB1
 have hc1 := E2.out.cell
 obtain ⟨ff1, ff2, ff3⟩ := put3R_free E2.out (.int .i64 x) (.bool f)
 have F1 : Hid (Blk _ _ _ #[.int .i64 x, .bool false, .slice none 0 0]) := zH (E2.out.set_ 0 (.int .i64 x))
 have F2 : Hid (Blk _ _ _ #[.int .i64 x, .bool f, .slice none 0 0]) := zH (F1.out.set_ 1 (.bool f))
 have F3 : Hid (Blk _ _ _ #[.int .i64 x, .bool f, .slice A n c]) := zH (F2.out.set_ 2 (.slice A n c))
 have y1 := F1.out.cell
 have y2 := F2.out.cell
 have y3 := F3.out.cell
 have HBr := zH (put3R_below HB2.out HRl.out (.int .i64 x) (.bool f) (.slice A n c))
 have HRr := zH (RgS.off E2.out (put3R_but w2 R (.int .i64 x) (.bool f) (.slice A n c)) HR1.out)
 go_wp2
 exact bodyPost_ret (v := .tuple #[.agg #[.int .i64 x, .bool f, .slice A n c], .int .i64 0]) (by simp [results, Tryz.results137, go_sem, y3]) rfl ⟨x, f, A, n, c, rfl, HRr.out, HBr.out⟩
set_option maxHeartbeats 4000000 in
theorem fnBox_any (q1 q2 q3 : Nat) (i : Int) (As : Option Addr) (ns cs : Nat) (s : List Iv) (nc : Nat) (w : World) (h1 : Blk w q1 3 #[.int .i64 (nc : Int)]) (h2 : Blk w q2 139 #[.slice As ns cs]) (h3 : Blk w q3 3 #[.int .i64 i]) (hs : IvS w As ns s) (hok : okS As ns cs) (hns : ns ≤ 1000000) (hv : validL s = true) (hi : 0 ≤ i ∧ i < (nc : Int)) (hn : nc ≤ 12) : Calls Tryz.prog 140 #[.pointer (some ⟨q1, 0, none⟩), .pointer (some ⟨q2, 0, none⟩), .pointer (some ⟨q3, 0, none⟩)] w fun e w' => RgRes w (bx2 nc i i s) 0 e w' := by
 have E0 := zH (Blk.new w 71 #[.int .i64 0, .bool false, .slice none 0 0])
 have HB0 := zH ((Below.refl w.heap.size w).alloc (Nat.le_refl _) (.cells #[.int .i64 0, .bool false, .slice none 0 0] 71))
 have H1 := zH (h1.alloc (.cells #[.int .i64 0, .bool false, .slice none 0 0] 71))
 have H2 := zH (h2.alloc (.cells #[.int .i64 0, .bool false, .slice none 0 0] 71))
 have H3 := zH (h3.alloc (.cells #[.int .i64 0, .bool false, .slice none 0 0] 71))
 have HS := zH (hs.keep (keeps_alloc w (.cells #[.int .i64 0, .bool false, .slice none 0 0] 71)))
 have HO : Hid (okS As ns cs ∧ ns ≤ 1000000 ∧ validL s = true) := zH ⟨hok, hns, hv⟩
 have HI := zH hi
 clear h1 h2 h3 hs hok hns hv hi
 go_enter Tryz.func140, Tryz.ntmps140
 go_upto_region 1 with fail
 obtain ⟨R, HRe⟩ : ∃ z, Hid (w.heap.size = z) := ⟨_, rfl⟩
 have HRl : Hid (w.heap.size ≤ R) := zH (by rw [HRe.out]; exact Nat.le_refl _)
 rw [HRe.out] at E0
 rw [HRe.out]
 generalize hW : w.alloc (.cells #[.int .i64 0, .bool false, .slice none 0 0] 71) = w1 at *
 clear hW HRe
 have z1 := H1.out.cell
 have z2 := H2.out.cell
 have z3 := H3.out.cell
 have HG := zH (Blk.new w1 3 #[.int .i64 i])
 have HS1 := zH (HS.out.keep (keeps_alloc w1 (.cells #[.int .i64 i] 3)))
 have E1 := zH (E0.out.alloc (.cells #[.int .i64 i] 3))
 have HB1 := zH (HB0.out.alloc HB0.out.size (.cells #[.int .i64 i] 3))
 go_wp2_with fail
 refine (bbox_any nc As ns cs s _ 1 1 [i] i i _ HS1.out HO.out.1 HO.out.2.1 HO.out.2.2 (cl_one HG.out) (fun q hq => by rw [List.mem_singleton.1 hq]; exact HI.out) (fun q => by simp) (by omega) hn).mono ?_
 rintro e w2 ⟨x, f, A, n, c, rfl, hR, hb1⟩
 clear z1 z2 z3 E0 HB0 HG HS1
 have E2 := zH (E1.out.below hb1)
 have HB2 := zH (Below.next HB1.out hb1)
 have HR1 := zH hR
 clear hb1 hR E1 HB1
 have hc1 := E2.out.cell
 obtain ⟨ff1, ff2, ff3⟩ := put3R_free E2.out (.int .i64 x) (.bool f)
 have F1 : Hid (Blk _ _ _ #[.int .i64 x, .bool false, .slice none 0 0]) := zH (E2.out.set_ 0 (.int .i64 x))
 have F2 : Hid (Blk _ _ _ #[.int .i64 x, .bool f, .slice none 0 0]) := zH (F1.out.set_ 1 (.bool f))
 have F3 : Hid (Blk _ _ _ #[.int .i64 x, .bool f, .slice A n c]) := zH (F2.out.set_ 2 (.slice A n c))
 have y1 := F1.out.cell
 have y2 := F2.out.cell
 have y3 := F3.out.cell
 have HBr := zH (put3R_below HB2.out HRl.out (.int .i64 x) (.bool f) (.slice A n c))
 have HRr := zH (RgS.off E2.out (put3R_but w2 R (.int .i64 x) (.bool f) (.slice A n c)) HR1.out)
 go_wp2
 exact bodyPost_ret (v := .tuple #[.agg #[.int .i64 x, .bool f, .slice A n c], .int .i64 0]) (by simp [results, Tryz.results140, go_sem, y3]) rfl ⟨x, f, A, n, c, rfl, HRr.out, HBr.out⟩
end Go.Proofs.YtnnmlhmffnfjfaaGreat
namespace Go.Proofs.YtnnmlhmffnfjfaaGreat
open Go.RowKit
set_option maxHeartbeats 4000000 in
theorem mergeO_any (F : Nat) (op : Bool → Bool → Bool) (hent : ∀ args w, (callFunc F args).run Tryz.prog w = .ok (.enter F args) w)
 (hop : ∀ x y W, Calls Tryz.prog F #[.bool x, .bool y] W fun e w' => e = .returned (.bool (op x y)) ∧ W = w')
 (A B : Option Addr) (n m ca cb : Nat) (la lb : List Iv) (w : World) (hn : n ≤ 64) (hm : m ≤ 64) (hA : IvS w A n la) (hB : IvS w B m lb) :
 Calls Tryz.prog 261 #[.slice A n ca, .slice B m cb, .func (.func F) #[] #[]] w fun e w' =>
  ∃ (A' : Option Addr) (c' : Nat), e = .returned (.slice A' (mergeL op la lb).length c') ∧ IvS w' A' (mergeL op la lb).length (mergeL op la lb) ∧ okS A' (mergeL op la lb).length c' ∧ Below w.heap.size w w' := by
 have Hop := zH hop
 have HA := zH hA
 have HB := zH hB
 have hl1 : (ptsL la).length ≤ 128 := by have := ptsL_len la; have := hA.len; omega
 have hl2 : (ptsL lb).length ≤ 128 := by have := ptsL_len lb; have := hB.len; omega
 clear hop hA hB
 generalize hR : mergeL op la lb = R
 have HR := zH hR
 clear hR
 obtain ⟨i0, hi, hz0, hz1, hz2⟩ := info_parts info_iv
 go_enter Tryz.func261, Tryz.ntmps261
 go_wp2_with fail
 refine (points_any A n ca la _ hn HA.out).mono ?_
 rintro e w1 ⟨A1, c1, rfl, hS1, hb1⟩
 go_wp2_with fail
 refine (points_any B m cb lb _ hm (HB.out.keep (keeps_of hb1))).mono ?_
 rintro e w2 ⟨A2, c2, rfl, hS2, hb2⟩
 have HS1 := zH (hS1.keep (keeps_of hb2))
 have HS2 := zH hS2
 clear hS1 hS2
 go_wp2_with fail
 have hz : ∀ a b c d : Obj, ((((w2.alloc a).alloc b).alloc c).alloc d).heap.size = w2.heap.size + 4 := by simp
 have hC0 : MCap ((((w2.alloc (.cells #[.slice A1 (ptsL la).length c1] 52)).alloc (.cells #[.slice A2 (ptsL lb).length c2] 52)).alloc (.cells #[.int .i64 0] 3)).alloc (.cells #[.int .i64 0] 3))
  (w2.heap.size + 1 + 1) (w2.heap.size + 1 + 1 + 1) w2.heap.size (w2.heap.size + 1) 0 0 A1 A2 (ptsL la).length (ptsL lb).length c1 c2 := by
  refine ⟨?_, ?_, ?_, ?_⟩
  · have := (Blk.new ((w2.alloc (.cells #[.slice A1 (ptsL la).length c1] 52)).alloc (.cells #[.slice A2 (ptsL lb).length c2] 52)) 3 #[.int .i64 0]).alloc (.cells #[.int .i64 0] 3)
    simpa using this
  · have := Blk.new (((w2.alloc (.cells #[.slice A1 (ptsL la).length c1] 52)).alloc (.cells #[.slice A2 (ptsL lb).length c2] 52)).alloc (.cells #[.int .i64 0] 3)) 3 #[.int .i64 0]
    simpa using this
  · exact (((Blk.new w2 _ _).alloc _).alloc _).alloc _
  · have := ((Blk.new (w2.alloc (.cells #[.slice A1 (ptsL la).length c1] 52)) 52 #[.slice A2 (ptsL lb).length c2]).alloc (.cells #[.int .i64 0] 3)).alloc (.cells #[.int .i64 0] 3)
    simpa using this
 have hB0 : Below w2.heap.size w2 ((((w2.alloc (.cells #[.slice A1 (ptsL la).length c1] 52)).alloc (.cells #[.slice A2 (ptsL lb).length c2] 52)).alloc (.cells #[.int .i64 0] 3)).alloc (.cells #[.int .i64 0] 3)) :=
  ((((Below.refl _ _).alloc (Nat.le_refl _) _).alloc (by simp) _).alloc (by simp <;> omega) _).alloc (by simp <;> omega) _
 have hS0 := hz (.cells #[.slice A1 (ptsL la).length c1] 52) (.cells #[.slice A2 (ptsL lb).length c2] 52) (.cells #[.int .i64 0] 3) (.cells #[.int .i64 0] 3)
 have HC0 := zH hC0
 have HS0 := zH hS0
 clear hz hC0 hS0
 have HR' := zH (show ∃ f, (ptsL la).length - 0 + ((ptsL lb).length - 0) ≤ f ∧ mergeF op f ((ptsL la).drop 0) ((ptsL lb).drop 0) (0 % 2 == 1) (0 % 2 == 1) false [] = R from ⟨_, Nat.le_refl _, by have := HR.out; unfold mergeL at this; simpa using this⟩)
 generalize ptsL la = pa at *
 generalize ptsL lb = pb at *
 generalize hz : w2.heap.size = z at *
 go_loopw [13, 14] (fun v x wr => MRel op pa pb R w2 (z + 1 + 1) (z + 1 + 1 + 1) z (z + 1) A1 A2 c1 c2 v x wr) (fun _ _ wr => pa.length + pb.length - cnt wr (z + 1 + 1) - cnt wr (z + 1 + 1 + 1))
 case atStart => exact ⟨0, 0, 0, false, [], none, 0, rfl, rfl, ⟨by omega, by omega, HC0.out, ⟨by simp, .inl ⟨rfl, rfl⟩⟩, rfl, by omega, by simp, HR'.out, by rw [hz]; exact hB0, by rw [hz, HS0.out]; omega⟩⟩
 case round =>
  obtain ⟨i, j, k, ins, out, A', c', rfl, rfl, hM⟩ := hrel
  have hC := hM.cap
  have a1 := blocks_at hC.hi (i := 0) rfl
  have a2 := blocks_at hC.hj (i := 0) rfl
  have a3 := blocks_at hC.ha (i := 0) rfl
  have a4 := blocks_at hC.hb (i := 0) rfl
  have hii := hM.hi
  have hjj := hM.hj
  by_cases hend : i < pa.length ∨ j < pb.length
  · have hKw := keeps_of hM.bel
    have hSA := HS1.out.keep hKw
    have hSB := HS2.out.keep hKw
    have hdA : 0 < pa.length → ∀ b o, A1 = some ⟨b, o, none⟩ → b ≠ z + 1 + 1 ∧ b ≠ z + 1 + 1 + 1 := fun h b o e => by
     have := HS1.out.lt Vl.cs_len (by omega) h b o e
     omega
    have hdB : 0 < pb.length → ∀ b o, A2 = some ⟨b, o, none⟩ → b ≠ z + 1 + 1 ∧ b ≠ z + 1 + 1 + 1 := fun h b o e => by
     have := HS2.out.lt Vl.cs_len (by omega) h b o e
     omega
    have HH := zH (And.intro hdA hdB)
    have HSA := zH hSA
    have HSB := zH hSB
    clear hdA hdB hSA hSB hKw
    have hgg : decide (i < pa.length) = true ∨ (decide (i < pa.length) = false ∧ decide (j < pb.length) = true) := by
     rcases Nat.lt_or_ge i pa.length with h | h
     · exact .inl (by simp [h])
     · exact .inr ⟨by simp; omega, by simp; omega⟩
    rcases hgg with g1 | ⟨g1, g2⟩
    all_goals
     go_wp2_with fail
     refine (least_any wr (z + 1 + 1) (z + 1 + 1 + 1) z (z + 1) i j A1 A2 pa.length pb.length c1 c2 pa pb hC HSA.out HSB.out hii hjj hend (by omega) (by omega)).mono ?_
     rintro e w3 ⟨rfl, hb3⟩
     obtain ⟨p, Hp⟩ : ∃ p, Hid (leastL (pa.drop i) (pb.drop j) = p) := ⟨_, rfl⟩
     rw [Hp.out]
     obtain ⟨pk, pi, pt⟩ := p
     dsimp only
     go_wp2_with fail
     have hC3 := (hC.below hb3).alloc (.cells #[.int .i64 pk, .int .i64 pi, .string pt] 59)
     have hK3 : Keeps wr (w3.alloc (.cells #[.int .i64 pk, .int .i64 pi, .string pt] 59)) := (keeps_of hb3).alloc _
     refine (contains_any _ (z + 1 + 1) (z + 1 + 1 + 1) z (z + 1) i j A1 A2 pa.length pb.length c1 c2 pa pb ⟨pk, pi, pt⟩ hC3 (HSA.out.keep hK3) (HSB.out.keep hK3) hii hjj (by omega) (by omega) (by omega) HH.out.1 HH.out.2 ⟨by omega, by omega⟩ ⟨by omega, by omega⟩).mono ?_
     rintro e w4 ⟨rfl, hC4, hU4⟩
     obtain ⟨i', Hi'⟩ : ∃ i', Hid (i' = bump i (hitL (pa.drop i) ⟨pk, pi, pt⟩)) := ⟨_, rfl⟩
     obtain ⟨j', Hj'⟩ : ∃ j', Hid (j' = bump j (hitL (pb.drop j) ⟨pk, pi, pt⟩)) := ⟨_, rfl⟩
     rw [← Hi'.out, ← Hj'.out] at hC4
     rw [← Hi'.out, ← Hj'.out]
     have hsz3 : wr.heap.size ≤ w3.heap.size := hb3.size
     have hg3 := hC.lt
     have hX4 := ((Blk.new w3 59 #[.int .i64 pk, .int .i64 pi, .string pt]).but hU4 (by simp; omega)).cell
     have hbel4 : Below w2.heap.size w2 w4 := hU4.below ((Below.next hM.bel hb3).alloc (by have := hM.bel.size; omega) _) (by have := hM.bel.size; simp; omega) (by rintro k (rfl | rfl) <;> omega)
     have hown4 : w4.ownsRow (w2.heap.size + 4) 187 7 (.slice A' k c') k (out.flatMap Iv.cs) := own_at hM.own (fun g hg1 hg2 _ => by
      rw [hU4.block g (by simp; omega) (by rintro (rfl | rfl) <;> omega), Below.heap_alloc _ _ _ (by omega), hb3.block g hg2])
     clear a1 a2 a3 a4 hC3 hK3
     go_wp2_with fail
     refine (Hop.out _ _ _).mono ?_
     rintro e w5 ⟨rfl, rfl⟩
     obtain ⟨now, Hn⟩ : ∃ now, Hid (now = op (i' % 2 == 1) (j' % 2 == 1)) := ⟨_, rfl⟩
     rw [← Hn.out]
     have Hst := zH (hM.step hend ⟨pk, pi, pt⟩ Hp.out i' j' Hi'.out Hj'.out now Hn.out)
     have hkb : k ≤ 256 := by have := hM.kle; omega
     have hsz4 := hU4.size
     cases ins <;> cases now
     · go_wp2
       exact mclose hM Hst.out hC4 k out A' c' rfl hown4 hM.len (by omega) (by simp) hbel4 (by simp at hsz4; omega)
     · go_wp2_with (at_builtin; refine wpList_append_one (by rfl) (.tmp 48) (.tmp 51) _ (by rfl) (w2.heap.size + 4) 187 i0 _ 7 72 Tryz.underlying139 hi hz0 hz1 hz2 (by rfl) (by omega) (.slice A' k c') k _ (by rfl) _ _ hown4 w4.heap.size (by rfl) (by rfl) (by rfl) (one_iv ⟨⟨pk, pi, pt⟩, zeroV, true⟩) (by simp only [maxLen]; omega) (by omega) (by have := hM.siz; simp at hsz4; omega) ?_; intro g cap w6 hown6 hg6 hB6 hat6 hlt6)
       have hne : ∀ q, q < w2.heap.size + 4 → some q ≠ (Value.slice A' k c').ownBlock := fun q hq e => by have := own_base hown4 q e.symm; omega
       exact mclose hM Hst.out (hC4.grown hg6 ⟨hne _ (by omega), hne _ (by omega), hne _ (by omega), hne _ (by omega)⟩) (k + 1) (out ++ [⟨⟨pk, pi, pt⟩, zeroV, true⟩]) _ _ rfl (by rw [List.flatMap_append]; simpa [Iv.cs, zeroV] using hown6) (by simp [hM.len]) (by omega) (by omega)
        (hbel4.trans (hB6.mono (by omega))) (by have := hg6.size; simp at hsz4; omega)
     · have hk0 : 0 < k := hM.ins_ rfl
       obtain ⟨g, cap, hv, hgb, hgl⟩ := hown4.form hk0
       obtain ⟨rfl, rfl⟩ : A' = some ⟨g, 0, none⟩ ∧ c' = cap := by injection hv with h1 h2 h3; exact ⟨h1, h3⟩
       obtain ⟨b6, o6, x, hA6, hx6, hc6⟩ := (Sl.of_own Iv.cs_len hM.len hown4).at (show k - 1 < k by omega)
       obtain ⟨rfl, rfl⟩ : g = b6 ∧ 0 = o6 := by injection hA6 with h; injection h with h1 h2; exact ⟨h1, h2⟩
       obtain ⟨y0, y1, y2, y3, y4, y5, y6⟩ := IvAt.of hc6
       simp only [Nat.zero_add] at y0 y1 y2 y3 y4 y5 y6
       have hfz := fun q => hown4.frozenAt q
       have HO := zH (own_setLast ⟨pk, pi, pt⟩ hown4 hM.len hx6)
       have hkb' : (1 : Int) ≤ (k : Int) := by omega
       clear hv hA6 hc6
       have HX6 := zH hx6
       clear hx6
       go_wp2
       have hne : ∀ q : Nat, z + 1 + 1 ≠ g ∧ z + 1 + 1 + 1 ≠ g ∧ z ≠ g ∧ z + 1 ≠ g := fun _ => ⟨by omega, by omega, by omega, by omega⟩
       exact mclose hM Hst.out ((((hC4.far (p := ⟨g, (k - 1) * 7 + 3, none⟩) (hne 0) _).far (p := ⟨g, (k - 1) * 7 + 3 + 1, none⟩) (hne 0) _).far (p := ⟨g, (k - 1) * 7 + 3 + 2, none⟩) (hne 0) _).far (p := ⟨g, (k - 1) * 7 + 6, none⟩) (hne 0) _) k (setLast out ⟨pk, pi, pt⟩) _ _ rfl HO.out
        (by unfold setLast; rw [List.getLast?_eq_getElem?, hM.len, HX6.out]; simp [hM.len]; omega) (by omega) (by simp)
        ((((hbel4.setCell (p := ⟨g, (k - 1) * 7 + 3, none⟩) (by simp; omega) _).setCell (p := ⟨g, (k - 1) * 7 + 3 + 1, none⟩) (by simp; omega) _).setCell (p := ⟨g, (k - 1) * 7 + 3 + 2, none⟩) (by simp; omega) _).setCell (p := ⟨g, (k - 1) * 7 + 6, none⟩) (by simp; omega) _)
        (by simp [World.setCell]; simp at hsz4; omega)
     · go_wp2
       exact mclose hM Hst.out hC4 k out A' c' rfl hown4 hM.len (by omega) (fun _ => hM.ins_ rfl) hbel4 (by simp at hsz4; omega)
  · have g1 : decide (i < pa.length) = false := by simp; omega
    have g2 : decide (j < pb.length) = false := by simp; omega
    have HM := zH hM
    clear hM
    go_wp2
    go_ret
    have hM := HM.out
    obtain ⟨f, hf, hrun⟩ := hM.run
    have ho : out = R := by
     rw [List.drop_eq_nil_of_le (by omega), List.drop_eq_nil_of_le (by omega)] at hrun
     rw [← hrun]
     cases f <;> simp [mergeF]
    subst ho
    obtain rfl : out.length = k := hM.len
    exact ⟨A', c', rfl, Sl.of_own Iv.cs_len rfl hM.own, own_okS hM.own, Below.next (Below.next hb1 hb2) hM.bel⟩
def IvO (w : World) (r : List Iv × Int) (e : Ending) (w' : World) : Prop :=
 ∃ (A' : Option Addr) (c' : Nat), e = .returned (.tuple #[.slice A' r.1.length c', .int .i64 r.2]) ∧ IvS w' A' r.1.length r.1 ∧ okS A' r.1.length c' ∧ Below w.heap.size w w'
theorem ivo_nil {w w' : World} {r : List Iv × Int} {x : Int} (h : r = ([], x)) (hb : Below w.heap.size w w') : IvO w r (.returned (.tuple #[.slice none 0 0, .int .i64 x])) w' := by
 subst h
 exact ⟨none, 0, rfl, Sl.nil, ⟨Nat.le_refl _, fun _ => ⟨rfl, rfl⟩⟩, hb⟩
set_option maxHeartbeats 1000000 in
theorem combineO_any (F : Nat) (op : Bool → Bool → Bool) (hent : ∀ args w, (callFunc F args).run Tryz.prog w = .ok (.enter F args) w)
 (hop : ∀ x y W, Calls Tryz.prog F #[.bool x, .bool y] W fun e w' => e = .returned (.bool (op x y)) ∧ W = w')
 (A B : Option Addr) (n m ca cb : Nat) (la lb : List Iv) (w : World) (hA : IvS w A n la) (hB : IvS w B m lb) :
 Calls Tryz.prog 220 #[.slice A n ca, .slice B m cb, .func (.func F) #[] #[]] w fun e w' => IvO w (combineL op la lb) e w' := by
 have Hop := zH hop
 have HA := zH hA
 have HB := zH hB
 have hln := hA.len
 have hlm := hB.len
 have Hln := zH hln
 have Hlm := zH hlm
 clear hop hA hB hln hlm
 obtain ⟨va, Hva⟩ : ∃ va, Hid (validL la = va) := ⟨_, rfl⟩
 obtain ⟨vb, Hvb⟩ : ∃ vb, Hid (validL lb = vb) := ⟨_, rfl⟩
 go_enter Tryz.func220, Tryz.ntmps220
 go_wp2_with fail
 refine (validL_any A n ca la _ HA.out).mono ?_
 rintro e w1 ⟨rfl, hb1⟩
 rw [Hva.out]
 cases va
 · go_wp2
   go_ret2
   exact ivo_nil (by simp [combineL, Hva.out]) hb1
 · go_wp2_with fail
   refine (validL_any B m cb lb _ (HB.out.keep (keeps_of hb1))).mono ?_
   rintro e w2 ⟨rfl, hb2⟩
   rw [Hvb.out]
   have hb2' := Below.next hb1 hb2
   cases vb
   · go_wp2
     go_ret2
     exact ivo_nil (by simp [combineL, Hva.out, Hvb.out]) hb2'
   · have hn : n ≤ 64 := by have h := Hva.out; have := Hln.out; simp [validL] at h; omega
     have hm : m ≤ 64 := by have h := Hvb.out; have := Hlm.out; simp [validL] at h; omega
     have hK := keeps_of hb2'
     go_wp2_with fail
     refine (mergeO_any F op hent Hop.out A B n m ca cb la lb _ hn hm (HA.out.keep hK) (HB.out.keep hK)).mono ?_
     rintro e w3 ⟨A3, c3, rfl, hS3, hok3, hb3⟩
     have HO3 := zH hok3
     clear hok3
     have hb3' := Below.next hb2' hb3
     have HS3 := zH hS3
     clear hS3 hK
     rcases Nat.lt_or_ge 64 (mergeL op la lb).length with h64 | h64
     · go_wp2
       go_ret2
       exact ivo_nil (by simp [combineL, Hva.out, Hvb.out]; omega) hb3'
     · go_wp2
       go_ret2
       have hr : combineL op la lb = (mergeL op la lb, 0) := by simp [combineL, Hva.out, Hvb.out]; omega
       rw [hr]
       exact ⟨A3, c3, rfl, HS3.out, HO3.out, hb3'⟩
theorem unionO_any (A B : Option Addr) (n m ca cb : Nat) (la lb : List Iv) (w : World) (hA : IvS w A n la) (hB : IvS w B m lb) :
 Calls Tryz.prog 189 #[.slice A n ca, .slice B m cb] w fun e w' => IvO w (combineL opU la lb) e w' := by
 have HA := zH hA
 have HB := zH hB
 clear hA hB
 go_enter Tryz.func189, Tryz.ntmps189
 go_wp2_with fail
 refine (combineO_any 222 opU entU opU_any A B n m ca cb la lb _ HA.out HB.out).mono ?_
 rintro e w1 ⟨A1, c1, rfl, hS1, hok1, hb1⟩
 have HO1 := zH hok1
 clear hok1
 have HS1 := zH hS1
 clear hS1
 go_wp2
 go_ret2
 exact ⟨A1, c1, rfl, HS1.out, HO1.out, hb1⟩
theorem minusO_any (A B : Option Addr) (n m ca cb : Nat) (la lb : List Iv) (w : World) (hA : IvS w A n la) (hB : IvS w B m lb) :
 Calls Tryz.prog 188 #[.slice A n ca, .slice B m cb] w fun e w' => IvO w (combineL opM la lb) e w' := by
 have HA := zH hA
 have HB := zH hB
 clear hA hB
 go_enter Tryz.func188, Tryz.ntmps188
 go_wp2_with fail
 refine (combineO_any 221 opM entM opM_any A B n m ca cb la lb _ HA.out HB.out).mono ?_
 rintro e w1 ⟨A1, c1, rfl, hS1, hok1, hb1⟩
 have HO1 := zH hok1
 clear hok1
 have HS1 := zH hS1
 clear hS1
 go_wp2
 go_ret2
 exact ⟨A1, c1, rfl, HS1.out, HO1.out, hb1⟩
set_option maxHeartbeats 1000000 in
theorem ofkindO_any (k : Int) (w : World) : Calls Tryz.prog 135 #[.int .i64 k] w fun e w' => IvO w (kindL k) e w' := by
 obtain ⟨⟨⟨ak, ai, ab⟩, a1⟩, Ha⟩ : ∃ q, Hid (firstV k = q) := ⟨_, rfl⟩
 obtain ⟨⟨⟨nk, ni, nt⟩, nb⟩, Hn⟩ : ∃ q, Hid (firstV (wrap64 (k + 1)) = q) := ⟨_, rfl⟩
 go_enter Tryz.func135, Tryz.ntmps135
 go_wp2_with fail
 refine (first_any k _).mono ?_
 rintro e w1 ⟨rfl, hb1⟩
 rw [Ha.out]
 cases a1
 · go_wp2
   go_ret2
   exact ivo_nil (by simp [kindL, Ha.out]) (hb1.alloc hb1.size _)
 · go_wp2_with fail
   have hB1 := hb1.alloc hb1.size (.cells #[.int .i64 ak, .int .i64 ai, .string ab] 59)
   refine (first_any (wrap64 (k + 1)) _).mono ?_
   rintro e w2 ⟨rfl, hb2⟩
   rw [Hn.out]
   have y2 := (Blk.new w1 59 #[.int .i64 ak, .int .i64 ai, .string ab]).below hb2
   have y2c := y2.cell
   have hs2 := y2.lt
   have hB2 := Below.next hB1 hb2
   go_wp2
   go_ret2
   have hr : kindL k = ([⟨⟨ak, ai, ab⟩, ⟨nk, ni, nt⟩, !nb⟩], 0) := by simp [kindL, Ha.out, Hn.out]
   rw [hr]
   exact ⟨_, _, rfl, iv_one (T := 187) (x := ⟨⟨ak, ai, ab⟩, ⟨nk, ni, nt⟩, !nb⟩) (Blk.newAt (by simp)), ⟨Nat.le_refl _, fun h => (by cases h)⟩, (hB2.alloc hB2.size _).alloc (by have := hB2.size; simp; omega) _⟩
set_option maxHeartbeats 1000000 in
theorem fromO_any (f : Vl) (w : World) : Calls Tryz.prog 187 #[.agg #[.int .i64 f.k, .int .i64 f.i, .string f.t]] w fun e w' => IvO w (fromL f) e w' := by
 obtain ⟨fk, fi, ft⟩ := f
 obtain ⟨v1, H1⟩ : ∃ v, Hid (validV ⟨fk, fi, ft⟩ = v) := ⟨_, rfl⟩
 go_enter Tryz.func187, Tryz.ntmps187
 go_wp2_with fail
 refine (valid_any ⟨fk, fi, ft⟩ _).mono ?_
 rintro e w1 ⟨rfl, hb1⟩
 rw [H1.out]
 have y1 := ((Blk.new w 59 #[.int .i64 fk, .int .i64 fi, .string ft]).below hb1).cell
 have hB1 : Below w.heap.size w w1 := Below.next ((Below.refl _ _).alloc (Nat.le_refl _) _) hb1
 cases v1
 · go_wp2
   go_ret2
   exact ivo_nil (by simp [fromL, H1.out]) hB1
 · go_wp2
   go_ret2
   have hr : fromL ⟨fk, fi, ft⟩ = ([⟨⟨fk, fi, ft⟩, zeroV, true⟩], 0) := by simp [fromL, H1.out]
   rw [hr]
   exact ⟨_, _, rfl, iv_one (T := 187) (x := ⟨⟨fk, fi, ft⟩, zeroV, true⟩) (Blk.new _ _ _), ⟨Nat.le_refl _, fun h => (by cases h)⟩, hB1.alloc hB1.size _⟩
set_option maxHeartbeats 1000000 in
theorem oneO_any (v : Vl) (w : World) : Calls Tryz.prog 186 #[.agg #[.int .i64 v.k, .int .i64 v.i, .string v.t]] w fun e w' => IvO w (oneL v) e w' := by
 obtain ⟨fk, fi, ft⟩ := v
 obtain ⟨v1, H1⟩ : ∃ v, Hid (validV ⟨fk, fi, ft⟩ = v) := ⟨_, rfl⟩
 obtain ⟨⟨⟨nk, ni, nt⟩, nb⟩, Hn⟩ : ∃ q, Hid (nextV ⟨fk, fi, ft⟩ = q) := ⟨_, rfl⟩
 go_enter Tryz.func186, Tryz.ntmps186
 go_wp2_with fail
 refine (valid_any ⟨fk, fi, ft⟩ _).mono ?_
 rintro e w1 ⟨rfl, hb1⟩
 rw [H1.out]
 have y1 := ((Blk.new w 59 #[.int .i64 fk, .int .i64 fi, .string ft]).below hb1)
 have y1c := y1.cell
 have hB1 : Below w.heap.size w w1 := Below.next ((Below.refl _ _).alloc (Nat.le_refl _) _) hb1
 have hs1 := y1.lt
 cases v1
 · go_wp2
   go_ret2
   exact ivo_nil (by simp [oneL, H1.out]) hB1
 · go_wp2_with fail
   refine (next_any ⟨fk, fi, ft⟩ _).mono ?_
   rintro e w2 ⟨rfl, hb2⟩
   rw [Hn.out]
   have y2 := y1.below hb2
   have y2c := y2.cell
   have hB2 := Below.next hB1 hb2
   have hs2 := y2.lt
   clear y1c
   go_wp2
   go_ret2
   have hr : oneL ⟨fk, fi, ft⟩ = ([⟨⟨fk, fi, ft⟩, ⟨nk, ni, nt⟩, !nb⟩], 0) := by simp [oneL, H1.out, Hn.out]
   rw [hr]
   exact ⟨_, _, rfl, iv_one (T := 187) (x := ⟨⟨fk, fi, ft⟩, ⟨nk, ni, nt⟩, !nb⟩) (Blk.newAt (by simp)), ⟨Nat.le_refl _, fun h => (by cases h)⟩, (hB2.alloc hB2.size _).alloc (by have := hB2.size; simp; omega) _⟩
theorem mirror_any (cm : Int) (w : World) : Calls Tryz.prog 138 #[.int .i64 cm] w fun e w' => e = .returned (.int .i64 (mirC cm)) ∧ w = w' := by
 by_cases h : 3 ≤ cm ∧ cm ≤ 6
 · have h : cm = 3 ∨ cm = 4 ∨ cm = 5 ∨ cm = 6 := by omega
   rcases h with rfl | rfl | rfl | rfl
   all_goals
    go_enter Tryz.func138, Tryz.ntmps138
    go_wp2
    go_ret
    exact ⟨rfl, rfl⟩
 · have hm : mirC cm = cm := by
    unfold mirC
    repeat rw [if_neg (by omega)]
   rw [hm]
   have g3 : (cm == 3) = false := by simp; omega
   have g4 : (cm == 4) = false := by simp; omega
   have g5 : (cm == 5) = false := by simp; omega
   have g6 : (cm == 6) = false := by simp; omega
   clear h hm
   go_enter Tryz.func138, Tryz.ntmps138
   go_wp2
   go_ret
   exact ⟨rfl, rfl⟩
def IvL (w : World) (l : List Iv) (e : Ending) (w' : World) : Prop :=
 ∃ (A' : Option Addr) (c' : Nat), e = .returned (.slice A' l.length c') ∧ IvS w' A' l.length l ∧ okS A' l.length c' ∧ Below w.heap.size w w'
set_option maxHeartbeats 8000000 in
theorem compared_any (cm : Int) (v : Vl) (w : World) : Calls Tryz.prog 139 #[.int .i64 cm, .agg #[.int .i64 v.k, .int .i64 v.i, .string v.t]] w fun e w' => IvL w (cmpSet2 cm v) e w' := by
 obtain ⟨vk, vi, vt⟩ := v
 obtain ⟨rr, Hrr⟩ : ∃ z, Hid (cmpSet2 cm ⟨vk, vi, vt⟩ = z) := ⟨_, rfl⟩
 rw [Hrr.out]
 have HX := zH (Blk.new w 59 #[.int .i64 vk, .int .i64 vi, .string vt])
 have HB := zH ((Below.refl w.heap.size w).alloc (Nat.le_refl _) (.cells #[.int .i64 vk, .int .i64 vi, .string vt] 59))
 obtain ⟨kd, Hkd⟩ : ∃ z, Hid (kindL vk = z) := ⟨_, rfl⟩
 obtain ⟨fr, Hfr⟩ : ∃ z, Hid (fromL ⟨vk, vi, vt⟩ = z) := ⟨_, rfl⟩
 obtain ⟨on, Hon⟩ : ∃ z, Hid (oneL ⟨vk, vi, vt⟩ = z) := ⟨_, rfl⟩
 obtain ⟨ls, Hls⟩ : ∃ z, Hid (combineL opM kd.1 fr.1 = z) := ⟨_, rfl⟩
 obtain ⟨g1, Hg1⟩ : ∃ z, Hid (combineL opM kd.1 ls.1 = z) := ⟨_, rfl⟩
 obtain ⟨gr, Hgr⟩ : ∃ z, Hid (combineL opM g1.1 on.1 = z) := ⟨_, rfl⟩
 have Hs : Hid ((if cm = 2 then (combineL opU ls.1 gr.1).1 else if cm = 3 then ls.1 else if cm = 4 then (combineL opU ls.1 on.1).1 else if cm = 5 then gr.1 else if cm = 6 then (combineL opU on.1 gr.1).1 else on.1) = rr) := zH (by rw [← Hgr.out, ← Hg1.out, ← Hls.out, ← Hkd.out, ← Hfr.out, ← Hon.out]; exact Hrr.out)
 clear Hrr
 go_enter Tryz.func139, Tryz.ntmps139
 go_upto_region 1 with fail
 obtain ⟨X, HXe⟩ : ∃ z, Hid (w.heap.size = z) := ⟨_, rfl⟩
 rw [HXe.out] at HX
 rw [HXe.out]
 generalize hW : w.alloc (.cells #[.int .i64 vk, .int .i64 vi, .string vt] 59) = w0 at *
 clear hW HXe
 have zx := HX.out.cell
 go_wp2_with fail
 refine (ofkindO_any vk _).mono ?_
 rintro e w1 ⟨Ak, ck, rfl, hS, hok, hb⟩
 rw [Hkd.out] at hS hok ⊢
 clear zx
 replace HB := zH (Below.next HB.out hb)
 replace HX := zH (HX.out.below hb)
 have HSk := zH hS
 have HOk := zH hok
 clear hS hok hb
 have zx := HX.out.cell
 go_wp2_with fail
 refine (oneO_any ⟨vk, vi, vt⟩ _).mono ?_
 rintro e w2 ⟨Ao, co, rfl, hS, hok, hb⟩
 rw [Hon.out] at hS hok ⊢
 clear zx
 replace HB := zH (Below.next HB.out hb)
 replace HX := zH (HX.out.below hb)
 replace HSk := zH (HSk.out.keep (keeps_of hb))
 have HSo := zH hS
 have HOo := zH hok
 clear hS hok hb
 have zx := HX.out.cell
 go_wp2_with fail
 refine (fromO_any ⟨vk, vi, vt⟩ _).mono ?_
 rintro e w3 ⟨Af, cf, rfl, hS, hok, hb⟩
 rw [Hfr.out] at hS hok ⊢
 clear zx
 replace HB := zH (Below.next HB.out hb)
 replace HX := zH (HX.out.below hb)
 replace HSk := zH (HSk.out.keep (keeps_of hb))
 replace HSo := zH (HSo.out.keep (keeps_of hb))
 have HSf := zH hS
 have HOf := zH hok
 clear hS hok hb
 go_wp2_with fail
 refine (minusO_any Ak Af _ _ ck cf kd.1 fr.1 _ HSk.out HSf.out).mono ?_
 rintro e w4 ⟨Al, cl, rfl, hS, hok, hb⟩
 rw [Hls.out] at hS hok ⊢
 replace HB := zH (Below.next HB.out hb)
 replace HX := zH (HX.out.below hb)
 replace HSk := zH (HSk.out.keep (keeps_of hb))
 replace HSo := zH (HSo.out.keep (keeps_of hb))
 replace HSf := zH (HSf.out.keep (keeps_of hb))
 have HSl := zH hS
 have HOl := zH hok
 clear hS hok hb
 go_wp2_with fail
 refine (minusO_any Ak Al _ _ ck cl kd.1 ls.1 _ HSk.out HSl.out).mono ?_
 rintro e w5 ⟨Ag, cg, rfl, hS, hok, hb⟩
 rw [Hg1.out] at hS hok ⊢
 replace HB := zH (Below.next HB.out hb)
 replace HX := zH (HX.out.below hb)
 replace HSk := zH (HSk.out.keep (keeps_of hb))
 replace HSo := zH (HSo.out.keep (keeps_of hb))
 replace HSf := zH (HSf.out.keep (keeps_of hb))
 replace HSl := zH (HSl.out.keep (keeps_of hb))
 have HSg := zH hS
 have HOg := zH hok
 clear hS hok hb
 go_wp2_with fail
 refine (minusO_any Ag Ao _ _ cg co g1.1 on.1 _ HSg.out HSo.out).mono ?_
 rintro e w6 ⟨Ah, ch, rfl, hS, hok, hb⟩
 rw [Hgr.out] at hS hok ⊢
 replace HB := zH (Below.next HB.out hb)
 replace HX := zH (HX.out.below hb)
 replace HSk := zH (HSk.out.keep (keeps_of hb))
 replace HSo := zH (HSo.out.keep (keeps_of hb))
 replace HSf := zH (HSf.out.keep (keeps_of hb))
 replace HSl := zH (HSl.out.keep (keeps_of hb))
 replace HSg := zH (HSg.out.keep (keeps_of hb))
 have HSh := zH hS
 have HOh := zH hok
 clear hS hok hb
 by_cases h2 : cm = 2
 · subst h2
   have Hr : Hid ((combineL opU ls.1 gr.1).1 = rr) := zH Hs.out
   clear Hs
   obtain ⟨un, Hun⟩ : ∃ z, Hid (combineL opU ls.1 gr.1 = z) := ⟨_, rfl⟩
   rw [Hun.out] at Hr
   obtain rfl : un.1 = rr := Hr.out
   go_wp2_with fail
   refine (unionO_any Al Ah _ _ cl ch ls.1 gr.1 _ HSl.out HSh.out).mono ?_
   rintro e w9 ⟨Au, cu, rfl, hS, hok, hb⟩
   rw [Hun.out] at hS hok ⊢
   replace HB := zH (Below.next HB.out hb)
   have HSu := zH hS
   have HOu := zH hok
   clear hS hok hb Hr
   go_wp2
   go_ret
   exact ⟨Au, cu, rfl, HSu.out, HOu.out, HB.out⟩
 by_cases h3 : cm = 3
 · subst h3
   obtain rfl : ls.1 = rr := Hs.out
   clear Hs
   go_wp2
   go_ret
   exact ⟨Al, cl, rfl, HSl.out, HOl.out, HB.out⟩
 by_cases h4 : cm = 4
 · subst h4
   have Hr : Hid ((combineL opU ls.1 on.1).1 = rr) := zH Hs.out
   clear Hs
   obtain ⟨un, Hun⟩ : ∃ z, Hid (combineL opU ls.1 on.1 = z) := ⟨_, rfl⟩
   rw [Hun.out] at Hr
   obtain rfl : un.1 = rr := Hr.out
   go_wp2_with fail
   refine (unionO_any Al Ao _ _ cl co ls.1 on.1 _ HSl.out HSo.out).mono ?_
   rintro e w9 ⟨Au, cu, rfl, hS, hok, hb⟩
   rw [Hun.out] at hS hok ⊢
   replace HB := zH (Below.next HB.out hb)
   have HSu := zH hS
   have HOu := zH hok
   clear hS hok hb Hr
   go_wp2
   go_ret
   exact ⟨Au, cu, rfl, HSu.out, HOu.out, HB.out⟩
 by_cases h5 : cm = 5
 · subst h5
   obtain rfl : gr.1 = rr := Hs.out
   clear Hs
   go_wp2
   go_ret
   exact ⟨Ah, ch, rfl, HSh.out, HOh.out, HB.out⟩
 by_cases h6 : cm = 6
 · subst h6
   have Hr : Hid ((combineL opU on.1 gr.1).1 = rr) := zH Hs.out
   clear Hs
   obtain ⟨un, Hun⟩ : ∃ z, Hid (combineL opU on.1 gr.1 = z) := ⟨_, rfl⟩
   rw [Hun.out] at Hr
   obtain rfl : un.1 = rr := Hr.out
   go_wp2_with fail
   refine (unionO_any Ao Ah _ _ co ch on.1 gr.1 _ HSo.out HSh.out).mono ?_
   rintro e w9 ⟨Au, cu, rfl, hS, hok, hb⟩
   rw [Hun.out] at hS hok ⊢
   replace HB := zH (Below.next HB.out hb)
   have HSu := zH hS
   have HOu := zH hok
   clear hS hok hb Hr
   go_wp2
   go_ret
   exact ⟨Au, cu, rfl, HSu.out, HOu.out, HB.out⟩
 have g2 : (cm == 2) = false := by simpa using h2
 have g3 : (cm == 3) = false := by simpa using h3
 have g4 : (cm == 4) = false := by simpa using h4
 have g5 : (cm == 5) = false := by simpa using h5
 have g6 : (cm == 6) = false := by simpa using h6
 obtain rfl : on.1 = rr := by rw [← Hs.out, if_neg h2, if_neg h3, if_neg h4, if_neg h5, if_neg h6]
 clear h2 h3 h4 h5 h6 Hs
 go_wp2
 go_ret
 exact ⟨Ao, co, rfl, HSo.out, HOo.out, HB.out⟩
def overU (a : Act) (D : List Nat) (us : Nat → Value) : Act := D.foldl (fun b d => b.put (some d) (us d)) a
def EndAt (a0 : Act) (D : List Nat) (rel : (Nat → Value) → World → Prop) : Exit → Act → World → Prop :=
 fun e a w => e = .normal ∧ rel (fun d => a.tmps.getD d undef) w ∧ a = overU a0 D (fun d => a.tmps.getD d undef)
theorem EndAt.intro {a0 a : Act} {D : List Nat} {rel : (Nat → Value) → World → Prop} {w : World} (h1 : rel (fun d => a.tmps.getD d undef) w) (h2 : a = overU a0 D (fun d => a.tmps.getD d undef)) : EndAt a0 D rel .normal a w := ⟨rfl, h1, h2⟩
end Go.Proofs.YtnnmlhmffnfjfaaGreat
