/-
  Texts: BdCmp.
-/
import Derived.Test.YtnnmlhmffnfjfaaGreatB23
set_option linter.unusedVariables false
set_option maxRecDepth 100000
namespace Go.Proofs.YtnnmlhmffnfjfaaGreat
open Go.RowKit
open Rg
theorem box_nil0 : ∀ l : List (List Iv), [] ∈ l → boxR l = .nil (l.length : Int) false
 | [], h => by cases h
 | s :: l, h => by
   have hw := box_w l
   have hc : (!s.isEmpty && !(boxR l).nix) = false := by
    rcases List.mem_cons.1 h with h | h
    · rw [← h]; rfl
    · rw [box_nil0 l h]
      rw [show (Rg.nil (l.length : Int) false).nix = true from rfl]
      simp
   unfold boxR
   rw [hc]
   simp only [Bool.false_eq_true, if_false, hw, List.length_cons]
   rfl
theorem bx2_nil {n i : Nat} (hi : i < n) : bx2 n (i : Int) (i : Int) [] = .nil (n : Int) false := by
 unfold bx2
 rw [box_nil0 _ ?_, bx2_len]
 unfold bx2L
 exact List.mem_map.2 ⟨i, List.mem_range.2 hi, by rw [if_pos (.inl rfl)]⟩
set_option maxHeartbeats 16000000 in
theorem bcompare_any (cols : List Int) (cm : Int) (l r : Od) (A : Option Addr) (c : Nat) (Ac : Option Addr) (nc cc : Nat) (w : World) (hc : ClS w Ac nc cols) (hn : nc ≤ 12) (hcb : colB cols = true) (hok : headOk cols [] ⟨3, cm, l, r⟩ 0 = true) (hr : okNd ⟨3, cm, l, r⟩) (hs : PrdS w A 0 c (.nil ⟨3, cm, l, r⟩)) :
 Calls Tryz.prog 86 #[.slice Ac nc cc, .agg (pdV ⟨3, cm, l, r⟩ A 0 c)] w fun e w' => PairRes w (cmpPair cols ⟨3, cm, l, r⟩).1 (cmpPair cols ⟨3, cm, l, r⟩).2 0 e w' := by
 obtain ⟨⟨ra, rb⟩, Hrr⟩ : ∃ z, Hid (cmpPair cols ⟨3, cm, l, r⟩ = z) := ⟨_, rfl⟩
 rw [Hrr.out]
 have HOK := zH hok
 have HCB := zH hcb
 have HRG := zH hr
 have Hlc := zH hc.len
 obtain ⟨lk, lx, ⟨vk, vi, vt⟩⟩ := l
 obtain ⟨rk, rx, ⟨uk, ui, ut⟩⟩ := r
 unfold pdV
 have HS := zH ((hs.keep (keeps_alloc w (.cells #[.int .i64 3, .int .i64 cm, .int .i64 lk, .int .i64 lx, .int .i64 vk, .int .i64 vi, .string vt, .int .i64 rk, .int .i64 rx, .int .i64 uk, .int .i64 ui, .string ut, .slice A 0 c] 64))).keep (keeps_alloc _ (.cells #[.int .i64 0, .bool false, .slice none 0 0, .int .i64 0, .bool false, .slice none 0 0] 127)))
 have HC := zH ((hc.keep (keeps_alloc w (.cells #[.int .i64 3, .int .i64 cm, .int .i64 lk, .int .i64 lx, .int .i64 vk, .int .i64 vi, .string vt, .int .i64 rk, .int .i64 rx, .int .i64 uk, .int .i64 ui, .string ut, .slice A 0 c] 64))).keep (keeps_alloc _ (.cells #[.int .i64 0, .bool false, .slice none 0 0, .int .i64 0, .bool false, .slice none 0 0] 127)))
 have HX := zH ((Blk.new w 64 #[.int .i64 3, .int .i64 cm, .int .i64 lk, .int .i64 lx, .int .i64 vk, .int .i64 vi, .string vt, .int .i64 rk, .int .i64 rx, .int .i64 uk, .int .i64 ui, .string ut, .slice A 0 c]).alloc (.cells #[.int .i64 0, .bool false, .slice none 0 0, .int .i64 0, .bool false, .slice none 0 0] 127))
 have HR : Hid (Blk _ (w.alloc (.cells #[.int .i64 3, .int .i64 cm, .int .i64 lk, .int .i64 lx, .int .i64 vk, .int .i64 vi, .string vt, .int .i64 rk, .int .i64 rx, .int .i64 uk, .int .i64 ui, .string ut, .slice A 0 c] 64)).heap.size 127 (prC 0 false none 0 0 0 false none 0 0)) := zH (Blk.new (w.alloc (.cells #[.int .i64 3, .int .i64 cm, .int .i64 lk, .int .i64 lx, .int .i64 vk, .int .i64 vi, .string vt, .int .i64 rk, .int .i64 rx, .int .i64 uk, .int .i64 ui, .string ut, .slice A 0 c] 64)) 127 #[.int .i64 0, .bool false, .slice none 0 0, .int .i64 0, .bool false, .slice none 0 0])
 rw [show (w.alloc (.cells #[.int .i64 3, .int .i64 cm, .int .i64 lk, .int .i64 lx, .int .i64 vk, .int .i64 vi, .string vt, .int .i64 rk, .int .i64 rx, .int .i64 uk, .int .i64 ui, .string ut, .slice A 0 c] 64)).heap.size = w.heap.size + 1 by simp] at HR
 have HB0 := (Below.refl w.heap.size w).alloc (Nat.le_refl _) (.cells #[.int .i64 3, .int .i64 cm, .int .i64 lk, .int .i64 lx, .int .i64 vk, .int .i64 vi, .string vt, .int .i64 rk, .int .i64 rx, .int .i64 uk, .int .i64 ui, .string ut, .slice A 0 c] 64)
 have HB := zH (HB0.alloc HB0.size (.cells #[.int .i64 0, .bool false, .slice none 0 0, .int .i64 0, .bool false, .slice none 0 0] 127))
 clear HB0 hc hok hcb hr hs
 go_enter Tryz.func86, Tryz.ntmps86
 go_upto_region 1 with fail
 obtain ⟨X, HXe⟩ : ∃ z, Hid (w.heap.size = z) := ⟨_, rfl⟩
 obtain ⟨R, HRe⟩ : ∃ z, Hid (w.heap.size + 1 = z) := ⟨_, rfl⟩
 have HRl : Hid (w.heap.size ≤ R ∧ w.heap.size ≤ X) := zH ⟨by have := HRe.out; omega, by have := HXe.out; omega⟩
 rw [HRe.out] at HR
 rw [HXe.out] at HX
 rw [HRe.out, HXe.out]
 generalize hW : (w.alloc (.cells #[.int .i64 3, .int .i64 cm, .int .i64 lk, .int .i64 lx, .int .i64 vk, .int .i64 vi, .string vt, .int .i64 rk, .int .i64 rx, .int .i64 uk, .int .i64 ui, .string ut, .slice A 0 c] 64)).alloc (.cells #[.int .i64 0, .bool false, .slice none 0 0, .int .i64 0, .bool false, .slice none 0 0] 127) = w1 at *
 clear hW HXe HRe
 have hXlt : X < w1.heap.size := HX.out.lt
 have HRlt : Hid (R < w1.heap.size ∧ X < w1.heap.size) := zH ⟨HR.out.lt, hXlt⟩
 refine wp_region_inv (lessB w1.heap.size) (lessB_trans _) [6, 7, 8] [0, 1, 2, 3, 4, 5] [6, 7, 8, 9, 10, 11] (BlksI w1.drew [⟨6, 9, 6, 61, #[.int .i64 0, .int .i64 0, .int .i64 0, .int .i64 0, .string ⟨#[]⟩], #[.int .i64 lk, .int .i64 lx, .int .i64 vk, .int .i64 vi, .string vt]⟩, ⟨7, 10, 7, 61, #[.int .i64 0, .int .i64 0, .int .i64 0, .int .i64 0, .string ⟨#[]⟩], #[.int .i64 rk, .int .i64 rx, .int .i64 uk, .int .i64 ui, .string ut]⟩, ⟨8, 11, 8, 3, #[.int .i64 0], #[.int .i64 (nc : Int)]⟩] []) (by kernel_rfl) (by kernel_rfl) (fun _ _ d _ _ h => by cases d <;> exact h) ?_
 have HXd := zH HX.out.drew
 have qa : ∀ (y : LaterR (lessB w1.heap.size) w1.drew) z, (afterR (lessB w1.heap.size) w1.drew y).cell? ⟨X, z, none⟩ = (#[.int .i64 3, .int .i64 cm, .int .i64 lk, .int .i64 lx, .int .i64 vk, .int .i64 vi, .string vt, .int .i64 rk, .int .i64 rx, .int .i64 uk, .int .i64 ui, .string ut, .slice A 0 c] : Array Value)[z]? := fun y z => y.cell (HXd.out.cell z) (fun W h => (keep_blk HXd.out h hXlt).cell z)
 simp only [pickOps, opAt, pkO]
 repeat (go_big_quiet_step (fail))
 refine wpQuiet_nil ?_
 clear qa
 refine ⟨by kernel_rfl, BlksI.start _ _ _ _, ?_, ?_⟩
 · refine ⟨?_, ?_, ?_, ?_, ?_, ?_, trivial⟩
   · intro d us w2 hd hdep hI
     replace hI := zH hI
     clear hdep
     simp only [opAt, List.getElem?_toArray, List.getElem?_cons_zero, List.getElem?_cons_succ, Option.getD_some, overU, List.foldl]
     go_wp2_with fail
     exact ⟨⟨(Below.refl _ _).alloc hI.out.be.size _, hI.out.alloc (b := ⟨6, 9, 6, 61, #[.int .i64 0, .int .i64 0, .int .i64 0, .int .i64 0, .string ⟨#[]⟩], #[.int .i64 lk, .int .i64 lx, .int .i64 vk, .int .i64 vi, .string vt]⟩) (by simp) hd (by intro b' hb'; simp only [List.mem_cons, List.not_mem_nil, or_false] at hb'; rcases hb' with rfl | rfl | rfl <;> simp) (by intro q' hq'; cases hq') rfl (by intro b' hb'; simp only [List.mem_cons, List.not_mem_nil, or_false] at hb'; rcases hb' with rfl | rfl | rfl <;> first | (intro h; exact absurd rfl h) | (intro _; rfl)) (by intro q' hq'; cases hq')⟩, by first | kernel_rfl | exact ⟨rfl, rfl, rfl⟩ | exact ⟨rfl, rfl⟩⟩
   · intro d us w2 hd hdep hI
     replace hI := zH hI
     clear hdep
     simp only [opAt, List.getElem?_toArray, List.getElem?_cons_zero, List.getElem?_cons_succ, Option.getD_some, overU, List.foldl]
     go_wp2_with fail
     exact ⟨⟨(Below.refl _ _).alloc hI.out.be.size _, hI.out.alloc (b := ⟨7, 10, 7, 61, #[.int .i64 0, .int .i64 0, .int .i64 0, .int .i64 0, .string ⟨#[]⟩], #[.int .i64 rk, .int .i64 rx, .int .i64 uk, .int .i64 ui, .string ut]⟩) (by simp) hd (by intro b' hb'; simp only [List.mem_cons, List.not_mem_nil, or_false] at hb'; rcases hb' with rfl | rfl | rfl <;> simp) (by intro q' hq'; cases hq') rfl (by intro b' hb'; simp only [List.mem_cons, List.not_mem_nil, or_false] at hb'; rcases hb' with rfl | rfl | rfl <;> first | (intro h; exact absurd rfl h) | (intro _; rfl)) (by intro q' hq'; cases hq')⟩, by first | kernel_rfl | exact ⟨rfl, rfl, rfl⟩ | exact ⟨rfl, rfl⟩⟩
   · intro d us w2 hd hdep hI
     replace hI := zH hI
     clear hdep
     simp only [opAt, List.getElem?_toArray, List.getElem?_cons_zero, List.getElem?_cons_succ, Option.getD_some, overU, List.foldl]
     go_wp2_with fail
     exact ⟨⟨(Below.refl _ _).alloc hI.out.be.size _, hI.out.alloc (b := ⟨8, 11, 8, 3, #[.int .i64 0], #[.int .i64 (nc : Int)]⟩) (by simp) hd (by intro b' hb'; simp only [List.mem_cons, List.not_mem_nil, or_false] at hb'; rcases hb' with rfl | rfl | rfl <;> simp) (by intro q' hq'; cases hq') rfl (by intro b' hb'; simp only [List.mem_cons, List.not_mem_nil, or_false] at hb'; rcases hb' with rfl | rfl | rfl <;> first | (intro h; exact absurd rfl h) | (intro _; rfl)) (by intro q' hq'; cases hq')⟩, by first | kernel_rfl | exact ⟨rfl, rfl, rfl⟩ | exact ⟨rfl, rfl⟩⟩
   · intro d us w2 hd hdep hI
     replace hI := zH hI
     have he := hdep 6 (by decide) (by kernel_rfl)
     obtain ⟨B, e7, hB, hblk⟩ := hI.out.at_ ⟨6, 9, 6, 61, #[.int .i64 0, .int .i64 0, .int .i64 0, .int .i64 0, .string ⟨#[]⟩], #[.int .i64 lk, .int .i64 lx, .int .i64 vk, .int .i64 vi, .string vt]⟩ (by simp) he
     rw [if_neg (by dsimp only; rw [hd]; decide)] at hblk
     have zb : Hid (Blk w2 B 61 #[.int .i64 0, .int .i64 0, .int .i64 0, .int .i64 0, .string ⟨#[]⟩]) := zH hblk
     simp only [opAt, List.getElem?_toArray, List.getElem?_cons_zero, List.getElem?_cons_succ, Option.getD_some, overU, List.foldl]
     have e7' : us 6 = ptrV B := e7
     rw [e7']
     have zc := zb.out.cell
     have zf := zb.out.free
     have He7 := zH e7'
     have He := zH he
     clear hblk e7 e7' he hdep
     go_wp2_with fail
     exact ⟨⟨(((((Below.refl _ _).setCell (p := ⟨B, 0, none⟩) hB (.int .i64 lk)).setCell (p := ⟨B, 1, none⟩) hB (.int .i64 lx)).setCell (p := ⟨B, 2, none⟩) hB (.int .i64 vk)).setCell (p := ⟨B, 3, none⟩) hB (.int .i64 vi)).setCell (p := ⟨B, 4, none⟩) hB (.string vt), hI.out.store (b := ⟨6, 9, 6, 61, #[.int .i64 0, .int .i64 0, .int .i64 0, .int .i64 0, .string ⟨#[]⟩], #[.int .i64 lk, .int .i64 lx, .int .i64 vk, .int .i64 vi, .string vt]⟩) (by simp) hd He.out (by intro b' hb'; simp only [List.mem_cons, List.not_mem_nil, or_false] at hb'; rcases hb' with rfl | rfl | rfl <;> simp) (by intro q' hq'; cases hq') (by intro b' hb'; simp only [List.mem_cons, List.not_mem_nil, or_false] at hb'; rcases hb' with rfl | rfl | rfl <;> first | rfl | exact He7.out.symm) (by intro q' hq'; cases hq') (B := B) He7.out (((((But.set (S := fun k => k = B) _ (p := ⟨B, 0, none⟩) rfl _).trans (But.set (S := fun k => k = B) _ (p := ⟨B, 1, none⟩) rfl _)).trans (But.set (S := fun k => k = B) _ (p := ⟨B, 2, none⟩) rfl _)).trans (But.set (S := fun k => k = B) _ (p := ⟨B, 3, none⟩) rfl _)).trans (But.set (S := fun k => k = B) _ (p := ⟨B, 4, none⟩) rfl _)) ((((((hI.out.be).setCell (p := ⟨B, 0, none⟩) hB (.int .i64 lk)).setCell (p := ⟨B, 1, none⟩) hB (.int .i64 lx)).setCell (p := ⟨B, 2, none⟩) hB (.int .i64 vk)).setCell (p := ⟨B, 3, none⟩) hB (.int .i64 vi)).setCell (p := ⟨B, 4, none⟩) hB (.string vt)) ((((((zb.out).set_ 0 (.int .i64 lk)).set_ 1 (.int .i64 lx)).set_ 2 (.int .i64 vk)).set_ 3 (.int .i64 vi)).set_ 4 (.string vt))⟩, by first | kernel_rfl | exact ⟨rfl, rfl, rfl⟩ | exact ⟨rfl, rfl⟩⟩
   · intro d us w2 hd hdep hI
     replace hI := zH hI
     have he := hdep 7 (by decide) (by kernel_rfl)
     obtain ⟨B, e7, hB, hblk⟩ := hI.out.at_ ⟨7, 10, 7, 61, #[.int .i64 0, .int .i64 0, .int .i64 0, .int .i64 0, .string ⟨#[]⟩], #[.int .i64 rk, .int .i64 rx, .int .i64 uk, .int .i64 ui, .string ut]⟩ (by simp) he
     rw [if_neg (by dsimp only; rw [hd]; decide)] at hblk
     have zb : Hid (Blk w2 B 61 #[.int .i64 0, .int .i64 0, .int .i64 0, .int .i64 0, .string ⟨#[]⟩]) := zH hblk
     simp only [opAt, List.getElem?_toArray, List.getElem?_cons_zero, List.getElem?_cons_succ, Option.getD_some, overU, List.foldl]
     have e7' : us 7 = ptrV B := e7
     rw [e7']
     have zc := zb.out.cell
     have zf := zb.out.free
     have He7 := zH e7'
     have He := zH he
     clear hblk e7 e7' he hdep
     go_wp2_with fail
     exact ⟨⟨(((((Below.refl _ _).setCell (p := ⟨B, 0, none⟩) hB (.int .i64 rk)).setCell (p := ⟨B, 1, none⟩) hB (.int .i64 rx)).setCell (p := ⟨B, 2, none⟩) hB (.int .i64 uk)).setCell (p := ⟨B, 3, none⟩) hB (.int .i64 ui)).setCell (p := ⟨B, 4, none⟩) hB (.string ut), hI.out.store (b := ⟨7, 10, 7, 61, #[.int .i64 0, .int .i64 0, .int .i64 0, .int .i64 0, .string ⟨#[]⟩], #[.int .i64 rk, .int .i64 rx, .int .i64 uk, .int .i64 ui, .string ut]⟩) (by simp) hd He.out (by intro b' hb'; simp only [List.mem_cons, List.not_mem_nil, or_false] at hb'; rcases hb' with rfl | rfl | rfl <;> simp) (by intro q' hq'; cases hq') (by intro b' hb'; simp only [List.mem_cons, List.not_mem_nil, or_false] at hb'; rcases hb' with rfl | rfl | rfl <;> first | rfl | exact He7.out.symm) (by intro q' hq'; cases hq') (B := B) He7.out (((((But.set (S := fun k => k = B) _ (p := ⟨B, 0, none⟩) rfl _).trans (But.set (S := fun k => k = B) _ (p := ⟨B, 1, none⟩) rfl _)).trans (But.set (S := fun k => k = B) _ (p := ⟨B, 2, none⟩) rfl _)).trans (But.set (S := fun k => k = B) _ (p := ⟨B, 3, none⟩) rfl _)).trans (But.set (S := fun k => k = B) _ (p := ⟨B, 4, none⟩) rfl _)) ((((((hI.out.be).setCell (p := ⟨B, 0, none⟩) hB (.int .i64 rk)).setCell (p := ⟨B, 1, none⟩) hB (.int .i64 rx)).setCell (p := ⟨B, 2, none⟩) hB (.int .i64 uk)).setCell (p := ⟨B, 3, none⟩) hB (.int .i64 ui)).setCell (p := ⟨B, 4, none⟩) hB (.string ut)) ((((((zb.out).set_ 0 (.int .i64 rk)).set_ 1 (.int .i64 rx)).set_ 2 (.int .i64 uk)).set_ 3 (.int .i64 ui)).set_ 4 (.string ut))⟩, by first | kernel_rfl | exact ⟨rfl, rfl, rfl⟩ | exact ⟨rfl, rfl⟩⟩
   · intro d us w2 hd hdep hI
     replace hI := zH hI
     have he := hdep 8 (by decide) (by kernel_rfl)
     obtain ⟨B, e7, hB, hblk⟩ := hI.out.at_ ⟨8, 11, 8, 3, #[.int .i64 0], #[.int .i64 (nc : Int)]⟩ (by simp) he
     rw [if_neg (by dsimp only; rw [hd]; decide)] at hblk
     have zb : Hid (Blk w2 B 3 #[.int .i64 0]) := zH hblk
     simp only [opAt, List.getElem?_toArray, List.getElem?_cons_zero, List.getElem?_cons_succ, Option.getD_some, overU, List.foldl]
     have e7' : us 8 = ptrV B := e7
     rw [e7']
     have zc := zb.out.cell
     have zf := zb.out.free
     have He7 := zH e7'
     have He := zH he
     clear hblk e7 e7' he hdep
     go_wp2_with fail
     exact ⟨⟨(Below.refl _ _).setCell (p := ⟨B, 0, none⟩) hB (.int .i64 (nc : Int)), hI.out.store (b := ⟨8, 11, 8, 3, #[.int .i64 0], #[.int .i64 (nc : Int)]⟩) (by simp) hd He.out (by intro b' hb'; simp only [List.mem_cons, List.not_mem_nil, or_false] at hb'; rcases hb' with rfl | rfl | rfl <;> simp) (by intro q' hq'; cases hq') (by intro b' hb'; simp only [List.mem_cons, List.not_mem_nil, or_false] at hb'; rcases hb' with rfl | rfl | rfl <;> first | rfl | exact He7.out.symm) (by intro q' hq'; cases hq') (B := B) He7.out (But.set (S := fun k => k = B) _ (p := ⟨B, 0, none⟩) rfl _) ((hI.out.be).setCell (p := ⟨B, 0, none⟩) hB (.int .i64 (nc : Int))) ((zb.out).set_ 0 (.int .i64 (nc : Int)))⟩, by first | kernel_rfl | exact ⟨rfl, rfl, rfl⟩ | exact ⟨rfl, rfl⟩⟩
 · intro d us w2 hall hI
   obtain ⟨L, heL, hlL, hblkL⟩ := hI.at_ ⟨6, 9, 6, 61, #[.int .i64 0, .int .i64 0, .int .i64 0, .int .i64 0, .string ⟨#[]⟩], #[.int .i64 lk, .int .i64 lx, .int .i64 vk, .int .i64 vi, .string vt]⟩ (by simp) (hall 6 (by decide))
   rw [if_pos (show d 9 = true from hall 9 (by decide))] at hblkL
   have HL : Hid (Blk w2 L 61 #[.int .i64 lk, .int .i64 lx, .int .i64 vk, .int .i64 vi, .string vt]) := zH hblkL
   have HLL : Hid (w1.heap.size ≤ L) := zH hlL
   have hsL : us 6 = ptrV L := heL
   obtain ⟨Q, heQ, hlQ, hblkQ⟩ := hI.at_ ⟨7, 10, 7, 61, #[.int .i64 0, .int .i64 0, .int .i64 0, .int .i64 0, .string ⟨#[]⟩], #[.int .i64 rk, .int .i64 rx, .int .i64 uk, .int .i64 ui, .string ut]⟩ (by simp) (hall 7 (by decide))
   rw [if_pos (show d 10 = true from hall 10 (by decide))] at hblkQ
   have HQ : Hid (Blk w2 Q 61 #[.int .i64 rk, .int .i64 rx, .int .i64 uk, .int .i64 ui, .string ut]) := zH hblkQ
   have HLQ : Hid (w1.heap.size ≤ Q) := zH hlQ
   have hsQ : us 7 = ptrV Q := heQ
   obtain ⟨M, heM, hlM, hblkM⟩ := hI.at_ ⟨8, 11, 8, 3, #[.int .i64 0], #[.int .i64 (nc : Int)]⟩ (by simp) (hall 8 (by decide))
   rw [if_pos (show d 11 = true from hall 11 (by decide))] at hblkM
   have HM : Hid (Blk w2 M 3 #[.int .i64 (nc : Int)]) := zH hblkM
   have HLM : Hid (w1.heap.size ≤ M) := zH hlM
   have hsM : us 8 = ptrV M := heM
   have HNLQ : Hid (L ≠ Q) := zH (hI.ne ⟨6, 9, 6, 61, #[.int .i64 0, .int .i64 0, .int .i64 0, .int .i64 0, .string ⟨#[]⟩], #[.int .i64 lk, .int .i64 lx, .int .i64 vk, .int .i64 vi, .string vt]⟩ (by simp) ⟨7, 10, 7, 61, #[.int .i64 0, .int .i64 0, .int .i64 0, .int .i64 0, .string ⟨#[]⟩], #[.int .i64 rk, .int .i64 rx, .int .i64 uk, .int .i64 ui, .string ut]⟩ (by simp) (by simp) (hall 6 (by decide)) (hall 7 (by decide)) L Q heL heQ)
   have HNLM : Hid (L ≠ M) := zH (hI.ne ⟨6, 9, 6, 61, #[.int .i64 0, .int .i64 0, .int .i64 0, .int .i64 0, .string ⟨#[]⟩], #[.int .i64 lk, .int .i64 lx, .int .i64 vk, .int .i64 vi, .string vt]⟩ (by simp) ⟨8, 11, 8, 3, #[.int .i64 0], #[.int .i64 (nc : Int)]⟩ (by simp) (by simp) (hall 6 (by decide)) (hall 8 (by decide)) L M heL heM)
   have HNQM : Hid (Q ≠ M) := zH (hI.ne ⟨7, 10, 7, 61, #[.int .i64 0, .int .i64 0, .int .i64 0, .int .i64 0, .string ⟨#[]⟩], #[.int .i64 rk, .int .i64 rx, .int .i64 uk, .int .i64 ui, .string ut]⟩ (by simp) ⟨8, 11, 8, 3, #[.int .i64 0], #[.int .i64 (nc : Int)]⟩ (by simp) (by simp) (hall 7 (by decide)) (hall 8 (by decide)) Q M heQ heM)
   have HBE := zH (Below.trans (Below.refl w1.heap.size w1).drew hI.be)
   simp only [overU, List.foldl]
   rw [hsL, hsQ, hsM]
   clear hI hall heL hlL hblkL hsL heQ hlQ hblkQ hsQ heM hlM hblkM hsM 
   clear us
   have HX2 := zH (HX.out.below HBE.out)
   have HR2 := zH (HR.out.below HBE.out)
   have HC2 := zH (HC.out.keep (keeps_of HBE.out))
   have HS2 := zH (HS.out.keep (keeps_of HBE.out))
   have HB2 := zH (Below.next HB.out HBE.out)
   have HSZ : Hid (w.heap.size ≤ w2.heap.size) := zH HB2.out.size
   clear HX HR HC HS HB HXd HBE HRlt hXlt
   have hkk : (1 ≤ cm ∧ cm ≤ 6) ∧ kindOf cols [] ⟨lk, lx, ⟨vk, vi, vt⟩⟩ ≠ 0 ∧ kindOf cols [] ⟨lk, lx, ⟨vk, vi, vt⟩⟩ = kindOf cols [] ⟨rk, rx, ⟨uk, ui, ut⟩⟩ := by
    have h := HOK.out
    rw [headOk_cmp rfl, decide_eq_true_eq] at h
    exact h.2
   have hrc := kindOf_cases (show kindOf cols [] ⟨rk, rx, ⟨uk, ui, ut⟩⟩ ≠ 0 from fun e => hkk.2.1 (hkk.2.2.trans e))
   have hlc := kindOf_cases hkk.2.1
   have HCM := zH hkk.1
   have HKE := zH hkk.2.2
   clear hkk HOK
   rcases hlc with ⟨hl, hlv, hlk⟩ | ⟨hl, i, hli, hil, hlk⟩
   · rcases hrc with ⟨hr, hrv, hrk⟩ | ⟨hr, j, hrj, hjl, hrk⟩
     · dsimp only at hl hr hlv hrv
       subst hl hr
       clear hlk hrk hlv hrv
       have zl := HL.out.cell
       have zq := HQ.out.cell
       have zx := HX2.out.cell
       go_wp2_with fail
       refine (holds_any [] [] 1 (.nil ⟨3, cm, ⟨3, lx, ⟨vk, vi, vt⟩⟩, ⟨3, rx, ⟨uk, ui, ut⟩⟩⟩) A 0 c none 0 0 none 0 0 _ (Nat.le_refl _) (by omega) HS2.out Sl.nil Sl.nil).mono ?_
       rintro e w3 ⟨rfl, hb3⟩
       obtain ⟨ho, Hho⟩ : ∃ z, Hid (holdsB [] [] (.nil ⟨3, cm, ⟨3, lx, ⟨vk, vi, vt⟩⟩, ⟨3, rx, ⟨uk, ui, ut⟩⟩⟩) = z) := ⟨_, rfl⟩
       rw [Hho.out]
       have Hv : Hid (cmpOk cm ⟨vk, vi, vt⟩ ⟨uk, ui, ut⟩ = ho) := zH (by rw [← Hho.out]; unfold holdsB; rw [fin_cmp rfl, dnV_val2 rfl, dnV_val2 rfl]; rfl)
       have HG := zH (Blk.new w3 4 #[.bool ho])
       have HM4 := zH ((HM.out.below hb3).alloc (.cells #[.bool ho] 4))
       have HR5 := zH ((HR2.out.below hb3).alloc (.cells #[.bool ho] 4))
       have HB3 := zH (Below.next HB2.out hb3)
       have HB5 := zH (HB3.out.alloc HB3.out.size (.cells #[.bool ho] 4))
       obtain ⟨G, HGe⟩ : ∃ z, Hid (w3.heap.size = z) := ⟨_, rfl⟩
       rw [HGe.out] at HG
       clear hb3 zl zq zx HL HQ HM HX2 HR2 HC2 HS2 HB2 HB3
       go_upto_region 4 with fail
       rw [HGe.out]
       generalize hW : w3.alloc (.cells #[.bool ho] 4) = w4 at *
       clear hW HGe
       have HNr : Hid (noEmp (if ho = true then allR nc else .nil (nc : Int) false)) := zH (by
        cases ho
        · exact trivial
        · exact ok_noEmp (all_ok hn))
       have Hp : Hid ((if ho = true then allR nc else .nil (nc : Int) false) = ra ∧ (if ho = true then allR nc else .nil (nc : Int) false) = rb) := zH (by
        have h := Hrr.out
        unfold cmpPair at h
        rw [if_pos ⟨rfl, rfl⟩, Hv.out, Hlc.out] at h
        cases ho
        · injection h with h1 h2; exact ⟨h1, h2⟩
        · injection h with h1 h2; exact ⟨h1, h2⟩)
       clear Hrr
       go_wp2_with fail
       refine (twice2_any 134 ent_fnHold G M (if ho = true then allR nc else .nil (nc : Int) false) HNr.out _ (fun W hW => fnHold_any G M ho nc W (HG.out.below hW) (HM4.out.below hW) hn)).mono ?_
       rintro e w9 ⟨y, g, C, m, d, y', g', C', m', d', rfl, hA, hA', hb9⟩
       have HRz := zH (HR5.out.below hb9)
       have HBz := zH (Below.next HB5.out hb9)
       have HA := zH hA
       have HA' := zH hA'
       have HNa := HNr
       have HNb := HNr
       clear hA hA' hb9
       rw [Hp.out.1] at HA HNa
       rw [Hp.out.2] at HA' HNb
       have zr := HRz.out.cell
       have zf := HRz.out.free
       unfold prC at zr
       have y6 := (put6_blk (x := y) (f := g) (A := C) (n := m) (c := d) (x' := y') (f' := g') (A' := C') (n' := m') (c' := d') HRz.out).cell
       unfold prC at y6
       have HBr := zH (put6_below (x := y) (f := g) (A := C) (n := m) (c := d) (x' := y') (f' := g') (A' := C') (n' := m') (c' := d') HBz.out HRl.out.1)
       have HA3 := zH (RgS.off2 (a := zeroR) HRz.out (RgS.zero' _) (put6_but (w := w9) (B := R) (x := y) (f := g) (A := C) (n := m) (c := d) (x' := y') (f' := g') (A' := C') (n' := m') (c' := d')) HNa.out HA.out)
       have HA4 := zH (RgS.off2 (a := zeroR) HRz.out (RgS.zero' _) (put6_but (w := w9) (B := R) (x := y) (f := g) (A := C) (n := m) (c := d) (x' := y') (f' := g') (A' := C') (n' := m') (c' := d')) HNb.out HA'.out)
       unfold put6 at y6 HBr HA3 HA4
       unfold prC
       go_wp2
       exact bodyPost_ret (v := .tuple #[.agg #[.int .i64 y, .bool g, .slice C m d, .int .i64 y', .bool g', .slice C' m' d'], .int .i64 0]) (by simp [results, Tryz.results86, go_sem, y6]) rfl ⟨y, g, C, m, d, y', g', C', m', d', rfl, HA3.out, HA4.out, HBr.out⟩
     · skip
       dsimp only at hl hr hrj hlv
       subst hl hr
       obtain rfl : rx = (j : Int) := hrj
       have Hix : Hid (0 ≤ (j : Int) ∧ (j : Int) < (nc : Int)) := zH ⟨by omega, by have := Hlc.out; omega⟩
       have Hval : Hid (validV ⟨vk, vi, vt⟩ = true ∧ rngV ⟨vk, vi, vt⟩ ∧ 3 ≤ (⟨vk, vi, vt⟩ : Vl).k) := zH ⟨(real_k.1 hlv).1, HRG.out.1, (real_k.1 hlv).2⟩
       have Hcm2 : Hid (1 ≤ mirC cm ∧ mirC cm ≤ 6) := zH (by
        have h := HCM.out
        unfold mirC
        repeat' split
        all_goals omega)
       have Hpr : Hid (bx2 nc (j : Int) (j : Int) (cmpSet (mirC cm) ⟨vk, vi, vt⟩) = ra ∧ bx2 nc (j : Int) (j : Int) (cmpSet (mirC cm) ⟨vk, vi, vt⟩) = rb) := zH (by
        have h := Hrr.out
        unfold cmpPair at h
        rw [if_neg (by simp), if_neg (by simp), if_neg (by simp), Hlc.out] at h
        injection h with h1 h2
        exact ⟨h1, h2⟩)
       clear Hrr hlk hrk hjl hlv HKE
       have zl := HL.out.cell
       have zq := HQ.out.cell
       go_upto_region 12 with fail
       clear zl zq
       refine wp_region_inv (lessB w2.heap.size) (lessB_trans _) [12, 13, 14] [0, 1, 2, 3, 4, 5] [6, 7, 8, 9, 10] (BlksI w2.drew [⟨6, 8, 12, 3, #[.int .i64 0], #[.int .i64 lx]⟩, ⟨7, 10, 14, 59, #[.int .i64 0, .int .i64 0, .string ⟨#[]⟩], #[.int .i64 uk, .int .i64 ui, .string ut]⟩] [(9, 13, .int .i64 cm)]) (by kernel_rfl) (by kernel_rfl) (fun _ _ d _ _ h => by cases d <;> exact h) ?_
       have HLd := zH (HL.out).drew
       have hltL : L < w2.heap.size := (HL.out).lt
       have qL : ∀ (y : LaterR (lessB w2.heap.size) w2.drew) z, (afterR (lessB w2.heap.size) w2.drew y).cell? ⟨L, z, none⟩ = (#[.int .i64 3, .int .i64 lx, .int .i64 vk, .int .i64 vi, .string vt] : Array Value)[z]? := fun y z => y.cell (HLd.out.cell z) (fun W h => (keep_blk HLd.out h hltL).cell z)
       have HQd := zH (HQ.out).drew
       have hltQ : Q < w2.heap.size := (HQ.out).lt
       have qQ : ∀ (y : LaterR (lessB w2.heap.size) w2.drew) z, (afterR (lessB w2.heap.size) w2.drew y).cell? ⟨Q, z, none⟩ = (#[.int .i64 1, .int .i64 (j : Int), .int .i64 uk, .int .i64 ui, .string ut] : Array Value)[z]? := fun y z => y.cell (HQd.out.cell z) (fun W h => (keep_blk HQd.out h hltQ).cell z)
       have HXd := zH (HX2.out).drew
       have hltX : X < w2.heap.size := (HX2.out).lt
       have qX : ∀ (y : LaterR (lessB w2.heap.size) w2.drew) z, (afterR (lessB w2.heap.size) w2.drew y).cell? ⟨X, z, none⟩ = (#[.int .i64 3, .int .i64 cm, .int .i64 3, .int .i64 lx, .int .i64 vk, .int .i64 vi, .string vt, .int .i64 1, .int .i64 (j : Int), .int .i64 uk, .int .i64 ui, .string ut, .slice A 0 c] : Array Value)[z]? := fun y z => y.cell (HXd.out.cell z) (fun W h => (keep_blk HXd.out h hltX).cell z)
       simp only [pickOps, opAt, pkO]
       repeat (go_big_quiet_step (fail))
       refine wpQuiet_nil ?_
       clear qL qQ qX
       refine ⟨by kernel_rfl, BlksI.start _ _ _ _, ?_, ?_⟩
       · refine ⟨?_, ?_, ?_, ?_, ?_, trivial⟩
         · intro d us w4 hd hdep hI
           replace hI := zH hI
           clear hdep
           simp only [opAt, List.getElem?_toArray, List.getElem?_cons_zero, List.getElem?_cons_succ, Option.getD_some, overU, List.foldl]
           go_wp2_with fail
           exact ⟨⟨(Below.refl _ _).alloc hI.out.be.size _, hI.out.alloc (b := ⟨6, 8, 12, 3, #[.int .i64 0], #[.int .i64 lx]⟩) (by simp) hd (by intro b' hb'; simp only [List.mem_cons, List.not_mem_nil, or_false] at hb'; rcases hb' with rfl | rfl <;> simp) (by intro q' hq'; simp only [List.mem_cons, List.not_mem_nil, or_false] at hq'; rcases hq' with rfl <;> simp) rfl (by intro b' hb'; simp only [List.mem_cons, List.not_mem_nil, or_false] at hb'; rcases hb' with rfl | rfl <;> first | (intro h; exact absurd rfl h) | (intro _; rfl)) (by intro q' hq'; simp only [List.mem_cons, List.not_mem_nil, or_false] at hq'; rcases hq' with rfl <;> rfl)⟩, by first | kernel_rfl | exact ⟨rfl, rfl, rfl⟩ | exact ⟨rfl, rfl⟩⟩
         · intro d us w4 hd hdep hI
           replace hI := zH hI
           clear hdep
           simp only [opAt, List.getElem?_toArray, List.getElem?_cons_zero, List.getElem?_cons_succ, Option.getD_some, overU, List.foldl]
           go_wp2_with fail
           exact ⟨⟨(Below.refl _ _).alloc hI.out.be.size _, hI.out.alloc (b := ⟨7, 10, 14, 59, #[.int .i64 0, .int .i64 0, .string ⟨#[]⟩], #[.int .i64 uk, .int .i64 ui, .string ut]⟩) (by simp) hd (by intro b' hb'; simp only [List.mem_cons, List.not_mem_nil, or_false] at hb'; rcases hb' with rfl | rfl <;> simp) (by intro q' hq'; simp only [List.mem_cons, List.not_mem_nil, or_false] at hq'; rcases hq' with rfl <;> simp) rfl (by intro b' hb'; simp only [List.mem_cons, List.not_mem_nil, or_false] at hb'; rcases hb' with rfl | rfl <;> first | (intro h; exact absurd rfl h) | (intro _; rfl)) (by intro q' hq'; simp only [List.mem_cons, List.not_mem_nil, or_false] at hq'; rcases hq' with rfl <;> rfl)⟩, by first | kernel_rfl | exact ⟨rfl, rfl, rfl⟩ | exact ⟨rfl, rfl⟩⟩
         · intro d us w4 hd hdep hI
           replace hI := zH hI
           have he := hdep 6 (by decide) (by kernel_rfl)
           obtain ⟨B, e7, hB, hblk⟩ := hI.out.at_ ⟨6, 8, 12, 3, #[.int .i64 0], #[.int .i64 lx]⟩ (by simp) he
           rw [if_neg (by dsimp only; rw [hd]; decide)] at hblk
           have zb : Hid (Blk w4 B 3 #[.int .i64 0]) := zH hblk
           simp only [opAt, List.getElem?_toArray, List.getElem?_cons_zero, List.getElem?_cons_succ, Option.getD_some, overU, List.foldl]
           have e7' : us 12 = ptrV B := e7
           rw [e7']
           have zc := zb.out.cell
           have zf := zb.out.free
           have He7 := zH e7'
           have He := zH he
           clear hblk e7 e7' he hdep
           go_wp2_with fail
           exact ⟨⟨(Below.refl _ _).setCell (p := ⟨B, 0, none⟩) hB (.int .i64 lx), hI.out.store (b := ⟨6, 8, 12, 3, #[.int .i64 0], #[.int .i64 lx]⟩) (by simp) hd He.out (by intro b' hb'; simp only [List.mem_cons, List.not_mem_nil, or_false] at hb'; rcases hb' with rfl | rfl <;> simp) (by intro q' hq'; simp only [List.mem_cons, List.not_mem_nil, or_false] at hq'; rcases hq' with rfl <;> simp) (by intro b' hb'; simp only [List.mem_cons, List.not_mem_nil, or_false] at hb'; rcases hb' with rfl | rfl <;> first | rfl | exact He7.out.symm) (by intro q' hq'; simp only [List.mem_cons, List.not_mem_nil, or_false] at hq'; rcases hq' with rfl <;> rfl) (B := B) He7.out (But.set (S := fun k => k = B) _ (p := ⟨B, 0, none⟩) rfl _) ((hI.out.be).setCell (p := ⟨B, 0, none⟩) hB (.int .i64 lx)) ((zb.out).set_ 0 (.int .i64 lx))⟩, by first | kernel_rfl | exact ⟨rfl, rfl, rfl⟩ | exact ⟨rfl, rfl⟩⟩
         · intro d us w4 hd hdep hI
           replace hI := zH hI
           clear hdep
           simp only [opAt, List.getElem?_toArray, List.getElem?_cons_zero, List.getElem?_cons_succ, Option.getD_some, overU, List.foldl]
           go_wp2_with fail
           exact ⟨⟨Below.refl _ _, hI.out.assign (q := (9, 13, .int .i64 cm)) (by simp) hd (by intro b' hb'; simp only [List.mem_cons, List.not_mem_nil, or_false] at hb'; rcases hb' with rfl | rfl <;> simp) (by intro q' hq'; simp only [List.mem_cons, List.not_mem_nil, or_false] at hq'; rcases hq' with rfl <;> simp) rfl (by intro b' hb'; simp only [List.mem_cons, List.not_mem_nil, or_false] at hb'; rcases hb' with rfl | rfl <;> rfl) (by intro q' hq'; simp only [List.mem_cons, List.not_mem_nil, or_false] at hq'; rcases hq' with rfl <;> first | (intro h; exact absurd rfl h) | (intro _; rfl))⟩, by first | kernel_rfl | exact ⟨rfl, rfl, rfl⟩ | exact ⟨rfl, rfl⟩⟩
         · intro d us w4 hd hdep hI
           replace hI := zH hI
           have he := hdep 7 (by decide) (by kernel_rfl)
           obtain ⟨B, e7, hB, hblk⟩ := hI.out.at_ ⟨7, 10, 14, 59, #[.int .i64 0, .int .i64 0, .string ⟨#[]⟩], #[.int .i64 uk, .int .i64 ui, .string ut]⟩ (by simp) he
           rw [if_neg (by dsimp only; rw [hd]; decide)] at hblk
           have zb : Hid (Blk w4 B 59 #[.int .i64 0, .int .i64 0, .string ⟨#[]⟩]) := zH hblk
           simp only [opAt, List.getElem?_toArray, List.getElem?_cons_zero, List.getElem?_cons_succ, Option.getD_some, overU, List.foldl]
           have e7' : us 14 = ptrV B := e7
           rw [e7']
           have zc := zb.out.cell
           have zf := zb.out.free
           have He7 := zH e7'
           have He := zH he
           clear hblk e7 e7' he hdep
           go_wp2_with fail
           exact ⟨⟨(((Below.refl _ _).setCell (p := ⟨B, 0, none⟩) hB (.int .i64 uk)).setCell (p := ⟨B, 1, none⟩) hB (.int .i64 ui)).setCell (p := ⟨B, 2, none⟩) hB (.string ut), hI.out.store (b := ⟨7, 10, 14, 59, #[.int .i64 0, .int .i64 0, .string ⟨#[]⟩], #[.int .i64 uk, .int .i64 ui, .string ut]⟩) (by simp) hd He.out (by intro b' hb'; simp only [List.mem_cons, List.not_mem_nil, or_false] at hb'; rcases hb' with rfl | rfl <;> simp) (by intro q' hq'; simp only [List.mem_cons, List.not_mem_nil, or_false] at hq'; rcases hq' with rfl <;> simp) (by intro b' hb'; simp only [List.mem_cons, List.not_mem_nil, or_false] at hb'; rcases hb' with rfl | rfl <;> first | rfl | exact He7.out.symm) (by intro q' hq'; simp only [List.mem_cons, List.not_mem_nil, or_false] at hq'; rcases hq' with rfl <;> rfl) (B := B) He7.out (((But.set (S := fun k => k = B) _ (p := ⟨B, 0, none⟩) rfl _).trans (But.set (S := fun k => k = B) _ (p := ⟨B, 1, none⟩) rfl _)).trans (But.set (S := fun k => k = B) _ (p := ⟨B, 2, none⟩) rfl _)) ((((hI.out.be).setCell (p := ⟨B, 0, none⟩) hB (.int .i64 uk)).setCell (p := ⟨B, 1, none⟩) hB (.int .i64 ui)).setCell (p := ⟨B, 2, none⟩) hB (.string ut)) ((((zb.out).set_ 0 (.int .i64 uk)).set_ 1 (.int .i64 ui)).set_ 2 (.string ut))⟩, by first | kernel_rfl | exact ⟨rfl, rfl, rfl⟩ | exact ⟨rfl, rfl⟩⟩
       · intro d us w4 hall hI
         obtain ⟨I, heI, hlI, hblkI⟩ := hI.at_ ⟨6, 8, 12, 3, #[.int .i64 0], #[.int .i64 lx]⟩ (by simp) (hall 6 (by decide))
         rw [if_pos (show d 8 = true from hall 8 (by decide))] at hblkI
         have HI : Hid (Blk w4 I 3 #[.int .i64 lx]) := zH hblkI
         have HLI : Hid (w2.heap.size ≤ I) := zH hlI
         have hsI : us 12 = ptrV I := heI
         obtain ⟨V, heV, hlV, hblkV⟩ := hI.at_ ⟨7, 10, 14, 59, #[.int .i64 0, .int .i64 0, .string ⟨#[]⟩], #[.int .i64 uk, .int .i64 ui, .string ut]⟩ (by simp) (hall 7 (by decide))
         rw [if_pos (show d 10 = true from hall 10 (by decide))] at hblkV
         have HV : Hid (Blk w4 V 59 #[.int .i64 uk, .int .i64 ui, .string ut]) := zH hblkV
         have HLV : Hid (w2.heap.size ≤ V) := zH hlV
         have hsV : us 14 = ptrV V := heV
         have HNIV : Hid (I ≠ V) := zH (hI.ne ⟨6, 8, 12, 3, #[.int .i64 0], #[.int .i64 lx]⟩ (by simp) ⟨7, 10, 14, 59, #[.int .i64 0, .int .i64 0, .string ⟨#[]⟩], #[.int .i64 uk, .int .i64 ui, .string ut]⟩ (by simp) (by simp) (hall 6 (by decide)) (hall 7 (by decide)) I V heI heV)
         have hg13 : us 13 = .int .i64 cm := hI.gs (9, 13, .int .i64 cm) (by simp) (hall 9 (by decide))
         have HBE4 := zH (Below.trans (Below.refl w2.heap.size w2).drew hI.be)
         simp only [overU, List.foldl]
         rw [hsI, hsV, hg13]
         clear hI hall heI hlI hblkI hsI heV hlV hblkV hsV hg13
         clear us
         have HL4 := zH (HL.out.below HBE4.out)
         have HQ4 := zH (HQ.out.below HBE4.out)
         have HX4 := zH (HX2.out.below HBE4.out)
         have HM4 := zH (HM.out.below HBE4.out)
         have HR4 := zH (HR2.out.below HBE4.out)
         have HB4 := zH (Below.next HB2.out HBE4.out)
         have HIN : Hid (I ≠ L ∧ I ≠ Q ∧ I ≠ X ∧ I ≠ M ∧ I ≠ R ∧ V ≠ L ∧ V ≠ Q ∧ V ≠ X ∧ V ≠ M ∧ V ≠ R) := zH (by
          have h1 := HLI.out; have h2 := HLV.out; have h3 := HL.out.lt; have h4 := HQ.out.lt; have h5 := HX2.out.lt; have h6 := HM.out.lt; have h7 := HR2.out.lt
          omega)
         clear HL HQ HX2 HM HR2 HB2 HC2 HS2 HLd HQd HXd hltL hltQ hltX HBE4
         have zl := HL4.out.cell
         go_upto_region 14 with fail
         clear zl
         obtain ⟨S, HSS⟩ : ∃ S : Nat → Prop, Hid ((fun q => q = I ∨ q = V) = S) := ⟨_, rfl⟩
         have hS : ¬ S L ∧ ¬ S Q ∧ ¬ S X ∧ ¬ S M ∧ ¬ S R := by
          rw [← HSS.out]
          have h := HIN.out
          refine ⟨?_, ?_, ?_, ?_, ?_⟩ <;> (intro h2; rcases h2 with h2 | h2 <;> omega)
         have HSd := zH hS
         refine wp_region_plan S (.one [0, 1, 2, 3, 5, 6] 4 (.one [] 7 (.one [8] 9 (.last [])))) (by kernel_rfl) (by kernel_rfl) (fun _ _ d _ _ h => by cases d <;> exact h) ?_
         have qL : ∀ (y : LaterS S w4.drew) z, (afterS S w4.drew y).cell? ⟨L, z, none⟩ = (#[.int .i64 3, .int .i64 lx, .int .i64 vk, .int .i64 vi, .string vt] : Array Value)[z]? := fun y z => (HL4.out.drew.but y.but HSd.out.1).cell z
         have qQ : ∀ (y : LaterS S w4.drew) z, (afterS S w4.drew y).cell? ⟨Q, z, none⟩ = (#[.int .i64 1, .int .i64 (j : Int), .int .i64 uk, .int .i64 ui, .string ut] : Array Value)[z]? := fun y z => (HQ4.out.drew.but y.but HSd.out.2.1).cell z
         have qX : ∀ (y : LaterS S w4.drew) z, (afterS S w4.drew y).cell? ⟨X, z, none⟩ = (#[.int .i64 3, .int .i64 cm, .int .i64 3, .int .i64 lx, .int .i64 vk, .int .i64 vi, .string vt, .int .i64 1, .int .i64 (j : Int), .int .i64 uk, .int .i64 ui, .string ut, .slice A 0 c] : Array Value)[z]? := fun y z => (HX4.out.drew.but y.but HSd.out.2.2.1).cell z
         clear hS
         have HId := zH HI.out.drew
         have HVd := zH HV.out.drew
         have HMd := zH HM4.out.drew
         have HRd := zH HR4.out.drew
         have HBd : Hid (Below w.heap.size w w4.drew) := zH HB4.out.drew
         generalize hWd : w4.drew = wd at *
         clear hWd HL4 HQ4 HX4 HI HV HM4 HR4 HB4
         unfold wpPlan
         simp only [pickOps, opAt, pkO]
         repeat (go_big_quiet_step (fail))
         refine wpQuiet_nil ?_
         clear qL qQ qX
         go_wp2_with fail
         refine (mirror_any cm _).mono ?_
         rintro e w7 ⟨rfl, rfl⟩
         go_wp2_with fail
         refine ⟨But.refl _ _, ?_⟩
         unfold wpPlan
         simp only [pickOps, opAt, pkO]
         refine wpQuiet_nil ?_
         have zi := HId.out.cell
         have zif := HId.out.free 0
         have hU1 : But S wd (wd.setCell ⟨I, 0, none⟩ (.int .i64 (j : Int))) := But.set (S := S) wd (p := ⟨I, 0, none⟩) (by rw [← HSS.out]; exact .inl rfl) _
         have HI1 : Hid (Blk (wd.setCell ⟨I, 0, none⟩ (.int .i64 (j : Int))) I 3 #[.int .i64 (j : Int)]) := zH (HId.out.set_ 0 (.int .i64 (j : Int)))
         have HV1 := zH (HVd.out.far (p := ⟨I, 0, none⟩) (fun e => HNIV.out e.symm) (.int .i64 (j : Int)))
         have HM1 := zH (HMd.out.but hU1 HSd.out.2.2.2.1)
         have HR1 := zH (HRd.out.but hU1 HSd.out.2.2.2.2)
         have HIB : Hid (w.heap.size ≤ I ∧ w.heap.size ≤ V) := zH (by have h1 := HLI.out; have h2 := HLV.out; have h3 := HSZ.out; omega)
         have HB1 := zH (HBd.out.setCell (p := ⟨I, 0, none⟩) HIB.out.1 (.int .i64 (j : Int)))
         go_wp2_with fail
         refine ⟨hU1, ?_⟩
         generalize hW1 : wd.setCell ⟨I, 0, none⟩ (.int .i64 (j : Int)) = wd1 at *
         clear hW1 zi zif HId HVd HMd HRd HBd hU1
         unfold wpPlan
         simp only [pickOps, opAt, pkO]
         go_simp
         repeat (go_big_quiet_step (fail))
         refine wpQuiet_nil ?_
         have zv := HV1.out.cell
         have zvf := HV1.out.free
         have HV2 : Hid (Blk (put3R wd1 V (.int .i64 vk) (.int .i64 vi) (.string vt)) V 59 #[.int .i64 vk, .int .i64 vi, .string vt]) := zH (put3R_blk HV1.out)
         have hU2 : But (· = V) wd1 (put3R wd1 V (.int .i64 vk) (.int .i64 vi) (.string vt)) := put3R_but wd1 V _ _ _
         have hU3 : But S wd1 (put3R wd1 V (.int .i64 vk) (.int .i64 vi) (.string vt)) := ⟨hU2.os, hU2.tape, hU2.output, hU2.size, fun k hk hs => hU2.block k hk (fun e => hs (by rw [← HSS.out]; exact .inr e))⟩
         have HI := zH (HI1.out.but hU2 (fun e => HNIV.out e))
         have HM4 := zH (HM1.out.but hU3 HSd.out.2.2.2.1)
         have HR4 := zH (HR1.out.but hU3 HSd.out.2.2.2.2)
         have HB4 := zH (put3R_below HB1.out HIB.out.2 (.int .i64 vk) (.int .i64 vi) (.string vt))
         have HV := HV2
         clear hU2 HV2 HI1 HM1 HR1 HB1 HV1
         unfold put3R at HV HI HM4 HR4 HB4 hU3
         go_wp2_with fail
         refine ⟨hU3, ?_⟩
         generalize hW1 : ((wd1.setCell ⟨V, 0, none⟩ (.int .i64 vk)).setCell ⟨V, 1, none⟩ (.int .i64 vi)).setCell ⟨V, 2, none⟩ (.string vt) = wd2 at *
         clear hW1 zv zvf hU3
         unfold wpPlan
         simp only [pickOps, pkO]
         refine wpQuiet_nil ?_
         go_upto_region 15 with fail
         have zv := HV.out.cell
         go_wp2_with fail
         refine (compared_any (mirC cm) ⟨vk, vi, vt⟩ _).mono ?_
         rintro e w5 ⟨As, cs, rfl, hs, hok, hb5⟩
         obtain ⟨he, hg⟩ := cmpSet_eq (v := ⟨vk, vi, vt⟩) Hval.out.1 Hval.out.2.1 Hval.out.2.2 (mirC cm) Hcm2.out
         rw [he] at hs hok ⊢
         obtain ⟨sl, Hsl⟩ : ∃ z, Hid (cmpSet (mirC cm) ⟨vk, vi, vt⟩ = z) := ⟨_, rfl⟩
         have Hgd : Hid (sl.length ≤ 1000000 ∧ validL sl = true) := zH (by rw [← Hsl.out]; exact ⟨by have := hg.len; omega, hg.valid (by omega)⟩)
         rw [Hsl.out] at hs hok ⊢
         have HSL := zH (hs.keep (keeps_alloc w5 (.cells #[.slice As sl.length cs] 139)))
         have HOK := zH hok
         have HK := zH (Blk.new w5 139 #[.slice As sl.length cs])
         have HI5 := zH ((HI.out.below hb5).alloc (.cells #[.slice As sl.length cs] 139))
         have HM5 := zH ((HM4.out.below hb5).alloc (.cells #[.slice As sl.length cs] 139))
         have HR5 := zH ((HR4.out.below hb5).alloc (.cells #[.slice As sl.length cs] 139))
         have HB3 := zH (Below.next HB4.out hb5)
         have HB5 := zH (HB3.out.alloc HB3.out.size (.cells #[.slice As sl.length cs] 139))
         obtain ⟨K, HKe⟩ : ∃ z, Hid (w5.heap.size = z) := ⟨_, rfl⟩
         rw [HKe.out] at HK
         clear he hg hs hok hb5 zv HI HV HM4 HR4 HB4 HB3
         go_upto_region 16 with fail
         rw [HKe.out]
         generalize hW : w5.alloc (.cells #[.slice As sl.length cs] 139) = w6 at *
         clear hW HKe
         have HNr : Hid (noEmp (bx2 nc (j : Int) (j : Int) sl)) := zH (ok_noEmp (bx2_ok hn Hgd.out.2).1)
         go_wp2_with fail
         refine (twice3_any 140 ent_fnBox M K I (bx2 nc (j : Int) (j : Int) sl) HNr.out _ (fun W hW => fnBox_any M K I (j : Int) As sl.length cs sl nc W (HM5.out.below hW) (HK.out.below hW) (HI5.out.below hW) (HSL.out.keep (keeps_of hW)) HOK.out Hgd.out.1 Hgd.out.2 Hix.out hn)).mono ?_
         rintro e w9 ⟨y, g, C, m, d, y', g', C', m', d', rfl, hA, hA', hb9⟩
         have HRz := zH (HR5.out.below hb9)
         have HBz := zH (Below.next HB5.out hb9)
         have HA := zH hA
         have HA' := zH hA'
         have HNa := HNr
         have HNb := HNr
         clear hA hA' hb9
         have Hp : Hid (bx2 nc (j : Int) (j : Int) sl = ra ∧ bx2 nc (j : Int) (j : Int) sl = rb) := zH (by
          have h := Hpr.out
          rw [Hsl.out] at h
          exact h)
         rw [Hp.out.1] at HA HNa
         rw [Hp.out.2] at HA' HNb
         have zr := HRz.out.cell
         have zf := HRz.out.free
         unfold prC at zr
         have y6 := (put6_blk (x := y) (f := g) (A := C) (n := m) (c := d) (x' := y') (f' := g') (A' := C') (n' := m') (c' := d') HRz.out).cell
         unfold prC at y6
         have HBr := zH (put6_below (x := y) (f := g) (A := C) (n := m) (c := d) (x' := y') (f' := g') (A' := C') (n' := m') (c' := d') HBz.out HRl.out.1)
         have HA3 := zH (RgS.off2 (a := zeroR) HRz.out (RgS.zero' _) (put6_but (w := w9) (B := R) (x := y) (f := g) (A := C) (n := m) (c := d) (x' := y') (f' := g') (A' := C') (n' := m') (c' := d')) HNa.out HA.out)
         have HA4 := zH (RgS.off2 (a := zeroR) HRz.out (RgS.zero' _) (put6_but (w := w9) (B := R) (x := y) (f := g) (A := C) (n := m) (c := d) (x' := y') (f' := g') (A' := C') (n' := m') (c' := d')) HNb.out HA'.out)
         unfold put6 at y6 HBr HA3 HA4
         unfold prC
         go_wp2
         exact bodyPost_ret (v := .tuple #[.agg #[.int .i64 y, .bool g, .slice C m d, .int .i64 y', .bool g', .slice C' m' d'], .int .i64 0]) (by simp [results, Tryz.results86, go_sem, y6]) rfl ⟨y, g, C, m, d, y', g', C', m', d', rfl, HA3.out, HA4.out, HBr.out⟩
   · rcases hrc with ⟨hr, hrv, hrk⟩ | ⟨hr, j, hrj, hjl, hrk⟩
     · skip
       dsimp only at hl hr hli hrv
       subst hl hr
       obtain rfl : lx = (i : Int) := hli
       have Hix : Hid (0 ≤ (i : Int) ∧ (i : Int) < (nc : Int)) := zH ⟨by omega, by have := Hlc.out; omega⟩
       have Hval : Hid (validV ⟨uk, ui, ut⟩ = true ∧ rngV ⟨uk, ui, ut⟩ ∧ 3 ≤ (⟨uk, ui, ut⟩ : Vl).k) := zH ⟨(real_k.1 hrv).1, HRG.out.2, (real_k.1 hrv).2⟩
       have Hcm2 : Hid (1 ≤ cm ∧ cm ≤ 6) := HCM
       have Hpr : Hid (bx2 nc (i : Int) (i : Int) (cmpSet cm ⟨uk, ui, ut⟩) = ra ∧ bx2 nc (i : Int) (i : Int) (cmpSet cm ⟨uk, ui, ut⟩) = rb) := zH (by
        have h := Hrr.out
        unfold cmpPair at h
        rw [if_neg (by simp), if_neg (by simp), if_pos rfl, Hlc.out] at h
        injection h with h1 h2
        exact ⟨h1, h2⟩)
       clear Hrr hlk hrk hil hrv HKE
       have zl := HL.out.cell
       have zq := HQ.out.cell
       go_upto_region 12 with fail
       clear zl zq
       refine wp_region_inv (lessB w2.heap.size) (lessB_trans _) [12, 13, 14] [0, 1, 2, 3, 4, 5] [6, 7, 8, 9, 10] (BlksI w2.drew [⟨6, 8, 12, 3, #[.int .i64 0], #[.int .i64 (i : Int)]⟩, ⟨7, 10, 14, 59, #[.int .i64 0, .int .i64 0, .string ⟨#[]⟩], #[.int .i64 uk, .int .i64 ui, .string ut]⟩] [(9, 13, .int .i64 cm)]) (by kernel_rfl) (by kernel_rfl) (fun _ _ d _ _ h => by cases d <;> exact h) ?_
       have HLd := zH (HL.out).drew
       have hltL : L < w2.heap.size := (HL.out).lt
       have qL : ∀ (y : LaterR (lessB w2.heap.size) w2.drew) z, (afterR (lessB w2.heap.size) w2.drew y).cell? ⟨L, z, none⟩ = (#[.int .i64 1, .int .i64 (i : Int), .int .i64 vk, .int .i64 vi, .string vt] : Array Value)[z]? := fun y z => y.cell (HLd.out.cell z) (fun W h => (keep_blk HLd.out h hltL).cell z)
       have HQd := zH (HQ.out).drew
       have hltQ : Q < w2.heap.size := (HQ.out).lt
       have qQ : ∀ (y : LaterR (lessB w2.heap.size) w2.drew) z, (afterR (lessB w2.heap.size) w2.drew y).cell? ⟨Q, z, none⟩ = (#[.int .i64 3, .int .i64 rx, .int .i64 uk, .int .i64 ui, .string ut] : Array Value)[z]? := fun y z => y.cell (HQd.out.cell z) (fun W h => (keep_blk HQd.out h hltQ).cell z)
       have HXd := zH (HX2.out).drew
       have hltX : X < w2.heap.size := (HX2.out).lt
       have qX : ∀ (y : LaterR (lessB w2.heap.size) w2.drew) z, (afterR (lessB w2.heap.size) w2.drew y).cell? ⟨X, z, none⟩ = (#[.int .i64 3, .int .i64 cm, .int .i64 1, .int .i64 (i : Int), .int .i64 vk, .int .i64 vi, .string vt, .int .i64 3, .int .i64 rx, .int .i64 uk, .int .i64 ui, .string ut, .slice A 0 c] : Array Value)[z]? := fun y z => y.cell (HXd.out.cell z) (fun W h => (keep_blk HXd.out h hltX).cell z)
       simp only [pickOps, opAt, pkO]
       repeat (go_big_quiet_step (fail))
       refine wpQuiet_nil ?_
       clear qL qQ qX
       refine ⟨by kernel_rfl, BlksI.start _ _ _ _, ?_, ?_⟩
       · refine ⟨?_, ?_, ?_, ?_, ?_, trivial⟩
         · intro d us w4 hd hdep hI
           replace hI := zH hI
           clear hdep
           simp only [opAt, List.getElem?_toArray, List.getElem?_cons_zero, List.getElem?_cons_succ, Option.getD_some, overU, List.foldl]
           go_wp2_with fail
           exact ⟨⟨(Below.refl _ _).alloc hI.out.be.size _, hI.out.alloc (b := ⟨6, 8, 12, 3, #[.int .i64 0], #[.int .i64 (i : Int)]⟩) (by simp) hd (by intro b' hb'; simp only [List.mem_cons, List.not_mem_nil, or_false] at hb'; rcases hb' with rfl | rfl <;> simp) (by intro q' hq'; simp only [List.mem_cons, List.not_mem_nil, or_false] at hq'; rcases hq' with rfl <;> simp) rfl (by intro b' hb'; simp only [List.mem_cons, List.not_mem_nil, or_false] at hb'; rcases hb' with rfl | rfl <;> first | (intro h; exact absurd rfl h) | (intro _; rfl)) (by intro q' hq'; simp only [List.mem_cons, List.not_mem_nil, or_false] at hq'; rcases hq' with rfl <;> rfl)⟩, by first | kernel_rfl | exact ⟨rfl, rfl, rfl⟩ | exact ⟨rfl, rfl⟩⟩
         · intro d us w4 hd hdep hI
           replace hI := zH hI
           clear hdep
           simp only [opAt, List.getElem?_toArray, List.getElem?_cons_zero, List.getElem?_cons_succ, Option.getD_some, overU, List.foldl]
           go_wp2_with fail
           exact ⟨⟨(Below.refl _ _).alloc hI.out.be.size _, hI.out.alloc (b := ⟨7, 10, 14, 59, #[.int .i64 0, .int .i64 0, .string ⟨#[]⟩], #[.int .i64 uk, .int .i64 ui, .string ut]⟩) (by simp) hd (by intro b' hb'; simp only [List.mem_cons, List.not_mem_nil, or_false] at hb'; rcases hb' with rfl | rfl <;> simp) (by intro q' hq'; simp only [List.mem_cons, List.not_mem_nil, or_false] at hq'; rcases hq' with rfl <;> simp) rfl (by intro b' hb'; simp only [List.mem_cons, List.not_mem_nil, or_false] at hb'; rcases hb' with rfl | rfl <;> first | (intro h; exact absurd rfl h) | (intro _; rfl)) (by intro q' hq'; simp only [List.mem_cons, List.not_mem_nil, or_false] at hq'; rcases hq' with rfl <;> rfl)⟩, by first | kernel_rfl | exact ⟨rfl, rfl, rfl⟩ | exact ⟨rfl, rfl⟩⟩
         · intro d us w4 hd hdep hI
           replace hI := zH hI
           have he := hdep 6 (by decide) (by kernel_rfl)
           obtain ⟨B, e7, hB, hblk⟩ := hI.out.at_ ⟨6, 8, 12, 3, #[.int .i64 0], #[.int .i64 (i : Int)]⟩ (by simp) he
           rw [if_neg (by dsimp only; rw [hd]; decide)] at hblk
           have zb : Hid (Blk w4 B 3 #[.int .i64 0]) := zH hblk
           simp only [opAt, List.getElem?_toArray, List.getElem?_cons_zero, List.getElem?_cons_succ, Option.getD_some, overU, List.foldl]
           have e7' : us 12 = ptrV B := e7
           rw [e7']
           have zc := zb.out.cell
           have zf := zb.out.free
           have He7 := zH e7'
           have He := zH he
           clear hblk e7 e7' he hdep
           go_wp2_with fail
           exact ⟨⟨(Below.refl _ _).setCell (p := ⟨B, 0, none⟩) hB (.int .i64 (i : Int)), hI.out.store (b := ⟨6, 8, 12, 3, #[.int .i64 0], #[.int .i64 (i : Int)]⟩) (by simp) hd He.out (by intro b' hb'; simp only [List.mem_cons, List.not_mem_nil, or_false] at hb'; rcases hb' with rfl | rfl <;> simp) (by intro q' hq'; simp only [List.mem_cons, List.not_mem_nil, or_false] at hq'; rcases hq' with rfl <;> simp) (by intro b' hb'; simp only [List.mem_cons, List.not_mem_nil, or_false] at hb'; rcases hb' with rfl | rfl <;> first | rfl | exact He7.out.symm) (by intro q' hq'; simp only [List.mem_cons, List.not_mem_nil, or_false] at hq'; rcases hq' with rfl <;> rfl) (B := B) He7.out (But.set (S := fun k => k = B) _ (p := ⟨B, 0, none⟩) rfl _) ((hI.out.be).setCell (p := ⟨B, 0, none⟩) hB (.int .i64 (i : Int))) ((zb.out).set_ 0 (.int .i64 (i : Int)))⟩, by first | kernel_rfl | exact ⟨rfl, rfl, rfl⟩ | exact ⟨rfl, rfl⟩⟩
         · intro d us w4 hd hdep hI
           replace hI := zH hI
           clear hdep
           simp only [opAt, List.getElem?_toArray, List.getElem?_cons_zero, List.getElem?_cons_succ, Option.getD_some, overU, List.foldl]
           go_wp2_with fail
           exact ⟨⟨Below.refl _ _, hI.out.assign (q := (9, 13, .int .i64 cm)) (by simp) hd (by intro b' hb'; simp only [List.mem_cons, List.not_mem_nil, or_false] at hb'; rcases hb' with rfl | rfl <;> simp) (by intro q' hq'; simp only [List.mem_cons, List.not_mem_nil, or_false] at hq'; rcases hq' with rfl <;> simp) rfl (by intro b' hb'; simp only [List.mem_cons, List.not_mem_nil, or_false] at hb'; rcases hb' with rfl | rfl <;> rfl) (by intro q' hq'; simp only [List.mem_cons, List.not_mem_nil, or_false] at hq'; rcases hq' with rfl <;> first | (intro h; exact absurd rfl h) | (intro _; rfl))⟩, by first | kernel_rfl | exact ⟨rfl, rfl, rfl⟩ | exact ⟨rfl, rfl⟩⟩
         · intro d us w4 hd hdep hI
           replace hI := zH hI
           have he := hdep 7 (by decide) (by kernel_rfl)
           obtain ⟨B, e7, hB, hblk⟩ := hI.out.at_ ⟨7, 10, 14, 59, #[.int .i64 0, .int .i64 0, .string ⟨#[]⟩], #[.int .i64 uk, .int .i64 ui, .string ut]⟩ (by simp) he
           rw [if_neg (by dsimp only; rw [hd]; decide)] at hblk
           have zb : Hid (Blk w4 B 59 #[.int .i64 0, .int .i64 0, .string ⟨#[]⟩]) := zH hblk
           simp only [opAt, List.getElem?_toArray, List.getElem?_cons_zero, List.getElem?_cons_succ, Option.getD_some, overU, List.foldl]
           have e7' : us 14 = ptrV B := e7
           rw [e7']
           have zc := zb.out.cell
           have zf := zb.out.free
           have He7 := zH e7'
           have He := zH he
           clear hblk e7 e7' he hdep
           go_wp2_with fail
           exact ⟨⟨(((Below.refl _ _).setCell (p := ⟨B, 0, none⟩) hB (.int .i64 uk)).setCell (p := ⟨B, 1, none⟩) hB (.int .i64 ui)).setCell (p := ⟨B, 2, none⟩) hB (.string ut), hI.out.store (b := ⟨7, 10, 14, 59, #[.int .i64 0, .int .i64 0, .string ⟨#[]⟩], #[.int .i64 uk, .int .i64 ui, .string ut]⟩) (by simp) hd He.out (by intro b' hb'; simp only [List.mem_cons, List.not_mem_nil, or_false] at hb'; rcases hb' with rfl | rfl <;> simp) (by intro q' hq'; simp only [List.mem_cons, List.not_mem_nil, or_false] at hq'; rcases hq' with rfl <;> simp) (by intro b' hb'; simp only [List.mem_cons, List.not_mem_nil, or_false] at hb'; rcases hb' with rfl | rfl <;> first | rfl | exact He7.out.symm) (by intro q' hq'; simp only [List.mem_cons, List.not_mem_nil, or_false] at hq'; rcases hq' with rfl <;> rfl) (B := B) He7.out (((But.set (S := fun k => k = B) _ (p := ⟨B, 0, none⟩) rfl _).trans (But.set (S := fun k => k = B) _ (p := ⟨B, 1, none⟩) rfl _)).trans (But.set (S := fun k => k = B) _ (p := ⟨B, 2, none⟩) rfl _)) ((((hI.out.be).setCell (p := ⟨B, 0, none⟩) hB (.int .i64 uk)).setCell (p := ⟨B, 1, none⟩) hB (.int .i64 ui)).setCell (p := ⟨B, 2, none⟩) hB (.string ut)) ((((zb.out).set_ 0 (.int .i64 uk)).set_ 1 (.int .i64 ui)).set_ 2 (.string ut))⟩, by first | kernel_rfl | exact ⟨rfl, rfl, rfl⟩ | exact ⟨rfl, rfl⟩⟩
       · intro d us w4 hall hI
         obtain ⟨I, heI, hlI, hblkI⟩ := hI.at_ ⟨6, 8, 12, 3, #[.int .i64 0], #[.int .i64 (i : Int)]⟩ (by simp) (hall 6 (by decide))
         rw [if_pos (show d 8 = true from hall 8 (by decide))] at hblkI
         have HI : Hid (Blk w4 I 3 #[.int .i64 (i : Int)]) := zH hblkI
         have HLI : Hid (w2.heap.size ≤ I) := zH hlI
         have hsI : us 12 = ptrV I := heI
         obtain ⟨V, heV, hlV, hblkV⟩ := hI.at_ ⟨7, 10, 14, 59, #[.int .i64 0, .int .i64 0, .string ⟨#[]⟩], #[.int .i64 uk, .int .i64 ui, .string ut]⟩ (by simp) (hall 7 (by decide))
         rw [if_pos (show d 10 = true from hall 10 (by decide))] at hblkV
         have HV : Hid (Blk w4 V 59 #[.int .i64 uk, .int .i64 ui, .string ut]) := zH hblkV
         have HLV : Hid (w2.heap.size ≤ V) := zH hlV
         have hsV : us 14 = ptrV V := heV
         have HNIV : Hid (I ≠ V) := zH (hI.ne ⟨6, 8, 12, 3, #[.int .i64 0], #[.int .i64 (i : Int)]⟩ (by simp) ⟨7, 10, 14, 59, #[.int .i64 0, .int .i64 0, .string ⟨#[]⟩], #[.int .i64 uk, .int .i64 ui, .string ut]⟩ (by simp) (by simp) (hall 6 (by decide)) (hall 7 (by decide)) I V heI heV)
         have hg13 : us 13 = .int .i64 cm := hI.gs (9, 13, .int .i64 cm) (by simp) (hall 9 (by decide))
         have HBE4 := zH (Below.trans (Below.refl w2.heap.size w2).drew hI.be)
         simp only [overU, List.foldl]
         rw [hsI, hsV, hg13]
         clear hI hall heI hlI hblkI hsI heV hlV hblkV hsV hg13
         clear us
         have HL4 := zH (HL.out.below HBE4.out)
         have HQ4 := zH (HQ.out.below HBE4.out)
         have HX4 := zH (HX2.out.below HBE4.out)
         have HM4 := zH (HM.out.below HBE4.out)
         have HR4 := zH (HR2.out.below HBE4.out)
         have HB4 := zH (Below.next HB2.out HBE4.out)
         have HIN : Hid (I ≠ L ∧ I ≠ Q ∧ I ≠ X ∧ I ≠ M ∧ I ≠ R ∧ V ≠ L ∧ V ≠ Q ∧ V ≠ X ∧ V ≠ M ∧ V ≠ R) := zH (by
          have h1 := HLI.out; have h2 := HLV.out; have h3 := HL.out.lt; have h4 := HQ.out.lt; have h5 := HX2.out.lt; have h6 := HM.out.lt; have h7 := HR2.out.lt
          omega)
         clear HL HQ HX2 HM HR2 HB2 HC2 HS2 HLd HQd HXd hltL hltQ hltX HBE4
         have zl := HL4.out.cell
         go_upto_region 15 with fail
         clear zl HL4 HQ4 HX4
         have zv := HV.out.cell
         go_wp2_with fail
         refine (compared_any (cm) ⟨uk, ui, ut⟩ _).mono ?_
         rintro e w5 ⟨As, cs, rfl, hs, hok, hb5⟩
         obtain ⟨he, hg⟩ := cmpSet_eq (v := ⟨uk, ui, ut⟩) Hval.out.1 Hval.out.2.1 Hval.out.2.2 (cm) Hcm2.out
         rw [he] at hs hok ⊢
         obtain ⟨sl, Hsl⟩ : ∃ z, Hid (cmpSet (cm) ⟨uk, ui, ut⟩ = z) := ⟨_, rfl⟩
         have Hgd : Hid (sl.length ≤ 1000000 ∧ validL sl = true) := zH (by rw [← Hsl.out]; exact ⟨by have := hg.len; omega, hg.valid (by omega)⟩)
         rw [Hsl.out] at hs hok ⊢
         have HSL := zH (hs.keep (keeps_alloc w5 (.cells #[.slice As sl.length cs] 139)))
         have HOK := zH hok
         have HK := zH (Blk.new w5 139 #[.slice As sl.length cs])
         have HI5 := zH ((HI.out.below hb5).alloc (.cells #[.slice As sl.length cs] 139))
         have HM5 := zH ((HM4.out.below hb5).alloc (.cells #[.slice As sl.length cs] 139))
         have HR5 := zH ((HR4.out.below hb5).alloc (.cells #[.slice As sl.length cs] 139))
         have HB3 := zH (Below.next HB4.out hb5)
         have HB5 := zH (HB3.out.alloc HB3.out.size (.cells #[.slice As sl.length cs] 139))
         obtain ⟨K, HKe⟩ : ∃ z, Hid (w5.heap.size = z) := ⟨_, rfl⟩
         rw [HKe.out] at HK
         clear he hg hs hok hb5 zv HI HV HM4 HR4 HB4 HB3
         go_upto_region 16 with fail
         rw [HKe.out]
         generalize hW : w5.alloc (.cells #[.slice As sl.length cs] 139) = w6 at *
         clear hW HKe
         have HNr : Hid (noEmp (bx2 nc (i : Int) (i : Int) sl)) := zH (ok_noEmp (bx2_ok hn Hgd.out.2).1)
         go_wp2_with fail
         refine (twice3_any 140 ent_fnBox M K I (bx2 nc (i : Int) (i : Int) sl) HNr.out _ (fun W hW => fnBox_any M K I (i : Int) As sl.length cs sl nc W (HM5.out.below hW) (HK.out.below hW) (HI5.out.below hW) (HSL.out.keep (keeps_of hW)) HOK.out Hgd.out.1 Hgd.out.2 Hix.out hn)).mono ?_
         rintro e w9 ⟨y, g, C, m, d, y', g', C', m', d', rfl, hA, hA', hb9⟩
         have HRz := zH (HR5.out.below hb9)
         have HBz := zH (Below.next HB5.out hb9)
         have HA := zH hA
         have HA' := zH hA'
         have HNa := HNr
         have HNb := HNr
         clear hA hA' hb9
         have Hp : Hid (bx2 nc (i : Int) (i : Int) sl = ra ∧ bx2 nc (i : Int) (i : Int) sl = rb) := zH (by
          have h := Hpr.out
          rw [Hsl.out] at h
          exact h)
         rw [Hp.out.1] at HA HNa
         rw [Hp.out.2] at HA' HNb
         have zr := HRz.out.cell
         have zf := HRz.out.free
         unfold prC at zr
         have y6 := (put6_blk (x := y) (f := g) (A := C) (n := m) (c := d) (x' := y') (f' := g') (A' := C') (n' := m') (c' := d') HRz.out).cell
         unfold prC at y6
         have HBr := zH (put6_below (x := y) (f := g) (A := C) (n := m) (c := d) (x' := y') (f' := g') (A' := C') (n' := m') (c' := d') HBz.out HRl.out.1)
         have HA3 := zH (RgS.off2 (a := zeroR) HRz.out (RgS.zero' _) (put6_but (w := w9) (B := R) (x := y) (f := g) (A := C) (n := m) (c := d) (x' := y') (f' := g') (A' := C') (n' := m') (c' := d')) HNa.out HA.out)
         have HA4 := zH (RgS.off2 (a := zeroR) HRz.out (RgS.zero' _) (put6_but (w := w9) (B := R) (x := y) (f := g) (A := C) (n := m) (c := d) (x' := y') (f' := g') (A' := C') (n' := m') (c' := d')) HNb.out HA'.out)
         unfold put6 at y6 HBr HA3 HA4
         unfold prC
         go_wp2
         exact bodyPost_ret (v := .tuple #[.agg #[.int .i64 y, .bool g, .slice C m d, .int .i64 y', .bool g', .slice C' m' d'], .int .i64 0]) (by simp [results, Tryz.results86, go_sem, y6]) rfl ⟨y, g, C, m, d, y', g', C', m', d', rfl, HA3.out, HA4.out, HBr.out⟩
     · skip
       dsimp only at hl hr hli hrj
       subst hl hr
       obtain rfl : lx = (i : Int) := hli
       obtain rfl : rx = (j : Int) := hrj
       have Hix : Hid ((0 ≤ (i : Int) ∧ (i : Int) < (nc : Int)) ∧ (0 ≤ (j : Int) ∧ (j : Int) < (nc : Int))) := zH ⟨⟨by omega, by have := Hlc.out; omega⟩, ⟨by omega, by have := Hlc.out; omega⟩⟩
       have hin : i < nc := by have := Hlc.out; omega
       obtain ⟨bc, oc, kk, rfl, hx, hxc⟩ := HC2.out.at hin
       have d0 := hxc 0 _ rfl
       simp only [Nat.mul_one, Nat.add_zero] at d0
       have Hkk : Hid (cols.getD i 0 = kk) := zH (by rw [List.getD_eq_getElem?_getD, hx]; rfl)
       have Hk35 : Hid (3 ≤ kk ∧ kk ≤ 5) := zH (by rw [← Hkk.out]; exact colB_at HCB.out hil)
       have hi0 : decide ((i : Int) < 0) = false := by simp
       have hi1 : decide (nc ≤ i) = false := by simp; omega
       clear hx hxc hlk hrk hil hjl HKE HRG
       have zl := HL.out.cell
       have zq := HQ.out.cell
       go_wp2_with fail
       refine (ofkindO_any kk _).mono ?_
       rintro e w3 ⟨As, cs, rfl, hs, hok, hb3⟩
       clear d0 zl zq hi0 hi1
       obtain ⟨⟨sl, es⟩, Hsl⟩ : ∃ z, Hid (kindL kk = z) := ⟨_, rfl⟩
       rw [Hsl.out] at hs hok ⊢
       have Hgd : Hid (sl.length ≤ 1000000 ∧ validL sl = true) := zH (by
        have hg := kind_good Hk35.out
        rw [Hsl.out] at hg
        have h1 := hg.len
        dsimp only at h1
        exact ⟨by omega, hg.valid (by omega)⟩)
       have HSL := zH (hs.keep (keeps_alloc w3 (.cells #[.slice As sl.length cs] 139)))
       have HOK := zH hok
       have HK := zH (Blk.new w3 139 #[.slice As sl.length cs])
       have HL4 := zH ((HL.out.below hb3).alloc (.cells #[.slice As sl.length cs] 139))
       have HQ4 := zH ((HQ.out.below hb3).alloc (.cells #[.slice As sl.length cs] 139))
       have HX4 := zH ((HX2.out.below hb3).alloc (.cells #[.slice As sl.length cs] 139))
       have HM4 := zH ((HM.out.below hb3).alloc (.cells #[.slice As sl.length cs] 139))
       have HR4 := zH ((HR2.out.below hb3).alloc (.cells #[.slice As sl.length cs] 139))
       have HB3 := zH (Below.next HB2.out hb3)
       have HB4 := zH (HB3.out.alloc HB3.out.size (.cells #[.slice As sl.length cs] 139))
       obtain ⟨K, HKe⟩ : ∃ z, Hid (w3.heap.size = z) := ⟨_, rfl⟩
       have HKR : Hid (R < w3.heap.size ∧ L < w3.heap.size ∧ Q < w3.heap.size ∧ M < w3.heap.size ∧ X < w3.heap.size ∧ w2.heap.size ≤ L ∧ R < w2.heap.size ∧ w1.heap.size ≤ L ∧ w1.heap.size ≤ Q ∧ w1.heap.size ≤ M ∧ R < w1.heap.size) ∨ True := .inr trivial
       have HKl : Hid (R < K ∧ L < K ∧ Q < K ∧ M < K ∧ X < K) := zH (by
        have h1 := (HR2.out.below hb3).lt; have h2 := (HL.out.below hb3).lt; have h3 := (HQ.out.below hb3).lt; have h4 := (HM.out.below hb3).lt; have h5 := (HX2.out.below hb3).lt; have h6 := HKe.out
        omega)
       have HRne : Hid (R ≠ M ∧ R ≠ L ∧ R ≠ Q) := zH (by
        have h1 := HR2.out; have h2 := HM.out; have h3 := HL.out; have h4 := HQ.out
        refine ⟨fun e => ?_, fun e => ?_, fun e => ?_⟩
        · subst e
          have := h1.symm.trans h2
          simp [prC] at this
        · subst e
          have := h1.symm.trans h3
          simp [prC] at this
        · subst e
          have := h1.symm.trans h4
          simp [prC] at this)
       rw [HKe.out] at HK
       clear hs hok hb3 HL HQ HX2 HM HR2 HB2 HB3 HC2 HS2 HKR hin
       go_upto_region 7 with fail
       rw [HKe.out]
       generalize hW : w3.alloc (.cells #[.slice As sl.length cs] 139) = w4 at *
       clear hW HKe
       have zl := HL4.out.cell
       have zq := HQ4.out.cell
       by_cases hij : i = j
       · skip
         obtain rfl := hij
         have zx := HX4.out.cell
         by_cases hcm : cm = 1 ∨ cm = 4 ∨ cm = 6
         · have Hp : Hid (bx2 nc (i : Int) (i : Int) sl = ra ∧ bx2 nc (i : Int) (i : Int) sl = rb) := zH (by
            have h := Hrr.out
            unfold cmpPair at h
            rw [if_neg (by simp), if_pos ⟨rfl, rfl⟩, if_neg (by simp), if_pos hcm, Hlc.out] at h
            dsimp only at h
            rw [Int.toNat_natCast, Hkk.out, Hsl.out] at h
            injection h with h1 h2
            exact ⟨h1, h2⟩)
           have HNr : Hid (noEmp (bx2 nc (i : Int) (i : Int) sl)) := zH (ok_noEmp (bx2_ok hn Hgd.out.2).1)
           have HR5 := HR4
           have HB5 := HB4
           clear Hrr HCM HR4 HB4
           rcases hcm with rfl | rfl | rfl
           all_goals
            go_upto_region 11 with fail
            clear zx zl zq
            go_wp2_with fail
            refine (twice3_any 137 ent_fnCol M K L (bx2 nc (i : Int) (i : Int) sl) HNr.out _ (fun W hW => fnCol_any M K L ⟨1, (i : Int), ⟨vk, vi, vt⟩⟩ As sl.length cs sl nc W (HM4.out.below hW) (HK.out.below hW) (HL4.out.below hW) (HSL.out.keep (keeps_of hW)) HOK.out Hgd.out.1 Hgd.out.2 Hix.out.1 hn)).mono ?_
            rintro e w9 ⟨y, g, C, m, d, y', g', C', m', d', rfl, hA, hA', hb9⟩
            have HRz := zH (HR5.out.below hb9)
            have HBz := zH (Below.next HB5.out hb9)
            have HA := zH hA
            have HA' := zH hA'
            have HNa := HNr
            have HNb := HNr
            clear hA hA' hb9
            rw [Hp.out.1] at HA HNa
            rw [Hp.out.2] at HA' HNb
            have zr := HRz.out.cell
            have zf := HRz.out.free
            unfold prC at zr
            have y6 := (put6_blk (x := y) (f := g) (A := C) (n := m) (c := d) (x' := y') (f' := g') (A' := C') (n' := m') (c' := d') HRz.out).cell
            unfold prC at y6
            have HBr := zH (put6_below (x := y) (f := g) (A := C) (n := m) (c := d) (x' := y') (f' := g') (A' := C') (n' := m') (c' := d') HBz.out HRl.out.1)
            have HA3 := zH (RgS.off2 (a := zeroR) HRz.out (RgS.zero' _) (put6_but (w := w9) (B := R) (x := y) (f := g) (A := C) (n := m) (c := d) (x' := y') (f' := g') (A' := C') (n' := m') (c' := d')) HNa.out HA.out)
            have HA4 := zH (RgS.off2 (a := zeroR) HRz.out (RgS.zero' _) (put6_but (w := w9) (B := R) (x := y) (f := g) (A := C) (n := m) (c := d) (x' := y') (f' := g') (A' := C') (n' := m') (c' := d')) HNb.out HA'.out)
            unfold put6 at y6 HBr HA3 HA4
            unfold prC
            go_wp2
            exact bodyPost_ret (v := .tuple #[.agg #[.int .i64 y, .bool g, .slice C m d, .int .i64 y', .bool g', .slice C' m' d'], .int .i64 0]) (by simp [results, Tryz.results86, go_sem, y6]) rfl ⟨y, g, C, m, d, y', g', C', m', d', rfl, HA3.out, HA4.out, HBr.out⟩
         · have hcm3 : cm = 2 ∨ cm = 3 ∨ cm = 5 := by have := HCM.out; omega
           have Hp : Hid (bx2 nc (i : Int) (i : Int) [] = ra ∧ bx2 nc (i : Int) (i : Int) [] = rb) := zH (by
            have h := Hrr.out
            unfold cmpPair at h
            rw [if_neg (by simp), if_pos ⟨rfl, rfl⟩, if_neg (by simp), if_neg hcm, Hlc.out] at h
            injection h with h1 h2
            rw [bx2_nil (by have := Hix.out.1.2; omega)]
            exact ⟨h1, h2⟩)
           have HNr : Hid (noEmp (bx2 nc (i : Int) (i : Int) [])) := zH (ok_noEmp (bx2_ok hn (by decide)).1)
           have zk := HK.out.cell
           have zkf := HK.out.free 0
           have hU : But (· = K) w4 (w4.setCell ⟨K, 0, none⟩ (.slice none 0 0)) := But.set (S := fun k => k = K) w4 (p := ⟨K, 0, none⟩) rfl _
           have HK5 : Hid (Blk (w4.setCell ⟨K, 0, none⟩ (.slice none 0 0)) K 139 #[.slice none 0 0]) := zH (HK.out.set_ 0 (.slice none 0 0))
           have HL5 := zH (HL4.out.but hU (by have := HKl.out; omega))
           have HM5 := zH (HM4.out.but hU (by have := HKl.out; omega))
           have HR5 := zH (HR4.out.but hU (by have := HKl.out; omega))
           have HB5 := zH (HB4.out.setCell (p := ⟨K, 0, none⟩) (show w.heap.size ≤ K by have := HKl.out; have := HRl.out; omega) (.slice none 0 0))
           clear Hrr HCM hU hcm HR4 HB4
           rcases hcm3 with rfl | rfl | rfl
           all_goals
            go_upto_region 11 with fail
            generalize hW : w4.setCell ⟨K, 0, none⟩ (.slice none 0 0) = w5 at *
            clear hW zx zl zq zk zkf HK HL4 HM4
            have HK := HK5
            have HL4 := HL5
            have HM4 := HM5
            go_wp2_with fail
            refine (twice3_any 137 ent_fnCol M K L (bx2 nc (i : Int) (i : Int) []) HNr.out _ (fun W hW => fnCol_any M K L ⟨1, (i : Int), ⟨vk, vi, vt⟩⟩ none 0 0 [] nc W (HM4.out.below hW) (HK.out.below hW) (HL4.out.below hW) Sl.nil ⟨Nat.le_refl _, fun _ => ⟨rfl, rfl⟩⟩ (by omega) (by decide) Hix.out.1 hn)).mono ?_
            rintro e w9 ⟨y, g, C, m, d, y', g', C', m', d', rfl, hA, hA', hb9⟩
            have HRz := zH (HR5.out.below hb9)
            have HBz := zH (Below.next HB5.out hb9)
            have HA := zH hA
            have HA' := zH hA'
            have HNa := HNr
            have HNb := HNr
            clear hA hA' hb9
            rw [Hp.out.1] at HA HNa
            rw [Hp.out.2] at HA' HNb
            have zr := HRz.out.cell
            have zf := HRz.out.free
            unfold prC at zr
            have y6 := (put6_blk (x := y) (f := g) (A := C) (n := m) (c := d) (x' := y') (f' := g') (A' := C') (n' := m') (c' := d') HRz.out).cell
            unfold prC at y6
            have HBr := zH (put6_below (x := y) (f := g) (A := C) (n := m) (c := d) (x' := y') (f' := g') (A' := C') (n' := m') (c' := d') HBz.out HRl.out.1)
            have HA3 := zH (RgS.off2 (a := zeroR) HRz.out (RgS.zero' _) (put6_but (w := w9) (B := R) (x := y) (f := g) (A := C) (n := m) (c := d) (x' := y') (f' := g') (A' := C') (n' := m') (c' := d')) HNa.out HA.out)
            have HA4 := zH (RgS.off2 (a := zeroR) HRz.out (RgS.zero' _) (put6_but (w := w9) (B := R) (x := y) (f := g) (A := C) (n := m) (c := d) (x' := y') (f' := g') (A' := C') (n' := m') (c' := d')) HNb.out HA'.out)
            unfold put6 at y6 HBr HA3 HA4
            unfold prC
            go_wp2
            exact bodyPost_ret (v := .tuple #[.agg #[.int .i64 y, .bool g, .slice C m d, .int .i64 y', .bool g', .slice C' m' d'], .int .i64 0]) (by simp [results, Tryz.results86, go_sem, y6]) rfl ⟨y, g, C, m, d, y', g', C', m', d', rfl, HA3.out, HA4.out, HBr.out⟩
       · skip
         have Hp : Hid (Rg.nil (nc : Int) false = ra ∧ bx2 nc (i : Int) (j : Int) sl = rb) := zH (by
          have h := Hrr.out
          unfold cmpPair at h
          rw [if_neg (by simp), if_pos ⟨rfl, rfl⟩, if_pos (show (i : Int) ≠ (j : Int) by omega), Hlc.out] at h
          dsimp only at h
          rw [Int.toNat_natCast, Hkk.out, Hsl.out] at h
          injection h with h1 h2
          exact ⟨h1, h2⟩)
         have HCX : Hid (∀ q ∈ [(i : Int), (j : Int)], 0 ≤ q ∧ q < (nc : Int)) := zH (fun q hq => by
          rcases List.mem_cons.1 hq with h | h
          · rw [h]; exact Hix.out.1
          · rw [List.mem_singleton.1 h]; exact Hix.out.2)
         have gij : ((i : Int) != (j : Int)) = true := by simp; omega
         have gij2 : (i != j) = true := by simp; omega
         have HNx : Hid (noEmp (bx2 nc (i : Int) (j : Int) sl)) := zH (ok_noEmp (bx2_ok hn Hgd.out.2).1)
         clear Hrr HCM hij
         go_upto_region 8 with fail
         clear zl zq gij gij2
         obtain ⟨S, HSS⟩ : ∃ S : Nat → Prop, Hid ((fun q => q = R ∨ w4.drew.heap.size ≤ q) = S) := ⟨_, rfl⟩
         have hS : ¬ S M ∧ ¬ S K ∧ ¬ S L ∧ ¬ S Q := by
          rw [← HSS.out]
          have h1 := HM4.out.lt; have h2 := HK.out.lt; have h3 := HL4.out.lt; have h4 := HQ4.out.lt; have h5 := HRne.out; have h6 := HKl.out
          have e : w4.drew.heap.size = w4.heap.size := rfl
          refine ⟨?_, ?_, ?_, ?_⟩ <;> (intro h; rcases h with h | h <;> omega)
         have HSd := zH hS
         refine wp_region_planB (But S) (fun _ _ _ h k => h.trans k) (.two [0, 5, 6, 7, 8, 9, 10] 1 (.two [2, 3] 4 (.one [] 11 (.one [] 12 (.one [13, 14] 15 (.one [16, 17] 18 (.last [19]))))) 11 (.one [] 4 (.one [] 12 (.one [13, 14] 15 (.one [16, 17] 18 (.last [19])))))) 11 (.one [] 1 (.one [2, 3] 4 (.one [] 12 (.one [13, 14] 15 (.one [16, 17] 18 (.last [19]))))))) (by kernel_rfl) (by kernel_rfl) (fun _ _ d _ _ h => by cases d <;> exact h) ?_
         have qM : ∀ (y : LaterR (But S) w4.drew) z, (afterR (But S) w4.drew y).cell? ⟨M, z, none⟩ = (#[.int .i64 (nc : Int)] : Array Value)[z]? := fun y z => y.cell (HM4.out.drew.cell z) (fun W h => (HM4.out.drew.but h HSd.out.1).cell z)
         have qK : ∀ (y : LaterR (But S) w4.drew) z, (afterR (But S) w4.drew y).cell? ⟨K, z, none⟩ = (#[.slice As sl.length cs] : Array Value)[z]? := fun y z => y.cell (HK.out.drew.cell z) (fun W h => (HK.out.drew.but h HSd.out.2.1).cell z)
         have qL : ∀ (y : LaterR (But S) w4.drew) z, (afterR (But S) w4.drew y).cell? ⟨L, z, none⟩ = (#[.int .i64 1, .int .i64 (i : Int), .int .i64 vk, .int .i64 vi, .string vt] : Array Value)[z]? := fun y z => y.cell (HL4.out.drew.cell z) (fun W h => (HL4.out.drew.but h HSd.out.2.2.1).cell z)
         have qQ : ∀ (y : LaterR (But S) w4.drew) z, (afterR (But S) w4.drew y).cell? ⟨Q, z, none⟩ = (#[.int .i64 1, .int .i64 (j : Int), .int .i64 uk, .int .i64 ui, .string ut] : Array Value)[z]? := fun y z => y.cell (HQ4.out.drew.cell z) (fun W h => (HQ4.out.drew.but h HSd.out.2.2.2).cell z)
         have HRk := zH HR4.out.drew
         replace HSL := zH (HSL.out.keep (keeps_of (Below.refl w4.heap.size w4).drew))
         have HBk : Hid (Below w.heap.size w w4.drew) := zH HB4.out.drew
         have HRd : Hid (R < w4.drew.heap.size) := zH HR4.out.lt
         have HBd : Hid (w.heap.size ≤ w4.drew.heap.size) := zH HB4.out.size
         have HD := zH (Below.refl w4.drew.heap.size w4.drew)
         clear hS HM4 HK HL4 HQ4 HX4 HR4 HB4
         generalize hWd : w4.drew = wd at *
         clear hWd
         unfold wpPlanB
         simp only [pickOps, opAt, pkO]
         repeat (go_big_quiet_step (fail))
         refine wpQuiet_nil ?_
         clear qM qK qL qQ
         refine ⟨?_, ?_⟩
         focus
          go_wp2_with fail
          refine (emptyR_any (nc : Int) _).mono ?_
          rintro e v61 ⟨x, f, A2, n2, c2, rfl, hS, hb⟩
          rw [if_pos (by omega)] at hS
          rw [if_pos (by omega)]
          go_wp2_with fail
          refine ⟨But.of_below hb, ?_⟩
          replace HRk := zH (HRk.out.below hb)
          replace HSL := zH (HSL.out.keep (keeps_of hb))
          replace HBk := zH (Below.next HBk.out hb)
          replace HD := zH (Below.next HD.out hb)
          have HE := zH hS
          clear hS hb
          unfold wpPlanB
          simp only [pickOps, opAt, pkO]
          go_simp
          repeat (go_big_quiet_step (fail))
          refine wpQuiet_nil ?_
          refine ⟨?_, ?_⟩
          focus
           go_wp2_with fail
           refine (bjoin_any x f A2 n2 c2 0 _).mono ?_
           rintro e v62 ⟨P, Y, rfl, hPl, hP, hY, hb⟩
           go_wp2_with fail
           refine ⟨But.of_below hb, ?_⟩
           have HPl : Hid (wd.heap.size ≤ P) := zH (Nat.le_trans HD.out.size hPl)
           replace HRk := zH (HRk.out.below hb)
           replace HSL := zH (HSL.out.keep (keeps_of hb))
           replace HBk := zH (Below.next HBk.out hb)
           replace HD := zH (Below.next HD.out hb)
           replace HE := zH (HE.out.keep (keeps_of hb))
           have HP := zH hP
           have HY := zH hY
           clear hPl hP hY hb
           unfold wpPlanB
           simp only [pickOps, opAt, pkO]
           go_simp
           repeat (go_big_quiet_step (fail))
           refine wpQuiet_nil ?_
           have hb : Below v62.heap.size v62 (v62.alloc (.cells #[.int .i64 (i : Int), .int .i64 (j : Int)] 3)) := (Below.refl _ _).alloc (Nat.le_refl _) _
           have HG := zH (Blk.new v62 3 #[.int .i64 (i : Int), .int .i64 (j : Int)])
           go_wp2_with fail
           refine ⟨But.of_below hb, ?_⟩
           replace HRk := zH (HRk.out.below hb)
           replace HSL := zH (HSL.out.keep (keeps_of hb))
           replace HBk := zH (Below.next HBk.out hb)
           replace HD := zH (Below.next HD.out hb)
           replace HE := zH (HE.out.keep (keeps_of hb))
           replace HP := zH (HP.out.below hb)
           replace HY := zH (HY.out.below hb)
           obtain ⟨G, HGe⟩ : ∃ z, Hid (v62.heap.size = z) := ⟨_, rfl⟩
           rw [HGe.out] at HG
           rw [HGe.out]
           generalize hWW : v62.alloc (.cells #[.int .i64 (i : Int), .int .i64 (j : Int)] 3) = v63 at *
           clear hWW HGe hb
          rotate_left 1
          focus
           have hb : Below v61.heap.size v61 (v61.alloc (.cells #[.int .i64 (i : Int), .int .i64 (j : Int)] 3)) := (Below.refl _ _).alloc (Nat.le_refl _) _
           have HG := zH (Blk.new v61 3 #[.int .i64 (i : Int), .int .i64 (j : Int)])
           go_wp2_with fail
           refine ⟨But.of_below hb, ?_⟩
           replace HRk := zH (HRk.out.below hb)
           replace HSL := zH (HSL.out.keep (keeps_of hb))
           replace HBk := zH (Below.next HBk.out hb)
           replace HD := zH (Below.next HD.out hb)
           replace HE := zH (HE.out.keep (keeps_of hb))
           obtain ⟨G, HGe⟩ : ∃ z, Hid (v61.heap.size = z) := ⟨_, rfl⟩
           rw [HGe.out] at HG
           rw [HGe.out]
           generalize hWW : v61.alloc (.cells #[.int .i64 (i : Int), .int .i64 (j : Int)] 3) = v62 at *
           clear hWW HGe hb
           unfold wpPlanB
           simp only [pickOps, opAt, pkO]
           go_simp
           repeat (go_big_quiet_step (fail))
           refine wpQuiet_nil ?_
           go_wp2_with fail
           refine (bjoin_any x f A2 n2 c2 0 _).mono ?_
           rintro e v63 ⟨P, Y, rfl, hPl, hP, hY, hb⟩
           go_wp2_with fail
           refine ⟨But.of_below hb, ?_⟩
           have HPl : Hid (wd.heap.size ≤ P) := zH (Nat.le_trans HD.out.size hPl)
           replace HRk := zH (HRk.out.below hb)
           replace HSL := zH (HSL.out.keep (keeps_of hb))
           replace HBk := zH (Below.next HBk.out hb)
           replace HD := zH (Below.next HD.out hb)
           replace HE := zH (HE.out.keep (keeps_of hb))
           replace HG := zH (HG.out.below hb)
           have HP := zH hP
           have HY := zH hY
           clear hPl hP hY hb
         rotate_left 2
         focus
          have hb : Below wd.heap.size wd (wd.alloc (.cells #[.int .i64 (i : Int), .int .i64 (j : Int)] 3)) := (Below.refl _ _).alloc (Nat.le_refl _) _
          have HG := zH (Blk.new wd 3 #[.int .i64 (i : Int), .int .i64 (j : Int)])
          go_wp2_with fail
          refine ⟨But.of_below hb, ?_⟩
          replace HRk := zH (HRk.out.below hb)
          replace HSL := zH (HSL.out.keep (keeps_of hb))
          replace HBk := zH (Below.next HBk.out hb)
          replace HD := zH (Below.next HD.out hb)
          obtain ⟨G, HGe⟩ : ∃ z, Hid (wd.heap.size = z) := ⟨_, rfl⟩
          rw [HGe.out] at HG
          rw [HGe.out]
          generalize hWW : wd.alloc (.cells #[.int .i64 (i : Int), .int .i64 (j : Int)] 3) = v61 at *
          clear hWW HGe hb
          unfold wpPlanB
          simp only [pickOps, opAt, pkO]
          go_simp
          repeat (go_big_quiet_step (fail))
          refine wpQuiet_nil ?_
          go_wp2_with fail
          refine (emptyR_any (nc : Int) _).mono ?_
          rintro e v62 ⟨x, f, A2, n2, c2, rfl, hS, hb⟩
          rw [if_pos (by omega)] at hS
          rw [if_pos (by omega)]
          go_wp2_with fail
          refine ⟨But.of_below hb, ?_⟩
          replace HRk := zH (HRk.out.below hb)
          replace HSL := zH (HSL.out.keep (keeps_of hb))
          replace HBk := zH (Below.next HBk.out hb)
          replace HD := zH (Below.next HD.out hb)
          replace HG := zH (HG.out.below hb)
          have HE := zH hS
          clear hS hb
          unfold wpPlanB
          simp only [pickOps, opAt, pkO]
          go_simp
          repeat (go_big_quiet_step (fail))
          refine wpQuiet_nil ?_
          go_wp2_with fail
          refine (bjoin_any x f A2 n2 c2 0 _).mono ?_
          rintro e v63 ⟨P, Y, rfl, hPl, hP, hY, hb⟩
          go_wp2_with fail
          refine ⟨But.of_below hb, ?_⟩
          have HPl : Hid (wd.heap.size ≤ P) := zH (Nat.le_trans HD.out.size hPl)
          replace HRk := zH (HRk.out.below hb)
          replace HSL := zH (HSL.out.keep (keeps_of hb))
          replace HBk := zH (Below.next HBk.out hb)
          replace HD := zH (Below.next HD.out hb)
          replace HG := zH (HG.out.below hb)
          replace HE := zH (HE.out.keep (keeps_of hb))
          have HP := zH hP
          have HY := zH hY
          clear hPl hP hY hb
         all_goals
          unfold wpPlanB
          simp only [pickOps, opAt, pkO]
          go_simp
          repeat (go_big_quiet_step (fail))
          refine wpQuiet_nil ?_
          go_wp2_with fail
          refine (bbox_any nc As sl.length cs sl _ 2 2 [(i : Int), (j : Int)] (i : Int) (j : Int) _ HSL.out HOK.out Hgd.out.1 Hgd.out.2 (cl_two HG.out) HCX.out (fun q => by simp) (by omega) hn).mono ?_
          rintro e u1 ⟨x3, f3, A3, n3, c3, rfl, hS3, hb⟩
          go_wp2_with fail
          refine ⟨But.of_below hb, ?_⟩
          replace HRk := zH (HRk.out.below hb)
          replace HSL := zH (HSL.out.keep (keeps_of hb))
          replace HBk := zH (Below.next HBk.out hb)
          replace HD := zH (Below.next HD.out hb)
          replace HE := zH (HE.out.keep (keeps_of hb))
          replace HP := zH (HP.out.below hb)
          replace HY := zH (HY.out.below hb)
          replace HG := zH (HG.out.below hb)
          have HT := zH hS3
          clear hS3 hb
          unfold wpPlanB
          simp only [pickOps, opAt, pkO]
          go_simp
          repeat (go_big_quiet_step (fail))
          refine wpQuiet_nil ?_
          go_wp2_with fail
          refine (bjoin1_any x f A2 n2 c2 (.nil (nc : Int) false) 0 x3 f3 A3 n3 c3 (bx2 nc (i : Int) (j : Int) sl) 0 P Y _ HP.out HY.out HE.out HT.out trivial HNx.out).mono ?_
          rintro e u2 ⟨y, g, C, m, d, y', g', C', m', d', rfl, hA, hA', hu⟩
          go_wp2_with fail
          refine ⟨⟨hu.os, hu.tape, hu.output, hu.size, fun k hk hs => hu.block k hk (fun e => hs (by rw [← HSS.out]; exact .inr (by rw [e]; exact HPl.out)))⟩, ?_⟩
          have HRz := zH (HRk.out.but hu (by have := HPl.out; have := HRd.out; omega))
          have HBz := zH (hu.below HBk.out HBk.out.size (fun k hk => by subst hk; have h1 := HPl.out; have h2 := HBd.out; omega))
          rw [show jR 0 0 (.nil (nc : Int) false) = .nil (nc : Int) false from by rw [jR, if_pos ⟨rfl, rfl⟩]] at hA
          rw [show jR 0 0 (bx2 nc (i : Int) (j : Int) sl) = bx2 nc (i : Int) (j : Int) sl from by rw [jR, if_pos ⟨rfl, rfl⟩]] at hA'
          rw [show jE 0 0 = 0 from rfl]
          have HA := zH hA
          have HA' := zH hA'
          have HNa : Hid (noEmp (.nil (nc : Int) false)) := zH trivial
          have HNb := HNx
          rw [Hp.out.1] at HA HNa
          rw [Hp.out.2] at HA' HNb
          clear hA hA' hu HRk HBk HSL HE HT HP HY HG
          unfold prC
          unfold wpPlanB
          simp only [pickOps, opAt, pkO]
          go_simp
          repeat (go_big_quiet_step (fail))
          refine wpQuiet_nil ?_
          have zr := HRz.out.cell
          have zf := HRz.out.free
          unfold prC at zr
          have y6 := (put6_blk (x := y) (f := g) (A := C) (n := m) (c := d) (x' := y') (f' := g') (A' := C') (n' := m') (c' := d') HRz.out).cell
          unfold prC at y6
          have HBr := zH (put6_below (x := y) (f := g) (A := C) (n := m) (c := d) (x' := y') (f' := g') (A' := C') (n' := m') (c' := d') HBz.out HRl.out.1)
          have HA3 := zH (RgS.off2 (a := zeroR) HRz.out (RgS.zero' _) (put6_but (w := u2) (B := R) (x := y) (f := g) (A := C) (n := m) (c := d) (x' := y') (f' := g') (A' := C') (n' := m') (c' := d')) HNa.out HA.out)
          have HA4 := zH (RgS.off2 (a := zeroR) HRz.out (RgS.zero' _) (put6_but (w := u2) (B := R) (x := y) (f := g) (A := C) (n := m) (c := d) (x' := y') (f' := g') (A' := C') (n' := m') (c' := d')) HNb.out HA'.out)
          have hbS : But (· = R) u2 (put6 u2 R y g C m d y' g' C' m' d') := put6_but
          have hbS2 : But S u2 (put6 u2 R y g C m d y' g' C' m' d') := ⟨hbS.os, hbS.tape, hbS.output, hbS.size, fun k hk hs => hbS.block k hk (fun e => hs (by rw [← HSS.out]; exact .inl e))⟩
          clear hbS
          unfold put6 at y6 HBr HA3 HA4 hbS2
          go_wp2_with fail
          refine ⟨hbS2, ?_⟩
          unfold wpPlanB
          simp only [pickOps, opAt, pkO]
          go_simp
          repeat (go_big_quiet_step (fail))
          refine wpQuiet_nil ?_
          go_wp2
          exact bodyPost_ret (v := .tuple #[.agg #[.int .i64 y, .bool g, .slice C m d, .int .i64 y', .bool g', .slice C' m' d'], .int .i64 0]) (by simp [results, Tryz.results86, go_sem, y6]) rfl ⟨y, g, C, m, d, y', g', C', m', d', rfl, HA3.out, HA4.out, HBr.out⟩
end Go.Proofs.YtnnmlhmffnfjfaaGreat
