/-
  Texts: Next, Case.
-/
import Derived.Test.YtmnmckblmoalkaaGreatB21
import Derived.Lib.ConvBytes
set_option linter.unusedVariables false
namespace Go.Proofs.YtmnmckblmoalkaaGreat
open Go.RowKit
set_option maxRecDepth 100000
set_option linter.unusedVariables false

def strip (t : List UInt8) : Nat → Nat
  | 0 => 0
  | n + 1 => if t.getD n 0 = 255 then strip t n else n + 1
def upT (t : ByteArray) (n : Nat) : ByteArray := ⟨(t.data.toList.take (n - 1) ++ [t.data.toList.getD (n - 1) 0 + 1]).toArray⟩
def nextT (t : ByteArray) : Vl × Bool :=
  if t.size < 64 then (⟨5, 0, t ++ ⟨#[0]⟩⟩, true)
  else if strip t.data.toList t.size = 0 then (zeroV, false) else (⟨5, 0, upT t (strip t.data.toList t.size)⟩, true)

theorem getD_byte {t : ByteArray} {j : Nat} (hj : j < t.size) : t.data.toList.getD j 0 = t[j] := by
  have h : j < t.data.toList.length := by simpa using hj
  rw [List.getD_eq_getElem?_getD, List.getElem?_eq_getElem h]
  simp
  rfl
theorem strip_y {t : ByteArray} {j : Nat} (hj : j < t.size) (hu : t[j] = 255) : strip t.data.toList (j + 1) = strip t.data.toList j := by
  show (if t.data.toList.getD j 0 = 255 then _ else _) = _
  rw [getD_byte hj, if_pos hu]
theorem strip_n {t : ByteArray} {j : Nat} (hj : j < t.size) (hu : ¬ t[j] = 255) : strip t.data.toList (j + 1) = j + 1 := by
  show (if t.data.toList.getD j 0 = 255 then _ else _) = _
  rw [getD_byte hj, if_neg hu]
theorem valid_kind {k i : Int} {t : ByteArray} (h : validV ⟨k, i, t⟩ = true) : k = 1 ∨ k = 2 ∨ k = 3 ∨ k = 4 ∨ k = 5 := by
  unfold validV at h
  grind
theorem valid_size {i : Int} {t : ByteArray} (h : validV ⟨5, i, t⟩ = true) : t.size ≤ 64 := by
  simp [validV] at h
  exact h.2
/-- the least valid value behind v -/
def nextV (v : Vl) : Vl × Bool :=
  if validV v then
    if v.k = 3 ∧ v.i = 0 then (⟨3, 1, ⟨#[]⟩⟩, true)
    else if v.k = 4 ∧ v.i < 9223372036854775807 then (⟨4, wrap64 (v.i + 1), ⟨#[]⟩⟩, true)
    else if v.k = 5 then nextT v.t
    else firstV (v.k + 1)
  else (zeroV, false)

theorem nextV_top {i : Int} {t : ByteArray} (hv : validV ⟨4, i, t⟩ = true) (hl : ¬ i < 9223372036854775807) : nextV ⟨4, i, t⟩ = (⟨5, 0, ⟨#[]⟩⟩, true) := by
  unfold nextV
  rw [if_pos hv, if_neg (by simp), if_neg (fun h => hl h.2), if_neg (by simp)]
  simp [firstV]
theorem one_byte_str {S : Nat → Prop} {W : World} {G : Nat} {b : UInt8} (hc : W.cell? ⟨G, 0, none⟩ = some (.int .u8 (b.toNat : Int))) (hS : ¬ S G) (x : LaterS S W) :
    (convert 22 9 (.slice (some ⟨G, 0, none⟩) 1 1)).run Tryz.prog (afterS S W x) = .ok (.string ⟨#[b]⟩) (afterS S W x) := by
  have h := Lib.run_convert_whole (P := Tryz.prog) (afterS S W x) 22 5 9 Tryz.underlying22 Tryz.underlying5 Tryz.underlying9 G 0 ⟨#[b]⟩ ?_ 1
  · exact h
  · intro i hi
    have : i = 0 := by
      have : (⟨#[b]⟩ : ByteArray).size = 1 := rfl
      omega
    subst this
    rw [cell_afterS x _ (by rw [hc]; rfl) hS, hc]
    rfl
theorem up_eq {t : ByteArray} {j : Nat} (hj : j < t.size) : t.extract 0 j ++ ⟨#[t[j] + 1]⟩ = upT t (j + 1) := by
  apply ByteArray.ext
  apply Array.toList_inj.1
  show _ = t.data.toList.take (j + 1 - 1) ++ [t.data.toList.getD (j + 1 - 1) 0 + 1]
  rw [Nat.add_sub_cancel, getD_byte hj]
  simp
set_option maxHeartbeats 1000000 in
theorem rnext_any (v : Vl) (w : World) : Calls Tryz.prog 142 #[.agg #[.int .i64 v.k, .int .i64 v.i, .string v.t]] w fun e w' =>
    e = .returned (.tuple #[.agg #[.int .i64 (nextV v).1.k, .int .i64 (nextV v).1.i, .string (nextV v).1.t], .bool (nextV v).2]) ∧ Below w.heap.size w w' := by
  generalize hf : nextV v = r
  have Hf := Lib.hid hf
  clear hf
  obtain ⟨k, i, t⟩ := v
  dsimp only
  have hX := Blk.new w 49 #[.int .i64 k, .int .i64 i, .string t]
  have hB0 := (Below.refl w.heap.size w).alloc (Nat.le_refl _) (.cells #[.int .i64 k, .int .i64 i, .string t] 49)
  have hZ := Blk.new (w.alloc (.cells #[.int .i64 k, .int .i64 i, .string t] 49)) 49 #[.int .i64 0, .int .i64 0, .string ⟨#[]⟩]
  have hX1 := hX.below ((Below.refl _ _).alloc (Nat.le_refl _) (.cells #[.int .i64 0, .int .i64 0, .string ⟨#[]⟩] 49))
  have hB1 := hB0.alloc (by simp) (.cells #[.int .i64 0, .int .i64 0, .string ⟨#[]⟩] 49)
  have hsz : ((w.alloc (.cells #[.int .i64 k, .int .i64 i, .string t] 49)).alloc (.cells #[.int .i64 0, .int .i64 0, .string ⟨#[]⟩] 49)).heap.size = w.heap.size + 2 := by simp
  have hsz0 : (w.alloc (.cells #[.int .i64 k, .int .i64 i, .string t] 49)).heap.size = w.heap.size + 1 := by simp
  rw [hsz0] at hZ
  go_enter Tryz.func142, Tryz.ntmps142
  go_wp2_with fail
  generalize ((w.alloc (.cells #[.int .i64 k, .int .i64 i, .string t] 49)).alloc (.cells #[.int .i64 0, .int .i64 0, .string ⟨#[]⟩] 49)) = W at *
  refine (rvalid_any ⟨k, i, t⟩ _).mono ?_
  rintro e w1 ⟨rfl, hb1⟩
  have x1 := (hX1.below hb1).cell
  have z1 := (hZ.below hb1)
  have z1c := z1.cell
  have z1f := z1.free
  have hB2 := Below.next hB1 hb1
  have hs1 : w.heap.size + 2 ≤ w1.heap.size := hsz ▸ hb1.size
  clear hX hB0 hZ hX1 hB1 hb1 hsz
  cases hv : validV ⟨k, i, t⟩
  · have Hv := Lib.hid hv
    clear hv
    go_wp2
    show bodyPost _ _ _ _ _ _
    refine bodyPost_ret (v := .tuple #[.agg #[.int .i64 0, .int .i64 0, .string ⟨#[]⟩], .bool false]) (by simp [results, Tryz.results142, go_sem, z1c]) rfl ⟨?_, ?_⟩
    · rw [← Hf.out]
      simp [nextV, Hv.out, zeroV]
    · repeat (first | exact hB2 | apply Below.drew | refine Below.setCell ?_ (by simp) _ | refine Below.alloc ?_ (by simp) _)
  · have hk : k = 1 ∨ k = 2 ∨ k = 3 ∨ k = 4 ∨ k = 5 := valid_kind hv
    have Hv := Lib.hid hv
    clear hv
    rcases hk with rfl | rfl | rfl | rfl | rfl
    · go_wp2
      show bodyPost _ _ _ _ _ _
      refine bodyPost_ret (v := .tuple #[.agg #[.int .i64 2, .int .i64 0, .string ⟨#[]⟩], .bool true]) (by simp [results, Tryz.results142, go_sem, z1c]) rfl ⟨?_, ?_⟩
      · rw [← Hf.out]
        simp [nextV, Hv.out, firstV]
      · repeat (first | exact hB2 | apply Below.drew | refine Below.setCell ?_ (by simp) _ | refine Below.alloc ?_ (by simp) _)
    · go_wp2
      show bodyPost _ _ _ _ _ _
      refine bodyPost_ret (v := .tuple #[.agg #[.int .i64 3, .int .i64 0, .string ⟨#[]⟩], .bool true]) (by simp [results, Tryz.results142, go_sem, z1c]) rfl ⟨?_, ?_⟩
      · rw [← Hf.out]
        simp [nextV, Hv.out, firstV]
      · repeat (first | exact hB2 | apply Below.drew | refine Below.setCell ?_ (by simp) _ | refine Below.alloc ?_ (by simp) _)
    · by_cases h0 : i = 0
      · subst h0
        go_wp2
        show bodyPost _ _ _ _ _ _
        refine bodyPost_ret (v := .tuple #[.agg #[.int .i64 3, .int .i64 1, .string ⟨#[]⟩], .bool true]) (by simp [results, Tryz.results142, go_sem, z1c]) rfl ⟨?_, ?_⟩
        · rw [← Hf.out]
          simp [nextV, Hv.out]
        · repeat (first | exact hB2 | apply Below.drew | refine Below.setCell ?_ (by simp) _ | refine Below.alloc ?_ (by simp) _)
      · have h0' : (i == 0) = false := by simp [h0]
        go_wp2
        show bodyPost _ _ _ _ _ _
        refine bodyPost_ret (v := .tuple #[.agg #[.int .i64 4, .int .i64 (-9223372036854775808), .string ⟨#[]⟩], .bool true]) (by simp [results, Tryz.results142, go_sem, z1c]) rfl ⟨?_, ?_⟩
        · rw [← Hf.out]
          simp [nextV, Hv.out, firstV, minI, h0]
        · repeat (first | exact hB2 | apply Below.drew | refine Below.setCell ?_ (by simp) _ | refine Below.alloc ?_ (by simp) _)
    · by_cases hlt : i < 9223372036854775807
      · go_wp2
        show bodyPost _ _ _ _ _ _
        refine bodyPost_ret (v := .tuple #[.agg #[.int .i64 4, .int .i64 (wrap64 (i + 1)), .string ⟨#[]⟩], .bool true]) (by simp [results, Tryz.results142, go_sem, z1c]) rfl ⟨?_, ?_⟩
        · rw [← Hf.out]
          simp [nextV, Hv.out, hlt]
        · repeat (first | exact hB2 | apply Below.drew | refine Below.setCell ?_ (by simp) _ | refine Below.alloc ?_ (by simp) _)
      · have Hlt := Lib.hid hlt
        go_wp2
        show bodyPost _ _ _ _ _ _
        refine bodyPost_ret (v := .tuple #[.agg #[.int .i64 5, .int .i64 0, .string ⟨#[]⟩], .bool true]) (by simp [results, Tryz.results142, go_sem, z1c]) rfl ⟨?_, ?_⟩
        · rw [← Hf.out]
          rw [nextV_top Hv.out (by have := Hlt.out; omega)]
        · repeat (first | exact hB2 | apply Below.drew | refine Below.setCell ?_ (by simp) _ | refine Below.alloc ?_ (by simp) _)
    · have ht : t.size ≤ 64 := valid_size Hv.out
      by_cases hs : t.size < 64
      · have Hs := Lib.hid hs
        go_wp2
        show bodyPost _ _ _ _ _ _
        refine bodyPost_ret (v := .tuple #[.agg #[.int .i64 5, .int .i64 0, .string (t ++ ⟨#[0]⟩)], .bool true]) (by simp [results, Tryz.results142, go_sem, z1c]) rfl ⟨?_, ?_⟩
        · rw [← Hf.out]
          simp [nextV, Hv.out, nextT, Hs.out]
        · repeat (first | exact hB2 | apply Below.drew | refine Below.setCell ?_ (by simp) _ | refine Below.alloc ?_ (by simp) _)
      · have Hs := Lib.hid hs
        go_wp2
        go_loop [4] (fun i => ∃ k : Nat, k ≤ t.size ∧ i = .int .i64 (k : Int) ∧ Hid (strip t.data.toList k = strip t.data.toList t.size)) (fun i => (intOf i).toNat)
        case atStart => exact ⟨t.size, by omega, rfl, Lib.hid rfl⟩
        case round =>
          obtain ⟨k, hk, rfl, hinv⟩ := hrel
          rcases k with _ | j
          · go_wp2
            show bodyPost _ _ _ _ _ _
            refine bodyPost_ret (v := .tuple #[.agg #[.int .i64 0, .int .i64 0, .string ⟨#[]⟩], .bool false]) (by simp [results, Tryz.results142, go_sem, z1c]) rfl ⟨?_, ?_⟩
            · rw [← Hf.out]
              have := hinv.out
              have e0 : strip t.data.toList 0 = 0 := rfl
              simp [nextV, Hv.out, nextT, Hs.out, ← this, e0, zeroV]
            · repeat (first | exact hB2 | apply Below.drew | refine Below.setCell ?_ (by simp) _ | refine Below.alloc ?_ (by simp) _)
          · have hj : j < t.size := by omega
            by_cases h255 : (t[j].toNat : Int) = 255
            · have h255' : ((t[j].toNat : Int) == 255) = true := by simp [h255]
              have Hn : Hid (strip t.data.toList j = strip t.data.toList t.size) := by
                show _ = _
                rw [← hinv.out]
                have hu : t[j] = 255 := by
                  apply UInt8.toNat_inj.1
                  show t[j].toNat = 255
                  omega
                exact (strip_y hj hu).symm
              clear h255
              go_wp2
              go_round
              case rel => exact ⟨j, by omega, by go_num, Hn⟩
              case measure => simp [intOf]
            · have h255' : ((t[j].toNat : Int) == 255) = false := by simp [h255]
              have Hn : Hid (strip t.data.toList t.size = j + 1) := by
                show _ = _
                rw [← hinv.out]
                have hu : ¬ t[j] = 255 := by
                  intro hu
                  apply h255
                  rw [hu]
                  rfl
                exact strip_n hj hu
              have hlt : (t[j].toNat : Int) < 255 := by
                have := t[j].toNat_lt
                omega
              clear h255
              have hb8 : ((t[j] + 1).toNat : Int) = (t[j].toNat : Int) + 1 := by
                rw [UInt8.toNat_add]
                simp
                omega
              have kc2 := fun (x : LaterS (fun k => k = w.heap.size + 1) ((w1.alloc (.cells #[.int .u8 ((t[j].toNat : Int) + 1)] 5)).drew)) => one_byte_str (S := fun k => k = w.heap.size + 1) (W := (w1.alloc (.cells #[.int .u8 ((t[j].toNat : Int) + 1)] 5)).drew) (G := w1.heap.size) (b := t[j] + 1) (by rw [hb8]; exact (Blk.new w1 5 #[.int .u8 ((t[j].toNat : Int) + 1)]).cell 0) (by show ¬ w1.heap.size = w.heap.size + 1; omega) x
              have Hup : Hid (t.extract 0 j ++ ⟨#[t[j] + 1]⟩ = upT t (j + 1)) := up_eq hj
              have z3 : Blk ((w1.alloc (.cells #[.int .u8 ((t[j].toNat : Int) + 1)] 5)).drew) (w.heap.size + 1) 49 #[.int .i64 0, .int .i64 0, .string ⟨#[]⟩] := z1.below (((Below.refl _ _).alloc (Nat.le_refl _) _).drew)
              have z3c := z3.cell
              have z3f := z3.free
              set_option maxRecDepth 20000 in
              go_wp2_with fail
              have hca := @cell_afterS (fun k => k = w.heap.size + 1) w1.drew
              refine wp_region_segS (fun k => k = w.heap.size + 1) [([0, 1, 2, 3, 4, 5, 6, 7, 8, 9, 10], 11), ([12, 13, 14], 15)] [16] (by kernel_rfl) (by kernel_rfl) (fun _ _ d _ _ h => by cases d <;> exact h) ?_
              simp only [pickSegs, pickOps, opAt, List.map_cons, List.map_nil, List.getElem?_toArray, List.getElem?_cons_zero, List.getElem?_cons_succ, Option.getD_some]
              unfold wpBlocksS
              set_option maxRecDepth 20000 in
              repeat (go_big_quiet_step (fail))
              refine wpQuiet_nil ?_
              clear hca
              go_wp2_with fail
              have hB4 : Below w.heap.size w (w1.alloc (.cells #[.int .u8 ((t[j].toNat : Int) + 1)] 5)).drew := (hB2.alloc (by omega) _).drew
              refine ⟨But.of_below (((Below.refl _ w1.drew).alloc (Nat.le_refl _) _)), ?_⟩
              generalize (w1.alloc (.cells #[.int .u8 ((t[j].toNat : Int) + 1)] 5)).drew = W3 at *
              unfold wpBlocksS
              repeat (go_big_quiet_step (fail))
              refine wpQuiet_nil ?_
              go_wp2_with fail
              refine ⟨((But.set (S := fun k => k = w.heap.size + 1) _ (p := ⟨w.heap.size + 1, 0, none⟩) rfl _).trans (But.set (S := fun k => k = w.heap.size + 1) _ (p := ⟨w.heap.size + 1, 1, none⟩) rfl _)).trans (But.set (S := fun k => k = w.heap.size + 1) _ (p := ⟨w.heap.size + 1, 2, none⟩) rfl _), ?_⟩
              unfold wpBlocksS
              repeat (go_big_quiet_step (fail))
              refine wpQuiet_nil ?_
              go_wp2_with fail
              show bodyPost _ _ _ _ _ _
              refine bodyPost_ret (v := .tuple #[.agg #[.int .i64 5, .int .i64 0, .string (t.extract 0 j ++ ⟨#[t[j] + 1]⟩)], .bool true]) (by simp [results, Tryz.results142, go_sem, z3c]) rfl ⟨?_, ?_⟩
              · rw [← Hf.out, Hup.out]
                simp [nextV, Hv.out, nextT, Hs.out, Hn.out]
              · repeat (first | exact hB4 | apply Below.drew | refine Below.setCell ?_ (by simp) _ | refine Below.alloc ?_ (by simp) _)
end Go.Proofs.YtmnmckblmoalkaaGreat

namespace Go.Proofs.YtmnmckblmoalkaaGreat
open Go.RowKit
set_option maxRecDepth 100000
set_option linter.unusedVariables false

def u8c (b : Int) : List Value := [.int .u8 b]
/-- block g is a Case: a list of bytes and a place in it -/
structure CaseAt (w : World) (g : Nat) : Prop where
  ex : ∃ (A : Option Addr) (n c k : Nat) (zs : List Int), Blk w g 69 #[.slice A n c, .int .i64 (k : Int)] ∧ Sl 1 u8c w A n zs ∧ (∀ z ∈ zs, 0 ≤ z ∧ z ≤ 255) ∧ n ≤ 1000 ∧ k ≤ n ∧ (0 < n → ∀ b o, A = some ⟨b, o, none⟩ → b < g)
theorem Sl.lt_of {w : World} {A : Option Addr} {n : Nat} {zs : List Int} {b o : Nat} (h : Sl 1 u8c w A n zs) (hA : A = some ⟨b, o, none⟩) (hn : 0 < n) : ∃ z, w.cell? ⟨b, o, none⟩ = some (.int .u8 z) := by
  obtain ⟨b', o', x, hA', hx, hc⟩ := h.at hn
  rw [hA] at hA'
  injection hA' with h1
  injection h1 with h1 h2
  subst h1 h2
  exact ⟨x, by have := hc 0 _ rfl; simpa using this⟩
theorem case_ne {w : World} {g : Nat} {A A' : Option Addr} {n m c k : Nat} {zs : List Int} (hB : Blk w g 69 #[.slice A' m c, .int .i64 (k : Int)]) (h : Sl 1 u8c w A n zs) (hn : 0 < n) : ∀ b o, A = some ⟨b, o, none⟩ → b ≠ g := by
  rintro b o hA rfl
  obtain ⟨z, hz⟩ := h.lt_of hA hn
  rw [hB.cell] at hz
  rcases o with _ | _ | o <;> simp at hz
theorem CaseAt.below {w w' : World} {g : Nat} (h : CaseAt w g) (hb : Below w.heap.size w w') : CaseAt w' g := by
  obtain ⟨A, n, c, k, zs, h1, h2, h3, h4, h5⟩ := h.ex
  exact ⟨A, n, c, k, zs, h1.below hb, h2.keep (keeps_of hb), h3, h4, h5⟩

set_option maxHeartbeats 1000000 in
theorem int_any (g : Nat) (m : Int) (w : World) (hc : CaseAt w g) (hm : 1 ≤ m) (hm2 : m ≤ 1000) :
    Calls Tryz.prog 15 #[.pointer (some ⟨g, 0, none⟩), .int .i64 m] w fun e w' => (∃ x : Int, 0 ≤ x ∧ x < m ∧ e = .returned (.int .i64 x)) ∧ CaseAt w' g ∧ But (· = g) w w' := by
  obtain ⟨A, n, c, k, zs, hB, hS, hz, hn, hk, hlow⟩ := hc.ex
  have HLOW := Lib.hid hlow
  clear hlow
  have e0 := blocks_at hB (i := 0) rfl
  have e1 := blocks_at hB (i := 1) rfl
  rcases Nat.lt_or_ge k n with hkn | hkn
  · obtain ⟨b, o, z, rfl, hzx, hzc⟩ := hS.at hkn
    have hne := case_ne hB hS (by omega) b o rfl
    have hzb : 0 ≤ z ∧ z ≤ 255 := hz z (List.mem_of_getElem? hzx)
    have hcell := hzc 0 _ rfl
    simp only [Nat.mul_one, Nat.add_zero] at hcell
    have g1 : decide (n ≤ k) = false := by simp; omega
    have g2 : decide (m < 1) = false := by simp; omega
    have f1 := hB.free 1
    have hSet := hB.set_ 1 (.int .i64 ((k : Int) + 1))
    have hU : But (· = g) w (w.setCell ⟨g, 1, none⟩ (.int .i64 ((k : Int) + 1))) := But.set (S := fun k => k = g) w (p := ⟨g, 1, none⟩) rfl _
    have hS2 := hS.but hU (fun h b' o' e => by injection e with e; injection e with e1 e2; rw [← e1]; exact hne)
    have d0 := far_cell (p := ⟨g, 1, none⟩) (u := .int .i64 ((k : Int) + 1)) hcell hne
    have HB := Lib.hid (show CaseAt (w.setCell ⟨g, 1, none⟩ (.int .i64 ((k : Int) + 1))) g from ⟨_, n, c, k + 1, zs, hSet, hS2, hz, hn, hkn, HLOW.out⟩)
    have d1 := blocks_at hSet (i := 0) (u := .slice (some ⟨b, o, none⟩) n c) rfl
    have d2 := blocks_at hSet (i := 1) (u := .int .i64 ((k : Int) + 1)) rfl
    have HS := Lib.hid hS
    have HC := Lib.hid hc
    have HU := Lib.hid hU
    clear hB hS hc hSet hU hS2 hzx hzc hz
    go_enter Tryz.func15, Tryz.ntmps15
    go_wp2
    have hca := @cell_after w.drew
    refine wp_region_seg [] [0, 1, 2, 3, 4, 5, 6, 7, 8, 9, 10, 11, 12, 13] (by kernel_rfl) (by kernel_rfl) (fun _ _ d _ _ h => by cases d <;> exact h) ?_
    simp only [pickSegs, pickOps, opAt, List.map_cons, List.map_nil, List.getElem?_toArray, List.getElem?_cons_zero, List.getElem?_cons_succ, Option.getD_some]
    unfold wpBlocks
    repeat (go_big_quiet_step (fail))
    refine wpQuiet_nil ?_
    clear hca
    go_wp2
    generalize w.setCell ⟨g, 1, none⟩ (.int .i64 ((k : Int) + 1)) = W at *
    clear hcell e0 e1 f1
    have hca := @cell_after W.drew.drew
    refine wp_region_seg [] [0, 1, 2, 3, 4, 5, 6, 7, 8, 9, 10, 11, 12, 13, 14] (by kernel_rfl) (by kernel_rfl) (fun _ _ d _ _ h => by cases d <;> exact h) ?_
    simp only [pickSegs, pickOps, opAt, List.map_cons, List.map_nil, List.getElem?_toArray, List.getElem?_cons_zero, List.getElem?_cons_succ, Option.getD_some]
    unfold wpBlocks
    repeat (go_big_quiet_step (fail))
    refine wpQuiet_nil ?_
    clear hca
    go_wp2
    go_ret
    refine ⟨⟨z % m, Int.emod_nonneg z (by omega), ?_, rfl⟩, HB.out.below (Below.refl _ _).drew.drew, HU.out.drew.drew⟩
    exact Int.emod_lt_of_pos z (by omega)
  · have g1 : decide (n ≤ k) = true := by simp; omega
    go_enter Tryz.func15, Tryz.ntmps15
    have HB := Lib.hid hB
    have HS := Lib.hid hS
    have HC := Lib.hid hc
    clear hB hS hc
    go_wp2
    have hca := @cell_after w.drew
    refine wp_region_seg [] [0, 1, 2, 3, 4, 5, 6, 7, 8, 9, 10, 11, 12, 13] (by kernel_rfl) (by kernel_rfl) (fun _ _ d _ _ h => by cases d <;> exact h) ?_
    simp only [pickSegs, pickOps, opAt, List.map_cons, List.map_nil, List.getElem?_toArray, List.getElem?_cons_zero, List.getElem?_cons_succ, Option.getD_some]
    unfold wpBlocks
    repeat (go_big_quiet_step (fail))
    refine wpQuiet_nil ?_
    clear hca
    go_wp2
    go_ret
    exact ⟨⟨0, by omega, by omega, rfl⟩, HC.out.below (Below.refl _ _).drew, (But.refl _ _).drew⟩

theorem info_u8 : (Tryz.prog.info? 5).map (fun i => (i.zero, i.size, i.bytes)) = some (some (.int .u8 0), 1, 1) := by kernel_rfl

set_option maxHeartbeats 1000000 in
theorem new_any (A : Option Addr) (n c : Nat) (zs : List Int) (most : Nat) (w : World) (hs : Sl 1 u8c w A n zs) (hz : ∀ z ∈ zs, 0 ≤ z ∧ z ≤ 255) (hnil : A = none → n = 0 ∧ c = 0) (hsp : ∀ ad, A = some ad → ad.spot = none) (hnc : n ≤ c) (hcm : c ≤ 9223372036854775807) (hmo : most ≤ 1000) :
    Calls Tryz.prog 13 #[.slice A n c, .int .i64 (most : Int)] w fun e w' => ∃ g, w.heap.size ≤ g ∧ e = .returned (.pointer (some ⟨g, 0, none⟩)) ∧ CaseAt w' g ∧ Below w.heap.size w w' := by
  obtain ⟨i0, hi, hz0, hz1, hz2⟩ := info_parts info_u8
  have key : ∀ m : Nat, m ≤ n → m ≤ 1000 → ∀ (A' : Option Addr) (c' : Nat) (w1 : World), w1.ownsRow w.heap.size 5 1 (.slice A' m c') m ((zs.take m).flatMap u8c) → Below w.heap.size w w1 →
      CaseAt (w1.alloc (.cells #[.slice A' m c', .int .i64 0] 69)) w1.heap.size ∧ Below w.heap.size w (w1.alloc (.cells #[.slice A' m c', .int .i64 0] 69)) := by
    intro m h1 h2 A' c' w1 ho hb
    have hl := hs.len
    refine ⟨⟨A', m, c', 0, zs.take m, Blk.new _ _ _, (Sl.of_own (cs := u8c) (fun _ => rfl) (by simp; omega) ho).keep (keeps_alloc _ _), fun z h => hz z (List.mem_of_mem_take h), by omega, by omega, fun hm b o e => Sl.lt (cs := u8c) (sz := 1) (fun _ => rfl) (by decide) (Sl.of_own (cs := u8c) (fun _ => rfl) (by simp; omega) ho) hm b o e⟩, hb.alloc hb.size _⟩
  have Key := Lib.hid key
  have HS := fun (m : Nat) (h : m ≤ n) => Lib.hid (hs.take m h)
  have HN := Lib.hid hnil
  have HSP := Lib.hid hsp
  clear hs hnil hsp hz key
  rcases Nat.lt_or_ge most n with hle | hle
  rotate_left
  · have HS1 := HS n (Nat.le_refl _)
    clear HS
    have hmin : min (n : Int) (most : Int) = (n : Int) := by omega
    go_enter Tryz.func13, Tryz.ntmps13
    go_wp2_with (at_builtin; refine wpList_append_sl (cs := u8c) w (by rfl) _ (.tmp 10) _ (by rfl) w.heap.size 5 i0 _ 1 1 Tryz.underlying22 hi hz0 hz1 hz2 (by rfl) (by omega) (.slice none 0 0) 0 [] (by rfl) ⟨by simp, .inl ⟨rfl, rfl⟩⟩ A n c (zs.take n) (by rfl) HS1.out HN.out HSP.out (fun _ => rfl) (by simp [u8c, Value.oneCell']) (by simp only [maxLen]; omega) (by omega) (Nat.le_refl _) ?_; intro A1 c1 w1 hown1 hg1 hB1 hat1 hn1; simp only [Nat.zero_add, List.nil_append] at hown1)
    go_ret
    obtain ⟨h1, h2⟩ := Key.out n (Nat.le_refl _) (by omega) A1 c1 w1 hown1 hB1
    exact ⟨_, hB1.size, rfl, h1, h2⟩
  · have HS1 := HS most (by omega)
    clear HS
    have hmin : min (n : Int) (most : Int) = (most : Int) := by omega
    go_enter Tryz.func13, Tryz.ntmps13
    go_wp2_with (at_builtin; refine wpList_append_sl (cs := u8c) w (by rfl) _ (.tmp 10) _ (by rfl) w.heap.size 5 i0 _ 1 1 Tryz.underlying22 hi hz0 hz1 hz2 (by rfl) (by omega) (.slice none 0 0) 0 [] (by rfl) ⟨by simp, .inl ⟨rfl, rfl⟩⟩ A most c (zs.take most) (by rfl) HS1.out (fun h => ⟨by have := (HN.out h).1; omega, (HN.out h).2⟩) HSP.out (fun _ => rfl) (by simp [u8c, Value.oneCell']) (by simp only [maxLen]; omega) (by omega) (Nat.le_refl _) ?_; intro A1 c1 w1 hown1 hg1 hB1 hat1 hn1; simp only [Nat.zero_add, List.nil_append] at hown1)
    go_ret
    obtain ⟨h1, h2⟩ := Key.out most (by omega) (by omega) A1 c1 w1 hown1 hB1
    exact ⟨_, hB1.size, rfl, h1, h2⟩

theorem bool_any (g : Nat) (m : Int) (w : World) (hc : CaseAt w g) (hm : 1 ≤ m) (hm2 : m ≤ 1000) :
    Calls Tryz.prog 21 #[.pointer (some ⟨g, 0, none⟩), .int .i64 m] w fun e w' => (∃ x : Bool, e = .returned (.bool x)) ∧ CaseAt w' g ∧ But (· = g) w w' := by
  go_enter Tryz.func21, Tryz.ntmps21
  go_wp2_with fail
  refine (int_any g m _ hc hm hm2).mono ?_
  rintro e w1 ⟨⟨x, hx1, hx2, rfl⟩, hc1, hb1⟩
  go_wp2
  go_ret
  exact ⟨⟨_, rfl⟩, hc1, hb1⟩

def SomeText (w : World) (g : Nat) (e : Ending) (w' : World) : Prop := (∃ x : ByteArray, x.size ≤ 64 ∧ e = .returned (.string x)) ∧ CaseAt w' g ∧ But (· = g) w w'
set_option maxHeartbeats 1000000 in
theorem text_any (g : Nat) (w : World) (hc : CaseAt w g) :
    Calls Tryz.prog 126 #[.pointer (some ⟨g, 0, none⟩)] w fun e w' => SomeText w g e w' := by
  go_enter Tryz.func126, Tryz.ntmps126
  go_wp2_with fail
  refine (int_any g 10 _ hc (by omega) (by omega)).mono ?_
  rintro e w1 ⟨⟨x, hx1, hx2, rfl⟩, hc1, hb1⟩
  go_wp2
  iterate 8
    · go_ret
      exact ⟨⟨_, by decide, rfl⟩, hc1, hb1⟩
  · go_loop [3, 4] (fun t i => ∃ (k : Nat) (s : ByteArray), k ≤ 64 ∧ i = .int .i64 (k : Int) ∧ t = .string s ∧ s.size ≤ k) (fun _ i => 64 - (intOf i).toNat)
    case atStart => exact ⟨0, ⟨#[]⟩, by omega, rfl, rfl, by decide⟩
    case round =>
      obtain ⟨k, s, hk, rfl, rfl, hsk⟩ := hrel
      have hsk2 : s.size ≤ 64 := by omega
      by_cases hlt : k < 64
      · go_wp2
        go_round
        case rel => exact ⟨k + 1, _, by omega, by go_num, rfl, by have h1 : (⟨#[255]⟩ : ByteArray).size = 1 := rfl; have h2 : (⟨#[98]⟩ : ByteArray).size = 1 := rfl; simp; omega⟩
        case measure => simp [intOf]; omega
      · go_wp2
        go_ret
        exact ⟨⟨s, hsk2, rfl⟩, hc1, hb1⟩
  · go_loop [3, 5] (fun t i => ∃ (k : Nat) (s : ByteArray), k ≤ 64 ∧ i = .int .i64 (k : Int) ∧ t = .string s ∧ s.size ≤ k) (fun _ i => 64 - (intOf i).toNat)
    case atStart => exact ⟨0, ⟨#[]⟩, by omega, rfl, rfl, by decide⟩
    case round =>
      obtain ⟨k, s, hk, rfl, rfl, hsk⟩ := hrel
      have hsk2 : s.size ≤ 64 := by omega
      by_cases hlt : k < 64
      · go_wp2
        go_round
        case rel => exact ⟨k + 1, _, by omega, by go_num, rfl, by have h1 : (⟨#[255]⟩ : ByteArray).size = 1 := rfl; have h2 : (⟨#[98]⟩ : ByteArray).size = 1 := rfl; simp; omega⟩
        case measure => simp [intOf]; omega
      · go_wp2
        go_ret
        exact ⟨⟨s, hsk2, rfl⟩, hc1, hb1⟩

theorem CaseAt.lt {w : World} {g : Nat} (h : CaseAt w g) : g < w.heap.size := by
  obtain ⟨A, n, c, k, zs, h1, _⟩ := h.ex
  exact h1.lt
theorem CaseAt.but {w w' : World} {g : Nat} {S : Nat → Prop} (h : CaseAt w g) (hb : But S w w') (hg : ¬ S g) (hS : ∀ b, S b → ∀ i x, w.cell? ⟨b, i, none⟩ ≠ some (.int .u8 x)) : CaseAt w' g := by
  obtain ⟨A, n, c, k, zs, h1, h2, h3, h4, h5⟩ := h.ex
  refine ⟨A, n, c, k, zs, h1.but hb hg, h2.but hb (fun hn b o e hs => ?_), h3, h4, h5⟩
  obtain ⟨z, hz⟩ := h2.lt_of e hn
  exact hS b hs o z hz
theorem CaseAt.far {w w' : World} {g : Nat} {S : Nat → Prop} (h : CaseAt w g) (hb : But S w w') (hS : ∀ b, S b → g < b) : CaseAt w' g := by
  obtain ⟨A, n, c, k, zs, h1, h2, h3, h4, h5, h6⟩ := h.ex
  exact ⟨A, n, c, k, zs, h1.but hb (fun hs => by have := hS g hs; omega), h2.but hb (fun hn b o e hs => by have := hS b hs; have := h6 hn b o e; omega), h3, h4, h5, h6⟩
theorem But.setNew {S : Nat → Prop} {w w' : World} (h : But S w w') {p : Addr} (hp : w.heap.size ≤ p.block) (u : Value) : But S w (w'.setCell p u) :=
  ⟨h.os, h.tape, h.output, by simpa [World.setCell] using h.size, fun k hk hs => (Below.heap_setCell w' p u k (by omega)).trans (h.block k hk hs)⟩
/-- three cells of a box of the call's own are written -/
theorem case_box {w : World} {g z : Nat} {k i : Int} {t : ByteArray} (h : CaseAt w g) (hB : Blk w z 49 #[.int .i64 k, .int .i64 i, .string t]) (hne : g ≠ z) (u0 u1 u2 : Value) :
    CaseAt (((w.setCell ⟨z, 0, none⟩ u0).setCell ⟨z, 1, none⟩ u1).setCell ⟨z, 2, none⟩ u2) g := by
  refine h.but (S := fun b => b = z) (((But.set (S := fun b => b = z) w (p := ⟨z, 0, none⟩) rfl u0).trans (But.set (S := fun b => b = z) _ (p := ⟨z, 1, none⟩) rfl u1)).trans (But.set (S := fun b => b = z) _ (p := ⟨z, 2, none⟩) rfl u2)) hne ?_
  rintro b rfl j x hx
  rw [hB.cell] at hx
  rcases j with _ | _ | _ | j <;> simp at hx
end Go.Proofs.YtmnmckblmoalkaaGreat
