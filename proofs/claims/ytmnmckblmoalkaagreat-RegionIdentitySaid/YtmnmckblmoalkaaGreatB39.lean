/-
  Texts: Next, NextM, One.
-/
import Derived.Lib.ConvBytes
import Derived.Test.YtmnmckblmoalkaaGreatB33
set_option linter.unusedVariables false
namespace Go.Proofs.YtmnmckblmoalkaaGreat
open Go.RowKit
set_option maxRecDepth 100000
set_option linter.unusedVariables false

def strip (t : List UInt8) : Nat → Nat
  | 0 => 0
  | n + 1 => if t.getD n 0 = 255 then strip t n else n + 1
def upT (t : ByteArray) (n : Nat) : ByteArray := ⟨(t.data.toList.take (n - 1) ++ [t.data.toList.getD (n - 1) 0 + 1]).toArray⟩
def nextT (t : ByteArray) : Vl × Bool :=
  if t.size < 64 then (⟨5, 0, t ++ ⟨#[0]⟩⟩, true)
  else if strip t.data.toList t.size = 0 then (zeroV, false) else (⟨5, 0, upT t (strip t.data.toList t.size)⟩, true)

theorem getD_byte {t : ByteArray} {j : Nat} (hj : j < t.size) : t.data.toList.getD j 0 = t[j] := by
  have h : j < t.data.toList.length := by simpa using hj
  rw [List.getD_eq_getElem?_getD, List.getElem?_eq_getElem h]
  simp
  rfl
theorem strip_y {t : ByteArray} {j : Nat} (hj : j < t.size) (hu : t[j] = 255) : strip t.data.toList (j + 1) = strip t.data.toList j := by
  show (if t.data.toList.getD j 0 = 255 then _ else _) = _
  rw [getD_byte hj, if_pos hu]
theorem strip_n {t : ByteArray} {j : Nat} (hj : j < t.size) (hu : ¬ t[j] = 255) : strip t.data.toList (j + 1) = j + 1 := by
  show (if t.data.toList.getD j 0 = 255 then _ else _) = _
  rw [getD_byte hj, if_neg hu]
theorem valid_kind {k i : Int} {t : ByteArray} (h : validV ⟨k, i, t⟩ = true) : k = 1 ∨ k = 2 ∨ k = 3 ∨ k = 4 ∨ k = 5 := by
  unfold validV at h
  grind
theorem valid_size {i : Int} {t : ByteArray} (h : validV ⟨5, i, t⟩ = true) : t.size ≤ 64 := by
  simp [validV] at h
  exact h.2
/-- the least valid value behind v -/
def nextV (v : Vl) : Vl × Bool :=
  if validV v then
    if v.k = 3 ∧ v.i = 0 then (⟨3, 1, ⟨#[]⟩⟩, true)
    else if v.k = 4 ∧ v.i < 9223372036854775807 then (⟨4, wrap64 (v.i + 1), ⟨#[]⟩⟩, true)
    else if v.k = 5 then nextT v.t
    else firstV (v.k + 1)
  else (zeroV, false)

theorem nextV_top {i : Int} {t : ByteArray} (hv : validV ⟨4, i, t⟩ = true) (hl : ¬ i < 9223372036854775807) : nextV ⟨4, i, t⟩ = (⟨5, 0, ⟨#[]⟩⟩, true) := by
  unfold nextV
  rw [if_pos hv, if_neg (by simp), if_neg (fun h => hl h.2), if_neg (by simp)]
  simp [firstV]
theorem one_byte_str {S : Nat → Prop} {W : World} {G : Nat} {b : UInt8} (hc : W.cell? ⟨G, 0, none⟩ = some (.int .u8 (b.toNat : Int))) (hS : ¬ S G) (x : LaterS S W) :
    (convert 22 9 (.slice (some ⟨G, 0, none⟩) 1 1)).run Tryz.prog (afterS S W x) = .ok (.string ⟨#[b]⟩) (afterS S W x) := by
  have h := Lib.run_convert_whole (P := Tryz.prog) (afterS S W x) 22 5 9 Tryz.underlying22 Tryz.underlying5 Tryz.underlying9 G 0 ⟨#[b]⟩ ?_ 1
  · exact h
  · intro i hi
    have : i = 0 := by
      have : (⟨#[b]⟩ : ByteArray).size = 1 := rfl
      omega
    subst this
    rw [cell_afterS x _ (by rw [hc]; rfl) hS, hc]
    rfl
theorem up_eq {t : ByteArray} {j : Nat} (hj : j < t.size) : t.extract 0 j ++ ⟨#[t[j] + 1]⟩ = upT t (j + 1) := by
  apply ByteArray.ext
  apply Array.toList_inj.1
  show _ = t.data.toList.take (j + 1 - 1) ++ [t.data.toList.getD (j + 1 - 1) 0 + 1]
  rw [Nat.add_sub_cancel, getD_byte hj]
  simp
set_option maxHeartbeats 1000000 in
theorem rnext_any (v : Vl) (w : World) : Calls Tryz.prog 142 #[.agg #[.int .i64 v.k, .int .i64 v.i, .string v.t]] w fun e w' =>
    e = .returned (.tuple #[.agg #[.int .i64 (nextV v).1.k, .int .i64 (nextV v).1.i, .string (nextV v).1.t], .bool (nextV v).2]) ∧ Below w.heap.size w w' := by
  generalize hf : nextV v = r
  have Hf := Lib.hid hf
  clear hf
  obtain ⟨k, i, t⟩ := v
  dsimp only
  have hX := Blk.new w 49 #[.int .i64 k, .int .i64 i, .string t]
  have hB0 := (Below.refl w.heap.size w).alloc (Nat.le_refl _) (.cells #[.int .i64 k, .int .i64 i, .string t] 49)
  have hZ := Blk.new (w.alloc (.cells #[.int .i64 k, .int .i64 i, .string t] 49)) 49 #[.int .i64 0, .int .i64 0, .string ⟨#[]⟩]
  have hX1 := hX.below ((Below.refl _ _).alloc (Nat.le_refl _) (.cells #[.int .i64 0, .int .i64 0, .string ⟨#[]⟩] 49))
  have hB1 := hB0.alloc (by simp) (.cells #[.int .i64 0, .int .i64 0, .string ⟨#[]⟩] 49)
  have hsz : ((w.alloc (.cells #[.int .i64 k, .int .i64 i, .string t] 49)).alloc (.cells #[.int .i64 0, .int .i64 0, .string ⟨#[]⟩] 49)).heap.size = w.heap.size + 2 := by simp
  have hsz0 : (w.alloc (.cells #[.int .i64 k, .int .i64 i, .string t] 49)).heap.size = w.heap.size + 1 := by simp
  rw [hsz0] at hZ
  go_enter Tryz.func142, Tryz.ntmps142
  go_wp2_with fail
  generalize ((w.alloc (.cells #[.int .i64 k, .int .i64 i, .string t] 49)).alloc (.cells #[.int .i64 0, .int .i64 0, .string ⟨#[]⟩] 49)) = W at *
  refine (rvalid_any ⟨k, i, t⟩ _).mono ?_
  rintro e w1 ⟨rfl, hb1⟩
  have x1 := (hX1.below hb1).cell
  have z1 := (hZ.below hb1)
  have z1c := z1.cell
  have z1f := z1.free
  have hB2 := Below.next hB1 hb1
  have hs1 : w.heap.size + 2 ≤ w1.heap.size := hsz ▸ hb1.size
  clear hX hB0 hZ hX1 hB1 hb1 hsz
  cases hv : validV ⟨k, i, t⟩
  · have Hv := Lib.hid hv
    clear hv
    go_wp2
    show bodyPost _ _ _ _ _ _
    refine bodyPost_ret (v := .tuple #[.agg #[.int .i64 0, .int .i64 0, .string ⟨#[]⟩], .bool false]) (by simp [results, Tryz.results142, go_sem, z1c]) rfl ⟨?_, ?_⟩
    · rw [← Hf.out]
      simp [nextV, Hv.out, zeroV]
    · repeat (first | exact hB2 | apply Below.drew | refine Below.setCell ?_ (by simp) _ | refine Below.alloc ?_ (by simp) _)
  · have hk : k = 1 ∨ k = 2 ∨ k = 3 ∨ k = 4 ∨ k = 5 := valid_kind hv
    have Hv := Lib.hid hv
    clear hv
    rcases hk with rfl | rfl | rfl | rfl | rfl
    · go_wp2
      show bodyPost _ _ _ _ _ _
      refine bodyPost_ret (v := .tuple #[.agg #[.int .i64 2, .int .i64 0, .string ⟨#[]⟩], .bool true]) (by simp [results, Tryz.results142, go_sem, z1c]) rfl ⟨?_, ?_⟩
      · rw [← Hf.out]
        simp [nextV, Hv.out, firstV]
      · repeat (first | exact hB2 | apply Below.drew | refine Below.setCell ?_ (by simp) _ | refine Below.alloc ?_ (by simp) _)
    · go_wp2
      show bodyPost _ _ _ _ _ _
      refine bodyPost_ret (v := .tuple #[.agg #[.int .i64 3, .int .i64 0, .string ⟨#[]⟩], .bool true]) (by simp [results, Tryz.results142, go_sem, z1c]) rfl ⟨?_, ?_⟩
      · rw [← Hf.out]
        simp [nextV, Hv.out, firstV]
      · repeat (first | exact hB2 | apply Below.drew | refine Below.setCell ?_ (by simp) _ | refine Below.alloc ?_ (by simp) _)
    · by_cases h0 : i = 0
      · subst h0
        go_wp2
        show bodyPost _ _ _ _ _ _
        refine bodyPost_ret (v := .tuple #[.agg #[.int .i64 3, .int .i64 1, .string ⟨#[]⟩], .bool true]) (by simp [results, Tryz.results142, go_sem, z1c]) rfl ⟨?_, ?_⟩
        · rw [← Hf.out]
          simp [nextV, Hv.out]
        · repeat (first | exact hB2 | apply Below.drew | refine Below.setCell ?_ (by simp) _ | refine Below.alloc ?_ (by simp) _)
      · have h0' : (i == 0) = false := by simp [h0]
        go_wp2
        show bodyPost _ _ _ _ _ _
        refine bodyPost_ret (v := .tuple #[.agg #[.int .i64 4, .int .i64 (-9223372036854775808), .string ⟨#[]⟩], .bool true]) (by simp [results, Tryz.results142, go_sem, z1c]) rfl ⟨?_, ?_⟩
        · rw [← Hf.out]
          simp [nextV, Hv.out, firstV, minI, h0]
        · repeat (first | exact hB2 | apply Below.drew | refine Below.setCell ?_ (by simp) _ | refine Below.alloc ?_ (by simp) _)
    · by_cases hlt : i < 9223372036854775807
      · go_wp2
        show bodyPost _ _ _ _ _ _
        refine bodyPost_ret (v := .tuple #[.agg #[.int .i64 4, .int .i64 (wrap64 (i + 1)), .string ⟨#[]⟩], .bool true]) (by simp [results, Tryz.results142, go_sem, z1c]) rfl ⟨?_, ?_⟩
        · rw [← Hf.out]
          simp [nextV, Hv.out, hlt]
        · repeat (first | exact hB2 | apply Below.drew | refine Below.setCell ?_ (by simp) _ | refine Below.alloc ?_ (by simp) _)
      · have Hlt := Lib.hid hlt
        go_wp2
        show bodyPost _ _ _ _ _ _
        refine bodyPost_ret (v := .tuple #[.agg #[.int .i64 5, .int .i64 0, .string ⟨#[]⟩], .bool true]) (by simp [results, Tryz.results142, go_sem, z1c]) rfl ⟨?_, ?_⟩
        · rw [← Hf.out]
          rw [nextV_top Hv.out (by have := Hlt.out; omega)]
        · repeat (first | exact hB2 | apply Below.drew | refine Below.setCell ?_ (by simp) _ | refine Below.alloc ?_ (by simp) _)
    · have ht : t.size ≤ 64 := valid_size Hv.out
      by_cases hs : t.size < 64
      · have Hs := Lib.hid hs
        go_wp2
        show bodyPost _ _ _ _ _ _
        refine bodyPost_ret (v := .tuple #[.agg #[.int .i64 5, .int .i64 0, .string (t ++ ⟨#[0]⟩)], .bool true]) (by simp [results, Tryz.results142, go_sem, z1c]) rfl ⟨?_, ?_⟩
        · rw [← Hf.out]
          simp [nextV, Hv.out, nextT, Hs.out]
        · repeat (first | exact hB2 | apply Below.drew | refine Below.setCell ?_ (by simp) _ | refine Below.alloc ?_ (by simp) _)
      · have Hs := Lib.hid hs
        go_wp2
        go_loop [4] (fun i => ∃ k : Nat, k ≤ t.size ∧ i = .int .i64 (k : Int) ∧ Hid (strip t.data.toList k = strip t.data.toList t.size)) (fun i => (intOf i).toNat)
        case atStart => exact ⟨t.size, by omega, rfl, Lib.hid rfl⟩
        case round =>
          obtain ⟨k, hk, rfl, hinv⟩ := hrel
          rcases k with _ | j
          · go_wp2
            show bodyPost _ _ _ _ _ _
            refine bodyPost_ret (v := .tuple #[.agg #[.int .i64 0, .int .i64 0, .string ⟨#[]⟩], .bool false]) (by simp [results, Tryz.results142, go_sem, z1c]) rfl ⟨?_, ?_⟩
            · rw [← Hf.out]
              have := hinv.out
              have e0 : strip t.data.toList 0 = 0 := rfl
              simp [nextV, Hv.out, nextT, Hs.out, ← this, e0, zeroV]
            · repeat (first | exact hB2 | apply Below.drew | refine Below.setCell ?_ (by simp) _ | refine Below.alloc ?_ (by simp) _)
          · have hj : j < t.size := by omega
            by_cases h255 : (t[j].toNat : Int) = 255
            · have h255' : ((t[j].toNat : Int) == 255) = true := by simp [h255]
              have Hn : Hid (strip t.data.toList j = strip t.data.toList t.size) := by
                show _ = _
                rw [← hinv.out]
                have hu : t[j] = 255 := by
                  apply UInt8.toNat_inj.1
                  show t[j].toNat = 255
                  omega
                exact (strip_y hj hu).symm
              clear h255
              go_wp2
              go_round
              case rel => exact ⟨j, by omega, by go_num, Hn⟩
              case measure => simp [intOf]
            · have h255' : ((t[j].toNat : Int) == 255) = false := by simp [h255]
              have Hn : Hid (strip t.data.toList t.size = j + 1) := by
                show _ = _
                rw [← hinv.out]
                have hu : ¬ t[j] = 255 := by
                  intro hu
                  apply h255
                  rw [hu]
                  rfl
                exact strip_n hj hu
              have hlt : (t[j].toNat : Int) < 255 := by
                have := t[j].toNat_lt
                omega
              clear h255
              have hb8 : ((t[j] + 1).toNat : Int) = (t[j].toNat : Int) + 1 := by
                rw [UInt8.toNat_add]
                simp
                omega
              have kc2 := fun (x : LaterS (fun k => k = w.heap.size + 1) ((w1.alloc (.cells #[.int .u8 ((t[j].toNat : Int) + 1)] 5)).drew)) => one_byte_str (S := fun k => k = w.heap.size + 1) (W := (w1.alloc (.cells #[.int .u8 ((t[j].toNat : Int) + 1)] 5)).drew) (G := w1.heap.size) (b := t[j] + 1) (by rw [hb8]; exact (Blk.new w1 5 #[.int .u8 ((t[j].toNat : Int) + 1)]).cell 0) (by show ¬ w1.heap.size = w.heap.size + 1; omega) x
              have Hup : Hid (t.extract 0 j ++ ⟨#[t[j] + 1]⟩ = upT t (j + 1)) := up_eq hj
              have z3 : Blk ((w1.alloc (.cells #[.int .u8 ((t[j].toNat : Int) + 1)] 5)).drew) (w.heap.size + 1) 49 #[.int .i64 0, .int .i64 0, .string ⟨#[]⟩] := z1.below (((Below.refl _ _).alloc (Nat.le_refl _) _).drew)
              have z3c := z3.cell
              have z3f := z3.free
              set_option maxRecDepth 20000 in
              go_wp2_with fail
              have hca := @cell_afterS (fun k => k = w.heap.size + 1) w1.drew
              refine wp_region_segS (fun k => k = w.heap.size + 1) [([0, 1, 2, 3, 4, 5, 6, 7, 8, 9, 10], 11), ([12, 13, 14], 15)] [16] (by kernel_rfl) (by kernel_rfl) (fun _ _ d _ _ h => by cases d <;> exact h) ?_
              simp only [pickSegs, pickOps, opAt, List.map_cons, List.map_nil, List.getElem?_toArray, List.getElem?_cons_zero, List.getElem?_cons_succ, Option.getD_some]
              unfold wpBlocksS
              set_option maxRecDepth 20000 in
              repeat (go_big_quiet_step (fail))
              refine wpQuiet_nil ?_
              clear hca
              go_wp2_with fail
              have hB4 : Below w.heap.size w (w1.alloc (.cells #[.int .u8 ((t[j].toNat : Int) + 1)] 5)).drew := (hB2.alloc (by omega) _).drew
              refine ⟨But.of_below (((Below.refl _ w1.drew).alloc (Nat.le_refl _) _)), ?_⟩
              generalize (w1.alloc (.cells #[.int .u8 ((t[j].toNat : Int) + 1)] 5)).drew = W3 at *
              unfold wpBlocksS
              repeat (go_big_quiet_step (fail))
              refine wpQuiet_nil ?_
              go_wp2_with fail
              refine ⟨((But.set (S := fun k => k = w.heap.size + 1) _ (p := ⟨w.heap.size + 1, 0, none⟩) rfl _).trans (But.set (S := fun k => k = w.heap.size + 1) _ (p := ⟨w.heap.size + 1, 1, none⟩) rfl _)).trans (But.set (S := fun k => k = w.heap.size + 1) _ (p := ⟨w.heap.size + 1, 2, none⟩) rfl _), ?_⟩
              unfold wpBlocksS
              repeat (go_big_quiet_step (fail))
              refine wpQuiet_nil ?_
              go_wp2_with fail
              show bodyPost _ _ _ _ _ _
              refine bodyPost_ret (v := .tuple #[.agg #[.int .i64 5, .int .i64 0, .string (t.extract 0 j ++ ⟨#[t[j] + 1]⟩)], .bool true]) (by simp [results, Tryz.results142, go_sem, z3c]) rfl ⟨?_, ?_⟩
              · rw [← Hf.out, Hup.out]
                simp [nextV, Hv.out, nextT, Hs.out, Hn.out]
              · repeat (first | exact hB4 | apply Below.drew | refine Below.setCell ?_ (by simp) _ | refine Below.alloc ?_ (by simp) _)
end Go.Proofs.YtmnmckblmoalkaaGreat

/-
  Plain mathematics: the value behind a value. No walk here.
-/
namespace Go.Proofs.YtmnmckblmoalkaaGreat
open Go.RowKit
set_option maxRecDepth 100000

theorem cmpB_snoc0 : ∀ t q : List UInt8, cmpB t q < 0 → cmpB (t ++ [0]) q ≤ 0
  | [], [], h => by simp [cmpB] at h
  | [], b :: q, _ => by
    simp only [List.nil_append, cmpB]
    split
    · omega
    · split
      · rename_i h1 h2
        exact absurd h2 (UInt8.not_lt.2 (by rw [UInt8.le_iff_toNat_le]; simp))
      · cases q <;> simp [cmpB]
  | _ :: _, [], h => by simp [cmpB] at h
  | a :: t, b :: q, h => by
    have ih := cmpB_snoc0 t q
    simp only [List.cons_append, cmpB] at h ⊢
    repeat' split at h
    all_goals (repeat' split)
    all_goals first | omega | exact ih h
theorem cmpB_snoc_lt : ∀ t : List UInt8, cmpB t (t ++ [0]) < 0
  | [] => by simp [cmpB]
  | a :: t => by
    have ih := cmpB_snoc_lt t
    simp only [List.cons_append, cmpB, UInt8.lt_irrefl, if_false]
    exact ih
theorem cmpB_top : ∀ (n : Nat) (q : List UInt8), q.length ≤ n → ¬ cmpB (List.replicate n 255) q < 0
  | 0, [], _ => by simp [cmpB]
  | 0, _ :: _, h => by simp at h
  | n + 1, [], _ => by simp [List.replicate_succ, cmpB]
  | n + 1, b :: q, h => by
    have ih := cmpB_top n q (by simpa using h)
    rw [List.replicate_succ]
    simp only [cmpB]
    split
    · rename_i h1
      rw [UInt8.lt_iff_toNat_lt] at h1
      have := b.toNat_lt
      have e : (255 : UInt8).toNat = 255 := rfl
      omega
    · split
      · omega
      · exact ih
theorem u8_succ {c : UInt8} (h : c ≠ 255) : (c + 1).toNat = c.toNat + 1 := by
  have h1 : c.toNat ≠ 255 := fun e => h (UInt8.toNat_inj.1 e)
  have h2 := c.toNat_lt
  rw [UInt8.toNat_add]
  have e : (1 : UInt8).toNat = 1 := rfl
  omega
theorem cmpB_up (c : UInt8) (hc : c ≠ 255) (n : Nat) : ∀ (p q : List UInt8), q.length ≤ p.length + 1 + n → cmpB (p ++ c :: List.replicate n 255) q < 0 → cmpB (p ++ [c + 1]) q ≤ 0
  | [], [], _, h => by simp [cmpB] at h
  | [], b :: q, hl, h => by
    have e := u8_succ hc
    have ht := cmpB_top n q (by simp at hl; omega)
    simp only [List.nil_append, cmpB, UInt8.lt_iff_toNat_lt] at h ⊢
    repeat' split at h
    all_goals (repeat' split)
    all_goals first | omega | (cases q <;> simp [cmpB])
  | _ :: _, [], _, h => by simp [cmpB] at h
  | a :: p, b :: q, hl, h => by
    have ih := cmpB_up c hc n p q (by simp at hl ⊢; omega)
    simp only [List.cons_append, cmpB] at h ⊢
    repeat' split at h
    all_goals (repeat' split)
    all_goals first | omega | exact ih h
theorem cmpB_up_lt (c : UInt8) (hc : c ≠ 255) (n : Nat) : ∀ p : List UInt8, cmpB (p ++ c :: List.replicate n 255) (p ++ [c + 1]) < 0
  | [] => by
    have e := u8_succ hc
    simp only [List.nil_append, cmpB, UInt8.lt_iff_toNat_lt]
    split <;> omega
  | a :: p => by
    have ih := cmpB_up_lt c hc n p
    simp only [List.cons_append, cmpB, UInt8.lt_irrefl, if_false]
    exact ih
theorem strip_le (t : List UInt8) : ∀ n, strip t n ≤ n
  | 0 => by simp [strip]
  | n + 1 => by
    have := strip_le t n
    unfold strip
    split <;> omega
theorem strip_parts (t : List UInt8) : ∀ n, n ≤ t.length → strip t n ≠ 0 → ∃ c, c ≠ (255 : UInt8) ∧ t.getD (strip t n - 1) 0 = c ∧ t.take n = t.take (strip t n - 1) ++ c :: List.replicate (n - strip t n) 255
  | 0, _, h => absurd rfl h
  | n + 1, hn, h => by
    unfold strip at h ⊢
    by_cases hc : t.getD n 0 = 255
    · rw [if_pos hc] at h ⊢
      obtain ⟨c, h1, h2, h3⟩ := strip_parts t n (by omega) h
      refine ⟨c, h1, h2, ?_⟩
      have hl := strip_le t n
      rw [List.take_add_one, h3, List.getElem?_eq_getElem (by omega), List.append_assoc, List.cons_append]
      congr 2
      have : t[n]'(by omega) = 255 := by rw [← hc, List.getD_eq_getElem?_getD, List.getElem?_eq_getElem (by omega)]; rfl
      rw [Option.toList_some, this, show n + 1 - strip t n = (n - strip t n) + 1 by omega, List.replicate_succ']
    · rw [if_neg hc] at h ⊢
      refine ⟨t.getD n 0, hc, rfl, ?_⟩
      rw [Nat.add_sub_cancel, Nat.sub_self, List.replicate_zero, List.take_add_one, List.getElem?_eq_getElem (by omega)]
      congr 1
      rw [List.getD_eq_getElem?_getD, List.getElem?_eq_getElem (by omega)]
      rfl
theorem bytes_list (t : ByteArray) : t.toList = t.data.toList := ByteArray.toList_eq t
theorem app_list (t s : ByteArray) : (t ++ s).toList = t.toList ++ s.toList := by
  rw [bytes_list, bytes_list, bytes_list, ByteArray.data_append, Array.toList_append]
/-- what is known of the text behind a text -/
theorem nextT_good (t : ByteArray) (ht : t.size ≤ 64) : ((nextT t).2 = true → (nextT t).1.k = 5 ∧ (nextT t).1.i = 0 ∧ (nextT t).1.t.size ≤ 64 ∧ cmpB t.toList (nextT t).1.t.toList < 0 ∧ ∀ q : ByteArray, q.size ≤ 64 → cmpB t.toList q.toList < 0 → cmpB (nextT t).1.t.toList q.toList ≤ 0) ∧
    ((nextT t).2 = false → (nextT t).1 = zeroV) := by
  unfold nextT
  by_cases h1 : t.size < 64
  · rw [if_pos h1]
    refine ⟨fun _ => ⟨rfl, rfl, ?_, ?_, fun q hq hlt => ?_⟩, fun h => by cases h⟩
    · show (t ++ ⟨#[0]⟩ : ByteArray).size ≤ 64
      rw [ByteArray.size_append]
      have : (⟨#[0]⟩ : ByteArray).size = 1 := rfl
      omega
    · show cmpB t.toList (t ++ ⟨#[0]⟩ : ByteArray).toList < 0
      rw [app_list, bytes_list ⟨#[0]⟩]
      exact cmpB_snoc_lt _
    · show cmpB (t ++ ⟨#[0]⟩ : ByteArray).toList q.toList ≤ 0
      rw [app_list, bytes_list ⟨#[0]⟩]
      exact cmpB_snoc0 _ _ hlt
  · rw [if_neg h1]
    by_cases h2 : strip t.data.toList t.size = 0
    · rw [if_pos h2]
      exact ⟨(fun h => by cases h), fun _ => rfl⟩
    · rw [if_neg h2]
      have hsz : t.data.toList.length = t.size := by simp
      obtain ⟨c, c1, c2, c3⟩ := strip_parts t.data.toList t.size (by omega) h2
      have hle := strip_le t.data.toList t.size
      rw [List.take_of_length_le (by omega)] at c3
      have hu : (upT t (strip t.data.toList t.size)).toList = t.data.toList.take (strip t.data.toList t.size - 1) ++ [c + 1] := by
        rw [bytes_list]
        unfold upT
        rw [c2]
      have hus : (upT t (strip t.data.toList t.size)).size = (upT t (strip t.data.toList t.size)).toList.length := by rw [bytes_list]; simp
      clear c2
      generalize upT t (strip t.data.toList t.size) = U at *
      generalize strip t.data.toList t.size = s at *
      generalize t.data.toList.take (s - 1) = P at *
      have hlen := congrArg List.length c3
      simp only [List.length_append, List.length_cons, List.length_replicate] at hlen
      refine ⟨fun _ => ⟨rfl, rfl, ?_, ?_, fun q hq hlt => ?_⟩, fun h => by cases h⟩
      · show U.size ≤ 64
        rw [hus, hu]
        simp
        omega
      · show cmpB t.toList U.toList < 0
        rw [hu, bytes_list t, c3]
        exact cmpB_up_lt c c1 _ _
      · show cmpB U.toList q.toList ≤ 0
        rw [hu]
        rw [bytes_list t, c3] at hlt
        refine cmpB_up c c1 _ _ _ ?_ hlt
        have : q.toList.length = q.size := by rw [bytes_list]; simp
        omega
theorem text_nil {t : ByteArray} (h : t.toList.isEmpty = true) : t = ⟨#[]⟩ := by
  rw [zero_text]
  simpa using h
theorem valid_eq {v : Vl} (h : validV v = true) : (v.k = 1 ∧ v.i = 0 ∧ v.t = ⟨#[]⟩) ∨ (v.k = 2 ∧ v.i = 0 ∧ v.t = ⟨#[]⟩) ∨ (v.k = 3 ∧ (v.i = 0 ∨ v.i = 1) ∧ v.t = ⟨#[]⟩) ∨ (v.k = 4 ∧ v.t = ⟨#[]⟩) ∨ (v.k = 5 ∧ v.i = 0 ∧ v.t.size ≤ 64) := by
  unfold validV at h
  by_cases h12 : v.k = 1 ∨ v.k = 2
  · rw [if_pos h12, Bool.and_eq_true] at h
    have h1 : v.i = 0 := by simpa using h.1
    have h2 := text_nil h.2
    rcases h12 with e | e
    · exact .inl ⟨e, h1, h2⟩
    · exact .inr (.inl ⟨e, h1, h2⟩)
  · rw [if_neg h12] at h
    by_cases h3 : v.k = 3
    · rw [if_pos h3, Bool.and_eq_true] at h
      exact .inr (.inr (.inl ⟨h3, by simpa using h.1, text_nil h.2⟩))
    · rw [if_neg h3] at h
      by_cases h4 : v.k = 4
      · rw [if_pos h4] at h
        exact .inr (.inr (.inr (.inl ⟨h4, text_nil h⟩)))
      · rw [if_neg h4] at h
        by_cases h5 : v.k = 5
        · rw [if_pos h5, Bool.and_eq_true] at h
          exact .inr (.inr (.inr (.inr ⟨h5, by simpa using h.1, by simpa using h.2⟩)))
        · rw [if_neg h5] at h
          cases h
theorem cmpV_kind {a b : Vl} (h : a.k < b.k) : cmpV a b = -1 := by
  unfold cmpV
  rw [if_pos h]
theorem cmpV_num {a b : Vl} (h : a.k = b.k) (h2 : a.i < b.i) : cmpV a b = -1 := by
  unfold cmpV
  rw [if_neg (by omega), if_neg (by omega), if_pos h2]
theorem cmpV_text {a b : Vl} (h : a.k = b.k) (h2 : a.i = b.i) : cmpV a b = cmpB a.t.toList b.t.toList := by
  unfold cmpV
  rw [if_neg (by omega), if_neg (by omega), if_neg (by omega), if_neg (by omega)]
theorem lt_cases {a b : Vl} (h : cmpV a b < 0) : a.k < b.k ∨ (a.k = b.k ∧ a.i < b.i) ∨ (a.k = b.k ∧ a.i = b.i ∧ cmpB a.t.toList b.t.toList < 0) := by
  unfold cmpV at h
  repeat' split at h
  all_goals first | omega | skip
/-- the value behind a valid value is the least greater one -/
def NextGood (v : Vl) : Prop := ((nextV v).2 = true → validV (nextV v).1 = true ∧ rngV (nextV v).1 ∧ cmpV v (nextV v).1 < 0 ∧ ∀ q, validV q = true → rngV q → cmpV v q < 0 → cmpV (nextV v).1 q ≤ 0) ∧ ((nextV v).2 = false → (nextV v).1 = zeroV)
theorem next_of {v n : Vl} (e : nextV v = (n, true)) (h1 : validV n = true) (h2 : rngV n) (h3 : cmpV v n < 0) (h4 : ∀ q, validV q = true → rngV q → cmpV v q < 0 → cmpV n q ≤ 0) : NextGood v := by
  unfold NextGood
  rw [e]
  exact ⟨fun _ => ⟨h1, h2, h3, h4⟩, fun h => by cases h⟩
theorem nil_cmp : cmpB (⟨#[]⟩ : ByteArray).toList (⟨#[]⟩ : ByteArray).toList = 0 := cmpB_self _
theorem nil_le (q : List UInt8) : cmpB (⟨#[]⟩ : ByteArray).toList q ≤ 0 := by
  rw [bytes_list]
  cases q <;> simp [cmpB]
theorem nextV_good {v : Vl} (hv : validV v = true) (hr : rngV v) : NextGood v := by
  obtain ⟨k, i, t⟩ := v
  have hm : minI = -9223372036854775808 := rfl
  unfold rngV at hr
  rw [hm] at hr
  dsimp only at hr
  rcases valid_eq hv with ⟨h1, h2, h3⟩ | ⟨h1, h2, h3⟩ | ⟨h1, h2, h3⟩ | ⟨h1, h3⟩ | ⟨h1, h2, h3⟩
  · simp only at h1 h2 h3
    subst h1 h2 h3
    refine next_of (n := ⟨2, 0, ⟨#[]⟩⟩) (by decide +kernel) (by decide +kernel) ⟨by simp [hm], by simp⟩ (by decide +kernel) fun q hq hrq hlt => ?_
    rcases valid_eq hq with ⟨a1, a2, a3⟩ | ⟨a1, a2, a3⟩ | ⟨a1, a2, a3⟩ | ⟨a1, a3⟩ | ⟨a1, a2, a3⟩
    · rcases lt_cases hlt with h | ⟨_, h⟩ | ⟨_, _, h⟩
      · simp only at h; omega
      · simp only at h; omega
      · rw [a3, nil_cmp] at h; omega
    · rw [cmpV_text a1.symm a2.symm]; exact nil_le _
    all_goals (rw [cmpV_kind (by simp only; omega)]; omega)
  · simp only at h1 h2 h3
    subst h1 h2 h3
    refine next_of (n := ⟨3, 0, ⟨#[]⟩⟩) (by decide +kernel) (by decide +kernel) ⟨by simp [hm], by simp⟩ (by decide +kernel) fun q hq hrq hlt => ?_
    rcases valid_eq hq with ⟨a1, a2, a3⟩ | ⟨a1, a2, a3⟩ | ⟨a1, a2, a3⟩ | ⟨a1, a3⟩ | ⟨a1, a2, a3⟩
    · rcases lt_cases hlt with h | ⟨h', h⟩ | ⟨h', _, h⟩
      · simp only at h; omega
      · simp only at h'; omega
      · simp only at h'; omega
    · rcases lt_cases hlt with h | ⟨_, h⟩ | ⟨_, _, h⟩
      · simp only at h; omega
      · simp only at h; omega
      · rw [a3, nil_cmp] at h; omega
    · rcases a2 with a2 | a2
      · rw [cmpV_text a1.symm a2.symm]; exact nil_le _
      · rw [cmpV_num a1.symm (by simp only; omega)]; omega
    all_goals (rw [cmpV_kind (by simp only; omega)]; omega)
  · simp only at h1 h2 h3
    subst h1 h3
    rcases h2 with rfl | rfl
    · refine next_of (n := ⟨3, 1, ⟨#[]⟩⟩) (by decide +kernel) (by decide +kernel) ⟨by simp [hm], by simp⟩ (by decide +kernel) fun q hq hrq hlt => ?_
      rcases valid_eq hq with ⟨a1, a2, a3⟩ | ⟨a1, a2, a3⟩ | ⟨a1, a2, a3⟩ | ⟨a1, a3⟩ | ⟨a1, a2, a3⟩
      · rcases lt_cases hlt with h | ⟨h', h⟩ | ⟨h', _, h⟩
        · simp only at h; omega
        · simp only at h'; omega
        · simp only at h'; omega
      · rcases lt_cases hlt with h | ⟨h', h⟩ | ⟨h', _, h⟩
        · simp only at h; omega
        · simp only at h'; omega
        · simp only at h'; omega
      · rcases a2 with a2 | a2
        · rcases lt_cases hlt with h | ⟨_, h⟩ | ⟨_, _, h⟩
          · simp only at h; omega
          · simp only at h; omega
          · rw [a3, nil_cmp] at h; omega
        · rw [cmpV_text a1.symm a2.symm]; exact nil_le _
      all_goals (rw [cmpV_kind (by simp only; omega)]; omega)
    · refine next_of (n := ⟨4, minI, ⟨#[]⟩⟩) (by decide +kernel) (by decide +kernel) ⟨by simp, by simp [hm]⟩ (by decide +kernel) fun q hq hrq hlt => ?_
      rcases valid_eq hq with ⟨a1, a2, a3⟩ | ⟨a1, a2, a3⟩ | ⟨a1, a2, a3⟩ | ⟨a1, a3⟩ | ⟨a1, a2, a3⟩
      · rcases lt_cases hlt with h | ⟨h', h⟩ | ⟨h', _, h⟩
        · simp only at h; omega
        · simp only at h'; omega
        · simp only at h'; omega
      · rcases lt_cases hlt with h | ⟨h', h⟩ | ⟨h', _, h⟩
        · simp only at h; omega
        · simp only at h'; omega
        · simp only at h'; omega
      · rcases lt_cases hlt with h | ⟨_, h⟩ | ⟨_, h', h⟩
        · simp only at h; omega
        · simp only at h; rcases a2 with a2 | a2 <;> omega
        · rw [a3, nil_cmp] at h; omega
      · rcases Int.lt_or_le minI q.i with h | h
        · rw [cmpV_num a1.symm h]; omega
        · rw [cmpV_text a1.symm (by have := hrq.1; simp only; omega)]; exact nil_le _
      · rw [cmpV_kind (by simp only; omega)]; omega
  · simp only at h1 h3
    subst h1 h3
    by_cases hl : i < 9223372036854775807
    · have e : nextV ⟨4, i, ⟨#[]⟩⟩ = (⟨4, i + 1, ⟨#[]⟩⟩, true) := by
        unfold nextV
        rw [if_pos hv, if_neg (by simp), if_pos ⟨rfl, hl⟩]
        have : wrap64 (i + 1) = i + 1 := by
          unfold wrap64
          omega
        rw [this]
      refine next_of e (by simp [validV, bytes_list]) ⟨by show minI ≤ i + 1; rw [hm]; omega, by show i + 1 ≤ 9223372036854775807; omega⟩ ?_ fun q hq hrq hlt => ?_
      · rw [cmpV_num (a := ⟨4, i, ⟨#[]⟩⟩) (b := ⟨4, i + 1, ⟨#[]⟩⟩) rfl (by simp only; omega)]; omega
      · rcases valid_eq hq with ⟨a1, a2, a3⟩ | ⟨a1, a2, a3⟩ | ⟨a1, a2, a3⟩ | ⟨a1, a3⟩ | ⟨a1, a2, a3⟩
        iterate 3
          · rcases lt_cases hlt with h | ⟨h', h⟩ | ⟨h', _, h⟩
            · simp only at h; omega
            · simp only at h'; omega
            · simp only at h'; omega
        · rcases lt_cases hlt with h | ⟨_, h⟩ | ⟨_, _, h⟩
          · simp only at h; omega
          · simp only at h
            rcases Int.lt_or_le (i + 1) q.i with h5 | h5
            · rw [cmpV_num a1.symm h5]; omega
            · rw [cmpV_text a1.symm (by simp only; omega)]; exact nil_le _
          · rw [a3, nil_cmp] at h; omega
        · rw [cmpV_kind (by simp only; omega)]; omega
    · refine next_of (n := ⟨5, 0, ⟨#[]⟩⟩) (nextV_top hv hl) (by decide +kernel) ⟨by simp [hm], by simp⟩ (by rw [cmpV_kind (by simp)]; omega) fun q hq hrq hlt => ?_
      rcases valid_eq hq with ⟨a1, a2, a3⟩ | ⟨a1, a2, a3⟩ | ⟨a1, a2, a3⟩ | ⟨a1, a3⟩ | ⟨a1, a2, a3⟩
      iterate 3
        · rcases lt_cases hlt with h | ⟨h', h⟩ | ⟨h', _, h⟩
          · simp only at h; omega
          · simp only at h'; omega
          · simp only at h'; omega
      · rcases lt_cases hlt with h | ⟨_, h⟩ | ⟨_, _, h⟩
        · simp only at h; omega
        · simp only at h; have := hrq.2; omega
        · rw [a3, nil_cmp] at h; omega
      · rw [cmpV_text a1.symm a2.symm]; exact nil_le _
  · simp only at h1 h2 h3
    subst h1 h2
    have e : nextV ⟨5, 0, t⟩ = nextT t := by
      unfold nextV
      rw [if_pos hv, if_neg (by simp), if_neg (by simp), if_pos rfl]
    obtain ⟨g1, g2⟩ := nextT_good t h3
    unfold NextGood
    rw [e]
    refine ⟨fun h => ?_, g2⟩
    obtain ⟨b1, b2, b3, b4, b5⟩ := g1 h
    generalize (nextT t).1 = n at *
    obtain ⟨nk, ni, nt⟩ := n
    simp only at b1 b2 b3 b4 b5
    subst b1 b2
    refine ⟨by simp [validV]; omega, ⟨by simp [hm], by simp⟩, by rw [cmpV_text (a := ⟨5, 0, t⟩) (b := ⟨5, 0, nt⟩) rfl rfl]; exact b4, fun q hq hrq hlt => ?_⟩
    rcases valid_eq hq with ⟨a1, a2, a3⟩ | ⟨a1, a2, a3⟩ | ⟨a1, a2, a3⟩ | ⟨a1, a3⟩ | ⟨a1, a2, a3⟩
    iterate 4
      · rcases lt_cases hlt with h | ⟨h', h⟩ | ⟨h', _, h⟩
        · simp only at h; omega
        · simp only at h'; omega
        · simp only at h'; omega
    · rcases lt_cases hlt with h | ⟨_, h⟩ | ⟨_, _, h⟩
      · simp only at h; omega
      · simp only at h; omega
      · rw [cmpV_text a1.symm a2.symm]
        exact b5 q.t a3 h
end Go.Proofs.YtmnmckblmoalkaaGreat

namespace Go.Proofs.YtmnmckblmoalkaaGreat
open Go.RowKit
set_option maxRecDepth 100000

theorem Blk.newAt {w : World} {g : Nat} {T : TypeId} {cs : Array Value} (h : g = w.heap.size) : Blk (w.alloc (.cells cs T)) g T cs := by
  subst h
  exact Blk.new w T cs
def oneL (v : Vl) : List Iv × Int := if validV v then ([⟨v, (nextV v).1, !(nextV v).2⟩], 0) else ([], 10)
set_option maxHeartbeats 1000000 in
theorem rone_any (v : Vl) (w : World) : Calls Tryz.prog 95 #[.agg #[.int .i64 v.k, .int .i64 v.i, .string v.t]] w fun e w' => IvRes w (oneL v) e w' := by
  obtain ⟨fk, fi, ft⟩ := v
  obtain ⟨v1, H1⟩ : ∃ v, Hid (validV ⟨fk, fi, ft⟩ = v) := ⟨_, rfl⟩
  obtain ⟨⟨⟨nk, ni, nt⟩, nb⟩, Hn⟩ : ∃ q, Hid (nextV ⟨fk, fi, ft⟩ = q) := ⟨_, rfl⟩
  go_enter Tryz.func95, Tryz.ntmps95
  go_wp2_with fail
  refine (rvalid_any ⟨fk, fi, ft⟩ _).mono ?_
  rintro e w1 ⟨rfl, hb1⟩
  rw [H1.out]
  have y1 := ((Blk.new w 49 #[.int .i64 fk, .int .i64 fi, .string ft]).below hb1)
  have y1c := y1.cell
  have hB1 : Below w.heap.size w w1 := Below.next ((Below.refl _ _).alloc (Nat.le_refl _) _) hb1
  have hs1 := y1.lt
  cases v1
  · go_wp2
    go_ret2
    exact ivres_nil (by simp [oneL, H1.out]) hB1
  · go_wp2_with fail
    refine (rnext_any ⟨fk, fi, ft⟩ _).mono ?_
    rintro e w2 ⟨rfl, hb2⟩
    rw [Hn.out]
    have y2 := y1.below hb2
    have y2c := y2.cell
    have hB2 := Below.next hB1 hb2
    have hs2 := y2.lt
    clear y1c
    go_wp2
    go_ret2
    have hr : oneL ⟨fk, fi, ft⟩ = ([⟨⟨fk, fi, ft⟩, ⟨nk, ni, nt⟩, !nb⟩], 0) := by simp [oneL, H1.out, Hn.out]
    rw [hr]
    exact ⟨_, _, rfl, iv_one (T := 90) (x := ⟨⟨fk, fi, ft⟩, ⟨nk, ni, nt⟩, !nb⟩) (Blk.newAt (by simp)), (hB2.alloc hB2.size _).alloc (by have := hB2.size; simp; omega) _⟩
end Go.Proofs.YtmnmckblmoalkaaGreat
