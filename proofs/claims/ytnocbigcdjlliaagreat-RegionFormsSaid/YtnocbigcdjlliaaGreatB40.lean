/-
  Texts: Next.
-/
import Derived.Test.YtnocbigcdjlliaaGreatB27
import Derived.Lib.ConvBytes
set_option linter.unusedVariables false
namespace Go.Proofs.YtnocbigcdjlliaaGreat
open Go.RowKit
set_option maxRecDepth 100000
set_option linter.unusedVariables false

def strip (t : List UInt8) : Nat → Nat
  | 0 => 0
  | n + 1 => if t.getD n 0 = 255 then strip t n else n + 1
def upT (t : ByteArray) (n : Nat) : ByteArray := ⟨(t.data.toList.take (n - 1) ++ [t.data.toList.getD (n - 1) 0 + 1]).toArray⟩
def nextT (t : ByteArray) : Vl × Bool :=
  if t.size < 64 then (⟨5, 0, t ++ ⟨#[0]⟩⟩, true)
  else if strip t.data.toList t.size = 0 then (zeroV, false) else (⟨5, 0, upT t (strip t.data.toList t.size)⟩, true)

theorem getD_byte {t : ByteArray} {j : Nat} (hj : j < t.size) : t.data.toList.getD j 0 = t[j] := by
  have h : j < t.data.toList.length := by simpa using hj
  rw [List.getD_eq_getElem?_getD, List.getElem?_eq_getElem h]
  simp
  rfl
theorem strip_y {t : ByteArray} {j : Nat} (hj : j < t.size) (hu : t[j] = 255) : strip t.data.toList (j + 1) = strip t.data.toList j := by
  show (if t.data.toList.getD j 0 = 255 then _ else _) = _
  rw [getD_byte hj, if_pos hu]
theorem strip_n {t : ByteArray} {j : Nat} (hj : j < t.size) (hu : ¬ t[j] = 255) : strip t.data.toList (j + 1) = j + 1 := by
  show (if t.data.toList.getD j 0 = 255 then _ else _) = _
  rw [getD_byte hj, if_neg hu]
theorem up_size {t : ByteArray} {j : Nat} (hj : j < t.size) : (upT t (j + 1)).size = j + 1 := by
  show (List.toArray (t.data.toList.take (j + 1 - 1) ++ [t.data.toList.getD (j + 1 - 1) 0 + 1])).size = _
  have h : t.data.size = t.size := rfl
  simp
  omega
theorem up_get {t : ByteArray} {j i : Nat} (hj : j < t.size) (hi : i < (upT t (j + 1)).size) : (upT t (j + 1))[i] = if h : i < j then t[i] else t[j] + 1 := by
  have hi2 : i < j + 1 := by rw [up_size hj] at hi; exact hi
  show (List.toArray (t.data.toList.take (j + 1 - 1) ++ [t.data.toList.getD (j + 1 - 1) 0 + 1]))[i]'_ = _
  have hl : (t.data.toList.take j).length = j := by have h : t.data.size = t.size := rfl; simp; omega
  simp only [Nat.add_sub_cancel, getD_byte hj]
  rw [List.getElem_toArray]
  by_cases h : i < j
  · rw [List.getElem_append_left (by rw [hl]; exact h)]
    simp [h]
    rfl
  · rw [List.getElem_append_right (by rw [hl]; omega)]
    simp [h]
theorem bytes_conv (w : World) (t : ByteArray) (j : Nat) (hj : j < t.size) : ∃ (cap : Nat) (wb : World),
    (convert 9 22 (.string (t.extract 0 (j + 1)))).run Tryz.prog w = .ok (.slice (some ⟨w.heap.size, 0, none⟩) (j + 1) cap) wb ∧
    (∀ i (h : i < j + 1), wb.cell? ⟨w.heap.size, i, none⟩ = some (.int .u8 (t[i].toNat))) ∧ (∀ i, i < j + 1 → wb.frozen? ⟨w.heap.size, i, none⟩ = false) ∧ Below w.heap.size w wb ∧ wb.heap.size = w.heap.size + 1 := by
  have hz : (t.extract 0 (j + 1)).size = j + 1 := by
    simp
    omega
  refine ⟨grownCap w (j + 1) 0 5, Lib.bytesWorld w 5 (t.extract 0 (j + 1)), ?_, ?_, ?_, ?_, ?_⟩
  · have h := Lib.run_convert_string_bytes (P := Tryz.prog) w 9 22 5 (t.extract 0 (j + 1)) Tryz.underlying9 Tryz.underlying22 Tryz.underlying5
    rw [hz] at h
    exact h
  · intro i h
    rw [Lib.bytesWorld_cell _ _ _ _ (by omega), getD_byte (by omega)]
    have e : (t.extract 0 (j + 1))[i]'(by omega) = t[i] := by
      rw [ByteArray.getElem_extract]
      simp
    rw [e]
  · intro i h
    have hc : j + 1 ≤ (Lib.bytesCells w 5 (t.extract 0 (j + 1))).size := by
      simp [Lib.bytesCells, -ByteArray.size_extract]
      have : (t.extract 0 (j + 1)).data.size = (t.extract 0 (j + 1)).size := rfl
      omega
    simp [World.frozen?, Lib.bytesWorld_at_new]
    omega
  · refine ⟨?_, ?_, ?_, by rw [Lib.bytesWorld_size]; omega, fun k hk => Lib.bytesWorld_at_old _ _ _ k hk⟩
    · simp [Lib.bytesWorld, World.freeze, World.alloc, World.drew, -World.alloc_eq, -World.drew_eq]
    · simp [Lib.bytesWorld, World.freeze, World.alloc, World.drew, -World.alloc_eq, -World.drew_eq]
    · simp [Lib.bytesWorld, World.freeze, World.alloc, World.drew, -World.alloc_eq, -World.drew_eq]
  · exact Lib.bytesWorld_size _ _ _

theorem bytes_back {W : World} {G : Nat} {t : ByteArray} {j : Nat} (hj : j < t.size) (hlo : ∀ i (h : i < j + 1), W.cell? ⟨G, i, none⟩ = some (.int .u8 (t[i].toNat))) (hlt : (t[j].toNat : Int) < 255) (cap : Nat) :
    (convert 22 9 (.slice (some ⟨G, 0, none⟩) (j + 1) cap)).run Tryz.prog (W.setCell ⟨G, j, none⟩ (.int .u8 ((t[j].toNat : Int) + 1))) = .ok (.string (upT t (j + 1))) (W.setCell ⟨G, j, none⟩ (.int .u8 ((t[j].toNat : Int) + 1))) := by
  have h := Lib.run_convert_whole (P := Tryz.prog) (W.setCell ⟨G, j, none⟩ (.int .u8 ((t[j].toNat : Int) + 1))) 22 5 9 Tryz.underlying22 Tryz.underlying5 Tryz.underlying9 G 0 (upT t (j + 1)) ?_ cap
  · rw [up_size hj] at h
    exact h
  · intro i hi
    have hi2 : i < j + 1 := by rw [up_size hj] at hi; exact hi
    rw [up_get hj hi, Nat.zero_add]
    by_cases h : i < j
    · rw [World.cell?_setCell_other _ _ _ _ (fun e => by have := congrArg Addr.off e; simp at this; omega), hlo i hi2]
      simp [h]
    · have e : i = j := by omega
      subst e
      have := hlo i hi2
      rw [World.cell?_setCell_same _ _ _ this]
      simp
      omega

set_option maxHeartbeats 1000000 in
theorem nextText_any (t : ByteArray) (w : World) (ht : t.size ≤ 64) : Calls Tryz.prog 135 #[.string t] w fun e w' =>
    e = .returned (.tuple #[.agg #[.int .i64 (nextT t).1.k, .int .i64 (nextT t).1.i, .string (nextT t).1.t], .bool (nextT t).2]) ∧ Below w.heap.size w w' := by
  generalize hf : nextT t = r
  have Hf := Lib.hid hf
  clear hf
  by_cases hs : t.size < 64
  · go_enter Tryz.func135, Tryz.ntmps135
    go_wp2
    refine bodyPost_ret (v := .tuple #[.agg #[.int .i64 5, .int .i64 0, .string (t ++ ⟨#[0]⟩)], .bool true]) (by simp [results, Tryz.results135, go_sem]) rfl ⟨?_, ?_⟩
    · rw [← Hf.out]
      simp [nextT, hs]
    · repeat (first | exact Below.refl _ _ | apply Below.drew | refine Below.setCell ?_ (by simp) _ | refine Below.alloc ?_ (by simp) _)
  · have hX := Blk.new w 67 #[.int .i64 0, .int .i64 0, .string ⟨#[]⟩]
    have hB0 := (Below.refl w.heap.size w).alloc (Nat.le_refl _) (.cells #[.int .i64 0, .int .i64 0, .string ⟨#[]⟩] 67)
    go_enter Tryz.func135, Tryz.ntmps135
    go_wp2
    have hXc := hX.cell
    have hXf := hX.free
    generalize w.alloc (.cells #[.int .i64 0, .int .i64 0, .string ⟨#[]⟩] 67) = W at *
    go_loop [4] (fun i => ∃ k : Nat, k ≤ t.size ∧ i = .int .i64 (k : Int) ∧ Hid (strip t.data.toList k = strip t.data.toList t.size)) (fun i => (intOf i).toNat)
    case atStart => exact ⟨t.size, by omega, rfl, Lib.hid rfl⟩
    case round =>
      obtain ⟨k, hk, rfl, hinv⟩ := hrel
      rcases k with _ | j
      · go_wp2
        show bodyPost _ _ _ _ _ _
        refine bodyPost_ret (v := .tuple #[.agg #[.int .i64 0, .int .i64 0, .string ⟨#[]⟩], .bool false]) (by simp [results, Tryz.results135, go_sem, hXc]) rfl ⟨?_, ?_⟩
        · rw [← Hf.out]
          have := hinv.out
          have e0 : strip t.data.toList 0 = 0 := rfl
          simp [nextT, hs, ← this, e0, zeroV]
        · repeat (first | exact hB0 | apply Below.drew | refine Below.setCell ?_ (by simp) _ | refine Below.alloc ?_ (by simp) _)
      · have hj : j < t.size := by omega
        by_cases h255 : (t[j].toNat : Int) = 255
        · have h255' : ((t[j].toNat : Int) == 255) = true := by simp [h255]
          have Hn : Hid (strip t.data.toList j = strip t.data.toList t.size) := by
            show _ = _
            rw [← hinv.out]
            have hu : t[j] = 255 := by
              apply UInt8.toNat_inj.1
              show t[j].toNat = 255
              omega
            exact (strip_y hj hu).symm
          clear h255
          go_wp2
          go_round
          case rel => exact ⟨j, by omega, by go_num, Hn⟩
          case measure => simp [intOf]
        · have h255' : ((t[j].toNat : Int) == 255) = false := by simp [h255]
          have Hn : Hid (strip t.data.toList t.size = j + 1) := by
            show _ = _
            rw [← hinv.out]
            have hu : ¬ t[j] = 255 := by
              intro hu
              apply h255
              rw [hu]
              rfl
            exact strip_n hj hu
          have hlt : (t[j].toNat : Int) < 255 := by
            have := t[j].toNat_lt
            omega
          clear h255
          obtain ⟨cap, WB, kc1, hlo, hfz, hWB, hG⟩ := bytes_conv W t j hj
          have hXb := (hX.below hWB).cell
          have hXg := (hX.below hWB).free
          have hcj := hlo j (by omega)
          have hfj := hfz j (by omega)
          have Hlo := Lib.hid hlo
          have hlW := hX.lt
          have kc2 := bytes_back (W := WB) (G := W.heap.size) hj hlo hlt cap
          have hX3 : ∀ q, (WB.setCell ⟨W.heap.size, j, none⟩ (.int .u8 ((t[j].toNat : Int) + 1))).cell? ⟨w.heap.size, q, none⟩ = (#[.int .i64 0, .int .i64 0, .string ⟨#[]⟩] : Array Value)[q]? := fun q => by
            rw [World.cell?_setCell_other _ _ _ _ (fun e => by have := congrArg Addr.block e; simp at this; omega)]
            exact hXb q
          have hB3 : Below w.heap.size w (WB.setCell ⟨W.heap.size, j, none⟩ (.int .u8 ((t[j].toNat : Int) + 1))) := (hB0.trans (hWB.mono (Nat.le_of_lt hlW))).setCell (Nat.le_of_lt hlW) _
          have Hup : Hid (upT t (j + 1) = r.1.t ∧ r.1.k = 5 ∧ r.1.i = 0 ∧ r.2 = true) := by
            show _ ∧ _
            rw [← Hf.out]
            simp [nextT, hs, Hn.out]
          clear hlo hfz hXc hXf
          generalize W.heap.size = G at *
          set_option maxRecDepth 20000 in
          go_wp2_with fail
          show bodyPost _ _ _ _ _ _
          refine bodyPost_ret (v := .tuple #[.agg #[.int .i64 5, .int .i64 0, .string (upT t (j + 1))], .bool true]) (by simp [results, Tryz.results135, go_sem, hX3]) rfl ⟨?_, ?_⟩
          · obtain ⟨e1, e2, e3, e4⟩ := Hup.out
            rw [e1, e2, e3, e4]
          · repeat (first | exact hB3 | apply Below.drew | refine Below.setCell ?_ (by simp) _ | refine Below.alloc ?_ (by simp) _)

theorem valid_kind {k i : Int} {t : ByteArray} (h : validV ⟨k, i, t⟩ = true) : k = 1 ∨ k = 2 ∨ k = 3 ∨ k = 4 ∨ k = 5 := by
  unfold validV at h
  grind
theorem valid_size {i : Int} {t : ByteArray} (h : validV ⟨5, i, t⟩ = true) : t.size ≤ 64 := by
  simp [validV] at h
  exact h.2
/-- the least valid value behind v -/
def nextV (v : Vl) : Vl × Bool :=
  if validV v then
    if v.k = 3 ∧ v.i = 0 then (⟨3, 1, ⟨#[]⟩⟩, true)
    else if v.k = 4 ∧ v.i < 9223372036854775807 then (⟨4, wrap64 (v.i + 1), ⟨#[]⟩⟩, true)
    else if v.k = 5 then nextT v.t
    else firstV (v.k + 1)
  else (zeroV, false)

theorem nextV_top {i : Int} {t : ByteArray} (hv : validV ⟨4, i, t⟩ = true) (hl : ¬ i < 9223372036854775807) : nextV ⟨4, i, t⟩ = (⟨5, 0, ⟨#[]⟩⟩, true) := by
  unfold nextV
  rw [if_pos hv, if_neg (by simp), if_neg (fun h => hl h.2), if_neg (by simp)]
  simp [firstV]
set_option maxHeartbeats 1000000 in
theorem next_any (v : Vl) (w : World) : Calls Tryz.prog 126 #[.agg #[.int .i64 v.k, .int .i64 v.i, .string v.t]] w fun e w' =>
    e = .returned (.tuple #[.agg #[.int .i64 (nextV v).1.k, .int .i64 (nextV v).1.i, .string (nextV v).1.t], .bool (nextV v).2]) ∧ Below w.heap.size w w' := by
  generalize hf : nextV v = r
  have Hf := Lib.hid hf
  clear hf
  obtain ⟨k, i, t⟩ := v
  dsimp only
  have hX := Blk.new w 67 #[.int .i64 k, .int .i64 i, .string t]
  have hB0 := (Below.refl w.heap.size w).alloc (Nat.le_refl _) (.cells #[.int .i64 k, .int .i64 i, .string t] 67)
  have hZ := Blk.new (w.alloc (.cells #[.int .i64 k, .int .i64 i, .string t] 67)) 67 #[.int .i64 0, .int .i64 0, .string ⟨#[]⟩]
  have hX1 := hX.below ((Below.refl _ _).alloc (Nat.le_refl _) (.cells #[.int .i64 0, .int .i64 0, .string ⟨#[]⟩] 67))
  have hB1 := hB0.alloc (by simp) (.cells #[.int .i64 0, .int .i64 0, .string ⟨#[]⟩] 67)
  have hsz : ((w.alloc (.cells #[.int .i64 k, .int .i64 i, .string t] 67)).alloc (.cells #[.int .i64 0, .int .i64 0, .string ⟨#[]⟩] 67)).heap.size = w.heap.size + 2 := by simp
  have hsz0 : (w.alloc (.cells #[.int .i64 k, .int .i64 i, .string t] 67)).heap.size = w.heap.size + 1 := by simp
  rw [hsz0] at hZ
  go_enter Tryz.func126, Tryz.ntmps126
  go_wp2_with fail
  generalize ((w.alloc (.cells #[.int .i64 k, .int .i64 i, .string t] 67)).alloc (.cells #[.int .i64 0, .int .i64 0, .string ⟨#[]⟩] 67)) = W at *
  refine (valid_any ⟨k, i, t⟩ _).mono ?_
  rintro e w1 ⟨rfl, hb1⟩
  have x1 := (hX1.below hb1).cell
  have z1 := (hZ.below hb1)
  have z1c := z1.cell
  have z1f := z1.free
  have hB2 := Below.next hB1 hb1
  have hs1 : w.heap.size + 2 ≤ w1.heap.size := hsz ▸ hb1.size
  clear hX hB0 hZ hX1 hB1 hb1 hsz
  cases hv : validV ⟨k, i, t⟩
  · have Hv := Lib.hid hv
    clear hv
    go_wp2
    show bodyPost _ _ _ _ _ _
    refine bodyPost_ret (v := .tuple #[.agg #[.int .i64 0, .int .i64 0, .string ⟨#[]⟩], .bool false]) (by simp [results, Tryz.results126, go_sem, z1c]) rfl ⟨?_, ?_⟩
    · rw [← Hf.out]
      simp [nextV, Hv.out, zeroV]
    · repeat (first | exact hB2 | apply Below.drew | refine Below.setCell ?_ (by simp) _ | refine Below.alloc ?_ (by simp) _)
  · have hk : k = 1 ∨ k = 2 ∨ k = 3 ∨ k = 4 ∨ k = 5 := valid_kind hv
    have Hv := Lib.hid hv
    clear hv
    rcases hk with rfl | rfl | rfl | rfl | rfl
    · go_wp2_with fail
      refine (first_any 2 _).mono ?_
      rintro e w2 ⟨rfl, hb2⟩
      have e2 : firstV 2 = (⟨2, 0, ⟨#[]⟩⟩, true) := by decide
      rw [e2]
      have z2c := (z1.below hb2).cell
      have z2f := (z1.below hb2).free
      have hB3 := Below.next hB2 hb2
      go_wp2
      show bodyPost _ _ _ _ _ _
      refine bodyPost_ret (v := .tuple #[.agg #[.int .i64 2, .int .i64 0, .string ⟨#[]⟩], .bool true]) (by simp [results, Tryz.results126, go_sem, z2c]) rfl ⟨?_, ?_⟩
      · rw [← Hf.out]
        simp [nextV, Hv.out, firstV]
      · repeat (first | exact hB3 | apply Below.drew | refine Below.setCell ?_ (by simp) _ | refine Below.alloc ?_ (by simp) _)
    · go_wp2_with fail
      refine (first_any 3 _).mono ?_
      rintro e w2 ⟨rfl, hb2⟩
      have e2 : firstV 3 = (⟨3, 0, ⟨#[]⟩⟩, true) := by decide
      rw [e2]
      have z2c := (z1.below hb2).cell
      have z2f := (z1.below hb2).free
      have hB3 := Below.next hB2 hb2
      go_wp2
      show bodyPost _ _ _ _ _ _
      refine bodyPost_ret (v := .tuple #[.agg #[.int .i64 3, .int .i64 0, .string ⟨#[]⟩], .bool true]) (by simp [results, Tryz.results126, go_sem, z2c]) rfl ⟨?_, ?_⟩
      · rw [← Hf.out]
        simp [nextV, Hv.out, firstV]
      · repeat (first | exact hB3 | apply Below.drew | refine Below.setCell ?_ (by simp) _ | refine Below.alloc ?_ (by simp) _)
    · by_cases h0 : i = 0
      · subst h0
        go_wp2
        show bodyPost _ _ _ _ _ _
        refine bodyPost_ret (v := .tuple #[.agg #[.int .i64 3, .int .i64 1, .string ⟨#[]⟩], .bool true]) (by simp [results, Tryz.results126, go_sem, z1c]) rfl ⟨?_, ?_⟩
        · rw [← Hf.out]
          simp [nextV, Hv.out]
        · repeat (first | exact hB2 | apply Below.drew | refine Below.setCell ?_ (by simp) _ | refine Below.alloc ?_ (by simp) _)
      · have h0' : (i == 0) = false := by simp [h0]
        go_wp2_with fail
        refine (first_any 4 _).mono ?_
        rintro e w2 ⟨rfl, hb2⟩
        have e2 : firstV 4 = (⟨4, (-9223372036854775808), ⟨#[]⟩⟩, true) := by decide
        rw [e2]
        have z2c := (z1.below hb2).cell
        have z2f := (z1.below hb2).free
        have hB3 := Below.next hB2 hb2
        go_wp2
        show bodyPost _ _ _ _ _ _
        refine bodyPost_ret (v := .tuple #[.agg #[.int .i64 4, .int .i64 (-9223372036854775808), .string ⟨#[]⟩], .bool true]) (by simp [results, Tryz.results126, go_sem, z2c]) rfl ⟨?_, ?_⟩
        · rw [← Hf.out]
          simp [nextV, Hv.out, firstV, minI, h0]
        · repeat (first | exact hB3 | apply Below.drew | refine Below.setCell ?_ (by simp) _ | refine Below.alloc ?_ (by simp) _)
    · by_cases hlt : i < 9223372036854775807
      · go_wp2
        show bodyPost _ _ _ _ _ _
        refine bodyPost_ret (v := .tuple #[.agg #[.int .i64 4, .int .i64 (wrap64 (i + 1)), .string ⟨#[]⟩], .bool true]) (by simp [results, Tryz.results126, go_sem, z1c]) rfl ⟨?_, ?_⟩
        · rw [← Hf.out]
          simp [nextV, Hv.out, hlt]
        · repeat (first | exact hB2 | apply Below.drew | refine Below.setCell ?_ (by simp) _ | refine Below.alloc ?_ (by simp) _)
      · have Hlt := Lib.hid hlt
        go_wp2_with fail
        refine (first_any 5 _).mono ?_
        rintro e w2 ⟨rfl, hb2⟩
        have e2 : firstV 5 = (⟨5, 0, ⟨#[]⟩⟩, true) := by decide
        rw [e2]
        have z2c := (z1.below hb2).cell
        have z2f := (z1.below hb2).free
        have hB3 := Below.next hB2 hb2
        go_wp2
        show bodyPost _ _ _ _ _ _
        refine bodyPost_ret (v := .tuple #[.agg #[.int .i64 5, .int .i64 0, .string ⟨#[]⟩], .bool true]) (by simp [results, Tryz.results126, go_sem, z2c]) rfl ⟨?_, ?_⟩
        · rw [← Hf.out]
          rw [nextV_top Hv.out (by have := Hlt.out; omega)]
        · repeat (first | exact hB3 | apply Below.drew | refine Below.setCell ?_ (by simp) _ | refine Below.alloc ?_ (by simp) _)
    · have hs : t.size ≤ 64 := valid_size Hv.out
      obtain ⟨⟨⟨nk, ni, nt⟩, nb⟩, Hn⟩ : ∃ q, Hid (nextT t = q) := ⟨_, rfl⟩
      go_wp2_with fail
      refine (nextText_any t _ hs).mono ?_
      rintro e w2 ⟨rfl, hb2⟩
      rw [Hn.out]
      have z2c := (z1.below hb2).cell
      have z2f := (z1.below hb2).free
      have hB3 := Below.next hB2 hb2
      go_wp2
      show bodyPost _ _ _ _ _ _
      refine bodyPost_ret (v := .tuple #[.agg #[.int .i64 nk, .int .i64 ni, .string nt], .bool nb]) (by simp [results, Tryz.results126, go_sem, z2c]) rfl ⟨?_, ?_⟩
      · rw [← Hf.out]
        simp [nextV, Hv.out, Hn.out]
      · repeat (first | exact hB3 | apply Below.drew | refine Below.setCell ?_ (by simp) _ | refine Below.alloc ?_ (by simp) _)
theorem one_byte_str {S : Nat → Prop} {W : World} {G : Nat} {b : UInt8} (hc : W.cell? ⟨G, 0, none⟩ = some (.int .u8 (b.toNat : Int))) (hS : ¬ S G) (x : LaterS S W) :
    (convert 22 9 (.slice (some ⟨G, 0, none⟩) 1 1)).run Tryz.prog (afterS S W x) = .ok (.string ⟨#[b]⟩) (afterS S W x) := by
  have h := Lib.run_convert_whole (P := Tryz.prog) (afterS S W x) 22 5 9 Tryz.underlying22 Tryz.underlying5 Tryz.underlying9 G 0 ⟨#[b]⟩ ?_ 1
  · exact h
  · intro i hi
    have : i = 0 := by
      have : (⟨#[b]⟩ : ByteArray).size = 1 := rfl
      omega
    subst this
    rw [cell_afterS x _ (by rw [hc]; rfl) hS, hc]
    rfl
theorem up_eq {t : ByteArray} {j : Nat} (hj : j < t.size) : t.extract 0 j ++ ⟨#[t[j] + 1]⟩ = upT t (j + 1) := by
  apply ByteArray.ext
  apply Array.toList_inj.1
  show _ = t.data.toList.take (j + 1 - 1) ++ [t.data.toList.getD (j + 1 - 1) 0 + 1]
  rw [Nat.add_sub_cancel, getD_byte hj]
  simp
set_option maxHeartbeats 1000000 in
theorem rnext_any (v : Vl) (w : World) : Calls Tryz.prog 122 #[.agg #[.int .i64 v.k, .int .i64 v.i, .string v.t]] w fun e w' =>
    e = .returned (.tuple #[.agg #[.int .i64 (nextV v).1.k, .int .i64 (nextV v).1.i, .string (nextV v).1.t], .bool (nextV v).2]) ∧ Below w.heap.size w w' := by
  generalize hf : nextV v = r
  have Hf := Lib.hid hf
  clear hf
  obtain ⟨k, i, t⟩ := v
  dsimp only
  have hX := Blk.new w 67 #[.int .i64 k, .int .i64 i, .string t]
  have hB0 := (Below.refl w.heap.size w).alloc (Nat.le_refl _) (.cells #[.int .i64 k, .int .i64 i, .string t] 67)
  have hZ := Blk.new (w.alloc (.cells #[.int .i64 k, .int .i64 i, .string t] 67)) 67 #[.int .i64 0, .int .i64 0, .string ⟨#[]⟩]
  have hX1 := hX.below ((Below.refl _ _).alloc (Nat.le_refl _) (.cells #[.int .i64 0, .int .i64 0, .string ⟨#[]⟩] 67))
  have hB1 := hB0.alloc (by simp) (.cells #[.int .i64 0, .int .i64 0, .string ⟨#[]⟩] 67)
  have hsz : ((w.alloc (.cells #[.int .i64 k, .int .i64 i, .string t] 67)).alloc (.cells #[.int .i64 0, .int .i64 0, .string ⟨#[]⟩] 67)).heap.size = w.heap.size + 2 := by simp
  have hsz0 : (w.alloc (.cells #[.int .i64 k, .int .i64 i, .string t] 67)).heap.size = w.heap.size + 1 := by simp
  rw [hsz0] at hZ
  go_enter Tryz.func122, Tryz.ntmps122
  go_wp2_with fail
  generalize ((w.alloc (.cells #[.int .i64 k, .int .i64 i, .string t] 67)).alloc (.cells #[.int .i64 0, .int .i64 0, .string ⟨#[]⟩] 67)) = W at *
  refine (rvalid_any ⟨k, i, t⟩ _).mono ?_
  rintro e w1 ⟨rfl, hb1⟩
  have x1 := (hX1.below hb1).cell
  have z1 := (hZ.below hb1)
  have z1c := z1.cell
  have z1f := z1.free
  have hB2 := Below.next hB1 hb1
  have hs1 : w.heap.size + 2 ≤ w1.heap.size := hsz ▸ hb1.size
  clear hX hB0 hZ hX1 hB1 hb1 hsz
  cases hv : validV ⟨k, i, t⟩
  · have Hv := Lib.hid hv
    clear hv
    go_wp2
    show bodyPost _ _ _ _ _ _
    refine bodyPost_ret (v := .tuple #[.agg #[.int .i64 0, .int .i64 0, .string ⟨#[]⟩], .bool false]) (by simp [results, Tryz.results122, go_sem, z1c]) rfl ⟨?_, ?_⟩
    · rw [← Hf.out]
      simp [nextV, Hv.out, zeroV]
    · repeat (first | exact hB2 | apply Below.drew | refine Below.setCell ?_ (by simp) _ | refine Below.alloc ?_ (by simp) _)
  · have hk : k = 1 ∨ k = 2 ∨ k = 3 ∨ k = 4 ∨ k = 5 := valid_kind hv
    have Hv := Lib.hid hv
    clear hv
    rcases hk with rfl | rfl | rfl | rfl | rfl
    · go_wp2
      show bodyPost _ _ _ _ _ _
      refine bodyPost_ret (v := .tuple #[.agg #[.int .i64 2, .int .i64 0, .string ⟨#[]⟩], .bool true]) (by simp [results, Tryz.results122, go_sem, z1c]) rfl ⟨?_, ?_⟩
      · rw [← Hf.out]
        simp [nextV, Hv.out, firstV]
      · repeat (first | exact hB2 | apply Below.drew | refine Below.setCell ?_ (by simp) _ | refine Below.alloc ?_ (by simp) _)
    · go_wp2
      show bodyPost _ _ _ _ _ _
      refine bodyPost_ret (v := .tuple #[.agg #[.int .i64 3, .int .i64 0, .string ⟨#[]⟩], .bool true]) (by simp [results, Tryz.results122, go_sem, z1c]) rfl ⟨?_, ?_⟩
      · rw [← Hf.out]
        simp [nextV, Hv.out, firstV]
      · repeat (first | exact hB2 | apply Below.drew | refine Below.setCell ?_ (by simp) _ | refine Below.alloc ?_ (by simp) _)
    · by_cases h0 : i = 0
      · subst h0
        go_wp2
        show bodyPost _ _ _ _ _ _
        refine bodyPost_ret (v := .tuple #[.agg #[.int .i64 3, .int .i64 1, .string ⟨#[]⟩], .bool true]) (by simp [results, Tryz.results122, go_sem, z1c]) rfl ⟨?_, ?_⟩
        · rw [← Hf.out]
          simp [nextV, Hv.out]
        · repeat (first | exact hB2 | apply Below.drew | refine Below.setCell ?_ (by simp) _ | refine Below.alloc ?_ (by simp) _)
      · have h0' : (i == 0) = false := by simp [h0]
        go_wp2
        show bodyPost _ _ _ _ _ _
        refine bodyPost_ret (v := .tuple #[.agg #[.int .i64 4, .int .i64 (-9223372036854775808), .string ⟨#[]⟩], .bool true]) (by simp [results, Tryz.results122, go_sem, z1c]) rfl ⟨?_, ?_⟩
        · rw [← Hf.out]
          simp [nextV, Hv.out, firstV, minI, h0]
        · repeat (first | exact hB2 | apply Below.drew | refine Below.setCell ?_ (by simp) _ | refine Below.alloc ?_ (by simp) _)
    · by_cases hlt : i < 9223372036854775807
      · go_wp2
        show bodyPost _ _ _ _ _ _
        refine bodyPost_ret (v := .tuple #[.agg #[.int .i64 4, .int .i64 (wrap64 (i + 1)), .string ⟨#[]⟩], .bool true]) (by simp [results, Tryz.results122, go_sem, z1c]) rfl ⟨?_, ?_⟩
        · rw [← Hf.out]
          simp [nextV, Hv.out, hlt]
        · repeat (first | exact hB2 | apply Below.drew | refine Below.setCell ?_ (by simp) _ | refine Below.alloc ?_ (by simp) _)
      · have Hlt := Lib.hid hlt
        go_wp2
        show bodyPost _ _ _ _ _ _
        refine bodyPost_ret (v := .tuple #[.agg #[.int .i64 5, .int .i64 0, .string ⟨#[]⟩], .bool true]) (by simp [results, Tryz.results122, go_sem, z1c]) rfl ⟨?_, ?_⟩
        · rw [← Hf.out]
          rw [nextV_top Hv.out (by have := Hlt.out; omega)]
        · repeat (first | exact hB2 | apply Below.drew | refine Below.setCell ?_ (by simp) _ | refine Below.alloc ?_ (by simp) _)
    · have ht : t.size ≤ 64 := valid_size Hv.out
      by_cases hs : t.size < 64
      · have Hs := Lib.hid hs
        go_wp2
        show bodyPost _ _ _ _ _ _
        refine bodyPost_ret (v := .tuple #[.agg #[.int .i64 5, .int .i64 0, .string (t ++ ⟨#[0]⟩)], .bool true]) (by simp [results, Tryz.results122, go_sem, z1c]) rfl ⟨?_, ?_⟩
        · rw [← Hf.out]
          simp [nextV, Hv.out, nextT, Hs.out]
        · repeat (first | exact hB2 | apply Below.drew | refine Below.setCell ?_ (by simp) _ | refine Below.alloc ?_ (by simp) _)
      · have Hs := Lib.hid hs
        go_wp2
        go_loop [4] (fun i => ∃ k : Nat, k ≤ t.size ∧ i = .int .i64 (k : Int) ∧ Hid (strip t.data.toList k = strip t.data.toList t.size)) (fun i => (intOf i).toNat)
        case atStart => exact ⟨t.size, by omega, rfl, Lib.hid rfl⟩
        case round =>
          obtain ⟨k, hk, rfl, hinv⟩ := hrel
          rcases k with _ | j
          · go_wp2
            show bodyPost _ _ _ _ _ _
            refine bodyPost_ret (v := .tuple #[.agg #[.int .i64 0, .int .i64 0, .string ⟨#[]⟩], .bool false]) (by simp [results, Tryz.results122, go_sem, z1c]) rfl ⟨?_, ?_⟩
            · rw [← Hf.out]
              have := hinv.out
              have e0 : strip t.data.toList 0 = 0 := rfl
              simp [nextV, Hv.out, nextT, Hs.out, ← this, e0, zeroV]
            · repeat (first | exact hB2 | apply Below.drew | refine Below.setCell ?_ (by simp) _ | refine Below.alloc ?_ (by simp) _)
          · have hj : j < t.size := by omega
            by_cases h255 : (t[j].toNat : Int) = 255
            · have h255' : ((t[j].toNat : Int) == 255) = true := by simp [h255]
              have Hn : Hid (strip t.data.toList j = strip t.data.toList t.size) := by
                show _ = _
                rw [← hinv.out]
                have hu : t[j] = 255 := by
                  apply UInt8.toNat_inj.1
                  show t[j].toNat = 255
                  omega
                exact (strip_y hj hu).symm
              clear h255
              go_wp2
              go_round
              case rel => exact ⟨j, by omega, by go_num, Hn⟩
              case measure => simp [intOf]
            · have h255' : ((t[j].toNat : Int) == 255) = false := by simp [h255]
              have Hn : Hid (strip t.data.toList t.size = j + 1) := by
                show _ = _
                rw [← hinv.out]
                have hu : ¬ t[j] = 255 := by
                  intro hu
                  apply h255
                  rw [hu]
                  rfl
                exact strip_n hj hu
              have hlt : (t[j].toNat : Int) < 255 := by
                have := t[j].toNat_lt
                omega
              clear h255
              have hb8 : ((t[j] + 1).toNat : Int) = (t[j].toNat : Int) + 1 := by
                rw [UInt8.toNat_add]
                simp
                omega
              have kc2 := fun (x : LaterS (fun k => k = w.heap.size + 1) ((w1.alloc (.cells #[.int .u8 ((t[j].toNat : Int) + 1)] 5)).drew)) => one_byte_str (S := fun k => k = w.heap.size + 1) (W := (w1.alloc (.cells #[.int .u8 ((t[j].toNat : Int) + 1)] 5)).drew) (G := w1.heap.size) (b := t[j] + 1) (by rw [hb8]; exact (Blk.new w1 5 #[.int .u8 ((t[j].toNat : Int) + 1)]).cell 0) (by show ¬ w1.heap.size = w.heap.size + 1; omega) x
              have Hup : Hid (t.extract 0 j ++ ⟨#[t[j] + 1]⟩ = upT t (j + 1)) := up_eq hj
              have z3 : Blk ((w1.alloc (.cells #[.int .u8 ((t[j].toNat : Int) + 1)] 5)).drew) (w.heap.size + 1) 67 #[.int .i64 0, .int .i64 0, .string ⟨#[]⟩] := z1.below (((Below.refl _ _).alloc (Nat.le_refl _) _).drew)
              have z3c := z3.cell
              have z3f := z3.free
              set_option maxRecDepth 20000 in
              go_wp2_with fail
              have hca := @cell_afterS (fun k => k = w.heap.size + 1) w1.drew
              refine wp_region_segS (fun k => k = w.heap.size + 1) [([0, 1, 2, 3, 4, 5, 6, 7, 8, 9, 10], 11), ([12, 13, 14], 15)] [16] (by kernel_rfl) (by kernel_rfl) (fun _ _ d _ _ h => by cases d <;> exact h) ?_
              simp only [pickSegs, pickOps, opAt, List.map_cons, List.map_nil, List.getElem?_toArray, List.getElem?_cons_zero, List.getElem?_cons_succ, Option.getD_some]
              unfold wpBlocksS
              set_option maxRecDepth 20000 in
              repeat (go_big_quiet_step (fail))
              refine wpQuiet_nil ?_
              clear hca
              go_wp2_with fail
              have hB4 : Below w.heap.size w (w1.alloc (.cells #[.int .u8 ((t[j].toNat : Int) + 1)] 5)).drew := (hB2.alloc (by omega) _).drew
              refine ⟨But.of_below (((Below.refl _ w1.drew).alloc (Nat.le_refl _) _)), ?_⟩
              generalize (w1.alloc (.cells #[.int .u8 ((t[j].toNat : Int) + 1)] 5)).drew = W3 at *
              unfold wpBlocksS
              repeat (go_big_quiet_step (fail))
              refine wpQuiet_nil ?_
              go_wp2_with fail
              refine ⟨((But.set (S := fun k => k = w.heap.size + 1) _ (p := ⟨w.heap.size + 1, 0, none⟩) rfl _).trans (But.set (S := fun k => k = w.heap.size + 1) _ (p := ⟨w.heap.size + 1, 1, none⟩) rfl _)).trans (But.set (S := fun k => k = w.heap.size + 1) _ (p := ⟨w.heap.size + 1, 2, none⟩) rfl _), ?_⟩
              unfold wpBlocksS
              repeat (go_big_quiet_step (fail))
              refine wpQuiet_nil ?_
              go_wp2_with fail
              show bodyPost _ _ _ _ _ _
              refine bodyPost_ret (v := .tuple #[.agg #[.int .i64 5, .int .i64 0, .string (t.extract 0 j ++ ⟨#[t[j] + 1]⟩)], .bool true]) (by simp [results, Tryz.results122, go_sem, z3c]) rfl ⟨?_, ?_⟩
              · rw [← Hf.out, Hup.out]
                simp [nextV, Hv.out, nextT, Hs.out, Hn.out]
              · repeat (first | exact hB4 | apply Below.drew | refine Below.setCell ?_ (by simp) _ | refine Below.alloc ?_ (by simp) _)
end Go.Proofs.YtnocbigcdjlliaaGreat
