/-
  Texts: BdOpd, Put, BdLaw.
-/
import Derived.Test.YtponkkljlbifmaaGreatH22
set_option linter.unusedVariables false
/-
  Case.operand: a valid operand of the kind that is asked for.
-/
namespace Go.Proofs.YtponkkljlbifmaaGreat
open Go.RowKit
set_option maxRecDepth 100000
set_option linter.unusedVariables false

theorem info_od : (Tryz.prog.info? 69).map (fun i => (i.zero, i.size, i.bytes)) = some (some (.agg #[.int .i64 0, .int .i64 0, .int .i64 0, .int .i64 0, .string ⟨#[]⟩]), 5, 48) := by kernel_rfl
/-- an operand of the kind -/
structure OdOk (cols : List Int) (k : Int) (o : Od) : Prop where
  rg : rngV o.v
  kd : kindOf cols [] o = k
def OpdR (cols : List Int) (k : Int) (w : World) (g : Nat) (e : Ending) (w' : World) : Prop := ∃ o : Od, e = .returned (.agg #[.int .i64 o.k, .int .i64 o.ix, .int .i64 o.v.k, .int .i64 o.v.i, .string o.v.t]) ∧ OdOk cols k o ∧ CaseAt w' g ∧ But (· = g) w w'
/-- the cells of a column's operand -/
def opC (i : Nat) : List Value := [.int .i64 1, .int .i64 (i : Int), .int .i64 0, .int .i64 0, .string ⟨#[]⟩]
theorem opC_len (i : Nat) : (opC i).length = 5 := rfl
theorem one_op (i : Nat) : ∀ u ∈ opC i, u.oneCell' = true := by simp [opC, Value.oneCell']
theorem od_col {cols : List Int} {k : Int} {i : Nat} (h : cols[i]? = some k) : OdOk cols k ⟨1, (i : Int), zeroV⟩ := by
  have hl := (List.getElem?_eq_some_iff.1 h).1
  refine ⟨⟨by show minI ≤ (0 : Int); decide, by show (0 : Int) ≤ 9223372036854775807; decide⟩, ?_⟩
  unfold kindOf
  rw [if_neg (by show ¬ (1 : Int) = 3; decide), if_pos rfl, if_pos ⟨by show (0 : Int) ≤ (i : Int); omega, by show (i : Int) < _; omega, rfl⟩]
  show cols.getD ((i : Int).toNat) 0 = k
  rw [Int.toNat_natCast, List.getD_eq_getElem?_getD, h]
  rfl
theorem od_val {cols : List Int} {k : Int} {v : Vl} (hv : validV v = true) (hr : rngV v) (hk : v.k = k) (h3 : k = 3 ∨ k = 4 ∨ k = 5) : OdOk cols k ⟨3, 0, v⟩ := by
  refine ⟨hr, ?_⟩
  unfold kindOf
  rw [if_pos rfl, if_pos ⟨rfl, real_k.2 ⟨hv, by show 3 ≤ v.k; omega⟩⟩]
  exact hk
theorem case_far {w w' : World} {g U : Nat} (h : CaseAt w g) (hb : But (· = U) w w') (hU : g < U) : CaseAt w' g := h.far hb fun b e => by omega
theorem but_new {w0 w w' : World} {g U : Nat} (h : But (· = g) w0 w) (hb : But (· = U) w w') (hU : w0.heap.size ≤ U) : But (· = g) w0 w' := h.then hb fun q e => by omega
set_option maxRecDepth 100000 in
set_option maxHeartbeats 8000000 in
theorem operand_any (B : Nat) (g : Nat) (cols : List Int) (Ac : Option Addr) (nc cc : Nat) (kk : Int) (w : World) (hc : CaseAt w g) (hl : ClJ B g w Ac nc cols) (hn : nc ≤ 12) (hk : kk = 3 ∨ kk = 4 ∨ kk = 5) : Calls Tryz.prog 76 #[.pointer (some ⟨g, 0, none⟩), .slice Ac nc cc, .slice none 0 0, .int .i64 kk] w fun e w' => OpdR cols kk w g e w' := by
  obtain ⟨i1, hi, hz0, hz1, hz2⟩ := info_parts info_od
  have hgl := hc.lt
  obtain ⟨W0, HW0⟩ : ∃ W : World, Hid (w.alloc (.cells #[.int .i64 0, .int .i64 0, .int .i64 0, .int .i64 0, .string ⟨#[]⟩] 69) = W) := ⟨_, rfl⟩
  have HT : Hid (Blk W0 w.heap.size 69 #[.int .i64 0, .int .i64 0, .int .i64 0, .int .i64 0, .string ⟨#[]⟩]) := by rw [← HW0.out]; exact Lib.hid (Blk.new _ _ _)
  have HB0 : Hid (But (· = g) w W0) := by rw [← HW0.out]; exact Lib.hid (But.alloc _ _)
  have HC0 : Hid (CaseAt W0 g) := by rw [← HW0.out]; exact Lib.hid (hc.below ((Below.refl _ _).alloc (Nat.le_refl _) _))
  have HS0 : Hid (W0.heap.size = w.heap.size + 1) := by rw [← HW0.out]; exact Lib.hid (by simp)
  have HL0 := Lib.hid hl
  have HK := Lib.hid hk
  clear hc hl hk
  obtain ⟨T, HTe⟩ : ∃ z, Hid (w.heap.size = z) := ⟨_, rfl⟩
  rw [HTe.out] at HT HS0
  go_enter Tryz.func76, Tryz.ntmps76
  go_wp2_with fail
  rw [HW0.out, HTe.out]
  go_loopw [9, 17] (fun x i wr => ∃ (k : Nat) (l : List Nat) (A : Option Addr) (c : Nat), k ≤ nc ∧ i = .int .i64 (k : Int) ∧ x = .slice A l.length c ∧ Hid (l.length ≤ k) ∧ Hid (wr.ownsRow W0.heap.size 69 5 (.slice A l.length c) l.length (l.flatMap opC)) ∧ Hid (∀ i ∈ l, cols[i]? = some kk) ∧ Hid (CaseAt wr g) ∧ Hid (Blk wr T 69 #[.int .i64 0, .int .i64 0, .int .i64 0, .int .i64 0, .string ⟨#[]⟩]) ∧ Hid (But (· = g) w wr)) (fun _ i _ => nc - (intOf i).toNat)
  case atStart => exact ⟨0, [], none, 0, by omega, rfl, rfl, Lib.hid (Nat.le_refl _), Lib.hid ⟨by simp, .inl ⟨rfl, rfl⟩⟩, Lib.hid (fun i h => by cases h), HC0, HT, HB0⟩
  case round =>
    clear HC0 HT HB0
    obtain ⟨k, l, A, c, hkn, rfl, rfl, HLk, HO, HI, HC, HT, HB⟩ := hrel
    by_cases hlt : k < nc
    · obtain ⟨bc, oc, x, rfl, hx, hxc⟩ := (HL0.out.case HB.out).sl.at hlt
      have d0 := hxc 0 _ rfl
      simp only [Nat.mul_one, Nat.add_zero] at d0
      have Hx := Lib.hid hx
      clear hx hxc
      by_cases hxk : x = kk
      · subst hxk
        have hsz : W0.heap.size ≤ wr.heap.size := by rw [HS0.out]; have := HT.out.lt; omega
        have hlk := HLk.out
        go_wp2_with (at_builtin; refine wpList_append_one2 (by rfl) (.tmp 25) (.tmp 28) _ (by rfl) W0.heap.size 69 i1 _ 5 48 Tryz.underlying144 hi hz0 hz1 hz2 (by rfl) (by omega) (.slice A l.length c) l.length _ (by rfl) wr _ HO.out wr.heap.size (by rfl) (by rfl) (by rfl) (one_op k) (by simp only [maxLen]; omega) (by omega) hsz ?_; intro g6 cap6 w6 hown6 hg6 hB6 hat6 hlt6)
        go_roundw
        case rel =>
          refine ⟨k + 1, l ++ [k], some ⟨g6, 0, none⟩, cap6, by omega, by go_num, by simp, Lib.hid (by simp; omega), Lib.hid ?_, Lib.hid (fun i hi => ?_), Lib.hid (gcase_belowB HC.out hB6 (by have := HS0.out; have := HTe.out; omega)), Lib.hid ?_, Lib.hid (gbut_belowB HB.out hB6 (by have := HS0.out; have := HTe.out; omega))⟩
          · rw [List.flatMap_append, List.length_append]
            exact hown6
          · rcases List.mem_append.1 hi with hi | hi
            · exact HI.out i hi
            · rw [List.mem_singleton.1 hi]
              exact Hx.out
          · exact (hB6.block T (by have := HS0.out; omega)).trans HT.out
        case measure => simp [intOf]; omega
      · have g1 : (x == kk) = false := by simp [hxk]
        clear hxk
        go_wp2
        go_roundw
        case rel => exact ⟨k + 1, l, A, c, by omega, by go_num, rfl, Lib.hid (by have := HLk.out; omega), HO, HI, HC, HT, HB⟩
        case measure => simp [intOf]; omega
    · obtain rfl : k = nc := by omega
      have hlk := HLk.out
      go_wp2_with fail
      go_loopw [9, 33] (fun x i wx => x = .slice A l.length c ∧ i = .int .i64 0 ∧ wx = wr) (fun _ _ _ => 0)
      case atStart => exact ⟨rfl, rfl, rfl⟩
      case round =>
        obtain ⟨rfl, rfl, rfl⟩ := hrel
        go_wp2_with fail
        refine (int_any g ((l.length : Int) + 1) _ HC.out (by omega) (by omega)).mono ?_
        rintro e w2 ⟨⟨y, hy1, hy2, rfl⟩, hc2, hb2⟩
        obtain ⟨n0, rfl⟩ := Int.eq_ofNat_of_zero_le hy1
        have hn0 : n0 ≤ l.length := by omega
        clear hy1 hy2
        have HTg : Hid (T ≠ g) := Lib.hid (HC.out.ne HT.out (by decide))
        replace HO := Lib.hid (own_but HO.out hb2 (fun q hq => by have := (own_lt HO.out hq).1; have := HS0.out; have := HTe.out; omega))
        replace HT := Lib.hid (HT.out.but hb2 HTg.out)
        replace HB := Lib.hid (HB.out.trans hb2)
        replace HC := Lib.hid hc2
        clear hc2 hb2
        have HgT : Hid (g < T) := Lib.hid (by have := HTe.out; omega)
        have HwT : Hid (w.heap.size ≤ T) := Lib.hid (by have := HTe.out; omega)
        by_cases hlt2 : n0 < l.length
        · obtain ⟨b, o, x, rfl, hx, hxc⟩ := (Sl.of_own opC_len rfl HO.out).at hlt2
          have d0 := hxc 0 _ rfl
          have d1 := hxc 1 _ rfl
          have d2 := hxc 2 _ rfl
          have d3 := hxc 3 _ rfl
          have d4 := hxc 4 _ rfl
          simp only [Nat.add_zero] at d0
          have Hok := Lib.hid (od_col (HI.out x (List.mem_of_getElem? hx)))
          have HE : Hid (OpdR cols kk w g (.returned (.agg #[.int .i64 1, .int .i64 (x : Int), .int .i64 0, .int .i64 0, .string ⟨#[]⟩])) (putL w2 T 0 [.int .i64 1, .int .i64 (x : Int), .int .i64 0, .int .i64 0, .string ⟨#[]⟩])) := Lib.hid ⟨_, rfl, Hok.out, case_far HC.out (putL_but _ _ _ _) HgT.out, but_new HB.out (putL_but _ _ _ _) HwT.out⟩
          have yb0 := putL_blk [] 0 HT.out
          have yc0 := yb0.cell
          have yf0 := yb0.free
          have yb1 := putL_blk [.int .i64 1] 0 HT.out
          have yc1 := yb1.cell
          have yf1 := yb1.free
          have yb2 := putL_blk [.int .i64 1, .int .i64 (x : Int)] 0 HT.out
          have yc2 := yb2.cell
          have yf2 := yb2.free
          have yb3 := putL_blk [.int .i64 1, .int .i64 (x : Int), .int .i64 0] 0 HT.out
          have yc3 := yb3.cell
          have yf3 := yb3.free
          have yb4 := putL_blk [.int .i64 1, .int .i64 (x : Int), .int .i64 0, .int .i64 0] 0 HT.out
          have yc4 := yb4.cell
          have yf4 := yb4.free
          have yb5 := putL_blk [.int .i64 1, .int .i64 (x : Int), .int .i64 0, .int .i64 0, .string ⟨#[]⟩] 0 HT.out
          have yc5 := yb5.cell
          simp only [putL, putA, Nat.zero_add, Nat.reduceAdd] at yc0 yc1 yc2 yc3 yc4 yc5 yf0 yf1 yf2 yf3 yf4
          clear yb0 yb1 yb2 yb3 yb4 yb5
          simp only [putL, Nat.zero_add, Nat.reduceAdd] at HE
          clear hx hxc HL0 HO HI HLk HC HB HTe HwT HgT HS0 HW0 hi hz0 hz1 hz2 HTg Hok HK
          go_wp2
          exact bodyPost_ret (v := .agg #[.int .i64 1, .int .i64 (x : Int), .int .i64 0, .int .i64 0, .string ⟨#[]⟩]) (by simp [results, Tryz.results76, go_sem, yc5]) rfl HE.out
        · go_wp2_with fail
          refine (value3_any g kk _ HC.out HK.out).mono ?_
          rintro e w4 ⟨⟨⟨vk, vi, vt⟩, hv1, hv2, hv3, rfl⟩, hc4, hb4⟩
          have Hok := Lib.hid (od_val (cols := cols) hv1 hv2 hv3 HK.out)
          replace HT := Lib.hid (HT.out.but hb4 HTg.out)
          replace HB := Lib.hid (HB.out.trans hb4)
          replace HC := Lib.hid hc4
          clear hc4 hb4 hv1 hv2 hv3
          have HE : Hid (OpdR cols kk w g (.returned (.agg #[.int .i64 3, .int .i64 0, .int .i64 vk, .int .i64 vi, .string vt])) (putL w4 T 0 [.int .i64 3, .int .i64 0, .int .i64 vk, .int .i64 vi, .string vt])) := Lib.hid ⟨_, rfl, Hok.out, case_far HC.out (putL_but _ _ _ _) HgT.out, but_new HB.out (putL_but _ _ _ _) HwT.out⟩
          have yb0 := putL_blk [] 0 HT.out
          have yc0 := yb0.cell
          have yf0 := yb0.free
          have yb1 := putL_blk [.int .i64 3] 0 HT.out
          have yc1 := yb1.cell
          have yf1 := yb1.free
          have yb2 := putL_blk [.int .i64 3, .int .i64 0] 0 HT.out
          have yc2 := yb2.cell
          have yf2 := yb2.free
          have yb3 := putL_blk [.int .i64 3, .int .i64 0, .int .i64 vk] 0 HT.out
          have yc3 := yb3.cell
          have yf3 := yb3.free
          have yb4 := putL_blk [.int .i64 3, .int .i64 0, .int .i64 vk, .int .i64 vi] 0 HT.out
          have yc4 := yb4.cell
          have yf4 := yb4.free
          have yb5 := putL_blk [.int .i64 3, .int .i64 0, .int .i64 vk, .int .i64 vi, .string vt] 0 HT.out
          have yc5 := yb5.cell
          simp only [putL, putA, Nat.zero_add, Nat.reduceAdd] at yc0 yc1 yc2 yc3 yc4 yc5 yf0 yf1 yf2 yf3 yf4
          clear yb0 yb1 yb2 yb3 yb4 yb5
          simp only [putL, Nat.zero_add, Nat.reduceAdd] at HE
          go_wp2
          exact bodyPost_ret (v := .agg #[.int .i64 3, .int .i64 0, .int .i64 vk, .int .i64 vi, .string vt]) (by simp [results, Tryz.results76, go_sem, yc5]) rfl HE.out
end Go.Proofs.YtponkkljlbifmaaGreat

/-
  Stores into a block of thirteen cells, store by store. No program here.
-/
namespace Go.Proofs.YtponkkljlbifmaaGreat
open Go.RowKit
set_option maxRecDepth 100000

theorem put13 {w : World} {U : Nat} {T : TypeId} {a0 a1 a2 a3 a4 a5 a6 a7 a8 a9 a10 a11 a12 : Value} (h : Blk w U T #[a0, a1, a2, a3, a4, a5, a6, a7, a8, a9, a10, a11, a12]) (v0 v1 v2 v3 v4 v5 v6 v7 v8 v9 v10 v11 v12 : Value) :
    (∀ i, (w).cell? ⟨U, i, none⟩ = (#[a0, a1, a2, a3, a4, a5, a6, a7, a8, a9, a10, a11, a12] : Array Value)[i]?) ∧
    (∀ i, (w).frozen? ⟨U, i, none⟩ = false) ∧
    (∀ i, ((w).setCell ⟨U, 0, none⟩ v0).cell? ⟨U, i, none⟩ = (#[v0, a1, a2, a3, a4, a5, a6, a7, a8, a9, a10, a11, a12] : Array Value)[i]?) ∧
    (∀ i, ((w).setCell ⟨U, 0, none⟩ v0).frozen? ⟨U, i, none⟩ = false) ∧
    (∀ i, (((w).setCell ⟨U, 0, none⟩ v0).setCell ⟨U, 1, none⟩ v1).cell? ⟨U, i, none⟩ = (#[v0, v1, a2, a3, a4, a5, a6, a7, a8, a9, a10, a11, a12] : Array Value)[i]?) ∧
    (∀ i, (((w).setCell ⟨U, 0, none⟩ v0).setCell ⟨U, 1, none⟩ v1).frozen? ⟨U, i, none⟩ = false) ∧
    (∀ i, ((((w).setCell ⟨U, 0, none⟩ v0).setCell ⟨U, 1, none⟩ v1).setCell ⟨U, 2, none⟩ v2).cell? ⟨U, i, none⟩ = (#[v0, v1, v2, a3, a4, a5, a6, a7, a8, a9, a10, a11, a12] : Array Value)[i]?) ∧
    (∀ i, ((((w).setCell ⟨U, 0, none⟩ v0).setCell ⟨U, 1, none⟩ v1).setCell ⟨U, 2, none⟩ v2).frozen? ⟨U, i, none⟩ = false) ∧
    (∀ i, (((((w).setCell ⟨U, 0, none⟩ v0).setCell ⟨U, 1, none⟩ v1).setCell ⟨U, 2, none⟩ v2).setCell ⟨U, 3, none⟩ v3).cell? ⟨U, i, none⟩ = (#[v0, v1, v2, v3, a4, a5, a6, a7, a8, a9, a10, a11, a12] : Array Value)[i]?) ∧
    (∀ i, (((((w).setCell ⟨U, 0, none⟩ v0).setCell ⟨U, 1, none⟩ v1).setCell ⟨U, 2, none⟩ v2).setCell ⟨U, 3, none⟩ v3).frozen? ⟨U, i, none⟩ = false) ∧
    (∀ i, ((((((w).setCell ⟨U, 0, none⟩ v0).setCell ⟨U, 1, none⟩ v1).setCell ⟨U, 2, none⟩ v2).setCell ⟨U, 3, none⟩ v3).setCell ⟨U, 4, none⟩ v4).cell? ⟨U, i, none⟩ = (#[v0, v1, v2, v3, v4, a5, a6, a7, a8, a9, a10, a11, a12] : Array Value)[i]?) ∧
    (∀ i, ((((((w).setCell ⟨U, 0, none⟩ v0).setCell ⟨U, 1, none⟩ v1).setCell ⟨U, 2, none⟩ v2).setCell ⟨U, 3, none⟩ v3).setCell ⟨U, 4, none⟩ v4).frozen? ⟨U, i, none⟩ = false) ∧
    (∀ i, (((((((w).setCell ⟨U, 0, none⟩ v0).setCell ⟨U, 1, none⟩ v1).setCell ⟨U, 2, none⟩ v2).setCell ⟨U, 3, none⟩ v3).setCell ⟨U, 4, none⟩ v4).setCell ⟨U, 5, none⟩ v5).cell? ⟨U, i, none⟩ = (#[v0, v1, v2, v3, v4, v5, a6, a7, a8, a9, a10, a11, a12] : Array Value)[i]?) ∧
    (∀ i, (((((((w).setCell ⟨U, 0, none⟩ v0).setCell ⟨U, 1, none⟩ v1).setCell ⟨U, 2, none⟩ v2).setCell ⟨U, 3, none⟩ v3).setCell ⟨U, 4, none⟩ v4).setCell ⟨U, 5, none⟩ v5).frozen? ⟨U, i, none⟩ = false) ∧
    (∀ i, ((((((((w).setCell ⟨U, 0, none⟩ v0).setCell ⟨U, 1, none⟩ v1).setCell ⟨U, 2, none⟩ v2).setCell ⟨U, 3, none⟩ v3).setCell ⟨U, 4, none⟩ v4).setCell ⟨U, 5, none⟩ v5).setCell ⟨U, 6, none⟩ v6).cell? ⟨U, i, none⟩ = (#[v0, v1, v2, v3, v4, v5, v6, a7, a8, a9, a10, a11, a12] : Array Value)[i]?) ∧
    (∀ i, ((((((((w).setCell ⟨U, 0, none⟩ v0).setCell ⟨U, 1, none⟩ v1).setCell ⟨U, 2, none⟩ v2).setCell ⟨U, 3, none⟩ v3).setCell ⟨U, 4, none⟩ v4).setCell ⟨U, 5, none⟩ v5).setCell ⟨U, 6, none⟩ v6).frozen? ⟨U, i, none⟩ = false) ∧
    (∀ i, (((((((((w).setCell ⟨U, 0, none⟩ v0).setCell ⟨U, 1, none⟩ v1).setCell ⟨U, 2, none⟩ v2).setCell ⟨U, 3, none⟩ v3).setCell ⟨U, 4, none⟩ v4).setCell ⟨U, 5, none⟩ v5).setCell ⟨U, 6, none⟩ v6).setCell ⟨U, 7, none⟩ v7).cell? ⟨U, i, none⟩ = (#[v0, v1, v2, v3, v4, v5, v6, v7, a8, a9, a10, a11, a12] : Array Value)[i]?) ∧
    (∀ i, (((((((((w).setCell ⟨U, 0, none⟩ v0).setCell ⟨U, 1, none⟩ v1).setCell ⟨U, 2, none⟩ v2).setCell ⟨U, 3, none⟩ v3).setCell ⟨U, 4, none⟩ v4).setCell ⟨U, 5, none⟩ v5).setCell ⟨U, 6, none⟩ v6).setCell ⟨U, 7, none⟩ v7).frozen? ⟨U, i, none⟩ = false) ∧
    (∀ i, ((((((((((w).setCell ⟨U, 0, none⟩ v0).setCell ⟨U, 1, none⟩ v1).setCell ⟨U, 2, none⟩ v2).setCell ⟨U, 3, none⟩ v3).setCell ⟨U, 4, none⟩ v4).setCell ⟨U, 5, none⟩ v5).setCell ⟨U, 6, none⟩ v6).setCell ⟨U, 7, none⟩ v7).setCell ⟨U, 8, none⟩ v8).cell? ⟨U, i, none⟩ = (#[v0, v1, v2, v3, v4, v5, v6, v7, v8, a9, a10, a11, a12] : Array Value)[i]?) ∧
    (∀ i, ((((((((((w).setCell ⟨U, 0, none⟩ v0).setCell ⟨U, 1, none⟩ v1).setCell ⟨U, 2, none⟩ v2).setCell ⟨U, 3, none⟩ v3).setCell ⟨U, 4, none⟩ v4).setCell ⟨U, 5, none⟩ v5).setCell ⟨U, 6, none⟩ v6).setCell ⟨U, 7, none⟩ v7).setCell ⟨U, 8, none⟩ v8).frozen? ⟨U, i, none⟩ = false) ∧
    (∀ i, (((((((((((w).setCell ⟨U, 0, none⟩ v0).setCell ⟨U, 1, none⟩ v1).setCell ⟨U, 2, none⟩ v2).setCell ⟨U, 3, none⟩ v3).setCell ⟨U, 4, none⟩ v4).setCell ⟨U, 5, none⟩ v5).setCell ⟨U, 6, none⟩ v6).setCell ⟨U, 7, none⟩ v7).setCell ⟨U, 8, none⟩ v8).setCell ⟨U, 9, none⟩ v9).cell? ⟨U, i, none⟩ = (#[v0, v1, v2, v3, v4, v5, v6, v7, v8, v9, a10, a11, a12] : Array Value)[i]?) ∧
    (∀ i, (((((((((((w).setCell ⟨U, 0, none⟩ v0).setCell ⟨U, 1, none⟩ v1).setCell ⟨U, 2, none⟩ v2).setCell ⟨U, 3, none⟩ v3).setCell ⟨U, 4, none⟩ v4).setCell ⟨U, 5, none⟩ v5).setCell ⟨U, 6, none⟩ v6).setCell ⟨U, 7, none⟩ v7).setCell ⟨U, 8, none⟩ v8).setCell ⟨U, 9, none⟩ v9).frozen? ⟨U, i, none⟩ = false) ∧
    (∀ i, ((((((((((((w).setCell ⟨U, 0, none⟩ v0).setCell ⟨U, 1, none⟩ v1).setCell ⟨U, 2, none⟩ v2).setCell ⟨U, 3, none⟩ v3).setCell ⟨U, 4, none⟩ v4).setCell ⟨U, 5, none⟩ v5).setCell ⟨U, 6, none⟩ v6).setCell ⟨U, 7, none⟩ v7).setCell ⟨U, 8, none⟩ v8).setCell ⟨U, 9, none⟩ v9).setCell ⟨U, 10, none⟩ v10).cell? ⟨U, i, none⟩ = (#[v0, v1, v2, v3, v4, v5, v6, v7, v8, v9, v10, a11, a12] : Array Value)[i]?) ∧
    (∀ i, ((((((((((((w).setCell ⟨U, 0, none⟩ v0).setCell ⟨U, 1, none⟩ v1).setCell ⟨U, 2, none⟩ v2).setCell ⟨U, 3, none⟩ v3).setCell ⟨U, 4, none⟩ v4).setCell ⟨U, 5, none⟩ v5).setCell ⟨U, 6, none⟩ v6).setCell ⟨U, 7, none⟩ v7).setCell ⟨U, 8, none⟩ v8).setCell ⟨U, 9, none⟩ v9).setCell ⟨U, 10, none⟩ v10).frozen? ⟨U, i, none⟩ = false) ∧
    (∀ i, (((((((((((((w).setCell ⟨U, 0, none⟩ v0).setCell ⟨U, 1, none⟩ v1).setCell ⟨U, 2, none⟩ v2).setCell ⟨U, 3, none⟩ v3).setCell ⟨U, 4, none⟩ v4).setCell ⟨U, 5, none⟩ v5).setCell ⟨U, 6, none⟩ v6).setCell ⟨U, 7, none⟩ v7).setCell ⟨U, 8, none⟩ v8).setCell ⟨U, 9, none⟩ v9).setCell ⟨U, 10, none⟩ v10).setCell ⟨U, 11, none⟩ v11).cell? ⟨U, i, none⟩ = (#[v0, v1, v2, v3, v4, v5, v6, v7, v8, v9, v10, v11, a12] : Array Value)[i]?) ∧
    (∀ i, (((((((((((((w).setCell ⟨U, 0, none⟩ v0).setCell ⟨U, 1, none⟩ v1).setCell ⟨U, 2, none⟩ v2).setCell ⟨U, 3, none⟩ v3).setCell ⟨U, 4, none⟩ v4).setCell ⟨U, 5, none⟩ v5).setCell ⟨U, 6, none⟩ v6).setCell ⟨U, 7, none⟩ v7).setCell ⟨U, 8, none⟩ v8).setCell ⟨U, 9, none⟩ v9).setCell ⟨U, 10, none⟩ v10).setCell ⟨U, 11, none⟩ v11).frozen? ⟨U, i, none⟩ = false) ∧
    (∀ i, ((((((((((((((w).setCell ⟨U, 0, none⟩ v0).setCell ⟨U, 1, none⟩ v1).setCell ⟨U, 2, none⟩ v2).setCell ⟨U, 3, none⟩ v3).setCell ⟨U, 4, none⟩ v4).setCell ⟨U, 5, none⟩ v5).setCell ⟨U, 6, none⟩ v6).setCell ⟨U, 7, none⟩ v7).setCell ⟨U, 8, none⟩ v8).setCell ⟨U, 9, none⟩ v9).setCell ⟨U, 10, none⟩ v10).setCell ⟨U, 11, none⟩ v11).setCell ⟨U, 12, none⟩ v12).cell? ⟨U, i, none⟩ = (#[v0, v1, v2, v3, v4, v5, v6, v7, v8, v9, v10, v11, v12] : Array Value)[i]?) ∧
    Blk ((((((((((((((w).setCell ⟨U, 0, none⟩ v0).setCell ⟨U, 1, none⟩ v1).setCell ⟨U, 2, none⟩ v2).setCell ⟨U, 3, none⟩ v3).setCell ⟨U, 4, none⟩ v4).setCell ⟨U, 5, none⟩ v5).setCell ⟨U, 6, none⟩ v6).setCell ⟨U, 7, none⟩ v7).setCell ⟨U, 8, none⟩ v8).setCell ⟨U, 9, none⟩ v9).setCell ⟨U, 10, none⟩ v10).setCell ⟨U, 11, none⟩ v11).setCell ⟨U, 12, none⟩ v12) U T #[v0, v1, v2, v3, v4, v5, v6, v7, v8, v9, v10, v11, v12] ∧
    putL w U 0 [v0, v1, v2, v3, v4, v5, v6, v7, v8, v9, v10, v11, v12] = (((((((((((((w).setCell ⟨U, 0, none⟩ v0).setCell ⟨U, 1, none⟩ v1).setCell ⟨U, 2, none⟩ v2).setCell ⟨U, 3, none⟩ v3).setCell ⟨U, 4, none⟩ v4).setCell ⟨U, 5, none⟩ v5).setCell ⟨U, 6, none⟩ v6).setCell ⟨U, 7, none⟩ v7).setCell ⟨U, 8, none⟩ v8).setCell ⟨U, 9, none⟩ v9).setCell ⟨U, 10, none⟩ v10).setCell ⟨U, 11, none⟩ v11).setCell ⟨U, 12, none⟩ v12 := by
  have b0 := h
  have b1 : Blk ((w).setCell ⟨U, 0, none⟩ v0) U T #[v0, a1, a2, a3, a4, a5, a6, a7, a8, a9, a10, a11, a12] := b0.set_ 0 v0
  have b2 : Blk (((w).setCell ⟨U, 0, none⟩ v0).setCell ⟨U, 1, none⟩ v1) U T #[v0, v1, a2, a3, a4, a5, a6, a7, a8, a9, a10, a11, a12] := b1.set_ 1 v1
  have b3 : Blk ((((w).setCell ⟨U, 0, none⟩ v0).setCell ⟨U, 1, none⟩ v1).setCell ⟨U, 2, none⟩ v2) U T #[v0, v1, v2, a3, a4, a5, a6, a7, a8, a9, a10, a11, a12] := b2.set_ 2 v2
  have b4 : Blk (((((w).setCell ⟨U, 0, none⟩ v0).setCell ⟨U, 1, none⟩ v1).setCell ⟨U, 2, none⟩ v2).setCell ⟨U, 3, none⟩ v3) U T #[v0, v1, v2, v3, a4, a5, a6, a7, a8, a9, a10, a11, a12] := b3.set_ 3 v3
  have b5 : Blk ((((((w).setCell ⟨U, 0, none⟩ v0).setCell ⟨U, 1, none⟩ v1).setCell ⟨U, 2, none⟩ v2).setCell ⟨U, 3, none⟩ v3).setCell ⟨U, 4, none⟩ v4) U T #[v0, v1, v2, v3, v4, a5, a6, a7, a8, a9, a10, a11, a12] := b4.set_ 4 v4
  have b6 : Blk (((((((w).setCell ⟨U, 0, none⟩ v0).setCell ⟨U, 1, none⟩ v1).setCell ⟨U, 2, none⟩ v2).setCell ⟨U, 3, none⟩ v3).setCell ⟨U, 4, none⟩ v4).setCell ⟨U, 5, none⟩ v5) U T #[v0, v1, v2, v3, v4, v5, a6, a7, a8, a9, a10, a11, a12] := b5.set_ 5 v5
  have b7 : Blk ((((((((w).setCell ⟨U, 0, none⟩ v0).setCell ⟨U, 1, none⟩ v1).setCell ⟨U, 2, none⟩ v2).setCell ⟨U, 3, none⟩ v3).setCell ⟨U, 4, none⟩ v4).setCell ⟨U, 5, none⟩ v5).setCell ⟨U, 6, none⟩ v6) U T #[v0, v1, v2, v3, v4, v5, v6, a7, a8, a9, a10, a11, a12] := b6.set_ 6 v6
  have b8 : Blk (((((((((w).setCell ⟨U, 0, none⟩ v0).setCell ⟨U, 1, none⟩ v1).setCell ⟨U, 2, none⟩ v2).setCell ⟨U, 3, none⟩ v3).setCell ⟨U, 4, none⟩ v4).setCell ⟨U, 5, none⟩ v5).setCell ⟨U, 6, none⟩ v6).setCell ⟨U, 7, none⟩ v7) U T #[v0, v1, v2, v3, v4, v5, v6, v7, a8, a9, a10, a11, a12] := b7.set_ 7 v7
  have b9 : Blk ((((((((((w).setCell ⟨U, 0, none⟩ v0).setCell ⟨U, 1, none⟩ v1).setCell ⟨U, 2, none⟩ v2).setCell ⟨U, 3, none⟩ v3).setCell ⟨U, 4, none⟩ v4).setCell ⟨U, 5, none⟩ v5).setCell ⟨U, 6, none⟩ v6).setCell ⟨U, 7, none⟩ v7).setCell ⟨U, 8, none⟩ v8) U T #[v0, v1, v2, v3, v4, v5, v6, v7, v8, a9, a10, a11, a12] := b8.set_ 8 v8
  have b10 : Blk (((((((((((w).setCell ⟨U, 0, none⟩ v0).setCell ⟨U, 1, none⟩ v1).setCell ⟨U, 2, none⟩ v2).setCell ⟨U, 3, none⟩ v3).setCell ⟨U, 4, none⟩ v4).setCell ⟨U, 5, none⟩ v5).setCell ⟨U, 6, none⟩ v6).setCell ⟨U, 7, none⟩ v7).setCell ⟨U, 8, none⟩ v8).setCell ⟨U, 9, none⟩ v9) U T #[v0, v1, v2, v3, v4, v5, v6, v7, v8, v9, a10, a11, a12] := b9.set_ 9 v9
  have b11 : Blk ((((((((((((w).setCell ⟨U, 0, none⟩ v0).setCell ⟨U, 1, none⟩ v1).setCell ⟨U, 2, none⟩ v2).setCell ⟨U, 3, none⟩ v3).setCell ⟨U, 4, none⟩ v4).setCell ⟨U, 5, none⟩ v5).setCell ⟨U, 6, none⟩ v6).setCell ⟨U, 7, none⟩ v7).setCell ⟨U, 8, none⟩ v8).setCell ⟨U, 9, none⟩ v9).setCell ⟨U, 10, none⟩ v10) U T #[v0, v1, v2, v3, v4, v5, v6, v7, v8, v9, v10, a11, a12] := b10.set_ 10 v10
  have b12 : Blk (((((((((((((w).setCell ⟨U, 0, none⟩ v0).setCell ⟨U, 1, none⟩ v1).setCell ⟨U, 2, none⟩ v2).setCell ⟨U, 3, none⟩ v3).setCell ⟨U, 4, none⟩ v4).setCell ⟨U, 5, none⟩ v5).setCell ⟨U, 6, none⟩ v6).setCell ⟨U, 7, none⟩ v7).setCell ⟨U, 8, none⟩ v8).setCell ⟨U, 9, none⟩ v9).setCell ⟨U, 10, none⟩ v10).setCell ⟨U, 11, none⟩ v11) U T #[v0, v1, v2, v3, v4, v5, v6, v7, v8, v9, v10, v11, a12] := b11.set_ 11 v11
  have b13 : Blk ((((((((((((((w).setCell ⟨U, 0, none⟩ v0).setCell ⟨U, 1, none⟩ v1).setCell ⟨U, 2, none⟩ v2).setCell ⟨U, 3, none⟩ v3).setCell ⟨U, 4, none⟩ v4).setCell ⟨U, 5, none⟩ v5).setCell ⟨U, 6, none⟩ v6).setCell ⟨U, 7, none⟩ v7).setCell ⟨U, 8, none⟩ v8).setCell ⟨U, 9, none⟩ v9).setCell ⟨U, 10, none⟩ v10).setCell ⟨U, 11, none⟩ v11).setCell ⟨U, 12, none⟩ v12) U T #[v0, v1, v2, v3, v4, v5, v6, v7, v8, v9, v10, v11, v12] := b12.set_ 12 v12
  exact ⟨b0.cell, b0.free, b1.cell, b1.free, b2.cell, b2.free, b3.cell, b3.free, b4.cell, b4.free, b5.cell, b5.free, b6.cell, b6.free, b7.cell, b7.free, b8.cell, b8.free, b9.cell, b9.free, b10.cell, b10.free, b11.cell, b11.free, b12.cell, b12.free, b13.cell, b13, rfl⟩
theorem put5 {w : World} {U : Nat} {T : TypeId} {a0 a1 a2 a3 a4 a5 a6 a7 a8 a9 a10 a11 a12 : Value} (h : Blk w U T #[a0, a1, a2, a3, a4, a5, a6, a7, a8, a9, a10, a11, a12]) (v0 v1 v2 v3 v4 : Value) :
    (∀ i, (w).cell? ⟨U, i, none⟩ = (#[a0, a1, a2, a3, a4, a5, a6, a7, a8, a9, a10, a11, a12] : Array Value)[i]?) ∧
    (∀ i, (w).frozen? ⟨U, i, none⟩ = false) ∧
    (∀ i, ((w).setCell ⟨U, 7, none⟩ v0).cell? ⟨U, i, none⟩ = (#[a0, a1, a2, a3, a4, a5, a6, v0, a8, a9, a10, a11, a12] : Array Value)[i]?) ∧
    (∀ i, ((w).setCell ⟨U, 7, none⟩ v0).frozen? ⟨U, i, none⟩ = false) ∧
    (∀ i, (((w).setCell ⟨U, 7, none⟩ v0).setCell ⟨U, 8, none⟩ v1).cell? ⟨U, i, none⟩ = (#[a0, a1, a2, a3, a4, a5, a6, v0, v1, a9, a10, a11, a12] : Array Value)[i]?) ∧
    (∀ i, (((w).setCell ⟨U, 7, none⟩ v0).setCell ⟨U, 8, none⟩ v1).frozen? ⟨U, i, none⟩ = false) ∧
    (∀ i, ((((w).setCell ⟨U, 7, none⟩ v0).setCell ⟨U, 8, none⟩ v1).setCell ⟨U, 9, none⟩ v2).cell? ⟨U, i, none⟩ = (#[a0, a1, a2, a3, a4, a5, a6, v0, v1, v2, a10, a11, a12] : Array Value)[i]?) ∧
    (∀ i, ((((w).setCell ⟨U, 7, none⟩ v0).setCell ⟨U, 8, none⟩ v1).setCell ⟨U, 9, none⟩ v2).frozen? ⟨U, i, none⟩ = false) ∧
    (∀ i, (((((w).setCell ⟨U, 7, none⟩ v0).setCell ⟨U, 8, none⟩ v1).setCell ⟨U, 9, none⟩ v2).setCell ⟨U, 10, none⟩ v3).cell? ⟨U, i, none⟩ = (#[a0, a1, a2, a3, a4, a5, a6, v0, v1, v2, v3, a11, a12] : Array Value)[i]?) ∧
    (∀ i, (((((w).setCell ⟨U, 7, none⟩ v0).setCell ⟨U, 8, none⟩ v1).setCell ⟨U, 9, none⟩ v2).setCell ⟨U, 10, none⟩ v3).frozen? ⟨U, i, none⟩ = false) ∧
    (∀ i, ((((((w).setCell ⟨U, 7, none⟩ v0).setCell ⟨U, 8, none⟩ v1).setCell ⟨U, 9, none⟩ v2).setCell ⟨U, 10, none⟩ v3).setCell ⟨U, 11, none⟩ v4).cell? ⟨U, i, none⟩ = (#[a0, a1, a2, a3, a4, a5, a6, v0, v1, v2, v3, v4, a12] : Array Value)[i]?) ∧
    Blk ((((((w).setCell ⟨U, 7, none⟩ v0).setCell ⟨U, 8, none⟩ v1).setCell ⟨U, 9, none⟩ v2).setCell ⟨U, 10, none⟩ v3).setCell ⟨U, 11, none⟩ v4) U T #[a0, a1, a2, a3, a4, a5, a6, v0, v1, v2, v3, v4, a12] ∧
    putL w U 7 [v0, v1, v2, v3, v4] = (((((w).setCell ⟨U, 7, none⟩ v0).setCell ⟨U, 8, none⟩ v1).setCell ⟨U, 9, none⟩ v2).setCell ⟨U, 10, none⟩ v3).setCell ⟨U, 11, none⟩ v4 := by
  have b0 := h
  have b1 : Blk ((w).setCell ⟨U, 7, none⟩ v0) U T #[a0, a1, a2, a3, a4, a5, a6, v0, a8, a9, a10, a11, a12] := b0.set_ 7 v0
  have b2 : Blk (((w).setCell ⟨U, 7, none⟩ v0).setCell ⟨U, 8, none⟩ v1) U T #[a0, a1, a2, a3, a4, a5, a6, v0, v1, a9, a10, a11, a12] := b1.set_ 8 v1
  have b3 : Blk ((((w).setCell ⟨U, 7, none⟩ v0).setCell ⟨U, 8, none⟩ v1).setCell ⟨U, 9, none⟩ v2) U T #[a0, a1, a2, a3, a4, a5, a6, v0, v1, v2, a10, a11, a12] := b2.set_ 9 v2
  have b4 : Blk (((((w).setCell ⟨U, 7, none⟩ v0).setCell ⟨U, 8, none⟩ v1).setCell ⟨U, 9, none⟩ v2).setCell ⟨U, 10, none⟩ v3) U T #[a0, a1, a2, a3, a4, a5, a6, v0, v1, v2, v3, a11, a12] := b3.set_ 10 v3
  have b5 : Blk ((((((w).setCell ⟨U, 7, none⟩ v0).setCell ⟨U, 8, none⟩ v1).setCell ⟨U, 9, none⟩ v2).setCell ⟨U, 10, none⟩ v3).setCell ⟨U, 11, none⟩ v4) U T #[a0, a1, a2, a3, a4, a5, a6, v0, v1, v2, v3, v4, a12] := b4.set_ 11 v4
  exact ⟨b0.cell, b0.free, b1.cell, b1.free, b2.cell, b2.free, b3.cell, b3.free, b4.cell, b4.free, b5.cell, b5, rfl⟩
theorem put10 {w : World} {U : Nat} {T : TypeId} {a0 a1 a2 a3 a4 a5 a6 a7 a8 a9 a10 a11 a12 : Value} (h : Blk w U T #[a0, a1, a2, a3, a4, a5, a6, a7, a8, a9, a10, a11, a12]) (v0 v1 v2 v3 v4 v5 v6 v7 v8 v9 : Value) :
    (∀ i, (w).cell? ⟨U, i, none⟩ = (#[a0, a1, a2, a3, a4, a5, a6, a7, a8, a9, a10, a11, a12] : Array Value)[i]?) ∧
    (∀ i, (w).frozen? ⟨U, i, none⟩ = false) ∧
    (∀ i, ((w).setCell ⟨U, 2, none⟩ v0).cell? ⟨U, i, none⟩ = (#[a0, a1, v0, a3, a4, a5, a6, a7, a8, a9, a10, a11, a12] : Array Value)[i]?) ∧
    (∀ i, ((w).setCell ⟨U, 2, none⟩ v0).frozen? ⟨U, i, none⟩ = false) ∧
    (∀ i, (((w).setCell ⟨U, 2, none⟩ v0).setCell ⟨U, 3, none⟩ v1).cell? ⟨U, i, none⟩ = (#[a0, a1, v0, v1, a4, a5, a6, a7, a8, a9, a10, a11, a12] : Array Value)[i]?) ∧
    (∀ i, (((w).setCell ⟨U, 2, none⟩ v0).setCell ⟨U, 3, none⟩ v1).frozen? ⟨U, i, none⟩ = false) ∧
    (∀ i, ((((w).setCell ⟨U, 2, none⟩ v0).setCell ⟨U, 3, none⟩ v1).setCell ⟨U, 4, none⟩ v2).cell? ⟨U, i, none⟩ = (#[a0, a1, v0, v1, v2, a5, a6, a7, a8, a9, a10, a11, a12] : Array Value)[i]?) ∧
    (∀ i, ((((w).setCell ⟨U, 2, none⟩ v0).setCell ⟨U, 3, none⟩ v1).setCell ⟨U, 4, none⟩ v2).frozen? ⟨U, i, none⟩ = false) ∧
    (∀ i, (((((w).setCell ⟨U, 2, none⟩ v0).setCell ⟨U, 3, none⟩ v1).setCell ⟨U, 4, none⟩ v2).setCell ⟨U, 5, none⟩ v3).cell? ⟨U, i, none⟩ = (#[a0, a1, v0, v1, v2, v3, a6, a7, a8, a9, a10, a11, a12] : Array Value)[i]?) ∧
    (∀ i, (((((w).setCell ⟨U, 2, none⟩ v0).setCell ⟨U, 3, none⟩ v1).setCell ⟨U, 4, none⟩ v2).setCell ⟨U, 5, none⟩ v3).frozen? ⟨U, i, none⟩ = false) ∧
    (∀ i, ((((((w).setCell ⟨U, 2, none⟩ v0).setCell ⟨U, 3, none⟩ v1).setCell ⟨U, 4, none⟩ v2).setCell ⟨U, 5, none⟩ v3).setCell ⟨U, 6, none⟩ v4).cell? ⟨U, i, none⟩ = (#[a0, a1, v0, v1, v2, v3, v4, a7, a8, a9, a10, a11, a12] : Array Value)[i]?) ∧
    (∀ i, ((((((w).setCell ⟨U, 2, none⟩ v0).setCell ⟨U, 3, none⟩ v1).setCell ⟨U, 4, none⟩ v2).setCell ⟨U, 5, none⟩ v3).setCell ⟨U, 6, none⟩ v4).frozen? ⟨U, i, none⟩ = false) ∧
    (∀ i, (((((((w).setCell ⟨U, 2, none⟩ v0).setCell ⟨U, 3, none⟩ v1).setCell ⟨U, 4, none⟩ v2).setCell ⟨U, 5, none⟩ v3).setCell ⟨U, 6, none⟩ v4).setCell ⟨U, 7, none⟩ v5).cell? ⟨U, i, none⟩ = (#[a0, a1, v0, v1, v2, v3, v4, v5, a8, a9, a10, a11, a12] : Array Value)[i]?) ∧
    (∀ i, (((((((w).setCell ⟨U, 2, none⟩ v0).setCell ⟨U, 3, none⟩ v1).setCell ⟨U, 4, none⟩ v2).setCell ⟨U, 5, none⟩ v3).setCell ⟨U, 6, none⟩ v4).setCell ⟨U, 7, none⟩ v5).frozen? ⟨U, i, none⟩ = false) ∧
    (∀ i, ((((((((w).setCell ⟨U, 2, none⟩ v0).setCell ⟨U, 3, none⟩ v1).setCell ⟨U, 4, none⟩ v2).setCell ⟨U, 5, none⟩ v3).setCell ⟨U, 6, none⟩ v4).setCell ⟨U, 7, none⟩ v5).setCell ⟨U, 8, none⟩ v6).cell? ⟨U, i, none⟩ = (#[a0, a1, v0, v1, v2, v3, v4, v5, v6, a9, a10, a11, a12] : Array Value)[i]?) ∧
    (∀ i, ((((((((w).setCell ⟨U, 2, none⟩ v0).setCell ⟨U, 3, none⟩ v1).setCell ⟨U, 4, none⟩ v2).setCell ⟨U, 5, none⟩ v3).setCell ⟨U, 6, none⟩ v4).setCell ⟨U, 7, none⟩ v5).setCell ⟨U, 8, none⟩ v6).frozen? ⟨U, i, none⟩ = false) ∧
    (∀ i, (((((((((w).setCell ⟨U, 2, none⟩ v0).setCell ⟨U, 3, none⟩ v1).setCell ⟨U, 4, none⟩ v2).setCell ⟨U, 5, none⟩ v3).setCell ⟨U, 6, none⟩ v4).setCell ⟨U, 7, none⟩ v5).setCell ⟨U, 8, none⟩ v6).setCell ⟨U, 9, none⟩ v7).cell? ⟨U, i, none⟩ = (#[a0, a1, v0, v1, v2, v3, v4, v5, v6, v7, a10, a11, a12] : Array Value)[i]?) ∧
    (∀ i, (((((((((w).setCell ⟨U, 2, none⟩ v0).setCell ⟨U, 3, none⟩ v1).setCell ⟨U, 4, none⟩ v2).setCell ⟨U, 5, none⟩ v3).setCell ⟨U, 6, none⟩ v4).setCell ⟨U, 7, none⟩ v5).setCell ⟨U, 8, none⟩ v6).setCell ⟨U, 9, none⟩ v7).frozen? ⟨U, i, none⟩ = false) ∧
    (∀ i, ((((((((((w).setCell ⟨U, 2, none⟩ v0).setCell ⟨U, 3, none⟩ v1).setCell ⟨U, 4, none⟩ v2).setCell ⟨U, 5, none⟩ v3).setCell ⟨U, 6, none⟩ v4).setCell ⟨U, 7, none⟩ v5).setCell ⟨U, 8, none⟩ v6).setCell ⟨U, 9, none⟩ v7).setCell ⟨U, 10, none⟩ v8).cell? ⟨U, i, none⟩ = (#[a0, a1, v0, v1, v2, v3, v4, v5, v6, v7, v8, a11, a12] : Array Value)[i]?) ∧
    (∀ i, ((((((((((w).setCell ⟨U, 2, none⟩ v0).setCell ⟨U, 3, none⟩ v1).setCell ⟨U, 4, none⟩ v2).setCell ⟨U, 5, none⟩ v3).setCell ⟨U, 6, none⟩ v4).setCell ⟨U, 7, none⟩ v5).setCell ⟨U, 8, none⟩ v6).setCell ⟨U, 9, none⟩ v7).setCell ⟨U, 10, none⟩ v8).frozen? ⟨U, i, none⟩ = false) ∧
    (∀ i, (((((((((((w).setCell ⟨U, 2, none⟩ v0).setCell ⟨U, 3, none⟩ v1).setCell ⟨U, 4, none⟩ v2).setCell ⟨U, 5, none⟩ v3).setCell ⟨U, 6, none⟩ v4).setCell ⟨U, 7, none⟩ v5).setCell ⟨U, 8, none⟩ v6).setCell ⟨U, 9, none⟩ v7).setCell ⟨U, 10, none⟩ v8).setCell ⟨U, 11, none⟩ v9).cell? ⟨U, i, none⟩ = (#[a0, a1, v0, v1, v2, v3, v4, v5, v6, v7, v8, v9, a12] : Array Value)[i]?) ∧
    Blk (((((((((((w).setCell ⟨U, 2, none⟩ v0).setCell ⟨U, 3, none⟩ v1).setCell ⟨U, 4, none⟩ v2).setCell ⟨U, 5, none⟩ v3).setCell ⟨U, 6, none⟩ v4).setCell ⟨U, 7, none⟩ v5).setCell ⟨U, 8, none⟩ v6).setCell ⟨U, 9, none⟩ v7).setCell ⟨U, 10, none⟩ v8).setCell ⟨U, 11, none⟩ v9) U T #[a0, a1, v0, v1, v2, v3, v4, v5, v6, v7, v8, v9, a12] ∧
    putL w U 2 [v0, v1, v2, v3, v4, v5, v6, v7, v8, v9] = ((((((((((w).setCell ⟨U, 2, none⟩ v0).setCell ⟨U, 3, none⟩ v1).setCell ⟨U, 4, none⟩ v2).setCell ⟨U, 5, none⟩ v3).setCell ⟨U, 6, none⟩ v4).setCell ⟨U, 7, none⟩ v5).setCell ⟨U, 8, none⟩ v6).setCell ⟨U, 9, none⟩ v7).setCell ⟨U, 10, none⟩ v8).setCell ⟨U, 11, none⟩ v9 := by
  have b0 := h
  have b1 : Blk ((w).setCell ⟨U, 2, none⟩ v0) U T #[a0, a1, v0, a3, a4, a5, a6, a7, a8, a9, a10, a11, a12] := b0.set_ 2 v0
  have b2 : Blk (((w).setCell ⟨U, 2, none⟩ v0).setCell ⟨U, 3, none⟩ v1) U T #[a0, a1, v0, v1, a4, a5, a6, a7, a8, a9, a10, a11, a12] := b1.set_ 3 v1
  have b3 : Blk ((((w).setCell ⟨U, 2, none⟩ v0).setCell ⟨U, 3, none⟩ v1).setCell ⟨U, 4, none⟩ v2) U T #[a0, a1, v0, v1, v2, a5, a6, a7, a8, a9, a10, a11, a12] := b2.set_ 4 v2
  have b4 : Blk (((((w).setCell ⟨U, 2, none⟩ v0).setCell ⟨U, 3, none⟩ v1).setCell ⟨U, 4, none⟩ v2).setCell ⟨U, 5, none⟩ v3) U T #[a0, a1, v0, v1, v2, v3, a6, a7, a8, a9, a10, a11, a12] := b3.set_ 5 v3
  have b5 : Blk ((((((w).setCell ⟨U, 2, none⟩ v0).setCell ⟨U, 3, none⟩ v1).setCell ⟨U, 4, none⟩ v2).setCell ⟨U, 5, none⟩ v3).setCell ⟨U, 6, none⟩ v4) U T #[a0, a1, v0, v1, v2, v3, v4, a7, a8, a9, a10, a11, a12] := b4.set_ 6 v4
  have b6 : Blk (((((((w).setCell ⟨U, 2, none⟩ v0).setCell ⟨U, 3, none⟩ v1).setCell ⟨U, 4, none⟩ v2).setCell ⟨U, 5, none⟩ v3).setCell ⟨U, 6, none⟩ v4).setCell ⟨U, 7, none⟩ v5) U T #[a0, a1, v0, v1, v2, v3, v4, v5, a8, a9, a10, a11, a12] := b5.set_ 7 v5
  have b7 : Blk ((((((((w).setCell ⟨U, 2, none⟩ v0).setCell ⟨U, 3, none⟩ v1).setCell ⟨U, 4, none⟩ v2).setCell ⟨U, 5, none⟩ v3).setCell ⟨U, 6, none⟩ v4).setCell ⟨U, 7, none⟩ v5).setCell ⟨U, 8, none⟩ v6) U T #[a0, a1, v0, v1, v2, v3, v4, v5, v6, a9, a10, a11, a12] := b6.set_ 8 v6
  have b8 : Blk (((((((((w).setCell ⟨U, 2, none⟩ v0).setCell ⟨U, 3, none⟩ v1).setCell ⟨U, 4, none⟩ v2).setCell ⟨U, 5, none⟩ v3).setCell ⟨U, 6, none⟩ v4).setCell ⟨U, 7, none⟩ v5).setCell ⟨U, 8, none⟩ v6).setCell ⟨U, 9, none⟩ v7) U T #[a0, a1, v0, v1, v2, v3, v4, v5, v6, v7, a10, a11, a12] := b7.set_ 9 v7
  have b9 : Blk ((((((((((w).setCell ⟨U, 2, none⟩ v0).setCell ⟨U, 3, none⟩ v1).setCell ⟨U, 4, none⟩ v2).setCell ⟨U, 5, none⟩ v3).setCell ⟨U, 6, none⟩ v4).setCell ⟨U, 7, none⟩ v5).setCell ⟨U, 8, none⟩ v6).setCell ⟨U, 9, none⟩ v7).setCell ⟨U, 10, none⟩ v8) U T #[a0, a1, v0, v1, v2, v3, v4, v5, v6, v7, v8, a11, a12] := b8.set_ 10 v8
  have b10 : Blk (((((((((((w).setCell ⟨U, 2, none⟩ v0).setCell ⟨U, 3, none⟩ v1).setCell ⟨U, 4, none⟩ v2).setCell ⟨U, 5, none⟩ v3).setCell ⟨U, 6, none⟩ v4).setCell ⟨U, 7, none⟩ v5).setCell ⟨U, 8, none⟩ v6).setCell ⟨U, 9, none⟩ v7).setCell ⟨U, 10, none⟩ v8).setCell ⟨U, 11, none⟩ v9) U T #[a0, a1, v0, v1, v2, v3, v4, v5, v6, v7, v8, v9, a12] := b9.set_ 11 v9
  exact ⟨b0.cell, b0.free, b1.cell, b1.free, b2.cell, b2.free, b3.cell, b3.free, b4.cell, b4.free, b5.cell, b5.free, b6.cell, b6.free, b7.cell, b7.free, b8.cell, b8.free, b9.cell, b9.free, b10.cell, b10, rfl⟩
end Go.Proofs.YtponkkljlbifmaaGreat

/-
  Plain: what the laws on bounds say of the two regions. No program here.
-/
namespace Go.Proofs.YtponkkljlbifmaaGreat
open Go.RowKit
set_option maxRecDepth 100000
open Rg Pd

def plainN (op : Int) : Nd := ⟨op, 0, zeroOd, zeroOd⟩
section
variable {cols : List Int} {p : Pd} (hw : wfP p) (h0 : bdE cols p = 0)
include hw h0
omit hw in
end
end Go.Proofs.YtponkkljlbifmaaGreat
