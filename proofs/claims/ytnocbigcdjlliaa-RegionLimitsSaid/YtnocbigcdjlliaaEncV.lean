/-
  The program's region function encodeValue.
-/
import Derived.Test.YtnocbigcdjlliaaRgSmall
import Derived.Lib.SlBytesRow
import Derived.Lib.AppendStr
namespace Go.Proofs.Ytnocbigcdjlliaa
open Go.RowKit
open Rg

theorem info_u8 : (Try.prog.info? 5).map (fun i => (i.zero, i.size, i.bytes)) = some (some (.int .u8 0), 1, 1) := by kernel_rfl
def u8v (b : Int) : List Value := [.int .u8 b]
theorem u8v_len (b : Int) : (u8v b).length = 1 := rfl
theorem one_u8v (b : Int) : ∀ u ∈ u8v b, u.oneCell' = true := by simp [u8v, Value.oneCell']
/-- the bytes of a value's number, from the k-th on -/
def numB (i : Int) (k : Nat) : Int := IntKind.u64.wrap i / 2 ^ (8 * k) % 256
def numBs (i : Int) : Nat → List Int
  | 0 => []
  | k + 1 => numBs i k ++ [numB i k]
def txB (t : ByteArray) : List Int := t.toList.map (fun b => (b.toNat : Int))
def encV (v : Vl) : List Int := [v.k] ++ numBs v.i 8 ++ [(v.t.size : Int)] ++ txB v.t
/-- a row of bytes of the call's own -/
def OwnB (w : World) (base : Nat) (A : Option Addr) (m c : Nat) (bs : List Int) : Prop := w.ownsRow base 5 1 (.slice A m c) m (bs.flatMap u8v) ∧ bs.length = m

theorem own_slice {w : World} {base n : Nat} {e : TypeId} {sz : Nat} {v : Value} {xs : List Value} (h : w.ownsRow base e sz v n xs) : ∃ A c, v = .slice A n c := by
  rcases h.2 with ⟨rfl, rfl⟩ | ⟨g, cap, cur, rfl, _⟩
  · exact ⟨none, 0, rfl⟩
  · exact ⟨_, _, rfl⟩
theorem txB_cells (t : ByteArray) : (txB t).flatMap u8v = Lib.strCells t := by
  unfold txB Lib.strCells
  rw [ByteArray.toList_eq, List.flatMap_map]
  simp only [u8v]
  exact (List.map_eq_flatMap ..).symm
theorem ne_after {h g H : Nat} {v : Value} (hne : some h ≠ v.ownBlock) (hat : v.ownBlock = some g ∨ g = H + 1) (hH : h < H) {m c : Nat} : Hid (some h ≠ (Value.slice (some ⟨g, 0, none⟩) m c).ownBlock) := by
  show _ ≠ _
  rcases hat with e | e
  · rw [e] at hne; exact hne
  · simp only [Value.ownBlock, ne_eq, Option.some.injEq]; omega

/-- only rows of bytes have changed -/
structure TB (w w' : World) : Prop where
  size : w.heap.size ≤ w'.heap.size
  block : ∀ k, k < w.heap.size → (∀ cs fz, w.heap[k]? ≠ some (.cells cs 5 fz)) → w'.heap[k]? = w.heap[k]?
theorem TB.refl (w : World) : TB w w := ⟨Nat.le_refl _, fun _ _ _ => rfl⟩
theorem TB.trans {a b c : World} (h : TB a b) (k : TB b c) : TB a c :=
  ⟨Nat.le_trans h.size k.size, fun i hi hn => by
    have e := h.block i hi hn
    rw [← e]
    exact k.block i (Nat.lt_of_lt_of_le hi h.size) (fun cs fz => by rw [e]; exact hn cs fz)⟩
theorem TB.of_below {a b : World} (h : Below a.heap.size a b) : TB a b := ⟨h.size, fun k hk _ => h.block k hk⟩
theorem TB.alloc {a b : World} (h : TB a b) (o : Obj) : TB a (b.alloc o) := h.trans (TB.of_below ((Below.refl _ _).alloc (Nat.le_refl _) _))
theorem TB.grown {a b c : World} (h : TB a b) {base n : Nat} {v : Value} {xs : List Value} (ho : b.ownsRow base 5 1 v n xs) (hg : b.grownBy c v.ownBlock) : TB a c :=
  h.trans ⟨hg.size, fun k hk hn => hg.block k hk (fun e => by
    rcases ho.2 with ⟨rfl, _⟩ | ⟨g, cap, cur, rfl, _, hh, _⟩
    · simp [Value.ownBlock] at e
    · simp only [Value.ownBlock, Option.some.injEq] at e
      subst e
      exact hn _ _ hh)⟩
theorem Blk.tb {w w' : World} {b : Nat} {T : TypeId} {cs : Array Value} (h : Blk w b T cs) (hT : T ≠ 5) (hb : TB w w') : Blk w' b T cs :=
  (hb.block b h.lt (fun cs' fz e => by unfold Blk at h; rw [h] at e; injection e with e; injection e with _ e; exact hT e)).trans h

set_option maxRecDepth 100000 in
set_option maxHeartbeats 4000000 in
theorem encV_any (base : Nat) (A : Option Addr) (m c : Nat) (bs : List Int) (v : Vl) (w : World) (ho : OwnB w base A m c bs) (hb : base ≤ w.heap.size) (hm : m ≤ 100000000) (hk : 0 ≤ v.k ∧ v.k ≤ 255) (ht : v.t.size ≤ 64) :
    Calls Try.prog 40 #[.slice A m c, .agg #[.int .i64 v.k, .int .i64 v.i, .string v.t]] w fun e w' => ∃ (A' : Option Addr) (c' : Nat), e = .returned (.slice A' (bs ++ encV v).length c') ∧ OwnB w' base A' (bs ++ encV v).length c' (bs ++ encV v) ∧ Below base w w' ∧ TB w w' := by
  obtain ⟨vk, vi, vt⟩ := v
  obtain ⟨i0, hi, hz0, hz1, hz2⟩ := info_parts info_u8
  dsimp only at hk ht
  generalize hes : bs ++ encV ⟨vk, vi, vt⟩ = es
  have HES := Lib.hid hes
  clear hes
  have hown := ho.1
  have Hl := Lib.hid ho.2
  clear ho
  go_enter Try.func40, Try.ntmps40
  go_wp2_with (first
    | (at_builtin; refine wpList_append_one (by rfl) (.tmp 6) (.tmp 10) _ (by rfl) base 5 i0 _ 1 1 Try.underlying78 hi hz0 hz1 hz2 (by rfl) (by omega) (.slice A m c) m _ (by rfl) _ _ (hown.alloc _) (w.heap.size + 1) (by simp) (by rfl) (by rfl) (one_u8v _) (by simp only [maxLen]; omega) (by omega) (by simp; omega) ?_; intro g cap w4 hown4 hg4 hB4 hat4 hlt4; have HX := Lib.hid (Blk.grown (Blk.new w 39 #[.int .i64 vk, .int .i64 vi, .string vt]) hg4 (own_ne hown))))
  have HB4 : Hid (Below base w w4) := Lib.hid ((Below.alloc (Below.refl base w) hb _).trans hB4)
  have hs4 : w.heap.size < w4.heap.size := HX.out.lt
  go_loopw [0, 5] (fun v i wr => ∃ (k : Nat) (z : Int) (A' : Option Addr) (m' c' : Nat) (cl : List Int), k ≤ 8 ∧ i = .int .i64 z ∧ Hid (z = 8 * (k : Int)) ∧ v = .slice A' m' c' ∧ m' ≤ m + 9 ∧ Hid (m' = m + 1 + k) ∧ Hid (cl = bs ++ [vk] ++ numBs vi k) ∧ wr.ownsRow base 5 1 (.slice A' m' c') m' (cl.flatMap u8v) ∧ Blk wr w.heap.size 39 #[.int .i64 vk, .int .i64 vi, .string vt] ∧ Below base w wr ∧ Hid (some w.heap.size ≠ (Value.slice A' m' c').ownBlock) ∧ TB w wr) (fun _ i _ => 64 - (intOf i).toNat)
  case atStart =>
    refine ⟨0, 0, _, m + 1, cap, bs ++ [vk], by omega, rfl, rfl, rfl, by omega, rfl, (by show _ = _; simp [numBs]), ?_, HX.out, HB4.out, ?_, (TB.of_below ((Below.refl _ _).alloc (Nat.le_refl _) _)).grown (hown.alloc _) hg4⟩
    · simpa [u8v] using hown4
    · show _ ≠ _
      have h1 := own_ne hown
      rcases hat4 with h | h
      · rw [h] at h1; exact h1
      · simp only [Value.ownBlock, ne_eq, Option.some.injEq]; omega
  case round =>
    obtain ⟨k, z, A', m', c', cl, hk8, rfl, Hz, rfl, hmb, Hm', Hcl, hown', hx, hbr, Hne, htb⟩ := hrel
    have hxc := hx.cell
    have hsr := hx.lt
    have h8 : k = 8 ∨ k = 0 ∨ k = 1 ∨ k = 2 ∨ k = 3 ∨ k = 4 ∨ k = 5 ∨ k = 6 ∨ k = 7 := by omega
    rcases h8 with rfl | rfl | rfl | rfl | rfl | rfl | rfl | rfl | rfl
    · obtain rfl : z = 64 := by have := Hz.out; omega
      have hnb : base ≤ wr.heap.size := by omega
      go_wp2_with (first
        | (at_builtin; refine wpList_append_one (by rfl) (.tmp 25) (.tmp 30) _ (by rfl) base 5 i0 _ 1 1 Try.underlying78 hi hz0 hz1 hz2 (by rfl) (by omega) (.slice A' m' c') m' _ (by rfl) _ _ hown' wr.heap.size (by rfl) (by rfl) (by rfl) (one_u8v _) (by simp only [maxLen]; omega) (by omega) (by omega) ?_; intro g2 cap2 w5 hown5 hg5 hB5 hat5 hlt5; have hx5 := (Blk.grown hx hg5 Hne.out); have hx5c := hx5.cell; have hs5 := hB5.size)
        | (at_builtin; refine Lib.wpList_append_own_string w5 (by rfl) (.tmp 32) (.tmp 34) _ _ (by rfl) base 5 i0 Try.underlying78 Try.underlying9 hi hz0 hz1 hz2 _ _ _ (by rfl) hown5 vt (by rfl) (by simp only [maxLen]; omega) (by omega) (by omega) ?_; intro v6 w6 hown6 hg6 hnl6))
      obtain ⟨A6, c6, rfl⟩ := own_slice hown6
      have hlen : es.length = m' + 1 + vt.size := by
        rw [← HES.out]
        have h1 := Hm'.out
        have h2 := Hl.out
        have h3 : (txB vt).length = vt.size := by simp [txB, ByteArray.toList_eq]
        simp only [encV, List.length_append, List.length_cons, List.length_nil, h3, numBs]
        omega
      have HE : Hid (es = cl ++ [(vt.size : Int)] ++ txB vt) := by
        show _ = _
        rw [Hcl.out, ← HES.out]
        simp [encV]
      go_ret
      rw [hlen]
      refine ⟨A6, c6, rfl, ⟨?_, hlen⟩, ?_, (htb.grown hown' hg5).grown hown5 hg6⟩
      · rw [HE.out]
        simpa [u8v, txB_cells, List.flatMap_append] using hown6
      · exact ((hbr.trans hB5).grown hg6 (by omega) (own_base hown5))
    · obtain rfl : z = 0 := by have := Hz.out; omega
      go_wp2_with (first
        | (at_builtin; refine wpList_append_one (by rfl) (.tmp 16) (.tmp 23) _ (by rfl) base 5 i0 _ 1 1 Try.underlying78 hi hz0 hz1 hz2 (by rfl) (by omega) (.slice A' m' c') m' _ (by rfl) _ _ hown' wr.heap.size (by rfl) (by rfl) (by rfl) (one_u8v _) (by simp only [maxLen]; omega) (by omega) (by omega) ?_; intro g2 cap2 w5 hown5 hg5 hB5 hat5 hlt5))
      go_roundw
      case rel =>
        refine ⟨1, _, _, m' + 1, cap2, cl ++ [numB vi 0], by omega, rfl, rfl, rfl, (by have := Hm'.out; omega), (by show _ = _; have := Hm'.out; omega), (by show _ = _; rw [Hcl.out, List.append_assoc]; rfl), ?_, Blk.grown hx hg5 Hne.out, hbr.trans hB5, ne_after Hne.out hat5 (by omega), htb.grown hown' hg5⟩
        simpa [u8v, numB] using hown5
      case measure => simp [intOf]
    · obtain rfl : z = 8 := by have := Hz.out; omega
      go_wp2_with (first
        | (at_builtin; refine wpList_append_one (by rfl) (.tmp 16) (.tmp 23) _ (by rfl) base 5 i0 _ 1 1 Try.underlying78 hi hz0 hz1 hz2 (by rfl) (by omega) (.slice A' m' c') m' _ (by rfl) _ _ hown' wr.heap.size (by rfl) (by rfl) (by rfl) (one_u8v _) (by simp only [maxLen]; omega) (by omega) (by omega) ?_; intro g2 cap2 w5 hown5 hg5 hB5 hat5 hlt5))
      go_roundw
      case rel =>
        refine ⟨2, _, _, m' + 1, cap2, cl ++ [numB vi 1], by omega, rfl, rfl, rfl, (by have := Hm'.out; omega), (by show _ = _; have := Hm'.out; omega), (by show _ = _; rw [Hcl.out, List.append_assoc]; rfl), ?_, Blk.grown hx hg5 Hne.out, hbr.trans hB5, ne_after Hne.out hat5 (by omega), htb.grown hown' hg5⟩
        simpa [u8v, numB] using hown5
      case measure => simp [intOf]
    · obtain rfl : z = 16 := by have := Hz.out; omega
      go_wp2_with (first
        | (at_builtin; refine wpList_append_one (by rfl) (.tmp 16) (.tmp 23) _ (by rfl) base 5 i0 _ 1 1 Try.underlying78 hi hz0 hz1 hz2 (by rfl) (by omega) (.slice A' m' c') m' _ (by rfl) _ _ hown' wr.heap.size (by rfl) (by rfl) (by rfl) (one_u8v _) (by simp only [maxLen]; omega) (by omega) (by omega) ?_; intro g2 cap2 w5 hown5 hg5 hB5 hat5 hlt5))
      go_roundw
      case rel =>
        refine ⟨3, _, _, m' + 1, cap2, cl ++ [numB vi 2], by omega, rfl, rfl, rfl, (by have := Hm'.out; omega), (by show _ = _; have := Hm'.out; omega), (by show _ = _; rw [Hcl.out, List.append_assoc]; rfl), ?_, Blk.grown hx hg5 Hne.out, hbr.trans hB5, ne_after Hne.out hat5 (by omega), htb.grown hown' hg5⟩
        simpa [u8v, numB] using hown5
      case measure => simp [intOf]
    · obtain rfl : z = 24 := by have := Hz.out; omega
      go_wp2_with (first
        | (at_builtin; refine wpList_append_one (by rfl) (.tmp 16) (.tmp 23) _ (by rfl) base 5 i0 _ 1 1 Try.underlying78 hi hz0 hz1 hz2 (by rfl) (by omega) (.slice A' m' c') m' _ (by rfl) _ _ hown' wr.heap.size (by rfl) (by rfl) (by rfl) (one_u8v _) (by simp only [maxLen]; omega) (by omega) (by omega) ?_; intro g2 cap2 w5 hown5 hg5 hB5 hat5 hlt5))
      go_roundw
      case rel =>
        refine ⟨4, _, _, m' + 1, cap2, cl ++ [numB vi 3], by omega, rfl, rfl, rfl, (by have := Hm'.out; omega), (by show _ = _; have := Hm'.out; omega), (by show _ = _; rw [Hcl.out, List.append_assoc]; rfl), ?_, Blk.grown hx hg5 Hne.out, hbr.trans hB5, ne_after Hne.out hat5 (by omega), htb.grown hown' hg5⟩
        simpa [u8v, numB] using hown5
      case measure => simp [intOf]
    · obtain rfl : z = 32 := by have := Hz.out; omega
      go_wp2_with (first
        | (at_builtin; refine wpList_append_one (by rfl) (.tmp 16) (.tmp 23) _ (by rfl) base 5 i0 _ 1 1 Try.underlying78 hi hz0 hz1 hz2 (by rfl) (by omega) (.slice A' m' c') m' _ (by rfl) _ _ hown' wr.heap.size (by rfl) (by rfl) (by rfl) (one_u8v _) (by simp only [maxLen]; omega) (by omega) (by omega) ?_; intro g2 cap2 w5 hown5 hg5 hB5 hat5 hlt5))
      go_roundw
      case rel =>
        refine ⟨5, _, _, m' + 1, cap2, cl ++ [numB vi 4], by omega, rfl, rfl, rfl, (by have := Hm'.out; omega), (by show _ = _; have := Hm'.out; omega), (by show _ = _; rw [Hcl.out, List.append_assoc]; rfl), ?_, Blk.grown hx hg5 Hne.out, hbr.trans hB5, ne_after Hne.out hat5 (by omega), htb.grown hown' hg5⟩
        simpa [u8v, numB] using hown5
      case measure => simp [intOf]
    · obtain rfl : z = 40 := by have := Hz.out; omega
      go_wp2_with (first
        | (at_builtin; refine wpList_append_one (by rfl) (.tmp 16) (.tmp 23) _ (by rfl) base 5 i0 _ 1 1 Try.underlying78 hi hz0 hz1 hz2 (by rfl) (by omega) (.slice A' m' c') m' _ (by rfl) _ _ hown' wr.heap.size (by rfl) (by rfl) (by rfl) (one_u8v _) (by simp only [maxLen]; omega) (by omega) (by omega) ?_; intro g2 cap2 w5 hown5 hg5 hB5 hat5 hlt5))
      go_roundw
      case rel =>
        refine ⟨6, _, _, m' + 1, cap2, cl ++ [numB vi 5], by omega, rfl, rfl, rfl, (by have := Hm'.out; omega), (by show _ = _; have := Hm'.out; omega), (by show _ = _; rw [Hcl.out, List.append_assoc]; rfl), ?_, Blk.grown hx hg5 Hne.out, hbr.trans hB5, ne_after Hne.out hat5 (by omega), htb.grown hown' hg5⟩
        simpa [u8v, numB] using hown5
      case measure => simp [intOf]
    · obtain rfl : z = 48 := by have := Hz.out; omega
      go_wp2_with (first
        | (at_builtin; refine wpList_append_one (by rfl) (.tmp 16) (.tmp 23) _ (by rfl) base 5 i0 _ 1 1 Try.underlying78 hi hz0 hz1 hz2 (by rfl) (by omega) (.slice A' m' c') m' _ (by rfl) _ _ hown' wr.heap.size (by rfl) (by rfl) (by rfl) (one_u8v _) (by simp only [maxLen]; omega) (by omega) (by omega) ?_; intro g2 cap2 w5 hown5 hg5 hB5 hat5 hlt5))
      go_roundw
      case rel =>
        refine ⟨7, _, _, m' + 1, cap2, cl ++ [numB vi 6], by omega, rfl, rfl, rfl, (by have := Hm'.out; omega), (by show _ = _; have := Hm'.out; omega), (by show _ = _; rw [Hcl.out, List.append_assoc]; rfl), ?_, Blk.grown hx hg5 Hne.out, hbr.trans hB5, ne_after Hne.out hat5 (by omega), htb.grown hown' hg5⟩
        simpa [u8v, numB] using hown5
      case measure => simp [intOf]
    · obtain rfl : z = 56 := by have := Hz.out; omega
      go_wp2_with (first
        | (at_builtin; refine wpList_append_one (by rfl) (.tmp 16) (.tmp 23) _ (by rfl) base 5 i0 _ 1 1 Try.underlying78 hi hz0 hz1 hz2 (by rfl) (by omega) (.slice A' m' c') m' _ (by rfl) _ _ hown' wr.heap.size (by rfl) (by rfl) (by rfl) (one_u8v _) (by simp only [maxLen]; omega) (by omega) (by omega) ?_; intro g2 cap2 w5 hown5 hg5 hB5 hat5 hlt5))
      go_roundw
      case rel =>
        refine ⟨8, _, _, m' + 1, cap2, cl ++ [numB vi 7], by omega, rfl, rfl, rfl, (by have := Hm'.out; omega), (by show _ = _; have := Hm'.out; omega), (by show _ = _; rw [Hcl.out, List.append_assoc]; rfl), ?_, Blk.grown hx hg5 Hne.out, hbr.trans hB5, ne_after Hne.out hat5 (by omega), htb.grown hown' hg5⟩
        simpa [u8v, numB] using hown5
      case measure => simp [intOf]
end Go.Proofs.Ytnocbigcdjlliaa
