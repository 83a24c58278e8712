/-
  Texts: RgSmall, EvP, EncV.
-/
import Derived.Test.YtmnmckblmoalkaaGreatB11
import Derived.Lib.SlBytesRow
import Derived.Lib.AppendStr
set_option linter.unusedVariables false
/-
  The program's small region functions: truth.of, restOf.
-/
namespace Go.Proofs.YtmnmckblmoalkaaGreat
open Go.RowKit
set_option maxRecDepth 100000
open Rg

/-- a Boolean operation by its values for both, a alone and b alone -/
def ofT (tb tl tr : Bool) (a b : Bool) : Bool := if a && b then tb else if a then tl else if b then tr else false
theorem of_any (tb tl tr a b : Bool) (w : World) : Calls Tryz.prog 137 #[.agg #[.bool tb, .bool tl, .bool tr], .bool a, .bool b] w fun e w' => e = .returned (.bool (ofT tb tl tr a b)) ∧ Below w.heap.size w w' := by
  cases a <;> cases b <;>
  · go_enter Tryz.func137, Tryz.ntmps137
    go_wp2
    go_ret
    exact ⟨rfl, (Below.refl _ _).alloc (Nat.le_refl _) _⟩
/-- the rest behind a part, or none -/
def restR (r : Rg) (i : Int) : Rg := if i < 0 then .nil (r.w - 1) false else match r.parts[i.toNat]? with | some p => p.2 | none => zeroR
/-- what a function that makes a region returns -/
def RgOne (w : World) (r : Rg) (e : Ending) (w' : World) : Prop :=
  ∃ (x : Int) (f : Bool) (A : Option Addr) (n c : Nat), e = .returned (.agg #[.int .i64 x, .bool f, .slice A n c]) ∧ RgS w' x f A n c r ∧ Below w.heap.size w w'
theorem restOf_any (r : Rg) (x : Int) (f : Bool) (A : Option Addr) (n c : Nat) (i : Int) (w : World) (hR : RgS w x f A n c r) (hi : i < (n : Int)) (hi2 : -1 ≤ i) (hx : 0 ≤ x ∧ x ≤ 12) :
    Calls Tryz.prog 182 #[.agg #[.int .i64 x, .bool f, .slice A n c], .int .i64 i] w fun e w' => RgOne w (restR r i) e w' := by
  have hxr := hR.hw
  have HB : Hid (Below w.heap.size w ((w.alloc (.cells #[.int .i64 x, .bool f, .slice A n c] 27)).alloc (.cells #[.int .i64 0, .bool false, .slice none 0 0] 27))) := Lib.hid (((Below.refl _ _).alloc (Nat.le_refl _) _).alloc (by simp) _)
  rcases Int.lt_or_le i 0 with h0 | h0
  · have g1 : decide (i < 0) = true := by simp; omega
    have hr : restR r i = .nil (x - 1) false := by simp [restR, h0, hxr]
    rw [hr]
    clear hr hR hxr
    go_enter Tryz.func182, Tryz.ntmps182
    go_wp2
    refine bodyPost_ret (v := .agg #[.int .i64 (x - 1), .bool false, .slice none 0 0]) (by simp [results, Tryz.results182, go_sem]) rfl ⟨x - 1, false, none, 0, 0, rfl, RgS.nil _ _, ?_⟩
    repeat (first | exact HB.out | exact Below.refl _ _ | refine Below.setCell ?_ (by simp) _ | refine Below.alloc ?_ (by simp) _)
  · obtain ⟨k, rfl⟩ := Int.eq_ofNat_of_zero_le h0
    have g1 : decide ((k : Int) < 0) = false := by simp
    have hr : ∀ p, r.parts[k]? = some p → restR r (k : Int) = p.2 := fun p hp => by
      unfold restR
      rw [if_neg (by omega), Int.toNat_natCast, hp]
    obtain ⟨b, o, p, A1, n1, c1, px, pf, A2, n2, c2, rfl, hp, hpt0, hpt⟩ := hR.at2 (keeps_of HB.out) (show k < n by omega)
    rw [hr p hp]
    have HR1 := Lib.hid hpt0.rg
    clear hpt0
    obtain ⟨_, d1, d2, d3, _, _, _⟩ := hpt
    clear hr hR hxr hp
    go_enter Tryz.func182, Tryz.ntmps182
    go_wp2
    refine bodyPost_ret (v := .agg #[.int .i64 px, .bool pf, .slice A2 n2 c2]) (by simp [results, Tryz.results182, go_sem]) rfl ⟨px, pf, A2, n2, c2, rfl, (HR1.out.keep (keeps_alloc _ _)).keep (keeps_alloc _ _), ?_⟩
    exact ((Below.refl _ _).alloc (Nat.le_refl _) _).alloc (by simp) _
/-- an event: where, which side, which part, in or out -/
structure Ev where
  v : Vl
  s : Int
  p : Int
  e : Bool
def Ev.cs (x : Ev) : List Value := [.int .i64 x.v.k, .int .i64 x.v.i, .string x.v.t, .int .i64 x.s, .int .i64 x.p, .bool x.e]
theorem Ev.cs_len (x : Ev) : (Ev.cs x).length = 6 := rfl
theorem one_ev (x : Ev) : ∀ u ∈ Ev.cs x, u.oneCell' = true := by simp [Ev.cs, Value.oneCell']
/-- the order of events: by value, those that leave first -/
def cmpE (a b : Ev) : Int := if cmpV a.v b.v ≠ 0 then cmpV a.v b.v else if a.e = b.e then 0 else if b.e then -1 else 1
set_option maxHeartbeats 1000000 in
theorem cmpE_any (a b : Ev) (w : World) : Calls Tryz.prog 185 #[.agg #[.int .i64 a.v.k, .int .i64 a.v.i, .string a.v.t, .int .i64 a.s, .int .i64 a.p, .bool a.e], .agg #[.int .i64 b.v.k, .int .i64 b.v.i, .string b.v.t, .int .i64 b.s, .int .i64 b.p, .bool b.e]] w fun e w' => e = .returned (.int .i64 (cmpE a b)) ∧ Lay w w' := by
  obtain ⟨⟨ak, ai, at'⟩, a1, a2, a3⟩ := a
  obtain ⟨⟨bk, bi, bt⟩, bs, bp, be⟩ := b
  generalize hr : cmpE ⟨⟨ak, ai, at'⟩, a1, a2, a3⟩ ⟨⟨bk, bi, bt⟩, bs, bp, be⟩ = r
  obtain ⟨c, Hc⟩ : ∃ t, Hid (cmpV ⟨ak, ai, at'⟩ ⟨bk, bi, bt⟩ = t) := ⟨_, rfl⟩
  have Hr : Hid ((if c ≠ 0 then c else if a3 = be then 0 else if be then -1 else 1) = r) := by
    show _ = _
    rw [← hr, ← Hc.out]
    rfl
  clear hr
  have hL0 : Lay w ((w.alloc (.cells #[.int .i64 ak, .int .i64 ai, .string at', .int .i64 a1, .int .i64 a2, .bool a3] 168)).alloc (.cells #[.int .i64 bk, .int .i64 bi, .string bt, .int .i64 bs, .int .i64 bp, .bool be] 168)) := ((Lay.refl w).alloc _).alloc _
  have E1 := Lib.hid ((Blk.new w 168 #[.int .i64 ak, .int .i64 ai, .string at', .int .i64 a1, .int .i64 a2, .bool a3]).alloc (.cells #[.int .i64 bk, .int .i64 bi, .string bt, .int .i64 bs, .int .i64 bp, .bool be] 168))
  have E2 : Hid (Blk ((w.alloc (.cells #[.int .i64 ak, .int .i64 ai, .string at', .int .i64 a1, .int .i64 a2, .bool a3] 168)).alloc (.cells #[.int .i64 bk, .int .i64 bi, .string bt, .int .i64 bs, .int .i64 bp, .bool be] 168)) (w.heap.size + 1) 168 #[.int .i64 bk, .int .i64 bi, .string bt, .int .i64 bs, .int .i64 bp, .bool be]) := by
    have := Blk.new (w.alloc (.cells #[.int .i64 ak, .int .i64 ai, .string at', .int .i64 a1, .int .i64 a2, .bool a3] 168)) 168 #[.int .i64 bk, .int .i64 bi, .string bt, .int .i64 bs, .int .i64 bp, .bool be]
    rw [World.size_alloc] at this
    exact this
  go_enter Tryz.func185, Tryz.ntmps185
  go_wp2_with fail
  refine (compareL_any ⟨ak, ai, at'⟩ ⟨bk, bi, bt⟩ _).mono ?_
  rintro e w1 ⟨rfl, hL⟩
  rw [Hc.out]
  have z1 := (E1.out.below hL.bel).cell
  have z2 := (E2.out.below hL.bel).cell
  have HL := Lib.hid (hL0.trans hL)
  clear hL hL0
  by_cases hc : c = 0
  · have g1 : (c == 0) = true := by simp [hc]
    have HC := Lib.hid hc
    clear hc
    cases a3 <;> cases be <;>
    · go_wp2
      go_ret
      exact ⟨ret_i64 (by rw [← Hr.out, HC.out]; rfl), HL.out⟩
  · have g1 : (c == 0) = false := by simp [hc]
    have HC := Lib.hid hc
    clear hc
    go_wp2
    go_ret
    exact ⟨ret_i64 (by rw [← Hr.out, if_pos HC.out]), HL.out⟩
theorem entE : ∀ args w, (callFunc 185 args).run Tryz.prog w = .ok (.enter 185 args) w := Go.Proofs.enters_of Tryz.func185 (by kernel_rfl) rfl
end Go.Proofs.YtmnmckblmoalkaaGreat

/-
  Plain: the events of two regions. No program here.
-/
namespace Go.Proofs.YtmnmckblmoalkaaGreat
open Go.RowKit
set_option maxRecDepth 100000
open Rg

def EvUp (qs : List Ev) : Prop := qs.Pairwise (fun a b => ¬ cmpE b a < 0)
/-- the events of an interval, of a part, of parts, of two regions -/
def evI (s : Int) (i : Nat) (x : Iv) : List Ev := ⟨x.f, s, (i : Int), true⟩ :: (if x.o then [] else [⟨x.t, s, (i : Int), false⟩])
def evP (s : Int) (i : Nat) (vs : List Iv) : List Ev := vs.flatMap (evI s i)
def evR (s : Int) : Nat → List (List Iv × Rg) → List Ev
  | _, [] => []
  | i, p :: l => evP s i p.1 ++ evR s (i + 1) l
def evs (a b : Rg) : List Ev := evR 0 0 a.parts ++ evR 1 0 b.parts
theorem evP_snoc (s : Int) (i : Nat) (l : List Iv) (x : Iv) : evP s i (l ++ [x]) = evP s i l ++ evI s i x := by simp [evP]
theorem evR_append (s : Int) : ∀ (i : Nat) (l m : List (List Iv × Rg)), evR s i (l ++ m) = evR s i l ++ evR s (i + l.length) m
  | i, [], m => by simp [evR]
  | i, p :: l, m => by
    rw [List.cons_append, evR, evR, evR_append s (i + 1) l m, List.append_assoc, List.length_cons, show i + 1 + l.length = i + (l.length + 1) by omega]
theorem evR_snoc (s : Int) (l : List (List Iv × Rg)) (p : List Iv × Rg) : evR s 0 (l ++ [p]) = evR s 0 l ++ evP s l.length p.1 := by
  rw [evR_append]
  simp [evR]
/-- what events leaves: the events, ascending -/
def EvSorted (a b : Rg) (qs : List Ev) : Prop := qs.Perm (evs a b) ∧ EvUp qs

end Go.Proofs.YtmnmckblmoalkaaGreat

/-
  The program's region function encodeValue.
-/
namespace Go.Proofs.YtmnmckblmoalkaaGreat
open Go.RowKit
set_option maxRecDepth 100000
open Rg

theorem info_u8e : (Tryz.prog.info? 5).map (fun i => (i.zero, i.size, i.bytes)) = some (some (.int .u8 0), 1, 1) := by kernel_rfl
def u8v (b : Int) : List Value := [.int .u8 b]
theorem u8v_len (b : Int) : (u8v b).length = 1 := rfl
theorem one_u8v (b : Int) : ∀ u ∈ u8v b, u.oneCell' = true := by simp [u8v, Value.oneCell']
/-- the bytes of a value's number, from the k-th on -/
def numB (i : Int) (k : Nat) : Int := IntKind.u64.wrap i / 2 ^ (8 * k) % 256
def numBs (i : Int) : Nat → List Int
  | 0 => []
  | k + 1 => numBs i k ++ [numB i k]
def txB (t : ByteArray) : List Int := t.toList.map (fun b => (b.toNat : Int))
def encV (v : Vl) : List Int := [v.k] ++ numBs v.i 8 ++ [(v.t.size : Int)] ++ txB v.t
/-- a row of bytes of the call's own -/
def OwnB (w : World) (base : Nat) (A : Option Addr) (m c : Nat) (bs : List Int) : Prop := w.ownsRow base 5 1 (.slice A m c) m (bs.flatMap u8v) ∧ bs.length = m

theorem own_slice {w : World} {base n : Nat} {e : TypeId} {sz : Nat} {v : Value} {xs : List Value} (h : w.ownsRow base e sz v n xs) : ∃ A c, v = .slice A n c := by
  rcases h.2 with ⟨rfl, rfl⟩ | ⟨g, cap, cur, rfl, _⟩
  · exact ⟨none, 0, rfl⟩
  · exact ⟨_, _, rfl⟩
theorem txB_cells (t : ByteArray) : (txB t).flatMap u8v = Lib.strCells t := by
  unfold txB Lib.strCells
  rw [ByteArray.toList_eq, List.flatMap_map]
  simp only [u8v]
  exact (List.map_eq_flatMap ..).symm
theorem ne_after {h g H : Nat} {v : Value} (hne : some h ≠ v.ownBlock) (hat : v.ownBlock = some g ∨ g = H + 1) (hH : h < H) {m c : Nat} : Hid (some h ≠ (Value.slice (some ⟨g, 0, none⟩) m c).ownBlock) := by
  show _ ≠ _
  rcases hat with e | e
  · rw [e] at hne; exact hne
  · simp only [Value.ownBlock, ne_eq, Option.some.injEq]; omega

/-- only rows of bytes have changed -/
structure TB (w w' : World) : Prop where
  size : w.heap.size ≤ w'.heap.size
  block : ∀ k, k < w.heap.size → (∀ cs fz, w.heap[k]? ≠ some (.cells cs 5 fz)) → w'.heap[k]? = w.heap[k]?
theorem TB.refl (w : World) : TB w w := ⟨Nat.le_refl _, fun _ _ _ => rfl⟩
theorem TB.trans {a b c : World} (h : TB a b) (k : TB b c) : TB a c :=
  ⟨Nat.le_trans h.size k.size, fun i hi hn => by
    have e := h.block i hi hn
    rw [← e]
    exact k.block i (Nat.lt_of_lt_of_le hi h.size) (fun cs fz => by rw [e]; exact hn cs fz)⟩
theorem TB.of_below {a b : World} (h : Below a.heap.size a b) : TB a b := ⟨h.size, fun k hk _ => h.block k hk⟩
theorem TB.alloc {a b : World} (h : TB a b) (o : Obj) : TB a (b.alloc o) := h.trans (TB.of_below ((Below.refl _ _).alloc (Nat.le_refl _) _))
theorem TB.grown {a b c : World} (h : TB a b) {base n : Nat} {v : Value} {xs : List Value} (ho : b.ownsRow base 5 1 v n xs) (hg : b.grownBy c v.ownBlock) : TB a c :=
  h.trans ⟨hg.size, fun k hk hn => hg.block k hk (fun e => by
    rcases ho.2 with ⟨rfl, _⟩ | ⟨g, cap, cur, rfl, _, hh, _⟩
    · simp [Value.ownBlock] at e
    · simp only [Value.ownBlock, Option.some.injEq] at e
      subst e
      exact hn _ _ hh)⟩
theorem Blk.tb {w w' : World} {b : Nat} {T : TypeId} {cs : Array Value} (h : Blk w b T cs) (hT : T ≠ 5) (hb : TB w w') : Blk w' b T cs :=
  (hb.block b h.lt (fun cs' fz e => by unfold Blk at h; rw [h] at e; injection e with e; injection e with _ e; exact hT e)).trans h

set_option maxRecDepth 100000 in
set_option maxHeartbeats 4000000 in
theorem encV_any (base : Nat) (A : Option Addr) (m c : Nat) (bs : List Int) (v : Vl) (w : World) (ho : OwnB w base A m c bs) (hb : base ≤ w.heap.size) (hm : m ≤ 100000000) (hk : 0 ≤ v.k ∧ v.k ≤ 255) (ht : v.t.size ≤ 64) :
    Calls Tryz.prog 191 #[.slice A m c, .agg #[.int .i64 v.k, .int .i64 v.i, .string v.t]] w fun e w' => ∃ (A' : Option Addr) (c' : Nat), e = .returned (.slice A' (bs ++ encV v).length c') ∧ OwnB w' base A' (bs ++ encV v).length c' (bs ++ encV v) ∧ Below base w w' ∧ TB w w' := by
  obtain ⟨vk, vi, vt⟩ := v
  obtain ⟨i0, hi, hz0, hz1, hz2⟩ := info_parts info_u8e
  dsimp only at hk ht
  generalize hes : bs ++ encV ⟨vk, vi, vt⟩ = es
  have HES := Lib.hid hes
  clear hes
  have hown := ho.1
  have Hl := Lib.hid ho.2
  clear ho
  go_enter Tryz.func191, Tryz.ntmps191
  go_wp2_with (first
    | (at_builtin; refine wpList_append_one (by rfl) (.tmp 6) (.tmp 10) _ (by rfl) base 5 i0 _ 1 1 Tryz.underlying22 hi hz0 hz1 hz2 (by rfl) (by omega) (.slice A m c) m _ (by rfl) _ _ (hown.alloc _) (w.heap.size + 1) (by simp) (by rfl) (by rfl) (one_u8v _) (by simp only [maxLen]; omega) (by omega) (by simp; omega) ?_; intro g cap w4 hown4 hg4 hB4 hat4 hlt4; have HX := Lib.hid (Blk.grown (Blk.new w 49 #[.int .i64 vk, .int .i64 vi, .string vt]) hg4 (own_ne hown))))
  have HB4 : Hid (Below base w w4) := Lib.hid ((Below.alloc (Below.refl base w) hb _).trans hB4)
  have hs4 : w.heap.size < w4.heap.size := HX.out.lt
  go_loopw [0, 5] (fun v i wr => ∃ (k : Nat) (z : Int) (A' : Option Addr) (m' c' : Nat) (cl : List Int), k ≤ 8 ∧ i = .int .i64 z ∧ Hid (z = 8 * (k : Int)) ∧ v = .slice A' m' c' ∧ m' ≤ m + 9 ∧ Hid (m' = m + 1 + k) ∧ Hid (cl = bs ++ [vk] ++ numBs vi k) ∧ wr.ownsRow base 5 1 (.slice A' m' c') m' (cl.flatMap u8v) ∧ Blk wr w.heap.size 49 #[.int .i64 vk, .int .i64 vi, .string vt] ∧ Below base w wr ∧ Hid (some w.heap.size ≠ (Value.slice A' m' c').ownBlock) ∧ TB w wr) (fun _ i _ => 64 - (intOf i).toNat)
  case atStart =>
    refine ⟨0, 0, _, m + 1, cap, bs ++ [vk], by omega, rfl, rfl, rfl, by omega, rfl, (by show _ = _; simp [numBs]), ?_, HX.out, HB4.out, ?_, (TB.of_below ((Below.refl _ _).alloc (Nat.le_refl _) _)).grown (hown.alloc _) hg4⟩
    · simpa [u8v] using hown4
    · show _ ≠ _
      have h1 := own_ne hown
      rcases hat4 with h | h
      · rw [h] at h1; exact h1
      · simp only [Value.ownBlock, ne_eq, Option.some.injEq]; omega
  case round =>
    obtain ⟨k, z, A', m', c', cl, hk8, rfl, Hz, rfl, hmb, Hm', Hcl, hown', hx, hbr, Hne, htb⟩ := hrel
    have hxc := hx.cell
    have hsr := hx.lt
    have h8 : k = 8 ∨ k = 0 ∨ k = 1 ∨ k = 2 ∨ k = 3 ∨ k = 4 ∨ k = 5 ∨ k = 6 ∨ k = 7 := by omega
    rcases h8 with rfl | rfl | rfl | rfl | rfl | rfl | rfl | rfl | rfl
    · obtain rfl : z = 64 := by have := Hz.out; omega
      have hnb : base ≤ wr.heap.size := by omega
      go_wp2_with (first
        | (at_builtin; refine wpList_append_one (by rfl) (.tmp 25) (.tmp 30) _ (by rfl) base 5 i0 _ 1 1 Tryz.underlying22 hi hz0 hz1 hz2 (by rfl) (by omega) (.slice A' m' c') m' _ (by rfl) _ _ hown' wr.heap.size (by rfl) (by rfl) (by rfl) (one_u8v _) (by simp only [maxLen]; omega) (by omega) (by omega) ?_; intro g2 cap2 w5 hown5 hg5 hB5 hat5 hlt5; have hx5 := (Blk.grown hx hg5 Hne.out); have hx5c := hx5.cell; have hs5 := hB5.size)
        | (at_builtin; refine Lib.wpList_append_own_string w5 (by rfl) (.tmp 32) (.tmp 34) _ _ (by rfl) base 5 i0 Tryz.underlying22 Tryz.underlying9 hi hz0 hz1 hz2 _ _ _ (by rfl) hown5 vt (by rfl) (by simp only [maxLen]; omega) (by omega) (by omega) ?_; intro v6 w6 hown6 hg6 hnl6))
      obtain ⟨A6, c6, rfl⟩ := own_slice hown6
      have hlen : es.length = m' + 1 + vt.size := by
        rw [← HES.out]
        have h1 := Hm'.out
        have h2 := Hl.out
        have h3 : (txB vt).length = vt.size := by simp [txB, ByteArray.toList_eq]
        simp only [encV, List.length_append, List.length_cons, List.length_nil, h3, numBs]
        omega
      have HE : Hid (es = cl ++ [(vt.size : Int)] ++ txB vt) := by
        show _ = _
        rw [Hcl.out, ← HES.out]
        simp [encV]
      go_ret
      rw [hlen]
      refine ⟨A6, c6, rfl, ⟨?_, hlen⟩, ?_, (htb.grown hown' hg5).grown hown5 hg6⟩
      · rw [HE.out]
        simpa [u8v, txB_cells, List.flatMap_append] using hown6
      · exact ((hbr.trans hB5).grown hg6 (by omega) (own_base hown5))
    · obtain rfl : z = 0 := by have := Hz.out; omega
      go_wp2_with (first
        | (at_builtin; refine wpList_append_one (by rfl) (.tmp 16) (.tmp 23) _ (by rfl) base 5 i0 _ 1 1 Tryz.underlying22 hi hz0 hz1 hz2 (by rfl) (by omega) (.slice A' m' c') m' _ (by rfl) _ _ hown' wr.heap.size (by rfl) (by rfl) (by rfl) (one_u8v _) (by simp only [maxLen]; omega) (by omega) (by omega) ?_; intro g2 cap2 w5 hown5 hg5 hB5 hat5 hlt5))
      go_roundw
      case rel =>
        refine ⟨1, _, _, m' + 1, cap2, cl ++ [numB vi 0], by omega, rfl, rfl, rfl, (by have := Hm'.out; omega), (by show _ = _; have := Hm'.out; omega), (by show _ = _; rw [Hcl.out, List.append_assoc]; rfl), ?_, Blk.grown hx hg5 Hne.out, hbr.trans hB5, ne_after Hne.out hat5 (by omega), htb.grown hown' hg5⟩
        simpa [u8v, numB] using hown5
      case measure => simp [intOf]
    · obtain rfl : z = 8 := by have := Hz.out; omega
      go_wp2_with (first
        | (at_builtin; refine wpList_append_one (by rfl) (.tmp 16) (.tmp 23) _ (by rfl) base 5 i0 _ 1 1 Tryz.underlying22 hi hz0 hz1 hz2 (by rfl) (by omega) (.slice A' m' c') m' _ (by rfl) _ _ hown' wr.heap.size (by rfl) (by rfl) (by rfl) (one_u8v _) (by simp only [maxLen]; omega) (by omega) (by omega) ?_; intro g2 cap2 w5 hown5 hg5 hB5 hat5 hlt5))
      go_roundw
      case rel =>
        refine ⟨2, _, _, m' + 1, cap2, cl ++ [numB vi 1], by omega, rfl, rfl, rfl, (by have := Hm'.out; omega), (by show _ = _; have := Hm'.out; omega), (by show _ = _; rw [Hcl.out, List.append_assoc]; rfl), ?_, Blk.grown hx hg5 Hne.out, hbr.trans hB5, ne_after Hne.out hat5 (by omega), htb.grown hown' hg5⟩
        simpa [u8v, numB] using hown5
      case measure => simp [intOf]
    · obtain rfl : z = 16 := by have := Hz.out; omega
      go_wp2_with (first
        | (at_builtin; refine wpList_append_one (by rfl) (.tmp 16) (.tmp 23) _ (by rfl) base 5 i0 _ 1 1 Tryz.underlying22 hi hz0 hz1 hz2 (by rfl) (by omega) (.slice A' m' c') m' _ (by rfl) _ _ hown' wr.heap.size (by rfl) (by rfl) (by rfl) (one_u8v _) (by simp only [maxLen]; omega) (by omega) (by omega) ?_; intro g2 cap2 w5 hown5 hg5 hB5 hat5 hlt5))
      go_roundw
      case rel =>
        refine ⟨3, _, _, m' + 1, cap2, cl ++ [numB vi 2], by omega, rfl, rfl, rfl, (by have := Hm'.out; omega), (by show _ = _; have := Hm'.out; omega), (by show _ = _; rw [Hcl.out, List.append_assoc]; rfl), ?_, Blk.grown hx hg5 Hne.out, hbr.trans hB5, ne_after Hne.out hat5 (by omega), htb.grown hown' hg5⟩
        simpa [u8v, numB] using hown5
      case measure => simp [intOf]
    · obtain rfl : z = 24 := by have := Hz.out; omega
      go_wp2_with (first
        | (at_builtin; refine wpList_append_one (by rfl) (.tmp 16) (.tmp 23) _ (by rfl) base 5 i0 _ 1 1 Tryz.underlying22 hi hz0 hz1 hz2 (by rfl) (by omega) (.slice A' m' c') m' _ (by rfl) _ _ hown' wr.heap.size (by rfl) (by rfl) (by rfl) (one_u8v _) (by simp only [maxLen]; omega) (by omega) (by omega) ?_; intro g2 cap2 w5 hown5 hg5 hB5 hat5 hlt5))
      go_roundw
      case rel =>
        refine ⟨4, _, _, m' + 1, cap2, cl ++ [numB vi 3], by omega, rfl, rfl, rfl, (by have := Hm'.out; omega), (by show _ = _; have := Hm'.out; omega), (by show _ = _; rw [Hcl.out, List.append_assoc]; rfl), ?_, Blk.grown hx hg5 Hne.out, hbr.trans hB5, ne_after Hne.out hat5 (by omega), htb.grown hown' hg5⟩
        simpa [u8v, numB] using hown5
      case measure => simp [intOf]
    · obtain rfl : z = 32 := by have := Hz.out; omega
      go_wp2_with (first
        | (at_builtin; refine wpList_append_one (by rfl) (.tmp 16) (.tmp 23) _ (by rfl) base 5 i0 _ 1 1 Tryz.underlying22 hi hz0 hz1 hz2 (by rfl) (by omega) (.slice A' m' c') m' _ (by rfl) _ _ hown' wr.heap.size (by rfl) (by rfl) (by rfl) (one_u8v _) (by simp only [maxLen]; omega) (by omega) (by omega) ?_; intro g2 cap2 w5 hown5 hg5 hB5 hat5 hlt5))
      go_roundw
      case rel =>
        refine ⟨5, _, _, m' + 1, cap2, cl ++ [numB vi 4], by omega, rfl, rfl, rfl, (by have := Hm'.out; omega), (by show _ = _; have := Hm'.out; omega), (by show _ = _; rw [Hcl.out, List.append_assoc]; rfl), ?_, Blk.grown hx hg5 Hne.out, hbr.trans hB5, ne_after Hne.out hat5 (by omega), htb.grown hown' hg5⟩
        simpa [u8v, numB] using hown5
      case measure => simp [intOf]
    · obtain rfl : z = 40 := by have := Hz.out; omega
      go_wp2_with (first
        | (at_builtin; refine wpList_append_one (by rfl) (.tmp 16) (.tmp 23) _ (by rfl) base 5 i0 _ 1 1 Tryz.underlying22 hi hz0 hz1 hz2 (by rfl) (by omega) (.slice A' m' c') m' _ (by rfl) _ _ hown' wr.heap.size (by rfl) (by rfl) (by rfl) (one_u8v _) (by simp only [maxLen]; omega) (by omega) (by omega) ?_; intro g2 cap2 w5 hown5 hg5 hB5 hat5 hlt5))
      go_roundw
      case rel =>
        refine ⟨6, _, _, m' + 1, cap2, cl ++ [numB vi 5], by omega, rfl, rfl, rfl, (by have := Hm'.out; omega), (by show _ = _; have := Hm'.out; omega), (by show _ = _; rw [Hcl.out, List.append_assoc]; rfl), ?_, Blk.grown hx hg5 Hne.out, hbr.trans hB5, ne_after Hne.out hat5 (by omega), htb.grown hown' hg5⟩
        simpa [u8v, numB] using hown5
      case measure => simp [intOf]
    · obtain rfl : z = 48 := by have := Hz.out; omega
      go_wp2_with (first
        | (at_builtin; refine wpList_append_one (by rfl) (.tmp 16) (.tmp 23) _ (by rfl) base 5 i0 _ 1 1 Tryz.underlying22 hi hz0 hz1 hz2 (by rfl) (by omega) (.slice A' m' c') m' _ (by rfl) _ _ hown' wr.heap.size (by rfl) (by rfl) (by rfl) (one_u8v _) (by simp only [maxLen]; omega) (by omega) (by omega) ?_; intro g2 cap2 w5 hown5 hg5 hB5 hat5 hlt5))
      go_roundw
      case rel =>
        refine ⟨7, _, _, m' + 1, cap2, cl ++ [numB vi 6], by omega, rfl, rfl, rfl, (by have := Hm'.out; omega), (by show _ = _; have := Hm'.out; omega), (by show _ = _; rw [Hcl.out, List.append_assoc]; rfl), ?_, Blk.grown hx hg5 Hne.out, hbr.trans hB5, ne_after Hne.out hat5 (by omega), htb.grown hown' hg5⟩
        simpa [u8v, numB] using hown5
      case measure => simp [intOf]
    · obtain rfl : z = 56 := by have := Hz.out; omega
      go_wp2_with (first
        | (at_builtin; refine wpList_append_one (by rfl) (.tmp 16) (.tmp 23) _ (by rfl) base 5 i0 _ 1 1 Tryz.underlying22 hi hz0 hz1 hz2 (by rfl) (by omega) (.slice A' m' c') m' _ (by rfl) _ _ hown' wr.heap.size (by rfl) (by rfl) (by rfl) (one_u8v _) (by simp only [maxLen]; omega) (by omega) (by omega) ?_; intro g2 cap2 w5 hown5 hg5 hB5 hat5 hlt5))
      go_roundw
      case rel =>
        refine ⟨8, _, _, m' + 1, cap2, cl ++ [numB vi 7], by omega, rfl, rfl, rfl, (by have := Hm'.out; omega), (by show _ = _; have := Hm'.out; omega), (by show _ = _; rw [Hcl.out, List.append_assoc]; rfl), ?_, Blk.grown hx hg5 Hne.out, hbr.trans hB5, ne_after Hne.out hat5 (by omega), htb.grown hown' hg5⟩
        simpa [u8v, numB] using hown5
      case measure => simp [intOf]
end Go.Proofs.YtmnmckblmoalkaaGreat
