/-
  Texts: IgFnP, ShelfO, IgCmp, SortO.
-/
import Derived.Test.YtponkkljlbifmaaGreatH12
set_option linter.unusedVariables false
/-
  Plain steps of the search for violations; what the search holds in memory.
-/
namespace Go.Proofs.YtponkkljlbifmaaGreat
open Go.RowKit
set_option maxRecDepth 100000
open Pd

section
variable {hit : Bool} {wr rm gt : Int → Rw → Bool} {t : Int} {key r : Rw} {T : Tb} {acc R V : List Vo}
theorem vRefs_step {l : List Rf} {i : Nat} {x : Rf} (h : l[i]? = some x) (hq : acc ++ (vRefs hit rm gt t key r i (l.drop i) ++ R) = V) :
    acc ++ (if (hit || rm x.t (cellsR r x.cols)) && !gt x.t (cellsR r x.cols) then [⟨1, t, key, i⟩] else []) ++ (vRefs hit rm gt t key r ((i + 1 : Nat) : Int) (l.drop (i + 1)) ++ R) = V := by
  rw [drop_at' h] at hq
  rw [← hq]
  simp [vRefs]
theorem vChks_step {l : List Pd} {i : Nat} {x : Pd} (h : l[i]? = some x) (hq : acc ++ (vChks hit t key r i (l.drop i) ++ R) = V) :
    acc ++ (if hit && !holdsB r [] x then [⟨2, t, key, i⟩] else []) ++ (vChks hit t key r ((i + 1 : Nat) : Int) (l.drop (i + 1)) ++ R) = V := by
  rw [drop_at' h] at hq
  rw [← hq]
  simp [vChks]
theorem vRows_step {l : List Rw} {j : Nat} {x : Rw} (h : l[j]? = some x) (hq : acc ++ (vRows wr rm gt t T (l.drop j) ++ R) = V) :
    acc ++ (vRefs (wr t (keyT T x)) rm gt t (keyT T x) x ((0 : Nat) : Int) (T.refs.drop 0) ++ (vChks (wr t (keyT T x)) t (keyT T x) x ((0 : Nat) : Int) (T.chks.drop 0) ++ (vRows wr rm gt t T (l.drop (j + 1)) ++ R))) = V := by
  rw [drop_at' h] at hq
  rw [← hq]
  simp [vRows, vRow]
theorem vTabs_step {ts : List Tb} {ls : List (List Rw)} {k : Nat} {l : List Rw} (h : ts[k]? = some T) (hl : ls[k]? = some l) (hq : acc ++ vTabs wr rm gt k (ts.drop k) (ls.drop k) = V) :
    acc ++ (vRows wr rm gt k T (l.drop 0) ++ vTabs wr rm gt ((k + 1 : Nat) : Int) (ts.drop (k + 1)) (ls.drop (k + 1))) = V := by
  rw [drop_at' h, drop_at' hl] at hq
  rw [← hq]
  simp [vTabs]
theorem vRefs_len : ∀ (l : List Rf) (i : Int), (vRefs hit rm gt t key r i l).length ≤ l.length
  | [], _ => Nat.le_refl _
  | x :: l, i => by
    have := vRefs_len l (i + 1)
    simp only [vRefs, List.length_append, List.length_cons]
    split <;> simp <;> omega
theorem vChks_len : ∀ (l : List Pd) (i : Int), (vChks hit t key r i l).length ≤ l.length
  | [], _ => Nat.le_refl _
  | x :: l, i => by
    have := vChks_len l (i + 1)
    simp only [vChks, List.length_append, List.length_cons]
    split <;> simp <;> omega
theorem vRows_len (hT : GoodT T) : ∀ l : List Rw, (vRows wr rm gt t T l).length ≤ 8 * l.length
  | [] => Nat.le_refl _
  | x :: l => by
    have h1 := vRows_len hT l
    have h2 := vRefs_len (hit := wr t (keyT T x)) (rm := rm) (gt := gt) (t := t) (key := keyT T x) (r := x) T.refs 0
    have h3 := vChks_len (hit := wr t (keyT T x)) (t := t) (key := keyT T x) (r := x) T.chks 0
    have := hT.rl
    have := hT.hl
    simp only [vRows, vRow, List.length_append, List.length_cons]
    omega
end
theorem vTabs_len {wr rm gt : Int → Rw → Bool} : ∀ (ts : List Tb) (ls : List (List Rw)) (t : Int), (∀ T ∈ ts, GoodT T) → (vTabs wr rm gt t ts ls).length ≤ 8 * cntS ls
  | [], _, _, _ => Nat.zero_le _
  | _ :: _, [], _, _ => Nat.zero_le _
  | T :: ts, l :: ls, t, h => by
    have h1 := vTabs_len (wr := wr) (rm := rm) (gt := gt) ts ls (t + 1) (fun U hU => h U (by simp [hU]))
    have h2 := vRows_len (wr := wr) (rm := rm) (gt := gt) (t := t) (h T (by simp)) l
    simp only [vTabs, List.length_append, cntS, List.map_cons, List.sum_cons] at h1 ⊢
    omega
theorem cells_take {r : Rw} {cs : List Int} {j : Nat} {c : Int} {v : Vl} (h : cs[j]? = some c) (hv : r[c.toNat]? = some v) : cellsR r (cs.take (j + 1)) = cellsR r (cs.take j) ++ [v] := by
  unfold cellsR
  rw [take_snocI h, List.map_append]
  simp [List.getD, hv]
/-- a test of keys: a closure that answers p -/
def TestOk (F : Nat) (cb : Array Value) (w0 : World) (N : Nat) (p : Int → Rw → Bool) : Prop :=
  ∀ W, Below w0.heap.size w0 W → ∀ (t : Nat) (K : Option Addr) (kn kc : Nat) (key : Rw), t < N → RowOk W ((K, kn, kc), key) →
    Calls Tryz.prog F (#[.int .i64 (t : Int), .slice K kn kc] ++ cb) W fun e w' => e = .returned (.bool (p t key)) ∧ Below W.heap.size W w'
theorem TestOk.below {F : Nat} {cb : Array Value} {w0 w1 : World} {N : Nat} {p : Int → Rw → Bool} (h : TestOk F cb w0 N p) (hb : Below w0.heap.size w0 w1) : TestOk F cb w1 N p :=
  fun W hW => h W (hb.trans (hW.mono hb.size))
theorem info_vo : (Tryz.prog.info? 88).map (fun i => (i.zero, i.size, i.bytes)) = some (some (.agg #[.int .i64 0, .int .i64 0, .slice none 0 0, .int .i64 0]), 4, 48) := by kernel_rfl
/-- an own row of another type does not lie in the block of a row that grows -/
theorem OwnRow.grownT {w w' : World} {base : Nat} {q : RowP} (h : OwnRow w base q) {base' : Nat} {T : TypeId} {v : Value} {n size : Nat} {xs : List Value} (ho : w.ownsRow base' T size v n xs) (hT : T ≠ 67) (hg : w.grownBy w' v.ownBlock) : OwnRow w' base q := by
  refine ⟨own_at h.1 (fun g _ hlt hv => hg.block g hlt (fun e => ?_)), h.2⟩
  rcases h.1.2 with ⟨hq, _⟩ | ⟨g1, cap1, cur1, hq, _, hh1, _⟩
  · rw [hq] at hv; simp [Value.ownBlock] at hv
  · rw [hq] at hv
    simp only [Value.ownBlock, Option.some.injEq] at hv
    rcases ho.2 with ⟨hv2, _⟩ | ⟨g2, cap2, cur2, hv2, _, hh2, _⟩
    · rw [hv2] at e; simp [Value.ownBlock] at e
    · rw [hv2] at e
      simp only [Value.ownBlock, Option.some.injEq] at e
      rw [← hv] at e
      subst e
      rw [hh1] at hh2
      injection hh2 with hh2
      injection hh2 with _ ht
      exact absurd ht.symm hT
theorem OwnRow.mono {w : World} {b b' : Nat} {q : RowP} (h : OwnRow w b q) (hb : b' ≤ b) : OwnRow w b' q := ⟨own_weaken h.1 hb, h.2⟩
/-- what the search holds: the violations so far, of its own -/
structure FndS (w1 wr : World) (V : Option Addr) (n vc : Nat) (xs : List VoE) : Prop where
  own : wr.ownsRow w1.heap.size 88 4 (.slice V n vc) n (xs.flatMap VoE.cs)
  len : xs.length = n
  keys : ∀ x ∈ xs, OwnRow wr w1.heap.size x.p
  be : Below w1.heap.size w1 wr
section
variable {w1 wr wr' : World} {V : Option Addr} {n vc : Nat} {xs : List VoE}
theorem FndS.nil (w1 : World) : FndS w1 w1 none 0 0 [] := ⟨⟨by simp, .inl ⟨rfl, rfl⟩⟩, rfl, fun _ h => absurd h List.not_mem_nil, Below.refl _ _⟩
theorem FndS.below (h : FndS w1 wr V n vc xs) (hb : Below wr.heap.size wr wr') : FndS w1 wr' V n vc xs :=
  ⟨own_at h.own (fun g _ hlt _ => hb.block g hlt), h.len, fun x hx => (h.keys x hx).below hb, Below.next h.be hb⟩
/-- one more -/
theorem FndS.add (h : FndS w1 wr V n vc xs) {x : VoE} (hx : OwnRow wr w1.heap.size x.p) {o : Obj} {g cap : Nat} (ho : wr'.ownsRow w1.heap.size 88 4 (.slice (some ⟨g, 0, none⟩) (n + 1) cap) (n + 1) (xs.flatMap VoE.cs ++ VoE.cs x)) (hg : (wr.alloc o).grownBy wr' (Value.slice V n vc).ownBlock) (hB : Below w1.heap.size wr wr') : FndS w1 wr' (some ⟨g, 0, none⟩) (n + 1) cap (xs ++ [x]) := by
  refine ⟨by rw [List.flatMap_append]; simpa using ho, by rw [List.length_append, h.len]; rfl, fun y hy => ?_, h.be.trans hB⟩
  have hg2 := grown_of_alloc hg
  rcases List.mem_append.1 hy with hy | hy
  · exact (h.keys y hy).grownT h.own (by decide) hg2
  · rw [List.mem_singleton.1 hy]
    exact hx.grownT h.own (by decide) hg2
end
end Go.Proofs.YtponkkljlbifmaaGreat

/-
  The shelf's laying of slices.SortFunc over violations at this seat, in plain words, written by the kit's lay-plain.mjs. Turned into a template by name.
-/
namespace Go.Proofs
open Go.Shelf
def Tryz.sortO_ren : Go.Shelf.Ren := ⟨fun | 6 => 60 | 15 => 94 | 14 => 93 | 28 => 130 | 29 => 131 | 20 => 122 | 21 => 123 | 22 => 124 | 23 => 125 | 24 => 126 | 25 => 127 | 26 => 128 | 27 => 129 | 46 => 142 | 47 => 143 | 48 => 144 | 49 => 145 | 50 => 146 | 57 => 157 | n => n, fun | 22 => 35 | 24 => 88 | 25 => 111 | 3 => 3 | 39 => 137 | 0 => 0 | 53 => 159 | 55 => 161 | 4 => 4 | 46 => 153 | 45 => 152 | 50 => 116 | 5 => 5 | 9 => 9 | 66 => 170 | 70 => 166 | 76 => 181 | 77 => 182 | n => n, fun | n => n⟩
theorem Tryz.sortO : Go.Proofs.SlLaysF0.n6 Tryz.prog Tryz.sortO_ren := {
  mixed := by kernel_rfl
  f6 := ⟨Tryz.f60.name, by decide, Tryz.func60.trans (congrArg some (by kernel_rfl))⟩
  f14 := ⟨Tryz.f93.name, by decide, Tryz.func93.trans (congrArg some (by kernel_rfl))⟩
  f15 := Tryz.func94.trans (congrArg some (by kernel_rfl))
  f20 := ⟨Tryz.f122.name, by decide, Tryz.func122.trans (congrArg some (by kernel_rfl))⟩
  f21 := ⟨Tryz.f123.name, by decide, Tryz.func123.trans (congrArg some (by kernel_rfl))⟩
  f22 := ⟨Tryz.f124.name, by decide, Tryz.func124.trans (congrArg some (by kernel_rfl))⟩
  f23 := ⟨Tryz.f125.name, by decide, Tryz.func125.trans (congrArg some (by kernel_rfl))⟩
  f24 := ⟨Tryz.f126.name, by decide, Tryz.func126.trans (congrArg some (by kernel_rfl))⟩
  f25 := ⟨Tryz.f127.name, by decide, Tryz.func127.trans (congrArg some (by kernel_rfl))⟩
  f26 := ⟨Tryz.f128.name, by decide, Tryz.func128.trans (congrArg some (by kernel_rfl))⟩
  f27 := ⟨Tryz.f129.name, by decide, Tryz.func129.trans (congrArg some (by kernel_rfl))⟩
  f28 := Tryz.func130.trans (congrArg some (by kernel_rfl))
  f29 := Tryz.func131.trans (congrArg some (by kernel_rfl))
  f46 := ⟨Tryz.f142.name, by decide, Tryz.func142.trans (congrArg some (by kernel_rfl))⟩
  f47 := Tryz.func143.trans (congrArg some (by kernel_rfl))
  f48 := Tryz.func144.trans (congrArg some (by kernel_rfl))
  f49 := ⟨Tryz.f145.name, by decide, Tryz.func145.trans (congrArg some (by kernel_rfl))⟩
  f50 := ⟨Tryz.f146.name, by decide, Tryz.func146.trans (congrArg some (by kernel_rfl))⟩
  f57 := ⟨Tryz.f157.name, by decide, Tryz.func157.trans (congrArg some (by kernel_rfl))⟩
  t0 := Tryz.underlying0
  a0 := Tryz.isAgg0
  z0 := Tryz.sizeOf0
  v0 := Tryz.zeroValue0
  t3 := Tryz.underlying3
  a3 := Tryz.isAgg3
  z3 := Tryz.sizeOf3
  v3 := Tryz.zeroValue3
  t4 := Tryz.underlying4
  a4 := Tryz.isAgg4
  z4 := Tryz.sizeOf4
  v4 := Tryz.zeroValue4
  t5 := Tryz.underlying5
  a5 := Tryz.isAgg5
  z5 := Tryz.sizeOf5
  v5 := Tryz.zeroValue5
  t9 := Tryz.underlying9
  a9 := Tryz.isAgg9
  z9 := Tryz.sizeOf9
  v9 := Tryz.zeroValue9
  t22 := Tryz.underlying35
  a22 := Tryz.isAgg35
  z22 := Tryz.sizeOf35
  v22 := Tryz.zeroValue35
  t25 := Tryz.underlying111
  a25 := Tryz.isAgg111
  z25 := Tryz.sizeOf111
  v25 := Tryz.zeroValue111
  t39 := Tryz.underlying137
  a39 := Tryz.isAgg137
  z39 := Tryz.sizeOf137
  v39 := Tryz.zeroValue137
  t45 := Tryz.underlying152
  a45 := Tryz.isAgg152
  z45 := Tryz.sizeOf152
  v45 := Tryz.zeroValue152
  t46 := Tryz.underlying153
  a46 := Tryz.isAgg153
  z46 := Tryz.sizeOf153
  v46 := Tryz.zeroValue153
  t50 := Tryz.underlying116
  a50 := Tryz.isAgg116
  z50 := Tryz.sizeOf116
  v50 := Tryz.zeroValue116
  t53 := Tryz.underlying159
  a53 := Tryz.isAgg159
  z53 := Tryz.sizeOf159
  v53 := Tryz.zeroValue159
  t55 := Tryz.underlying161
  a55 := Tryz.isAgg161
  z55 := Tryz.sizeOf161
  v55 := Tryz.zeroValue161
  t66 := Tryz.underlying170
  a66 := Tryz.isAgg170
  z66 := Tryz.sizeOf170
  v66 := Tryz.zeroValue170
  t70 := Tryz.underlying166
  a70 := Tryz.isAgg166
  z70 := Tryz.sizeOf166
  v70 := Tryz.zeroValue166
  t76 := Tryz.underlying181
  a76 := Tryz.isAgg181
  z76 := Tryz.sizeOf181
  v76 := Tryz.zeroValue181
  t77 := Tryz.underlying182
  a77 := Tryz.isAgg182
  z77 := Tryz.sizeOf182
  v77 := Tryz.zeroValue182 }
end Go.Proofs

/-
  The program's comparison of violations.
-/
namespace Go.Proofs.YtponkkljlbifmaaGreat
open Go.RowKit
set_option maxRecDepth 100000
open Pd

set_option maxHeartbeats 1000000 in
theorem cmpv1_any (x y : VoE) (w : World) (hx : RowOk w x.p) (hy : RowOk w y.p) :
    Calls Tryz.prog 95 #[x.val, y.val] w fun e w' => e = .returned (.int .i64 (cmpI x.v.t y.v.t)) ∧ Lay w w' := by
  obtain ⟨⟨k1, t1, key1, i1⟩, A1, n1, c1⟩ := x
  obtain ⟨⟨k2, t2, key2, i2⟩, A2, n2, c2⟩ := y
  have HB : Hid (Lay w ((w.alloc (.cells #[.int .i64 k1, .int .i64 t1, .slice A1 n1 c1, .int .i64 i1] 88)).alloc (.cells #[.int .i64 k2, .int .i64 t2, .slice A2 n2 c2, .int .i64 i2] 88))) := Lib.hid (((Lay.refl _).alloc _).alloc _)
  have HX := Lib.hid (hx.keep (keeps_of HB.out.bel))
  have HY := Lib.hid (hy.keep (keeps_of HB.out.bel))
  clear hx hy
  dsimp only [VoE.val]
  go_enter Tryz.func95, Tryz.ntmps95
  go_wp2_with fail
  refine (cmpInt_any _ _ _).mono ?_
  rintro e w1 ⟨rfl, rfl⟩
  go_wp2
  go_ret
  exact ⟨rfl, HB.out⟩
set_option maxHeartbeats 1000000 in
theorem cmpv2_any (x y : VoE) (w : World) (hx : RowOk w x.p) (hy : RowOk w y.p) :
    Calls Tryz.prog 97 #[x.val, y.val] w fun e w' => e = .returned (.int .i64 (cmpR x.v.key y.v.key)) ∧ Lay w w' := by
  obtain ⟨⟨k1, t1, key1, i1⟩, A1, n1, c1⟩ := x
  obtain ⟨⟨k2, t2, key2, i2⟩, A2, n2, c2⟩ := y
  have HB : Hid (Lay w ((w.alloc (.cells #[.int .i64 k1, .int .i64 t1, .slice A1 n1 c1, .int .i64 i1] 88)).alloc (.cells #[.int .i64 k2, .int .i64 t2, .slice A2 n2 c2, .int .i64 i2] 88))) := Lib.hid (((Lay.refl _).alloc _).alloc _)
  have HX := Lib.hid (hx.keep (keeps_of HB.out.bel))
  have HY := Lib.hid (hy.keep (keeps_of HB.out.bel))
  clear hx hy
  dsimp only [VoE.val]
  go_enter Tryz.func97, Tryz.ntmps97
  go_wp2_with fail
  refine (comprowsL_any A1 A2 n1 n2 c1 c2 key1 key2 _ HX.out.rd HY.out.rd HX.out.lenle HY.out.lenle).mono ?_
  rintro e w1 ⟨rfl, hb1⟩
  have HE := Lib.hid (HB.out.trans hb1)
  go_wp2
  go_ret
  exact ⟨rfl, HE.out⟩
set_option maxHeartbeats 1000000 in
theorem cmpv3_any (x y : VoE) (w : World) (hx : RowOk w x.p) (hy : RowOk w y.p) :
    Calls Tryz.prog 98 #[x.val, y.val] w fun e w' => e = .returned (.int .i64 (cmpI x.v.k y.v.k)) ∧ Lay w w' := by
  obtain ⟨⟨k1, t1, key1, i1⟩, A1, n1, c1⟩ := x
  obtain ⟨⟨k2, t2, key2, i2⟩, A2, n2, c2⟩ := y
  have HB : Hid (Lay w ((w.alloc (.cells #[.int .i64 k1, .int .i64 t1, .slice A1 n1 c1, .int .i64 i1] 88)).alloc (.cells #[.int .i64 k2, .int .i64 t2, .slice A2 n2 c2, .int .i64 i2] 88))) := Lib.hid (((Lay.refl _).alloc _).alloc _)
  have HX := Lib.hid (hx.keep (keeps_of HB.out.bel))
  have HY := Lib.hid (hy.keep (keeps_of HB.out.bel))
  clear hx hy
  dsimp only [VoE.val]
  go_enter Tryz.func98, Tryz.ntmps98
  go_wp2_with fail
  refine (cmpInt_any _ _ _).mono ?_
  rintro e w1 ⟨rfl, rfl⟩
  go_wp2
  go_ret
  exact ⟨rfl, HB.out⟩
set_option maxHeartbeats 1000000 in
theorem cmpv4_any (x y : VoE) (w : World) (hx : RowOk w x.p) (hy : RowOk w y.p) :
    Calls Tryz.prog 99 #[x.val, y.val] w fun e w' => e = .returned (.int .i64 (cmpI x.v.ix y.v.ix)) ∧ Lay w w' := by
  obtain ⟨⟨k1, t1, key1, i1⟩, A1, n1, c1⟩ := x
  obtain ⟨⟨k2, t2, key2, i2⟩, A2, n2, c2⟩ := y
  have HB : Hid (Lay w ((w.alloc (.cells #[.int .i64 k1, .int .i64 t1, .slice A1 n1 c1, .int .i64 i1] 88)).alloc (.cells #[.int .i64 k2, .int .i64 t2, .slice A2 n2 c2, .int .i64 i2] 88))) := Lib.hid (((Lay.refl _).alloc _).alloc _)
  have HX := Lib.hid (hx.keep (keeps_of HB.out.bel))
  have HY := Lib.hid (hy.keep (keeps_of HB.out.bel))
  clear hx hy
  dsimp only [VoE.val]
  go_enter Tryz.func99, Tryz.ntmps99
  go_wp2_with fail
  refine (cmpInt_any _ _ _).mono ?_
  rintro e w1 ⟨rfl, rfl⟩
  go_wp2
  go_ret
  exact ⟨rfl, HB.out⟩
def fldO (x y : Vo) : Nat → Int
  | 0 => cmpI x.t y.t
  | 1 => cmpR x.key y.key
  | 2 => cmpI x.k y.k
  | _ => cmpI x.ix y.ix
theorem cmpO_fld (x y : Vo) : cmpO x y = if fldO x y 0 ≠ 0 then fldO x y 0 else if fldO x y 1 ≠ 0 then fldO x y 1 else if fldO x y 2 ≠ 0 then fldO x y 2 else fldO x y 3 := rfl
theorem fld_ne {x y : Vo} {j : Nat} {v : Int} (hj : j < 4) (h : ∀ q, q < j → fldO x y q = 0) (hv : fldO x y j = v) (h0 : v ≠ 0) : cmpO x y = v := by
  rw [cmpO_fld]
  have : j = 0 ∨ j = 1 ∨ j = 2 ∨ j = 3 := by omega
  rcases this with rfl | rfl | rfl | rfl
  · rw [hv, if_pos h0]
  · rw [h 0 (by omega), hv, if_neg (by simp), if_pos h0]
  · rw [h 0 (by omega), h 1 (by omega), hv, if_neg (by simp), if_neg (by simp), if_pos h0]
  · rw [h 0 (by omega), h 1 (by omega), h 2 (by omega), hv, if_neg (by simp), if_neg (by simp), if_neg (by simp)]
set_option maxHeartbeats 4000000 in
theorem cmpvio_any (x y : VoE) (w : World) (hx : RowOk w x.p) (hy : RowOk w y.p) :
    Calls Tryz.prog 61 #[x.val, y.val] w fun e w' => e = .returned (.int .i64 (cmpO x.v y.v)) ∧ Lay w w' := by
  have HX := Lib.hid hx
  have HY := Lib.hid hy
  clear hx hy
  obtain ⟨r, Hr⟩ : ∃ z, Hid (cmpO x.v y.v = z) := ⟨_, Lib.hid rfl⟩
  rw [Hr.out]
  have Hx := Lib.hid (Blk.new w 88 #[.int .i64 x.v.k, .int .i64 x.v.t, .slice x.A x.n x.c, .int .i64 x.v.ix])
  have Hy := Lib.hid (Blk.new (w.alloc (.cells #[.int .i64 x.v.k, .int .i64 x.v.t, .slice x.A x.n x.c, .int .i64 x.v.ix] 88)) 88 #[.int .i64 y.v.k, .int .i64 y.v.t, .slice y.A y.n y.c, .int .i64 y.v.ix])
  dsimp only [VoE.val]
  go_enter Tryz.func61, Tryz.ntmps61
  go_upto_region 2 with fail
  have Hf := Lib.hid (Blk.new ((w.alloc (.cells #[.int .i64 x.v.k, .int .i64 x.v.t, .slice x.A x.n x.c, .int .i64 x.v.ix] 88)).alloc (.cells #[.int .i64 y.v.k, .int .i64 y.v.t, .slice y.A y.n y.c, .int .i64 y.v.ix] 88)) 111 #[.func (.func 95) #[] #[], .func (.func 97) #[] #[], .func (.func 98) #[] #[], .func (.func 99) #[] #[]])
  replace Hx := Lib.hid ((Hx.out.alloc (.cells #[.int .i64 y.v.k, .int .i64 y.v.t, .slice y.A y.n y.c, .int .i64 y.v.ix] 88)).alloc (.cells #[.func (.func 95) #[] #[], .func (.func 97) #[] #[], .func (.func 98) #[] #[], .func (.func 99) #[] #[]] 111))
  replace Hy := Lib.hid (Hy.out.alloc (.cells #[.func (.func 95) #[] #[], .func (.func 97) #[] #[], .func (.func 98) #[] #[], .func (.func 99) #[] #[]] 111))
  have HB : Hid (Lay w (((w.alloc (.cells #[.int .i64 x.v.k, .int .i64 x.v.t, .slice x.A x.n x.c, .int .i64 x.v.ix] 88)).alloc (.cells #[.int .i64 y.v.k, .int .i64 y.v.t, .slice y.A y.n y.c, .int .i64 y.v.ix] 88)).alloc (.cells #[.func (.func 95) #[] #[], .func (.func 97) #[] #[], .func (.func 98) #[] #[], .func (.func 99) #[] #[]] 111))) := Lib.hid ((((Lay.refl _).alloc _).alloc _).alloc _)
  rw [World.size_alloc] at Hy
  rw [World.size_alloc, World.size_alloc] at Hf
  generalize ((w.alloc (.cells #[.int .i64 x.v.k, .int .i64 x.v.t, .slice x.A x.n x.c, .int .i64 x.v.ix] 88)).alloc (.cells #[.int .i64 y.v.k, .int .i64 y.v.t, .slice y.A y.n y.c, .int .i64 y.v.ix] 88)).alloc (.cells #[.func (.func 95) #[] #[], .func (.func 97) #[] #[], .func (.func 98) #[] #[], .func (.func 99) #[] #[]] 111) = w1 at *
  have zf := Hf.out.cell
  go_wp2_with fail
  go_loopw [12] (fun i wr => ∃ j : Nat, j ≤ 4 ∧ i = .int .i64 (j : Int) ∧ Hid (∀ q, q < j → fldO x.v y.v q = 0) ∧ Hid (Lay w1 wr)) (fun i _ => 4 - (intOf i).toNat)
  case atStart => exact ⟨0, by omega, rfl, Lib.hid (fun q h => absurd h (by omega)), Lib.hid (Lay.refl _)⟩
  case round =>
    obtain ⟨j, hj, rfl, Hq, HBr⟩ := hrel
    clear zf
    have zf := (Hf.out.below HBr.out.bel).cell
    have zx := (Hx.out.below HBr.out.bel).cell
    have zy := (Hy.out.below HBr.out.bel).cell
    have HXr := Lib.hid (HX.out.keep (keeps_of (HB.out.trans HBr.out).bel))
    have HYr := Lib.hid (HY.out.keep (keeps_of (HB.out.trans HBr.out).bel))
    have hj5 : j = 0 ∨ j = 1 ∨ j = 2 ∨ j = 3 ∨ j = 4 := by omega
    rcases hj5 with rfl | rfl | rfl | rfl | rfl
    · go_wp2_with fail
      refine (cmpv1_any x y _ HXr.out HYr.out).mono ?_
      rintro e w2 ⟨rfl, hb2⟩
      have HB2 := Lib.hid (HBr.out.trans hb2)
      obtain ⟨v, Hv⟩ : ∃ z, Hid (cmpI x.v.t y.v.t = z) := ⟨_, Lib.hid rfl⟩
      rw [Hv.out]
      by_cases h0 : v = 0
      · have g : (v != 0) = false := by simp [h0]
        have Hq2 : Hid (∀ q, q < 1 → fldO x.v y.v q = 0) := Lib.hid (fun q hq => by
          rcases Nat.lt_or_ge q 0 with h | h
          · exact Hq.out q h
          · obtain rfl : q = 0 := by omega
            exact Hv.out.trans h0)
        clear h0
        go_wp2
        go_roundw
        case rel => exact ⟨1, by omega, by go_num, Hq2, HB2⟩
        case measure => simp [intOf]
      · have g : (v != 0) = true := by simp [h0]
        have hr : r = v := by rw [← Hr.out]; exact fld_ne (j := 0) (by omega) Hq.out Hv.out h0
        have HE := Lib.hid (HB.out.trans HB2.out)
        subst hr
        clear h0
        go_wp2
        go_ret
        exact ⟨rfl, HE.out⟩
    · go_wp2_with fail
      refine (cmpv2_any x y _ HXr.out HYr.out).mono ?_
      rintro e w2 ⟨rfl, hb2⟩
      have HB2 := Lib.hid (HBr.out.trans hb2)
      obtain ⟨v, Hv⟩ : ∃ z, Hid (cmpR x.v.key y.v.key = z) := ⟨_, Lib.hid rfl⟩
      rw [Hv.out]
      by_cases h0 : v = 0
      · have g : (v != 0) = false := by simp [h0]
        have Hq2 : Hid (∀ q, q < 2 → fldO x.v y.v q = 0) := Lib.hid (fun q hq => by
          rcases Nat.lt_or_ge q 1 with h | h
          · exact Hq.out q h
          · obtain rfl : q = 1 := by omega
            exact Hv.out.trans h0)
        clear h0
        go_wp2
        go_roundw
        case rel => exact ⟨2, by omega, by go_num, Hq2, HB2⟩
        case measure => simp [intOf]
      · have g : (v != 0) = true := by simp [h0]
        have hr : r = v := by rw [← Hr.out]; exact fld_ne (j := 1) (by omega) Hq.out Hv.out h0
        have HE := Lib.hid (HB.out.trans HB2.out)
        subst hr
        clear h0
        go_wp2
        go_ret
        exact ⟨rfl, HE.out⟩
    · go_wp2_with fail
      refine (cmpv3_any x y _ HXr.out HYr.out).mono ?_
      rintro e w2 ⟨rfl, hb2⟩
      have HB2 := Lib.hid (HBr.out.trans hb2)
      obtain ⟨v, Hv⟩ : ∃ z, Hid (cmpI x.v.k y.v.k = z) := ⟨_, Lib.hid rfl⟩
      rw [Hv.out]
      by_cases h0 : v = 0
      · have g : (v != 0) = false := by simp [h0]
        have Hq2 : Hid (∀ q, q < 3 → fldO x.v y.v q = 0) := Lib.hid (fun q hq => by
          rcases Nat.lt_or_ge q 2 with h | h
          · exact Hq.out q h
          · obtain rfl : q = 2 := by omega
            exact Hv.out.trans h0)
        clear h0
        go_wp2
        go_roundw
        case rel => exact ⟨3, by omega, by go_num, Hq2, HB2⟩
        case measure => simp [intOf]
      · have g : (v != 0) = true := by simp [h0]
        have hr : r = v := by rw [← Hr.out]; exact fld_ne (j := 2) (by omega) Hq.out Hv.out h0
        have HE := Lib.hid (HB.out.trans HB2.out)
        subst hr
        clear h0
        go_wp2
        go_ret
        exact ⟨rfl, HE.out⟩
    · go_wp2_with fail
      refine (cmpv4_any x y _ HXr.out HYr.out).mono ?_
      rintro e w2 ⟨rfl, hb2⟩
      have HB2 := Lib.hid (HBr.out.trans hb2)
      obtain ⟨v, Hv⟩ : ∃ z, Hid (cmpI x.v.ix y.v.ix = z) := ⟨_, Lib.hid rfl⟩
      rw [Hv.out]
      by_cases h0 : v = 0
      · have g : (v != 0) = false := by simp [h0]
        have Hq2 : Hid (∀ q, q < 4 → fldO x.v y.v q = 0) := Lib.hid (fun q hq => by
          rcases Nat.lt_or_ge q 3 with h | h
          · exact Hq.out q h
          · obtain rfl : q = 3 := by omega
            exact Hv.out.trans h0)
        clear h0
        go_wp2
        go_roundw
        case rel => exact ⟨4, by omega, by go_num, Hq2, HB2⟩
        case measure => simp [intOf]
      · have g : (v != 0) = true := by simp [h0]
        have hr : r = v := by rw [← Hr.out]; exact fld_ne (j := 3) (by omega) Hq.out Hv.out h0
        have HE := Lib.hid (HB.out.trans HB2.out)
        subst hr
        clear h0
        go_wp2
        go_ret
        exact ⟨rfl, HE.out⟩
    · have hr : r = 0 := by rw [← Hr.out, cmpO_fld, Hq.out 0 (by omega), Hq.out 1 (by omega), Hq.out 2 (by omega), Hq.out 3 (by omega)]; rfl
      have HE := Lib.hid (HB.out.trans HBr.out)
      subst hr
      go_wp2
      go_ret
      exact ⟨rfl, HE.out⟩
end Go.Proofs.YtponkkljlbifmaaGreat

/-
  slices.SortFunc over violations, by the shelf's contract: violations that ascend stay as they are.
-/
namespace Go.Proofs.YtponkkljlbifmaaGreat
open Go.RowKit Go.Sort Go.Shelf
set_option maxRecDepth 100000

/-- a comparison that orders -/
structure OrdF {α : Type} (f : α → α → Int) : Prop where
  anti : ∀ x y, f y x = - f x y
  trans : ∀ x y z, f x y ≤ 0 → f y z ≤ 0 → f x z ≤ 0
def lexF {α : Type} (f g : α → α → Int) (x y : α) : Int := if f x y ≠ 0 then f x y else g x y
theorem OrdF.lex {α : Type} {f g : α → α → Int} (h : OrdF f) (k : OrdF g) : OrdF (lexF f g) where
  anti x y := by
    unfold lexF
    have h1 := h.anti x y
    have h2 := k.anti x y
    by_cases h0 : f x y = 0
    · rw [if_neg (by omega), if_neg (by omega), h2]
    · rw [if_pos (by omega), if_pos (by omega), h1]
  trans x y z h1 h2 := by
    unfold lexF at h1 h2 ⊢
    have a1 := h.anti x y
    have a2 := h.anti y z
    have a3 := h.anti x z
    have t1 := h.trans x y z
    have t2 := h.trans z x y
    have t3 := h.trans y z x
    have t4 := h.trans z y x
    have b1 := h.anti x z
    by_cases e1 : f x y = 0
    · by_cases e2 : f y z = 0
      · rw [if_neg (by omega)] at h1 h2
        have := k.trans x y z h1 h2
        rw [if_neg (by omega)]
        exact this
      · rw [if_pos e2] at h2
        rw [if_pos (by omega)]
        omega
    · rw [if_pos e1] at h1
      by_cases e2 : f y z = 0
      · rw [if_pos (by omega)]; omega
      · rw [if_pos e2] at h2
        rw [if_pos (by omega)]; omega
theorem ordI {α : Type} (p : α → Int) : OrdF (fun x y => cmpI (p x) (p y)) where
  anti x y := by unfold cmpI; repeat' split <;> omega
  trans x y z := by unfold cmpI; intro h1 h2; repeat' split at h1 <;> repeat' split at h2 <;> repeat' split <;> omega
theorem ordR {α : Type} (p : α → Rw) : OrdF (fun x y => cmpR (p x) (p y)) where
  anti x y := cmpR_anti _ _
  trans x y z := cmpR_trans _ _ _
theorem ordO : OrdF cmpO := (ordI Vo.t).lex ((ordR Vo.key).lex ((ordI Vo.k).lex (ordI Vo.ix)))
/-- a violation whose key does not lie in block blk -/
abbrev FarVo (w : World) (blk : Nat) : Type := { x : VoE // RowOk w x.p ∧ (0 < x.n → ∀ b o, x.A = some ⟨b, o, none⟩ → b ≠ blk) }
instance (w : World) (blk : Nat) : Inhabited (FarVo w blk) := ⟨⟨⟨⟨0, 0, [], 0⟩, none, 0, 0⟩, ⟨Sl.nil, fun _ => ⟨rfl, rfl⟩, Nat.le_refl _, by simp [VoE.p]⟩, fun h => absurd h (by simp)⟩⟩
def encO {w : World} {blk : Nat} (x : FarVo w blk) : List Value := VoE.cs x.1
def cfO {w : World} {blk : Nat} (x y : FarVo w blk) : Int := cmpO x.1.v y.1.v
theorem encO_len {w : World} {blk : Nat} (x : FarVo w blk) : (encO x).length = 4 := rfl
theorem swoO {w : World} {blk : Nat} : SWO (ltOf (cfO (w := w) (blk := blk))) where
  irrefl x := by have := ordO.anti x.1.v x.1.v; exact decide_eq_false (p := cmpO x.1.v x.1.v < 0) (by omega)
  trans x y z h1 h2 := by
    have h1' : cmpO x.1.v y.1.v < 0 := of_decide_eq_true h1
    have h2' : cmpO y.1.v z.1.v < 0 := of_decide_eq_true h2
    have e1 := ordO.anti x.1.v y.1.v
    have e2 := ordO.anti y.1.v z.1.v
    have e3 := ordO.anti x.1.v z.1.v
    have t1 := ordO.trans x.1.v y.1.v z.1.v (by omega) (by omega)
    have t2 := ordO.trans y.1.v z.1.v x.1.v (by omega)
    exact decide_eq_true (p := cmpO x.1.v z.1.v < 0) (by omega)
  ntrans x y z h1 h2 := by
    have h1' : ¬ cmpO x.1.v y.1.v < 0 := of_decide_eq_false h1
    have h2' : ¬ cmpO y.1.v z.1.v < 0 := of_decide_eq_false h2
    refine decide_eq_false (p := cmpO x.1.v z.1.v < 0) ?_
    have e1 := ordO.anti x.1.v y.1.v
    have e2 := ordO.anti y.1.v z.1.v
    have e3 := ordO.anti x.1.v z.1.v
    have := ordO.trans z.1.v y.1.v x.1.v (by omega) (by omega)
    omega
section
variable {w : World} {blk off m : Nat} {d : Array (FarVo w blk)} {os : Array Obj}
theorem swo_block {k : Nat} (hk : k < w.heap.size) (hne : k ≠ blk) : (sortWorldK encO 4 w blk off m d os).heap[k]? = w.heap[k]? := by
  unfold sortWorldK putRowK
  rw [heap_grow_old _ _ (by simpa using hk)]
  simp only [putRow, mapBlock, heap_ahead, Array.getElem?_modify]
  rw [if_neg (fun e => hne e.symm)]
theorem swo_but : But (· = blk) w (sortWorldK encO 4 w blk off m d os) :=
  ⟨rfl, rfl, rfl, by simp [sortWorldK, putRowK], fun k hk hs => swo_block hk hs⟩
theorem farvo_sw (x : FarVo w blk) : RowOk (sortWorldK encO 4 w blk off m d os) x.1.p :=
  ⟨x.2.1.rd.but swo_but (fun hn b o e hs => x.2.2 hn b o e hs), x.2.1.nl, x.2.1.le, x.2.1.mx⟩
end
theorem cmpLaysO {w : World} (blk off size : Nat) : CmpLays Tryz.prog 61 #[] (encO (w := w) (blk := blk)) 4 cfO blk off size w := by
  intro m os dk hs x y
  exact (cmpvio_any x.1 y.1 _ (farvo_sw x) (farvo_sw y)).mono fun e w' ⟨he, hl⟩ => ⟨he, lay_of hl⟩
theorem entVio : ∀ args w, (callFunc 61 args).run Tryz.prog w = .ok (.enter 61 args) w := Go.Proofs.enters_of Tryz.func61 (by kernel_rfl) rfl
def toO {w : World} {blk : Nat} (xs : List VoE) (h : ∀ x ∈ xs, RowOk w x.p ∧ (0 < x.n → ∀ b o, x.A = some ⟨b, o, none⟩ → b ≠ blk)) : Array (FarVo w blk) := (xs.attach.map fun p => ⟨p.1, h p.1 p.2⟩).toArray
theorem toO_list {w : World} {blk : Nat} (xs : List VoE) (h : ∀ x ∈ xs, RowOk w x.p ∧ (0 < x.n → ∀ b o, x.A = some ⟨b, o, none⟩ → b ≠ blk)) : (toO xs h).toList.map (·.1) = xs := by
  simp only [toO, List.map_map, Function.comp_def]
  first | exact List.attach_map_subtype_val xs | exact List.attach_map_val xs | simp
theorem toO_size {w : World} {blk : Nat} (xs : List VoE) (h : ∀ x ∈ xs, RowOk w x.p ∧ (0 < x.n → ∀ b o, x.A = some ⟨b, o, none⟩ → b ≠ blk)) : (toO xs h).size = xs.length := by simp [toO]
theorem sortO_any (blk off cap n : Nat) (xs : List VoE) (w : World) (hn0 : 0 < n) (hsl : Sl 4 VoE.cs w (some ⟨blk, off, none⟩) n xs) (hfz : ∀ j, w.frozen? ⟨blk, j, none⟩ = false) (hxs : ∀ x ∈ xs, RowOk w x.p ∧ (0 < x.n → ∀ b o, x.A = some ⟨b, o, none⟩ → b ≠ blk)) (ha : ascO (xs.map (·.v))) (hblk : blk < w.heap.size) (hn : n ≤ 1000000) :
    Calls Tryz.prog 60 #[.slice (some ⟨blk, off, none⟩) n cap, .func (.func 61) #[] #[]] w fun e w' => e = .returned (.tuple #[]) ∧ Sl 4 VoE.cs w' (some ⟨blk, off, none⟩) n xs ∧ But (· = blk) w w' := by
  have hlen := hsl.len
  have hsz : (toO xs hxs).size = n := by rw [toO_size, hlen]
  have hcell : ∀ k x, xs[k]? = some x → ∀ (j : Nat) (u : Value), (VoE.cs x)[j]? = some u → w.cell? ⟨blk, off + k * 4 + j, none⟩ = some u := by
    obtain ⟨b, o, e, hc⟩ := hsl.2 hn0
    injection e with e
    injection e with e1 e2
    subst e1 e2
    exact hc
  have hat : ∀ k (hk : k < (toO xs hxs).size), xs[k]? = some ((toO xs hxs)[k]).1 := by
    intro k hk
    have := congrArg (fun l => l[k]?) (toO_list xs hxs)
    simp only [List.getElem?_map, Array.getElem?_toList] at this
    rw [← this, Array.getElem?_eq_getElem hk]
    rfl
  have hH : HoldsK encO 4 w blk off (toO xs hxs) := by
    intro t ht
    have ht' : t < (toO xs hxs).size * 4 := by simpa [flatK] using ht
    have hq : t / 4 < (toO xs hxs).size := (Nat.div_lt_iff_lt_mul (by omega)).2 ht'
    have hr : t % 4 < 4 := Nat.mod_lt _ (by omega)
    refine ⟨?_, hfz _⟩
    have h1 := hcell (t / 4) _ (hat (t / 4) hq) (t % 4) _ (List.getElem?_eq_getElem (by rw [VoE.cs_len]; exact hr))
    rw [show off + t / 4 * 4 + t % 4 = off + t by omega] at h1
    rw [h1]
    rw [getElem!_pos (flatK encO 4 (toO xs hxs)) t ht]
    simp only [flatK, Array.getElem_map, Array.getElem_range, id_eq]
    rw [getElem!_pos (toO xs hxs) (t / 4) hq, getElem!_pos _ (t % 4) (by rw [encO_len]; exact hr)]
    rfl
  have hcon := AnyQ.slices_SortFunc Tryz.sortO 4 Tryz.isAgg88 Tryz.sizeOf88 (encO (w := w) (blk := blk)) encO_len (fun x => one_vo x.1) cfO swoO 61 #[] blk off cap (toO xs hxs) w entVio (cmpLaysO blk off _) hH hblk (by omega)
  rw [hsz] at hcon
  change Calls Tryz.prog 60 _ _ _ at hcon
  refine hcon.mono fun e w' ⟨he, d', m, os, hp, hs, hw⟩ => ⟨he, ?_, by rw [hw]; exact swo_but⟩
  have hds : d'.size = n := by rw [hp.1, hsz]
  have hHs : HoldsK encO 4 w' blk off d' := by
    rw [hw]
    exact SWK.holds ⟨m, os, rfl⟩ hblk hH (by rw [hds, hsz])
  have hperm : (d'.toList.map (·.1)).Perm xs := by
    have h1 := hp.2.2
    rw [Array.extract_eq_self_of_le (by omega), Array.extract_eq_self_of_le (by omega)] at h1
    have h2 := h1.map (fun x : FarVo w blk => x.1)
    rw [toO_list] at h2
    exact h2
  have hup : (d'.toList.map (·.1)).Pairwise (fun a b : VoE => cmpO a.v b.v ≤ 0) := by
    refine List.pairwise_map.2 (List.pairwise_iff_getElem.2 fun i j hi hj hij => ?_)
    have hi' : i < d'.size := by simpa using hi
    have hj' : j < d'.size := by simpa using hj
    have h1 := hs i j (Nat.zero_le _) hij (by omega)
    rw [getElem!_pos d' i hi', getElem!_pos d' j hj'] at h1
    have h2 : ¬ cmpO (d'[j]).1.v (d'[i]).1.v < 0 := of_decide_eq_false h1
    have e1 := ordO.anti (d'[i]).1.v (d'[j]).1.v
    have hg : cmpO (d'[i]).1.v (d'[j]).1.v ≤ 0 := by omega
    simpa using hg
  have ha2 : xs.Pairwise (fun a b : VoE => cmpO a.v b.v < 0) := List.pairwise_map.1 ha
  have heq : d'.toList.map (·.1) = xs := by
    refine List.Perm.eq_of_pairwise (le := fun a b : VoE => cmpO a.v b.v ≤ 0) (fun a b hma hmb h1 h2 => ?_) hup (ha2.imp fun h => by omega) hperm
    have hma := hperm.mem_iff.1 hma
    have e1 := ordO.anti a.v b.v
    have h0 : cmpO a.v b.v = 0 := by omega
    obtain ⟨i, hi, rfl⟩ := List.mem_iff_getElem.1 hma
    obtain ⟨j, hj, rfl⟩ := List.mem_iff_getElem.1 hmb
    rcases Nat.lt_trichotomy i j with h | h | h
    · have := List.pairwise_iff_getElem.1 ha2 i j hi hj h; omega
    · subst h; rfl
    · have := List.pairwise_iff_getElem.1 ha2 j i hj hi h; omega
  refine ⟨hlen, fun _ => ⟨blk, off, rfl, fun k x hx j u hu => ?_⟩⟩
  rw [← heq, List.getElem?_map, Option.map_eq_some_iff] at hx
  obtain ⟨y, hy, rfl⟩ := hx
  have hk : k < d'.size := by have := (List.getElem?_eq_some_iff.1 hy).1; simpa using this
  have hy' : d'[k]! = y := by
    rw [getElem!_pos d' k hk]
    have := (List.getElem?_eq_some_iff.1 hy).2
    simpa using this
  have h1 := HoldsK.cells hHs encO_len hk j u (by rw [hy']; exact hu)
  rw [add_at] at h1
  exact h1
theorem sortO_none (p : Option Addr) (cap : Nat) (w : World) : Calls Tryz.prog 60 #[.slice p 0 cap, .func (.func 61) #[] #[]] w fun e w' => e = .returned (.tuple #[]) ∧ w' = w := AnyF.slices_SortFunc_none Tryz.sortO p cap (.func (.func 61) #[] #[]) w
end Go.Proofs.YtponkkljlbifmaaGreat
