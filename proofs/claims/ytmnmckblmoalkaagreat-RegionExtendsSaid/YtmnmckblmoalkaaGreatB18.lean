/-
  Texts: FMem, RowCmp, RegionS.
-/
import Derived.Test.YtmnmckblmoalkaaGreatB17
set_option linter.unusedVariables false
/-
  Words for the state of the reference's Combine of regions: the parts under way and what it remembers of pairs of parts. No program of ours walks here.
-/
namespace Go.Proofs.YtmnmckblmoalkaaGreat
open Go.RowKit
set_option maxRecDepth 100000
open Rg

/-- what is remembered of a pair of parts: the result, where it lies and between which blocks -/
structure KM where
  i : Int
  k : Int
  x : Int
  f : Bool
  A : Option Addr
  n : Nat
  c : Nat
  r : Rg
  lo : Nat
  hi : Nat
def KM.cs (m : KM) : List Value := [.int .i64 m.i, .int .i64 m.k, .int .i64 m.x, .bool m.f, .slice m.A m.n m.c]
theorem KM.cs_len (m : KM) : (KM.cs m).length = 5 := rfl
theorem one_km (m : KM) : ∀ u ∈ KM.cs m, u.oneCell' = true := by simp [KM.cs, Value.oneCell']
structure FSt (B : Nat) (w : World) (A : Option Addr) (n c : Nat) (ms : List PM) (Ak : Option Addr) (nk ck : Nat) (ks : List KM) : Prop where
  pt : PartsIn B w A n c ms
  kown : w.ownsRow B 177 5 (.slice Ak nk ck) nk (ks.flatMap KM.cs)
  klen : ks.length = nk
  krg : ∀ m ∈ ks, RgF m.lo m.hi w m.x m.f m.A m.n m.c m.r ∧ B ≤ m.lo ∧ m.hi ≤ w.heap.size
  kfar : ∀ m ∈ ks, ∀ q, m.lo ≤ q → q < m.hi → (Value.slice Ak nk ck).ownBlock ≠ some q ∧ (Value.slice A n c).ownBlock ≠ some q ∧ ∀ m' ∈ ms, m'.vv.ownBlock ≠ some q
  pfar : ∀ m ∈ ms, ∀ q, m.lo ≤ q → q < m.hi → (Value.slice Ak nk ck).ownBlock ≠ some q
section
variable {B : Nat} {w w' : World} {A A' : Option Addr} {n c n' c' : Nat} {ms ms' : List PM} {Ak Ak' : Option Addr} {nk ck nk' ck' : Nat} {ks : List KM}
theorem FSt.below (h : FSt B w A n c ms Ak nk ck ks) (hb : Below w.heap.size w w') : FSt B w' A n c ms Ak nk ck ks :=
  ⟨h.pt.below hb, own_at h.kown fun g _ hlt _ => hb.block g hlt, h.klen, fun m hm => by
    obtain ⟨h1, h2, h3⟩ := h.krg m hm
    exact ⟨h1.keep fun k _ hk => hb.block k (Nat.lt_of_lt_of_le hk h3), h2, Nat.le_trans h3 hb.size⟩, h.kfar, h.pfar⟩
/-- the parts change, what is remembered stays -/
theorem FSt.step (h : FSt B w A n c ms Ak nk ck ks) (hp : PartsIn B w' A' n' c' ms') (hb : But (fun q => (Value.slice A n c).ownBlock = some q ∨ (∃ m ∈ ms, m.vv.ownBlock = some q) ∨ q < B) w w')
    (hlA : ∀ q, (Value.slice A' n' c').ownBlock = some q → (Value.slice A n c).ownBlock = some q ∨ w.heap.size ≤ q)
    (hlV : ∀ m' ∈ ms', ∀ q, m'.vv.ownBlock = some q → (∃ m ∈ ms, m.vv.ownBlock = some q) ∨ w.heap.size ≤ q)
    (hrg : ∀ m' ∈ ms', (∃ m ∈ ms, m.lo = m'.lo ∧ m.hi = m'.hi) ∨ ∀ q, m'.lo ≤ q → q < m'.hi → (Value.slice Ak nk ck).ownBlock ≠ some q) : FSt B w' A' n' c' ms' Ak nk ck ks := by
  refine ⟨hp, own_but h.kown hb fun k hk hs => ?_, h.klen, fun m hm => ?_, fun m hm q h1 h2 => ?_, fun m hm q h1 h2 => ?_⟩
  · rcases hs with hs | ⟨m, hm, hs⟩ | hs
    · exact own_types h.kown h.pt.own (by decide) hk hs
    · exact own_types h.kown (h.pt.ok m hm).own (by decide) hk hs
    · have := (own_lt h.kown hk).1; omega
  · obtain ⟨h1, h2, h3⟩ := h.krg m hm
    refine ⟨h1.keep fun k hk1 hk2 => hb.block k (Nat.lt_of_lt_of_le hk2 h3) fun hs => ?_, h2, Nat.le_trans h3 hb.size⟩
    obtain ⟨_, f2, f3⟩ := h.kfar m hm k hk1 hk2
    rcases hs with hs | ⟨m', hm', hs⟩ | hs
    · exact f2 hs
    · exact f3 m' hm' hs
    · omega
  · obtain ⟨f1, f2, f3⟩ := h.kfar m hm q h1 h2
    have hlt := Nat.lt_of_lt_of_le h2 (h.krg m hm).2.2
    refine ⟨f1, fun hs => ?_, fun m' hm' hs => ?_⟩
    · rcases hlA q hs with e | e
      · exact f2 e
      · omega
    · rcases hlV m' hm' q hs with ⟨m2, hm2, e⟩ | e
      · exact f3 m2 hm2 e
      · omega
  · rcases hrg m hm with ⟨m2, hm2, e1, e2⟩ | hf
    · exact h.pfar m2 hm2 q (by omega) (by omega)
    · exact hf q h1 h2
/-- one more pair is remembered -/
theorem FSt.known (h : FSt B w A n c ms Ak nk ck ks) {i k x : Int} {f : Bool} {A2 : Option Addr} {n2 c2 lo hi : Nat} {r : Rg}
    (hown : w'.ownsRow B 177 5 (.slice Ak' (nk + 1) ck') (nk + 1) ((ks ++ [KM.mk i k x f A2 n2 c2 r lo hi]).flatMap KM.cs))
    (hb : But (fun q => (Value.slice Ak nk ck).ownBlock = some q) w w') (hloc : ∀ q, (Value.slice Ak' (nk + 1) ck').ownBlock = some q → (Value.slice Ak nk ck).ownBlock = some q ∨ w.heap.size ≤ q)
    (hr : RgF lo hi w x f A2 n2 c2 r) (hlo : B ≤ lo) (hhi : hi ≤ w.heap.size)
    (hfar : ∀ q, lo ≤ q → q < hi → (Value.slice Ak nk ck).ownBlock ≠ some q ∧ (Value.slice A n c).ownBlock ≠ some q ∧ ∀ m ∈ ms, m.vv.ownBlock ≠ some q) :
    FSt B w' A n c ms Ak' (nk + 1) ck' (ks ++ [KM.mk i k x f A2 n2 c2 r lo hi]) := by
  have hkn : ∀ q, (Value.slice Ak nk ck).ownBlock = some q → (Value.slice A n c).ownBlock ≠ some q ∧ ∀ m ∈ ms, m.vv.ownBlock ≠ some q := fun q hq =>
    ⟨own_types h.kown h.pt.own (by decide) hq, fun m hm => own_types h.kown (h.pt.ok m hm).own (by decide) hq⟩
  refine ⟨⟨own_but h.pt.own hb fun q hq hs => (hkn q hs).1 hq, h.pt.len, fun m hm => (h.pt.ok m hm).but hb (fun q hq hs => (hkn q hs).2 m hm hq) (fun q h1 h2 hs => h.pfar m hm q h1 h2 hs), h.pt.apart, h.pt.far⟩, hown, by simp [h.klen], fun m hm => ?_, fun m hm q h1 h2 => ?_, fun m hm q h1 h2 hs => ?_⟩
  · rcases List.mem_append.1 hm with hm | hm
    · obtain ⟨h1, h2, h3⟩ := h.krg m hm
      exact ⟨h1.keep fun q q1 q2 => hb.block q (Nat.lt_of_lt_of_le q2 h3) fun hs => (h.kfar m hm q q1 q2).1 hs, h2, Nat.le_trans h3 hb.size⟩
    · rw [List.mem_singleton] at hm
      subst hm
      exact ⟨hr.keep fun q q1 q2 => hb.block q (Nat.lt_of_lt_of_le q2 hhi) fun hs => (hfar q q1 q2).1 hs, hlo, Nat.le_trans hhi hb.size⟩
  · have key : q < w.heap.size ∧ (Value.slice Ak nk ck).ownBlock ≠ some q ∧ (Value.slice A n c).ownBlock ≠ some q ∧ ∀ m' ∈ ms, m'.vv.ownBlock ≠ some q := by
      rcases List.mem_append.1 hm with hm | hm
      · exact ⟨Nat.lt_of_lt_of_le h2 (h.krg m hm).2.2, h.kfar m hm q h1 h2⟩
      · rw [List.mem_singleton] at hm
        subst hm
        exact ⟨Nat.lt_of_lt_of_le h2 hhi, hfar q h1 h2⟩
    refine ⟨fun hs => ?_, key.2.2⟩
    rcases hloc q hs with e | e
    · exact key.2.1 e
    · have := key.1; omega
  · rcases hloc q hs with e | e
    · exact h.pfar m hm q h1 h2 e
    · have h3 := (h.pt.ok m hm).hi; omega
end
/-- the parts are a region in fresh memory, full or not -/
theorem PartsIn.region2 {B : Nat} {w : World} {A : Option Addr} {n c : Nat} {ms : List PM} (h : PartsIn B w A n c ms) (x : Int) (f : Bool) : RgF B w.heap.size w x f A n c (mkR x f (ms.map PM.pr)) := by
  intro w' hw
  have h1 := h.region x w' hw
  refine ⟨w_mk _ _ _, f_mk _ _ _, h1.ok, by rw [h1.len, len_mk, len_mk], fun hn => ?_⟩
  obtain ⟨b, o, e, hp⟩ := h1.ex hn
  refine ⟨b, o, e, RgP.of fun k p hk => ?_⟩
  rw [parts_mk] at hk
  exact hp.at (by rw [parts_mk]; exact hk)
/-- one more part, with its values -/
theorem PartsIn.addv {B : Nat} {w w' : World} {A A' : Option Addr} {n c c' : Nat} {ms : List PM} (h : PartsIn B w A n c ms) {m : PM}
    (hown : w'.ownsRow B 86 4 (.slice A' (n + 1) c') (n + 1) ((ms ++ [m]).flatMap PM.cs))
    (hb : But (fun k => (Value.slice A n c).ownBlock = some k ∨ k < B) w w') (hloc : ∀ k, (Value.slice A' (n + 1) c').ownBlock = some k → (Value.slice A n c).ownBlock = some k ∨ w.heap.size ≤ k)
    (hm : m.Ok B w) (hfR : ∀ k, m.lo ≤ k → k < m.hi → (Value.slice A n c).ownBlock ≠ some k ∧ m.vv.ownBlock ≠ some k ∧ ∀ m' ∈ ms, m'.vv.ownBlock ≠ some k)
    (hfV : ∀ k, m.vv.ownBlock = some k → ∀ m' ∈ ms, m'.vv.ownBlock ≠ some k ∧ ¬ (m'.lo ≤ k ∧ k < m'.hi)) : PartsIn B w' A' (n + 1) c' (ms ++ [m]) := by
  have hkeep : ∀ m' : PM, m'.Ok B w → (∀ k, m'.lo ≤ k → k < m'.hi → (Value.slice A n c).ownBlock ≠ some k) → m'.Ok B w' := fun m' ho hf => by
    refine ho.but hb (fun k hk hs => ?_) (fun k hk1 hk2 hs => ?_)
    · rcases hs with hs | hs
      · exact own_types ho.own h.own (by decide) hk hs
      · have := (own_lt ho.own hk).1; omega
    · rcases hs with hs | hs
      · exact hf k hk1 hk2 hs
      · have := ho.lo; omega
  refine ⟨hown, by simp [h.len], fun m' hm' => ?_, ?_, fun m' hm' k hk1 hk2 => ?_⟩
  · rcases List.mem_append.1 hm' with hm' | hm'
    · exact hkeep m' (h.ok m' hm') fun k h1 h2 => (h.far m' hm' k h1 h2).1
    · rw [List.mem_singleton] at hm'
      subst hm'
      exact hkeep m' hm fun k h1 h2 => (hfR k h1 h2).1
  · refine List.pairwise_append.2 ⟨h.apart, List.pairwise_singleton _ _, fun m1 hm1 m2 hm2 k hk hk2 => ?_⟩
    rw [List.mem_singleton] at hm2
    subst hm2
    exact (hfV k hk2 m1 hm1).1 hk
  · have key : k < w.heap.size ∧ (Value.slice A n c).ownBlock ≠ some k ∧ m.vv.ownBlock ≠ some k ∧ ∀ m' ∈ ms, m'.vv.ownBlock ≠ some k := by
      rcases List.mem_append.1 hm' with hm' | hm'
      · have h1 := h.far m' hm' k hk1 hk2
        exact ⟨Nat.lt_of_lt_of_le hk2 (h.ok m' hm').hi, h1.1, fun hs => (hfV k hs m' hm').2 ⟨hk1, hk2⟩, h1.2⟩
      · rw [List.mem_singleton] at hm'
        subst hm'
        exact ⟨Nat.lt_of_lt_of_le hk2 hm.hi, hfR k hk1 hk2⟩
    refine ⟨fun hs => ?_, fun m2 hm2 => ?_⟩
    · rcases hloc k hs with e | e
      · exact key.2.1 e
      · have := key.1; omega
    · rcases List.mem_append.1 hm2 with hm2 | hm2
      · exact key.2.2.2 m2 hm2
      · rw [List.mem_singleton] at hm2
        subst hm2
        exact key.2.2.1
theorem info_made : (Tryz.prog.info? 177).map (fun i => (i.zero, i.size, i.bytes)) = some (some (.agg #[.int .i64 0, .int .i64 0, .int .i64 0, .bool false, .slice none 0 0]), 5, 56) := by kernel_rfl
end Go.Proofs.YtmnmckblmoalkaaGreat

namespace Go.Proofs.YtmnmckblmoalkaaGreat
open Go.RowKit
set_option maxRecDepth 100000

def cmpR : List Vl → List Vl → Int
  | [], [] => 0
  | [], _ :: _ => -1
  | _ :: _, [] => 1
  | x :: xs, y :: ys => if cmpV x y ≠ 0 then cmpV x y else cmpR xs ys

set_option maxHeartbeats 1000000 in
theorem rcomprows_any (A B : Option Addr) (n m ca cb : Nat) (a b : List Vl) (w : World) (hA : VlS w A n a) (hB : VlS w B m b) (hn : n ≤ 9223372036854775807) (hm : m ≤ 9223372036854775807) :
    Calls Tryz.prog 187 #[.slice A n ca, .slice B m cb] w fun e w' => e = .returned (.int .i64 (cmpR a b)) ∧ Below w.heap.size w w' := by
  have HA := Lib.hid hA
  have HB := Lib.hid hB
  have Hla := Lib.hid hA.len
  have Hlb := Lib.hid hB.len
  clear hA hB
  generalize hr : cmpR a b = r
  have HR : Hid (cmpR (a.drop 0) (b.drop 0) = r) := by show _ = _; simpa using hr
  clear hr
  go_enter Tryz.func187, Tryz.ntmps187
  go_wp2
  go_loopw [5] (fun i wr => ∃ k : Nat, k ≤ n ∧ k ≤ m ∧ i = .int .i64 (k : Int) ∧ Hid (cmpR (a.drop k) (b.drop k) = r) ∧ Below w.heap.size w wr) (fun i _ => n - (intOf i).toNat)
  case atStart => exact ⟨0, by omega, by omega, rfl, HR, Below.refl _ _⟩
  case round =>
    obtain ⟨k, hk, hk', rfl, hinv, hb⟩ := hrel
    by_cases hlt : k < n ∧ k < m
    · obtain ⟨hlt1, hlt2⟩ := hlt
      have g1 : decide (k < n) = true := by simp [hlt1]
      have g2 : decide (k < m) = true := by simp [hlt2]
      obtain ⟨b1, o1, x, rfl, hx, hxc⟩ := (HA.out.keep (keeps_of hb)).at hlt1
      obtain ⟨b2, o2, y, rfl, hy, hyc⟩ := (HB.out.keep (keeps_of hb)).at hlt2
      have Hst : Hid (r = if cmpV x y ≠ 0 then cmpV x y else cmpR (a.drop (k + 1)) (b.drop (k + 1))) := by
        show _ = _
        rw [← hinv.out, drop_at hx, drop_at hy]; rfl
      obtain ⟨xk, xi, xt⟩ := x
      obtain ⟨yk, yi, yt⟩ := y
      obtain ⟨c0, c1, c2⟩ := VlAt.of hxc
      obtain ⟨d0, d1, d2⟩ := VlAt.of hyc
      dsimp only at c0 c1 c2 d0 d1 d2
      clear hx hy hxc hyc
      obtain ⟨v, Hv⟩ : ∃ v, Hid (cmpV ⟨xk, xi, xt⟩ ⟨yk, yi, yt⟩ = v) := ⟨_, rfl⟩
      go_wp2
      have hca := @cell_after wr.drew
      refine wp_region_seg [([0, 1, 2, 3, 4, 5, 6, 7], 8)] [9] (by kernel_rfl) (by kernel_rfl) (fun _ _ d _ _ h => by cases d <;> exact h) ?_
      simp only [pickSegs, pickOps, opAt, List.map_cons, List.map_nil, List.getElem?_toArray, List.getElem?_cons_zero, List.getElem?_cons_succ, Option.getD_some]
      unfold wpBlocks
      repeat (go_big_quiet_step (fail))
      refine wpQuiet_nil ?_
      clear hca
      go_wp2_with (first | (go_at_call 93; refine (rcompare_any ⟨_, _, _⟩ ⟨_, _, _⟩ _).mono ?_; rintro e w1 ⟨rfl, hb1⟩; rw [Hv.out]))
      refine ⟨hb1, ?_⟩
      have hB1 := Below.next hb.drew hb1
      unfold wpBlocks
      repeat (go_big_quiet_step (fail))
      refine wpQuiet_nil ?_
      by_cases hv : v = 0
      · have gv : (v != 0) = false := by simp [hv]
        have HV := Lib.hid hv
        clear hv
        go_wp2
        go_roundw
        case rel => exact ⟨k + 1, by omega, by omega, by go_num, (by show _ = _; have := Hst.out; rw [Hv.out, if_neg (by simp [HV.out])] at this; exact this.symm), hB1⟩
        case measure => simp [intOf]; omega
      · have gv : (v != 0) = true := by simp [hv]
        go_wp2
        go_ret
        exact ⟨ret_i64 (by rw [Hst.out, Hv.out, if_pos hv]), hB1⟩
    · have hend : (k = n ∧ k = m) ∨ (k = n ∧ k < m) ∨ (k < n ∧ k = m) := by omega
      have hla := Hla.out
      have hlb := Hlb.out
      rcases hend with ⟨h1, h2⟩ | ⟨h1, h2⟩ | ⟨h1, h2⟩
      · have g1 : decide (k < n) = false := by simp; omega
        have Hr : Hid (r = 0) := by
          show _ = _
          rw [← hinv.out, List.drop_eq_nil_of_le (by omega), List.drop_eq_nil_of_le (by omega)]; rfl
        obtain rfl : n = m := by omega
        have H1 := Lib.hid h1
        clear h1 h2 hla hlb hlt
        go_wp2
        go_ret
        exact ⟨ret_i64 Hr.out.symm, hb⟩
      · have g1 : decide (k < n) = false := by simp; omega
        have Hr : Hid (r = -1) := by
          show _ = _
          have e1 : a.drop k = [] := List.drop_eq_nil_of_le (by omega)
          rw [← hinv.out, e1, List.drop_eq_getElem_cons (l := b) (i := k) (by omega)]; rfl
        have hnm : n < m := by omega
        clear h1 h2 hla hlb hlt
        go_wp2
        go_ret
        exact ⟨ret_i64 Hr.out.symm, hb⟩
      · have g1 : decide (k < n) = true := by simp; omega
        have g2 : decide (k < m) = false := by simp; omega
        have Hr : Hid (r = 1) := by
          show _ = _
          have e1 : b.drop k = [] := List.drop_eq_nil_of_le (by omega)
          rw [← hinv.out, e1, List.drop_eq_getElem_cons (l := a) (i := k) (by omega)]; rfl
        have hnm : m < n := by omega
        clear h1 h2 hla hlb hlt
        go_wp2
        go_ret
        exact ⟨ret_i64 Hr.out.symm, hb⟩

/-- a row in memory: address, length, capacity -/
abbrev Hd := Option Addr × Nat × Nat
abbrev RowP := Hd × List Vl
def rowc (p : RowP) : List Value := [.slice p.1.1 p.1.2.1 p.1.2.2]
structure RowOk (w : World) (p : RowP) : Prop where
  rd : VlS w p.1.1 p.1.2.1 p.2
  nl : p.1.1 = none → p.1.2.1 = 0 ∧ p.1.2.2 = 0
  le : p.1.2.1 ≤ p.1.2.2
  mx : p.1.2.2 ≤ 9223372036854775807
theorem RowOk.keep {w w' : World} {p : RowP} (h : RowOk w p) (hk : Keeps w w') : RowOk w' p := ⟨h.rd.keep hk, h.nl, h.le, h.mx⟩
/-- a slice of rows -/
structure RowsS (w : World) (A : Option Addr) (n : Nat) (ps : List RowP) : Prop where
  sl : Sl 1 rowc w A n ps
  ok : ∀ p ∈ ps, RowOk w p
theorem RowsS.keep {w w' : World} {A : Option Addr} {n : Nat} {ps : List RowP} (h : RowsS w A n ps) (hk : Keeps w w') : RowsS w' A n ps := ⟨h.sl.keep hk, fun p hp => (h.ok p hp).keep hk⟩
theorem own_forms {w : World} {base : Nat} {e : TypeId} {size n : Nat} {A : Option Addr} {c : Nat} {xs : List Value} (h : w.ownsRow base e size (.slice A n c) n xs) : (A = none → n = 0 ∧ c = 0) ∧ (∀ ad, A = some ad → ad.spot = none) ∧ n ≤ c := by
  rcases h.2 with ⟨hv, hn⟩ | ⟨g, cap, cur, hv, _, _, hnc, _⟩
  · injection hv with h1 h2 h3
    subst h1 h3
    exact ⟨fun _ => ⟨hn, rfl⟩, fun ad h => (by cases h), by omega⟩
  · injection hv with h1 h2 h3
    subst h1 h3
    exact ⟨fun h => (by cases h), fun ad h => (by injection h with h; rw [← h]), hnc⟩

set_option maxHeartbeats 400000 in
theorem copy_any (p : RowP) (w : World) (hp : RowOk w p) (hn : p.1.2.1 ≤ 4398046511104) :
    Calls Tryz.prog 188 #[.slice p.1.1 p.1.2.1 p.1.2.2] w fun e w' => ∃ (A' : Option Addr) (c' : Nat), e = .returned (.slice A' p.1.2.1 c') ∧ w'.ownsRow w.heap.size 49 3 (.slice A' p.1.2.1 c') p.1.2.1 (p.2.flatMap Vl.cs) ∧ Below w.heap.size w w' := by
  obtain ⟨⟨A, n, c⟩, r⟩ := p
  obtain ⟨i0, hi, hz0, hz1, hz2⟩ := info_parts info_vl
  have HP := Lib.hid hp
  clear hp
  dsimp only at hn ⊢
  go_enter Tryz.func188, Tryz.ntmps188
  go_wp2_with (at_builtin; refine wpList_append_sf (cs := Vl.cs) w (by rfl) _ (.tmp 3) _ (by rfl) w.heap.size 49 i0 _ 3 32 Tryz.underlying44 hi hz0 hz1 hz2 (by rfl) (by omega) (.slice none 0 0) 0 [] (by rfl) ⟨by simp, .inl ⟨rfl, rfl⟩⟩ A n c r (by rfl) HP.out.rd HP.out.nl Vl.cs_len one_vl (by simp only [maxLen]; omega) (by omega) (Nat.le_refl _) ?_; intro A1 c1 w1 hown1 hg1 hB1 hat1 hn1; simp only [Nat.zero_add, List.nil_append] at hown1)
  go_ret
  exact ⟨A1, c1, rfl, hown1, hB1⟩
end Go.Proofs.YtmnmckblmoalkaaGreat

/-
  The same law for a region in which some blocks S are written (an append onto a row of the call's own).
-/
namespace Go.Proofs.YtmnmckblmoalkaaGreat
open Go.RowKit
set_option maxRecDepth 100000
set_option linter.unusedVariables false

/-- all worlds in which nothing but the blocks of S has changed -/
structure LaterS (S : Nat → Prop) (w : World) where
  to : World
  but : But S w to
instance (S : Nat → Prop) (w : World) : Nonempty (LaterS S w) := ⟨⟨w, But.refl _ _⟩⟩
instance (S : Nat → Prop) (w : World) : Inhabited (LaterS S w) := ⟨⟨w, But.refl _ _⟩⟩
def afterS (S : Nat → Prop) (w : World) (x : LaterS S w) : World := x.to
theorem cell_afterS {S : Nat → Prop} {w : World} (x : LaterS S w) (a : Addr) (h : (w.cell? a).isSome = true) (hs : ¬ S a.block) : (afterS S w x).cell? a = w.cell? a :=
  World.cell?_of_block (w := w) (x.but.block a.block (cell_lt h) hs)
abbrev clsS (S : Nat → Prop) (w : World) : World → Prop := fun W => ∃ x : LaterS S w, W = afterS S w x
theorem clsS_iff {S : Nat → Prop} {w W : World} : clsS S w W ↔ But S w W := ⟨fun ⟨x, h⟩ => by rw [h]; exact x.but, fun h => ⟨⟨W, h⟩, rfl⟩⟩

section
variable {P : Program} {ops : Array Oper} {Q : Exit → Act → World → Prop} {md : Region.Mode} {S : Nat → Prop}

def wpAnyT (S : Nat → Prop) (P : Program) (md : Region.Mode) (ops : Array Oper) (Q : Exit → Act → World → Prop) : Nat → Array Bool → Act → World → Prop
  | 0, listed, a, w => Region.ready md ops listed = [] ∧ Q .normal a w
  | fuel + 1, listed, a, w =>
    (Region.ready md ops listed = [] → Q .normal a w) ∧
    ∀ i ∈ Region.ready md ops listed, wpOp P ops Q i (fun a' w' => But S w w' ∧ wpAnyT S P md ops Q fuel (listed.setIfInBounds i true) a' w') a w

theorem wpAny_of_T : ∀ (fuel : Nat) (listed : Array Bool) (a : Act) (w : World), wpAnyT S P md ops Q fuel listed a w → wpAny P md ops Q fuel listed a w
  | 0, _, _, _, h => h
  | fuel + 1, _, _, _, h => ⟨h.1, fun i hi => wpOp_mono (fun a' w' h' => wpAny_of_T fuel _ a' w' h'.2) (h.2 i hi)⟩

theorem wpAnyT_first {i : Nat} {oi : Oper} {v : Value} (hi : ops[i]? = some oi) (hsel : ∀ (j : Nat) (o : Oper) cs b, ops[j]? = some o → o.op ≠ .select cs b)
    (hQ : ∀ c a w, Q (.panic c) (a.put oi.dst v) w → Q (.panic c) a w) :
    ∀ (fuel : Nat) (listed : Array Bool) (a : Act) (w : World),
      (∀ j oj, ops[j]? = some oj → j ≠ i → listed.getD j true = false → (∀ e ∈ oj.after, Region.binds md e = true → e.on ≠ i) → oi.apart ops oj = true) →
      i ∈ Region.ready md ops listed → YieldsIf P ops (fun W => But S w W) oi v a →
      wpAnyT S P md ops Q fuel (listed.setIfInBounds i true) (a.put oi.dst v) w → wpAnyT S P md ops Q (fuel + 1) listed a w := by
  intro fuel
  induction fuel with
  | zero =>
    intro listed a w _ hr hy H
    refine ⟨fun h => (by rw [h] at hr; cases hr), fun j hj => ?_⟩
    by_cases hji : j = i
    · subst hji; exact hy.wpOp hi (But.refl _ _) ⟨But.refl _ _, H⟩
    · have := ready_mono hj hji
      rw [H.1] at this
      cases this
  | succ fuel ih =>
    intro listed a w hfree hr hy H
    refine ⟨fun h => (by rw [h] at hr; cases hr), fun j hj => ?_⟩
    by_cases hji : j = i
    · subst hji; exact hy.wpOp hi (But.refl _ _) ⟨But.refl _ _, H⟩
    · have h1 := H.2 j (ready_mono hj hji)
      obtain ⟨hjun, oj, hoj, hall⟩ := mem_ready.1 hj
      have hnot : ∀ e ∈ oj.after, Region.binds md e = true → e.on ≠ i := fun e he hb heq => by
        have h1 := hall e he hb
        have h0 := (mem_ready.1 hr).1
        rw [heq] at h1
        rcases Nat.lt_or_ge i listed.size with h' | h'
        · simp [h'] at h0 h1; rw [h0] at h1; cases h1
        · simp [Array.getElem?_eq_none h'] at h1
      have h2 := wpOp_putIf hoj (hfree j oj hoj hji hjun hnot) (fun cs b => hsel i oi cs b hi) (fun cs b => hsel j oj cs b hoj) hQ hy h1
      have hfree' : ∀ k ok, ops[k]? = some ok → k ≠ i → (listed.setIfInBounds j true).getD k true = false →
          (∀ e ∈ ok.after, Region.binds md e = true → e.on ≠ i) → oi.apart ops ok = true := fun k ok hk hki hun hno => by
        refine hfree k ok hk hki ?_ hno
        by_cases hjk : j = k
        · subst hjk; exact hjun
        · rw [getD_set_ne true hjk] at hun; exact hun
      refine wpOp_mono (fun a' w' h3 => ⟨h3.2.1, ih (listed.setIfInBounds j true) a' w' hfree' (ready_mono hr (Ne.symm hji)) (YieldsIf.shrink (fun W hW => But.trans h3.2.1 hW) h3.1) ?_⟩) h2
      rw [Array.setIfInBounds_comm _ _ hji]
      exact h3.2.2

/-- blocks of operations that only read, each ended by one with an effect; the last block has none -/
def wpSegS (S : Nat → Prop) (P : Program) (ops : Array Oper) (Q : Exit → Act → World → Prop) : List (List Nat × Nat) → List Nat → Act → World → Prop
  | [], last, a, w => wpQuiet P ops (clsS S w) (fun a' => Q .normal a' w) (pickOps ops last) a
  | (qs, e) :: r, last, a, w => wpQuiet P ops (clsS S w) (fun a' => wpOp P ops Q e (fun a'' w' => But S w w' ∧ wpSegS S P ops Q r last a'' w') a' w) (pickOps ops qs) a

theorem quiet_blockS (hns : Region.noSelect ops = true) (hQ : ∀ c a d v w, Q (.panic c) (Act.put a d v) w → Q (.panic c) a w) {K : Act → Prop} {w : World} {fuel : Nat} {l' : Array Bool}
    (hK : ∀ a, K a → wpAnyT S P .any ops Q fuel l' a w) :
    ∀ (qs : List Nat) (listed : Array Bool) (a : Act), checkQ ops qs listed = some l' → wpQuiet P ops (clsS S w) K (pickOps ops qs) a → wpAnyT S P .any ops Q (qs.length + fuel) listed a w
  | [], listed, a, hc, h => by
    simp only [checkQ, Option.some.injEq] at hc
    subst hc
    simp only [List.length_nil, Nat.zero_add]
    exact hK a h
  | i :: r, listed, a, hc, h => by
    unfold checkQ at hc
    split at hc
    · rename_i hcond
      simp only [Bool.and_eq_true] at hcond
      obtain ⟨⟨hp, hr⟩, hf⟩ := hcond
      cases hi : ops[i]? with
      | none => simp [plainAt, hi] at hp
      | some o =>
        simp only [plainAt, hi] at hp
        have hpick : pickOps ops (i :: r) = o :: pickOps ops r := by simp [pickOps, opAt, hi]
        rw [hpick] at h
        unfold wpQuiet at h
        have hlen : (i :: r).length + fuel = (r.length + fuel) + 1 := by simp; omega
        rw [hlen]
        by_cases hw : Region.wanted o (yielded ops a.tmps) = true
        · rw [if_pos hw] at h
          obtain ⟨v, h1, h2⟩ := h
          refine wpAnyT_first hi (Region.noSelect_spec hns) (fun c a w => hQ c a _ _ w) _ listed a w (Region.free_spec hi hf) (by simpa using hr) (v := v) (.inl ⟨hw, fun W hW => ?_⟩) (quiet_blockS hns hQ hK r _ _ hc h2)
          have h3 := h1 W (clsS_iff.2 hW)
          have hg := gives_plain o hp a.eval P W
          unfold Oper.quietAt at h3
          generalize (execOp a.eval o).run P W = res at *
          cases res with
          | ok n w' =>
            cases n <;> simp only [Oper.quietUpon] at h3 <;> simp only [gives] at hg
            obtain ⟨e1, e2⟩ := h3
            rw [e1, e2]
          | halt x w' => simp only [Oper.quietUpon] at h3
        · rw [if_neg hw] at h
          exact wpAnyT_first hi (Region.noSelect_spec hns) (fun c a w => hQ c a _ _ w) _ listed a w (Region.free_spec hi hf) (by simpa using hr) (v := undef) (.inr ⟨by simpa using hw, rfl⟩) (quiet_blockS hns hQ hK r _ _ hc h)
    · cases hc

theorem seg_anyS (hns : Region.noSelect ops = true) (hQ : ∀ c a d v w, Q (.panic c) (Act.put a d v) w → Q (.panic c) a w) (last : List Nat) :
    ∀ (segs : List (List Nat × Nat)) (listed : Array Bool) (a : Act) (w : World), checkS ops segs last listed = true → wpSegS S P ops Q segs last a w → wpAnyT S P .any ops Q (segLen segs last) listed a w
  | [], listed, a, w, hc, h => by
    unfold checkS at hc
    split at hc
    · rename_i l hl
      exact quiet_blockS hns hQ (fuel := 0) (fun a' h' => ⟨by simpa using hc, h'⟩) last listed a hl h
    · cases hc
  | (qs, e) :: r, listed, a, w, hc, h => by
    unfold checkS at hc
    split at hc
    · rename_i l hl
      simp only [Bool.and_eq_true, beq_iff_eq] at hc
      refine quiet_blockS hns hQ (fuel := segLen r last + 1) (fun a' h' => ?_) qs listed a hl h
      refine ⟨fun h0 => (by rw [hc.1] at h0; cases h0), fun i hi => ?_⟩
      rw [hc.1] at hi
      have hie : i = e := by simpa using hi
      subst hie
      exact wpOp_mono (fun a'' w' ⟨hb, h''⟩ => ⟨hb, seg_anyS hns hQ last r _ a'' w' hc.2 h''⟩) h'
    · cases hc

/-- the blocks, the operations themselves -/
def wpBlocksS (S : Nat → Prop) (P : Program) (ops : Array Oper) (Q : Exit → Act → World → Prop) : List (List Oper × Oper) → List Oper → Act → World → Prop
  | [], last, a, w => wpQuiet P ops (fun W => ∃ x : LaterS S w, W = afterS S w x) (fun a' => Q .normal a' w) last a
  | (qs, e) :: r, last, a, w => wpQuiet P ops (fun W => ∃ x : LaterS S w, W = afterS S w x) (fun a' => wpList P ops (Exit.then (fun a'' w' => But S w w' ∧ wpBlocksS S P ops Q r last a'' w') Q) [e] a' w) qs a

theorem seg_of_blocksS (last : List Nat) : ∀ (segs : List (List Nat × Nat)) (a : Act) (w : World), segs.all (fun s => decide (s.2 < ops.size)) = true → wpBlocksS S P ops Q (pickSegs ops segs) (pickOps ops last) a w → wpSegS S P ops Q segs last a w
  | [], a, w, _, h => h
  | (qs, e) :: r, a, w, hl, h => by
    simp only [List.all_cons, Bool.and_eq_true, decide_eq_true_eq] at hl
    have he : ops[e]? = some (opAt ops e) := by
      unfold opAt
      rw [Array.getElem?_eq_getElem hl.1]
      rfl
    unfold pickSegs wpBlocksS at h
    unfold wpSegS
    refine wpQuiet_imp (fun a' h' => ?_) _ _ h
    refine wpOp_mono (fun a'' w' ⟨hb, h''⟩ => ⟨hb, seg_of_blocksS last r a'' w' hl.2 h''⟩) (op_of_list he h')

/-- THE LAW. 'segs', 'last': the order (numbers of operations); the check by kernel_rfl. -/
theorem wp_region_segS {id : Nat} {a : Act} {w : World} {l : List Oper} (S : Nat → Prop) (segs : List (List Nat × Nat)) (last : List Nat) (hm : P.follows .mixedOrders = true)
    (hc : (Region.noSelect l.toArray && (checkS l.toArray segs last (Array.replicate l.toArray.size false) && (decide (segLen segs last = l.toArray.size) && segs.all (fun s => decide (s.2 < l.toArray.size))))) = true)
    (hQ : ∀ c a d v w, Q (.panic c) (Act.put a d v) w → Q (.panic c) a w)
    (h : wpBlocksS S P l.toArray Q (pickSegs l.toArray segs) (pickOps l.toArray last) a w.drew) : (Code.region id l.toArray true).wp P Q a w := by
  simp only [Bool.and_eq_true, decide_eq_true_eq] at hc
  refine wp_region_any hm ?_
  have h1 := seg_anyS hc.1 hQ last segs _ a _ hc.2.1 (seg_of_blocksS last segs a _ hc.2.2.2 h)
  rw [hc.2.2.1] at h1
  exact wpAny_of_T _ _ _ _ h1
end
end Go.Proofs.YtmnmckblmoalkaaGreat
