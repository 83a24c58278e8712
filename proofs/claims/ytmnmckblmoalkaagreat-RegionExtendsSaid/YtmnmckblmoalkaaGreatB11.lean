/-
  Texts: RgBox, Lay.
-/
import Derived.Test.YtmnmckblmoalkaaGreatB10
set_option linter.unusedVariables false
/-
  The program's region functions box and Box.
-/
namespace Go.Proofs.YtmnmckblmoalkaaGreat
open Go.RowKit
set_option maxRecDepth 100000
open Rg

/-- a block that is a region's own three cells holds neither parts nor intervals -/
theorem IvS.off {w w' : World} {B : Nat} {T : TypeId} {x : Int} {f : Bool} {v : Value} (hB : Blk w B T #[.int .i64 x, .bool f, v]) (hb : But (· = B) w w') {A : Option Addr} {n : Nat} {l : List Iv} (h : IvS w A n l) : IvS w' A n l := by
  refine h.but hb fun hn b o hA e => ?_
  subst e
  obtain ⟨b', o', y, hA', _, hc⟩ := h.at hn
  rw [hA] at hA'
  injection hA' with h1
  injection h1 with h1 h2
  subst h1 h2
  have c0 := hc 0 _ rfl
  have c1 := hc 1 _ rfl
  rw [hB.cell] at c0 c1
  simp only [Nat.zero_mul, Nat.add_zero] at c0 c1
  rcases o with _ | _ | _ | o <;> simp at c0 c1
theorem RgP.off {w w' : World} {B : Nat} {T : TypeId} {x : Int} {f : Bool} {A : Option Addr} {n c : Nat} (hB : Blk w B T #[.int .i64 x, .bool f, .slice A n c]) (hb : But (· = B) w w') : ∀ {r : Rg} {b o : Nat}, RgP w r b o → RgP w' r b o
  | .nil _ _, _, _, _ => trivial
  | .cons vs rest tail, b, o, h => by
    obtain ⟨⟨A1, n1, c1, h1, h2, h3⟩, h4, h5, ⟨A', n', c', h6, h7, h8, h9⟩, h10⟩ := h
    have hne : ¬ b = B := by
      intro e
      subst e
      rw [hB.cell] at h1 h4
      rcases o with _ | _ | _ | o <;> simp at h1 h4
    have hk : ∀ j v, w.cell? ⟨b, j, none⟩ = some v → w'.cell? ⟨b, j, none⟩ = some v := fun j v hv => by
      have hlt := cell_lt (w := w) (a := ⟨b, j, none⟩) (by rw [hv]; rfl)
      rw [World.cell?_of_block (w := w) (hb.block b hlt hne)]
      exact hv
    refine ⟨⟨A1, n1, c1, hk _ _ h1, h2, h3.off hB hb⟩, hk _ _ h4, hk _ _ h5, ⟨A', n', c', hk _ _ h6, h7, h8, fun hn => ?_⟩, RgP.off hB hb h10⟩
    obtain ⟨b', o', e, h⟩ := h9 hn
    exact ⟨b', o', e, RgP.off hB hb h⟩
theorem RgS.off {w w' : World} {B : Nat} {T : TypeId} {x' : Int} {f' : Bool} {A' : Option Addr} {n' c' : Nat} (hB : Blk w B T #[.int .i64 x', .bool f', .slice A' n' c']) (hb : But (· = B) w w') {x : Int} {f : Bool} {A : Option Addr} {n c : Nat} {r : Rg} (h : RgS w x f A n c r) : RgS w' x f A n c r :=
  ⟨h.hw, h.hf, h.ok, h.len, fun hn => by
    obtain ⟨b, o, e, hp⟩ := h.ex hn
    exact ⟨b, o, e, hp.off hB hb⟩⟩
/-- the box of some sets -/
def boxR : List (List Iv) → Rg
  | [] => .nil 0 true
  | s :: l => if !s.isEmpty && !(boxR l).nix then .cons s (boxR l) (.nil ((boxR l).w + 1) false) else .nil ((boxR l).w + 1) false
theorem box_w : ∀ l : List (List Iv), (boxR l).w = (l.length : Int)
  | [] => rfl
  | s :: l => by
    unfold boxR
    have ih := box_w l
    split
    · simp only [Rg.w, ih, List.length_cons]; omega
    · simp only [Rg.w, ih, List.length_cons]; omega
/-- a slice of sets -/
abbrev SetP := (Option Addr × Nat × Nat) × List Iv
def setc (p : SetP) : List Value := [.slice p.1.1 p.1.2.1 p.1.2.2]
structure SetsS (w : World) (A : Option Addr) (n : Nat) (ps : List SetP) : Prop where
  sl : Sl 1 setc w A n ps
  ok : ∀ p ∈ ps, okS p.1.1 p.1.2.1 p.1.2.2 ∧ p.1.2.1 ≤ 1000000 ∧ IvS w p.1.1 p.1.2.1 p.2
theorem SetsS.keep {w w' : World} {A : Option Addr} {n : Nat} {ps : List SetP} (h : SetsS w A n ps) (hk : Keeps w w') : SetsS w' A n ps :=
  ⟨h.sl.keep hk, fun p hp => ⟨(h.ok p hp).1, (h.ok p hp).2.1, (h.ok p hp).2.2.keep hk⟩⟩
/-- a region of one part that was built just now -/
theorem RgS.one {w : World} {g : Nat} {T : TypeId} {A : Option Addr} {n c : Nat} {x : Int} {f : Bool} {A' : Option Addr} {n' c' : Nat} {vs : List Iv} {r : Rg} (hB : Blk w g T #[.slice A n c, .int .i64 x, .bool f, .slice A' n' c']) (hok : okS A n c) (hvs : IvS w A n vs) (hr : RgS w x f A' n' c' r) (y : Int) : RgS w y false (some ⟨g, 0, none⟩) 1 1 (.cons vs r (.nil y false)) :=
  ⟨rfl, rfl, ⟨Nat.le_refl _, fun h => by cases h⟩, rfl, fun _ => ⟨g, 0, rfl, ⟨A, n, c, by rw [hB.cell]; rfl, hok, hvs⟩, by rw [hB.cell, hr.hw]; rfl, by rw [hB.cell, hr.hf]; rfl, ⟨A', n', c', by rw [hB.cell]; rfl, hr.ok, hr.len, hr.ex⟩, trivial⟩⟩
theorem box_cons (s : List Iv) (l : List (List Iv)) : boxR (s :: l) = if !s.isEmpty && !(boxR l).nix then .cons s (boxR l) (.nil ((boxR l).w + 1) false) else .nil ((boxR l).w + 1) false := rfl

theorem own_okS {w : World} {base : Nat} {e : TypeId} {sz n c : Nat} {A : Option Addr} {xs : List Value} (h : w.ownsRow base e sz (.slice A n c) n xs) : okS A n c := by
  rcases h.2 with ⟨hv, hn⟩ | ⟨g, cap, cur, hv, _, _, hnc, _⟩
  · injection hv with h1 h2 h3
    exact ⟨by omega, fun _ => ⟨hn, h3⟩⟩
  · injection hv with h1 h2 h3
    exact ⟨by omega, fun h => by rw [h] at h1; cases h1⟩
/-- three cells of a block written -/
def put3R (W : World) (B : Nat) (a b c : Value) : World := ((W.setCell ⟨B, 0, none⟩ a).setCell ⟨B, 1, none⟩ b).setCell ⟨B, 2, none⟩ c
theorem put3R_blk {W : World} {B : Nat} {T : TypeId} {a b c a' b' c' : Value} (h : Blk W B T #[a, b, c]) : Blk (put3R W B a' b' c') B T #[a', b', c'] := ((h.set_ 0 a').set_ 1 b').set_ 2 c'
theorem put3R_but (W : World) (B : Nat) (a b c : Value) : But (· = B) W (put3R W B a b c) :=
  ((But.set (S := fun k => k = B) W (p := ⟨B, 0, none⟩) rfl _).trans (But.set (S := fun k => k = B) _ (p := ⟨B, 1, none⟩) rfl _)).trans (But.set (S := fun k => k = B) _ (p := ⟨B, 2, none⟩) rfl _)
theorem put3R_below {base : Nat} {W0 W : World} {B : Nat} (h : Below base W0 W) (hB : base ≤ B) (a b c : Value) : Below base W0 (put3R W B a b c) := ((h.setCell (p := ⟨B, 0, none⟩) hB a).setCell (p := ⟨B, 1, none⟩) hB b).setCell (p := ⟨B, 2, none⟩) hB c
theorem put3R_size (W : World) (B : Nat) (a b c : Value) : (put3R W B a b c).heap.size = W.heap.size := by simp [put3R, World.setCell]
/-- what a walk over a store of three cells asks -/
theorem put3R_free {W : World} {B : Nat} {T : TypeId} {x y z : Value} (h : Blk W B T #[x, y, z]) (a b : Value) : (∀ j, W.frozen? ⟨B, j, none⟩ = false) ∧ (∀ j, (W.setCell ⟨B, 0, none⟩ a).frozen? ⟨B, j, none⟩ = false) ∧ (∀ j, ((W.setCell ⟨B, 0, none⟩ a).setCell ⟨B, 1, none⟩ b).frozen? ⟨B, j, none⟩ = false) := ⟨h.free, (h.set_ 0 a).free, ((h.set_ 0 a).set_ 1 b).free⟩
set_option maxRecDepth 8000 in
set_option maxHeartbeats 4000000 in
theorem box_any (A : Option Addr) (n c : Nat) (ps : List SetP) (w : World) (hs : SetsS w A n ps) (hn : n ≤ 12) :
    Calls Tryz.prog 103 #[.slice A n c] w fun e w' => ∃ (x : Int) (f : Bool) (A' : Option Addr) (n' c' : Nat), e = .returned (.agg #[.int .i64 x, .bool f, .slice A' n' c']) ∧ RgS w' x f A' n' c' (boxR (ps.map (·.2))) ∧ Below w.heap.size w w' := by
  obtain ⟨i0, hi, hz0, hz1, hz2⟩ := info_parts info_iv
  have HS := Lib.hid hs
  have Hln := Lib.hid hs.sl.len
  clear hs
  go_enter Tryz.func103, Tryz.ntmps103
  go_wp2
  go_loopw [4] (fun i wr => ∃ (k : Nat) (z : Int) (x : Int) (f : Bool) (A' : Option Addr) (n' c' : Nat), k ≤ n ∧ i = .int .i64 z ∧ Hid (z = (k : Int) - 1) ∧ Blk wr (w.heap.size + 1) 27 #[.int .i64 x, .bool f, .slice A' n' c'] ∧ Blk wr w.heap.size 27 #[.int .i64 0, .bool false, .slice none 0 0] ∧ Hid (RgS wr x f A' n' c' (boxR ((ps.map (·.2)).drop k))) ∧ Below w.heap.size w wr) (fun i _ => (intOf i + 1).toNat)
  case atStart =>
    refine ⟨n, (n : Int) - 1, 0, true, none, 0, 0, by omega, rfl, rfl, ?_, ?_, ?_, ?_⟩
    · have := Blk.new (w.alloc (.cells #[.int .i64 0, .bool false, .slice none 0 0] 27)) 27 #[.int .i64 0, .bool true, .slice none 0 0]
      rw [World.size_alloc] at this
      exact this
    · exact (Blk.new w _ _).alloc _
    · show RgS _ _ _ _ _ _ _
      rw [List.drop_eq_nil_of_le (by rw [List.length_map, Hln.out]; omega)]
      exact RgS.nil _ _
    · exact ((Below.refl _ _).alloc (Nat.le_refl _) _).alloc (by simp) _
  case round =>
    obtain ⟨k, z, x, f, A', n', c', hk, rfl, Hz, hbk, hbk0, HRg, hb⟩ := hrel
    have hzz := hbk.cell
    have hlt := hbk.lt
    rcases Nat.eq_zero_or_pos k with hk0 | hk0
    · obtain rfl : z = -1 := by have := Hz.out; omega
      have hy0 := hbk0.cell
      obtain ⟨ff1, ff2, ff3⟩ := put3R_free hbk0 (.int .i64 x) (.bool f)
      have F1 : Hid (Blk _ _ _ #[.int .i64 x, .bool false, .slice none 0 0]) := Lib.hid (hbk0.set_ 0 (.int .i64 x))
      have F2 : Hid (Blk _ _ _ #[.int .i64 x, .bool f, .slice none 0 0]) := Lib.hid (F1.out.set_ 1 (.bool f))
      have F3 : Hid (Blk _ _ _ #[.int .i64 x, .bool f, .slice A' n' c']) := Lib.hid (F2.out.set_ 2 (.slice A' n' c'))
      have y1 := F1.out.cell
      have y2 := F2.out.cell
      have y3 := F3.out.cell
      have HBr := Lib.hid (put3R_below hb (Nat.le_refl _) (.int .i64 x) (.bool f) (.slice A' n' c'))
      have HRr := Lib.hid (RgS.off hbk0 (put3R_but wr w.heap.size (.int .i64 x) (.bool f) (.slice A' n' c')) HRg.out)
      go_wp2
      refine bodyPost_ret (v := .agg #[.int .i64 x, .bool f, .slice A' n' c']) (by simp [results, Tryz.results103, go_sem, y3]) rfl ⟨x, f, A', n', c', rfl, ?_, HBr.out⟩
      have := HRr.out
      rw [hk0, List.drop_zero] at this
      exact this
    · obtain ⟨j, rfl⟩ : ∃ j : Nat, z = (j : Int) := ⟨k - 1, by have := Hz.out; omega⟩
      obtain rfl : k = j + 1 := by have := Hz.out; omega
      clear Hz hk0
      obtain ⟨b, o, p, rfl, hp, hpc⟩ := HS.out.sl.at (show j < n by omega)
      have hpo := HS.out.ok p (List.mem_of_getElem? hp)
      have Hd : Hid ((ps.map (·.2)).drop j = p.2 :: (ps.map (·.2)).drop (j + 1)) := by
        show _ = _
        rw [drop_at (k := j) (x := p.2) (by rw [List.getElem?_map, hp]; rfl)]
      have hx : x = ((n - (j + 1) : Nat) : Int) := by
        have h1 := HRg.out.hw
        rw [box_w] at h1
        have := Hln.out
        simp at h1
        omega
      have hxb : 0 ≤ x ∧ x ≤ 12 := by omega
      clear hx
      have e1 := keep_cell ((keeps_of hb).trans (keeps_alloc wr (.cells #[.int .i64 (x + 1), .bool false, .slice none 0 0] 27))) (hpc 0 _ rfl)
      obtain ⟨⟨A1, n1, c1⟩, l⟩ := p
      dsimp only [setc] at e1 hpo
      simp only [Nat.mul_one, Nat.add_zero] at e1
      have HPO := Lib.hid hpo
      clear hp hpc hpo
      have HT := Lib.hid (hbk.alloc (.cells #[.int .i64 (x + 1), .bool false, .slice none 0 0] 27))
      have HT0 := Lib.hid (hbk0.alloc (.cells #[.int .i64 (x + 1), .bool false, .slice none 0 0] 27))
      have HN := Lib.hid (Blk.new wr 27 #[.int .i64 (x + 1), .bool false, .slice none 0 0])
      have hzt := HT.out.cell
      have HBN := Lib.hid ((Below.refl wr.heap.size wr).alloc (Nat.le_refl _) (.cells #[.int .i64 (x + 1), .bool false, .slice none 0 0] 27))
      by_cases hn1 : n1 = 0
      · have g2 : decide (0 < n1) = false := by simp [hn1]
        have hne : ¬ wr.heap.size = w.heap.size + 1 := by omega
        have hft := HT.out.free
        obtain ⟨ff1, ff2, ff3⟩ := put3R_free hbk (.int .i64 (x + 1)) (.bool false)
        have ff4 := (((hbk.set_ 0 (.int .i64 (x + 1))).set_ 1 (.bool false)).alloc (.cells #[.int .i64 (x + 1), .bool false, .slice none 0 0] 27)).free
        have ff5 := (((hbk.set_ 0 (.int .i64 (x + 1)))).alloc (.cells #[.int .i64 (x + 1), .bool false, .slice none 0 0] 27)).free
        have Hnil : Hid (l = []) := List.eq_nil_of_length_eq_zero (by have := HPO.out.2.2.len; omega)
        clear hn1
        go_wp2
        go_roundw
        case rel =>
          refine ⟨j, _, x + 1, false, none, 0, 0, by omega, rfl, rfl, (put3R_blk hbk).alloc _, (hbk0.but (put3R_but wr _ _ _ _) (by omega)).alloc _, ?_, (put3R_below hb (by omega) _ _ _).alloc (put3R_below hb (by omega) _ _ _).size _⟩
          show RgS _ _ _ _ _ _ _
          rw [Hd.out, box_cons, Hnil.out, HRg.out.hw]
          exact RgS.nil _ _
        case measure => simp [intOf]
      · have g2 : decide (0 < n1) = true := by simp; omega
        go_wp2_with fail
        refine (rempty_any x f A' n' c' _ _ (HRg.out.keep (keeps_of HBN.out))).mono ?_
        rintro e w1 ⟨rfl, hb1⟩
        obtain ⟨v1, Hv1⟩ : ∃ t, Hid ((boxR ((ps.map (·.2)).drop (j + 1))).nix = t) := ⟨_, rfl⟩
        rw [Hv1.out]
        have E1 := Lib.hid e1
        clear hzt e1
        have HT1 := Lib.hid (HT.out.below hb1)
        have HN1 := Lib.hid (HN.out.below hb1)
        have hzt := HT1.out.cell
        have hzn := HN1.out.cell
        have hft := HT1.out.free
        cases v1
        · have hsz1 := hb1.size
          simp only [World.size_alloc] at hsz1
          have hB1 := Below.next HBN.out hb1
          have E1' := Lib.hid (((HS.out.keep (keeps_of (Below.next hb hB1))).keep (keeps_alloc w1 (.cells #[] 90))).sl.at (show j < n by omega))
          have e1 : (w1.alloc (.cells #[] 90)).cell? ⟨b, o + j, none⟩ = some (.slice A1 n1 c1) := by
            rw [World.cell?_alloc_lt w1 _ _ (by have h := cell_lt (w := wr.alloc (.cells #[.int .i64 (x + 1), .bool false, .slice none 0 0] 27)) (a := ⟨b, o + j, none⟩) (by rw [E1.out]; rfl); simp only [World.size_alloc] at h; dsimp only; omega), keeps_of hb1 _ (by rw [E1.out]; rfl)]
            exact E1.out
          have hIv := (HPO.out.2.2.keep (keeps_of (Below.next hb hB1))).keep (keeps_alloc w1 (.cells #[] 90))
          have HIv := Lib.hid hIv
          have hn1b := HPO.out.2.1
          have HB1 := Lib.hid hB1
          have HB1x := Lib.hid hb1
          clear hIv hB1 E1' hb1
          go_wp2_with (at_builtin; refine wpList_append_sf (cs := Iv.cs) (w1.alloc (.cells #[] 90)) (by rfl) _ (.tmp 34) _ (by rfl) w1.heap.size 90 i0 _ 7 72 Tryz.underlying72 hi hz0 hz1 hz2 (by rfl) (by omega) (.slice (some ⟨w1.heap.size, 0, none⟩) 0 0) 0 [] (by rfl) ⟨by simp, .inr ⟨w1.heap.size, 0, #[], rfl, Nat.le_refl _, heap_alloc_new w1 _, Nat.le_refl _, by simp [maxLen], by simp, by simp⟩⟩ A1 n1 c1 l (by rfl) HIv.out HPO.out.1.2 Iv.cs_len one_iv (by simp only [maxLen]; omega) (by omega) (by simp) ?_; intro A2 c2 w2 hown2 hg2 hB2 hat2 hnl2; simp only [Nat.zero_add, List.nil_append] at hown2; have HB2 : Hid (Below w1.heap.size w1 w2) := Lib.hid (((Below.refl _ _).alloc (Nat.le_refl _) _).trans hB2); have T2 := Lib.hid (HT1.out.below HB2.out); have N2 := Lib.hid (HN1.out.below HB2.out); have hsz2 := HB2.out.size; clear hzt hzn hft e1; have hzt := T2.out.cell; have hzn := N2.out.cell; have hfn := N2.out.free; have hfn2 := (N2.out.alloc (.cells #[.slice A2 n1 c2, .int .i64 x, .bool f, .slice A' n' c'] 86)).free; have hfn3 := (N2.out.alloc (.cells #[.slice A2 n1 c2, .int .i64 x, .bool f, .slice A' n' c'] 86)).cell; have hBN : ¬ w.heap.size + 1 = wr.heap.size := (by omega); have N3 := Lib.hid ((N2.out.alloc (.cells #[.slice A2 n1 c2, .int .i64 x, .bool f, .slice A' n' c'] 86)).set_ 2 (.slice (some ⟨w2.heap.size, 0, none⟩) 1 1)); have T3 := Lib.hid ((T2.out.alloc (.cells #[.slice A2 n1 c2, .int .i64 x, .bool f, .slice A' n' c'] 86)).far (p := ⟨wr.heap.size, 2, none⟩) hBN (.slice (some ⟨w2.heap.size, 0, none⟩) 1 1)); have T4 : Hid (Blk _ _ _ #[.int .i64 (x + 1), .bool f, .slice A' n' c']) := Lib.hid (T3.out.set_ 0 (.int .i64 (x + 1))); have T5 : Hid (Blk _ _ _ #[.int .i64 (x + 1), .bool false, .slice A' n' c']) := Lib.hid (T4.out.set_ 1 (.bool false)); have N4 : Hid (Blk _ _ _ #[.int .i64 (x + 1), .bool false, .slice (some ⟨w2.heap.size, 0, none⟩) 1 1]) := Lib.hid N3.out; have hm0 := N4.out.cell; have hs1 := T3.out.free; have hs3 := T4.out.free; have hs5 := T5.out.free; have hq0 := T3.out.cell; have hq1 := T4.out.cell; have hq2 := T5.out.cell)
          go_roundw
          case rel =>
            have P2 := (Blk.new w2 86 #[.slice A2 n1 c2, .int .i64 x, .bool f, .slice A' n' c']).far (p := ⟨wr.heap.size, 2, none⟩) (by dsimp only; omega) (.slice (some ⟨w2.heap.size, 0, none⟩) 1 1)
            have hBu : But (· = wr.heap.size) (w2.alloc (.cells #[.slice A2 n1 c2, .int .i64 x, .bool f, .slice A' n' c'] 86)) ((w2.alloc (.cells #[.slice A2 n1 c2, .int .i64 x, .bool f, .slice A' n' c'] 86)).setCell ⟨wr.heap.size, 2, none⟩ (.slice (some ⟨w2.heap.size, 0, none⟩) 1 1)) := But.set (S := fun k => k = wr.heap.size) _ (p := ⟨wr.heap.size, 2, none⟩) rfl _
            have hNa := N2.out.alloc (.cells #[.slice A2 n1 c2, .int .i64 x, .bool f, .slice A' n' c'] 86)
            have hI2 := ((Sl.of_own (cs := Iv.cs) Iv.cs_len HPO.out.2.2.len hown2).keep (keeps_alloc w2 (.cells #[.slice A2 n1 c2, .int .i64 x, .bool f, .slice A' n' c'] 86)))
            have hI3 := IvS.off hNa hBu hI2
            have hR2 := ((HRg.out.keep (keeps_of HB1.out)).keep (keeps_of HB2.out)).keep (keeps_alloc w2 (.cells #[.slice A2 n1 c2, .int .i64 x, .bool f, .slice A' n' c'] 86))
            have hR3 := RgS.off hNa hBu hR2
            have hPB := put3R_but ((w2.alloc (.cells #[.slice A2 n1 c2, .int .i64 x, .bool f, .slice A' n' c'] 86)).setCell ⟨wr.heap.size, 2, none⟩ (.slice (some ⟨w2.heap.size, 0, none⟩) 1 1)) (w.heap.size + 1) (.int .i64 (x + 1)) (.bool false) (.slice (some ⟨w2.heap.size, 0, none⟩) 1 1)
            have hI4 := IvS.off T3.out hPB hI3
            have hR4 := RgS.off T3.out hPB hR3
            have hP4 := P2.but hPB (by omega)
            have hB3 := ((Below.next (Below.next hb HB1.out) HB2.out).alloc (Below.next (Below.next hb HB1.out) HB2.out).size (.cells #[.slice A2 n1 c2, .int .i64 x, .bool f, .slice A' n' c'] 86)).setCell (p := ⟨wr.heap.size, 2, none⟩) (by dsimp only; omega) (.slice (some ⟨w2.heap.size, 0, none⟩) 1 1)
            have hT0 := ((((HT0.out.below HB1x.out).below HB2.out).alloc (.cells #[.slice A2 n1 c2, .int .i64 x, .bool f, .slice A' n' c'] 86)).far (p := ⟨wr.heap.size, 2, none⟩) (by dsimp only; omega) (.slice (some ⟨w2.heap.size, 0, none⟩) 1 1)).but hPB (by omega)
            refine ⟨j, _, x + 1, false, some ⟨w2.heap.size, 0, none⟩, 1, 1, by omega, rfl, rfl, put3R_blk T3.out, hT0, ?_, put3R_below hB3 (by omega) _ _ _⟩
            show RgS _ _ _ _ _ _ _
            have hne : l.isEmpty = false := by
              have := HPO.out.2.2.len
              cases l with
              | nil => simp at this; omega
              | cons y l => rfl
            rw [Hd.out, box_cons, Hv1.out, HRg.out.hw, hne]
            exact RgS.one hP4 (own_okS hown2) hI4 hR4 _
          case measure => simp [intOf]
        · obtain ⟨ff1, ff2, ff3⟩ := put3R_free HT1.out (.int .i64 (x + 1)) (.bool false)
          have HT01 := Lib.hid (HT0.out.below hb1)
          go_wp2
          go_roundw
          case rel =>
            have hB1 := Below.next hb (Below.next HBN.out hb1)
            refine ⟨j, _, x + 1, false, none, 0, 0, by omega, rfl, rfl, put3R_blk HT1.out, HT01.out.but (put3R_but w1 _ _ _ _) (by omega), ?_, put3R_below hB1 (by omega) _ _ _⟩
            show RgS _ _ _ _ _ _ _
            rw [Hd.out, box_cons, Hv1.out, HRg.out.hw]
            simp only [Bool.not_true, Bool.and_false, Bool.false_eq_true, if_false]
            exact RgS.nil _ _
          case measure => simp [intOf]

/-- Box: the box, or an error -/
def boxErr (l : List (List Iv)) : Int := if l.length > 12 then 1 else if l.all validL then 0 else 30
def boxRes (l : List (List Iv)) : Rg := if boxErr l = 0 then boxR l else zeroR
theorem boxErr_bad {l : List (List Iv)} {s : List Iv} (h : ¬ l.length > 12) (hs : s ∈ l) (hv : validL s = false) : boxErr l = 30 := by
  unfold boxErr
  rw [if_neg h, if_neg]
  intro h2
  rw [List.all_eq_true] at h2
  rw [h2 s hs] at hv
  cases hv

set_option maxRecDepth 8000 in
set_option maxHeartbeats 4000000 in
theorem Box_any (A : Option Addr) (n c : Nat) (ps : List SetP) (w : World) (hs : SetsS w A n ps) :
    Calls Tryz.prog 54 #[.slice A n c] w fun e w' => RgRes w (boxRes (ps.map (·.2))) (boxErr (ps.map (·.2))) e w' := by
  have HS := Lib.hid hs
  have Hln := Lib.hid hs.sl.len
  clear hs
  have E0 := Lib.hid (Blk.new w 27 #[.int .i64 0, .bool false, .slice none 0 0])
  have HB0 := Lib.hid ((Below.refl w.heap.size w).alloc (Nat.le_refl _) (.cells #[.int .i64 0, .bool false, .slice none 0 0] 27))
  generalize hre : boxErr (ps.map (·.2)) = re
  generalize hrr : boxRes (ps.map (·.2)) = rr
  have HRE := Lib.hid hre
  have HRR := Lib.hid hrr
  clear hre hrr
  rcases Nat.lt_or_ge 12 n with h12 | h12
  · have g1 : decide (12 < n) = true := by simp; omega
    have e1 : re = 1 := by rw [← HRE.out]; simp [boxErr, Hln.out]; omega
    have e2 : rr = zeroR := by rw [← HRR.out]; simp [boxRes, HRE.out, e1]
    subst e1 e2
    go_enter Tryz.func54, Tryz.ntmps54
    go_wp2
    refine bodyPost_ret (v := .tuple #[.agg #[.int .i64 0, .bool false, .slice none 0 0], .int .i64 1]) (by simp [results, Tryz.results54, go_sem]) rfl ⟨0, false, none, 0, 0, rfl, RgS.nil _ _, ?_⟩
    repeat (first | exact HB0.out | exact Below.refl _ _ | refine Below.setCell ?_ (by simp) _ | refine Below.alloc ?_ (by simp) _)
  · have g1 : decide (12 < n) = false := by simp; omega
    obtain ⟨W0, HW0⟩ : ∃ W : World, Hid (w.alloc (.cells #[.int .i64 0, .bool false, .slice none 0 0] 27) = W) := ⟨_, rfl⟩
    rw [HW0.out] at E0 HB0
    go_enter Tryz.func54, Tryz.ntmps54
    go_wp2
    go_loopw [12] (fun i wr => ∃ k : Nat, k ≤ n ∧ i = .int .i64 (k : Int) ∧ Hid (∀ p ∈ ps.take k, validL p.2 = true) ∧ Below W0.heap.size W0 wr) (fun i _ => n - (intOf i).toNat)
    case atStart => exact ⟨0, by omega, rfl, (by show ∀ p ∈ _, _; simp), by rw [HW0.out]; exact Below.refl _ _⟩
    case round =>
      obtain ⟨k, hk, rfl, hinv, hb⟩ := hrel
      have hbw := Below.next HB0.out hb
      have E1 := Lib.hid (E0.out.below hb)
      have hc1 := E1.out.cell
      obtain ⟨ff1, ff2, ff3⟩ := put3R_free E1.out (.int .i64 0) (.bool false)
      by_cases hlt : k < n
      · obtain ⟨b, o, p, rfl, hp, hpc⟩ := (HS.out.keep (keeps_of hbw)).sl.at hlt
        have hpo := (HS.out.keep (keeps_of hbw)).ok p (List.mem_of_getElem? hp)
        have e1 := hpc 0 _ rfl
        have HP := Lib.hid hp
        obtain ⟨⟨A1, n1, c1⟩, l⟩ := p
        dsimp only [setc] at e1 hpo
        simp only [Nat.mul_one, Nat.add_zero] at e1
        have HPO := Lib.hid hpo
        clear hp hpc hpo
        go_wp2_with fail
        refine (validL_any A1 n1 c1 l _ HPO.out.2.2).mono ?_
        rintro e w1 ⟨rfl, hb1⟩
        obtain ⟨v, Hv⟩ : ∃ t, Hid (validL l = t) := ⟨_, rfl⟩
        rw [Hv.out]
        have E2 := Lib.hid (E1.out.below hb1)
        clear hc1 ff1 ff2 ff3 e1
        have hc1 := E2.out.cell
        cases v
        · have e1 : re = 30 := by
            rw [← HRE.out]
            exact boxErr_bad (s := l) (by simp [Hln.out]; omega) (List.mem_map.2 ⟨_, List.mem_of_getElem? HP.out, rfl⟩) Hv.out
          have e2 : rr = zeroR := by rw [← HRR.out]; simp [boxRes, HRE.out, e1]
          subst e1 e2
          obtain ⟨ff1, ff2, ff3⟩ := put3R_free E2.out (.int .i64 0) (.bool false)
          have F1 : Hid (Blk _ _ _ #[.int .i64 0, .bool false, .slice none 0 0]) := Lib.hid (E2.out.set_ 0 (.int .i64 0))
          have F2 : Hid (Blk _ _ _ #[.int .i64 0, .bool false, .slice none 0 0]) := Lib.hid (F1.out.set_ 1 (.bool false))
          have F3 : Hid (Blk _ _ _ #[.int .i64 0, .bool false, .slice none 0 0]) := Lib.hid (F2.out.set_ 2 (.slice none 0 0))
          have y1 := F1.out.cell
          have y2 := F2.out.cell
          have y3 := F3.out.cell
          have HBr := Lib.hid (put3R_below (Below.next hbw hb1) (Nat.le_refl _) (.int .i64 0) (.bool false) (.slice none 0 0))
          go_wp2
          refine bodyPost_ret (v := .tuple #[.agg #[.int .i64 0, .bool false, .slice none 0 0], .int .i64 30]) (by simp [results, Tryz.results54, go_sem, y3]) rfl ⟨0, false, none, 0, 0, rfl, RgS.nil _ _, HBr.out⟩
        · go_wp2
          go_roundw
          case rel =>
            refine ⟨k + 1, by omega, by go_num, ?_, Below.next hb hb1⟩
            show ∀ p ∈ _, _
            rw [take_snoc' HP.out]
            intro q hq
            rcases List.mem_append.1 hq with hq | hq
            · exact hinv.out q hq
            · have : q = ((A1, n1, c1), l) := by simpa using hq
              rw [this]; exact Hv.out
          case measure => simp [intOf]; omega
      · have e1 : re = 0 := by
          rw [← HRE.out]
          have h1 := hinv.out
          rw [List.take_of_length_le (by have := Hln.out; omega)] at h1
          unfold boxErr
          rw [if_neg (by simp [Hln.out]; omega), if_pos]
          rw [List.all_eq_true]
          intro s hs
          obtain ⟨q, hq, rfl⟩ := List.mem_map.1 hs
          exact h1 q hq
        have e2 : boxR (ps.map (·.2)) = rr := by rw [← HRR.out]; simp [boxRes, HRE.out, e1]
        subst e1 e2
        clear ff1 ff2 ff3
        go_wp2_with fail
        refine (box_any A n c ps _ (HS.out.keep (keeps_of hbw)) (by omega)).mono ?_
        rintro e w1 ⟨x, f, A', n', c', rfl, hR, hb1⟩
        have E2 := Lib.hid (E1.out.below hb1)
        clear hc1
        have hc1 := E2.out.cell
        have HR1 := Lib.hid hR
        clear hR
        obtain ⟨ff1, ff2, ff3⟩ := put3R_free E2.out (.int .i64 x) (.bool f)
        have F1 : Hid (Blk _ _ _ #[.int .i64 x, .bool false, .slice none 0 0]) := Lib.hid (E2.out.set_ 0 (.int .i64 x))
        have F2 : Hid (Blk _ _ _ #[.int .i64 x, .bool f, .slice none 0 0]) := Lib.hid (F1.out.set_ 1 (.bool f))
        have F3 : Hid (Blk _ _ _ #[.int .i64 x, .bool f, .slice A' n' c']) := Lib.hid (F2.out.set_ 2 (.slice A' n' c'))
        have y1 := F1.out.cell
        have y2 := F2.out.cell
        have y3 := F3.out.cell
        have HBr := Lib.hid (put3R_below (Below.next hbw hb1) (Nat.le_refl _) (.int .i64 x) (.bool f) (.slice A' n' c'))
        have HRr := Lib.hid (RgS.off E2.out (put3R_but w1 w.heap.size (.int .i64 x) (.bool f) (.slice A' n' c')) HR1.out)
        go_wp2
        refine bodyPost_ret (v := .tuple #[.agg #[.int .i64 x, .bool f, .slice A' n' c'], .int .i64 0]) (by simp [results, Tryz.results54, go_sem, y3]) rfl ⟨x, f, A', n', c', rfl, HRr.out, HBr.out⟩
end Go.Proofs.YtmnmckblmoalkaaGreat

/-
  A call that only lays blocks and draws; value.Compare in these words.
-/
namespace Go.Proofs.YtmnmckblmoalkaaGreat
open Go.RowKit
set_option maxRecDepth 100000

/-- nothing that was there has changed, and the draws go on -/
structure Lay (w w' : World) : Prop where
  bel : Below w.heap.size w w'
  dr : w.drawn ≤ w'.drawn
theorem Lay.refl (w : World) : Lay w w := ⟨Below.refl _ _, Nat.le_refl _⟩
theorem Lay.drew {w w' : World} (h : Lay w w') : Lay w w'.drew := ⟨h.bel.drew, Nat.le_succ_of_le h.dr⟩
theorem Lay.alloc {w w' : World} (h : Lay w w') (o : Obj) : Lay w (w'.alloc o) := ⟨h.bel.alloc h.bel.size o, h.dr⟩
theorem Lay.trans {a b c : World} (h : Lay a b) (k : Lay b c) : Lay a c := ⟨Below.next h.bel k.bel, Nat.le_trans h.dr k.dr⟩
set_option maxHeartbeats 400000 in
theorem compareL_any (a b : Vl) (w : World) :
    Calls Tryz.prog 87 #[.agg #[.int .i64 a.k, .int .i64 a.i, .string a.t], .agg #[.int .i64 b.k, .int .i64 b.i, .string b.t]] w fun e w' => e = .returned (.int .i64 (cmpV a b)) ∧ Lay w w' := by
  obtain ⟨k, i, t⟩ := a
  obtain ⟨k', i', t'⟩ := b
  go_enter Tryz.func87, Tryz.ntmps87
  go_wp2_with (first
    | (go_at_call 133; refine (cmpInt_any _ _ _).mono ?_; rintro e w' ⟨rfl, rfl⟩)
    | (go_at_call 134; refine (cmpInt64_any _ _ _).mono ?_; rintro e w' ⟨rfl, rfl⟩)
    | (go_at_call 135; refine (cmpStr_any _ _ _).mono ?_; rintro e w' ⟨rfl, rfl⟩))
  all_goals
    go_ret
    refine ⟨ret_i64 ?_, by repeat (first | exact Lay.refl _ | apply Lay.drew | refine Lay.alloc ?_ _)⟩
    rw [cmpV_of]
    simp_all [cmpI_self, cmpB_self]
end Go.Proofs.YtmnmckblmoalkaaGreat
