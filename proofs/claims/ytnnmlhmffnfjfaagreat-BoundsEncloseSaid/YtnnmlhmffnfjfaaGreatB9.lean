/-
  Texts: RgBox, Cols, Lay, RgSmall, EvP, EncV.
-/
import Derived.Test.YtnnmlhmffnfjfaaGreatB8
import Derived.Lib.AppendStr
set_option linter.unusedVariables false
set_option maxRecDepth 100000
namespace Go.Proofs.YtnnmlhmffnfjfaaGreat
open Go.RowKit
open Rg
theorem IvS.off {w w' : World} {B : Nat} {T : TypeId} {x : Int} {f : Bool} {v : Value} (hB : Blk w B T #[.int .i64 x, .bool f, v]) (hb : But (· = B) w w') {A : Option Addr} {n : Nat} {l : List Iv} (h : IvS w A n l) : IvS w' A n l := by
 refine h.but hb fun hn b o hA e => ?_
 subst e
 obtain ⟨b', o', y, hA', _, hc⟩ := h.at hn
 rw [hA] at hA'
 injection hA' with h1
 injection h1 with h1 h2
 subst h1 h2
 have c0 := hc 0 _ rfl
 have c1 := hc 1 _ rfl
 rw [hB.cell] at c0 c1
 simp only [Nat.zero_mul, Nat.add_zero] at c0 c1
 rcases o with _ | _ | _ | o <;> simp at c0 c1
theorem RgP.off {w w' : World} {B : Nat} {T : TypeId} {x : Int} {f : Bool} {A : Option Addr} {n c : Nat} (hB : Blk w B T #[.int .i64 x, .bool f, .slice A n c]) (hb : But (· = B) w w') : ∀ {r : Rg} {b o : Nat}, RgP w r b o → RgP w' r b o
 | .nil _ _, _, _, _ => trivial
 | .cons vs rest tail, b, o, h => by
   obtain ⟨⟨A1, n1, c1, h1, h2, h3⟩, h4, h5, ⟨A', n', c', h6, h7, h8, h9⟩, h10⟩ := h
   have hne : ¬ b = B := by
    intro e
    subst e
    rw [hB.cell] at h1 h4
    rcases o with _ | _ | _ | o <;> simp at h1 h4
   have hk : ∀ j v, w.cell? ⟨b, j, none⟩ = some v → w'.cell? ⟨b, j, none⟩ = some v := fun j v hv => by
    have hlt := cell_lt (w := w) (a := ⟨b, j, none⟩) (by rw [hv]; rfl)
    rw [World.cell?_of_block (w := w) (hb.block b hlt hne)]
    exact hv
   refine ⟨⟨A1, n1, c1, hk _ _ h1, h2, h3.off hB hb⟩, hk _ _ h4, hk _ _ h5, ⟨A', n', c', hk _ _ h6, h7, h8, fun hn => ?_⟩, RgP.off hB hb h10⟩
   obtain ⟨b', o', e, h⟩ := h9 hn
   exact ⟨b', o', e, RgP.off hB hb h⟩
theorem RgS.off {w w' : World} {B : Nat} {T : TypeId} {x' : Int} {f' : Bool} {A' : Option Addr} {n' c' : Nat} (hB : Blk w B T #[.int .i64 x', .bool f', .slice A' n' c']) (hb : But (· = B) w w') {x : Int} {f : Bool} {A : Option Addr} {n c : Nat} {r : Rg} (h : RgS w x f A n c r) : RgS w' x f A n c r :=
 ⟨h.hw, h.hf, h.ok, h.len, fun hn => by
  obtain ⟨b, o, e, hp⟩ := h.ex hn
  exact ⟨b, o, e, hp.off hB hb⟩⟩
def boxR : List (List Iv) → Rg
 | [] => .nil 0 true
 | s :: l => if !s.isEmpty && !(boxR l).nix then .cons s (boxR l) (.nil ((boxR l).w + 1) false) else .nil ((boxR l).w + 1) false
theorem box_w : ∀ l : List (List Iv), (boxR l).w = (l.length : Int)
 | [] => rfl
 | s :: l => by
   unfold boxR
   have ih := box_w l
   split
   · simp only [Rg.w, ih, List.length_cons]; omega
   · simp only [Rg.w, ih, List.length_cons]; omega
abbrev SetP := (Option Addr × Nat × Nat) × List Iv
def setc (p : SetP) : List Value := [.slice p.1.1 p.1.2.1 p.1.2.2]
structure SetsS (w : World) (A : Option Addr) (n : Nat) (ps : List SetP) : Prop where
 sl : Sl 1 setc w A n ps
 ok : ∀ p ∈ ps, okS p.1.1 p.1.2.1 p.1.2.2 ∧ p.1.2.1 ≤ 1000000 ∧ IvS w p.1.1 p.1.2.1 p.2
theorem SetsS.keep {w w' : World} {A : Option Addr} {n : Nat} {ps : List SetP} (h : SetsS w A n ps) (hk : Keeps w w') : SetsS w' A n ps :=
 ⟨h.sl.keep hk, fun p hp => ⟨(h.ok p hp).1, (h.ok p hp).2.1, (h.ok p hp).2.2.keep hk⟩⟩
theorem RgS.one {w : World} {g : Nat} {T : TypeId} {A : Option Addr} {n c : Nat} {x : Int} {f : Bool} {A' : Option Addr} {n' c' : Nat} {vs : List Iv} {r : Rg} (hB : Blk w g T #[.slice A n c, .int .i64 x, .bool f, .slice A' n' c']) (hok : okS A n c) (hvs : IvS w A n vs) (hr : RgS w x f A' n' c' r) (y : Int) : RgS w y false (some ⟨g, 0, none⟩) 1 1 (.cons vs r (.nil y false)) :=
 ⟨rfl, rfl, ⟨Nat.le_refl _, fun h => by cases h⟩, rfl, fun _ => ⟨g, 0, rfl, ⟨A, n, c, by rw [hB.cell]; rfl, hok, hvs⟩, by rw [hB.cell, hr.hw]; rfl, by rw [hB.cell, hr.hf]; rfl, ⟨A', n', c', by rw [hB.cell]; rfl, hr.ok, hr.len, hr.ex⟩, trivial⟩⟩
theorem box_cons (s : List Iv) (l : List (List Iv)) : boxR (s :: l) = if !s.isEmpty && !(boxR l).nix then .cons s (boxR l) (.nil ((boxR l).w + 1) false) else .nil ((boxR l).w + 1) false := rfl
theorem own_okS {w : World} {base : Nat} {e : TypeId} {sz n c : Nat} {A : Option Addr} {xs : List Value} (h : w.ownsRow base e sz (.slice A n c) n xs) : okS A n c := by
 rcases h.2 with ⟨hv, hn⟩ | ⟨g, cap, cur, hv, _, _, hnc, _⟩
 · injection hv with h1 h2 h3
   exact ⟨by omega, fun _ => ⟨hn, h3⟩⟩
 · injection hv with h1 h2 h3
   exact ⟨by omega, fun h => by rw [h] at h1; cases h1⟩
def put3R (W : World) (B : Nat) (a b c : Value) : World := ((W.setCell ⟨B, 0, none⟩ a).setCell ⟨B, 1, none⟩ b).setCell ⟨B, 2, none⟩ c
theorem put3R_blk {W : World} {B : Nat} {T : TypeId} {a b c a' b' c' : Value} (h : Blk W B T #[a, b, c]) : Blk (put3R W B a' b' c') B T #[a', b', c'] := ((h.set_ 0 a').set_ 1 b').set_ 2 c'
theorem put3R_but (W : World) (B : Nat) (a b c : Value) : But (· = B) W (put3R W B a b c) :=
 ((But.set (S := fun k => k = B) W (p := ⟨B, 0, none⟩) rfl _).trans (But.set (S := fun k => k = B) _ (p := ⟨B, 1, none⟩) rfl _)).trans (But.set (S := fun k => k = B) _ (p := ⟨B, 2, none⟩) rfl _)
theorem put3R_below {base : Nat} {W0 W : World} {B : Nat} (h : Below base W0 W) (hB : base ≤ B) (a b c : Value) : Below base W0 (put3R W B a b c) := ((h.setCell (p := ⟨B, 0, none⟩) hB a).setCell (p := ⟨B, 1, none⟩) hB b).setCell (p := ⟨B, 2, none⟩) hB c
theorem put3R_size (W : World) (B : Nat) (a b c : Value) : (put3R W B a b c).heap.size = W.heap.size := by simp [put3R, World.setCell]
theorem put3R_free {W : World} {B : Nat} {T : TypeId} {x y z : Value} (h : Blk W B T #[x, y, z]) (a b : Value) : (∀ j, W.frozen? ⟨B, j, none⟩ = false) ∧ (∀ j, (W.setCell ⟨B, 0, none⟩ a).frozen? ⟨B, j, none⟩ = false) ∧ (∀ j, ((W.setCell ⟨B, 0, none⟩ a).setCell ⟨B, 1, none⟩ b).frozen? ⟨B, j, none⟩ = false) := ⟨h.free, (h.set_ 0 a).free, ((h.set_ 0 a).set_ 1 b).free⟩
set_option maxRecDepth 8000 in
set_option maxHeartbeats 4000000 in
theorem box_any (A : Option Addr) (n c : Nat) (ps : List SetP) (w : World) (hs : SetsS w A n ps) (hn : n ≤ 12) :
 Calls Tryz.prog 132 #[.slice A n c] w fun e w' => ∃ (x : Int) (f : Bool) (A' : Option Addr) (n' c' : Nat), e = .returned (.agg #[.int .i64 x, .bool f, .slice A' n' c']) ∧ RgS w' x f A' n' c' (boxR (ps.map (·.2))) ∧ Below w.heap.size w w' := by
 obtain ⟨i0, hi, hz0, hz1, hz2⟩ := info_parts info_iv
 have HS := zH hs
 have Hln := zH hs.sl.len
 clear hs
 go_enter Tryz.func132, Tryz.ntmps132
 go_wp2
 go_loopw [4] (fun i wr => ∃ (k : Nat) (z : Int) (x : Int) (f : Bool) (A' : Option Addr) (n' c' : Nat), k ≤ n ∧ i = .int .i64 z ∧ Hid (z = (k : Int) - 1) ∧ Blk wr (w.heap.size + 1) 71 #[.int .i64 x, .bool f, .slice A' n' c'] ∧ Blk wr w.heap.size 71 #[.int .i64 0, .bool false, .slice none 0 0] ∧ Hid (RgS wr x f A' n' c' (boxR ((ps.map (·.2)).drop k))) ∧ Below w.heap.size w wr) (fun i _ => (intOf i + 1).toNat)
 case atStart =>
  refine ⟨n, (n : Int) - 1, 0, true, none, 0, 0, by omega, rfl, rfl, ?_, ?_, ?_, ?_⟩
  · have := Blk.new (w.alloc (.cells #[.int .i64 0, .bool false, .slice none 0 0] 71)) 71 #[.int .i64 0, .bool true, .slice none 0 0]
    rw [World.size_alloc] at this
    exact this
  · exact (Blk.new w _ _).alloc _
  · show RgS _ _ _ _ _ _ _
    rw [List.drop_eq_nil_of_le (by rw [List.length_map, Hln.out]; omega)]
    exact RgS.nil _ _
  · exact ((Below.refl _ _).alloc (Nat.le_refl _) _).alloc (by simp) _
 case round =>
  obtain ⟨k, z, x, f, A', n', c', hk, rfl, Hz, hbk, hbk0, HRg, hb⟩ := hrel
  have hzz := hbk.cell
  have hlt := hbk.lt
  rcases Nat.eq_zero_or_pos k with hk0 | hk0
  · obtain rfl : z = -1 := by have := Hz.out; omega
    have hy0 := hbk0.cell
    obtain ⟨ff1, ff2, ff3⟩ := put3R_free hbk0 (.int .i64 x) (.bool f)
    have F1 : Hid (Blk _ _ _ #[.int .i64 x, .bool false, .slice none 0 0]) := zH (hbk0.set_ 0 (.int .i64 x))
    have F2 : Hid (Blk _ _ _ #[.int .i64 x, .bool f, .slice none 0 0]) := zH (F1.out.set_ 1 (.bool f))
    have F3 : Hid (Blk _ _ _ #[.int .i64 x, .bool f, .slice A' n' c']) := zH (F2.out.set_ 2 (.slice A' n' c'))
    have y1 := F1.out.cell
    have y2 := F2.out.cell
    have y3 := F3.out.cell
    have HBr := zH (put3R_below hb (Nat.le_refl _) (.int .i64 x) (.bool f) (.slice A' n' c'))
    have HRr := zH (RgS.off hbk0 (put3R_but wr w.heap.size (.int .i64 x) (.bool f) (.slice A' n' c')) HRg.out)
    go_wp2
    refine bodyPost_ret (v := .agg #[.int .i64 x, .bool f, .slice A' n' c']) (by simp [results, Tryz.results132, go_sem, y3]) rfl ⟨x, f, A', n', c', rfl, ?_, HBr.out⟩
    have := HRr.out
    rw [hk0, List.drop_zero] at this
    exact this
  · obtain ⟨j, rfl⟩ : ∃ j : Nat, z = (j : Int) := ⟨k - 1, by have := Hz.out; omega⟩
    obtain rfl : k = j + 1 := by have := Hz.out; omega
    clear Hz hk0
    obtain ⟨b, o, p, rfl, hp, hpc⟩ := HS.out.sl.at (show j < n by omega)
    have hpo := HS.out.ok p (List.mem_of_getElem? hp)
    have Hd : Hid ((ps.map (·.2)).drop j = p.2 :: (ps.map (·.2)).drop (j + 1)) := by
     show _ = _
     rw [drop_at (k := j) (x := p.2) (by rw [List.getElem?_map, hp]; rfl)]
    have hx : x = ((n - (j + 1) : Nat) : Int) := by
     have h1 := HRg.out.hw
     rw [box_w] at h1
     have := Hln.out
     simp at h1
     omega
    have hxb : 0 ≤ x ∧ x ≤ 12 := by omega
    clear hx
    have e1 := keep_cell ((keeps_of hb).trans (keeps_alloc wr (.cells #[.int .i64 (x + 1), .bool false, .slice none 0 0] 71))) (hpc 0 _ rfl)
    obtain ⟨⟨A1, n1, c1⟩, l⟩ := p
    dsimp only [setc] at e1 hpo
    simp only [Nat.mul_one, Nat.add_zero] at e1
    have HPO := zH hpo
    clear hp hpc hpo
    have HT := zH (hbk.alloc (.cells #[.int .i64 (x + 1), .bool false, .slice none 0 0] 71))
    have HT0 := zH (hbk0.alloc (.cells #[.int .i64 (x + 1), .bool false, .slice none 0 0] 71))
    have HN := zH (Blk.new wr 71 #[.int .i64 (x + 1), .bool false, .slice none 0 0])
    have hzt := HT.out.cell
    have HBN := zH ((Below.refl wr.heap.size wr).alloc (Nat.le_refl _) (.cells #[.int .i64 (x + 1), .bool false, .slice none 0 0] 71))
    by_cases hn1 : n1 = 0
    · have g2 : decide (0 < n1) = false := by simp [hn1]
      have hne : ¬ wr.heap.size = w.heap.size + 1 := by omega
      have hft := HT.out.free
      obtain ⟨ff1, ff2, ff3⟩ := put3R_free hbk (.int .i64 (x + 1)) (.bool false)
      have ff4 := (((hbk.set_ 0 (.int .i64 (x + 1))).set_ 1 (.bool false)).alloc (.cells #[.int .i64 (x + 1), .bool false, .slice none 0 0] 71)).free
      have ff5 := (((hbk.set_ 0 (.int .i64 (x + 1)))).alloc (.cells #[.int .i64 (x + 1), .bool false, .slice none 0 0] 71)).free
      have Hnil : Hid (l = []) := List.eq_nil_of_length_eq_zero (by have := HPO.out.2.2.len; omega)
      clear hn1
      go_wp2
      go_roundw
      case rel =>
       refine ⟨j, _, x + 1, false, none, 0, 0, by omega, rfl, rfl, (put3R_blk hbk).alloc _, (hbk0.but (put3R_but wr _ _ _ _) (by omega)).alloc _, ?_, (put3R_below hb (by omega) _ _ _).alloc (put3R_below hb (by omega) _ _ _).size _⟩
       show RgS _ _ _ _ _ _ _
       rw [Hd.out, box_cons, Hnil.out, HRg.out.hw]
       exact RgS.nil _ _
      case measure => simp [intOf]
    · have g2 : decide (0 < n1) = true := by simp; omega
      go_wp2_with fail
      refine (rempty_any x f A' n' c' _ _ (HRg.out.keep (keeps_of HBN.out))).mono ?_
      rintro e w1 ⟨rfl, hb1⟩
      obtain ⟨v1, Hv1⟩ : ∃ t, Hid ((boxR ((ps.map (·.2)).drop (j + 1))).nix = t) := ⟨_, rfl⟩
      rw [Hv1.out]
      have E1 := zH e1
      clear hzt e1
      have HT1 := zH (HT.out.below hb1)
      have HN1 := zH (HN.out.below hb1)
      have hzt := HT1.out.cell
      have hzn := HN1.out.cell
      have hft := HT1.out.free
      cases v1
      · have hsz1 := hb1.size
        simp only [World.size_alloc] at hsz1
        have hB1 := Below.next HBN.out hb1
        have E1' := zH (((HS.out.keep (keeps_of (Below.next hb hB1))).keep (keeps_alloc w1 (.cells #[] 187))).sl.at (show j < n by omega))
        have e1 : (w1.alloc (.cells #[] 187)).cell? ⟨b, o + j, none⟩ = some (.slice A1 n1 c1) := by
         rw [World.cell?_alloc_lt w1 _ _ (by have h := cell_lt (w := wr.alloc (.cells #[.int .i64 (x + 1), .bool false, .slice none 0 0] 71)) (a := ⟨b, o + j, none⟩) (by rw [E1.out]; rfl); simp only [World.size_alloc] at h; dsimp only; omega), keeps_of hb1 _ (by rw [E1.out]; rfl)]
         exact E1.out
        have hIv := (HPO.out.2.2.keep (keeps_of (Below.next hb hB1))).keep (keeps_alloc w1 (.cells #[] 187))
        have HIv := zH hIv
        have hn1b := HPO.out.2.1
        have HB1 := zH hB1
        have HB1x := zH hb1
        clear hIv hB1 E1' hb1
        go_wp2_with (at_builtin; refine wpList_append_sf (cs := Iv.cs) (w1.alloc (.cells #[] 187)) (by rfl) _ (.tmp 34) _ (by rfl) w1.heap.size 187 i0 _ 7 72 Tryz.underlying139 hi hz0 hz1 hz2 (by rfl) (by omega) (.slice (some ⟨w1.heap.size, 0, none⟩) 0 0) 0 [] (by rfl) ⟨by simp, .inr ⟨w1.heap.size, 0, #[], rfl, Nat.le_refl _, heap_alloc_new w1 _, Nat.le_refl _, by simp [maxLen], by simp, by simp⟩⟩ A1 n1 c1 l (by rfl) HIv.out HPO.out.1.2 Iv.cs_len one_iv (by simp only [maxLen]; omega) (by omega) (by simp) ?_; intro A2 c2 w2 hown2 hg2 hB2 hat2 hnl2; simp only [Nat.zero_add, List.nil_append] at hown2; have HB2 : Hid (Below w1.heap.size w1 w2) := zH (((Below.refl _ _).alloc (Nat.le_refl _) _).trans hB2); have T2 := zH (HT1.out.below HB2.out); have N2 := zH (HN1.out.below HB2.out); have hsz2 := HB2.out.size; clear hzt hzn hft e1; have hzt := T2.out.cell; have hzn := N2.out.cell; have hfn := N2.out.free; have hfn2 := (N2.out.alloc (.cells #[.slice A2 n1 c2, .int .i64 x, .bool f, .slice A' n' c'] 141)).free; have hfn3 := (N2.out.alloc (.cells #[.slice A2 n1 c2, .int .i64 x, .bool f, .slice A' n' c'] 141)).cell; have hBN : ¬ w.heap.size + 1 = wr.heap.size := (by omega); have N3 := zH ((N2.out.alloc (.cells #[.slice A2 n1 c2, .int .i64 x, .bool f, .slice A' n' c'] 141)).set_ 2 (.slice (some ⟨w2.heap.size, 0, none⟩) 1 1)); have T3 := zH ((T2.out.alloc (.cells #[.slice A2 n1 c2, .int .i64 x, .bool f, .slice A' n' c'] 141)).far (p := ⟨wr.heap.size, 2, none⟩) hBN (.slice (some ⟨w2.heap.size, 0, none⟩) 1 1)); have T4 : Hid (Blk _ _ _ #[.int .i64 (x + 1), .bool f, .slice A' n' c']) := zH (T3.out.set_ 0 (.int .i64 (x + 1))); have T5 : Hid (Blk _ _ _ #[.int .i64 (x + 1), .bool false, .slice A' n' c']) := zH (T4.out.set_ 1 (.bool false)); have N4 : Hid (Blk _ _ _ #[.int .i64 (x + 1), .bool false, .slice (some ⟨w2.heap.size, 0, none⟩) 1 1]) := zH N3.out; have hm0 := N4.out.cell; have hs1 := T3.out.free; have hs3 := T4.out.free; have hs5 := T5.out.free; have hq0 := T3.out.cell; have hq1 := T4.out.cell; have hq2 := T5.out.cell)
        go_roundw
        case rel =>
         have P2 := (Blk.new w2 141 #[.slice A2 n1 c2, .int .i64 x, .bool f, .slice A' n' c']).far (p := ⟨wr.heap.size, 2, none⟩) (by dsimp only; omega) (.slice (some ⟨w2.heap.size, 0, none⟩) 1 1)
         have hBu : But (· = wr.heap.size) (w2.alloc (.cells #[.slice A2 n1 c2, .int .i64 x, .bool f, .slice A' n' c'] 141)) ((w2.alloc (.cells #[.slice A2 n1 c2, .int .i64 x, .bool f, .slice A' n' c'] 141)).setCell ⟨wr.heap.size, 2, none⟩ (.slice (some ⟨w2.heap.size, 0, none⟩) 1 1)) := But.set (S := fun k => k = wr.heap.size) _ (p := ⟨wr.heap.size, 2, none⟩) rfl _
         have hNa := N2.out.alloc (.cells #[.slice A2 n1 c2, .int .i64 x, .bool f, .slice A' n' c'] 141)
         have hI2 := ((Sl.of_own (cs := Iv.cs) Iv.cs_len HPO.out.2.2.len hown2).keep (keeps_alloc w2 (.cells #[.slice A2 n1 c2, .int .i64 x, .bool f, .slice A' n' c'] 141)))
         have hI3 := IvS.off hNa hBu hI2
         have hR2 := ((HRg.out.keep (keeps_of HB1.out)).keep (keeps_of HB2.out)).keep (keeps_alloc w2 (.cells #[.slice A2 n1 c2, .int .i64 x, .bool f, .slice A' n' c'] 141))
         have hR3 := RgS.off hNa hBu hR2
         have hPB := put3R_but ((w2.alloc (.cells #[.slice A2 n1 c2, .int .i64 x, .bool f, .slice A' n' c'] 141)).setCell ⟨wr.heap.size, 2, none⟩ (.slice (some ⟨w2.heap.size, 0, none⟩) 1 1)) (w.heap.size + 1) (.int .i64 (x + 1)) (.bool false) (.slice (some ⟨w2.heap.size, 0, none⟩) 1 1)
         have hI4 := IvS.off T3.out hPB hI3
         have hR4 := RgS.off T3.out hPB hR3
         have hP4 := P2.but hPB (by omega)
         have hB3 := ((Below.next (Below.next hb HB1.out) HB2.out).alloc (Below.next (Below.next hb HB1.out) HB2.out).size (.cells #[.slice A2 n1 c2, .int .i64 x, .bool f, .slice A' n' c'] 141)).setCell (p := ⟨wr.heap.size, 2, none⟩) (by dsimp only; omega) (.slice (some ⟨w2.heap.size, 0, none⟩) 1 1)
         have hT0 := ((((HT0.out.below HB1x.out).below HB2.out).alloc (.cells #[.slice A2 n1 c2, .int .i64 x, .bool f, .slice A' n' c'] 141)).far (p := ⟨wr.heap.size, 2, none⟩) (by dsimp only; omega) (.slice (some ⟨w2.heap.size, 0, none⟩) 1 1)).but hPB (by omega)
         refine ⟨j, _, x + 1, false, some ⟨w2.heap.size, 0, none⟩, 1, 1, by omega, rfl, rfl, put3R_blk T3.out, hT0, ?_, put3R_below hB3 (by omega) _ _ _⟩
         show RgS _ _ _ _ _ _ _
         have hne : l.isEmpty = false := by
          have := HPO.out.2.2.len
          cases l with
          | nil => simp at this; omega
          | cons y l => rfl
         rw [Hd.out, box_cons, Hv1.out, HRg.out.hw, hne]
         exact RgS.one hP4 (own_okS hown2) hI4 hR4 _
        case measure => simp [intOf]
      · obtain ⟨ff1, ff2, ff3⟩ := put3R_free HT1.out (.int .i64 (x + 1)) (.bool false)
        have HT01 := zH (HT0.out.below hb1)
        go_wp2
        go_roundw
        case rel =>
         have hB1 := Below.next hb (Below.next HBN.out hb1)
         refine ⟨j, _, x + 1, false, none, 0, 0, by omega, rfl, rfl, put3R_blk HT1.out, HT01.out.but (put3R_but w1 _ _ _ _) (by omega), ?_, put3R_below hB1 (by omega) _ _ _⟩
         show RgS _ _ _ _ _ _ _
         rw [Hd.out, box_cons, Hv1.out, HRg.out.hw]
         simp only [Bool.not_true, Bool.and_false, Bool.false_eq_true, if_false]
         exact RgS.nil _ _
        case measure => simp [intOf]
def boxErr (l : List (List Iv)) : Int := if l.length > 12 then 1 else if l.all validL then 0 else 30
def boxRes (l : List (List Iv)) : Rg := if boxErr l = 0 then boxR l else zeroR
theorem boxErr_bad {l : List (List Iv)} {s : List Iv} (h : ¬ l.length > 12) (hs : s ∈ l) (hv : validL s = false) : boxErr l = 30 := by
 unfold boxErr
 rw [if_neg h, if_neg]
 intro h2
 rw [List.all_eq_true] at h2
 rw [h2 s hs] at hv
 cases hv
set_option maxRecDepth 8000 in
set_option maxHeartbeats 4000000 in
theorem Box_any (A : Option Addr) (n c : Nat) (ps : List SetP) (w : World) (hs : SetsS w A n ps) :
 Calls Tryz.prog 185 #[.slice A n c] w fun e w' => RgRes w (boxRes (ps.map (·.2))) (boxErr (ps.map (·.2))) e w' := by
 have HS := zH hs
 have Hln := zH hs.sl.len
 clear hs
 have E0 := zH (Blk.new w 71 #[.int .i64 0, .bool false, .slice none 0 0])
 have HB0 := zH ((Below.refl w.heap.size w).alloc (Nat.le_refl _) (.cells #[.int .i64 0, .bool false, .slice none 0 0] 71))
 generalize hre : boxErr (ps.map (·.2)) = re
 generalize hrr : boxRes (ps.map (·.2)) = rr
 have HRE := zH hre
 have HRR := zH hrr
 clear hre hrr
 rcases Nat.lt_or_ge 12 n with h12 | h12
 · have g1 : decide (12 < n) = true := by simp; omega
   have e1 : re = 1 := by rw [← HRE.out]; simp [boxErr, Hln.out]; omega
   have e2 : rr = zeroR := by rw [← HRR.out]; simp [boxRes, HRE.out, e1]
   subst e1 e2
   go_enter Tryz.func185, Tryz.ntmps185
   go_wp2
   refine bodyPost_ret (v := .tuple #[.agg #[.int .i64 0, .bool false, .slice none 0 0], .int .i64 1]) (by simp [results, Tryz.results185, go_sem]) rfl ⟨0, false, none, 0, 0, rfl, RgS.nil _ _, ?_⟩
   repeat (first | exact HB0.out | exact Below.refl _ _ | refine Below.setCell ?_ (by simp) _ | refine Below.alloc ?_ (by simp) _)
 · have g1 : decide (12 < n) = false := by simp; omega
   obtain ⟨W0, HW0⟩ : ∃ W : World, Hid (w.alloc (.cells #[.int .i64 0, .bool false, .slice none 0 0] 71) = W) := ⟨_, rfl⟩
   rw [HW0.out] at E0 HB0
   go_enter Tryz.func185, Tryz.ntmps185
   go_wp2
   go_loopw [12] (fun i wr => ∃ k : Nat, k ≤ n ∧ i = .int .i64 (k : Int) ∧ Hid (∀ p ∈ ps.take k, validL p.2 = true) ∧ Below W0.heap.size W0 wr) (fun i _ => n - (intOf i).toNat)
   case atStart => exact ⟨0, by omega, rfl, (by show ∀ p ∈ _, _; simp), by rw [HW0.out]; exact Below.refl _ _⟩
   case round =>
    obtain ⟨k, hk, rfl, hinv, hb⟩ := hrel
    have hbw := Below.next HB0.out hb
    have E1 := zH (E0.out.below hb)
    have hc1 := E1.out.cell
    obtain ⟨ff1, ff2, ff3⟩ := put3R_free E1.out (.int .i64 0) (.bool false)
    by_cases hlt : k < n
    · obtain ⟨b, o, p, rfl, hp, hpc⟩ := (HS.out.keep (keeps_of hbw)).sl.at hlt
      have hpo := (HS.out.keep (keeps_of hbw)).ok p (List.mem_of_getElem? hp)
      have e1 := hpc 0 _ rfl
      have HP := zH hp
      obtain ⟨⟨A1, n1, c1⟩, l⟩ := p
      dsimp only [setc] at e1 hpo
      simp only [Nat.mul_one, Nat.add_zero] at e1
      have HPO := zH hpo
      clear hp hpc hpo
      go_wp2_with fail
      refine (validL_any A1 n1 c1 l _ HPO.out.2.2).mono ?_
      rintro e w1 ⟨rfl, hb1⟩
      obtain ⟨v, Hv⟩ : ∃ t, Hid (validL l = t) := ⟨_, rfl⟩
      rw [Hv.out]
      have E2 := zH (E1.out.below hb1)
      clear hc1 ff1 ff2 ff3 e1
      have hc1 := E2.out.cell
      cases v
      · have e1 : re = 30 := by
         rw [← HRE.out]
         exact boxErr_bad (s := l) (by simp [Hln.out]; omega) (List.mem_map.2 ⟨_, List.mem_of_getElem? HP.out, rfl⟩) Hv.out
        have e2 : rr = zeroR := by rw [← HRR.out]; simp [boxRes, HRE.out, e1]
        subst e1 e2
        obtain ⟨ff1, ff2, ff3⟩ := put3R_free E2.out (.int .i64 0) (.bool false)
        have F1 : Hid (Blk _ _ _ #[.int .i64 0, .bool false, .slice none 0 0]) := zH (E2.out.set_ 0 (.int .i64 0))
        have F2 : Hid (Blk _ _ _ #[.int .i64 0, .bool false, .slice none 0 0]) := zH (F1.out.set_ 1 (.bool false))
        have F3 : Hid (Blk _ _ _ #[.int .i64 0, .bool false, .slice none 0 0]) := zH (F2.out.set_ 2 (.slice none 0 0))
        have y1 := F1.out.cell
        have y2 := F2.out.cell
        have y3 := F3.out.cell
        have HBr := zH (put3R_below (Below.next hbw hb1) (Nat.le_refl _) (.int .i64 0) (.bool false) (.slice none 0 0))
        go_wp2
        refine bodyPost_ret (v := .tuple #[.agg #[.int .i64 0, .bool false, .slice none 0 0], .int .i64 30]) (by simp [results, Tryz.results185, go_sem, y3]) rfl ⟨0, false, none, 0, 0, rfl, RgS.nil _ _, HBr.out⟩
      · go_wp2
        go_roundw
        case rel =>
         refine ⟨k + 1, by omega, by go_num, ?_, Below.next hb hb1⟩
         show ∀ p ∈ _, _
         rw [take_snoc' HP.out]
         intro q hq
         rcases List.mem_append.1 hq with hq | hq
         · exact hinv.out q hq
         · have : q = ((A1, n1, c1), l) := by simpa using hq
           rw [this]; exact Hv.out
        case measure => simp [intOf]; omega
    · have e1 : re = 0 := by
       rw [← HRE.out]
       have h1 := hinv.out
       rw [List.take_of_length_le (by have := Hln.out; omega)] at h1
       unfold boxErr
       rw [if_neg (by simp [Hln.out]; omega), if_pos]
       rw [List.all_eq_true]
       intro s hs
       obtain ⟨q, hq, rfl⟩ := List.mem_map.1 hs
       exact h1 q hq
      have e2 : boxR (ps.map (·.2)) = rr := by rw [← HRR.out]; simp [boxRes, HRE.out, e1]
      subst e1 e2
      clear ff1 ff2 ff3
      go_wp2_with fail
      refine (box_any A n c ps _ (HS.out.keep (keeps_of hbw)) (by omega)).mono ?_
      rintro e w1 ⟨x, f, A', n', c', rfl, hR, hb1⟩
      have E2 := zH (E1.out.below hb1)
      clear hc1
      have hc1 := E2.out.cell
      have HR1 := zH hR
      clear hR
      obtain ⟨ff1, ff2, ff3⟩ := put3R_free E2.out (.int .i64 x) (.bool f)
      have F1 : Hid (Blk _ _ _ #[.int .i64 x, .bool false, .slice none 0 0]) := zH (E2.out.set_ 0 (.int .i64 x))
      have F2 : Hid (Blk _ _ _ #[.int .i64 x, .bool f, .slice none 0 0]) := zH (F1.out.set_ 1 (.bool f))
      have F3 : Hid (Blk _ _ _ #[.int .i64 x, .bool f, .slice A' n' c']) := zH (F2.out.set_ 2 (.slice A' n' c'))
      have y1 := F1.out.cell
      have y2 := F2.out.cell
      have y3 := F3.out.cell
      have HBr := zH (put3R_below (Below.next hbw hb1) (Nat.le_refl _) (.int .i64 x) (.bool f) (.slice A' n' c'))
      have HRr := zH (RgS.off E2.out (put3R_but w1 w.heap.size (.int .i64 x) (.bool f) (.slice A' n' c')) HR1.out)
      go_wp2
      refine bodyPost_ret (v := .tuple #[.agg #[.int .i64 x, .bool f, .slice A' n' c'], .int .i64 0]) (by simp [results, Tryz.results185, go_sem, y3]) rfl ⟨x, f, A', n', c', rfl, HRr.out, HBr.out⟩
end Go.Proofs.YtnnmlhmffnfjfaaGreat
namespace Go.Proofs.YtnnmlhmffnfjfaaGreat
open Go.RowKit
def i64c (b : Int) : List Value := [.int .i64 b]
abbrev ClS (w : World) (A : Option Addr) (n : Nat) (cs : List Int) : Prop := Sl 1 i64c w A n cs
def dstB (W : Int) (cs : List Int) : Bool := cs.all (fun c => decide (0 ≤ c ∧ c < W)) && decide cs.Nodup
structure Lay (w w' : World) : Prop where
 bel : Below w.heap.size w w'
 dr : w.drawn ≤ w'.drawn
theorem Lay.refl (w : World) : Lay w w := ⟨Below.refl _ _, Nat.le_refl _⟩
theorem Lay.drew {w w' : World} (h : Lay w w') : Lay w w'.drew := ⟨h.bel.drew, Nat.le_succ_of_le h.dr⟩
theorem Lay.alloc {w w' : World} (h : Lay w w') (o : Obj) : Lay w (w'.alloc o) := ⟨h.bel.alloc h.bel.size o, h.dr⟩
theorem Lay.trans {a b c : World} (h : Lay a b) (k : Lay b c) : Lay a c := ⟨Below.next h.bel k.bel, Nat.le_trans h.dr k.dr⟩
set_option maxHeartbeats 400000 in
theorem compareL_any (a b : Vl) (w : World) :
 Calls Tryz.prog 93 #[.agg #[.int .i64 a.k, .int .i64 a.i, .string a.t], .agg #[.int .i64 b.k, .int .i64 b.i, .string b.t]] w fun e w' => e = .returned (.int .i64 (cmpV a b)) ∧ Lay w w' := by
 obtain ⟨k, i, t⟩ := a
 obtain ⟨k', i', t'⟩ := b
 go_enter Tryz.func93, Tryz.ntmps93
 go_wp2_with (first
  | (go_at_call 154; refine (cmpInt_any _ _ _).mono ?_; rintro e w' ⟨rfl, rfl⟩)
  | (go_at_call 155; refine (cmpInt64_any _ _ _).mono ?_; rintro e w' ⟨rfl, rfl⟩)
  | (go_at_call 156; refine (cmpStr_any _ _ _).mono ?_; rintro e w' ⟨rfl, rfl⟩))
 all_goals
  go_ret
  refine ⟨ret_i64 ?_, by repeat (first | exact Lay.refl _ | apply Lay.drew | refine Lay.alloc ?_ _)⟩
  rw [cmpV_of]
  simp_all [cmpI_self, cmpB_self]
end Go.Proofs.YtnnmlhmffnfjfaaGreat
namespace Go.Proofs.YtnnmlhmffnfjfaaGreat
open Go.RowKit
open Rg
def ofT (tb tl tr : Bool) (a b : Bool) : Bool := if a && b then tb else if a then tl else if b then tr else false
theorem of_any (tb tl tr a b : Bool) (w : World) : Calls Tryz.prog 161 #[.agg #[.bool tb, .bool tl, .bool tr], .bool a, .bool b] w fun e w' => e = .returned (.bool (ofT tb tl tr a b)) ∧ Below w.heap.size w w' := by
 cases a <;> cases b <;>
 · go_enter Tryz.func161, Tryz.ntmps161
   go_wp2
   go_ret
   exact ⟨rfl, (Below.refl _ _).alloc (Nat.le_refl _) _⟩
def restR (r : Rg) (i : Int) : Rg := if i < 0 then .nil (r.w - 1) false else match r.parts[i.toNat]? with | some p => p.2 | none => zeroR
def RgOne (w : World) (r : Rg) (e : Ending) (w' : World) : Prop :=
 ∃ (x : Int) (f : Bool) (A : Option Addr) (n c : Nat), e = .returned (.agg #[.int .i64 x, .bool f, .slice A n c]) ∧ RgS w' x f A n c r ∧ Below w.heap.size w w'
theorem restOf_any (r : Rg) (x : Int) (f : Bool) (A : Option Addr) (n c : Nat) (i : Int) (w : World) (hR : RgS w x f A n c r) (hi : i < (n : Int)) (hi2 : -1 ≤ i) (hx : 0 ≤ x ∧ x ≤ 12) :
 Calls Tryz.prog 242 #[.agg #[.int .i64 x, .bool f, .slice A n c], .int .i64 i] w fun e w' => RgOne w (restR r i) e w' := by
 have hxr := hR.hw
 have HB : Hid (Below w.heap.size w ((w.alloc (.cells #[.int .i64 x, .bool f, .slice A n c] 71)).alloc (.cells #[.int .i64 0, .bool false, .slice none 0 0] 71))) := zH (((Below.refl _ _).alloc (Nat.le_refl _) _).alloc (by simp) _)
 rcases Int.lt_or_le i 0 with h0 | h0
 · have g1 : decide (i < 0) = true := by simp; omega
   have hr : restR r i = .nil (x - 1) false := by simp [restR, h0, hxr]
   rw [hr]
   clear hr hR hxr
   go_enter Tryz.func242, Tryz.ntmps242
   go_wp2
   refine bodyPost_ret (v := .agg #[.int .i64 (x - 1), .bool false, .slice none 0 0]) (by simp [results, Tryz.results242, go_sem]) rfl ⟨x - 1, false, none, 0, 0, rfl, RgS.nil _ _, ?_⟩
   repeat (first | exact HB.out | exact Below.refl _ _ | refine Below.setCell ?_ (by simp) _ | refine Below.alloc ?_ (by simp) _)
 · obtain ⟨k, rfl⟩ := Int.eq_ofNat_of_zero_le h0
   have g1 : decide ((k : Int) < 0) = false := by simp
   have hr : ∀ p, r.parts[k]? = some p → restR r (k : Int) = p.2 := fun p hp => by
    unfold restR
    rw [if_neg (by omega), Int.toNat_natCast, hp]
   obtain ⟨b, o, p, A1, n1, c1, px, pf, A2, n2, c2, rfl, hp, hpt0, hpt⟩ := hR.at2 (keeps_of HB.out) (show k < n by omega)
   rw [hr p hp]
   have HR1 := zH hpt0.rg
   clear hpt0
   obtain ⟨_, d1, d2, d3, _, _, _⟩ := hpt
   clear hr hR hxr hp
   go_enter Tryz.func242, Tryz.ntmps242
   go_wp2
   refine bodyPost_ret (v := .agg #[.int .i64 px, .bool pf, .slice A2 n2 c2]) (by simp [results, Tryz.results242, go_sem]) rfl ⟨px, pf, A2, n2, c2, rfl, (HR1.out.keep (keeps_alloc _ _)).keep (keeps_alloc _ _), ?_⟩
   exact ((Below.refl _ _).alloc (Nat.le_refl _) _).alloc (by simp) _
structure Ev where
 v : Vl
 s : Int
 p : Int
 e : Bool
def Ev.cs (x : Ev) : List Value := [.int .i64 x.v.k, .int .i64 x.v.i, .string x.v.t, .int .i64 x.s, .int .i64 x.p, .bool x.e]
theorem Ev.cs_len (x : Ev) : (Ev.cs x).length = 6 := rfl
theorem one_ev (x : Ev) : ∀ u ∈ Ev.cs x, u.oneCell' = true := by simp [Ev.cs, Value.oneCell']
def cmpE (a b : Ev) : Int := if cmpV a.v b.v ≠ 0 then cmpV a.v b.v else if a.e = b.e then 0 else if b.e then -1 else 1
set_option maxHeartbeats 1000000 in
theorem cmpE_any (a b : Ev) (w : World) : Calls Tryz.prog 246 #[.agg #[.int .i64 a.v.k, .int .i64 a.v.i, .string a.v.t, .int .i64 a.s, .int .i64 a.p, .bool a.e], .agg #[.int .i64 b.v.k, .int .i64 b.v.i, .string b.v.t, .int .i64 b.s, .int .i64 b.p, .bool b.e]] w fun e w' => e = .returned (.int .i64 (cmpE a b)) ∧ Lay w w' := by
 obtain ⟨⟨ak, ai, at'⟩, a1, a2, a3⟩ := a
 obtain ⟨⟨bk, bi, bt⟩, bs, bp, be⟩ := b
 generalize hr : cmpE ⟨⟨ak, ai, at'⟩, a1, a2, a3⟩ ⟨⟨bk, bi, bt⟩, bs, bp, be⟩ = r
 obtain ⟨c, Hc⟩ : ∃ t, Hid (cmpV ⟨ak, ai, at'⟩ ⟨bk, bi, bt⟩ = t) := ⟨_, rfl⟩
 have Hr : Hid ((if c ≠ 0 then c else if a3 = be then 0 else if be then -1 else 1) = r) := by
  show _ = _
  rw [← hr, ← Hc.out]
  rfl
 clear hr
 have hL0 : Lay w ((w.alloc (.cells #[.int .i64 ak, .int .i64 ai, .string at', .int .i64 a1, .int .i64 a2, .bool a3] 227)).alloc (.cells #[.int .i64 bk, .int .i64 bi, .string bt, .int .i64 bs, .int .i64 bp, .bool be] 227)) := ((Lay.refl w).alloc _).alloc _
 have E1 := zH ((Blk.new w 227 #[.int .i64 ak, .int .i64 ai, .string at', .int .i64 a1, .int .i64 a2, .bool a3]).alloc (.cells #[.int .i64 bk, .int .i64 bi, .string bt, .int .i64 bs, .int .i64 bp, .bool be] 227))
 have E2 : Hid (Blk ((w.alloc (.cells #[.int .i64 ak, .int .i64 ai, .string at', .int .i64 a1, .int .i64 a2, .bool a3] 227)).alloc (.cells #[.int .i64 bk, .int .i64 bi, .string bt, .int .i64 bs, .int .i64 bp, .bool be] 227)) (w.heap.size + 1) 227 #[.int .i64 bk, .int .i64 bi, .string bt, .int .i64 bs, .int .i64 bp, .bool be]) := by
  have := Blk.new (w.alloc (.cells #[.int .i64 ak, .int .i64 ai, .string at', .int .i64 a1, .int .i64 a2, .bool a3] 227)) 227 #[.int .i64 bk, .int .i64 bi, .string bt, .int .i64 bs, .int .i64 bp, .bool be]
  rw [World.size_alloc] at this
  exact this
 go_enter Tryz.func246, Tryz.ntmps246
 go_wp2_with fail
 refine (compareL_any ⟨ak, ai, at'⟩ ⟨bk, bi, bt⟩ _).mono ?_
 rintro e w1 ⟨rfl, hL⟩
 rw [Hc.out]
 have z1 := (E1.out.below hL.bel).cell
 have z2 := (E2.out.below hL.bel).cell
 have HL := zH (hL0.trans hL)
 clear hL hL0
 by_cases hc : c = 0
 · have g1 : (c == 0) = true := by simp [hc]
   have HC := zH hc
   clear hc
   cases a3 <;> cases be <;>
   · go_wp2
     go_ret
     exact ⟨ret_i64 (by rw [← Hr.out, HC.out]; rfl), HL.out⟩
 · have g1 : (c == 0) = false := by simp [hc]
   have HC := zH hc
   clear hc
   go_wp2
   go_ret
   exact ⟨ret_i64 (by rw [← Hr.out, if_pos HC.out]), HL.out⟩
theorem entE : ∀ args w, (callFunc 246 args).run Tryz.prog w = .ok (.enter 246 args) w := Go.Proofs.enters_of Tryz.func246 (by kernel_rfl) rfl
def EvUp (qs : List Ev) : Prop := qs.Pairwise (fun a b => ¬ cmpE b a < 0)
def evI (s : Int) (i : Nat) (x : Iv) : List Ev := ⟨x.f, s, (i : Int), true⟩ :: (if x.o then [] else [⟨x.t, s, (i : Int), false⟩])
def evP (s : Int) (i : Nat) (vs : List Iv) : List Ev := vs.flatMap (evI s i)
def evR (s : Int) : Nat → List (List Iv × Rg) → List Ev
 | _, [] => []
 | i, p :: l => evP s i p.1 ++ evR s (i + 1) l
def evs (a b : Rg) : List Ev := evR 0 0 a.parts ++ evR 1 0 b.parts
theorem evP_snoc (s : Int) (i : Nat) (l : List Iv) (x : Iv) : evP s i (l ++ [x]) = evP s i l ++ evI s i x := by simp [evP]
theorem evR_append (s : Int) : ∀ (i : Nat) (l m : List (List Iv × Rg)), evR s i (l ++ m) = evR s i l ++ evR s (i + l.length) m
 | i, [], m => by simp [evR]
 | i, p :: l, m => by
   rw [List.cons_append, evR, evR, evR_append s (i + 1) l m, List.append_assoc, List.length_cons, show i + 1 + l.length = i + (l.length + 1) by omega]
theorem evR_snoc (s : Int) (l : List (List Iv × Rg)) (p : List Iv × Rg) : evR s 0 (l ++ [p]) = evR s 0 l ++ evP s l.length p.1 := by
 rw [evR_append]
 simp [evR]
def EvSorted (a b : Rg) (qs : List Ev) : Prop := qs.Perm (evs a b) ∧ EvUp qs
theorem info_u8e : (Tryz.prog.info? 5).map (fun i => (i.zero, i.size, i.bytes)) = some (some (.int .u8 0), 1, 1) := by kernel_rfl
def u8v (b : Int) : List Value := [.int .u8 b]
theorem u8v_len (b : Int) : (u8v b).length = 1 := rfl
theorem one_u8v (b : Int) : ∀ u ∈ u8v b, u.oneCell' = true := by simp [u8v, Value.oneCell']
def numB (i : Int) (k : Nat) : Int := IntKind.u64.wrap i / 2 ^ (8 * k) % 256
def numBs (i : Int) : Nat → List Int
 | 0 => []
 | k + 1 => numBs i k ++ [numB i k]
def txB (t : ByteArray) : List Int := t.toList.map (fun b => (b.toNat : Int))
def encV (v : Vl) : List Int := [v.k] ++ numBs v.i 8 ++ [(v.t.size : Int)] ++ txB v.t
def OwnB (w : World) (base : Nat) (A : Option Addr) (m c : Nat) (bs : List Int) : Prop := w.ownsRow base 5 1 (.slice A m c) m (bs.flatMap u8v) ∧ bs.length = m
theorem own_slice {w : World} {base n : Nat} {e : TypeId} {sz : Nat} {v : Value} {xs : List Value} (h : w.ownsRow base e sz v n xs) : ∃ A c, v = .slice A n c := by
 rcases h.2 with ⟨rfl, rfl⟩ | ⟨g, cap, cur, rfl, _⟩
 · exact ⟨none, 0, rfl⟩
 · exact ⟨_, _, rfl⟩
theorem txB_cells (t : ByteArray) : (txB t).flatMap u8v = Lib.strCells t := by
 unfold txB Lib.strCells
 rw [ByteArray.toList_eq, List.flatMap_map]
 simp only [u8v]
 exact (List.map_eq_flatMap ..).symm
theorem ne_after {h g H : Nat} {v : Value} (hne : some h ≠ v.ownBlock) (hat : v.ownBlock = some g ∨ g = H + 1) (hH : h < H) {m c : Nat} : Hid (some h ≠ (Value.slice (some ⟨g, 0, none⟩) m c).ownBlock) := by
 show _ ≠ _
 rcases hat with e | e
 · rw [e] at hne; exact hne
 · simp only [Value.ownBlock, ne_eq, Option.some.injEq]; omega
structure TB (w w' : World) : Prop where
 size : w.heap.size ≤ w'.heap.size
 block : ∀ k, k < w.heap.size → (∀ cs fz, w.heap[k]? ≠ some (.cells cs 5 fz)) → w'.heap[k]? = w.heap[k]?
theorem TB.refl (w : World) : TB w w := ⟨Nat.le_refl _, fun _ _ _ => rfl⟩
theorem TB.trans {a b c : World} (h : TB a b) (k : TB b c) : TB a c :=
 ⟨Nat.le_trans h.size k.size, fun i hi hn => by
  have e := h.block i hi hn
  rw [← e]
  exact k.block i (Nat.lt_of_lt_of_le hi h.size) (fun cs fz => by rw [e]; exact hn cs fz)⟩
theorem TB.of_below {a b : World} (h : Below a.heap.size a b) : TB a b := ⟨h.size, fun k hk _ => h.block k hk⟩
theorem TB.alloc {a b : World} (h : TB a b) (o : Obj) : TB a (b.alloc o) := h.trans (TB.of_below ((Below.refl _ _).alloc (Nat.le_refl _) _))
theorem TB.grown {a b c : World} (h : TB a b) {base n : Nat} {v : Value} {xs : List Value} (ho : b.ownsRow base 5 1 v n xs) (hg : b.grownBy c v.ownBlock) : TB a c :=
 h.trans ⟨hg.size, fun k hk hn => hg.block k hk (fun e => by
  rcases ho.2 with ⟨rfl, _⟩ | ⟨g, cap, cur, rfl, _, hh, _⟩
  · simp [Value.ownBlock] at e
  · simp only [Value.ownBlock, Option.some.injEq] at e
    subst e
    exact hn _ _ hh)⟩
theorem Blk.tb {w w' : World} {b : Nat} {T : TypeId} {cs : Array Value} (h : Blk w b T cs) (hT : T ≠ 5) (hb : TB w w') : Blk w' b T cs :=
 (hb.block b h.lt (fun cs' fz e => by unfold Blk at h; rw [h] at e; injection e with e; injection e with _ e; exact hT e)).trans h
set_option maxRecDepth 100000 in
set_option maxHeartbeats 4000000 in
theorem encV_any (base : Nat) (A : Option Addr) (m c : Nat) (bs : List Int) (v : Vl) (w : World) (ho : OwnB w base A m c bs) (hb : base ≤ w.heap.size) (hm : m ≤ 100000000) (hk : 0 ≤ v.k ∧ v.k ≤ 255) (ht : v.t.size ≤ 64) :
 Calls Tryz.prog 266 #[.slice A m c, .agg #[.int .i64 v.k, .int .i64 v.i, .string v.t]] w fun e w' => ∃ (A' : Option Addr) (c' : Nat), e = .returned (.slice A' (bs ++ encV v).length c') ∧ OwnB w' base A' (bs ++ encV v).length c' (bs ++ encV v) ∧ Below base w w' ∧ TB w w' := by
 obtain ⟨vk, vi, vt⟩ := v
 obtain ⟨i0, hi, hz0, hz1, hz2⟩ := info_parts info_u8e
 dsimp only at hk ht
 generalize hes : bs ++ encV ⟨vk, vi, vt⟩ = es
 have HES := zH hes
 clear hes
 have hown := ho.1
 have Hl := zH ho.2
 clear ho
 go_enter Tryz.func266, Tryz.ntmps266
 go_wp2_with (first
  | (at_builtin; refine wpList_append_one (by rfl) (.tmp 6) (.tmp 10) _ (by rfl) base 5 i0 _ 1 1 Tryz.underlying22 hi hz0 hz1 hz2 (by rfl) (by omega) (.slice A m c) m _ (by rfl) _ _ (hown.alloc _) (w.heap.size + 1) (by simp) (by rfl) (by rfl) (one_u8v _) (by simp only [maxLen]; omega) (by omega) (by simp; omega) ?_; intro g cap w4 hown4 hg4 hB4 hat4 hlt4; have HX := zH (Blk.grown (Blk.new w 59 #[.int .i64 vk, .int .i64 vi, .string vt]) hg4 (own_ne hown))))
 have HB4 : Hid (Below base w w4) := zH ((Below.alloc (Below.refl base w) hb _).trans hB4)
 have hs4 : w.heap.size < w4.heap.size := HX.out.lt
 go_loopw [0, 5] (fun v i wr => ∃ (k : Nat) (z : Int) (A' : Option Addr) (m' c' : Nat) (cl : List Int), k ≤ 8 ∧ i = .int .i64 z ∧ Hid (z = 8 * (k : Int)) ∧ v = .slice A' m' c' ∧ m' ≤ m + 9 ∧ Hid (m' = m + 1 + k) ∧ Hid (cl = bs ++ [vk] ++ numBs vi k) ∧ wr.ownsRow base 5 1 (.slice A' m' c') m' (cl.flatMap u8v) ∧ Blk wr w.heap.size 59 #[.int .i64 vk, .int .i64 vi, .string vt] ∧ Below base w wr ∧ Hid (some w.heap.size ≠ (Value.slice A' m' c').ownBlock) ∧ TB w wr) (fun _ i _ => 64 - (intOf i).toNat)
 case atStart =>
  refine ⟨0, 0, _, m + 1, cap, bs ++ [vk], by omega, rfl, rfl, rfl, by omega, rfl, (by show _ = _; simp [numBs]), ?_, HX.out, HB4.out, ?_, (TB.of_below ((Below.refl _ _).alloc (Nat.le_refl _) _)).grown (hown.alloc _) hg4⟩
  · simpa [u8v] using hown4
  · show _ ≠ _
    have h1 := own_ne hown
    rcases hat4 with h | h
    · rw [h] at h1; exact h1
    · simp only [Value.ownBlock, ne_eq, Option.some.injEq]; omega
 case round =>
  obtain ⟨k, z, A', m', c', cl, hk8, rfl, Hz, rfl, hmb, Hm', Hcl, hown', hx, hbr, Hne, htb⟩ := hrel
  have hxc := hx.cell
  have hsr := hx.lt
  have h8 : k = 8 ∨ k = 0 ∨ k = 1 ∨ k = 2 ∨ k = 3 ∨ k = 4 ∨ k = 5 ∨ k = 6 ∨ k = 7 := by omega
  rcases h8 with rfl | rfl | rfl | rfl | rfl | rfl | rfl | rfl | rfl
  · obtain rfl : z = 64 := by have := Hz.out; omega
    have hnb : base ≤ wr.heap.size := by omega
    go_wp2_with (first
     | (at_builtin; refine wpList_append_one (by rfl) (.tmp 25) (.tmp 30) _ (by rfl) base 5 i0 _ 1 1 Tryz.underlying22 hi hz0 hz1 hz2 (by rfl) (by omega) (.slice A' m' c') m' _ (by rfl) _ _ hown' wr.heap.size (by rfl) (by rfl) (by rfl) (one_u8v _) (by simp only [maxLen]; omega) (by omega) (by omega) ?_; intro g2 cap2 w5 hown5 hg5 hB5 hat5 hlt5; have hx5 := (Blk.grown hx hg5 Hne.out); have hx5c := hx5.cell; have hs5 := hB5.size)
     | (at_builtin; refine Lib.wpList_append_own_string w5 (by rfl) (.tmp 32) (.tmp 34) _ _ (by rfl) base 5 i0 Tryz.underlying22 Tryz.underlying9 hi hz0 hz1 hz2 _ _ _ (by rfl) hown5 vt (by rfl) (by simp only [maxLen]; omega) (by omega) (by omega) ?_; intro v6 w6 hown6 hg6 hnl6))
    obtain ⟨A6, c6, rfl⟩ := own_slice hown6
    have hlen : es.length = m' + 1 + vt.size := by
     rw [← HES.out]
     have h1 := Hm'.out
     have h2 := Hl.out
     have h3 : (txB vt).length = vt.size := by simp [txB, ByteArray.toList_eq]
     simp only [encV, List.length_append, List.length_cons, List.length_nil, h3, numBs]
     omega
    have HE : Hid (es = cl ++ [(vt.size : Int)] ++ txB vt) := by
     show _ = _
     rw [Hcl.out, ← HES.out]
     simp [encV]
    go_ret
    rw [hlen]
    refine ⟨A6, c6, rfl, ⟨?_, hlen⟩, ?_, (htb.grown hown' hg5).grown hown5 hg6⟩
    · rw [HE.out]
      simpa [u8v, txB_cells, List.flatMap_append] using hown6
    · exact ((hbr.trans hB5).grown hg6 (by omega) (own_base hown5))
  · obtain rfl : z = 0 := by have := Hz.out; omega
    go_wp2_with (first
     | (at_builtin; refine wpList_append_one (by rfl) (.tmp 16) (.tmp 23) _ (by rfl) base 5 i0 _ 1 1 Tryz.underlying22 hi hz0 hz1 hz2 (by rfl) (by omega) (.slice A' m' c') m' _ (by rfl) _ _ hown' wr.heap.size (by rfl) (by rfl) (by rfl) (one_u8v _) (by simp only [maxLen]; omega) (by omega) (by omega) ?_; intro g2 cap2 w5 hown5 hg5 hB5 hat5 hlt5))
    go_roundw
    case rel =>
     refine ⟨1, _, _, m' + 1, cap2, cl ++ [numB vi 0], by omega, rfl, rfl, rfl, (by have := Hm'.out; omega), (by show _ = _; have := Hm'.out; omega), (by show _ = _; rw [Hcl.out, List.append_assoc]; rfl), ?_, Blk.grown hx hg5 Hne.out, hbr.trans hB5, ne_after Hne.out hat5 (by omega), htb.grown hown' hg5⟩
     simpa [u8v, numB] using hown5
    case measure => simp [intOf]
  · obtain rfl : z = 8 := by have := Hz.out; omega
    go_wp2_with (first
     | (at_builtin; refine wpList_append_one (by rfl) (.tmp 16) (.tmp 23) _ (by rfl) base 5 i0 _ 1 1 Tryz.underlying22 hi hz0 hz1 hz2 (by rfl) (by omega) (.slice A' m' c') m' _ (by rfl) _ _ hown' wr.heap.size (by rfl) (by rfl) (by rfl) (one_u8v _) (by simp only [maxLen]; omega) (by omega) (by omega) ?_; intro g2 cap2 w5 hown5 hg5 hB5 hat5 hlt5))
    go_roundw
    case rel =>
     refine ⟨2, _, _, m' + 1, cap2, cl ++ [numB vi 1], by omega, rfl, rfl, rfl, (by have := Hm'.out; omega), (by show _ = _; have := Hm'.out; omega), (by show _ = _; rw [Hcl.out, List.append_assoc]; rfl), ?_, Blk.grown hx hg5 Hne.out, hbr.trans hB5, ne_after Hne.out hat5 (by omega), htb.grown hown' hg5⟩
     simpa [u8v, numB] using hown5
    case measure => simp [intOf]
  · obtain rfl : z = 16 := by have := Hz.out; omega
    go_wp2_with (first
     | (at_builtin; refine wpList_append_one (by rfl) (.tmp 16) (.tmp 23) _ (by rfl) base 5 i0 _ 1 1 Tryz.underlying22 hi hz0 hz1 hz2 (by rfl) (by omega) (.slice A' m' c') m' _ (by rfl) _ _ hown' wr.heap.size (by rfl) (by rfl) (by rfl) (one_u8v _) (by simp only [maxLen]; omega) (by omega) (by omega) ?_; intro g2 cap2 w5 hown5 hg5 hB5 hat5 hlt5))
    go_roundw
    case rel =>
     refine ⟨3, _, _, m' + 1, cap2, cl ++ [numB vi 2], by omega, rfl, rfl, rfl, (by have := Hm'.out; omega), (by show _ = _; have := Hm'.out; omega), (by show _ = _; rw [Hcl.out, List.append_assoc]; rfl), ?_, Blk.grown hx hg5 Hne.out, hbr.trans hB5, ne_after Hne.out hat5 (by omega), htb.grown hown' hg5⟩
     simpa [u8v, numB] using hown5
    case measure => simp [intOf]
  · obtain rfl : z = 24 := by have := Hz.out; omega
    go_wp2_with (first
     | (at_builtin; refine wpList_append_one (by rfl) (.tmp 16) (.tmp 23) _ (by rfl) base 5 i0 _ 1 1 Tryz.underlying22 hi hz0 hz1 hz2 (by rfl) (by omega) (.slice A' m' c') m' _ (by rfl) _ _ hown' wr.heap.size (by rfl) (by rfl) (by rfl) (one_u8v _) (by simp only [maxLen]; omega) (by omega) (by omega) ?_; intro g2 cap2 w5 hown5 hg5 hB5 hat5 hlt5))
    go_roundw
    case rel =>
     refine ⟨4, _, _, m' + 1, cap2, cl ++ [numB vi 3], by omega, rfl, rfl, rfl, (by have := Hm'.out; omega), (by show _ = _; have := Hm'.out; omega), (by show _ = _; rw [Hcl.out, List.append_assoc]; rfl), ?_, Blk.grown hx hg5 Hne.out, hbr.trans hB5, ne_after Hne.out hat5 (by omega), htb.grown hown' hg5⟩
     simpa [u8v, numB] using hown5
    case measure => simp [intOf]
  · obtain rfl : z = 32 := by have := Hz.out; omega
    go_wp2_with (first
     | (at_builtin; refine wpList_append_one (by rfl) (.tmp 16) (.tmp 23) _ (by rfl) base 5 i0 _ 1 1 Tryz.underlying22 hi hz0 hz1 hz2 (by rfl) (by omega) (.slice A' m' c') m' _ (by rfl) _ _ hown' wr.heap.size (by rfl) (by rfl) (by rfl) (one_u8v _) (by simp only [maxLen]; omega) (by omega) (by omega) ?_; intro g2 cap2 w5 hown5 hg5 hB5 hat5 hlt5))
    go_roundw
    case rel =>
     refine ⟨5, _, _, m' + 1, cap2, cl ++ [numB vi 4], by omega, rfl, rfl, rfl, (by have := Hm'.out; omega), (by show _ = _; have := Hm'.out; omega), (by show _ = _; rw [Hcl.out, List.append_assoc]; rfl), ?_, Blk.grown hx hg5 Hne.out, hbr.trans hB5, ne_after Hne.out hat5 (by omega), htb.grown hown' hg5⟩
     simpa [u8v, numB] using hown5
    case measure => simp [intOf]
  · obtain rfl : z = 40 := by have := Hz.out; omega
    go_wp2_with (first
     | (at_builtin; refine wpList_append_one (by rfl) (.tmp 16) (.tmp 23) _ (by rfl) base 5 i0 _ 1 1 Tryz.underlying22 hi hz0 hz1 hz2 (by rfl) (by omega) (.slice A' m' c') m' _ (by rfl) _ _ hown' wr.heap.size (by rfl) (by rfl) (by rfl) (one_u8v _) (by simp only [maxLen]; omega) (by omega) (by omega) ?_; intro g2 cap2 w5 hown5 hg5 hB5 hat5 hlt5))
    go_roundw
    case rel =>
     refine ⟨6, _, _, m' + 1, cap2, cl ++ [numB vi 5], by omega, rfl, rfl, rfl, (by have := Hm'.out; omega), (by show _ = _; have := Hm'.out; omega), (by show _ = _; rw [Hcl.out, List.append_assoc]; rfl), ?_, Blk.grown hx hg5 Hne.out, hbr.trans hB5, ne_after Hne.out hat5 (by omega), htb.grown hown' hg5⟩
     simpa [u8v, numB] using hown5
    case measure => simp [intOf]
  · obtain rfl : z = 48 := by have := Hz.out; omega
    go_wp2_with (first
     | (at_builtin; refine wpList_append_one (by rfl) (.tmp 16) (.tmp 23) _ (by rfl) base 5 i0 _ 1 1 Tryz.underlying22 hi hz0 hz1 hz2 (by rfl) (by omega) (.slice A' m' c') m' _ (by rfl) _ _ hown' wr.heap.size (by rfl) (by rfl) (by rfl) (one_u8v _) (by simp only [maxLen]; omega) (by omega) (by omega) ?_; intro g2 cap2 w5 hown5 hg5 hB5 hat5 hlt5))
    go_roundw
    case rel =>
     refine ⟨7, _, _, m' + 1, cap2, cl ++ [numB vi 6], by omega, rfl, rfl, rfl, (by have := Hm'.out; omega), (by show _ = _; have := Hm'.out; omega), (by show _ = _; rw [Hcl.out, List.append_assoc]; rfl), ?_, Blk.grown hx hg5 Hne.out, hbr.trans hB5, ne_after Hne.out hat5 (by omega), htb.grown hown' hg5⟩
     simpa [u8v, numB] using hown5
    case measure => simp [intOf]
  · obtain rfl : z = 56 := by have := Hz.out; omega
    go_wp2_with (first
     | (at_builtin; refine wpList_append_one (by rfl) (.tmp 16) (.tmp 23) _ (by rfl) base 5 i0 _ 1 1 Tryz.underlying22 hi hz0 hz1 hz2 (by rfl) (by omega) (.slice A' m' c') m' _ (by rfl) _ _ hown' wr.heap.size (by rfl) (by rfl) (by rfl) (one_u8v _) (by simp only [maxLen]; omega) (by omega) (by omega) ?_; intro g2 cap2 w5 hown5 hg5 hB5 hat5 hlt5))
    go_roundw
    case rel =>
     refine ⟨8, _, _, m' + 1, cap2, cl ++ [numB vi 7], by omega, rfl, rfl, rfl, (by have := Hm'.out; omega), (by show _ = _; have := Hm'.out; omega), (by show _ = _; rw [Hcl.out, List.append_assoc]; rfl), ?_, Blk.grown hx hg5 Hne.out, hbr.trans hB5, ne_after Hne.out hat5 (by omega), htb.grown hown' hg5⟩
     simpa [u8v, numB] using hown5
    case measure => simp [intOf]
end Go.Proofs.YtnnmlhmffnfjfaaGreat
