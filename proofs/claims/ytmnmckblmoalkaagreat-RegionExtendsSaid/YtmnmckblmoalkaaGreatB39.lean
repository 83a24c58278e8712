/-
  Texts: CInt2.
-/
import Derived.Test.YtmnmckblmoalkaaGreatB38
set_option linter.unusedVariables false
/-
  Case.Interval once more: with the ranges of its points and the row that it owns.
-/
namespace Go.Proofs.YtmnmckblmoalkaaGreat
open Go.RowKit
set_option maxRecDepth 100000

/-- canonical, few points, all in range -/
structure GoodR (l : List Iv) (m : Nat) : Prop where
  good : Good l m
  rg : ∀ v ∈ ptsL l, rgV v
theorem rg_of {v : Vl} (h : rngV v) : rgV v := ⟨h.1, by have := h.2; omega⟩
theorem GoodR.len {l : List Iv} {m : Nat} (h : GoodR l m) : 2 * l.length ≤ m + 1 := h.good.len
theorem GoodR.mono {l : List Iv} {m n : Nat} (h : GoodR l m) (hn : m ≤ n) : GoodR l n := ⟨h.good.mono hn, h.rg⟩
theorem GoodR.nil (m : Nat) : GoodR [] m := ⟨Good.nil m, by simp [ptsL]⟩
theorem GoodR.comb {op : Bool → Bool → Bool} {a b : List Iv} {m n : Nat} (ha : GoodR a m) (hb : GoodR b n) (hop : op false false = false) : GoodR (combR op a b) (m + n) := by
  refine ⟨ha.good.comb hb.good hop, fun v hv => ?_⟩
  obtain ⟨hP, hm⟩ := ptsSet_spec a b
  have e : combR op a b = ivsOf (chg (fun p => op (inL a p) (inL b p)) false (ptsSet a b)) := by
    rw [combR_eq, (cmb_eq _ _ hP).1 [] (fun y h => by cases h)]
    rfl
  rw [e, pts_ivs] at hv
  rcases (hm v).1 ((chg_sub _ _ _).1 v hv) with h | h
  · exact ha.rg v h
  · exact hb.rg v h
theorem goodR_from {v : Vl} (hv : validV v = true) (hr : rngV v) : GoodR (fromL v).1 2 := by
  refine ⟨good_from hv, fun u hu => ?_⟩
  unfold fromL at hu
  rw [if_pos hv] at hu
  simp [ptsL] at hu
  rw [hu]
  exact rg_of hr
theorem goodR_between {a b : Vl} (ha : rngV a) (hb : rngV b) : GoodR (betweenL a b).1 2 := by
  refine ⟨good_between a b, fun u hu => ?_⟩
  unfold betweenL at hu
  repeat' split at hu
  all_goals simp [ptsL] at hu
  rcases hu with rfl | rfl
  · exact rg_of ha
  · exact rg_of hb
theorem goodR_one {v : Vl} (hv : validV v = true) (hr : rngV v) : GoodR (oneL v).1 2 := by
  refine ⟨good_one hv hr, fun u hu => ?_⟩
  obtain ⟨h1, h2⟩ := nextV_good hv hr
  unfold oneL at hu
  rw [if_pos hv] at hu
  cases hb : (nextV v).2
  · rw [hb] at hu
    simp [ptsL] at hu
    rw [hu]
    exact rg_of hr
  · rw [hb] at hu
    simp [ptsL] at hu
    rcases hu with rfl | rfl
    · exact rg_of hr
    · exact rg_of (h1 hb).2.1
theorem goodR_all : GoodR allL 1 := ⟨good_all, fun u hu => by
  simp [ptsL, allL] at hu
  rw [hu]
  exact ⟨by decide, by decide⟩⟩
theorem GoodR.wf {l : List Iv} {m : Nat} (h : GoodR l m) : ∀ x ∈ l, rgV x.f ∧ rgV x.t := fun x hx => by
  have h1 : x.f ∈ ptsL l := mem_ptsL.2 ⟨x, hx, .inl rfl⟩
  refine ⟨h.rg _ h1, ?_⟩
  cases ho : x.o
  · exact h.rg _ (mem_ptsL.2 ⟨x, hx, .inr ⟨ho, rfl⟩⟩)
  · have : x.t = zeroV := by
      have hord := h.good.ord
      clear h h1
      generalize hp : (none : Option Iv) = p at hord
      clear hp
      induction l generalizing p with
      | nil => cases hx
      | cons y l ih =>
        rw [ordFrom_cons, Bool.and_eq_true] at hord
        rcases List.mem_cons.1 hx with rfl | hx
        · have h2 := hord.1
          unfold okI at h2
          simp only [Bool.and_eq_true, ho, if_true] at h2
          have h3 := h2.2
          simp only [decide_eq_true_eq] at h3
          exact h3.2
        · exact ih hx _ hord.2
    rw [this]
    exact ⟨by decide, by decide⟩
/-- the list is a row of intervals of the call's own -/
def OwnI7 (w : World) (A : Option Addr) (l : List Iv) (c : Nat) : Prop := ∃ B, w.ownsRow B 90 7 (.slice A l.length c) l.length (l.flatMap Iv.cs)
theorem OwnI7.nil (w : World) : OwnI7 w none [] 0 := ⟨0, by simp, .inl ⟨rfl, rfl⟩⟩
theorem OwnI7.but {w w' : World} {A : Option Addr} {l : List Iv} {c : Nat} {S : Nat → Prop} (h : OwnI7 w A l c) (hb : But S w w') (hs : ∀ q, (Value.slice A l.length c).ownBlock = some q → ¬ S q) : OwnI7 w' A l c := by
  obtain ⟨B, h⟩ := h
  exact ⟨B, own_but h hb hs⟩
theorem OwnI7.ne {w : World} {A : Option Addr} {l : List Iv} {c : Nat} (h : OwnI7 w A l c) {q : Nat} (hq : (Value.slice A l.length c).ownBlock = some q) {T : TypeId} {cs : Array Value} (hb : Blk w q T cs) : T = 90 := by
  obtain ⟨B, h⟩ := h
  obtain ⟨_, _, cs', h1⟩ := own_lt h hq
  unfold Blk at hb
  rw [h1] at hb
  injection hb with hb
  injection hb with _ hb
  exact hb.symm
theorem OwnI7.case {w w' : World} {A : Option Addr} {l : List Iv} {c g : Nat} (h : OwnI7 w A l c) (hc : CaseAt w g) (hb : But (· = g) w w') : OwnI7 w' A l c := h.but hb fun q hq e => by
  obtain ⟨A', n', c', k', zs, hB, _⟩ := hc.ex
  subst e
  exact absurd (h.ne hq hB) (by decide)
theorem OwnI7.s {w : World} {A : Option Addr} {l : List Iv} {c : Nat} (h : OwnI7 w A l c) : IvS w A l.length l := by
  obtain ⟨B, h⟩ := h
  exact Sl.of_own Iv.cs_len rfl h
theorem OwnI7.ok {w : World} {A : Option Addr} {l : List Iv} {c : Nat} (h : OwnI7 w A l c) : okS A l.length c := by
  obtain ⟨B, h⟩ := h
  exact own_okS h
def SomeL2 (w : World) (g : Nat) (e : Ending) (w' : World) : Prop := ∃ (l : List Iv) (A : Option Addr) (c : Nat), GoodR l 7 ∧ e = .returned (.slice A l.length c) ∧ IvS w' A l.length l ∧ (A = none → l.length = 0 ∧ c = 0) ∧ (∀ ad, A = some ad → ad.spot = none) ∧ OwnI7 w' A l c ∧ CaseAt w' g ∧ But (· = g) w w'
def CIRel2 (w : World) (g : Nat) (v i : Value) (wr : World) : Prop := ∃ (k : Nat) (l : List Iv) (A : Option Addr) (c : Nat), k ≤ 3 ∧ i = .int .i64 (k : Int) ∧ v = .slice A l.length c ∧ GoodR l (6 - 2 * k) ∧ IvS wr A l.length l ∧ (A = none → l.length = 0 ∧ c = 0) ∧ (∀ ad, A = some ad → ad.spot = none) ∧ OwnI7 wr A l c ∧ CaseAt wr g ∧ But (· = g) w wr
set_option maxRecDepth 100000 in
set_option maxHeartbeats 4000000 in
theorem cinterval2_any (g : Nat) (w : World) (hc : CaseAt w g) : Calls Tryz.prog 46 #[.pointer (some ⟨g, 0, none⟩)] w fun e w' => SomeL2 w g e w' := by
  go_enter Tryz.func46, Tryz.ntmps46
  go_wp2_with fail
  refine (int_any g 3 _ hc (by omega) (by omega)).mono ?_
  rintro e w1 ⟨⟨x, hx1, hx2, rfl⟩, hc1, hb1⟩
  obtain ⟨n0, rfl⟩ := Int.eq_ofNat_of_zero_le hx1
  have hn : n0 < 3 := by omega
  go_wp2_with fail
  go_loopw [3, 4] (fun v i wr => CIRel2 w g v i wr) (fun _ i _ => (intOf i).toNat)
  case atStart => exact ⟨n0 + 1, [], none, 0, by omega, congrArg (Value.int .i64) (by omega), rfl, GoodR.nil _, Sl.nil, fun _ => ⟨rfl, rfl⟩, fun ad e => (by cases e), OwnI7.nil _, hc1, hb1⟩
  case round =>
    obtain ⟨k, l, A, c, hk, rfl, rfl, hG, hS, hnl, hsp, hO7, hcr, hbr⟩ := hrel
    have HO7 := Lib.hid hO7
    clear hO7
    have HG := Lib.hid hG
    have HS := Lib.hid hS
    have HN := Lib.hid hnl
    have HP := Lib.hid hsp
    have hszr : w.heap.size ≤ wr.heap.size := hbr.size
    clear hG hS hnl hsp
    by_cases hlt : 0 < k
    · go_wp2_with fail
      refine (any2_any g _ hcr).mono ?_
      rintro e w2 ⟨⟨⟨ak, ai, ab⟩, hav, har, rfl⟩, hc2, hb2⟩
      have HAV := Lib.hid hav
      have HAR := Lib.hid har
      clear hav har
      go_wp2_with fail
      refine (any2_any g _ hc2).mono ?_
      rintro e w3 ⟨⟨⟨bk, bi, bt⟩, hbv, hbrr, rfl⟩, hc3, hb3⟩
      have HBV := Lib.hid hbv
      have HBR := Lib.hid hbrr
      clear hbv hbrr
      go_wp2_with fail
      refine (rcompare_any ⟨ak, ai, ab⟩ ⟨bk, bi, bt⟩ _).mono ?_
      rintro e w4 ⟨rfl, hb4⟩
      have hX := ((Blk.new w3 49 #[.int .i64 ak, .int .i64 ai, .string ab]).alloc (.cells #[.int .i64 bk, .int .i64 bi, .string bt] 49)).below hb4
      have hY := (Blk.new (w3.alloc (.cells #[.int .i64 ak, .int .i64 ai, .string ab] 49)) 49 #[.int .i64 bk, .int .i64 bi, .string bt]).below hb4
      have hA0 := ((Below.refl w3.heap.size w3).alloc (Nat.le_refl _) (.cells #[.int .i64 ak, .int .i64 ai, .string ab] 49)).alloc (by simp) (.cells #[.int .i64 bk, .int .i64 bi, .string bt] 49)
      have hA4 := Below.next hA0 hb4
      have hc4 := hc3.below hA4
      have hB4 : But (· = g) wr w4 := (hb2.trans hb3).trans (But.of_below hA4)
      simp only [World.size_alloc] at hY
      have hgl := hc3.lt
      have hs3 : wr.heap.size ≤ w3.heap.size := (hb2.trans hb3).size
      generalize w3.heap.size = p at *
      clear hA0 hA4 hb2 hb3 hc2 hc3
      generalize hq : cmpV ⟨ak, ai, ab⟩ ⟨bk, bi, bt⟩ = q
      clear hq
      have hXc := hX.cell
      have hYc := hY.cell
      have hXf := hX.free
      have hYf := hY.free
      by_cases hgt : 0 < q
      · go_wp2_with fail
        clear hXc hYc hXf hYf
        have hX1 := ((((((hX.set_ 0 (.int .i64 bk)).set_ 1 (.int .i64 bi)).set_ 2 (.string bt)).far (p := ⟨p + 1, 0, none⟩) (by simp) (.int .i64 ak)).far (p := ⟨p + 1, 1, none⟩) (by simp) (.int .i64 ai)).far (p := ⟨p + 1, 2, none⟩) (by simp) (.string ab))
        have hY1 := ((((((hY.far (p := ⟨p, 0, none⟩) (by simp) (.int .i64 bk)).far (p := ⟨p, 1, none⟩) (by simp) (.int .i64 bi)).far (p := ⟨p, 2, none⟩) (by simp) (.string bt)).set_ 0 (.int .i64 ak)).set_ 1 (.int .i64 ai)).set_ 2 (.string ab))
        have hcW := case_box (case_box hc4 hX (by omega) (.int .i64 bk) (.int .i64 bi) (.string bt)) (((hY.far (p := ⟨p, 0, none⟩) (by simp) (.int .i64 bk)).far (p := ⟨p, 1, none⟩) (by simp) (.int .i64 bi)).far (p := ⟨p, 2, none⟩) (by simp) (.string bt)) (by omega) (.int .i64 ak) (.int .i64 ai) (.string ab)
        have hBW := (((((hB4.setNew (p := ⟨p, 0, none⟩) hs3 (.int .i64 bk)).setNew (p := ⟨p, 1, none⟩) hs3 (.int .i64 bi)).setNew (p := ⟨p, 2, none⟩) hs3 (.string bt)).setNew (p := ⟨p + 1, 0, none⟩) (by show wr.heap.size ≤ p + 1; omega) (.int .i64 ak)).setNew (p := ⟨p + 1, 1, none⟩) (by show wr.heap.size ≤ p + 1; omega) (.int .i64 ai)).setNew (p := ⟨p + 1, 2, none⟩) (by show wr.heap.size ≤ p + 1; omega) (.string ab)
        generalize ((((((w4.setCell ⟨p, 0, none⟩ (.int .i64 bk)).setCell ⟨p, 1, none⟩ (.int .i64 bi)).setCell ⟨p, 2, none⟩ (.string bt)).setCell ⟨p + 1, 0, none⟩ (.int .i64 ak)).setCell ⟨p + 1, 1, none⟩ (.int .i64 ai)).setCell ⟨p + 1, 2, none⟩ (.string ab)) = W at *
        have hXX : Blk W p 49 #[.int .i64 bk, .int .i64 bi, .string bt] := hX1
        have hYY : Blk W (p + 1) 49 #[.int .i64 ak, .int .i64 ai, .string ab] := hY1
        have HXV := HBV
        have HXR := HBR
        have HYR := HAR
        clear hX1 hY1 hX hY hc4 hB4 hb4 HAV HAR HBV HBR
        generalize bk = xk at *
        generalize bi = xi at *
        generalize bt = xt at *
        generalize ak = yk at *
        generalize ai = yi at *
        generalize ab = yt at *
        refine (int_any g 5 _ hcW (by omega) (by omega)).mono ?_
        rintro e w6 ⟨⟨y, hy1, hy2, rfl⟩, hc6, hb6⟩
        have hX6 := hXX.but hb6 (by omega)
        have hY6 := hYY.but hb6 (by omega)
        have hX6c := hX6.cell
        have hY6c := hY6.cell
        have hB6 := hBW.trans hb6
        clear hXX hYY hcW hBW hb6 hX6 hY6
        have hyy : y = 0 ∨ y = 1 ∨ 2 ≤ y := by omega
        rcases hyy with rfl | rfl | hy
        · skip
          go_wp2_with fail
          clear hX6c hY6c
          refine (rfrom_any ⟨xk, xi, xt⟩ _).mono ?_
          rintro e w7 ⟨A7, c7, rfl, hS7, hb7⟩
          have HG7 : Hid (GoodR (fromL ⟨xk, xi, xt⟩).1 2) := Lib.hid (goodR_from HXV.out HXR.out)
          have HS7 := Lib.hid hS7
          clear hS7
          generalize fromL ⟨xk, xi, xt⟩ = r at *
          have hl := HG.out.len
          have hl7 := HG7.out.len
          have HSl := Lib.hid ((HS.out.but hB6 (iv_ne hcr HS.out)).keep (keeps_of hb7))
          go_wp2_with fail
          refine (rcombine_any 1 A A7 _ _ c c7 l r.1 _ HSl.out HS7.out (by omega) (by omega)).mono ?_
          rintro e w8 ⟨A8, c8, rfl, ho8, hb8⟩
          have HGC : Hid (GoodR (combR (opR 1) l r.1) (6 - 2 * (k - 1))) := Lib.hid ((HG.out.comb HG7.out (opR_ff 1)).mono (by omega))
          have HO := Lib.hid ho8
          clear ho8
          go_wp2_with fail
          go_roundw
          case rel =>
            have hf := own_forms HO.out
            exact ⟨k - 1, _, A8, c8, by omega, congrArg (Value.int .i64) (by omega), rfl, HGC.out, Sl.of_own Iv.cs_len rfl HO.out, hf.1, hf.2.1, ⟨_, HO.out⟩, (hc6.below hb7).below hb8, ((hbr.trans hB6).trans (But.of_below hb7)).trans (But.of_below hb8)⟩
          case measure => simp [intOf]; omega
        · skip
          go_wp2_with fail
          clear hX6c hY6c
          refine (rone_any ⟨xk, xi, xt⟩ _).mono ?_
          rintro e w7 ⟨A7, c7, rfl, hS7, hb7⟩
          have HG7 : Hid (GoodR (oneL ⟨xk, xi, xt⟩).1 2) := Lib.hid (goodR_one HXV.out HXR.out)
          have HS7 := Lib.hid hS7
          clear hS7
          generalize oneL ⟨xk, xi, xt⟩ = r at *
          have hl := HG.out.len
          have hl7 := HG7.out.len
          have HSl := Lib.hid ((HS.out.but hB6 (iv_ne hcr HS.out)).keep (keeps_of hb7))
          go_wp2_with fail
          refine (rcombine_any 1 A A7 _ _ c c7 l r.1 _ HSl.out HS7.out (by omega) (by omega)).mono ?_
          rintro e w8 ⟨A8, c8, rfl, ho8, hb8⟩
          have HGC : Hid (GoodR (combR (opR 1) l r.1) (6 - 2 * (k - 1))) := Lib.hid ((HG.out.comb HG7.out (opR_ff 1)).mono (by omega))
          have HO := Lib.hid ho8
          clear ho8
          go_wp2_with fail
          go_roundw
          case rel =>
            have hf := own_forms HO.out
            exact ⟨k - 1, _, A8, c8, by omega, congrArg (Value.int .i64) (by omega), rfl, HGC.out, Sl.of_own Iv.cs_len rfl HO.out, hf.1, hf.2.1, ⟨_, HO.out⟩, (hc6.below hb7).below hb8, ((hbr.trans hB6).trans (But.of_below hb7)).trans (But.of_below hb8)⟩
          case measure => simp [intOf]; omega
        · skip
          have y0 : (y == 0) = false := by simp; omega
          have y1 : (y == 1) = false := by simp; omega
          go_wp2_with fail
          clear hX6c hY6c
          refine (rbetween_any ⟨xk, xi, xt⟩ ⟨yk, yi, yt⟩ _).mono ?_
          rintro e w7 ⟨A7, c7, rfl, hS7, hb7⟩
          have HG7 : Hid (GoodR (betweenL ⟨xk, xi, xt⟩ ⟨yk, yi, yt⟩).1 2) := Lib.hid (goodR_between HXR.out HYR.out)
          have HS7 := Lib.hid hS7
          clear hS7
          generalize betweenL ⟨xk, xi, xt⟩ ⟨yk, yi, yt⟩ = r at *
          have hl := HG.out.len
          have hl7 := HG7.out.len
          have HSl := Lib.hid ((HS.out.but hB6 (iv_ne hcr HS.out)).keep (keeps_of hb7))
          go_wp2_with fail
          refine (rcombine_any 1 A A7 _ _ c c7 l r.1 _ HSl.out HS7.out (by omega) (by omega)).mono ?_
          rintro e w8 ⟨A8, c8, rfl, ho8, hb8⟩
          have HGC : Hid (GoodR (combR (opR 1) l r.1) (6 - 2 * (k - 1))) := Lib.hid ((HG.out.comb HG7.out (opR_ff 1)).mono (by omega))
          have HO := Lib.hid ho8
          clear ho8
          go_wp2_with fail
          go_roundw
          case rel =>
            have hf := own_forms HO.out
            exact ⟨k - 1, _, A8, c8, by omega, congrArg (Value.int .i64) (by omega), rfl, HGC.out, Sl.of_own Iv.cs_len rfl HO.out, hf.1, hf.2.1, ⟨_, HO.out⟩, (hc6.below hb7).below hb8, ((hbr.trans hB6).trans (But.of_below hb7)).trans (But.of_below hb8)⟩
          case measure => simp [intOf]; omega
      · go_wp2_with fail
        clear hXc hYc hXf hYf
        have hXX := hX
        have hYY := hY
        have hcW := hc4
        have hBW := hB4
        have HXV := HAV
        have HXR := HAR
        have HYR := HBR
        clear hX hY hc4 hB4 hb4 HAV HAR HBV HBR
        generalize ak = xk at *
        generalize ai = xi at *
        generalize ab = xt at *
        generalize bk = yk at *
        generalize bi = yi at *
        generalize bt = yt at *
        generalize w4 = W at *
        refine (int_any g 5 _ hcW (by omega) (by omega)).mono ?_
        rintro e w6 ⟨⟨y, hy1, hy2, rfl⟩, hc6, hb6⟩
        have hX6 := hXX.but hb6 (by omega)
        have hY6 := hYY.but hb6 (by omega)
        have hX6c := hX6.cell
        have hY6c := hY6.cell
        have hB6 := hBW.trans hb6
        clear hXX hYY hcW hBW hb6 hX6 hY6
        have hyy : y = 0 ∨ y = 1 ∨ 2 ≤ y := by omega
        rcases hyy with rfl | rfl | hy
        · skip
          go_wp2_with fail
          clear hX6c hY6c
          refine (rfrom_any ⟨xk, xi, xt⟩ _).mono ?_
          rintro e w7 ⟨A7, c7, rfl, hS7, hb7⟩
          have HG7 : Hid (GoodR (fromL ⟨xk, xi, xt⟩).1 2) := Lib.hid (goodR_from HXV.out HXR.out)
          have HS7 := Lib.hid hS7
          clear hS7
          generalize fromL ⟨xk, xi, xt⟩ = r at *
          have hl := HG.out.len
          have hl7 := HG7.out.len
          have HSl := Lib.hid ((HS.out.but hB6 (iv_ne hcr HS.out)).keep (keeps_of hb7))
          go_wp2_with fail
          refine (rcombine_any 1 A A7 _ _ c c7 l r.1 _ HSl.out HS7.out (by omega) (by omega)).mono ?_
          rintro e w8 ⟨A8, c8, rfl, ho8, hb8⟩
          have HGC : Hid (GoodR (combR (opR 1) l r.1) (6 - 2 * (k - 1))) := Lib.hid ((HG.out.comb HG7.out (opR_ff 1)).mono (by omega))
          have HO := Lib.hid ho8
          clear ho8
          go_wp2_with fail
          go_roundw
          case rel =>
            have hf := own_forms HO.out
            exact ⟨k - 1, _, A8, c8, by omega, congrArg (Value.int .i64) (by omega), rfl, HGC.out, Sl.of_own Iv.cs_len rfl HO.out, hf.1, hf.2.1, ⟨_, HO.out⟩, (hc6.below hb7).below hb8, ((hbr.trans hB6).trans (But.of_below hb7)).trans (But.of_below hb8)⟩
          case measure => simp [intOf]; omega
        · skip
          go_wp2_with fail
          clear hX6c hY6c
          refine (rone_any ⟨xk, xi, xt⟩ _).mono ?_
          rintro e w7 ⟨A7, c7, rfl, hS7, hb7⟩
          have HG7 : Hid (GoodR (oneL ⟨xk, xi, xt⟩).1 2) := Lib.hid (goodR_one HXV.out HXR.out)
          have HS7 := Lib.hid hS7
          clear hS7
          generalize oneL ⟨xk, xi, xt⟩ = r at *
          have hl := HG.out.len
          have hl7 := HG7.out.len
          have HSl := Lib.hid ((HS.out.but hB6 (iv_ne hcr HS.out)).keep (keeps_of hb7))
          go_wp2_with fail
          refine (rcombine_any 1 A A7 _ _ c c7 l r.1 _ HSl.out HS7.out (by omega) (by omega)).mono ?_
          rintro e w8 ⟨A8, c8, rfl, ho8, hb8⟩
          have HGC : Hid (GoodR (combR (opR 1) l r.1) (6 - 2 * (k - 1))) := Lib.hid ((HG.out.comb HG7.out (opR_ff 1)).mono (by omega))
          have HO := Lib.hid ho8
          clear ho8
          go_wp2_with fail
          go_roundw
          case rel =>
            have hf := own_forms HO.out
            exact ⟨k - 1, _, A8, c8, by omega, congrArg (Value.int .i64) (by omega), rfl, HGC.out, Sl.of_own Iv.cs_len rfl HO.out, hf.1, hf.2.1, ⟨_, HO.out⟩, (hc6.below hb7).below hb8, ((hbr.trans hB6).trans (But.of_below hb7)).trans (But.of_below hb8)⟩
          case measure => simp [intOf]; omega
        · skip
          have y0 : (y == 0) = false := by simp; omega
          have y1 : (y == 1) = false := by simp; omega
          go_wp2_with fail
          clear hX6c hY6c
          refine (rbetween_any ⟨xk, xi, xt⟩ ⟨yk, yi, yt⟩ _).mono ?_
          rintro e w7 ⟨A7, c7, rfl, hS7, hb7⟩
          have HG7 : Hid (GoodR (betweenL ⟨xk, xi, xt⟩ ⟨yk, yi, yt⟩).1 2) := Lib.hid (goodR_between HXR.out HYR.out)
          have HS7 := Lib.hid hS7
          clear hS7
          generalize betweenL ⟨xk, xi, xt⟩ ⟨yk, yi, yt⟩ = r at *
          have hl := HG.out.len
          have hl7 := HG7.out.len
          have HSl := Lib.hid ((HS.out.but hB6 (iv_ne hcr HS.out)).keep (keeps_of hb7))
          go_wp2_with fail
          refine (rcombine_any 1 A A7 _ _ c c7 l r.1 _ HSl.out HS7.out (by omega) (by omega)).mono ?_
          rintro e w8 ⟨A8, c8, rfl, ho8, hb8⟩
          have HGC : Hid (GoodR (combR (opR 1) l r.1) (6 - 2 * (k - 1))) := Lib.hid ((HG.out.comb HG7.out (opR_ff 1)).mono (by omega))
          have HO := Lib.hid ho8
          clear ho8
          go_wp2_with fail
          go_roundw
          case rel =>
            have hf := own_forms HO.out
            exact ⟨k - 1, _, A8, c8, by omega, congrArg (Value.int .i64) (by omega), rfl, HGC.out, Sl.of_own Iv.cs_len rfl HO.out, hf.1, hf.2.1, ⟨_, HO.out⟩, (hc6.below hb7).below hb8, ((hbr.trans hB6).trans (But.of_below hb7)).trans (But.of_below hb8)⟩
          case measure => simp [intOf]; omega
    · obtain rfl : k = 0 := by omega
      go_wp2_with fail
      refine (bool_any g 4 _ hcr (by omega) (by omega)).mono ?_
      rintro e w2 ⟨⟨q, rfl⟩, hc2, hb2⟩
      have HS2 := Lib.hid (HS.out.but hb2 (iv_ne hcr HS.out))
      cases q
      · go_wp2
        go_ret
        exact ⟨l, A, c, HG.out.mono (by omega), rfl, HS2.out, HN.out, HP.out, HO7.out.case hcr hb2, hc2, hbr.trans hb2⟩
      · go_wp2_with fail
        refine (rall_any _).mono ?_
        rintro e w3 ⟨A3, c3, rfl, hS3, hb3⟩
        have HS3 := Lib.hid hS3
        clear hS3
        have hl := HG.out.len
        go_wp2_with fail
        refine (rcombine_any 3 A3 A _ _ c3 c allL l _ HS3.out (HS2.out.keep (keeps_of hb3)) (by decide) (by omega)).mono ?_
        rintro e w4 ⟨A4, c4, rfl, ho4, hb4⟩
        have HGC : Hid (GoodR (combR (opR 3) allL l) 7) := Lib.hid ((goodR_all.comb HG.out (opR_ff 3)).mono (by omega))
        have HO := Lib.hid ho4
        clear ho4
        go_wp2
        go_ret
        have hf := own_forms HO.out
        exact ⟨_, A4, c4, HGC.out, rfl, Sl.of_own Iv.cs_len rfl HO.out, hf.1, hf.2.1, ⟨_, HO.out⟩, (hc2.below hb3).below hb4, ((hbr.trans hb2).trans (But.of_below hb3)).trans (But.of_below hb4)⟩
end Go.Proofs.YtmnmckblmoalkaaGreat
