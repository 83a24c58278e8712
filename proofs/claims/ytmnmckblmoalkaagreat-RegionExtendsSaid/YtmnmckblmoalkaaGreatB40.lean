/-
  Texts: CRegion.
-/
import Derived.Test.YtmnmckblmoalkaaGreatB36
import Derived.Test.YtmnmckblmoalkaaGreatB39
set_option linter.unusedVariables false
/-
  Case.Region: a canonical region of the width that is asked for.
-/
namespace Go.Proofs.YtmnmckblmoalkaaGreat
open Go.RowKit
set_option maxRecDepth 100000
open Rg

theorem RgP.case {w w' : World} {g : Nat} (hc : CaseAt w g) (hb : But (· = g) w w') : ∀ {r : Rg} {b o : Nat}, RgP w r b o → RgP w' r b o
  | .nil _ _, _, _, _ => trivial
  | .cons vs rest tail, b, o, h => by
    obtain ⟨⟨A1, n1, c1, h1, h2, h3⟩, h4, h5, ⟨A', n', c', h6, h7, h8, h9⟩, h10⟩ := h
    have hne : ¬ b = g := by
      intro e
      subst e
      obtain ⟨A2, n2, c2, k2, zs, hB, _⟩ := hc.ex
      rw [hB.cell] at h1 h5
      rcases o with _ | _ | o <;> simp at h1 h5
    have hk : ∀ j v, w.cell? ⟨b, j, none⟩ = some v → w'.cell? ⟨b, j, none⟩ = some v := fun j v hv => by
      have hlt := cell_lt (w := w) (a := ⟨b, j, none⟩) (by rw [hv]; rfl)
      rw [World.cell?_of_block (w := w) (hb.block b hlt hne)]
      exact hv
    refine ⟨⟨A1, n1, c1, hk _ _ h1, h2, h3.but hb (iv_ne hc h3)⟩, hk _ _ h4, hk _ _ h5, ⟨A', n', c', hk _ _ h6, h7, h8, fun hn => ?_⟩, RgP.case hc hb h10⟩
    obtain ⟨b', o', e, h⟩ := h9 hn
    exact ⟨b', o', e, RgP.case hc hb h⟩
theorem RgS.case {w w' : World} {g : Nat} (hc : CaseAt w g) (hb : But (· = g) w w') {x : Int} {f : Bool} {A : Option Addr} {n c : Nat} {r : Rg} (h : RgS w x f A n c r) : RgS w' x f A n c r :=
  ⟨h.hw, h.hf, h.ok, h.len, fun hn => by
    obtain ⟨b, o, e, hp⟩ := h.ex hn
    exact ⟨b, o, e, hp.case hc hb⟩⟩
theorem But.then {S T : Nat → Prop} {a b c : World} (h : But S a b) (k : But T b c) (hT : ∀ q, T q → a.heap.size ≤ q) : But S a c :=
  ⟨k.os.trans h.os, k.tape.trans h.tape, k.output.trans h.output, Nat.le_trans h.size k.size, fun q hq hs => (k.block q (Nat.lt_of_lt_of_le hq h.size) (fun e => by have := hT q e; omega)).trans (h.block q hq hs)⟩
theorem CaseAt.ne {w : World} {g q : Nat} {T : TypeId} {cs : Array Value} (h : CaseAt w g) (hb : Blk w q T cs) (hT : T ≠ 69) : q ≠ g := fun e => by
  obtain ⟨A', n', c', k', zs, hB, _⟩ := h.ex
  subst e
  unfold Blk at hB hb
  rw [hB] at hb
  injection hb with hb
  injection hb with _ hb
  exact hT hb.symm
theorem CaseAt.off {w w' : World} {g q : Nat} {T : TypeId} {x : Int} {f : Bool} {v : Value} (h : CaseAt w g) (hB : Blk w q T #[.int .i64 x, .bool f, v]) (hv : ∀ z, v ≠ .int .u8 z) (hb : But (· = q) w w') (hne : g ≠ q) : CaseAt w' g := h.but hb hne fun b hb i z => by
  subst hb
  rw [hB.cell]
  rcases i with _ | _ | _ | i <;> simp
  exact hv z
/-- a set of the box under way -/
def SetR (w : World) (p : SetP) : Prop := GoodR p.2 7 ∧ p.1.2.1 = p.2.length ∧ OwnI7 w p.1.1 p.2 p.1.2.2
theorem SetR.but {w w' : World} {p : SetP} {S : Nat → Prop} (h : SetR w p) (hb : But S w w') (hs : ∀ q, (Value.slice p.1.1 p.2.length p.1.2.2).ownBlock = some q → ¬ S q) : SetR w' p := ⟨h.1, h.2.1, h.2.2.but hb hs⟩
theorem own_alls {w : World} {g : Nat} (h : Blk w g 90 allC) : OwnI7 w (some ⟨g, 0, none⟩) allL 1 := ⟨0, rfl, .inr ⟨g, 1, _, rfl, Nat.zero_le _, h, Nat.le_refl 1, by decide, rfl, rfl⟩⟩
theorem sets_of {w : World} {A : Option Addr} {n c B : Nat} {ps : List SetP} (hown : w.ownsRow B 72 1 (.slice A n c) n (ps.flatMap setc)) (hl : ps.length = n) (hp : ∀ p ∈ ps, SetR w p) : SetsS w A n ps ∧ (∀ s ∈ ps.map (·.2), validL s = true) ∧ (∀ s ∈ ps.map (·.2), ∀ x ∈ s, rgV x.f ∧ rgV x.t) := by
  refine ⟨⟨Sl.of_own setc_len hl hown, fun p h => ?_⟩, fun s hs => ?_, fun s hs => ?_⟩
  · obtain ⟨h1, h2, h3⟩ := hp p h
    have := h1.len
    rw [h2]
    exact ⟨h3.ok, by omega, h3.s⟩
  · obtain ⟨p, h, rfl⟩ := List.mem_map.1 hs
    exact (hp p h).1.good.valid (by omega)
  · obtain ⟨p, h, rfl⟩ := List.mem_map.1 hs
    exact (hp p h).1.wf
/-- what Case.Region returns -/
def SomeR (w : World) (g wd : Nat) (e : Ending) (w' : World) : Prop :=
  ∃ (x : Int) (f : Bool) (A : Option Addr) (n c : Nat) (r : Rg), e = .returned (.agg #[.int .i64 x, .bool f, .slice A n c]) ∧ RgS w' x f A n c r ∧ OkR r ∧ r.w = (wd : Int) ∧ WfR r ∧ CaseAt w' g ∧ But (· = g) w w'
/-- the state between two boxes -/
structure CRg (w : World) (g wd O : Nat) (x : Int) (f : Bool) (A : Option Addr) (n c : Nat) (r : Rg) (wr : World) : Prop where
  bo : Blk wr O 27 #[.int .i64 x, .bool f, .slice A n c]
  br : Blk wr w.heap.size 27 #[.int .i64 0, .bool false, .slice none 0 0]
  rs : RgS wr x f A n c r
  ok : OkR r
  rw_ : r.w = (wd : Int)
  wf : WfR r
  cs : CaseAt wr g
  bu : But (· = g) w wr
  hO : w.heap.size < O
theorem CRg.case {w : World} {g wd O : Nat} {x : Int} {f : Bool} {A : Option Addr} {n c : Nat} {r : Rg} {wr wr' : World} (h : CRg w g wd O x f A n c r wr) (hb : But (· = g) wr wr') (hc : CaseAt wr' g) : CRg w g wd O x f A n c r wr' :=
  ⟨h.bo.but hb (h.cs.ne h.bo (by decide)), h.br.but hb (h.cs.ne h.br (by decide)), h.rs.case h.cs hb, h.ok, h.rw_, h.wf, hc, h.bu.trans hb, h.hO⟩
theorem CRg.below {w : World} {g wd O : Nat} {x : Int} {f : Bool} {A : Option Addr} {n c : Nat} {r : Rg} {wr wr' : World} (h : CRg w g wd O x f A n c r wr) (hb : Below wr.heap.size wr wr') : CRg w g wd O x f A n c r wr' := h.case (But.of_below hb) (h.cs.below hb)
/-- another region in the box -/
theorem CRg.put {w : World} {g wd O : Nat} {x : Int} {f : Bool} {A : Option Addr} {n c : Nat} {r : Rg} {wr : World} (h : CRg w g wd O x f A n c r wr) {x' : Int} {f' : Bool} {A' : Option Addr} {n' c' : Nat} {r' : Rg} (hr : RgS wr x' f' A' n' c' r') (ho : OkR r') (hw : r'.w = (wd : Int)) (hf : WfR r') : CRg w g wd O x' f' A' n' c' r' (put3R wr O (.int .i64 x') (.bool f') (.slice A' n' c')) := by
  have hb := put3R_but wr O (.int .i64 x') (.bool f') (.slice A' n' c')
  have hO := h.hO
  exact ⟨put3R_blk h.bo, h.br.but hb (by omega), RgS.off h.bo hb hr, ho, hw, hf, h.cs.off h.bo (fun z => by simp) hb (Ne.symm (h.cs.ne h.bo (by decide))), h.bu.then hb (fun q hq => by omega), hO⟩
/-- the end: the region into the result's cell -/
theorem CRg.fin {w : World} {g wd O : Nat} {x : Int} {f : Bool} {A : Option Addr} {n c : Nat} {r : Rg} {wr : World} (h : CRg w g wd O x f A n c r wr) : SomeR w g wd (.returned (.agg #[.int .i64 x, .bool f, .slice A n c])) (put3R wr w.heap.size (.int .i64 x) (.bool f) (.slice A n c)) := by
  have hb := put3R_but wr w.heap.size (.int .i64 x) (.bool f) (.slice A n c)
  exact ⟨x, f, A, n, c, r, rfl, RgS.off h.br hb h.rs, h.ok, h.rw_, h.wf, h.cs.off h.br (fun z => by simp) hb (Ne.symm (h.cs.ne h.br (by decide))), h.bu.then hb (fun q hq => by omega)⟩
set_option maxHeartbeats 8000000 in
theorem cregion_any (g wd : Nat) (hwd : wd ≤ 12) (w : World) (hc : CaseAt w g) : Calls Tryz.prog 14 #[.pointer (some ⟨g, 0, none⟩), .int .i64 (wd : Int)] w fun e w' => SomeR w g wd e w' := by
  obtain ⟨il, hil, hl0, hl1, hl2⟩ := info_parts info_lst
  have HC0 := Lib.hid hc
  obtain ⟨W0, HW0⟩ : ∃ W : World, Hid (w.alloc (.cells #[.int .i64 0, .bool false, .slice none 0 0] 27) = W) := ⟨_, rfl⟩
  have HT0 : Hid (Blk W0 w.heap.size 27 #[.int .i64 0, .bool false, .slice none 0 0]) := by rw [← HW0.out]; exact Lib.hid (Blk.new _ _ _)
  have HB0 : Hid (Below w.heap.size w W0) := by rw [← HW0.out]; exact Lib.hid ((Below.refl _ _).alloc (Nat.le_refl _) _)
  have hs0 : W0.heap.size = w.heap.size + 1 := by rw [← HW0.out]; simp
  have HS0 := Lib.hid hs0
  clear hc hs0
  go_enter Tryz.func14, Tryz.ntmps14
  go_wp2_with fail
  rw [HW0.out]
  refine (fEmpty_any (wd : Int) _).mono ?_
  rintro e w1 ⟨x1, f1, A1, n1, c1, rfl, hR1, hb1⟩
  rw [if_pos (show (0 : Int) ≤ wd ∧ (wd : Int) ≤ 12 by omega)] at hR1 ⊢
  have HQ1 : Hid (CRg w g wd w1.heap.size x1 f1 A1 n1 c1 (.nil (wd : Int) false) (w1.alloc (.cells #[.int .i64 x1, .bool f1, .slice A1 n1 c1] 27))) := by
    have hbb := Below.next HB0.out hb1
    have h1 := hb1.size
    have h2 := HS0.out
    refine Lib.hid ⟨Blk.new _ _ _, (HT0.out.below hb1).alloc _, hR1.keep (keeps_alloc _ _), ⟨by show (0 : Int) ≤ wd; omega, by show (wd : Int) ≤ 12; omega, by show 0 ≤ 64; omega, by show FormF (wd : Int).toNat _; rw [Int.toNat_natCast]; exact ⟨form_nil wd, rfl⟩⟩, rfl, trivial, (HC0.out.below hbb).below ((Below.refl _ _).alloc (Nat.le_refl _) _), (But.of_below hbb).trans (But.alloc _ _), by omega⟩
  obtain ⟨O, HO⟩ : ∃ z, Hid (w1.heap.size = z) := ⟨_, rfl⟩
  rw [HO.out] at HQ1
  clear hR1 hb1 HT0 HB0
  go_upto_region 2 with fail
  rw [HO.out]
  generalize hW2 : w1.alloc (.cells #[.int .i64 x1, .bool f1, .slice A1 n1 c1] 27) = W2 at *
  clear hW2
  go_wp2_with fail
  refine (int_any g 4 _ HQ1.out.cs (by omega) (by omega)).mono ?_
  rintro e w2 ⟨⟨y, hy1, hy2, rfl⟩, hc2, hb2⟩
  obtain ⟨n0, rfl⟩ := Int.eq_ofNat_of_zero_le hy1
  have hn0 : n0 < 4 := by omega
  have HQ2 := Lib.hid (HQ1.out.case hb2 hc2)
  clear hc2 hb2 hy1 hy2
  go_wp2_with fail
  go_loopw [7] (fun i wr => ∃ (k : Nat) (x : Int) (f : Bool) (A : Option Addr) (n c : Nat) (r : Rg), k ≤ 3 ∧ i = .int .i64 (k : Int) ∧ Hid (CRg w g wd O x f A n c r wr)) (fun i _ => (intOf i).toNat)
  case atStart => exact ⟨n0, x1, f1, A1, n1, c1, _, by omega, rfl, HQ2⟩
  case round =>
    obtain ⟨k, x, f, A, n, c, r, hk, rfl, HQ⟩ := hrel
    clear HQ1 HQ2 HC0
    by_cases hlt : 0 < k
    · obtain ⟨w0r, HW0R⟩ : ∃ z, Hid (z = wr) := ⟨_, rfl⟩
      have hgl : g < w0r.heap.size := by rw [HW0R.out]; exact HQ.out.cs.lt
      have HQ0 : Hid (CRg w g wd O x f A n c r w0r) := by rw [HW0R.out]; exact HQ
      go_wp2_with fail
      go_loopw [8, 9] (fun v i wr' => ∃ (t : Nat) (A' : Option Addr) (c' : Nat) (ps : List SetP), t ≤ wd ∧ i = .int .i64 (t : Int) ∧ v = .slice A' t c' ∧ wr'.ownsRow w0r.heap.size 72 1 (.slice A' t c') t (ps.flatMap setc) ∧ Hid (ps.length = t ∧ ∀ p ∈ ps, SetR wr' p) ∧ CaseAt wr' g ∧ But (· = g) w0r wr') (fun _ i _ => wd - (intOf i).toNat)
      case atStart => exact ⟨0, none, 0, [], by omega, rfl, rfl, ⟨by simp, .inl ⟨rfl, rfl⟩⟩, Lib.hid ⟨rfl, by simp⟩, HQ.out.cs, by rw [HW0R.out]; exact But.refl _ _⟩
      case round =>
        obtain ⟨t, A', c', ps, ht, rfl, rfl, hown, HP, hcr, hbr⟩ := hrel
        clear HQ HW0R
        have HOW := Lib.hid hown
        have HBR := Lib.hid hbr
        have hszr := hbr.size
        clear hown hbr
        by_cases htl : t < wd
        · go_wp2_with fail
          refine (bool_any g 3 _ hcr (by omega) (by omega)).mono ?_
          rintro e w3 ⟨⟨bb, rfl⟩, hc3, hb3⟩
          have hnotg : ∀ (W : World), CaseAt W g → ∀ q, (Value.slice A' t c').ownBlock = some q → W.ownsRow w0r.heap.size 72 1 (.slice A' t c') t (ps.flatMap setc) → ¬ q = g := fun W hcW q hq hoW e => by
            obtain ⟨_, _, cs', h1⟩ := own_lt hoW hq
            exact hcW.ne (T := 72) (cs := cs') h1 (by decide) e
          have HNG := Lib.hid hnotg
          have HOW3 := Lib.hid (own_but HOW.out hb3 (fun q hq => HNG.out _ hcr q hq HOW.out))
          have HP3 : Hid (∀ p ∈ ps, SetR w3 p) := Lib.hid fun p hp => ⟨(HP.out.2 p hp).1, (HP.out.2 p hp).2.1, (HP.out.2 p hp).2.2.case hcr hb3⟩
          have HBR3 := Lib.hid (HBR.out.trans hb3)
          have hs3 := hb3.size
          clear hb3 hnotg hcr
          cases bb
          · go_wp2_with fail
            refine (cinterval2_any g _ hc3).mono ?_
            rintro e w4 ⟨l, A4, c4, hG4, rfl, _, _, _, hO4, hc4, hb4⟩
            have HG4 := Lib.hid hG4
            have HO4 := Lib.hid hO4
            have HOW4 := Lib.hid (own_but HOW3.out hb4 (fun q hq => HNG.out _ hc3 q hq HOW3.out))
            have HP4 : Hid (∀ p ∈ ps ++ [((A4, l.length, c4), l)], SetR w4 p) := Lib.hid fun p hp => by
              rcases List.mem_append.1 hp with hp | hp
              · exact ⟨(HP3.out p hp).1, (HP3.out p hp).2.1, (HP3.out p hp).2.2.case hc3 hb4⟩
              · rw [List.mem_singleton.1 hp]
                exact ⟨hG4, rfl, hO4⟩
            have HBR4 := Lib.hid (HBR3.out.trans hb4)
            have hs4 := HBR4.out.size
            clear hb4 hG4 hO4 hc3
            go_wp2_with (at_builtin; refine wpList_append_one2 (by rfl) (.tmp 38) (.tmp 41) _ (by rfl) w0r.heap.size 72 il _ 1 24 Tryz.underlying71 hil hl0 hl1 hl2 (by rfl) (by omega) (.slice A' t c') t _ (by rfl) w4 #[.slice A4 l.length c4] HOW4.out w4.heap.size (by rfl) (by rfl) (by rfl) (one_set ((A4, l.length, c4), l)) (by simp only [maxLen]; omega) (by omega) hs4 ?_; intro g6 cap6 w6 hown6 hg6 hB6 hat6 hlt6)
            go_roundw
            case rel =>
              have hbu := (But.alloc (S := fun q => (Value.slice A' t c').ownBlock = some q) w4 (.cells #[.slice A4 l.length c4] 72)).trans (But.of_grown hg6 (fun q hq => hq))
              have hcW : CaseAt w6 g := hc4.far hbu (fun q hq => by have := (own_lt HOW4.out hq).1; omega)
              refine ⟨t + 1, _, cap6, ps ++ [((A4, l.length, c4), l)], by omega, by go_num, rfl, ?_, Lib.hid ⟨by simp [HP.out.1], fun p hp => (HP4.out p hp).but hbu (fun q hq hq2 => ?_)⟩, hcW, HBR4.out.then hbu (fun q hq => (own_lt HOW4.out hq).1)⟩
              · rw [List.flatMap_append]
                simpa [setc] using hown6
              · obtain ⟨_, _, cs', h1⟩ := own_lt HOW4.out hq2
                exact absurd ((HP4.out p hp).2.2.ne hq (T := 72) (cs := cs') h1) (by decide)
            case measure => simp [intOf]; omega
          · go_wp2_with fail
            refine (rall2_any _).mono ?_
            rintro e w4 ⟨g4, rfl, hS4, hb4⟩
            have HOW4 := Lib.hid (own_at HOW3.out (fun q _ hl _ => hb4.block q hl))
            have HP4 : Hid (∀ p ∈ ps ++ [((some ⟨g4, 0, none⟩, 1, 1), allL)], SetR w4 p) := Lib.hid fun p hp => by
              rcases List.mem_append.1 hp with hp | hp
              · exact (HP3.out p hp).but (S := fun _ => False) (But.of_below hb4) (fun _ _ h => h)
              · rw [List.mem_singleton.1 hp]
                exact ⟨goodR_all.mono (by omega), rfl, own_alls hS4⟩
            have HBR4 := Lib.hid (HBR3.out.trans (But.of_below hb4))
            have hs4 := HBR4.out.size
            have hc4 := hc3.below hb4
            clear hb4 hS4 hc3
            go_wp2_with (at_builtin; refine wpList_append_one2 (by rfl) (.tmp 34) (.tmp 36) _ (by rfl) w0r.heap.size 72 il _ 1 24 Tryz.underlying71 hil hl0 hl1 hl2 (by rfl) (by omega) (.slice A' t c') t _ (by rfl) w4 #[.slice (some ⟨g4, 0, none⟩) 1 1] HOW4.out w4.heap.size (by rfl) (by rfl) (by rfl) (one_set ((some ⟨g4, 0, none⟩, 1, 1), allL)) (by simp only [maxLen]; omega) (by omega) hs4 ?_; intro g6 cap6 w6 hown6 hg6 hB6 hat6 hlt6)
            go_roundw
            case rel =>
              have hbu := (But.alloc (S := fun q => (Value.slice A' t c').ownBlock = some q) w4 (.cells #[.slice (some ⟨g4, 0, none⟩) 1 1] 72)).trans (But.of_grown hg6 (fun q hq => hq))
              have hcW : CaseAt w6 g := hc4.far hbu (fun q hq => by have := (own_lt HOW4.out hq).1; omega)
              refine ⟨t + 1, _, cap6, ps ++ [((some ⟨g4, 0, none⟩, 1, 1), allL)], by omega, by go_num, rfl, ?_, Lib.hid ⟨by simp [HP.out.1], fun p hp => (HP4.out p hp).but hbu (fun q hq hq2 => ?_)⟩, hcW, HBR4.out.then hbu (fun q hq => (own_lt HOW4.out hq).1)⟩
              · rw [List.flatMap_append]
                simpa [setc] using hown6
              · obtain ⟨_, _, cs', h1⟩ := own_lt HOW4.out hq2
                exact absurd ((HP4.out p hp).2.2.ne hq (T := 72) (cs := cs') h1) (by decide)
            case measure => simp [intOf]; omega
        · obtain rfl : t = wd := by omega
          obtain ⟨hss, hvv, hww⟩ := sets_of HOW.out HP.out.1 HP.out.2
          have hbe : boxErr (ps.map (·.2)) = 0 := by
            unfold boxErr
            rw [if_neg (by rw [List.length_map, HP.out.1]; omega), if_pos]
            rw [List.all_eq_true]
            exact fun s hs => hvv s hs
          have hbr : boxRes (ps.map (·.2)) = boxR (ps.map (·.2)) := by rw [boxRes, if_pos hbe]
          have HSS := Lib.hid hss
          have HBX : Hid (OkR (boxR (ps.map (·.2))) ∧ WfR (boxR (ps.map (·.2))) ∧ (boxR (ps.map (·.2))).w = (t : Int)) := Lib.hid ⟨box_OkR hbe, box_wf _ hww, by rw [box_w, List.length_map, HP.out.1]⟩
          have HBE := Lib.hid (And.intro hbe hbr)
          have HQR : Hid (CRg w g t O x f A n c r wr) := Lib.hid (HQ0.out.case HBR.out hcr)
          clear hss hvv hww hbe hbr HOW HP HBR HQ0 hcr
          go_wp2_with fail
          refine (fBox_any A' t c' ps _ HSS.out).mono ?_
          rintro e w3 ⟨x3, f3, A3, n3, c3, rfl, hR3, hb3⟩
          rw [HBE.out.1]
          rw [HBE.out.2] at hR3
          have HQ3 := Lib.hid ((HQR.out.below hb3).below ((Below.refl _ _).alloc (Nat.le_refl _) (.cells #[.int .i64 x3, .bool f3, .slice A3 n3 c3] 27)))
          have HR3 := Lib.hid (hR3.keep (keeps_alloc w3 (.cells #[.int .i64 x3, .bool f3, .slice A3 n3 c3] 27)))
          have HV3 := Lib.hid (Blk.new w3 27 #[.int .i64 x3, .bool f3, .slice A3 n3 c3])
          clear hR3 hb3 HQR HSS HBE
          go_upto_region 13 with fail
          generalize hW3 : w3.alloc (.cells #[.int .i64 x3, .bool f3, .slice A3 n3 c3] 27) = W3 at *
          clear hW3
          have z1 := HQ3.out.bo.cell
          have z2 := HV3.out.cell
          go_wp2_with fail
          refine (funion_any r x f A n c (boxR (ps.map (·.2))) x3 f3 A3 n3 c3 _ HQ3.out.rs HR3.out).mono ?_
          rintro e w4 ⟨x4, f4, A4, n4, c4, rfl, hR4, hb4⟩
          rw [opR_eq.1] at hR4 ⊢
          obtain ⟨er, Her⟩ : ∃ z, Hid (opErr opUr r (boxR (ps.map (·.2))) = z) := ⟨_, rfl⟩
          rw [Her.out]
          have HQ4 := Lib.hid ((HQ3.out.below hb4).below ((Below.refl _ _).alloc (Nat.le_refl _) (.cells #[.int .i64 x4, .bool f4, .slice A4 n4 c4] 27)))
          have HR4 := Lib.hid (hR4.keep (keeps_alloc w4 (.cells #[.int .i64 x4, .bool f4, .slice A4 n4 c4] 27)))
          have HV4 := Lib.hid (Blk.new w4 27 #[.int .i64 x4, .bool f4, .slice A4 n4 c4])
          clear hR4 hb4 HQ3 HR3 HV3 z1 z2
          go_upto_region 14 with fail
          generalize hW4 : w4.alloc (.cells #[.int .i64 x4, .bool f4, .slice A4 n4 c4] 27) = W4 at *
          clear hW4
          by_cases h0 : er = 0
          · have hop := op_ok (op := opUr) (a := r) (b := boxR (ps.map (·.2))) (by rw [Her.out]; exact h0)
            have HQ5 : Hid (CRg w g t O x4 f4 A4 n4 c4 (opRes opUr r (boxR (ps.map (·.2)))) (put3R W4 O (.int .i64 x4) (.bool f4) (.slice A4 n4 c4))) := by
              refine Lib.hid (HQ4.out.put HR4.out hop.1 ?_ (op_wf HQ4.out.wf HBX.out.2.1))
              rw [hop.2.1, (comb_form _ _ _ _ hop.2.2.1.2.2.2.1 (by rw [hop.2.2.2.2.1]; exact hop.2.2.2.1.2.2.2.1)).width, HQ4.out.rw_, Int.toNat_natCast]
            subst h0
            have z4 := HV4.out.cell
            have zo := HQ4.out.bo.cell
            obtain ⟨ff1, ff2, ff3⟩ := put3R_free HQ4.out.bo (.int .i64 x4) (.bool f4)
            have y3 := (put3R_blk (a' := .int .i64 x4) (b' := .bool f4) (c' := .slice A4 n4 c4) HQ4.out.bo).cell
            have y1 := (HQ4.out.bo.set_ 0 (.int .i64 x4)).cell
            have y2 := ((HQ4.out.bo.set_ 0 (.int .i64 x4)).set_ 1 (.bool f4)).cell
            unfold put3R at HQ5 y3
            clear hop
            go_wp2_with fail
            go_roundw
            case rel => exact ⟨k - 1, x4, f4, A4, n4, c4, _, by omega, congrArg (Value.int .i64) (by omega), HQ5⟩
            case measure => simp [intOf]; omega
          · have g3 : (er == 0) = false := by simp [h0]
            clear h0
            go_wp2_with fail
            go_roundw
            case rel => exact ⟨k - 1, x, f, A, n, c, r, by omega, congrArg (Value.int .i64) (by omega), HQ4⟩
            case measure => simp [intOf]; omega
    · obtain rfl : k = 0 := by omega
      go_wp2_with fail
      refine (bool_any g 4 _ HQ.out.cs (by omega) (by omega)).mono ?_
      rintro e w3 ⟨⟨bb, rfl⟩, hc3, hb3⟩
      have HQ3 := Lib.hid (HQ.out.case hb3 hc3)
      clear hc3 hb3 HQ
      cases bb
      · skip
        have zo := HQ3.out.bo.cell
        have zr := HQ3.out.br.cell
        obtain ⟨ff1, ff2, ff3⟩ := put3R_free HQ3.out.br (.int .i64 x) (.bool f)
        have y3 := (put3R_blk (a' := .int .i64 x) (b' := .bool f) (c' := .slice A n c) HQ3.out.br).cell
        have y1 := (HQ3.out.br.set_ 0 (.int .i64 x)).cell
        have y2 := ((HQ3.out.br.set_ 0 (.int .i64 x)).set_ 1 (.bool f)).cell
        have HFI := Lib.hid HQ3.out.fin
        unfold put3R at y3
        go_wp2
        exact bodyPost_ret (v := .agg #[.int .i64 x, .bool f, .slice A n c]) (by simp [results, Tryz.results14, go_sem, y3]) rfl HFI.out
      · have z1 := HQ3.out.bo.cell
        go_wp2_with fail
        refine (fcomplement_any r x f A n c _ HQ3.out.rs).mono ?_
        rintro e w4 ⟨x4, f4, A4, n4, c4, rfl, hR4, hb4⟩
        obtain ⟨er, Her⟩ : ∃ z, Hid (cpErr r = z) := ⟨_, rfl⟩
        rw [Her.out]
        have HQ4 := Lib.hid ((HQ3.out.below hb4).below ((Below.refl _ _).alloc (Nat.le_refl _) (.cells #[.int .i64 x4, .bool f4, .slice A4 n4 c4] 27)))
        have HR4 := Lib.hid (hR4.keep (keeps_alloc w4 (.cells #[.int .i64 x4, .bool f4, .slice A4 n4 c4] 27)))
        have HV4 := Lib.hid (Blk.new w4 27 #[.int .i64 x4, .bool f4, .slice A4 n4 c4])
        clear hR4 hb4 HQ3 z1
        go_upto_region 18 with fail
        generalize hW4 : w4.alloc (.cells #[.int .i64 x4, .bool f4, .slice A4 n4 c4] 27) = W4 at *
        clear hW4
        by_cases h0 : er = 0
        · have hcp : cpRes r = opRes opMr (allR r.w.toNat) r ∧ opErr opMr (allR r.w.toNat) r = 0 := by
            have hv := okB_true.2 HQ4.out.ok
            have h1 := Her.out
            rw [cpErr, if_pos hv] at h1
            exact ⟨by rw [cpRes, if_pos hv], by rw [h1]; exact h0⟩
          have hop := op_ok hcp.2
          have HQ5 : Hid (CRg w g wd O x4 f4 A4 n4 c4 (cpRes r) (put3R W4 O (.int .i64 x4) (.bool f4) (.slice A4 n4 c4))) := by
            refine Lib.hid (HQ4.out.put HR4.out (by rw [hcp.1]; exact hop.1) ?_ (by rw [hcp.1]; exact op_wf (all_wf _) HQ4.out.wf))
            rw [hcp.1, hop.2.1, (comb_form _ _ _ _ hop.2.2.1.2.2.2.1 (by rw [hop.2.2.2.2.1]; exact hop.2.2.2.1.2.2.2.1)).width, hop.2.2.2.2.1, HQ4.out.rw_, Int.toNat_natCast]
          subst h0
          have z4 := HV4.out.cell
          have zo := HQ4.out.bo.cell
          obtain ⟨ff1, ff2, ff3⟩ := put3R_free HQ4.out.bo (.int .i64 x4) (.bool f4)
          have y3 := (put3R_blk (a' := .int .i64 x4) (b' := .bool f4) (c' := .slice A4 n4 c4) HQ4.out.bo).cell
          have y1 := (HQ4.out.bo.set_ 0 (.int .i64 x4)).cell
          have y2 := ((HQ4.out.bo.set_ 0 (.int .i64 x4)).set_ 1 (.bool f4)).cell
          unfold put3R at HQ5 y3
          clear hop hcp
          go_upto_region 20 with fail
          generalize hW5 : (((W4.setCell ⟨O, 0, none⟩ (.int .i64 x4)).setCell ⟨O, 1, none⟩ (.bool f4)).setCell ⟨O, 2, none⟩ (.slice A4 n4 c4)) = W5 at *
          clear hW5 z4 zo ff1 ff2 ff3 y1 y2 y3 HQ4 HV4 HR4
          have zo := HQ5.out.bo.cell
          have zr := HQ5.out.br.cell
          obtain ⟨ff1, ff2, ff3⟩ := put3R_free HQ5.out.br (.int .i64 x4) (.bool f4)
          have y3 := (put3R_blk (a' := .int .i64 x4) (b' := .bool f4) (c' := .slice A4 n4 c4) HQ5.out.br).cell
          have y1 := (HQ5.out.br.set_ 0 (.int .i64 x4)).cell
          have y2 := ((HQ5.out.br.set_ 0 (.int .i64 x4)).set_ 1 (.bool f4)).cell
          have HFI := Lib.hid HQ5.out.fin
          unfold put3R at y3
          go_wp2
          exact bodyPost_ret (v := .agg #[.int .i64 x4, .bool f4, .slice A4 n4 c4]) (by simp [results, Tryz.results14, go_sem, y3]) rfl HFI.out
        · have g3 : (er == 0) = false := by simp [h0]
          clear h0
          have zo := HQ4.out.bo.cell
          have zr := HQ4.out.br.cell
          obtain ⟨ff1, ff2, ff3⟩ := put3R_free HQ4.out.br (.int .i64 x) (.bool f)
          have y3 := (put3R_blk (a' := .int .i64 x) (b' := .bool f) (c' := .slice A n c) HQ4.out.br).cell
          have y1 := (HQ4.out.br.set_ 0 (.int .i64 x)).cell
          have y2 := ((HQ4.out.br.set_ 0 (.int .i64 x)).set_ 1 (.bool f)).cell
          have HFI := Lib.hid HQ4.out.fin
          unfold put3R at y3
          go_wp2
          exact bodyPost_ret (v := .agg #[.int .i64 x, .bool f, .slice A n c]) (by simp [results, Tryz.results14, go_sem, y3]) rfl HFI.out
end Go.Proofs.YtmnmckblmoalkaaGreat
