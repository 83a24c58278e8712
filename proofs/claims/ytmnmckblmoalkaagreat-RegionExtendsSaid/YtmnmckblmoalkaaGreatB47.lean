/-
  Texts: Pj4, Pds4.
-/
import Derived.Test.YtmnmckblmoalkaaGreatB46
set_option linter.unusedVariables false
/-
  The state of the laws on projections between their statements; columns as argument.
-/
namespace Go.Proofs.YtmnmckblmoalkaaGreat
open Go.RowKit
set_option maxRecDepth 100000
open Rg

/-- a region in a box -/
structure BxJ (w : World) (V : Nat) (x : Int) (f : Bool) (A : Option Addr) (n c : Nat) (r : Rg) : Prop where
  b : Blk w V 27 #[.int .i64 x, .bool f, .slice A n c]
  s : RgS w x f A n c r
  wf : WfR r
section
variable {w w' : World} {V : Nat} {x : Int} {f : Bool} {A : Option Addr} {n c : Nat} {r : Rg}
theorem BxJ.case {g : Nat} (h : BxJ w V x f A n c r) (hc : CaseAt w g) (hb : But (· = g) w w') : BxJ w' V x f A n c r := ⟨h.b.but hb (hc.ne h.b (by decide)), h.s.case hc hb, h.wf⟩
theorem BxJ.below (h : BxJ w V x f A n c r) (hb : Below w.heap.size w w') : BxJ w' V x f A n c r := ⟨h.b.below hb, h.s.keep (keeps_of hb), h.wf⟩
theorem BxJ.alloc (h : BxJ w V x f A n c r) (o : Obj) : BxJ (w.alloc o) V x f A n c r := ⟨h.b.alloc o, h.s.keep (keeps_alloc w o), h.wf⟩
/-- a region goes into another box -/
theorem BxJ.off (h : BxJ w V x f A n c r) {B : Nat} {x' : Int} {f' : Bool} {A' : Option Addr} {n' c' : Nat} (hB : Blk w B 27 #[.int .i64 x', .bool f', .slice A' n' c']) (hb : But (· = B) w w') (hne : V ≠ B) : BxJ w' V x f A n c r := ⟨h.b.but hb hne, h.s.off hB hb, h.wf⟩
theorem BxJ.put {x' : Int} {f' : Bool} {A' : Option Addr} {n' c' : Nat} {r' : Rg} (h : BxJ w V x f A n c r) (hr : RgS w x' f' A' n' c' r') (hw : WfR r') : BxJ (put3R w V (.int .i64 x') (.bool f') (.slice A' n' c')) V x' f' A' n' c' r' :=
  ⟨put3R_blk h.b, hr.off h.b (put3R_but _ _ _ _ _), hw⟩
end
/-- columns that lie neither in the block g nor in a region's box -/
structure ClJ (B g : Nat) (w : World) (A : Option Addr) (n : Nat) (cs : List Int) : Prop where
  sl : ClS w A n cs
  ne : 0 < n → ∀ b o, A = some ⟨b, o, none⟩ → b ≠ g ∧ (b < B ∨ ∃ cells, w.heap[b]? = some (.cells cells 3 (0, 0)))
section
variable {B g : Nat} {w w' : World} {A : Option Addr} {n : Nat} {cs : List Int}
theorem ClJ.but {S : Nat → Prop} (h : ClJ B g w A n cs) (hb : But S w w') (hs : ∀ b o, 0 < n → A = some ⟨b, o, none⟩ → ¬ S b) : ClJ B g w' A n cs :=
  ⟨h.sl.but hb (fun hn b o hA => hs b o hn hA), fun hn b o hA => ⟨(h.ne hn b o hA).1, by
    rcases (h.ne hn b o hA).2 with h1 | ⟨cells, h1⟩
    · exact .inl h1
    · refine .inr ⟨cells, ?_⟩
      have hlt : b < w.heap.size := by
        rcases Nat.lt_or_ge b w.heap.size with h2 | h2
        · exact h2
        · rw [Array.getElem?_eq_none h2] at h1; cases h1
      rw [hb.block b hlt (hs b o hn hA)]
      exact h1⟩⟩
theorem ClJ.case (h : ClJ B g w A n cs) (hb : But (· = g) w w') : ClJ B g w' A n cs := h.but hb fun b o hn hA => (h.ne hn b o hA).1
theorem ClJ.below (h : ClJ B g w A n cs) (hb : Below w.heap.size w w') : ClJ B g w' A n cs := h.but (S := fun _ => False) (But.of_below hb) fun _ _ _ _ h => h
theorem ClJ.off (h : ClJ B g w A n cs) {V : Nat} {x : Int} {f : Bool} {v : Value} (hB : Blk w V 27 #[.int .i64 x, .bool f, v]) (hV : B ≤ V) (hb : But (· = V) w w') : ClJ B g w' A n cs := h.but hb fun b o hn hA e => by
  rcases (h.ne hn b o hA).2 with h1 | ⟨cells, h1⟩
  · omega
  · subst e
    unfold Blk at hB
    rw [hB] at h1
    injection h1 with h1
    injection h1 with _ h1
    exact absurd h1 (by decide)
end
/-- columns were drawn -/
def ColsJ (B W : Nat) (w : World) (g : Nat) (e : Ending) (w' : World) : Prop := ∃ (A : Option Addr) (n c : Nat) (cs : List Int), e = .returned (.slice A n c) ∧ n = cs.length ∧ ClJ B g w' A n cs ∧ dstB (W : Int) cs = true ∧ n ≤ W ∧ CaseAt w' g ∧ But (· = g) w w'
set_option maxRecDepth 100000 in
set_option maxHeartbeats 4000000 in
theorem gcolsJ_any (B : Nat) (g : Nat) (W : Nat) (hW : W ≤ 12) (w : World) (hc : CaseAt w g) : Calls Tryz.prog 16 #[.pointer (some ⟨g, 0, none⟩), .int .i64 (W : Int)] w fun e w' => ColsJ B W w g e w' := by
  obtain ⟨i0, hi, hz0, hz1, hz2⟩ := info_parts info_i64
  have hgl := hc.lt
  go_enter Tryz.func16, Tryz.ntmps16
  go_wp2_with fail
  refine (int_any g ((W : Int) + 1) _ hc (by omega) (by omega)).mono ?_
  rintro e w1 ⟨⟨y, hy1, hy2, rfl⟩, hc1, hb1⟩
  obtain ⟨n0, rfl⟩ := Int.eq_ofNat_of_zero_le hy1
  have hn0 : n0 ≤ W := by omega
  clear hy1 hy2
  go_wp2_with fail
  go_loopw [5, 6] (fun v i wr => ∃ (k : Nat) (cs : List Int) (A : Option Addr) (c : Nat), k ≤ W ∧ cs.length + k ≤ W ∧ i = .int .i64 (k : Int) ∧ v = .slice A cs.length c ∧ Hid (wr.ownsRow w.heap.size 3 1 (.slice A cs.length c) cs.length (cs.flatMap i64c)) ∧ Hid (dstB (W : Int) cs = true) ∧ Hid (CaseAt wr g) ∧ Hid (But (· = g) w wr)) (fun _ i _ => (intOf i).toNat)
  case atStart => exact ⟨n0, [], none, 0, hn0, by simpa using hn0, rfl, rfl, Lib.hid ⟨by simp, .inl ⟨rfl, rfl⟩⟩, Lib.hid (by simp [dstB]), Lib.hid hc1, Lib.hid hb1⟩
  case round =>
    clear hc1 hb1
    obtain ⟨k, cs, A, c, hk, hkl, rfl, rfl, HO, HD, HC, HB⟩ := hrel
    by_cases hlt : 0 < k
    · go_wp2_with fail
      refine (int_any g (W : Int) _ HC.out (by omega) (by omega)).mono ?_
      rintro e w2 ⟨⟨y, hy1, hy2, rfl⟩, hc2, hb2⟩
      have HY := Lib.hid (And.intro hy1 hy2)
      have HO2 := Lib.hid (own_but HO.out hb2 (fun q hq => by have := (own_lt HO.out hq).1; omega))
      have HC2 := Lib.hid hc2
      have HB2 := Lib.hid (HB.out.trans hb2)
      have HS2 := Lib.hid (Sl.of_own i64c_len rfl HO2.out)
      clear hy1 hy2 hc2 hb2 HO HC HB
      go_wp2_with fail
      go_loopw [8, 24] (fun v i wx => ∃ j : Nat, j ≤ cs.length ∧ i = .int .i64 (j : Int) ∧ v = .bool (decide (y ∈ cs.take j)) ∧ wx = w2) (fun _ i _ => cs.length - (intOf i).toNat)
      case atStart => exact ⟨0, by omega, rfl, by simp, rfl⟩
      case round =>
        obtain ⟨j, hj, rfl, rfl, rfl⟩ := hrel
        by_cases hjn : j < cs.length
        · obtain ⟨b, o, x, rfl, hx, hxc⟩ := HS2.out.at hjn
          have d0 := hxc 0 _ rfl
          simp only [Nat.mul_one, Nat.add_zero] at d0
          have ht := take_snocI hx
          have Ht := Lib.hid ht
          clear hx hxc ht
          by_cases hin : y ∈ cs.take j
          · rw [decide_eq_true hin]
            have hn1 : decide (y ∈ cs.take (j + 1)) = true := by rw [Ht.out]; simp [hin]
            have HN := Lib.hid hn1
            clear hn1 hin
            go_wp2
            go_roundw
            case rel => exact ⟨j + 1, by omega, by go_num, by rw [HN.out], trivial⟩
            case measure => simp [intOf]; omega
          · rw [decide_eq_false hin]
            by_cases hxy : x = y
            · have g3 : (x == y) = true := by simp [hxy]
              have hn1 : decide (y ∈ cs.take (j + 1)) = true := by rw [Ht.out]; simp [hxy]
              have HN := Lib.hid hn1
              clear hn1 hin hxy
              go_wp2
              go_roundw
              case rel => exact ⟨j + 1, by omega, by go_num, by rw [HN.out], trivial⟩
              case measure => simp [intOf]; omega
            · have g3 : (x == y) = false := by simp [hxy]
              have hn1 : decide (y ∈ cs.take (j + 1)) = false := by
                rw [Ht.out]
                have : ¬ y = x := fun e => hxy e.symm
                simp [hin, this]
              have HN := Lib.hid hn1
              clear hn1 hin hxy
              go_wp2
              go_roundw
              case rel => exact ⟨j + 1, by omega, by go_num, by rw [HN.out], trivial⟩
              case measure => simp [intOf]; omega
        · obtain rfl : j = cs.length := by omega
          rw [List.take_length]
          by_cases hin : y ∈ cs
          · rw [decide_eq_true hin]
            clear hin
            go_wp2
            go_roundw
            case rel => exact ⟨k - 1, cs, A, c, by omega, by omega, congrArg (Value.int .i64) (by omega), rfl, HO2, HD, HC2, HB2⟩
            case measure => simp [intOf]; omega
          · rw [decide_eq_false hin]
            have HIN := Lib.hid hin
            have hsz : w.heap.size ≤ wr.heap.size := HB2.out.size
            clear hin
            go_wp2_with (at_builtin; refine wpList_append_one2 (by rfl) (.tmp 37) (.tmp 39) _ (by rfl) w.heap.size 3 i0 _ 1 8 Tryz.underlying30 hi hz0 hz1 hz2 (by rfl) (by omega) (.slice A cs.length c) cs.length _ (by rfl) wr #[.int .i64 y] HO2.out wr.heap.size (by rfl) (by rfl) (by rfl) (one_i64 y) (by simp only [maxLen]; omega) (by omega) hsz ?_; intro g6 cap6 w6 hown6 hg6 hB6 hat6 hlt6)
            go_roundw
            case rel =>
              refine ⟨k - 1, cs ++ [y], some ⟨g6, 0, none⟩, cap6, by omega, by simp; omega, congrArg (Value.int .i64) (by omega), by simp, Lib.hid ?_, Lib.hid ?_, Lib.hid (gcase_belowB HC2.out hB6 hgl), Lib.hid (gbut_belowB HB2.out hB6 (Nat.le_refl _))⟩
              · rw [List.flatMap_append, List.length_append]
                simpa [i64c] using hown6
              · have h4 := dstB_true.1 HD.out
                rw [dstB_true]
                refine ⟨fun x hx => ?_, ?_⟩
                · rcases List.mem_append.1 hx with hx | hx
                  · exact h4.1 x hx
                  · rw [List.mem_singleton.1 hx]
                    exact HY.out
                · rw [List.nodup_append]
                  refine ⟨h4.2, by simp, fun a ha b hb e => ?_⟩
                  rw [List.mem_singleton.1 hb] at e
                  exact HIN.out (e ▸ ha)
            case measure => simp [intOf]; omega
    · have HE : Hid (ColsJ B W w g (.returned (.slice A cs.length c)) wr) := Lib.hid ⟨A, cs.length, c, cs, rfl, rfl, ⟨Sl.of_own i64c_len rfl HO.out, fun hn b o hA => by
        have h1 := own_lt HO.out (k := b) (by rw [hA]; rfl)
        exact ⟨by omega, .inr h1.2.2⟩⟩, HD.out, by omega, HC.out, HB.out⟩
      go_wp2
      go_ret
      exact HE.out
/-- the state of RegionProjects -/
structure PjS (w : World) (g Va Vw : Nat) (xa : Int) (fa : Bool) (Aa : Option Addr) (na ca : Nat) (ra : Rg) (xw : Int) (fw : Bool) (Aw : Option Addr) (nw cw : Nat) (rw_ : Rg) (Al : Option Addr) (nl : Nat) (cs : List Int) (wr : World) : Prop where
  a : BxJ wr Va xa fa Aa na ca ra
  r : BxJ wr Vw xw fw Aw nw cw rw_
  kk : CaseAt wr g
  cl : ClJ w.heap.size g wr Al nl cs
  bel : Below w.heap.size w wr
  hg : w.heap.size ≤ g
  hVa : w.heap.size ≤ Va
  hra : Va ≠ Vw
section
variable {w wr w' : World} {g Va Vw : Nat} {xa : Int} {fa : Bool} {Aa : Option Addr} {na ca : Nat} {ra : Rg} {xw : Int} {fw : Bool} {Aw : Option Addr} {nw cw : Nat} {rw_ : Rg} {Al : Option Addr} {nl : Nat} {cs : List Int}
theorem PjS.case (h : PjS w g Va Vw xa fa Aa na ca ra xw fw Aw nw cw rw_ Al nl cs wr) (hc : CaseAt w' g) (hb : But (· = g) wr w') : PjS w g Va Vw xa fa Aa na ca ra xw fw Aw nw cw rw_ Al nl cs w' :=
  ⟨h.a.case h.kk hb, h.r.case h.kk hb, hc, h.cl.case hb, hb.below h.bel h.bel.size (fun k hk => by subst hk; exact h.hg), h.hg, h.hVa, h.hra⟩
end
/-- what is left of it at the end -/
structure PjT (w : World) (g : Nat) (Al : Option Addr) (nl : Nat) (cs : List Int) (wr : World) : Prop where
  kk : CaseAt wr g
  cl : ClJ w.heap.size g wr Al nl cs
  bel : Below w.heap.size w wr
  hg : w.heap.size ≤ g
end Go.Proofs.YtmnmckblmoalkaaGreat

/-
  The state of RegionProducts between its statements: the boxes of a, b and of the region that was handed in.
-/
namespace Go.Proofs.YtmnmckblmoalkaaGreat
open Go.RowKit
set_option maxRecDepth 100000
open Rg

def lessB (B : Nat) (a b : World) : Prop := Below B a b
theorem lessB_of {B B' : Nat} {a b : World} (h : Below B' a b) (hB : B ≤ B') : lessB B a b := ⟨h.os, h.tape, h.output, h.size, fun q hq => h.block q (Nat.lt_of_lt_of_le hq hB)⟩
theorem lessB_trans (B : Nat) : ∀ a b c, lessB B a b → lessB B b c → lessB B a c := fun _ _ _ h k => ⟨k.os.trans h.os, k.tape.trans h.tape, k.output.trans h.output, Nat.le_trans h.size k.size, fun q hq => (k.block q hq).trans (h.block q hq)⟩
theorem keep_blk {w w' : World} {B V : Nat} {T : TypeId} {cs : Array Value} (h : Blk w V T cs) (hb : Below B w w') (hV : V < B) : Blk w' V T cs := (hb.block V hV).trans h
/-- a region in a box -/
structure BxQ (w : World) (V : Nat) (x : Int) (f : Bool) (A : Option Addr) (n c : Nat) (r : Rg) : Prop where
  b : Blk w V 27 #[.int .i64 x, .bool f, .slice A n c]
  s : RgS w x f A n c r
section
variable {w w' : World} {V : Nat} {x : Int} {f : Bool} {A : Option Addr} {n c : Nat} {r : Rg}
theorem BxQ.case {g : Nat} (h : BxQ w V x f A n c r) (hc : CaseAt w g) (hb : But (· = g) w w') : BxQ w' V x f A n c r := ⟨h.b.but hb (hc.ne h.b (by decide)), h.s.case hc hb⟩
theorem BxQ.below (h : BxQ w V x f A n c r) (hb : Below w.heap.size w w') : BxQ w' V x f A n c r := ⟨h.b.below hb, h.s.keep (keeps_of hb)⟩
theorem BxQ.alloc (h : BxQ w V x f A n c r) (o : Obj) : BxQ (w.alloc o) V x f A n c r := ⟨h.b.alloc o, h.s.keep (keeps_alloc w o)⟩
/-- a region goes into another box -/
theorem BxQ.off (h : BxQ w V x f A n c r) {B : Nat} {x' : Int} {f' : Bool} {A' : Option Addr} {n' c' : Nat} (hB : Blk w B 27 #[.int .i64 x', .bool f', .slice A' n' c']) (hb : But (· = B) w w') (hne : V ≠ B) : BxQ w' V x f A n c r := ⟨h.b.but hb hne, h.s.off hB hb⟩
theorem BxQ.put {x' : Int} {f' : Bool} {A' : Option Addr} {n' c' : Nat} {r' : Rg} (h : BxQ w V x f A n c r) (hr : RgS w x' f' A' n' c' r') : BxQ (put3R w V (.int .i64 x') (.bool f') (.slice A' n' c')) V x' f' A' n' c' r' :=
  ⟨put3R_blk h.b, hr.off h.b (put3R_but _ _ _ _ _)⟩
end
/-- the three boxes -/
structure PdS (w : World) (g Va Vb Vw : Nat) (xa : Int) (fa : Bool) (Aa : Option Addr) (na ca : Nat) (ra : Rg) (xb : Int) (fb : Bool) (Ab : Option Addr) (nb cb : Nat) (rb : Rg) (xw : Int) (fw : Bool) (Aw : Option Addr) (nw cw : Nat) (rw_ : Rg) (wr : World) : Prop where
  a : BxQ wr Va xa fa Aa na ca ra
  b : BxQ wr Vb xb fb Ab nb cb rb
  r : BxQ wr Vw xw fw Aw nw cw rw_
  cs : CaseAt wr g
  bel : Below w.heap.size w wr
  hg : w.heap.size ≤ g
  hVa : w.heap.size ≤ Va
  hVb : w.heap.size ≤ Vb
  hab : Va ≠ Vb
  hra : Va ≠ Vw
  hrb : Vb ≠ Vw
section
variable {w wr w' : World} {g Va Vb Vw : Nat} {xa : Int} {fa : Bool} {Aa : Option Addr} {na ca : Nat} {ra : Rg} {xb : Int} {fb : Bool} {Ab : Option Addr} {nb cb : Nat} {rb : Rg} {xw : Int} {fw : Bool} {Aw : Option Addr} {nw cw : Nat} {rw_ : Rg}
theorem PdS.case (h : PdS w g Va Vb Vw xa fa Aa na ca ra xb fb Ab nb cb rb xw fw Aw nw cw rw_ wr) (hc : CaseAt w' g) (hb : But (· = g) wr w') : PdS w g Va Vb Vw xa fa Aa na ca ra xb fb Ab nb cb rb xw fw Aw nw cw rw_ w' :=
  ⟨h.a.case h.cs hb, h.b.case h.cs hb, h.r.case h.cs hb, hc, hb.below h.bel h.bel.size (fun k hk => by subst hk; exact h.hg), h.hg, h.hVa, h.hVb, h.hab, h.hra, h.hrb⟩
end
end Go.Proofs.YtmnmckblmoalkaaGreat
