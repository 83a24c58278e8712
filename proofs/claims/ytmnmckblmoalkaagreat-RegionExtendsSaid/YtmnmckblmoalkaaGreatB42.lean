/-
  Texts: GHas, Graft, RegionR, FHas.
-/
import Derived.Deep.Cut
import Derived.Test.YtmnmckblmoalkaaGreatB35
set_option linter.unusedVariables false
/-
  The program's Has of a region and a row.
-/
namespace Go.Proofs.YtmnmckblmoalkaaGreat
open Go.RowKit
set_option maxRecDepth 100000
open Rg

/-- the first part whose values contain v -/
def fnd : List (List Iv × Rg) → Vl → Option Rg
  | [], _ => none
  | p :: ps, v => if hasL p.1 v then some p.2 else fnd ps v
def hasF : Rg → List Vl → Bool
  | r, [] => r.f
  | r, v :: l => match fnd r.parts v with
    | none => false
    | some q => hasF q l
noncomputable def hasR (r : Rg) (l : List Vl) : Bool := okB r && decide ((l.length : Int) = r.w) && hasF r l
theorem fnd_step {ps : List (List Iv × Rg)} {k : Nat} {p : List Iv × Rg} {v : Vl} {o : Option Rg} (hp : ps[k]? = some p) (h : fnd (ps.drop k) v = o) : (if hasL p.1 v then some p.2 else fnd (ps.drop (k + 1)) v) = o := by
  rw [drop_at hp] at h
  exact h
theorem hasF_step {r : Rg} {l : List Vl} {k : Nat} {v : Vl} {rr : Bool} (hv : l[k]? = some v) (h : hasF r (l.drop k) = rr) : (match fnd (r.parts.drop 0) v with | none => false | some q => hasF q (l.drop (k + 1))) = rr := by
  rw [drop_at hv] at h
  exact h
set_option maxHeartbeats 4000000 in
theorem ghas_any (r : Rg) (x : Int) (f : Bool) (A : Option Addr) (n c : Nat) (l : List Vl) (B : Option Addr) (m cb : Nat) (w : World) (hR : RgS w x f A n c r) (hV : VlS w B m l) :
    Calls Tryz.prog 30 #[.agg #[.int .i64 x, .bool f, .slice A n c], .slice B m cb] w fun e w' => e = .returned (.bool (hasR r l)) ∧ Below w.heap.size w w' := by
  obtain ⟨rr, Hrr⟩ : ∃ z, Hid (hasR r l = z) := ⟨_, rfl⟩
  rw [Hrr.out]
  have Hxw := Lib.hid hR.hw
  have Hlm := Lib.hid hV.1
  have HR := Lib.hid hR
  have HV := Lib.hid hV
  clear hR hV
  obtain ⟨v1, H1⟩ : ∃ z, Hid (okB r = z) := ⟨_, rfl⟩
  go_enter Tryz.func30, Tryz.ntmps30
  go_wp2_with fail
  refine (rvalidR_any r x f A n c _ (HR.out.keep (keeps_alloc _ _))).mono ?_
  rintro e w1 ⟨rfl, hb1⟩
  rw [H1.out]
  have HT := Lib.hid ((Blk.new w 27 #[.int .i64 x, .bool f, .slice A n c]).below hb1)
  have HB1 := Lib.hid (Below.next ((Below.refl _ _).alloc (Nat.le_refl _) _) hb1)
  clear hb1
  have z := HT.out.cell
  cases v1
  · obtain rfl : rr = false := by rw [← Hrr.out, hasR, H1.out]; rfl
    clear z
    go_wp2
    go_ret
    exact ⟨rfl, HB1.out⟩
  · by_cases hmx : (m : Int) = x
    · have hok1 := okB_true.1 H1.out
      have hm12 : (m : Int) ≤ 12 := by have := hok1.2.1; have := Hxw.out; omega
      have Hsz1 := Lib.hid hok1.2.2.1
      clear hok1
      have Hf : Hid (hasF r (l.drop 0) = rr) := Lib.hid (by rw [← Hrr.out, hasR, H1.out, decide_eq_true (by rw [Hxw.out, Hlm.out]; exact hmx)]; rfl)
      subst hmx
      have HR1 := Lib.hid (HR.out.keep (keeps_of HB1.out))
      clear Hxw Hrr H1 HR
      go_wp2_with fail
      go_loopw [22] (fun i wr => ∃ (k : Nat) (r' : Rg) (x' : Int) (f' : Bool) (A' : Option Addr) (n' c' : Nat), k ≤ m ∧ i = .int .i64 (k : Int) ∧ Hid (hasF r' (l.drop k) = rr) ∧ Hid (Blk wr w.heap.size 27 #[.int .i64 x', .bool f', .slice A' n' c']) ∧ Hid (RgS wr x' f' A' n' c' r') ∧ Hid (Below w.heap.size w wr) ∧ Hid (r'.size ≤ 64)) (fun i _ => m - (intOf i).toNat)
      case atStart => exact ⟨0, r, _, f, A, n, c, by omega, rfl, Hf, HT, HR1, HB1, Hsz1⟩
      case round =>
        obtain ⟨k, r', x', f', A', n', c', hk, rfl, Hq, HTr, HRr, HBr, Hsz⟩ := hrel
        clear z HT HR1 HB1 Hf Hsz1
        have hn64 : n' ≤ 64 := by have := HRr.out.len; have := len_le_size r'; have := Hsz.out; omega
        by_cases hlt : k < m
        · obtain ⟨b, o, ⟨vk, vi, vt⟩, rfl, hv, hc⟩ := (HV.out.keep (keeps_of HBr.out)).at hlt
          have c0 : wr.cell? ⟨b, o + k * 3, none⟩ = some (.int .i64 vk) := hc 0 (.int .i64 vk) rfl
          have c1 : wr.cell? ⟨b, o + k * 3 + 1, none⟩ = some (.int .i64 vi) := hc 1 (.int .i64 vi) rfl
          have c2 : wr.cell? ⟨b, o + k * 3 + 2, none⟩ = some (.string vt) := hc 2 (.string vt) rfl
          have Hst := Lib.hid (hasF_step hv Hq.out)
          clear hv hc Hq
          have HX := Lib.hid (Blk.new wr 49 #[.int .i64 vk, .int .i64 vi, .string vt])
          have HTx := Lib.hid (HTr.out.alloc (.cells #[.int .i64 vk, .int .i64 vi, .string vt] 49))
          have HRx := Lib.hid (HRr.out.keep (keeps_alloc wr (.cells #[.int .i64 vk, .int .i64 vi, .string vt] 49)))
          have HBx := Lib.hid (HBr.out.alloc HBr.out.size (.cells #[.int .i64 vk, .int .i64 vi, .string vt] 49))
          obtain ⟨X, HXe⟩ : ∃ z, Hid (wr.heap.size = z) := ⟨_, rfl⟩
          rw [HXe.out] at HX
          have Hne := Lib.hid (show w.heap.size ≠ X by have := HTr.out.lt; have := HXe.out; omega)
          go_upto_region 7 with fail
          rw [HXe.out]
          generalize hW2 : wr.alloc (.cells #[.int .i64 vk, .int .i64 vi, .string vt] 49) = w2 at *
          clear hW2 HTr HRr HBr c0 c1 c2
          have z := HTx.out.cell
          obtain ⟨fo, Hfo⟩ : ∃ z, Hid (fnd (r'.parts.drop 0) ⟨vk, vi, vt⟩ = z) := ⟨_, rfl⟩
          rw [Hfo.out] at Hst
          go_wp2_with fail
          go_loopw [29, 7] (fun j t wr => ∃ (q : Nat), q ≤ n' ∧ j = .int .i64 (q : Int) ∧ t = .int .i64 (-1) ∧ Hid (fnd (r'.parts.drop q) ⟨vk, vi, vt⟩ = fo) ∧ Hid (Below w2.heap.size w2 wr)) (fun j _ _ => n' - (intOf j).toNat)
          case atStart => exact ⟨0, by omega, rfl, rfl, Hfo, Lib.hid (Below.refl _ _)⟩
          case round =>
            obtain ⟨q, hq, rfl, rfl, Hfq, HBq⟩ := hrel
            clear z
            by_cases hqn : q < n'
            · obtain ⟨b2, o2, p, A1, n1, c1, px, pf, A2, n2, c2, rfl, hp, hpt⟩ := (HRx.out.keep (keeps_of HBq.out)).at hqn
              have Hs2 := Lib.hid (fnd_step hp Hfq.out)
              have Hps := Lib.hid (show p.2.size ≤ 64 by have := size_at hp; have := Hsz.out; omega)
              have HPT := Lib.hid hpt
              obtain ⟨d0, d1, d2, d3, hok, hvs, hrg⟩ := hpt
              clear hp hok hvs hrg Hfq
              have HX2 := Lib.hid ((HX.out.below HBq.out).alloc (.cells #[.slice A1 n1 c1, .int .i64 px, .bool pf, .slice A2 n2 c2] 86))
              have HT2 := Lib.hid ((HTx.out.below HBq.out).alloc (.cells #[.slice A1 n1 c1, .int .i64 px, .bool pf, .slice A2 n2 c2] 86))
              have HP2 := Lib.hid (HPT.out.keep (keeps_alloc wr (.cells #[.slice A1 n1 c1, .int .i64 px, .bool pf, .slice A2 n2 c2] 86)))
              have HB2 := Lib.hid (HBq.out.alloc HBq.out.size (.cells #[.slice A1 n1 c1, .int .i64 px, .bool pf, .slice A2 n2 c2] 86))
              have zx := HX2.out.cell
              go_wp2_with fail
              generalize hW3 : wr.alloc (.cells #[.slice A1 n1 c1, .int .i64 px, .bool pf, .slice A2 n2 c2] 86) = w3 at *
              clear hW3 d0 d1 d2 d3 zx HBq HPT
              refine (has_any A1 n1 c1 p.1 ⟨vk, vi, vt⟩ _ HP2.out.vs).mono ?_
              rintro e w4 ⟨rfl, hb4⟩
              obtain ⟨d, Hd⟩ : ∃ z, Hid (hasL p.1 ⟨vk, vi, vt⟩ = z) := ⟨_, rfl⟩
              rw [Hd.out] at Hs2 ⊢
              have HB4 := Lib.hid (Below.next HB2.out hb4)
              cases d
              · go_wp2
                go_roundw
                case rel => exact ⟨q + 1, by omega, by go_num, rfl, Lib.hid Hs2.out, HB4⟩
                case measure => simp [intOf]; omega
              · have hfo : some p.2 = fo := Hs2.out
                subst hfo
                have HT4 := Lib.hid (HT2.out.below hb4)
                obtain ⟨e0, e1, e2, e3, hok, hvs, hrg⟩ := HP2.out.keep (keeps_of hb4)
                have hpx : p.2.w = px := hrg.hw
                have HRp := Lib.hid (RgS.off HT4.out (put3R_but _ w.heap.size (.int .i64 px) (.bool pf) (.slice A2 n2 c2)) hrg)
                have HBp := Lib.hid (put3R_below (Below.next HBx.out HB4.out) (Nat.le_refl w.heap.size) (.int .i64 px) (.bool pf) (.slice A2 n2 c2))
                have HTp := Lib.hid (put3R_blk (a' := .int .i64 px) (b' := .bool pf) (c' := .slice A2 n2 c2) HT4.out)
                have zr := HT4.out.cell
                obtain ⟨ff1, ff2, ff3⟩ := put3R_free HT4.out (.int .i64 px) (.bool pf)
                have y1 := (HT4.out.set_ 0 (.int .i64 px)).cell
                have y2 := ((HT4.out.set_ 0 (.int .i64 px)).set_ 1 (.bool pf)).cell
                have g1 : decide ((q : Int) < 0) = false := by simp
                clear hok hvs hrg hb4 hpx
                go_wp2
                go_roundw
                case rel => exact ⟨k + 1, p.2, px, pf, A2, n2, c2, by omega, by go_num, Lib.hid Hst.out, HTp, HRp, HBp, Hps⟩
                case measure => simp [intOf]; omega
            · have hfo : none = fo := by
                rw [← Hfq.out, List.drop_eq_nil_of_le (by rw [len_parts]; have := HRx.out.len; omega)]
                rfl
              subst hfo
              obtain rfl : false = rr := Hst.out
              go_wp2
              go_ret
              exact ⟨rfl, Below.next HBx.out HBq.out⟩
        · have h1 := Hq.out
          rw [List.drop_eq_nil_of_le (by rw [Hlm.out]; omega)] at h1
          have h2 := HRr.out.hf
          have z := HTr.out.cell
          clear HV Hlm
          go_wp2
          go_ret
          exact ⟨ret_bool (by rw [← h1]; exact h2.symm), HBr.out⟩
    · obtain rfl : rr = false := by rw [← Hrr.out, hasR, H1.out, decide_eq_false (by rw [Hxw.out, Hlm.out]; exact hmx)]; rfl
      have g1 : ((m : Int) != x) = true := by simpa using hmx
      go_wp2
      go_ret
      exact ⟨rfl, HB1.out⟩
end Go.Proofs.YtmnmckblmoalkaaGreat

/-
  Plain: one region in the place of the empty row of another; how many boxes a region has. No walk here.
-/
namespace Go.Proofs.YtmnmckblmoalkaaGreat
open Go.RowKit
set_option maxRecDepth 100000
open Rg

/-- how many boxes there are -/
def nbox : Rg → Nat
  | .nil _ f => if f then 1 else 0
  | .cons _ rest tail => nbox rest + nbox tail
end Go.Proofs.YtmnmckblmoalkaaGreat

/-
  The law for a region that draws its order, with what a quiet operation may rely on said as a relation of worlds, and with late operations (stores) that wait for all that was read before. No program here.
-/
namespace Go.Proofs.YtmnmckblmoalkaaGreat
open Go.RowKit
set_option maxRecDepth 100000
set_option linter.unusedVariables false

structure LaterR (R : World → World → Prop) (w : World) where
  nxt : World
  rel : nxt = w ∨ R w nxt
instance (R : World → World → Prop) (w : World) : Nonempty (LaterR R w) := ⟨⟨w, .inl rfl⟩⟩
instance (R : World → World → Prop) (w : World) : Inhabited (LaterR R w) := ⟨⟨w, .inl rfl⟩⟩
def afterR (R : World → World → Prop) (w : World) (x : LaterR R w) : World := x.nxt
abbrev clsR (R : World → World → Prop) (w : World) : World → Prop := fun W => ∃ x : LaterR R w, W = afterR R w x
theorem clsR_iff {R : World → World → Prop} {w W : World} : clsR R w W ↔ (W = w ∨ R w W) := ⟨fun ⟨x, h⟩ => by rw [h]; exact x.rel, fun h => ⟨⟨W, h⟩, rfl⟩⟩
theorem LaterR.cell {R : World → World → Prop} {w : World} (y : LaterR R w) {a : Addr} {v : Option Value} (h0 : w.cell? a = v) (h : ∀ W, R w W → W.cell? a = v) : (afterR R w y).cell? a = v := by
  rcases y.rel with e | e
  · show y.nxt.cell? a = v
    rw [e]
    exact h0
  · exact h _ e
inductive PlanR where
  | last (qs ws : List Nat)
  | one (qs ws : List Nat) (e : Nat) (t : PlanR)
def PlanR.len : PlanR → Nat
  | .last qs ws => qs.length + ws.length
  | .one qs ws _ t => qs.length + (ws.length + (t.len + 1))
/-- what an operation with an effect keeps: R1 unless it is late, R2 always -/
structure Eff (late : List Nat) (R1 R2 : World → World → Prop) (i : Nat) (w w' : World) : Prop where
  r1 : i ∉ late → R1 w w'
  r2 : R2 w w'
def EffC (late : List Nat) (R1 R2 : World → World → Prop) (i : Nat) (w w' : World) : Prop := (i ∉ late → w' = w ∨ R1 w w') ∧ (w' = w ∨ R2 w w')
theorem Eff.c {late : List Nat} {R1 R2 : World → World → Prop} {i : Nat} {w w' : World} (h : Eff late R1 R2 i w w') : EffC late R1 R2 i w w' := ⟨fun hn => .inr (h.r1 hn), .inr h.r2⟩
theorem EffC.refl {late : List Nat} {R1 R2 : World → World → Prop} {i : Nat} {w : World} : EffC late R1 R2 i w w := ⟨fun _ => .inl rfl, .inl rfl⟩
/-- f waits for i, through others or at once -/
def reach (ops : Array Oper) : Nat → Nat → Nat → Bool
  | 0, _, _ => false
  | n + 1, f, i => match ops[f]? with
    | none => false
    | some o => o.after.any fun e => Region.binds .any e && (e.on == i || reach ops n e.on i)
/-- what is listed has all that it waits for listed -/
def Closed (ops : Array Oper) (listed : Array Bool) : Prop := ∀ k o, ops[k]? = some o → listed.getD k true = true → ∀ e ∈ o.after, Region.binds .any e = true → listed.getD e.on false = true
theorem getD_ft {l : Array Bool} {k : Nat} (h : l.getD k false = true) : l.getD k true = true := by
  rw [Array.getD_eq_getD_getElem?] at h ⊢
  cases hk : l[k]? with
  | none => rfl
  | some b => rw [hk] at h; exact h
theorem getD_tf {l : Array Bool} {k : Nat} (h : l.getD k true = false) : l.getD k false = false := by
  rw [Array.getD_eq_getD_getElem?] at h ⊢
  cases hk : l[k]? with
  | none => rfl
  | some b => rw [hk] at h; exact h
theorem getD_more {l : Array Bool} {j k : Nat} (h : l.getD k false = true) : (l.setIfInBounds j true).getD k false = true := by
  by_cases hjk : j = k
  · subst hjk
    rw [Array.getD_eq_getD_getElem?] at h ⊢
    rw [Array.getElem?_setIfInBounds]
    by_cases hj : j < l.size
    · simp [hj]
    · simp [Array.getElem?_eq_none (Nat.le_of_not_lt hj)] at h
  · rw [getD_set_ne false hjk]
    exact h
theorem reach_closed {ops : Array Oper} {listed : Array Bool} (hc : Closed ops listed) : ∀ (n f i : Nat), reach ops n f i = true → ∀ o, ops[f]? = some o → (∀ e ∈ o.after, Region.binds .any e = true → listed.getD e.on false = true) → listed.getD i false = true
  | 0, _, _, h, _, _, _ => by cases h
  | n + 1, f, i, h, o, ho, hall => by
    unfold reach at h
    rw [ho] at h
    simp only [Array.any_eq_true', Bool.and_eq_true, Bool.or_eq_true, beq_iff_eq] at h
    obtain ⟨e, he, hb, h⟩ := h
    rcases h with h | h
    · rw [← h]; exact hall e he hb
    · have h1 := hall e he hb
      cases hk : ops[e.on]? with
      | none => cases n with
        | zero => cases h
        | succ n => unfold reach at h; rw [hk] at h; cases h
      | some o' => exact reach_closed hc n e.on i h o' hk fun e' he' hb' => hc e.on o' hk (getD_ft h1) e' he' hb'
theorem Closed.more {ops : Array Oper} {listed : Array Bool} (hc : Closed ops listed) {j : Nat} {oj : Oper} (hoj : ops[j]? = some oj) (hall : ∀ e ∈ oj.after, Region.binds .any e = true → listed.getD e.on false = true) : Closed ops (listed.setIfInBounds j true) := by
  intro k o ho hk e he hb
  by_cases hjk : j = k
  · subst hjk
    rw [hoj] at ho
    injection ho with ho
    subst ho
    exact getD_more (hall e he hb)
  · rw [getD_set_ne true hjk] at hk
    exact getD_more (hc k o ho hk e he hb)
theorem Closed.start (ops : Array Oper) : Closed ops (Array.replicate ops.size false) := by
  intro k o ho hk
  have hlt : k < ops.size := (Array.getElem?_eq_some_iff.1 ho).1
  rw [Array.getD_eq_getD_getElem?, Array.getElem?_replicate, if_pos hlt] at hk
  cases hk
def lateOk (late : List Nat) (ops : Array Oper) (listed : Array Bool) (i : Nat) : Bool := late.all fun f => listed.getD f true || reach ops ops.size f i
def checkV (late : List Nat) (ops : Array Oper) : List Nat → Array Bool → Option (Array Bool)
  | [], listed => some listed
  | i :: r, listed => if plainAt ops i && (Region.ready .any ops listed).contains i && Region.free .any ops listed i && lateOk late ops listed i then checkV late ops r (listed.setIfInBounds i true) else none
section
variable {P : Program} {ops : Array Oper} {Q : Exit → Act → World → Prop} {md : Region.Mode} {R1 R2 : World → World → Prop} {late : List Nat}
def wpAnyR (late : List Nat) (R1 R2 : World → World → Prop) (P : Program) (md : Region.Mode) (ops : Array Oper) (Q : Exit → Act → World → Prop) : Nat → Array Bool → Act → World → Prop
  | 0, listed, a, w => Region.ready md ops listed = [] ∧ Q .normal a w
  | fuel + 1, listed, a, w =>
    (Region.ready md ops listed = [] → Q .normal a w) ∧
    ∀ i ∈ Region.ready md ops listed, wpOp P ops Q i (fun a' w' => EffC late R1 R2 i w w' ∧ wpAnyR late R1 R2 P md ops Q fuel (listed.setIfInBounds i true) a' w') a w

theorem wpAny_of_R : ∀ (fuel : Nat) (listed : Array Bool) (a : Act) (w : World), wpAnyR late R1 R2 P md ops Q fuel listed a w → wpAny P md ops Q fuel listed a w
  | 0, _, _, _, h => h
  | fuel + 1, _, _, _, h => ⟨h.1, fun i hi => wpOp_mono (fun a' w' h' => wpAny_of_R fuel _ a' w' h'.2) (h.2 i hi)⟩

/-- a quiet operation may come first -/
theorem wpAnyR_first {R : World → World → Prop} (hR : ∀ a b c, R a b → R b c → R a c) (ok : Nat → Prop) (hok : ∀ j w w', ok j → EffC late R1 R2 j w w' → w' = w ∨ R w w')
    {i : Nat} {oi : Oper} {v : Value} (hi : ops[i]? = some oi) (hsel : ∀ (j : Nat) (o : Oper) cs b, ops[j]? = some o → o.op ≠ .select cs b)
    (hQ : ∀ c a w, Q (.panic c) (a.put oi.dst v) w → Q (.panic c) a w) :
    ∀ (fuel : Nat) (listed : Array Bool) (a : Act) (w : World), Closed ops listed →
      (∀ f, ¬ ok f → listed.getD f true = false → reach ops ops.size f i = true) →
      (∀ j oj, ops[j]? = some oj → j ≠ i → listed.getD j true = false → (∀ e ∈ oj.after, Region.binds .any e = true → e.on ≠ i) → oi.apart ops oj = true) →
      i ∈ Region.ready .any ops listed → YieldsIf P ops (fun W => W = w ∨ R w W) oi v a →
      wpAnyR late R1 R2 P .any ops Q fuel (listed.setIfInBounds i true) (a.put oi.dst v) w → wpAnyR late R1 R2 P .any ops Q (fuel + 1) listed a w := by
  intro fuel
  induction fuel with
  | zero =>
    intro listed a w _ _ _ hr hy H
    refine ⟨fun h => (by rw [h] at hr; cases hr), fun j hj => ?_⟩
    by_cases hji : j = i
    · subst hji; exact hy.wpOp hi (.inl rfl) ⟨EffC.refl, H⟩
    · have := ready_mono hj hji
      rw [H.1] at this
      cases this
  | succ fuel ih =>
    intro listed a w hcl hfin hfree hr hy H
    refine ⟨fun h => (by rw [h] at hr; cases hr), fun j hj => ?_⟩
    by_cases hji : j = i
    · subst hji; exact hy.wpOp hi (.inl rfl) ⟨EffC.refl, H⟩
    · have h1 := H.2 j (ready_mono hj hji)
      obtain ⟨hjun, oj, hoj, hall⟩ := mem_ready.1 hj
      have h0 := (mem_ready.1 hr).1
      have hnot : ∀ e ∈ oj.after, Region.binds .any e = true → e.on ≠ i := fun e he hb heq => by
        have h1 := hall e he hb
        rw [heq, getD_tf h0] at h1
        cases h1
      have h2 := wpOp_putIf hoj (hfree j oj hoj hji hjun hnot) (fun cs b => hsel i oi cs b hi) (fun cs b => hsel j oj cs b hoj) hQ hy h1
      have hun' : ∀ k, (listed.setIfInBounds j true).getD k true = false → listed.getD k true = false := fun k hun => by
        by_cases hjk : j = k
        · subst hjk; exact hjun
        · rw [getD_set_ne true hjk] at hun; exact hun
      have hfree' : ∀ k ok, ops[k]? = some ok → k ≠ i → (listed.setIfInBounds j true).getD k true = false →
          (∀ e ∈ ok.after, Region.binds .any e = true → e.on ≠ i) → oi.apart ops ok = true := fun k ok hk hki hun hno => hfree k ok hk hki (hun' k hun) hno
      refine wpOp_mono (fun a' w' h3 => ⟨h3.2.1, ih (listed.setIfInBounds j true) a' w' (hcl.more hoj hall) (fun f hf hu => hfin f hf (hun' f hu)) hfree' (ready_mono hr (Ne.symm hji)) (YieldsIf.shrink (fun W hW => ?_) h3.1) ?_⟩) h2
      · by_cases hj1 : ok j
        · rcases hok j w w' hj1 h3.2.1 with e | e
          · rw [e] at hW; exact hW
          · rcases hW with hW | hW
            · rw [hW]; exact .inr e
            · exact .inr (hR _ _ _ e hW)
        · exfalso
          have h4 := reach_closed hcl ops.size j i (hfin j hj1 hjun) oj hoj hall
          rw [getD_tf h0] at h4
          cases h4
      · rw [Array.setIfInBounds_comm _ _ hji]
        exact h3.2.2

theorem quiet_blockR {R : World → World → Prop} (hR : ∀ a b c, R a b → R b c → R a c) (lt : List Nat) (hok : ∀ j w w', j ∉ lt → EffC late R1 R2 j w w' → w' = w ∨ R w w')
    (hns : Region.noSelect ops = true) (hQ : ∀ c a d v w, Q (.panic c) (Act.put a d v) w → Q (.panic c) a w) {K : Act → Prop} {w : World} {fuel : Nat} {l' : Array Bool}
    (hK : ∀ a, Closed ops l' → K a → wpAnyR late R1 R2 P .any ops Q fuel l' a w) :
    ∀ (qs : List Nat) (listed : Array Bool) (a : Act), Closed ops listed → checkV lt ops qs listed = some l' → wpQuiet P ops (clsR R w) K (pickOps ops qs) a → wpAnyR late R1 R2 P .any ops Q (qs.length + fuel) listed a w
  | [], listed, a, hcl, hc, h => by
    simp only [checkV, Option.some.injEq] at hc
    subst hc
    simp only [List.length_nil, Nat.zero_add]
    exact hK a hcl h
  | i :: r, listed, a, hcl, hc, h => by
    unfold checkV at hc
    split at hc
    · rename_i hcond
      simp only [Bool.and_eq_true] at hcond
      obtain ⟨⟨⟨hp, hr⟩, hf⟩, hd⟩ := hcond
      have hrd : i ∈ Region.ready .any ops listed := by simpa using hr
      have hfin : ∀ f, ¬ f ∉ lt → listed.getD f true = false → reach ops ops.size f i = true := fun f hl hu => by
        have h1 := List.all_eq_true.1 hd f (Decidable.of_not_not hl)
        rw [hu, Bool.false_or] at h1
        exact h1
      cases hi : ops[i]? with
      | none => simp [plainAt, hi] at hp
      | some o =>
        simp only [plainAt, hi] at hp
        have hpick : pickOps ops (i :: r) = o :: pickOps ops r := by simp [pickOps, opAt, hi]
        rw [hpick] at h
        unfold wpQuiet at h
        have hlen : (i :: r).length + fuel = (r.length + fuel) + 1 := by simp; omega
        have hcl' : Closed ops (listed.setIfInBounds i true) := by
          obtain ⟨_, oj, hoj, hall⟩ := mem_ready.1 hrd
          exact hcl.more hoj hall
        rw [hlen]
        by_cases hw : Region.wanted o (yielded ops a.tmps) = true
        · rw [if_pos hw] at h
          obtain ⟨v, h1, h2⟩ := h
          refine wpAnyR_first hR (fun j => j ∉ lt) hok hi (Region.noSelect_spec hns) (fun c a w => hQ c a _ _ w) _ listed a w hcl hfin (Region.free_spec hi hf) hrd (v := v) (.inl ⟨hw, fun W hW => ?_⟩) (quiet_blockR hR lt hok hns hQ hK r _ _ hcl' hc h2)
          have h3 := h1 W (clsR_iff.2 hW)
          have hg := gives_plain o hp a.eval P W
          unfold Oper.quietAt at h3
          generalize (execOp a.eval o).run P W = res at *
          cases res with
          | ok n w' =>
            cases n <;> simp only [Oper.quietUpon] at h3 <;> simp only [gives] at hg
            obtain ⟨e1, e2⟩ := h3
            rw [e1, e2]
          | halt x w' => simp only [Oper.quietUpon] at h3
        · rw [if_neg hw] at h
          exact wpAnyR_first hR (fun j => j ∉ lt) hok hi (Region.noSelect_spec hns) (fun c a w => hQ c a _ _ w) _ listed a w hcl hfin (Region.free_spec hi hf) hrd (v := undef) (.inr ⟨by simpa using hw, rfl⟩) (quiet_blockR hR lt hok hns hQ hK r _ _ hcl' hc h)
    · cases hc

def checkW (late : List Nat) (ops : Array Oper) : PlanR → Array Bool → Bool
  | .last qs ws, listed => match checkV late ops qs listed with
    | some l => match checkV [] ops ws l with
      | some l => (Region.ready .any ops l).isEmpty
      | none => false
    | none => false
  | .one qs ws e t, listed => match checkV late ops qs listed with
    | some l => match checkV [] ops ws l with
      | some l => (Region.ready .any ops l == [e]) && (decide (e < ops.size) && checkW late ops t (l.setIfInBounds e true))
      | none => false
    | none => false
/-- the orders of a plan -/
def wpPlanR (late : List Nat) (R1 R2 : World → World → Prop) (P : Program) (ops : Array Oper) (Q : Exit → Act → World → Prop) : PlanR → Act → World → Prop
  | .last qs ws, a, w => wpQuiet P ops (fun W => ∃ x : LaterR R1 w, W = afterR R1 w x) (fun a' => wpQuiet P ops (fun W => ∃ x : LaterR R2 w, W = afterR R2 w x) (fun a' => Q .normal a' w) (pickOps ops ws) a') (pickOps ops qs) a
  | .one qs ws e t, a, w => wpQuiet P ops (fun W => ∃ x : LaterR R1 w, W = afterR R1 w x) (fun a' => wpQuiet P ops (fun W => ∃ x : LaterR R2 w, W = afterR R2 w x) (fun a' => wpList P ops (Exit.then (fun a'' w' => Eff late R1 R2 e w w' ∧ wpPlanR late R1 R2 P ops Q t a'' w') Q) [opAt ops e] a' w) (pickOps ops ws) a') (pickOps ops qs) a
theorem plan_anyR (hR1 : ∀ a b c, R1 a b → R1 b c → R1 a c) (hR2 : ∀ a b c, R2 a b → R2 b c → R2 a c) (hns : Region.noSelect ops = true) (hQ : ∀ c a d v w, Q (.panic c) (Act.put a d v) w → Q (.panic c) a w) :
    ∀ (t : PlanR) (listed : Array Bool) (a : Act) (w : World), Closed ops listed → checkW late ops t listed = true → wpPlanR late R1 R2 P ops Q t a w → wpAnyR late R1 R2 P .any ops Q t.len listed a w
  | .last qs ws, listed, a, w, hcl, hc, h => by
    unfold checkW at hc
    split at hc
    · rename_i l hl
      split at hc
      · rename_i l2 hl2
        refine quiet_blockR hR1 late (fun j w w' hj he => he.1 hj) hns hQ (fuel := ws.length) (fun a' hcl' h' => ?_) qs listed a hcl hl h
        exact quiet_blockR hR2 [] (fun j w w' _ he => he.2) hns hQ (fuel := 0) (fun a' _ h' => ⟨by simpa using hc, h'⟩) ws l a' hcl' hl2 h'
      · cases hc
    · cases hc
  | .one qs ws e t, listed, a, w, hcl, hc, h => by
    unfold checkW at hc
    split at hc
    · rename_i l hl
      split at hc
      · rename_i l2 hl2
        simp only [Bool.and_eq_true, beq_iff_eq, decide_eq_true_eq] at hc
        refine quiet_blockR hR1 late (fun j w w' hj he => he.1 hj) hns hQ (fuel := ws.length + (t.len + 1)) (fun a' hcl' h' => ?_) qs listed a hcl hl h
        refine quiet_blockR hR2 [] (fun j w w' _ he => he.2) hns hQ (fuel := t.len + 1) (fun a' hcl' h' => ?_) ws l a' hcl' hl2 h'
        refine ⟨fun h0 => (by rw [hc.1] at h0; cases h0), fun i hi => ?_⟩
        have hrd := hi
        rw [hc.1] at hi
        have hie : i = e := by simpa using hi
        subst hie
        obtain ⟨_, oj, hoj, hall⟩ := mem_ready.1 hrd
        exact wpOp_mono (fun a'' w' ⟨hb, h''⟩ => ⟨hb.c, plan_anyR hR1 hR2 hns hQ t _ a'' w' (hcl'.more hoj hall) hc.2.2 h''⟩) (op_of_list (at_of_lt hc.2.1) h')
      · cases hc
    · cases hc
/-- THE LAW -/
theorem wp_region_planR {id : Nat} {a : Act} {w : World} {l : List Oper} (late : List Nat) (R1 R2 : World → World → Prop) (hR1 : ∀ a b c, R1 a b → R1 b c → R1 a c) (hR2 : ∀ a b c, R2 a b → R2 b c → R2 a c) (t : PlanR) (hm : P.follows .mixedOrders = true)
    (hc : (Region.noSelect l.toArray && (checkW late l.toArray t (Array.replicate l.toArray.size false) && decide (t.len = l.toArray.size))) = true)
    (hQ : ∀ c a d v w, Q (.panic c) (Act.put a d v) w → Q (.panic c) a w)
    (h : wpPlanR late R1 R2 P l.toArray Q t a w.drew) : (Code.region id l.toArray true).wp P Q a w := by
  simp only [Bool.and_eq_true, decide_eq_true_eq] at hc
  refine wp_region_any hm ?_
  have h1 := plan_anyR hR1 hR2 hc.1 hQ t _ a _ (Closed.start _) hc.2.1 h
  rw [hc.2.2] at h1
  exact wpAny_of_R _ _ _ _ h1
/-- no bound at all -/
def anyW (_ _ : World) : Prop := True
theorem anyW_trans : ∀ a b c, anyW a b → anyW b c → anyW a c := fun _ _ _ _ _ => trivial
end
end Go.Proofs.YtmnmckblmoalkaaGreat

/-
  The reference's In and Has of regions: they say what the program's Has says.
-/
namespace Go.Proofs.YtmnmckblmoalkaaGreat
open Go.RowKit
set_option maxRecDepth 100000
open Rg

theorem fits_valid {d : Nat} {r : Rg} (h : FormF (d + 1) r) {p : List Iv × Rg} (hp : p ∈ r.parts) : validL p.1 = true ∧ p.1.length ≤ 64 ∧ FormF d p.2 := by
  obtain ⟨h1, h2⟩ := h
  obtain ⟨h3, h4, h5, _⟩ := h1.2.2.1 p hp
  have h6 := fits_mem h2 hp
  refine ⟨?_, h6.1, h5, h6.2⟩
  unfold validL
  simp [h4, h6.1]
end Go.Proofs.YtmnmckblmoalkaaGreat
