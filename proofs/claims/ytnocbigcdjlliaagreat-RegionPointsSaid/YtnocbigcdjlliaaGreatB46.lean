/-
  Texts of this proof, one behind the other: GHas, PtLaw, Open.
-/
import Derived.Test.YtnocbigcdjlliaaGreatB10
import Derived.Deep.Cut
import Derived.Test.YtnocbigcdjlliaaGreatB11
import Derived.Test.YtnocbigcdjlliaaGreatB27
import Derived.Test.YtnocbigcdjlliaaGreatB45
import Derived.Test.YtnocbigcdjlliaaGreatB41
import Derived.ProofKit
import Derived.OpenShut
import Derived.ShutString
import Derived.Carry
import Derived.Deep.Slices
import Derived.Lib.SmallJoins
set_option linter.unusedVariables false
/-
  The program's Has of a region and a row.
-/
namespace Go.Proofs.YtnocbigcdjlliaaGreat
open Go.RowKit
set_option maxRecDepth 100000
open Rg

/-- the first part whose values contain v -/
def fnd : List (List Iv × Rg) → Vl → Option Rg
  | [], _ => none
  | p :: ps, v => if hasL p.1 v then some p.2 else fnd ps v
def hasF : Rg → List Vl → Bool
  | r, [] => r.f
  | r, v :: l => match fnd r.parts v with
    | none => false
    | some q => hasF q l
noncomputable def hasR (r : Rg) (l : List Vl) : Bool := okB r && decide ((l.length : Int) = r.w) && hasF r l
theorem fnd_step {ps : List (List Iv × Rg)} {k : Nat} {p : List Iv × Rg} {v : Vl} {o : Option Rg} (hp : ps[k]? = some p) (h : fnd (ps.drop k) v = o) : (if hasL p.1 v then some p.2 else fnd (ps.drop (k + 1)) v) = o := by
  rw [drop_at hp] at h
  exact h
theorem hasF_step {r : Rg} {l : List Vl} {k : Nat} {v : Vl} {rr : Bool} (hv : l[k]? = some v) (h : hasF r (l.drop k) = rr) : (match fnd (r.parts.drop 0) v with | none => false | some q => hasF q (l.drop (k + 1))) = rr := by
  rw [drop_at hv] at h
  exact h
set_option maxHeartbeats 4000000 in
theorem ghas_any (r : Rg) (x : Int) (f : Bool) (A : Option Addr) (n c : Nat) (l : List Vl) (B : Option Addr) (m cb : Nat) (w : World) (hR : RgS w x f A n c r) (hV : VlS w B m l) :
    Calls Tryz.prog 47 #[.agg #[.int .i64 x, .bool f, .slice A n c], .slice B m cb] w fun e w' => e = .returned (.bool (hasR r l)) ∧ Below w.heap.size w w' := by
  obtain ⟨rr, Hrr⟩ : ∃ z, Hid (hasR r l = z) := ⟨_, rfl⟩
  rw [Hrr.out]
  have Hxw := Lib.hid hR.hw
  have Hlm := Lib.hid hV.1
  have HR := Lib.hid hR
  have HV := Lib.hid hV
  clear hR hV
  obtain ⟨v1, H1⟩ : ∃ z, Hid (okB r = z) := ⟨_, rfl⟩
  go_enter Tryz.func47, Tryz.ntmps47
  go_wp2_with fail
  refine (rvalidR_any r x f A n c _ (HR.out.keep (keeps_alloc _ _))).mono ?_
  rintro e w1 ⟨rfl, hb1⟩
  rw [H1.out]
  have HT := Lib.hid ((Blk.new w 28 #[.int .i64 x, .bool f, .slice A n c]).below hb1)
  have HB1 := Lib.hid (Below.next ((Below.refl _ _).alloc (Nat.le_refl _) _) hb1)
  clear hb1
  have z := HT.out.cell
  cases v1
  · obtain rfl : rr = false := by rw [← Hrr.out, hasR, H1.out]; rfl
    clear z
    go_wp2
    go_ret
    exact ⟨rfl, HB1.out⟩
  · by_cases hmx : (m : Int) = x
    · have hok1 := okB_true.1 H1.out
      have hm12 : (m : Int) ≤ 12 := by have := hok1.2.1; have := Hxw.out; omega
      have Hsz1 := Lib.hid hok1.2.2.1
      clear hok1
      have Hf : Hid (hasF r (l.drop 0) = rr) := Lib.hid (by rw [← Hrr.out, hasR, H1.out, decide_eq_true (by rw [Hxw.out, Hlm.out]; exact hmx)]; rfl)
      subst hmx
      have HR1 := Lib.hid (HR.out.keep (keeps_of HB1.out))
      clear Hxw Hrr H1 HR
      go_wp2_with fail
      go_loopw [22] (fun i wr => ∃ (k : Nat) (r' : Rg) (x' : Int) (f' : Bool) (A' : Option Addr) (n' c' : Nat), k ≤ m ∧ i = .int .i64 (k : Int) ∧ Hid (hasF r' (l.drop k) = rr) ∧ Hid (Blk wr w.heap.size 28 #[.int .i64 x', .bool f', .slice A' n' c']) ∧ Hid (RgS wr x' f' A' n' c' r') ∧ Hid (Below w.heap.size w wr) ∧ Hid (r'.size ≤ 64)) (fun i _ => m - (intOf i).toNat)
      case atStart => exact ⟨0, r, _, f, A, n, c, by omega, rfl, Hf, HT, HR1, HB1, Hsz1⟩
      case round =>
        obtain ⟨k, r', x', f', A', n', c', hk, rfl, Hq, HTr, HRr, HBr, Hsz⟩ := hrel
        clear z HT HR1 HB1 Hf Hsz1
        have hn64 : n' ≤ 64 := by have := HRr.out.len; have := len_le_size r'; have := Hsz.out; omega
        by_cases hlt : k < m
        · obtain ⟨b, o, ⟨vk, vi, vt⟩, rfl, hv, hc⟩ := (HV.out.keep (keeps_of HBr.out)).at hlt
          have c0 : wr.cell? ⟨b, o + k * 3, none⟩ = some (.int .i64 vk) := hc 0 (.int .i64 vk) rfl
          have c1 : wr.cell? ⟨b, o + k * 3 + 1, none⟩ = some (.int .i64 vi) := hc 1 (.int .i64 vi) rfl
          have c2 : wr.cell? ⟨b, o + k * 3 + 2, none⟩ = some (.string vt) := hc 2 (.string vt) rfl
          have Hst := Lib.hid (hasF_step hv Hq.out)
          clear hv hc Hq
          have HX := Lib.hid (Blk.new wr 67 #[.int .i64 vk, .int .i64 vi, .string vt])
          have HTx := Lib.hid (HTr.out.alloc (.cells #[.int .i64 vk, .int .i64 vi, .string vt] 67))
          have HRx := Lib.hid (HRr.out.keep (keeps_alloc wr (.cells #[.int .i64 vk, .int .i64 vi, .string vt] 67)))
          have HBx := Lib.hid (HBr.out.alloc HBr.out.size (.cells #[.int .i64 vk, .int .i64 vi, .string vt] 67))
          obtain ⟨X, HXe⟩ : ∃ z, Hid (wr.heap.size = z) := ⟨_, rfl⟩
          rw [HXe.out] at HX
          have Hne := Lib.hid (show w.heap.size ≠ X by have := HTr.out.lt; have := HXe.out; omega)
          go_upto_region 7 with fail
          rw [HXe.out]
          generalize hW2 : wr.alloc (.cells #[.int .i64 vk, .int .i64 vi, .string vt] 67) = w2 at *
          clear hW2 HTr HRr HBr c0 c1 c2
          have z := HTx.out.cell
          obtain ⟨fo, Hfo⟩ : ∃ z, Hid (fnd (r'.parts.drop 0) ⟨vk, vi, vt⟩ = z) := ⟨_, rfl⟩
          rw [Hfo.out] at Hst
          go_wp2_with fail
          go_loopw [29, 7] (fun j t wr => ∃ (q : Nat), q ≤ n' ∧ j = .int .i64 (q : Int) ∧ t = .int .i64 (-1) ∧ Hid (fnd (r'.parts.drop q) ⟨vk, vi, vt⟩ = fo) ∧ Hid (Below w2.heap.size w2 wr)) (fun j _ _ => n' - (intOf j).toNat)
          case atStart => exact ⟨0, by omega, rfl, rfl, Hfo, Lib.hid (Below.refl _ _)⟩
          case round =>
            obtain ⟨q, hq, rfl, rfl, Hfq, HBq⟩ := hrel
            clear z
            by_cases hqn : q < n'
            · obtain ⟨b2, o2, p, A1, n1, c1, px, pf, A2, n2, c2, rfl, hp, hpt⟩ := (HRx.out.keep (keeps_of HBq.out)).at hqn
              have Hs2 := Lib.hid (fnd_step hp Hfq.out)
              have Hps := Lib.hid (show p.2.size ≤ 64 by have := size_at hp; have := Hsz.out; omega)
              have HPT := Lib.hid hpt
              obtain ⟨d0, d1, d2, d3, hok, hvs, hrg⟩ := hpt
              clear hp hok hvs hrg Hfq
              have HX2 := Lib.hid ((HX.out.below HBq.out).alloc (.cells #[.slice A1 n1 c1, .int .i64 px, .bool pf, .slice A2 n2 c2] 85))
              have HT2 := Lib.hid ((HTx.out.below HBq.out).alloc (.cells #[.slice A1 n1 c1, .int .i64 px, .bool pf, .slice A2 n2 c2] 85))
              have HP2 := Lib.hid (HPT.out.keep (keeps_alloc wr (.cells #[.slice A1 n1 c1, .int .i64 px, .bool pf, .slice A2 n2 c2] 85)))
              have HB2 := Lib.hid (HBq.out.alloc HBq.out.size (.cells #[.slice A1 n1 c1, .int .i64 px, .bool pf, .slice A2 n2 c2] 85))
              have zx := HX2.out.cell
              go_wp2_with fail
              generalize hW3 : wr.alloc (.cells #[.slice A1 n1 c1, .int .i64 px, .bool pf, .slice A2 n2 c2] 85) = w3 at *
              clear hW3 d0 d1 d2 d3 zx HBq HPT
              refine (has_any A1 n1 c1 p.1 ⟨vk, vi, vt⟩ _ HP2.out.vs).mono ?_
              rintro e w4 ⟨rfl, hb4⟩
              obtain ⟨d, Hd⟩ : ∃ z, Hid (hasL p.1 ⟨vk, vi, vt⟩ = z) := ⟨_, rfl⟩
              rw [Hd.out] at Hs2 ⊢
              have HB4 := Lib.hid (Below.next HB2.out hb4)
              cases d
              · go_wp2
                go_roundw
                case rel => exact ⟨q + 1, by omega, by go_num, rfl, Lib.hid Hs2.out, HB4⟩
                case measure => simp [intOf]; omega
              · have hfo : some p.2 = fo := Hs2.out
                subst hfo
                have HT4 := Lib.hid (HT2.out.below hb4)
                obtain ⟨e0, e1, e2, e3, hok, hvs, hrg⟩ := HP2.out.keep (keeps_of hb4)
                have hpx : p.2.w = px := hrg.hw
                have HRp := Lib.hid (RgS.off HT4.out (put3R_but _ w.heap.size (.int .i64 px) (.bool pf) (.slice A2 n2 c2)) hrg)
                have HBp := Lib.hid (put3R_below (Below.next HBx.out HB4.out) (Nat.le_refl w.heap.size) (.int .i64 px) (.bool pf) (.slice A2 n2 c2))
                have HTp := Lib.hid (put3R_blk (a' := .int .i64 px) (b' := .bool pf) (c' := .slice A2 n2 c2) HT4.out)
                have zr := HT4.out.cell
                obtain ⟨ff1, ff2, ff3⟩ := put3R_free HT4.out (.int .i64 px) (.bool pf)
                have y1 := (HT4.out.set_ 0 (.int .i64 px)).cell
                have y2 := ((HT4.out.set_ 0 (.int .i64 px)).set_ 1 (.bool pf)).cell
                have g1 : decide ((q : Int) < 0) = false := by simp
                clear hok hvs hrg hb4 hpx
                go_wp2
                go_roundw
                case rel => exact ⟨k + 1, p.2, px, pf, A2, n2, c2, by omega, by go_num, Lib.hid Hst.out, HTp, HRp, HBp, Hps⟩
                case measure => simp [intOf]; omega
            · have hfo : none = fo := by
                rw [← Hfq.out, List.drop_eq_nil_of_le (by rw [len_parts]; have := HRx.out.len; omega)]
                rfl
              subst hfo
              obtain rfl : false = rr := Hst.out
              go_wp2
              go_ret
              exact ⟨rfl, Below.next HBx.out HBq.out⟩
        · have h1 := Hq.out
          rw [List.drop_eq_nil_of_le (by rw [Hlm.out]; omega)] at h1
          have h2 := HRr.out.hf
          have z := HTr.out.cell
          clear HV Hlm
          go_wp2
          go_ret
          exact ⟨ret_bool (by rw [← h1]; exact h2.symm), HBr.out⟩
    · obtain rfl : rr = false := by rw [← Hrr.out, hasR, H1.out, decide_eq_false (by rw [Hxw.out, Hlm.out]; exact hmx)]; rfl
      have g1 : ((m : Int) != x) = true := by simpa using hmx
      go_wp2
      go_ret
      exact ⟨rfl, HB1.out⟩
end Go.Proofs.YtnocbigcdjlliaaGreat

/-
  Plain: which rows the program's Has finds in canonical regions and in what the operations make of them. No program here.
-/
namespace Go.Proofs.YtnocbigcdjlliaaGreat
open Go.RowKit
set_option maxRecDepth 100000
open Rg

theorem gfits_mem : ∀ {r : Rg}, r.fits = true → ∀ p ∈ r.parts, p.1.length ≤ 64 ∧ p.2.fits = true
  | nil _ _, _, p, hp => by simp [parts] at hp
  | cons vs r t, h, p, hp => by
    simp only [fits, Bool.and_eq_true, decide_eq_true_eq] at h
    simp only [parts, List.mem_cons] at hp
    rcases hp with rfl | hp
    · exact ⟨h.1.1, h.1.2⟩
    · exact gfits_mem h.2 p hp
theorem fnd_at (n : Int) {v : Vl} (hv : validV v = true) : ∀ r : Rg, (∀ p ∈ r.parts, validL p.1 = true) → (∃ p ∈ r.parts, fnd r.parts v = some p.2 ∧ r.at_ n v = p.2) ∨ (fnd r.parts v = none ∧ r.at_ n v = nil n false)
  | nil _ _, _ => .inr ⟨rfl, rfl⟩
  | cons vs q t, h => by
    have h0 := h (vs, q) List.mem_cons_self
    simp only [parts, fnd, at_, hasL, hv, h0, Bool.true_and]
    cases inL vs v
    · rcases fnd_at n hv t (fun p hp => h p (List.mem_cons_of_mem _ hp)) with ⟨p, hp, h1, h2⟩ | h1
      · exact .inl ⟨p, List.mem_cons_of_mem _ hp, h1, h2⟩
      · exact .inr h1
    · exact .inl ⟨(vs, q), List.mem_cons_self, rfl, rfl⟩
theorem hasF_den : ∀ (l : List Vl) (n : Nat) (r : Rg), Form n r → r.fits = true → goodRow n l → hasF r l = r.den l
  | [], _, r, _, _, _ => (den_nil r).symm
  | v :: l, 0, r, _, _, hg => by cases hg.1
  | v :: l, n + 1, r, hf, ht, hg => by
    have hv := hg.2 v List.mem_cons_self
    have hg' : goodRow n l := ⟨by have := hg.1; simp at this; exact this, fun u hu => hg.2 u (List.mem_cons_of_mem _ hu)⟩
    rw [den_cons (n : Int) v l r, hasF]
    rcases fnd_at (n : Int) hv r (fun p hp => by
      have h1 := hf.2.2.1 p hp
      have h2 := gfits_mem ht p hp
      simp [validL, h1.2.1, h2.1]) with ⟨p, hp, h1, h2⟩ | ⟨h1, h2⟩
    · rw [h1, h2]
      exact hasF_den l n p.2 (hf.2.2.1 p hp).2.2.1 (gfits_mem ht p hp).2 hg'
    · rw [h1, h2]
      cases l <;> rfl
theorem hasR_den {n : Nat} {a : Rg} {row : List Vl} (ha : OkR a) (hwa : a.w = (n : Int)) (h : goodRow n row) : hasR a row = a.den row := by
  rw [hasR, okB_true.2 ha, hwa, h.1, decide_eq_true rfl]
  exact hasF_den row n a (ok_formN ha hwa) ha.2.2.2.2 h
theorem points_plain {n : Nat} {a b : Rg} (ha : OkR a) (hwa : a.w = (n : Int)) (hb : OkR b) (hwb : b.w = (n : Int)) {row : List Vl} (h : goodRow n row) :
    (opErr opUr a b = 0 → hasR (opRes opUr a b) row = (hasR a row || hasR b row)) ∧ (opErr opIr a b = 0 → hasR (opRes opIr a b) row = (hasR a row && hasR b row)) ∧ (opErr opMr a b = 0 → hasR (opRes opMr a b) row = (hasR a row && !hasR b row)) ∧ (cpErr a = 0 → hasR (cpRes a) row = !hasR a row) ∧ (covRes a b = true → hasR b row = true → hasR a row = true) := by
  have fa := ok_formN ha hwa
  have fb := ok_formN hb hwb
  rw [hasR_den ha hwa h, hasR_den hb hwb h]
  refine ⟨fun e => ?_, fun e => ?_, fun e => ?_, fun e => ?_, fun e hy => ?_⟩
  · obtain ⟨u1, u2, u3⟩ := (op_spec ha hwa hb hwb opUr).2 e
    rw [hasR_den u2 u3 h, u1, den_op fa fb _ _ _ h]
    cases a.den row <;> cases b.den row <;> rfl
  · obtain ⟨u1, u2, u3⟩ := (op_spec ha hwa hb hwb opIr).2 e
    rw [hasR_den u2 u3 h, u1, den_op fa fb _ _ _ h]
    cases a.den row <;> cases b.den row <;> rfl
  · obtain ⟨u1, u2, u3⟩ := (op_spec ha hwa hb hwb opMr).2 e
    rw [hasR_den u2 u3 h, u1, den_op fa fb _ _ _ h]
    cases a.den row <;> cases b.den row <;> rfl
  · obtain ⟨u1, u2, u3⟩ := (cp_spec ha hwa).2 e
    rw [hasR_den u2 u3 h, u1, cpl_den fa h]
  · rw [(cov_spec ha hwa hb hwb).2, minus_nix fa fb] at e
    exact e row h hy
end Go.Proofs.YtnocbigcdjlliaaGreat

/-
  What the law's arguments are in memory, and that they read behind the call as before. No walk here.
-/
namespace Go.Proofs.YtnocbigcdjlliaaGreat
open Go.ChangeShapes Go.WideShapes Go.ChangeAt Go.RowKit
set_option maxRecDepth 100000
open Go.ChangeMaps (open_string shut_string)

theorem own : ownKnob Tryz.prog.godebug = none := by kernel_rfl
theorem laidOut : laidOutB Tryz.prog = true := by kernel_rfl

section
variable {H : Type} {enc : TypeId × Value → H} {P : Program}
/-- the arguments read behind the call as before -/
theorem trodAll_below (hl : laidOutB P = true) {W W' : World} (hb : Below W.heap.size W W') : ∀ {ts : List TypeId} {vs : List Value} {ds : List (DataW H)} {ps : List MemPlace},
    (∀ t ∈ ts, P.readableRec t = true ∧ t < P.types.size) → DataW.TrodAll enc P W 0 (fun _ => true) true ts vs ds ps → (∀ x ∈ ps, x.block < W.heap.size) → DataW.TrodAll enc P W' 0 (fun b => decide (b < W.heap.size)) true ts vs ds ps
  | [], vs, ds, ps, _, h, _ => by
    obtain ⟨rfl, rfl, rfl⟩ := trodAll_nil h
    exact trodAll_mk0
  | t :: ts, vs, ds, ps, ht, h, hlt => by
    obtain ⟨v0, vs0, d0, ds0, p0, q0, rfl, rfl, rfl, h0, r0⟩ := trodAll_cons h
    have hr := ht t List.mem_cons_self
    exact trodAll_cons_mk (Below.trod hl hr.1 hr.2 h0 hb (fun x hx => hlt x (List.mem_append_left _ hx))) (trodAll_below hl hb (fun t h => ht t (List.mem_cons_of_mem _ h)) r0 (fun x hx => hlt x (List.mem_append_right _ hx)))
theorem okWide_slice_form {w : World} {r : Reach} {base : Nat} {t e : TypeId} {A : Option Addr} {n c : Nat} (ht : P.underlying t = some (.slice e)) (h : Value.okWide P w r base t (.slice A n c)) :
    (A = none → n = 0 ∧ c = 0) ∧ (∀ ad, A = some ad → ad.spot = none) ∧ n ≤ c ∧ c ≤ 9223372036854775807 := by
  simp only [Value.okWide, ht, Cell.okWide] at h
  cases A with
  | none =>
    unfold Cell.ok at h
    rw [ht] at h
    split at h <;> simp_all
  | some a =>
    unfold Cell.ok at h
    rw [ht] at h
    simp only at h
    obtain ⟨h1, h2, h3⟩ := h
    refine ⟨(fun h => by cases h), fun ad e => ?_, h1, ?_⟩
    · injection e with e
      rw [← e]
      exact h3.2.1
    · have : IntKind.i64.max = 9223372036854775807 := by decide
      omega
theorem trod_fields {w : World} {base : Nat} {sp : Nat → Bool} {hd : Bool} {fuel : Nat} {t : TypeId} {cs : List Value} {x : DataW H × List MemPlace} {fs : Array Field} (ht : P.underlying t = some (.struct fs)) (h : DataW.trod enc P w base sp hd fuel t cs = some x) :
    ∃ n, cs.length = P.cellsOf t ∧ ∀ (i : Nat) (f : Field), fs[i]? = some f → ∃ y, DataW.trod enc P w base sp hd n f.type ((cs.drop f.offset).take (P.cellsOf f.type)) = some y := by
  obtain ⟨ys, n, _, _, hl, hyl, hf⟩ := DataW.trod_struct ht h
  refine ⟨n, hl, fun i f hi => ?_⟩
  have hlt : i < ys.length := by rw [hyl]; exact (Array.getElem?_eq_some_iff.1 hi).1
  exact ⟨ys[i], (hf i f hi).trans (List.getElem?_eq_getElem hlt)⟩
end

theorem choose_list {α : Type} {Q : Nat → α → Prop} : ∀ n : Nat, (∀ i, i < n → ∃ y, Q i y) → ∃ l : List α, l.length = n ∧ ∀ i y, l[i]? = some y → Q i y
  | 0, _ => ⟨[], rfl, fun i y h => (by simp at h)⟩
  | n + 1, h => by
    obtain ⟨l, hl, hi⟩ := choose_list n (fun i hi => h i (by omega))
    obtain ⟨y, hy⟩ := h n (by omega)
    refine ⟨l ++ [y], by simp [hl], fun i z hz => ?_⟩
    rcases Nat.lt_or_ge i l.length with h | h
    · rw [List.getElem?_append_left h] at hz
      exact hi i z hz
    · rw [List.getElem?_append_right h] at hz
      have h0 : i - l.length = 0 := by
        have := (List.getElem?_eq_some_iff.1 hz).1
        simp at this
        omega
      rw [h0] at hz
      have : y = z := by simpa using hz
      rw [← this, show i = n by omega]
      exact hy
/-- a list of bytes as argument -/
theorem open_u8s {H : Type} {enc : TypeId × Value → H} {W : World} {base : Nat} {r : Reach} {b0 : Nat} {v : Value} {d : DataW H} {p : List MemPlace} (hv : Value.okWide Tryz.prog W r b0 22 v) (h : DataW.Trod enc Tryz.prog W base (fun _ => true) true 22 v d p) :
    ∃ (A : Option Addr) (n c : Nat) (zs : List Int), v = .slice A n c ∧ Sl 1 u8c W A n zs ∧ (∀ z ∈ zs, 0 ≤ z ∧ z ≤ 255) ∧ (A = none → n = 0 ∧ c = 0) ∧ (∀ ad, A = some ad → ad.spot = none) ∧ n ≤ c ∧ c ≤ 9223372036854775807 := by
  obtain ⟨A, n, c, rfl⟩ := okWide_slice Tryz.underlying22 hv
  obtain ⟨f1, f2, f3, f4⟩ := okWide_slice_form Tryz.underlying22 hv
  obtain ⟨fuel, hf⟩ := h
  have hf' : DataW.trod enc Tryz.prog W base (fun _ => true) true fuel 22 [.slice A n c] = some (d, p) := hf
  rcases open_ints Tryz.underlying22 Tryz.underlying5 (by kernel_rfl) hf' with ⟨h0, _⟩ | ⟨a, len, cap, zs, h0, hb, hl, hm, hzl, _, hc, hw⟩
  · injection h0 with h0
    injection h0 with e1 e2 e3
    subst e1 e2 e3
    exact ⟨none, 0, 0, [], rfl, Sl.nil, fun z hz => (by cases hz), fun _ => ⟨rfl, rfl⟩, fun ad e => (by cases e), Nat.le_refl _, by omega⟩
  · injection h0 with h0
    injection h0 with e1 e2 e3
    subst e1 e2 e3
    refine ⟨some a, n, c, zs.take n, rfl, ⟨?_, fun hn => ?_⟩, fun z hz => bounds_u8 (hw z (List.mem_of_mem_take hz)), f1, f2, f3, f4⟩
    · rw [List.length_take, hzl]; simp; omega
    · obtain ⟨b, o, sp⟩ := a
      obtain rfl : sp = none := f2 _ rfl
      refine ⟨b, o, rfl, fun k x hx j u hu => ?_⟩
      rw [List.getElem?_take] at hx
      split at hx
      · rename_i hk
        rcases j with _ | j
        · simp only [u8c, List.getElem?_cons_zero, Option.some.injEq] at hu
          subst hu
          have hkl := (List.getElem?_eq_some_iff.1 hx).1
          have := hc k hkl
          rw [add_at] at this
          rw [Nat.mul_one, Nat.add_zero, this, List.getD, hx]
          rfl
        · simp [u8c] at hu
      · cases hx
/-- a value as argument -/
theorem open_vl {H : Type} {enc : TypeId × Value → H} {W : World} {base : Nat} {sp : Nat → Bool} {hd : Bool} {r : Reach} {b0 : Nat} {v : Value} {d : DataW H} {p : List MemPlace} (hv : Value.okWide Tryz.prog W r b0 67 v) (h : DataW.Trod enc Tryz.prog W base sp hd 67 v d p) :
    ∃ x : Vl, v = .agg #[.int .i64 x.k, .int .i64 x.i, .string x.t] ∧ x.t.size ≤ 9223372036854775807 := by
  obtain ⟨v0, v1, v2, y0, y1, y2, n, rfl, _, _, h0, h1, h2⟩ := Joins.open_agg3 Tryz.underlying67 (by kernel_rfl) (by kernel_rfl) hv h
  obtain ⟨a, e0, _, _⟩ := DataW.trod_int (k := .i64) (by kernel_rfl) h0
  obtain ⟨b, e1, _, _⟩ := DataW.trod_int (k := .i64) (by kernel_rfl) h1
  obtain ⟨s, e2, _, hs⟩ := DataW.trod_string (by kernel_rfl) h2
  injection e0 with e0
  injection e1 with e1
  injection e2 with e2
  subst e0 e1 e2
  exact ⟨⟨a, b, s⟩, rfl, hs⟩
theorem trod_vl {H : Type} {enc : TypeId × Value → H} {W : World} {base : Nat} {sp : Nat → Bool} {hd : Bool} {fuel : Nat} {cs : List Value} {x : DataW H × List MemPlace} (h : DataW.trod enc Tryz.prog W base sp hd fuel 67 cs = some x) :
    ∃ y : Vl, cs = y.cs ∧ y.t.size ≤ 9223372036854775807 := by
  obtain ⟨n, hl, g⟩ := trod_fields Tryz.underlying67 h
  have hl' : cs.length = 3 := hl.trans (by kernel_rfl)
  match cs, hl' with
  | [v0, v1, v2], _ =>
    obtain ⟨y0, g0⟩ := g 0 _ rfl
    obtain ⟨y1, g1⟩ := g 1 _ rfl
    obtain ⟨y2, g2⟩ := g 2 _ rfl
    obtain ⟨a, e0, _, _⟩ := DataW.trod_int (k := .i64) (by kernel_rfl) g0
    obtain ⟨b, e1, _, _⟩ := DataW.trod_int (k := .i64) (by kernel_rfl) g1
    obtain ⟨s, e2, _, hs⟩ := DataW.trod_string (by kernel_rfl) g2
    have f0 : v0 = .int .i64 a := by
      have : [v0] = [.int .i64 a] := e0
      injection this
    have f1 : v1 = .int .i64 b := by
      have : [v1] = [.int .i64 b] := e1
      injection this
    have f2 : v2 = .string s := by
      have : [v2] = [.string s] := e2
      injection this
    subst f0 f1 f2
    exact ⟨⟨a, b, s⟩, rfl, hs⟩
end Go.Proofs.YtnocbigcdjlliaaGreat
