/-
  Texts: ProdPlain, FAll, GCells, Open, OpenRg.
-/
import Derived.Test.YtnocbigcdjlliaaGreatB44
import Derived.ProofKit
import Derived.OpenShut
import Derived.ShutString
import Derived.Carry
import Derived.Deep.Slices
import Derived.Lib.SmallJoins
set_option linter.unusedVariables false
/-
  Plain: the product of two canonical regions is canonical and holds the rows that it should. No walk here.
-/
namespace Go.Proofs.YtnocbigcdjlliaaGreat
open Go.RowKit
set_option maxRecDepth 100000
open Rg

theorem graft_inj {b : Rg} (hb : b.nix = false) : ∀ {d : Nat} {p q : Rg}, Form d p → Form d q → graft b p = graft b q → p = q
  | 0, p, q, hp, hq, h => by
    have key : ∀ r : Rg, Form 0 r → r = .nil 0 r.f := fun r hr => by
      cases r with
      | nil x f => obtain rfl : x = 0 := hr.1; rfl
      | cons vs rest tail => have := hr.2; simp [parts] at this
    have hn : b ≠ .nil b.w false := fun e => by rw [e] at hb; cases hb
    rw [key p hp, key q hq] at h ⊢
    generalize p.f = x at *
    generalize q.f = y at *
    cases x <;> cases y <;> simp [graft] at h ⊢
    · exact hn h.symm
    · exact hn h
  | d + 1, p, q, hp, hq, h => by
    rw [graft_form hp, graft_form hq] at h
    have h1 := congrArg Rg.parts h
    rw [parts_mk, parts_mk] at h1
    have key : ∀ (l m : List (List Iv × Rg)), (∀ x ∈ l, Form d x.2) → (∀ x ∈ m, Form d x.2) → (l.map fun p => (p.1, graft b p.2)) = (m.map fun p => (p.1, graft b p.2)) → l = m := by
      intro l
      induction l with
      | nil => intro m _ _ he; cases m with
        | nil => rfl
        | cons y m => cases he
      | cons x l ih => intro m hl hm he; cases m with
        | nil => cases he
        | cons y m =>
          simp only [List.map_cons, List.cons.injEq, Prod.mk.injEq] at he
          obtain ⟨⟨e1, e2⟩, e3⟩ := he
          have e4 := graft_inj hb (hl x List.mem_cons_self) (hm y List.mem_cons_self) e2
          have e5 := ih m (fun z hz => hl z (List.mem_cons_of_mem _ hz)) (fun z hz => hm z (List.mem_cons_of_mem _ hz)) e3
          rw [e5]
          congr 1
          exact Prod.ext e1 e4
    have h2 := key _ _ (fun x hx => (hp.2.2.1 x hx).2.2.1) (fun x hx => (hq.2.2.1 x hx).2.2.1) h1
    rw [← mk_parts p, ← mk_parts q, h2, hp.1, hq.1, hp.2.1, hq.2.1]
theorem graft_isForm {b : Rg} {db : Nat} (hFb : Form db b) (hb : b.nix = false) : ∀ {d : Nat} {a : Rg}, Form d a → Form (d + db) (graft b a)
  | 0, a, h => by
    rw [Nat.zero_add]
    cases a with
    | nil x f =>
      obtain rfl : x = 0 := h.1
      cases f
      · simp only [graft, if_pos]
        rw [hFb.width]
        exact form_nil db
      · simpa [graft] using hFb
    | cons vs rest tail => have := h.2; simp [parts] at this
  | d + 1, a, h => by
    rw [graft_form h, show d + 1 + db = (d + db) + 1 by omega]
    refine ⟨by rw [w_mk, hFb.width]; omega, f_mk _ _ _, fun p hp => ?_, ?_⟩
    · rw [parts_mk] at hp
      obtain ⟨q, hq, rfl⟩ := List.mem_map.1 hp
      obtain ⟨h1, h2, h3, h4⟩ := h.2.2.1 q hq
      exact ⟨h1, h2, graft_isForm hFb hb h3, graft_nix hb h3 h4⟩
    · rw [parts_mk, List.pairwise_map]
      refine List.Pairwise.imp_of_mem (fun {p q} hp hq hpq => ?_) h.2.2.2
      exact ⟨hpq.1, hpq.2.1, fun e => hpq.2.2 (graft_inj hb (h.2.2.1 p hp).2.2.1 (h.2.2.1 q hq).2.2.1 e)⟩
theorem fnd_map (g : Rg → Rg) (v : Vl) : ∀ ps : List (List Iv × Rg), fnd (ps.map fun p => (p.1, g p.2)) v = (fnd ps v).map g
  | [] => rfl
  | p :: ps => by
    simp only [List.map_cons, fnd, fnd_map g v ps]
    split <;> rfl
theorem fnd_mem {v : Vl} {q : Rg} : ∀ {ps : List (List Iv × Rg)}, fnd ps v = some q → ∃ p ∈ ps, p.2 = q
  | p :: ps, h => by
    unfold fnd at h
    split at h
    · injection h with h
      exact ⟨p, List.mem_cons_self, h⟩
    · obtain ⟨p', h1, h2⟩ := fnd_mem h
      exact ⟨p', List.mem_cons_of_mem _ h1, h2⟩
theorem hasF_none (x : Int) (l : List Vl) : hasF (.nil x false) l = false := by
  cases l <;> rfl
theorem hasF_cons (r : Rg) (x : Vl) (l : List Vl) : hasF r (x :: l) = match fnd r.parts x with
    | none => false
    | some q => hasF q l := rfl
theorem graft_has {b : Rg} {v : List Vl} : ∀ {d : Nat} {a : Rg} {u : List Vl}, Form d a → u.length = d → hasF (graft b a) (u ++ v) = (hasF a u && hasF b v)
  | 0, a, u, h, hu => by
    obtain rfl : u = [] := List.eq_nil_of_length_eq_zero hu
    cases a with
    | nil x f =>
      obtain rfl : x = 0 := h.1
      cases f
      · simp [graft, hasF, Rg.f, hasF_none]
      · simp [graft, hasF, Rg.f]
    | cons vs rest tail => have := h.2; simp [parts] at this
  | d + 1, a, [], h, hu => by simp at hu
  | d + 1, a, x :: u, h, hu => by
    have hu' : u.length = d := by simpa using hu
    rw [graft_form h, List.cons_append, hasF_cons, hasF_cons, parts_mk, fnd_map]
    cases hq : fnd a.parts x with
    | none => rfl
    | some q =>
      obtain ⟨p, hp, rfl⟩ := fnd_mem hq
      exact graft_has (h.2.2.1 p hp).2.2.1 hu'
theorem pr_err {a b : Rg} (h : prErr a b = 0) : OkR a ∧ OkR b ∧ a.w + b.w ≤ 12 ∧ ((a.nix || b.nix) = false → a.size + nbox a * b.size ≤ 64) := by
  unfold prErr at h
  split at h
  · rename_i ho
    rw [Bool.and_eq_true] at ho
    split at h
    · cases h
    · rename_i hw
      refine ⟨okB_true.1 ho.1, okB_true.1 ho.2, by omega, fun hn => ?_⟩
      rw [if_neg (by rw [hn]; decide)] at h
      split at h
      · cases h
      · rename_i hs
        have h2 : ((a.size + nbox a * b.size : Nat) : Int) ≤ 64 := by
          rw [Int.natCast_add, Int.natCast_mul]
          omega
        exact Int.ofNat_le.1 h2
  · cases h
/-- what a product holds -/
theorem prod_has {a b : Rg} (h : prErr a b = 0) {u v : List Vl} (hu : (u.length : Int) = a.w) (hv : (v.length : Int) = b.w) : hasR (prRes a b) (u ++ v) = (hasR a u && hasR b v) := by
  obtain ⟨ha, hb, hw, hs⟩ := pr_err h
  have hwa := ha.1
  have hwb := hb.1
  have hra : hasR a u = hasF a u := by rw [hasR, okB_true.2 ha, decide_eq_true hu]; rfl
  have hrb : hasR b v = hasF b v := by rw [hasR, okB_true.2 hb, decide_eq_true hv]; rfl
  rw [hra, hrb]
  have hlen : (((u ++ v).length : Nat) : Int) = a.w + b.w := by rw [List.length_append]; omega
  unfold prRes
  rw [if_pos h]
  by_cases hn : (a.nix || b.nix) = true
  · rw [if_pos hn, hasR, hasF_none, Bool.and_false]
    rw [Bool.or_eq_true] at hn
    rcases hn with hn | hn
    · rw [form_nil' _ a ha.2.2.2.1 hn, hasF_none]
      rfl
    · rw [form_nil' _ b hb.2.2.2.1 hn, hasF_none, Bool.and_false]
  · have hn' : (a.nix || b.nix) = false := by simpa using hn
    rw [if_neg hn]
    have hbn : b.nix = false := by simp only [Bool.or_eq_false_iff] at hn'; exact hn'.2
    have hg := graft_isForm hb.2.2.2.1 hbn ha.2.2.2.1
    have hgw : (graft b a).w = a.w + b.w := by
      rw [hg.width]
      omega
    have hok : OkR (graft b a) := by
      refine ⟨by omega, by omega, by rw [graft_size ha.2.2.2.1]; exact hs hn', ?_, graft_fits hb.2.2.2.2 ha.2.2.2.2⟩
      rw [hgw, show (a.w + b.w).toNat = a.w.toNat + b.w.toNat by omega]
      exact hg
    rw [hasR, okB_true.2 hok, decide_eq_true (by rw [hgw]; exact hlen), Bool.true_and, Bool.true_and]
    exact graft_has ha.2.2.2.1 (by omega)
theorem sm_pr (a b : Rg) : Sm (prRes a b) := by
  unfold prRes
  split
  · rename_i h
    obtain ⟨ha, hb, hw, _⟩ := pr_err h
    split
    · exact ⟨Nat.zero_le _, trivial⟩
    · rename_i hn
      have e : prodR a b = graft b a := by
        unfold prodR
        rw [if_neg (fun hh => hn (by simp [hh]))]
      rw [← e]
      exact prod_sm ha hb
  · exact ⟨Nat.zero_le _, trivial⟩
end Go.Proofs.YtnocbigcdjlliaaGreat

/-
  The reference's All.
-/
namespace Go.Proofs.YtnocbigcdjlliaaGreat
open Go.RowKit
set_option maxRecDepth 100000
open Rg

set_option maxHeartbeats 2000000 in
theorem fAll_any (x : Int) (w : World) : Calls Tryz.prog 51 #[.int .i64 x] w fun e w' => RgRes w (allRes x) (allErr x) e w' := by
  have HT := Lib.hid (Blk.new w 28 #[.int .i64 0, .bool false, .slice none 0 0])
  have HB0 := Lib.hid ((Below.refl w.heap.size w).alloc (Nat.le_refl _) (.cells #[.int .i64 0, .bool false, .slice none 0 0] 28))
  obtain ⟨W0, HW0⟩ : ∃ W : World, Hid (w.alloc (.cells #[.int .i64 0, .bool false, .slice none 0 0] 28) = W) := ⟨_, rfl⟩
  rw [HW0.out] at HT HB0
  rcases Int.lt_or_le x 0 with h0 | h0
  · have g1 : decide (x < 0) = true := by simp; omega
    rw [allRes, allErr, if_neg (by omega), if_neg (by omega)]
    go_enter Tryz.func51, Tryz.ntmps51
    go_wp2
    refine bodyPost_ret (v := .tuple #[.agg #[.int .i64 0, .bool false, .slice none 0 0], .int .i64 1]) (by simp [results, Tryz.results51, go_sem]) rfl ⟨0, false, none, 0, 0, rfl, RgS.nil _ _, ?_⟩
    repeat (first | exact Below.refl _ _ | refine Below.setCell ?_ (by simp) _ | refine Below.alloc ?_ (by simp) _)
  · have g1 : decide (x < 0) = false := by simp; omega
    rcases Int.lt_or_le 12 x with h1 | h1
    · have g2 : decide (12 < x) = true := by simp; omega
      rw [allRes, allErr, if_neg (by omega), if_neg (by omega)]
      go_enter Tryz.func51, Tryz.ntmps51
      go_wp2
      refine bodyPost_ret (v := .tuple #[.agg #[.int .i64 0, .bool false, .slice none 0 0], .int .i64 1]) (by simp [results, Tryz.results51, go_sem]) rfl ⟨0, false, none, 0, 0, rfl, RgS.nil _ _, ?_⟩
      repeat (first | exact Below.refl _ _ | refine Below.setCell ?_ (by simp) _ | refine Below.alloc ?_ (by simp) _)
    · have g2 : decide (12 < x) = false := by simp; omega
      rw [allRes, allErr, if_pos ⟨h0, h1⟩, if_pos ⟨h0, h1⟩]
      obtain ⟨n, rfl⟩ := Int.eq_ofNat_of_zero_le h0
      have hn : n ≤ 12 := by omega
      rw [Int.toNat_natCast]
      clear h0 h1
      go_enter Tryz.func51, Tryz.ntmps51
      go_upto_region 3 with fail
      rw [HW0.out]
      go_wp2_with fail
      refine (fall_any n hn _).mono ?_
      rintro e w1 ⟨A1, c1, rfl, ⟨ps, hps, hpm⟩, hb1⟩
      have HPS := Lib.hid hps
      have HPM := Lib.hid hpm
      have HB1 := Lib.hid (Below.next HB0.out hb1)
      have HT1 := Lib.hid (HT.out.below hb1)
      clear hps hpm hb1 HB0 HT
      go_wp2_with fail
      refine (fbox_any A1 n c1 ps _ HPS.out hn).mono ?_
      rintro e w3 ⟨x3, f3, A3, n3, c3, rfl, hR3, hb3⟩
      rw [HPM.out] at hR3
      have hR3' : RgS w3 x3 f3 A3 n3 c3 (allR n) := hR3
      have HT3 := Lib.hid (HT1.out.below hb3)
      have HB3 := Lib.hid (Below.next HB1.out hb3)
      have HRr := Lib.hid (RgS.off HT3.out (put3R_but _ w.heap.size (.int .i64 x3) (.bool f3) (.slice A3 n3 c3)) hR3')
      clear hR3 hR3' hb3
      have zr := HT3.out.cell
      obtain ⟨ff1, ff2, ff3⟩ := put3R_free HT3.out (.int .i64 x3) (.bool f3)
      have y3 := (put3R_blk (a' := .int .i64 x3) (b' := .bool f3) (c' := .slice A3 n3 c3) HT3.out).cell
      have y1 := (HT3.out.set_ 0 (.int .i64 x3)).cell
      have y2 := ((HT3.out.set_ 0 (.int .i64 x3)).set_ 1 (.bool f3)).cell
      have HBr := Lib.hid (put3R_below HB3.out (Nat.le_refl _) (.int .i64 x3) (.bool f3) (.slice A3 n3 c3))
      unfold put3R at y3
      go_wp2
      exact bodyPost_ret (v := .tuple #[.agg #[.int .i64 x3, .bool f3, .slice A3 n3 c3], .int .i64 0]) (by simp [results, Tryz.results51, go_sem, y3]) rfl ⟨x3, f3, A3, n3, c3, rfl, HRr.out, HBr.out⟩
end Go.Proofs.YtnocbigcdjlliaaGreat

/-
  Case.Cells: a row of valid values of the length that is asked for.
-/
namespace Go.Proofs.YtnocbigcdjlliaaGreat
open Go.RowKit
set_option maxRecDepth 100000

theorem gcase_belowB {w w' : World} {g B : Nat} (h : CaseAt w g) (hb : Below B w w') (hB : g < B) : CaseAt w' g :=
  h.far (S := fun b => B ≤ b) ⟨hb.os, hb.tape, hb.output, hb.size, fun k _ hk => hb.block k (by simpa using hk)⟩ (fun b hb => by omega)
theorem gbut_belowB {S : Nat → Prop} {w0 w w' : World} {B : Nat} (h : But S w0 w) (hb : Below B w w') (hB : w0.heap.size ≤ B) : But S w0 w' :=
  ⟨hb.os.trans h.os, hb.tape.trans h.tape, hb.output.trans h.output, Nat.le_trans h.size hb.size, fun k hk hs => (hb.block k (by omega)).trans (h.block k hk hs)⟩
theorem gown_but {w w' : World} {base g : Nat} {e : TypeId} {size n : Nat} {v : Value} {xs : List Value} (h : w.ownsRow base e size v n xs) (hb : But (· = g) w w') (hg : g < base) : w'.ownsRow base e size v n xs :=
  own_at h (fun G hG hlt _ => hb.block G hlt (fun e => by omega))
def GCRel (m : Nat) (w : World) (g : Nat) (x i : Value) (wr : World) : Prop := ∃ (k : Nat) (l : List Vl) (A : Option Addr) (c : Nat), i = .int .i64 (k : Int) ∧ x = .slice A l.length c ∧ l.length + k = m ∧ (∀ v ∈ l, validV v = true) ∧ wr.ownsRow w.heap.size 67 3 (.slice A l.length c) l.length (l.flatMap Vl.cs) ∧ CaseAt wr g ∧ But (· = g) w wr
/-- a row was drawn -/
def RowP' (m : Nat) (w : World) (g : Nat) (e : Ending) (w' : World) : Prop := ∃ (A : Option Addr) (n c : Nat) (l : List Vl), e = .returned (.slice A n c) ∧ n = l.length ∧ n = m ∧ (∀ v ∈ l, validV v = true) ∧ w'.ownsRow w.heap.size 67 3 (.slice A n c) n (l.flatMap Vl.cs) ∧ VlS w' A n l ∧ CaseAt w' g ∧ But (· = g) w w'
set_option maxRecDepth 100000 in
set_option maxHeartbeats 4000000 in
theorem gcells_any (g : Nat) (m : Nat) (hm : m ≤ 12) (w : World) (hc : CaseAt w g) : Calls Tryz.prog 46 #[.pointer (some ⟨g, 0, none⟩), .int .i64 (m : Int)] w fun e w' => RowP' m w g e w' := by
  obtain ⟨i0, hi, hz0, hz1, hz2⟩ := info_parts info_vl
  have hgl := hc.lt
  go_enter Tryz.func46, Tryz.ntmps46
  go_wp2_with fail
  go_loopw [5, 1] (fun x i wr => GCRel m w g x i wr) (fun _ i _ => (intOf i).toNat)
  case atStart => exact ⟨m, [], none, 0, rfl, rfl, by simp, by simp, ⟨by simp, .inl ⟨rfl, rfl⟩⟩, hc, But.refl _ _⟩
  case round =>
    obtain ⟨k, l, A, c, rfl, rfl, hl, hvl, hown, hcr, hbr⟩ := hrel
    have HO := Lib.hid hown
    have HVL := Lib.hid hvl
    clear hown hvl
    by_cases hlt : 0 < k
    · go_wp2_with fail
      refine (any2_any g _ hcr).mono ?_
      rintro e w2 ⟨⟨⟨ak, ai, ab⟩, hav, har, rfl⟩, hc2, hb2⟩
      have HO2 := gown_but HO.out hb2 hgl
      have hsz : w.heap.size ≤ w2.heap.size := (hbr.trans hb2).size
      have HAV := Lib.hid hav
      clear hav har
      go_wp2_with (at_builtin; refine wpList_append_one2 (by rfl) (.tmp 10) (.tmp 13) _ (by rfl) w.heap.size 67 i0 _ 3 32 Tryz.underlying46 hi hz0 hz1 hz2 (by rfl) (by omega) (.slice A l.length c) l.length _ (by rfl) w2 _ HO2 w2.heap.size (by rfl) (by rfl) (by rfl) (one_vl ⟨ak, ai, ab⟩) (by simp only [maxLen]; omega) (by omega) hsz ?_; intro g6 cap6 w6 hown6 hg6 hB6 hat6 hlt6)
      go_roundw
      case rel =>
        refine ⟨k - 1, l ++ [⟨ak, ai, ab⟩], some ⟨g6, 0, none⟩, cap6, congrArg (Value.int .i64) (by omega), by simp, by simp; omega, ?_, ?_, gcase_belowB hc2 hB6 hgl, gbut_belowB (hbr.trans hb2) hB6 (Nat.le_refl _)⟩
        · intro v hv
          rcases List.mem_append.1 hv with h | h
          · exact HVL.out v h
          · simp at h
            subst h
            exact HAV.out
        · rw [List.flatMap_append]
          simpa [Vl.cs] using hown6
      case measure => simp [intOf]; omega
    · go_wp2
      go_ret
      exact ⟨A, l.length, c, l, rfl, rfl, by omega, HVL.out, HO.out, Sl.of_own (fun _ => rfl) rfl HO.out, hcr, hbr⟩
end Go.Proofs.YtnocbigcdjlliaaGreat

/-
  What the law's arguments are in memory, and that they read behind the call as before. No walk here.
-/
namespace Go.Proofs.YtnocbigcdjlliaaGreat
open Go.ChangeShapes Go.WideShapes Go.ChangeAt Go.RowKit
set_option maxRecDepth 100000
open Go.ChangeMaps (open_string shut_string)

theorem own : ownKnob Tryz.prog.godebug = none := by kernel_rfl
theorem laidOut : laidOutB Tryz.prog = true := by kernel_rfl

section
variable {H : Type} {enc : TypeId × Value → H} {P : Program}
/-- the arguments read behind the call as before -/
theorem trodAll_below (hl : laidOutB P = true) {W W' : World} (hb : Below W.heap.size W W') : ∀ {ts : List TypeId} {vs : List Value} {ds : List (DataW H)} {ps : List MemPlace},
    (∀ t ∈ ts, P.readableRec t = true ∧ t < P.types.size) → DataW.TrodAll enc P W 0 (fun _ => true) true ts vs ds ps → (∀ x ∈ ps, x.block < W.heap.size) → DataW.TrodAll enc P W' 0 (fun b => decide (b < W.heap.size)) true ts vs ds ps
  | [], vs, ds, ps, _, h, _ => by
    obtain ⟨rfl, rfl, rfl⟩ := trodAll_nil h
    exact trodAll_mk0
  | t :: ts, vs, ds, ps, ht, h, hlt => by
    obtain ⟨v0, vs0, d0, ds0, p0, q0, rfl, rfl, rfl, h0, r0⟩ := trodAll_cons h
    have hr := ht t List.mem_cons_self
    exact trodAll_cons_mk (Below.trod hl hr.1 hr.2 h0 hb (fun x hx => hlt x (List.mem_append_left _ hx))) (trodAll_below hl hb (fun t h => ht t (List.mem_cons_of_mem _ h)) r0 (fun x hx => hlt x (List.mem_append_right _ hx)))
theorem okWide_slice_form {w : World} {r : Reach} {base : Nat} {t e : TypeId} {A : Option Addr} {n c : Nat} (ht : P.underlying t = some (.slice e)) (h : Value.okWide P w r base t (.slice A n c)) :
    (A = none → n = 0 ∧ c = 0) ∧ (∀ ad, A = some ad → ad.spot = none) ∧ n ≤ c ∧ c ≤ 9223372036854775807 := by
  simp only [Value.okWide, ht, Cell.okWide] at h
  cases A with
  | none =>
    unfold Cell.ok at h
    rw [ht] at h
    split at h <;> simp_all
  | some a =>
    unfold Cell.ok at h
    rw [ht] at h
    simp only at h
    obtain ⟨h1, h2, h3⟩ := h
    refine ⟨(fun h => by cases h), fun ad e => ?_, h1, ?_⟩
    · injection e with e
      rw [← e]
      exact h3.2.1
    · have : IntKind.i64.max = 9223372036854775807 := by decide
      omega
theorem trod_fields {w : World} {base : Nat} {sp : Nat → Bool} {hd : Bool} {fuel : Nat} {t : TypeId} {cs : List Value} {x : DataW H × List MemPlace} {fs : Array Field} (ht : P.underlying t = some (.struct fs)) (h : DataW.trod enc P w base sp hd fuel t cs = some x) :
    ∃ n, cs.length = P.cellsOf t ∧ ∀ (i : Nat) (f : Field), fs[i]? = some f → ∃ y, DataW.trod enc P w base sp hd n f.type ((cs.drop f.offset).take (P.cellsOf f.type)) = some y := by
  obtain ⟨ys, n, _, _, hl, hyl, hf⟩ := DataW.trod_struct ht h
  refine ⟨n, hl, fun i f hi => ?_⟩
  have hlt : i < ys.length := by rw [hyl]; exact (Array.getElem?_eq_some_iff.1 hi).1
  exact ⟨ys[i], (hf i f hi).trans (List.getElem?_eq_getElem hlt)⟩
end

theorem choose_list {α : Type} {Q : Nat → α → Prop} : ∀ n : Nat, (∀ i, i < n → ∃ y, Q i y) → ∃ l : List α, l.length = n ∧ ∀ i y, l[i]? = some y → Q i y
  | 0, _ => ⟨[], rfl, fun i y h => (by simp at h)⟩
  | n + 1, h => by
    obtain ⟨l, hl, hi⟩ := choose_list n (fun i hi => h i (by omega))
    obtain ⟨y, hy⟩ := h n (by omega)
    refine ⟨l ++ [y], by simp [hl], fun i z hz => ?_⟩
    rcases Nat.lt_or_ge i l.length with h | h
    · rw [List.getElem?_append_left h] at hz
      exact hi i z hz
    · rw [List.getElem?_append_right h] at hz
      have h0 : i - l.length = 0 := by
        have := (List.getElem?_eq_some_iff.1 hz).1
        simp at this
        omega
      rw [h0] at hz
      have : y = z := by simpa using hz
      rw [← this, show i = n by omega]
      exact hy
/-- a list of bytes as argument -/
theorem open_u8s {H : Type} {enc : TypeId × Value → H} {W : World} {base : Nat} {r : Reach} {b0 : Nat} {v : Value} {d : DataW H} {p : List MemPlace} (hv : Value.okWide Tryz.prog W r b0 22 v) (h : DataW.Trod enc Tryz.prog W base (fun _ => true) true 22 v d p) :
    ∃ (A : Option Addr) (n c : Nat) (zs : List Int), v = .slice A n c ∧ Sl 1 u8c W A n zs ∧ (∀ z ∈ zs, 0 ≤ z ∧ z ≤ 255) ∧ (A = none → n = 0 ∧ c = 0) ∧ (∀ ad, A = some ad → ad.spot = none) ∧ n ≤ c ∧ c ≤ 9223372036854775807 := by
  obtain ⟨A, n, c, rfl⟩ := okWide_slice Tryz.underlying22 hv
  obtain ⟨f1, f2, f3, f4⟩ := okWide_slice_form Tryz.underlying22 hv
  obtain ⟨fuel, hf⟩ := h
  have hf' : DataW.trod enc Tryz.prog W base (fun _ => true) true fuel 22 [.slice A n c] = some (d, p) := hf
  rcases open_ints Tryz.underlying22 Tryz.underlying5 (by kernel_rfl) hf' with ⟨h0, _⟩ | ⟨a, len, cap, zs, h0, hb, hl, hm, hzl, _, hc, hw⟩
  · injection h0 with h0
    injection h0 with e1 e2 e3
    subst e1 e2 e3
    exact ⟨none, 0, 0, [], rfl, Sl.nil, fun z hz => (by cases hz), fun _ => ⟨rfl, rfl⟩, fun ad e => (by cases e), Nat.le_refl _, by omega⟩
  · injection h0 with h0
    injection h0 with e1 e2 e3
    subst e1 e2 e3
    refine ⟨some a, n, c, zs.take n, rfl, ⟨?_, fun hn => ?_⟩, fun z hz => bounds_u8 (hw z (List.mem_of_mem_take hz)), f1, f2, f3, f4⟩
    · rw [List.length_take, hzl]; simp; omega
    · obtain ⟨b, o, sp⟩ := a
      obtain rfl : sp = none := f2 _ rfl
      refine ⟨b, o, rfl, fun k x hx j u hu => ?_⟩
      rw [List.getElem?_take] at hx
      split at hx
      · rename_i hk
        rcases j with _ | j
        · simp only [u8c, List.getElem?_cons_zero, Option.some.injEq] at hu
          subst hu
          have hkl := (List.getElem?_eq_some_iff.1 hx).1
          have := hc k hkl
          rw [add_at] at this
          rw [Nat.mul_one, Nat.add_zero, this, List.getD, hx]
          rfl
        · simp [u8c] at hu
      · cases hx
end Go.Proofs.YtnocbigcdjlliaaGreat

/-
  A region as argument: whatever is handed in reads as a tree; its values are in the range of their type. No walk here.
-/
namespace Go.Proofs.YtnocbigcdjlliaaGreat
open Go.ChangeShapes Go.WideShapes Go.ChangeAt Go.RowKit
set_option maxRecDepth 100000
open Rg

section
variable {H : Type} {enc : TypeId × Value → H} {W : World} {base : Nat}
theorem trod_vl2 {fuel : Nat} {cs : List Value} {x : DataW H × List MemPlace} (h : DataW.trod enc Tryz.prog W base (fun _ => true) true fuel 67 cs = some x) :
    ∃ y : Vl, cs = y.cs ∧ rgV y := by
  obtain ⟨n, hl, g⟩ := trod_fields Tryz.underlying67 h
  have hl' : cs.length = 3 := hl.trans (by kernel_rfl)
  match cs, hl' with
  | [v0, v1, v2], _ =>
    obtain ⟨y0, g0⟩ := g 0 _ rfl
    obtain ⟨y1, g1⟩ := g 1 _ rfl
    obtain ⟨y2, g2⟩ := g 2 _ rfl
    obtain ⟨a, e0, _, _⟩ := DataW.trod_int (k := .i64) (by kernel_rfl) g0
    obtain ⟨b, e1, _, hr⟩ := DataW.trod_int (k := .i64) (by kernel_rfl) g1
    obtain ⟨s, e2, _, hs⟩ := DataW.trod_string (by kernel_rfl) g2
    have f0 : v0 = .int .i64 a := by
      have : [v0] = [.int .i64 a] := e0
      injection this
    have f1 : v1 = .int .i64 b := by
      have : [v1] = [.int .i64 b] := e1
      injection this
    have f2 : v2 = .string s := by
      have : [v2] = [.string s] := e2
      injection this
    subst f0 f1 f2
    refine ⟨⟨a, b, s⟩, rfl, ?_⟩
    have m1 : IntKind.i64.min = -9223372036854775808 := by decide
    have m2 : IntKind.i64.max = 9223372036854775807 := by decide
    simp only [Lit.wf, Bool.and_eq_true, decide_eq_true_eq] at hr
    show -9223372036854775808 ≤ b ∧ b < 9223372036854775808
    omega
theorem trod_iv2 {fuel : Nat} {cs : List Value} {x : DataW H × List MemPlace} (h : DataW.trod enc Tryz.prog W base (fun _ => true) true fuel 70 cs = some x) :
    ∃ y : Iv, cs = y.cs ∧ rgV y.f ∧ rgV y.t := by
  obtain ⟨n, hl, g⟩ := trod_fields Tryz.underlying70 h
  have hl' : cs.length = 7 := hl.trans (by kernel_rfl)
  match cs, hl' with
  | [v0, v1, v2, v3, v4, v5, v6], _ =>
    obtain ⟨y0, g0⟩ := g 0 _ rfl
    obtain ⟨y1, g1⟩ := g 1 _ rfl
    obtain ⟨y2, g2⟩ := g 2 _ rfl
    obtain ⟨a, e0, ra⟩ := trod_vl2 g0
    obtain ⟨b, e1, rb⟩ := trod_vl2 g1
    obtain ⟨q, e2, _⟩ := DataW.trod_bool (by kernel_rfl) g2
    have c3 : Tryz.prog.cellsOf 67 = 3 := by kernel_rfl
    have c1 : Tryz.prog.cellsOf 4 = 1 := by kernel_rfl
    have f0 : [v0, v1, v2] = a.cs := by rw [← e0]; simp [c3]
    have f1 : [v3, v4, v5] = b.cs := by rw [← e1]; simp [c3]
    have f2 : [v6] = [.bool q] := by rw [← e2]; simp [c1]
    simp only [Vl.cs, List.cons.injEq, and_true] at f0 f1 f2
    obtain ⟨rfl, rfl, rfl⟩ := f0
    obtain ⟨rfl, rfl, rfl⟩ := f1
    subst f2
    exact ⟨⟨a, b, q⟩, rfl, ra, rb⟩
/-- the elements of a slice, each with the fuel that is left -/
theorem trod_elems {t e : TypeId} {fuel : Nat} {cs : List Value} {x : DataW H × List MemPlace} (ht : Tryz.prog.underlying t = some (.slice e)) (h : DataW.trod enc Tryz.prog W base (fun _ => true) true fuel t cs = some x) :
    (cs = [.slice none 0 0]) ∨ ∃ (a : Addr) (len cap n : Nat), fuel = n + 1 ∧ cs = [.slice (some a) len cap] ∧ len ≤ cap ∧
      ∀ i, i < len → ∃ cs' y, W.cells? base (a.add (i * Tryz.prog.cellsOf e)) (Tryz.prog.cellsOf e) = some cs' ∧ DataW.trod enc Tryz.prog W base (fun _ => true) true n e cs' = some y := by
  rcases DataW.trod_slice ht h with ⟨h0, _⟩ | ⟨a, len, cap, elems, rest, n, hn, h0, _, _, hl, _, hlen, hel, _⟩
  · exact .inl h0
  · refine .inr ⟨a, len, cap, n, hn, h0, hl, fun i hi => ?_⟩
    have h1 := hel i hi
    rw [List.getElem?_eq_getElem (by omega)] at h1
    obtain ⟨cs', h2, h3⟩ := Option.bind_eq_some_iff.1 h1
    exact ⟨cs', _, h2, h3⟩
/-- a list of intervals that lies in memory -/
theorem trod_ivs2 {fuel : Nat} {v : Value} {x : DataW H × List MemPlace} (h : DataW.trod enc Tryz.prog W base (fun _ => true) true fuel 64 [v] = some x) :
    ∃ (A : Option Addr) (n c : Nat) (l : List Iv), v = .slice A n c ∧ IvS W A n l ∧ okS A n c ∧ ∀ y ∈ l, rgV y.f ∧ rgV y.t := by
  rcases trod_elems Tryz.underlying64 h with h0 | ⟨a, len, cap, m, _, h0, hl, hc⟩
  · injection h0 with h0
    exact ⟨none, 0, 0, [], h0, Sl.nil, ⟨Nat.le_refl _, fun _ => ⟨rfl, rfl⟩⟩, fun y hy => (by cases hy)⟩
  · injection h0 with h0
    have c7 : Tryz.prog.cellsOf 70 = 7 := by kernel_rfl
    rw [c7] at hc
    have hcell : ∀ i, i < len → ∃ y : Iv, (rgV y.f ∧ rgV y.t) ∧ ∀ (j : Nat) (u : Value), y.cs[j]? = some u → W.cell? ((a.add (i * 7)).add j) = some u := by
      intro i hi
      obtain ⟨cs', x', h1, h2⟩ := hc i hi
      obtain ⟨y, rfl, hr⟩ := trod_iv2 h2
      obtain ⟨_, hcl, hat⟩ := World.cells?_some h1
      refine ⟨y, hr, fun j u hu => ?_⟩
      have hj : j < 7 := by have := (List.getElem?_eq_some_iff.1 hu).1; simpa [Iv.cs] using this
      rw [hat j hj, hu]
    obtain ⟨l, hll, hli⟩ := choose_list len hcell
    refine ⟨some a, len, cap, l, h0, ⟨hll, fun hn => ?_⟩, ⟨hl, fun h => (by cases h)⟩, fun y hy => ?_⟩
    rotate_left
    · obtain ⟨k, hk⟩ := List.getElem?_of_mem hy
      exact (hli k y hk).1
    obtain ⟨b, o, sp⟩ := a
    have h0l : 0 < l.length := by omega
    have g0 := (hli 0 _ (List.getElem?_eq_getElem h0l)).2 0 _ rfl
    have hsp : sp = none := by
      have := World.cell?_spot g0
      simpa [Addr.add] using this
    subst hsp
    refine ⟨b, o, rfl, fun k x hx j u hu => ?_⟩
    have := (hli k x hx).2 j u hu
    rw [add_at, add_at] at this
    exact this
/-- the data of one part -/
structure PtD where
  p : List Iv × Rg
  A : Option Addr
  n : Nat
  c : Nat
  x : Int
  f : Bool
  A' : Option Addr
  n' : Nat
  c' : Nat
theorem trod_region : ∀ (fuel : Nat) (cs : List Value) (xx : DataW H × List MemPlace), DataW.trod enc Tryz.prog W base (fun _ => true) true fuel 28 cs = some xx →
    ∃ (x : Int) (f : Bool) (A : Option Addr) (n c : Nat) (r : Rg), cs = [.int .i64 x, .bool f, .slice A n c] ∧ RgS W x f A n c r ∧ WfR r := by
  intro fuel
  induction fuel using Nat.strongRecOn with
  | _ fuel ih =>
    intro cs xx h
    obtain ⟨xs, n0, hf0, _, hl, hxs, g⟩ := DataW.trod_struct Tryz.underlying28 h
    have hl' : cs.length = 3 := hl.trans (by kernel_rfl)
    have c1i : Tryz.prog.cellsOf 3 = 1 := by kernel_rfl
    have c1b : Tryz.prog.cellsOf 4 = 1 := by kernel_rfl
    have c1s : Tryz.prog.cellsOf 26 = 1 := by kernel_rfl
    have hx3 : xs.length = 3 := hxs.trans (by kernel_rfl)
    match cs, hl', xs, hx3 with
    | [v0, v1, v2], _, [x0, x1, x2], _ =>
    have g0 := g 0 _ rfl
    have g1 := g 1 _ rfl
    have g2 := g 2 _ rfl
    obtain ⟨x, e0, _, _⟩ := DataW.trod_int (k := .i64) (by kernel_rfl) g0
    obtain ⟨f, e1, _⟩ := DataW.trod_bool (by kernel_rfl) g1
    have f0 : v0 = .int .i64 x := by
      have : [v0] = [.int .i64 x] := e0
      injection this
    have f1 : v1 = .bool f := by
      have : [v1] = [.bool f] := e1
      injection this
    subst f0 f1
    have g2' : DataW.trod enc Tryz.prog W base (fun _ => true) true n0 26 [v2] = some x2 := g2
    rcases trod_elems Tryz.underlying26 g2' with h0 | ⟨a, len, cap, n1, hf1, h0, hlc, hc⟩
    · injection h0 with h0
      subst h0
      exact ⟨x, f, none, 0, 0, .nil x f, rfl, RgS.nil x f, trivial⟩
    · injection h0 with h0
      subst h0
      have c4 : Tryz.prog.cellsOf 85 = 4 := by kernel_rfl
      rw [c4] at hc
      have hcell : ∀ i, i < len → ∃ d : PtD, (W.cell? ((a.add (i * 4)).add 0) = some (.slice d.A d.n d.c) ∧ W.cell? ((a.add (i * 4)).add 1) = some (.int .i64 d.x) ∧ W.cell? ((a.add (i * 4)).add 2) = some (.bool d.f) ∧ W.cell? ((a.add (i * 4)).add 3) = some (.slice d.A' d.n' d.c')) ∧ okS d.A d.n d.c ∧ IvS W d.A d.n d.p.1 ∧ RgS W d.x d.f d.A' d.n' d.c' d.p.2 ∧ (∀ y ∈ d.p.1, rgV y.f ∧ rgV y.t) ∧ WfR d.p.2 := by
        intro i hi
        obtain ⟨cs', x', h1, h2⟩ := hc i hi
        obtain ⟨ys, n2, hf2, _, hl2, hys, g3⟩ := DataW.trod_struct Tryz.underlying85 h2
        have hl4 : cs'.length = 4 := hl2.trans (by kernel_rfl)
        have hy2 : ys.length = 2 := hys.trans (by kernel_rfl)
        obtain ⟨_, hcl, hat⟩ := World.cells?_some h1
        match cs', hl4, ys, hy2 with
        | [u0, u1, u2, u3], _, [y0, y1], _ =>
          have k0 : DataW.trod enc Tryz.prog W base (fun _ => true) true n2 64 [u0] = some y0 := g3 0 _ rfl
          have k1 : DataW.trod enc Tryz.prog W base (fun _ => true) true n2 28 [u1, u2, u3] = some y1 := g3 1 _ rfl
          obtain ⟨A1, m1, c1, l, rfl, hiv, hok, hrg⟩ := trod_ivs2 k0
          obtain ⟨px, pf, A2, m2, c2, r, hcs, hr, hw⟩ := ih n2 (by omega) _ _ k1
          simp only [List.cons.injEq, and_true] at hcs
          obtain ⟨rfl, rfl, rfl⟩ := hcs
          exact ⟨⟨(l, r), A1, m1, c1, px, pf, A2, m2, c2⟩, ⟨by rw [hat 0 (by omega)]; rfl, by rw [hat 1 (by omega)]; rfl, by rw [hat 2 (by omega)]; rfl, by rw [hat 3 (by omega)]; rfl⟩, hok, hiv, hr, hrg, hw⟩
      obtain ⟨L, hLl, hLi⟩ := choose_list len hcell
      refine ⟨x, f, some a, len, cap, mkR x f (L.map PtD.p), rfl, ⟨w_mk _ _ _, f_mk _ _ _, ⟨hlc, fun h => (by cases h)⟩, by rw [len_mk, List.length_map, hLl], fun hn => ?_⟩, WfR.of fun p hp => ?_⟩
      · obtain ⟨b, o, sp⟩ := a
        have h0l : 0 < L.length := by omega
        have g0 := (hLi 0 _ (List.getElem?_eq_getElem h0l)).1.1
        have hsp : sp = none := by
          have := World.cell?_spot g0
          simpa [Addr.add] using this
        subst hsp
        refine ⟨b, o, rfl, RgP.of fun k p hp => ?_⟩
        rw [parts_mk, List.getElem?_map] at hp
        obtain ⟨d, hd, rfl⟩ := Option.map_eq_some_iff.1 hp
        obtain ⟨⟨d0, d1, d2, d3⟩, hok, hiv, hr, _, _⟩ := hLi k d hd
        rw [add_at, add_at] at d0 d1 d2 d3
        exact ⟨d.A, d.n, d.c, d.x, d.f, d.A', d.n', d.c', d0, d1, d2, d3, hok, hiv, hr⟩
      · obtain ⟨d, hd, rfl⟩ := List.mem_map.1 hp
        obtain ⟨k, hk⟩ := List.getElem?_of_mem hd
        obtain ⟨_, _, _, _, hg, hw⟩ := hLi k d hk
        exact ⟨hg, hw⟩
/-- a region as argument -/
theorem open_region {r : Reach} {b0 : Nat} {v : Value} {d : DataW H} {p : List MemPlace} (hv : Value.okWide Tryz.prog W r b0 28 v) (h : DataW.Trod enc Tryz.prog W base (fun _ => true) true 28 v d p) :
    ∃ (x : Int) (f : Bool) (A : Option Addr) (n c : Nat) (r : Rg), v = .agg #[.int .i64 x, .bool f, .slice A n c] ∧ RgS W x f A n c r ∧ WfR r := by
  obtain ⟨cs, rfl, _⟩ := okWide_struct Tryz.underlying28 hv
  obtain ⟨fuel, hf⟩ := h
  obtain ⟨x, f, A, n, c, r, hcs, hr, hw⟩ := trod_region fuel _ _ hf
  have hcs' : cs.toList = [.int .i64 x, .bool f, .slice A n c] := hcs
  refine ⟨x, f, A, n, c, r, ?_, hr, hw⟩
  rw [show cs = #[.int .i64 x, .bool f, .slice A n c] from Array.toList_inj.1 hcs']
end
end Go.Proofs.YtnocbigcdjlliaaGreat
