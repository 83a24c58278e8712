/-
  Texts: BdMem, BdJoin, BdTwice, BdBox.
-/
import Derived.Test.YtnnmlhmffnfjfaaGreatB18
set_option linter.unusedVariables false
set_option maxRecDepth 100000
namespace Go.Proofs.YtnnmlhmffnfjfaaGreat
open Go.RowKit
open Rg
def noEmp : Rg → Prop
 | .nil _ _ => True
 | .cons vs rest tail => vs ≠ [] ∧ noEmp rest ∧ noEmp tail
theorem noEmp_iff : ∀ r : Rg, noEmp r ↔ ∀ p ∈ r.parts, p.1 ≠ [] ∧ noEmp p.2
 | .nil _ _ => by simp [noEmp, parts]
 | .cons vs rest tail => by
   rw [noEmp, noEmp_iff tail]
   simp only [parts, List.mem_cons, forall_eq_or_imp]
   exact ⟨fun h => ⟨⟨h.1, h.2.1⟩, h.2.2⟩, fun h => ⟨h.1.1, h.1.2, h.2⟩⟩
theorem form_noEmp : ∀ (n : Nat) (r : Rg), Form n r → noEmp r
 | 0, r, h => (noEmp_iff r).2 fun p hp => by rw [h.2] at hp; cases hp
 | n + 1, r, h => (noEmp_iff r).2 fun p hp => ⟨(h.2.2.1 p hp).1, form_noEmp n p.2 (h.2.2.1 p hp).2.2.1⟩
theorem ok_noEmp {r : Rg} (h : OkR r) : noEmp r := form_noEmp _ r h.2.2.2.1
theorem RgP.gen {w w' : World} {B : Nat} (hb : But (· = B) w w') (hI : ∀ (A : Option Addr) (n : Nat) (vs : List Iv), IvS w A n vs → 0 < n → ∀ b o, A = some ⟨b, o, none⟩ → b ≠ B)
 (hP : ∀ (o : Nat) (A : Option Addr) (n c : Nat) (vs : List Iv) (x : Int), w.cell? ⟨B, o, none⟩ = some (.slice A n c) → IvS w A n vs → vs ≠ [] → w.cell? ⟨B, o + 1, none⟩ = some (.int .i64 x) → False) : ∀ {r : Rg} {b o : Nat}, noEmp r → RgP w r b o → RgP w' r b o
 | .nil _ _, _, _, _, _ => trivial
 | .cons vs rest tail, b, o, hn, h => by
   obtain ⟨⟨A1, n1, c1, h1, h2, h3⟩, h4, h5, ⟨A', n', c', h6, h7, h8, h9⟩, h10⟩ := h
   have hne : ¬ b = B := by
    intro e
    subst e
    exact hP o A1 n1 c1 vs _ h1 h3 hn.1 h4
   have hk : ∀ j v, w.cell? ⟨b, j, none⟩ = some v → w'.cell? ⟨b, j, none⟩ = some v := fun j v hv => by
    have hlt := cell_lt (w := w) (a := ⟨b, j, none⟩) (by rw [hv]; rfl)
    rw [World.cell?_of_block (w := w) (hb.block b hlt hne)]
    exact hv
   refine ⟨⟨A1, n1, c1, hk _ _ h1, h2, h3.but hb fun hn b' o' hA => hI A1 n1 vs h3 hn b' o' hA⟩, hk _ _ h4, hk _ _ h5, ⟨A', n', c', hk _ _ h6, h7, h8, fun hn' => ?_⟩, RgP.gen hb hI hP hn.2.2 h10⟩
   obtain ⟨b', o', e, h⟩ := h9 hn'
   exact ⟨b', o', e, RgP.gen hb hI hP hn.2.1 h⟩
theorem RgS.gen {w w' : World} {B : Nat} (hb : But (· = B) w w') (hI : ∀ (A : Option Addr) (n : Nat) (vs : List Iv), IvS w A n vs → 0 < n → ∀ b o, A = some ⟨b, o, none⟩ → b ≠ B)
 (hP : ∀ (o : Nat) (A : Option Addr) (n c : Nat) (vs : List Iv) (x : Int), w.cell? ⟨B, o, none⟩ = some (.slice A n c) → IvS w A n vs → vs ≠ [] → w.cell? ⟨B, o + 1, none⟩ = some (.int .i64 x) → False)
 {x : Int} {f : Bool} {A : Option Addr} {n c : Nat} {r : Rg} (hr : noEmp r) (h : RgS w x f A n c r) : RgS w' x f A n c r :=
 ⟨h.hw, h.hf, h.ok, h.len, fun hn => by
  obtain ⟨b, o, e, hp⟩ := h.ex hn
  exact ⟨b, o, e, hp.gen hb hI hP hr⟩⟩
theorem iv_at {w : World} {A : Option Addr} {n : Nat} {vs : List Iv} (h : IvS w A n vs) (hn : 0 < n) {b o : Nat} (hA : A = some ⟨b, o, none⟩) : ∃ y : Iv, w.cell? ⟨b, o, none⟩ = some (.int .i64 y.f.k) ∧ w.cell? ⟨b, o + 1, none⟩ = some (.int .i64 y.f.i) ∧ w.cell? ⟨b, o + 2, none⟩ = some (.string y.f.t) := by
 obtain ⟨b', o', y, hA', _, hc⟩ := h.at hn
 rw [hA] at hA'
 injection hA' with h1
 injection h1 with h1 h2
 subst h1 h2
 have c0 := hc 0 _ rfl
 have c1 := hc 1 _ rfl
 have c2 := hc 2 _ rfl
 simp only [Nat.zero_mul, Nat.add_zero] at c0 c1 c2
 exact ⟨y, c0, c1, c2⟩
theorem RgS.off1 {w w' : World} {B : Nat} {T : TypeId} {k : Int} (hB : Blk w B T #[.int .i64 k]) (hb : But (· = B) w w') {x : Int} {f : Bool} {A : Option Addr} {n c : Nat} {r : Rg} (hr : noEmp r) (h : RgS w x f A n c r) : RgS w' x f A n c r :=
 RgS.gen hb (fun A n vs hi hn b o hA e => by
  subst e
  obtain ⟨y, c0, c1, c2⟩ := iv_at hi hn hA
  rw [hB.cell] at c2
  rcases o with _ | o <;> simp at c2) (fun o A n c vs x h1 _ _ h4 => by
  rw [hB.cell] at h1
  rcases o with _ | o <;> simp at h1) hr h
def prC (x : Int) (f : Bool) (A : Option Addr) (n c : Nat) (x' : Int) (f' : Bool) (A' : Option Addr) (n' c' : Nat) : Array Value := #[.int .i64 x, .bool f, .slice A n c, .int .i64 x', .bool f', .slice A' n' c']
theorem RgS.off2 {w w' : World} {B : Nat} {T : TypeId} {x0 : Int} {f0 : Bool} {A0 : Option Addr} {n0 c0 : Nat} {x1 : Int} {f1 : Bool} {A1 : Option Addr} {n1 c1 : Nat} {a : Rg} (hB : Blk w B T (prC x0 f0 A0 n0 c0 x1 f1 A1 n1 c1)) (ha : RgS w x0 f0 A0 n0 c0 a) (hb : But (· = B) w w') {x : Int} {f : Bool} {A : Option Addr} {n c : Nat} {r : Rg} (hr : noEmp r) (h : RgS w x f A n c r) : RgS w' x f A n c r :=
 RgS.gen hb (fun A n vs hi hn b o hA e => by
  subst e
  obtain ⟨y, c0, c1, c2⟩ := iv_at hi hn hA
  rw [hB.cell] at c0 c1 c2
  rcases o with _ | _ | _ | _ | _ | _ | o <;> simp [prC] at c0 c1 c2) (fun o A n c vs x h1 hi hv h4 => by
  rw [hB.cell] at h1 h4
  rcases o with _ | _ | _ | _ | _ | _ | o <;> simp [prC] at h1 h4
  obtain ⟨rfl, rfl, rfl⟩ := h1
  have hn : 0 < n0 := by
   rcases Nat.eq_zero_or_pos n0 with h0 | h0
   · exact absurd (List.eq_nil_of_length_eq_zero (by rw [hi.len, h0])) hv
   · exact h0
  obtain ⟨b, o, e, hp⟩ := ha.ex hn
  obtain ⟨y, c0', _, _⟩ := iv_at hi hn e
  have hl := ha.len
  cases a with
  | nil _ _ => simp [Rg.len] at hl; omega
  | cons vs' rest tail =>
    obtain ⟨⟨A2, n2, c2, h2, _⟩, _⟩ := hp
    rw [c0'] at h2
    cases h2) hr h
def PairRes (w : World) (a b : Rg) (er : Int) (e : Ending) (w' : World) : Prop :=
 ∃ (x : Int) (f : Bool) (A : Option Addr) (n c : Nat) (x' : Int) (f' : Bool) (A' : Option Addr) (n' c' : Nat), e = .returned (.tuple #[.agg (prC x f A n c x' f' A' n' c'), .int .i64 er]) ∧ RgS w' x f A n c a ∧ RgS w' x' f' A' n' c' b ∧ Below w.heap.size w w'
def put6 (w : World) (B : Nat) (x : Int) (f : Bool) (A : Option Addr) (n c : Nat) (x' : Int) (f' : Bool) (A' : Option Addr) (n' c' : Nat) : World := (((((w.setCell ⟨B, 0, none⟩ (.int .i64 x)).setCell ⟨B, 1, none⟩ (.bool f)).setCell ⟨B, 2, none⟩ (.slice A n c)).setCell ⟨B, 3, none⟩ (.int .i64 x')).setCell ⟨B, 4, none⟩ (.bool f')).setCell ⟨B, 5, none⟩ (.slice A' n' c')
section
variable {w : World} {B : Nat} {x : Int} {f : Bool} {A : Option Addr} {n c : Nat} {x' : Int} {f' : Bool} {A' : Option Addr} {n' c' : Nat}
theorem put6_but : But (· = B) w (put6 w B x f A n c x' f' A' n' c') :=
 (((((But.set (S := fun k => k = B) w (p := ⟨B, 0, none⟩) rfl _).trans (But.set (S := fun k => k = B) _ (p := ⟨B, 1, none⟩) rfl _)).trans (But.set (S := fun k => k = B) _ (p := ⟨B, 2, none⟩) rfl _)).trans (But.set (S := fun k => k = B) _ (p := ⟨B, 3, none⟩) rfl _)).trans (But.set (S := fun k => k = B) _ (p := ⟨B, 4, none⟩) rfl _)).trans (But.set (S := fun k => k = B) _ (p := ⟨B, 5, none⟩) rfl _)
theorem put6_below {base : Nat} {W0 : World} (h : Below base W0 w) (hB : base ≤ B) : Below base W0 (put6 w B x f A n c x' f' A' n' c') :=
 (((((h.setCell (p := ⟨B, 0, none⟩) hB _).setCell (p := ⟨B, 1, none⟩) hB _).setCell (p := ⟨B, 2, none⟩) hB _).setCell (p := ⟨B, 3, none⟩) hB _).setCell (p := ⟨B, 4, none⟩) hB _).setCell (p := ⟨B, 5, none⟩) hB _
theorem put6_blk {T : TypeId} {y : Int} {g : Bool} {C : Option Addr} {m d : Nat} {y' : Int} {g' : Bool} {C' : Option Addr} {m' d' : Nat} (h : Blk w B T (prC y g C m d y' g' C' m' d')) : Blk (put6 w B x f A n c x' f' A' n' c') B T (prC x f A n c x' f' A' n' c') :=
 (((((h.set_ 0 (.int .i64 x)).set_ 1 (.bool f)).set_ 2 (.slice A n c)).set_ 3 (.int .i64 x')).set_ 4 (.bool f')).set_ 5 (.slice A' n' c')
end
def jE (e1 e2 : Int) : Int := if e1 = 0 then e2 else e1
def jR (e1 e2 : Int) (a : Rg) : Rg := if e1 = 0 ∧ e2 = 0 then a else zeroR
def BJoinOut (w : World) (x : Int) (f : Bool) (A : Option Addr) (n c : Nat) (er : Int) (e : Ending) (w' : World) : Prop :=
 ∃ P Q : Nat, e = .returned (.func (.func 133) #[] #[.pointer (some ⟨P, 0, none⟩), .pointer (some ⟨Q, 0, none⟩)]) ∧ w.heap.size ≤ P ∧ Blk w' P 36 #[.int .i64 er] ∧ Blk w' Q 71 #[.int .i64 x, .bool f, .slice A n c] ∧ Below w.heap.size w w'
theorem bjoin_any (x : Int) (f : Bool) (A : Option Addr) (n c : Nat) (er : Int) (w : World) : Calls Tryz.prog 85 #[.agg #[.int .i64 x, .bool f, .slice A n c], .int .i64 er] w fun e w' => BJoinOut w x f A n c er e w' := by
 have HQ := zH ((Blk.new w 71 #[.int .i64 x, .bool f, .slice A n c]).alloc (.cells #[.int .i64 er] 36))
 have HP := zH (Blk.new (w.alloc (.cells #[.int .i64 x, .bool f, .slice A n c] 71)) 36 #[.int .i64 er])
 rw [show (w.alloc (.cells #[.int .i64 x, .bool f, .slice A n c] 71)).heap.size = w.heap.size + 1 by simp] at HP
 have HB0 := (Below.refl w.heap.size w).alloc (Nat.le_refl _) (.cells #[.int .i64 x, .bool f, .slice A n c] 71)
 have HB := zH (HB0.alloc HB0.size (.cells #[.int .i64 er] 36))
 clear HB0
 go_enter Tryz.func85, Tryz.ntmps85
 go_upto_region 1 with fail
 generalize hW : (w.alloc (.cells #[.int .i64 x, .bool f, .slice A n c] 71)).alloc (.cells #[.int .i64 er] 36) = w1 at *
 clear hW
 go_wp2
 go_ret
 exact ⟨w.heap.size + 1, w.heap.size, rfl, by omega, HP.out, HQ.out, HB.out⟩
def PairB (w : World) (P : Nat) (a b : Rg) (er : Int) (e : Ending) (w' : World) : Prop :=
 ∃ (x : Int) (f : Bool) (A : Option Addr) (n c : Nat) (x' : Int) (f' : Bool) (A' : Option Addr) (n' c' : Nat), e = .returned (.tuple #[.agg (prC x f A n c x' f' A' n' c'), .int .i64 er]) ∧ RgS w' x f A n c a ∧ RgS w' x' f' A' n' c' b ∧ But (· = P) w w'
theorem RgS.zero' (w : World) : RgS w 0 false none 0 0 zeroR := RgS.nil _ _
theorem but_put6 {P R : Nat} {w w1 : World} (h : But (· = P) w w1) (hR : w.heap.size ≤ R) {x : Int} {f : Bool} {A : Option Addr} {n c : Nat} {x' : Int} {f' : Bool} {A' : Option Addr} {n' c' : Nat} : But (· = P) w (put6 w1 R x f A n c x' f' A' n' c') :=
 (((((h.setNew (p := ⟨R, 0, none⟩) hR _).setNew (p := ⟨R, 1, none⟩) hR _).setNew (p := ⟨R, 2, none⟩) hR _).setNew (p := ⟨R, 3, none⟩) hR _).setNew (p := ⟨R, 4, none⟩) hR _).setNew (p := ⟨R, 5, none⟩) hR _
set_option maxHeartbeats 8000000 in
theorem bjoin1_any (x : Int) (f : Bool) (A : Option Addr) (n c : Nat) (a : Rg) (er : Int) (x' : Int) (f' : Bool) (A' : Option Addr) (n' c' : Nat) (b : Rg) (er2 : Int) (P Q : Nat) (w : World) (hP : Blk w P 36 #[.int .i64 er]) (hQ : Blk w Q 71 #[.int .i64 x, .bool f, .slice A n c]) (ha : RgS w x f A n c a) (hb : RgS w x' f' A' n' c' b) (na : noEmp a) (nb : noEmp b) :
 Calls Tryz.prog 133 #[.agg #[.int .i64 x', .bool f', .slice A' n' c'], .int .i64 er2, .pointer (some ⟨P, 0, none⟩), .pointer (some ⟨Q, 0, none⟩)] w fun e w' => PairB w P (jR er er2 a) (jR er er2 b) (jE er er2) e w' := by
 obtain ⟨ra, Hra⟩ : ∃ z, Hid (jR er er2 a = z) := ⟨_, rfl⟩
 obtain ⟨rb, Hrb⟩ : ∃ z, Hid (jR er er2 b = z) := ⟨_, rfl⟩
 obtain ⟨re, Hre⟩ : ∃ z, Hid (jE er er2 = z) := ⟨_, rfl⟩
 rw [Hra.out, Hrb.out, Hre.out]
 have hPlt := hP.lt
 have hPQ : P ≠ Q := by
  intro e
  subst e
  have h1 := hP.cell 0
  have h2 := hQ.cell 1
  have h3 := hP.cell 1
  rw [h3] at h2
  simp at h2
 have HNa := zH na
 have HNb := zH nb
 have HP := zH ((hP.alloc (.cells #[.int .i64 x', .bool f', .slice A' n' c'] 71)).alloc (.cells #[.int .i64 0, .bool false, .slice none 0 0, .int .i64 0, .bool false, .slice none 0 0] 127))
 have HQ := zH ((hQ.alloc (.cells #[.int .i64 x', .bool f', .slice A' n' c'] 71)).alloc (.cells #[.int .i64 0, .bool false, .slice none 0 0, .int .i64 0, .bool false, .slice none 0 0] 127))
 have HSa := zH ((ha.keep (keeps_alloc w (.cells #[.int .i64 x', .bool f', .slice A' n' c'] 71))).keep (keeps_alloc _ (.cells #[.int .i64 0, .bool false, .slice none 0 0, .int .i64 0, .bool false, .slice none 0 0] 127)))
 have HSb := zH ((hb.keep (keeps_alloc w (.cells #[.int .i64 x', .bool f', .slice A' n' c'] 71))).keep (keeps_alloc _ (.cells #[.int .i64 0, .bool false, .slice none 0 0, .int .i64 0, .bool false, .slice none 0 0] 127)))
 have HO := zH ((Blk.new w 71 #[.int .i64 x', .bool f', .slice A' n' c']).alloc (.cells #[.int .i64 0, .bool false, .slice none 0 0, .int .i64 0, .bool false, .slice none 0 0] 127))
 have HR : Hid (Blk _ (w.alloc (.cells #[.int .i64 x', .bool f', .slice A' n' c'] 71)).heap.size 127 (prC 0 false none 0 0 0 false none 0 0)) := zH (Blk.new (w.alloc (.cells #[.int .i64 x', .bool f', .slice A' n' c'] 71)) 127 #[.int .i64 0, .bool false, .slice none 0 0, .int .i64 0, .bool false, .slice none 0 0])
 rw [show (w.alloc (.cells #[.int .i64 x', .bool f', .slice A' n' c'] 71)).heap.size = w.heap.size + 1 by simp] at HR
 have HU0 : But (· = P) w (w.alloc (.cells #[.int .i64 x', .bool f', .slice A' n' c'] 71)) := But.alloc _ _
 have HU := zH (HU0.allocNew (.cells #[.int .i64 0, .bool false, .slice none 0 0, .int .i64 0, .bool false, .slice none 0 0] 127))
 have Hlt : Hid (w.heap.size + 1 ≠ P ∧ w.heap.size ≠ P ∧ P ≠ Q) := zH ⟨by omega, by omega, hPQ⟩
 clear HU0 hP hQ ha hb na nb hPlt hPQ
 go_enter Tryz.func133, Tryz.ntmps133
 go_upto_region 1 with fail
 obtain ⟨O, HOe⟩ : ∃ z, Hid (w.heap.size = z) := ⟨_, rfl⟩
 obtain ⟨R, HRe⟩ : ∃ z, Hid (w.heap.size + 1 = z) := ⟨_, rfl⟩
 have HRl : Hid (w.heap.size ≤ R) := zH (by have := HRe.out; omega)
 rw [HRe.out] at HR Hlt
 rw [HOe.out] at HO Hlt
 rw [HRe.out, HOe.out]
 generalize hW : (w.alloc (.cells #[.int .i64 x', .bool f', .slice A' n' c'] 71)).alloc (.cells #[.int .i64 0, .bool false, .slice none 0 0, .int .i64 0, .bool false, .slice none 0 0] 127) = w1 at *
 clear hW HOe HRe
 have zp := HP.out.cell
 by_cases h1 : er = 0
 rotate_left
 · obtain rfl : zeroR = ra := by rw [← Hra.out, jR, if_neg (fun h => h1 h.1)]
   obtain rfl : zeroR = rb := by rw [← Hrb.out, jR, if_neg (fun h => h1 h.1)]
   obtain rfl : er = re := by rw [← Hre.out, jE, if_neg h1]
   have g1 : (er == 0) = false := by simpa using h1
   have g2 : (er != 0) = true := by simpa using h1
   clear h1 Hra Hrb Hre
   go_upto_region 4 with fail
   obtain ⟨S, HS⟩ : ∃ S : Nat → Prop, Hid ((fun q => q = R) = S) := ⟨_, rfl⟩
   have hSP : ¬ S P := by rw [← HS.out]; intro h; exact Hlt.out.1 h.symm
   refine wp_region_plan S (.one [0, 1] 2 (.last [3])) (by kernel_rfl) (by kernel_rfl) (fun _ _ d _ _ h => by cases d <;> exact h) ?_
   have qP : ∀ (y : LaterS S w1.drew) z, (afterS S w1.drew y).cell? ⟨P, z, none⟩ = (#[.int .i64 er] : Array Value)[z]? := fun y z => (HP.out.drew.but y.but hSP).cell z
   have HRd : Hid (Blk w1.drew R 127 (prC 0 false none 0 0 0 false none 0 0)) := zH HR.out.drew
   have HUd : Hid (But (· = P) w w1.drew) := zH HU.out.drew
   generalize hWd : w1.drew = wdd at *
   clear hWd zp
   unfold wpPlan
   simp only [pickOps, opAt, pkO]
   repeat (go_big_quiet_step (fail))
   refine wpQuiet_nil ?_
   clear qP
   have zr := HRd.out.cell
   have zf := HRd.out.free
   unfold prC at zr
   have hbS : But S wdd (put6 wdd R 0 false none 0 0 0 false none 0 0) := by
    rw [← HS.out]
    exact put6_but
   have y6 := (put6_blk (x := 0) (f := false) (A := none) (n := 0) (c := 0) (x' := 0) (f' := false) (A' := none) (n' := 0) (c' := 0) HRd.out).cell
   unfold prC at y6
   have HUr : Hid (But (· = P) w (put6 wdd R 0 false none 0 0 0 false none 0 0)) := zH (but_put6 HUd.out HRl.out)
   unfold put6 at hbS y6 HUr
   go_wp2_with fail
   refine ⟨hbS, ?_⟩
   unfold wpPlan
   simp only [pickOps, opAt, pkO]
   repeat (go_big_quiet_step (fail))
   refine wpQuiet_nil ?_
   go_wp2
   exact bodyPost_ret (v := .tuple #[.agg #[.int .i64 0, .bool false, .slice none 0 0, .int .i64 0, .bool false, .slice none 0 0], .int .i64 er]) (by simp [results, Tryz.results133, go_sem, y6]) rfl ⟨0, false, none, 0, 0, 0, false, none, 0, 0, rfl, RgS.zero' _, RgS.zero' _, HUr.out⟩
 subst h1
 have HP2 : Hid (Blk (w1.setCell ⟨P, 0, none⟩ (.int .i64 er2)) P 36 #[.int .i64 er2]) := zH (HP.out.set_ 0 (.int .i64 er2))
 have hU2 : But (· = P) w1 (w1.setCell ⟨P, 0, none⟩ (.int .i64 er2)) := But.set (S := fun k => k = P) w1 (p := ⟨P, 0, none⟩) rfl _
 have HU2 := zH (HU.out.trans hU2)
 have HQ2 := zH (HQ.out.but hU2 (fun e => Hlt.out.2.2 e.symm))
 have HR2 := zH (HR.out.but hU2 (fun e => Hlt.out.1 e))
 have HO2 := zH (HO.out.but hU2 (fun e => Hlt.out.2.1 e))
 have HSa2 := zH (RgS.off1 HP.out hU2 HNa.out HSa.out)
 have HSb2 := zH (RgS.off1 HP.out hU2 HNb.out HSb.out)
 have zpf := HP.out.free
 clear hU2
 go_upto_region 3 with fail
 generalize hW : w1.setCell ⟨P, 0, none⟩ (.int .i64 er2) = w2 at *
 clear hW zp zpf HP HU HQ HR HO HSa HSb
 have zp := HP2.out.cell
 by_cases h2 : er2 = 0
 rotate_left
 · obtain rfl : zeroR = ra := by rw [← Hra.out, jR, if_neg (fun h => h2 h.2)]
   obtain rfl : zeroR = rb := by rw [← Hrb.out, jR, if_neg (fun h => h2 h.2)]
   obtain rfl : er2 = re := by rw [← Hre.out, jE, if_pos rfl]
   have g2 : (er2 != 0) = true := by simpa using h2
   clear h2 Hra Hrb Hre
   have HP := HP2
   have HR := HR2
   have HU := HU2
   go_upto_region 4 with fail
   obtain ⟨S, HS⟩ : ∃ S : Nat → Prop, Hid ((fun q => q = R) = S) := ⟨_, rfl⟩
   have hSP : ¬ S P := by rw [← HS.out]; intro h; exact Hlt.out.1 h.symm
   refine wp_region_plan S (.one [0, 1] 2 (.last [3])) (by kernel_rfl) (by kernel_rfl) (fun _ _ d _ _ h => by cases d <;> exact h) ?_
   have qP : ∀ (y : LaterS S w2.drew) z, (afterS S w2.drew y).cell? ⟨P, z, none⟩ = (#[.int .i64 er2] : Array Value)[z]? := fun y z => (HP.out.drew.but y.but hSP).cell z
   have HRd : Hid (Blk w2.drew R 127 (prC 0 false none 0 0 0 false none 0 0)) := zH HR.out.drew
   have HUd : Hid (But (· = P) w w2.drew) := zH HU.out.drew
   generalize hWd : w2.drew = wdd at *
   clear hWd zp
   unfold wpPlan
   simp only [pickOps, opAt, pkO]
   repeat (go_big_quiet_step (fail))
   refine wpQuiet_nil ?_
   clear qP
   have zr := HRd.out.cell
   have zf := HRd.out.free
   unfold prC at zr
   have hbS : But S wdd (put6 wdd R 0 false none 0 0 0 false none 0 0) := by
    rw [← HS.out]
    exact put6_but
   have y6 := (put6_blk (x := 0) (f := false) (A := none) (n := 0) (c := 0) (x' := 0) (f' := false) (A' := none) (n' := 0) (c' := 0) HRd.out).cell
   unfold prC at y6
   have HUr : Hid (But (· = P) w (put6 wdd R 0 false none 0 0 0 false none 0 0)) := zH (but_put6 HUd.out HRl.out)
   unfold put6 at hbS y6 HUr
   go_wp2_with fail
   refine ⟨hbS, ?_⟩
   unfold wpPlan
   simp only [pickOps, opAt, pkO]
   repeat (go_big_quiet_step (fail))
   refine wpQuiet_nil ?_
   go_wp2
   exact bodyPost_ret (v := .tuple #[.agg #[.int .i64 0, .bool false, .slice none 0 0, .int .i64 0, .bool false, .slice none 0 0], .int .i64 er2]) (by simp [results, Tryz.results133, go_sem, y6]) rfl ⟨0, false, none, 0, 0, 0, false, none, 0, 0, rfl, RgS.zero' _, RgS.zero' _, HUr.out⟩
 subst h2
 obtain rfl : a = ra := by rw [← Hra.out, jR, if_pos ⟨rfl, rfl⟩]
 obtain rfl : b = rb := by rw [← Hrb.out, jR, if_pos ⟨rfl, rfl⟩]
 obtain rfl : 0 = re := by rw [← Hre.out, jE, if_pos rfl]
 have zq := HQ2.out.cell
 have zo := HO2.out.cell
 have zr := HR2.out.cell
 have zf := HR2.out.free
 unfold prC at zr
 have y6 := (put6_blk (x := x) (f := f) (A := A) (n := n) (c := c) (x' := x') (f' := f') (A' := A') (n' := n') (c' := c') HR2.out).cell
 unfold prC at y6
 have HUr : Hid (But (· = P) w (put6 w2 R x f A n c x' f' A' n' c')) := zH (but_put6 HU2.out HRl.out)
 have HSa3 := zH (RgS.off2 (a := zeroR) HR2.out (RgS.zero' _) (put6_but (w := w2) (B := R) (x := x) (f := f) (A := A) (n := n) (c := c) (x' := x') (f' := f') (A' := A') (n' := n') (c' := c')) HNa.out HSa2.out)
 have HSb3 := zH (RgS.off2 (a := zeroR) HR2.out (RgS.zero' _) (put6_but (w := w2) (B := R) (x := x) (f := f) (A := A) (n := n) (c := c) (x' := x') (f' := f') (A' := A') (n' := n') (c' := c')) HNb.out HSb2.out)
 unfold put6 at y6 HUr HSa3 HSb3
 go_wp2
 exact bodyPost_ret (v := .tuple #[.agg #[.int .i64 x, .bool f, .slice A n c, .int .i64 x', .bool f', .slice A' n' c'], .int .i64 0]) (by simp [results, Tryz.results133, go_sem, y6]) rfl ⟨x, f, A, n, c, x', f', A', n', c', rfl, HSa3.out, HSb3.out, HUr.out⟩
set_option maxHeartbeats 8000000 in
theorem twice1_any (F : Nat) (hent : ∀ args w, (callFunc F args).run Tryz.prog w = .ok (.enter F args) w) (q1 : Nat) (r : Rg) (hr : noEmp r) (w : World)
 (hop : ∀ W, Below w.heap.size w W → Calls Tryz.prog F #[.pointer (some ⟨q1, 0, none⟩)] W fun e w' => RgRes W r 0 e w') :
 Calls Tryz.prog 79 #[.func (.func F) #[] #[.pointer (some ⟨q1, 0, none⟩)]] w fun e w' => PairRes w r r 0 e w' := by
 have HOP := zH hop
 have HNr := zH hr
 have HR : Hid (Blk _ w.heap.size 127 (prC 0 false none 0 0 0 false none 0 0)) := zH (Blk.new w 127 #[.int .i64 0, .bool false, .slice none 0 0, .int .i64 0, .bool false, .slice none 0 0])
 have HB := zH ((Below.refl w.heap.size w).alloc (Nat.le_refl _) (.cells #[.int .i64 0, .bool false, .slice none 0 0, .int .i64 0, .bool false, .slice none 0 0] 127))
 clear hop hr
 go_enter Tryz.func79, Tryz.ntmps79
 go_upto_region 1 with fail
 obtain ⟨R, HRe⟩ : ∃ z, Hid (w.heap.size = z) := ⟨_, rfl⟩
 have HRl : Hid (w.heap.size ≤ R) := zH (by have := HRe.out; omega)
 rw [HRe.out] at HR
 rw [HRe.out]
 generalize hW : w.alloc (.cells #[.int .i64 0, .bool false, .slice none 0 0, .int .i64 0, .bool false, .slice none 0 0] 127) = w0 at *
 clear hW HRe
 go_wp2_with fail
 refine (HOP.out _ HB.out).mono ?_
 rintro e w1 ⟨x, f, A, n, c, rfl, hS1, hb1⟩
 have HB1 := zH (Below.next HB.out hb1)
 have HR1 := zH (HR.out.below hb1)
 have HS1 := zH hS1
 clear hS1 hb1 HB HR
 go_wp2_with fail
 refine (bjoin_any x f A n c 0 _).mono ?_
 rintro e w2 ⟨P, Q, rfl, hPl, hP, hQ, hb2⟩
 have HB2 := zH (Below.next HB1.out hb2)
 have HR2 := zH (HR1.out.below hb2)
 have HS2 := zH (HS1.out.keep (keeps_of hb2))
 have HP2 := zH hP
 have HQ2 := zH hQ
 have HPl : Hid (w.heap.size ≤ P ∧ R ≠ P) := zH ⟨by have := HB1.out.size; omega, by have := HR1.out.lt; omega⟩
 clear hPl hP hQ hb2 HB1 HR1 HS1
 go_wp2_with fail
 refine (HOP.out _ HB2.out).mono ?_
 rintro e w3 ⟨x', f', A', n', c', rfl, hS3, hb3⟩
 have HB3 := zH (Below.next HB2.out hb3)
 have HR3 := zH (HR2.out.below hb3)
 have HS3 := zH (HS2.out.keep (keeps_of hb3))
 have HP3 := zH (HP2.out.below hb3)
 have HQ3 := zH (HQ2.out.below hb3)
 have HT3 := zH hS3
 clear hS3 hb3 HB2 HR2 HS2 HP2 HQ2
 go_wp2_with fail
 refine (bjoin1_any x f A n c r 0 x' f' A' n' c' r 0 P Q _ HP3.out HQ3.out HS3.out HT3.out HNr.out HNr.out).mono ?_
 rintro e w4 ⟨y, g, C, m, d, y', g', C', m', d', rfl, hA, hA', hu⟩
 have HB4 := zH (hu.below HB3.out HB3.out.size (fun k hk => by subst hk; exact HPl.out.1))
 have HR4 := zH (HR3.out.but hu (fun e => HPl.out.2 e))
 have e1 : jR 0 0 r = r := by rw [jR, if_pos ⟨rfl, rfl⟩]
 rw [e1] at hA hA'
 have HA := zH hA
 have HA' := zH hA'
 clear hA hA' hu e1 HB3 HR3 HS3 HP3 HQ3 HT3
 rw [show jE 0 0 = 0 from rfl]
 have zr := HR4.out.cell
 have zf := HR4.out.free
 unfold prC at zr
 have y6 := (put6_blk (x := y) (f := g) (A := C) (n := m) (c := d) (x' := y') (f' := g') (A' := C') (n' := m') (c' := d') HR4.out).cell
 unfold prC at y6
 have HBr := zH (put6_below (x := y) (f := g) (A := C) (n := m) (c := d) (x' := y') (f' := g') (A' := C') (n' := m') (c' := d') HB4.out HRl.out)
 have HA3 := zH (RgS.off2 (a := zeroR) HR4.out (RgS.zero' _) (put6_but (w := w4) (B := R) (x := y) (f := g) (A := C) (n := m) (c := d) (x' := y') (f' := g') (A' := C') (n' := m') (c' := d')) HNr.out HA.out)
 have HA4 := zH (RgS.off2 (a := zeroR) HR4.out (RgS.zero' _) (put6_but (w := w4) (B := R) (x := y) (f := g) (A := C) (n := m) (c := d) (x' := y') (f' := g') (A' := C') (n' := m') (c' := d')) HNr.out HA'.out)
 unfold put6 at y6 HBr HA3 HA4
 unfold prC
 go_wp2
 exact bodyPost_ret (v := .tuple #[.agg #[.int .i64 y, .bool g, .slice C m d, .int .i64 y', .bool g', .slice C' m' d'], .int .i64 0]) (by simp [results, Tryz.results79, go_sem, y6]) rfl ⟨y, g, C, m, d, y', g', C', m', d', rfl, HA3.out, HA4.out, HBr.out⟩
set_option maxHeartbeats 8000000 in
theorem twice2_any (F : Nat) (hent : ∀ args w, (callFunc F args).run Tryz.prog w = .ok (.enter F args) w) (q1 q2 : Nat) (r : Rg) (hr : noEmp r) (w : World)
 (hop : ∀ W, Below w.heap.size w W → Calls Tryz.prog F #[.pointer (some ⟨q1, 0, none⟩), .pointer (some ⟨q2, 0, none⟩)] W fun e w' => RgRes W r 0 e w') :
 Calls Tryz.prog 79 #[.func (.func F) #[] #[.pointer (some ⟨q1, 0, none⟩), .pointer (some ⟨q2, 0, none⟩)]] w fun e w' => PairRes w r r 0 e w' := by
 have HOP := zH hop
 have HNr := zH hr
 have HR : Hid (Blk _ w.heap.size 127 (prC 0 false none 0 0 0 false none 0 0)) := zH (Blk.new w 127 #[.int .i64 0, .bool false, .slice none 0 0, .int .i64 0, .bool false, .slice none 0 0])
 have HB := zH ((Below.refl w.heap.size w).alloc (Nat.le_refl _) (.cells #[.int .i64 0, .bool false, .slice none 0 0, .int .i64 0, .bool false, .slice none 0 0] 127))
 clear hop hr
 go_enter Tryz.func79, Tryz.ntmps79
 go_upto_region 1 with fail
 obtain ⟨R, HRe⟩ : ∃ z, Hid (w.heap.size = z) := ⟨_, rfl⟩
 have HRl : Hid (w.heap.size ≤ R) := zH (by have := HRe.out; omega)
 rw [HRe.out] at HR
 rw [HRe.out]
 generalize hW : w.alloc (.cells #[.int .i64 0, .bool false, .slice none 0 0, .int .i64 0, .bool false, .slice none 0 0] 127) = w0 at *
 clear hW HRe
 go_wp2_with fail
 refine (HOP.out _ HB.out).mono ?_
 rintro e w1 ⟨x, f, A, n, c, rfl, hS1, hb1⟩
 have HB1 := zH (Below.next HB.out hb1)
 have HR1 := zH (HR.out.below hb1)
 have HS1 := zH hS1
 clear hS1 hb1 HB HR
 go_wp2_with fail
 refine (bjoin_any x f A n c 0 _).mono ?_
 rintro e w2 ⟨P, Q, rfl, hPl, hP, hQ, hb2⟩
 have HB2 := zH (Below.next HB1.out hb2)
 have HR2 := zH (HR1.out.below hb2)
 have HS2 := zH (HS1.out.keep (keeps_of hb2))
 have HP2 := zH hP
 have HQ2 := zH hQ
 have HPl : Hid (w.heap.size ≤ P ∧ R ≠ P) := zH ⟨by have := HB1.out.size; omega, by have := HR1.out.lt; omega⟩
 clear hPl hP hQ hb2 HB1 HR1 HS1
 go_wp2_with fail
 refine (HOP.out _ HB2.out).mono ?_
 rintro e w3 ⟨x', f', A', n', c', rfl, hS3, hb3⟩
 have HB3 := zH (Below.next HB2.out hb3)
 have HR3 := zH (HR2.out.below hb3)
 have HS3 := zH (HS2.out.keep (keeps_of hb3))
 have HP3 := zH (HP2.out.below hb3)
 have HQ3 := zH (HQ2.out.below hb3)
 have HT3 := zH hS3
 clear hS3 hb3 HB2 HR2 HS2 HP2 HQ2
 go_wp2_with fail
 refine (bjoin1_any x f A n c r 0 x' f' A' n' c' r 0 P Q _ HP3.out HQ3.out HS3.out HT3.out HNr.out HNr.out).mono ?_
 rintro e w4 ⟨y, g, C, m, d, y', g', C', m', d', rfl, hA, hA', hu⟩
 have HB4 := zH (hu.below HB3.out HB3.out.size (fun k hk => by subst hk; exact HPl.out.1))
 have HR4 := zH (HR3.out.but hu (fun e => HPl.out.2 e))
 have e1 : jR 0 0 r = r := by rw [jR, if_pos ⟨rfl, rfl⟩]
 rw [e1] at hA hA'
 have HA := zH hA
 have HA' := zH hA'
 clear hA hA' hu e1 HB3 HR3 HS3 HP3 HQ3 HT3
 rw [show jE 0 0 = 0 from rfl]
 have zr := HR4.out.cell
 have zf := HR4.out.free
 unfold prC at zr
 have y6 := (put6_blk (x := y) (f := g) (A := C) (n := m) (c := d) (x' := y') (f' := g') (A' := C') (n' := m') (c' := d') HR4.out).cell
 unfold prC at y6
 have HBr := zH (put6_below (x := y) (f := g) (A := C) (n := m) (c := d) (x' := y') (f' := g') (A' := C') (n' := m') (c' := d') HB4.out HRl.out)
 have HA3 := zH (RgS.off2 (a := zeroR) HR4.out (RgS.zero' _) (put6_but (w := w4) (B := R) (x := y) (f := g) (A := C) (n := m) (c := d) (x' := y') (f' := g') (A' := C') (n' := m') (c' := d')) HNr.out HA.out)
 have HA4 := zH (RgS.off2 (a := zeroR) HR4.out (RgS.zero' _) (put6_but (w := w4) (B := R) (x := y) (f := g) (A := C) (n := m) (c := d) (x' := y') (f' := g') (A' := C') (n' := m') (c' := d')) HNr.out HA'.out)
 unfold put6 at y6 HBr HA3 HA4
 unfold prC
 go_wp2
 exact bodyPost_ret (v := .tuple #[.agg #[.int .i64 y, .bool g, .slice C m d, .int .i64 y', .bool g', .slice C' m' d'], .int .i64 0]) (by simp [results, Tryz.results79, go_sem, y6]) rfl ⟨y, g, C, m, d, y', g', C', m', d', rfl, HA3.out, HA4.out, HBr.out⟩
set_option maxHeartbeats 8000000 in
theorem twice3_any (F : Nat) (hent : ∀ args w, (callFunc F args).run Tryz.prog w = .ok (.enter F args) w) (q1 q2 q3 : Nat) (r : Rg) (hr : noEmp r) (w : World)
 (hop : ∀ W, Below w.heap.size w W → Calls Tryz.prog F #[.pointer (some ⟨q1, 0, none⟩), .pointer (some ⟨q2, 0, none⟩), .pointer (some ⟨q3, 0, none⟩)] W fun e w' => RgRes W r 0 e w') :
 Calls Tryz.prog 79 #[.func (.func F) #[] #[.pointer (some ⟨q1, 0, none⟩), .pointer (some ⟨q2, 0, none⟩), .pointer (some ⟨q3, 0, none⟩)]] w fun e w' => PairRes w r r 0 e w' := by
 have HOP := zH hop
 have HNr := zH hr
 have HR : Hid (Blk _ w.heap.size 127 (prC 0 false none 0 0 0 false none 0 0)) := zH (Blk.new w 127 #[.int .i64 0, .bool false, .slice none 0 0, .int .i64 0, .bool false, .slice none 0 0])
 have HB := zH ((Below.refl w.heap.size w).alloc (Nat.le_refl _) (.cells #[.int .i64 0, .bool false, .slice none 0 0, .int .i64 0, .bool false, .slice none 0 0] 127))
 clear hop hr
 go_enter Tryz.func79, Tryz.ntmps79
 go_upto_region 1 with fail
 obtain ⟨R, HRe⟩ : ∃ z, Hid (w.heap.size = z) := ⟨_, rfl⟩
 have HRl : Hid (w.heap.size ≤ R) := zH (by have := HRe.out; omega)
 rw [HRe.out] at HR
 rw [HRe.out]
 generalize hW : w.alloc (.cells #[.int .i64 0, .bool false, .slice none 0 0, .int .i64 0, .bool false, .slice none 0 0] 127) = w0 at *
 clear hW HRe
 go_wp2_with fail
 refine (HOP.out _ HB.out).mono ?_
 rintro e w1 ⟨x, f, A, n, c, rfl, hS1, hb1⟩
 have HB1 := zH (Below.next HB.out hb1)
 have HR1 := zH (HR.out.below hb1)
 have HS1 := zH hS1
 clear hS1 hb1 HB HR
 go_wp2_with fail
 refine (bjoin_any x f A n c 0 _).mono ?_
 rintro e w2 ⟨P, Q, rfl, hPl, hP, hQ, hb2⟩
 have HB2 := zH (Below.next HB1.out hb2)
 have HR2 := zH (HR1.out.below hb2)
 have HS2 := zH (HS1.out.keep (keeps_of hb2))
 have HP2 := zH hP
 have HQ2 := zH hQ
 have HPl : Hid (w.heap.size ≤ P ∧ R ≠ P) := zH ⟨by have := HB1.out.size; omega, by have := HR1.out.lt; omega⟩
 clear hPl hP hQ hb2 HB1 HR1 HS1
 go_wp2_with fail
 refine (HOP.out _ HB2.out).mono ?_
 rintro e w3 ⟨x', f', A', n', c', rfl, hS3, hb3⟩
 have HB3 := zH (Below.next HB2.out hb3)
 have HR3 := zH (HR2.out.below hb3)
 have HS3 := zH (HS2.out.keep (keeps_of hb3))
 have HP3 := zH (HP2.out.below hb3)
 have HQ3 := zH (HQ2.out.below hb3)
 have HT3 := zH hS3
 clear hS3 hb3 HB2 HR2 HS2 HP2 HQ2
 go_wp2_with fail
 refine (bjoin1_any x f A n c r 0 x' f' A' n' c' r 0 P Q _ HP3.out HQ3.out HS3.out HT3.out HNr.out HNr.out).mono ?_
 rintro e w4 ⟨y, g, C, m, d, y', g', C', m', d', rfl, hA, hA', hu⟩
 have HB4 := zH (hu.below HB3.out HB3.out.size (fun k hk => by subst hk; exact HPl.out.1))
 have HR4 := zH (HR3.out.but hu (fun e => HPl.out.2 e))
 have e1 : jR 0 0 r = r := by rw [jR, if_pos ⟨rfl, rfl⟩]
 rw [e1] at hA hA'
 have HA := zH hA
 have HA' := zH hA'
 clear hA hA' hu e1 HB3 HR3 HS3 HP3 HQ3 HT3
 rw [show jE 0 0 = 0 from rfl]
 have zr := HR4.out.cell
 have zf := HR4.out.free
 unfold prC at zr
 have y6 := (put6_blk (x := y) (f := g) (A := C) (n := m) (c := d) (x' := y') (f' := g') (A' := C') (n' := m') (c' := d') HR4.out).cell
 unfold prC at y6
 have HBr := zH (put6_below (x := y) (f := g) (A := C) (n := m) (c := d) (x' := y') (f' := g') (A' := C') (n' := m') (c' := d') HB4.out HRl.out)
 have HA3 := zH (RgS.off2 (a := zeroR) HR4.out (RgS.zero' _) (put6_but (w := w4) (B := R) (x := y) (f := g) (A := C) (n := m) (c := d) (x' := y') (f' := g') (A' := C') (n' := m') (c' := d')) HNr.out HA.out)
 have HA4 := zH (RgS.off2 (a := zeroR) HR4.out (RgS.zero' _) (put6_but (w := w4) (B := R) (x := y) (f := g) (A := C) (n := m) (c := d) (x' := y') (f' := g') (A' := C') (n' := m') (c' := d')) HNr.out HA'.out)
 unfold put6 at y6 HBr HA3 HA4
 unfold prC
 go_wp2
 exact bodyPost_ret (v := .tuple #[.agg #[.int .i64 y, .bool g, .slice C m d, .int .i64 y', .bool g', .slice C' m' d'], .int .i64 0]) (by simp [results, Tryz.results79, go_sem, y6]) rfl ⟨y, g, C, m, d, y', g', C', m', d', rfl, HA3.out, HA4.out, HBr.out⟩
def setK (N : Nat) (cs : List Int) (s : List Iv) (k : Nat) : List (List Iv) := (cs.take k).foldl (fun acc c => acc.set c.toNat s) (List.replicate N allL)
theorem setK_succ {N : Nat} {cs : List Int} {s : List Iv} {k : Nat} {c : Int} (h : cs[k]? = some c) : setK N cs s (k + 1) = (setK N cs s k).set c.toNat s := by
 unfold setK
 rw [List.take_add_one, h, List.foldl_append]
 rfl
theorem foldl_set (s : List Iv) : ∀ (cs : List Int) (a : List (List Iv)), (∀ c ∈ cs, 0 ≤ c ∧ c < (a.length : Int)) → ∀ q, q < a.length → (cs.foldl (fun acc c => acc.set c.toNat s) a)[q]? = if (q : Int) ∈ cs then some s else a[q]?
 | [], a, _, q, hq => by simp
 | c :: cs, a, h, q, hq => by
   have hc := h c List.mem_cons_self
   rw [List.foldl_cons, foldl_set s cs (a.set c.toNat s) (fun x hx => by rw [List.length_set]; exact h x (List.mem_cons_of_mem _ hx)) q (by rw [List.length_set]; exact hq)]
   by_cases h1 : (q : Int) ∈ cs
   · rw [if_pos h1, if_pos (List.mem_cons_of_mem _ h1)]
   · rw [if_neg h1]
     by_cases h2 : (q : Int) = c
     · rw [if_pos (by rw [h2]; exact List.mem_cons_self)]
       subst h2
       rw [Int.toNat_natCast, List.getElem?_set_self hq]
     · rw [if_neg (by
        intro h3
        rcases List.mem_cons.1 h3 with h4 | h4
        · exact h2 h4
        · exact h1 h4), List.getElem?_set_ne (by omega)]
theorem foldl_len (s : List Iv) : ∀ (cs : List Int) (a : List (List Iv)), (cs.foldl (fun acc c => acc.set c.toNat s) a).length = a.length
 | [], a => rfl
 | c :: cs, a => by rw [List.foldl_cons, foldl_len s cs]; simp
theorem setK_bx2 {N : Nat} {cs : List Int} {s : List Iv} {i j : Int} (h : ∀ c ∈ cs, 0 ≤ c ∧ c < (N : Int)) (hij : ∀ q : Int, q ∈ cs ↔ q = i ∨ q = j) {k : Nat} (hk : cs.length ≤ k) : setK N cs s k = bx2L N i j s := by
 unfold setK
 rw [List.take_of_length_le hk]
 apply List.ext_getElem?
 intro q
 rcases Nat.lt_or_ge q N with hq | hq
 · rw [foldl_set s cs _ (by simpa using h) q (by simpa using hq)]
   simp only [bx2L, List.getElem?_map, List.getElem?_range hq, Option.map_some, List.getElem?_replicate, hq, if_true]
   by_cases h1 : (q : Int) ∈ cs
   · rw [if_pos h1, if_pos ((hij _).1 h1)]
   · rw [if_neg h1, if_neg (fun h2 => h1 ((hij _).2 h2))]
 · rw [List.getElem?_eq_none (by rw [foldl_len]; simpa using hq), List.getElem?_eq_none (by simpa [bx2L] using hq)]
theorem box_ok0 {N : Nat} (hN : N ≤ 12) {i j : Int} {s : List Iv} (hs : validL s = true) : boxErr (bx2L N i j s) = 0 ∧ boxRes (bx2L N i j s) = bx2 N i j s := by
 have h1 : boxErr (bx2L N i j s) = 0 := by
  unfold boxErr
  rw [bx2_len, if_neg (by omega), if_pos ?_]
  rw [List.all_eq_true]
  exact bx2_valid hs
 refine ⟨h1, ?_⟩
 unfold boxRes
 rw [if_pos h1]
 rfl
set_option maxHeartbeats 4000000 in
theorem bbox_any (N : Nat) (A : Option Addr) (n c : Nat) (s : List Iv) (Ac : Option Addr) (m cc : Nat) (cs : List Int) (i0 j0 : Int) (w : World) (hs : IvS w A n s) (hok : okS A n c) (hn : n ≤ 1000000) (hv : validL s = true) (hc : ClS w Ac m cs) (hcs : ∀ x ∈ cs, 0 ≤ x ∧ x < (N : Int)) (hij : ∀ q : Int, q ∈ cs ↔ q = i0 ∨ q = j0) (hm : m ≤ 12) (hN : N ≤ 12) :
 Calls Tryz.prog 136 #[.int .i64 (N : Int), .slice A n c, .slice Ac m cc] w fun e w' => RgRes w (bx2 N i0 j0 s) 0 e w' := by
 obtain ⟨il, hil, hl0, hl1, hl2⟩ := info_parts info_lst
 have HS : Hid (∀ p ∈ [(((A, n, c) : Option Addr × Nat × Nat), s)], okS p.1.1 p.1.2.1 p.1.2.2 ∧ p.1.2.1 ≤ 1000000 ∧ IvS (w.alloc (.cells #[.int .i64 0, .bool false, .slice none 0 0] 71)) p.1.1 p.1.2.1 p.2) := zH (fun p hp => by
  rw [List.mem_singleton.1 hp]
  exact ⟨hok, hn, hs.keep (keeps_alloc _ _)⟩)
 have HC := zH (hc.keep (keeps_alloc w (.cells #[.int .i64 0, .bool false, .slice none 0 0] 71)))
 have HCS := zH hcs
 have Hlc := zH hc.len
 have HE : Hid (setK N cs s m = bx2L N i0 j0 s) := zH (setK_bx2 hcs hij (by rw [hc.len]; exact Nat.le_refl _))
 have HO := zH (box_ok0 (i := i0) (j := j0) hN hv)
 have E0 := zH (Blk.new w 71 #[.int .i64 0, .bool false, .slice none 0 0])
 have HB0 := zH ((Below.refl w.heap.size w).alloc (Nat.le_refl _) (.cells #[.int .i64 0, .bool false, .slice none 0 0] 71))
 clear hs hok hc hcs hij
 go_enter Tryz.func136, Tryz.ntmps136
 go_upto_region 1 with fail
 obtain ⟨R, HRe⟩ : ∃ z, Hid (w.heap.size = z) := ⟨_, rfl⟩
 have HRl : Hid (w.heap.size ≤ R) := zH (by rw [HRe.out]; exact Nat.le_refl _)
 rw [HRe.out] at E0
 rw [HRe.out]
 generalize hW : w.alloc (.cells #[.int .i64 0, .bool false, .slice none 0 0] 71) = w0 at *
 clear hW HRe
 have hRlt : Hid (R < w0.heap.size) := zH E0.out.lt
 go_wp2_with (at_make; refine wpList_make_full _ rfl _ _ 176 rfl w0.heap.size 139 il (.slice none 0 0) 1 Tryz.underlying176 hil hl0 hl1 .i64 .i64 _ _ N rfl rfl rfl rfl (by rw [hl2]; omega) (by unfold maxLen; omega) (by omega) ?_; intro w1 hown1 hgrow1; have hb01 : Below w0.heap.size w0 w1 := fresh_none hgrow1; have HB1 := zH hb01; have HOW1 := zH hown1; rw [mk_slices] at HOW1; clear hown1 hgrow1 hb01)
 go_loopw [16] (fun i wr => ∃ (k : Nat) (qs : List SetP), k ≤ N ∧ i = .int .i64 (k : Int) ∧ Hid (wr.ownsRow w0.heap.size 139 1 (.slice (some ⟨w0.heap.size, 0, none⟩) N N) N (qs.flatMap setc ++ List.replicate (N - k) (Value.slice none 0 0))) ∧ Hid (qs.length = k ∧ ∀ p ∈ qs, AllP wr p) ∧ Hid (Below w0.heap.size w0 wr)) (fun i _ => N - (intOf i).toNat)
 case atStart => exact ⟨0, [], by omega, rfl, zH (by simpa using HOW1.out), zH ⟨rfl, by simp⟩, HB1⟩
 case round =>
  clear HOW1 HB1
  obtain ⟨k, qs, hk, rfl, HOW, HQ, HB⟩ := hrel
  by_cases hlt : k < N
  · go_wp2_with fail
    refine (gall2_any _).mono ?_
    rintro e w2 ⟨g, rfl, hS, hb2⟩
    have HOW2 := zH (own_at HOW.out (fun q _ hl _ => hb2.block q hl))
    have HB2 := zH (Below.next HB.out hb2)
    have HP2 : Hid (∀ p ∈ qs ++ [((some ⟨g, 0, none⟩, 1, 1), allL)], AllP w2 p) := zH fun p hp => by
     rcases List.mem_append.1 hp with hp | hp
     · exact (HQ.out.2 p hp).below hb2
     · exact ⟨g, List.mem_singleton.1 hp, hS⟩
    have hfl : (qs.flatMap setc).length = k := by rw [flat_len setc_len, HQ.out.1, Nat.mul_one]
    have hcc := HOW2.out.cells (g := w0.heap.size) rfl k (.slice none 0 0) (by rw [List.getElem?_append_right (by omega), hfl, Nat.sub_self, show N - k = (N - k - 1) + 1 by omega, List.replicate_succ]; rfl)
    rw [add_at, Nat.zero_add] at hcc
    have hfz := fun z => HOW2.out.frozenAt z
    have HFL := zH hfl
    clear hS hb2 HOW HB hfl
    go_wp2
    go_roundw
    case rel =>
     have hbz : But (fun q => (Value.slice (some ⟨w0.heap.size, 0, none⟩) N N).ownBlock = some q) w2 (w2.setCell ⟨w0.heap.size, k, none⟩ (.slice (some ⟨g, 0, none⟩) 1 1)) := But.set (S := fun q => (Value.slice (some ⟨w0.heap.size, 0, none⟩) N N).ownBlock = some q) _ (p := ⟨w0.heap.size, k, none⟩) rfl _
     refine ⟨k + 1, qs ++ [((some ⟨g, 0, none⟩, 1, 1), allL)], by omega, by go_num, zH ?_, zH ⟨by simp [HQ.out.1], fun p hp => (HP2.out p hp).but hbz (fun q hq cs => own_notI HOW2.out hq cs)⟩, zH (HB2.out.setCell (p := ⟨w0.heap.size, k, none⟩) (Nat.le_refl _) _)⟩
     have h1 := (HOW2.out.stored k (.slice (some ⟨g, 0, none⟩) 1 1)).1
     rw [set_rep HFL.out hlt] at h1
     rw [List.flatMap_append]
     exact h1
    case measure => simp [intOf]; omega
  · obtain rfl : k = N := by omega
    have HL : Hid (LfS wr w0.heap.size (some ⟨w0.heap.size, 0, none⟩) k k [((A, n, c), s)] qs ∧ qs.map (·.2) = setK k cs s 0) := by
     refine zH ⟨⟨?_, HQ.out.1, fun q hq => .inr (HQ.out.2 q hq)⟩, ?_⟩
     · have h1 := HOW.out
       rwa [Nat.sub_self, List.replicate_zero, List.append_nil] at h1
     · show _ = List.replicate k allL
       rw [List.eq_replicate_iff]
       refine ⟨by simp [HQ.out.1], fun l hl => ?_⟩
       obtain ⟨p, h, rfl⟩ := List.mem_map.1 hl
       obtain ⟨g, rfl, _⟩ := HQ.out.2 p h
       rfl
    clear HOW HQ hlt hk
    go_wp2_with fail
    go_loopw [26] (fun i wx => ∃ (j : Nat) (qs : List SetP), j ≤ m ∧ i = .int .i64 (j : Int) ∧ Hid (LfS wx w0.heap.size (some ⟨w0.heap.size, 0, none⟩) k k [((A, n, c), s)] qs ∧ qs.map (·.2) = setK k cs s j) ∧ Hid (Below w0.heap.size w0 wx)) (fun i _ => m - (intOf i).toNat)
    case atStart => exact ⟨0, qs, by omega, rfl, HL, HB⟩
    case round =>
     clear HL HB
     obtain ⟨j, qs, hj, rfl, HL, HB⟩ := hrel
     by_cases hjm : j < m
     · obtain ⟨bc, oc, x, rfl, hx, hxc⟩ := (HC.out.keep (keeps_of HB.out)).at hjm
       have d0 := hxc 0 _ rfl
       simp only [Nat.mul_one, Nat.add_zero] at d0
       have hxr := HCS.out x (List.mem_of_getElem? hx)
       have Hx := zH hx
       clear hx hxc
       obtain ⟨z, rfl⟩ := Int.eq_ofNat_of_zero_le hxr.1
       have hz : z < k := by omega
       clear hxr
       obtain ⟨u, hu⟩ : ∃ u, (qs.flatMap setc)[z]? = some u := ⟨_, List.getElem?_eq_getElem (by rw [flat_len setc_len, HL.out.1.len]; omega)⟩
       have hcc := HL.out.1.own.cells (g := w0.heap.size) rfl z u hu
       rw [add_at, Nat.zero_add] at hcc
       have hfz := fun z => HL.out.1.own.frozenAt z
       clear hu
       go_wp2
       go_roundw
       case rel =>
        refine ⟨j + 1, qs.set z ((A, n, c), s), by omega, by go_num, zH ⟨HL.out.1.put (p := ((A, n, c), s)) (List.mem_singleton.2 rfl) z, ?_⟩, zH (HB.out.setCell (p := ⟨w0.heap.size, z, none⟩) (Nat.le_refl _) _)⟩
        rw [setAt, HL.out.2, setK_succ Hx.out, Int.toNat_natCast]
       case measure => simp [intOf]; omega
     · obtain rfl : m = j := by omega
       have HSS : Hid (SetsS wr (some ⟨w0.heap.size, 0, none⟩) k qs ∧ qs.map (·.2) = bx2L k i0 j0 s) := zH ⟨⟨Sl.of_own setc_len HL.out.1.len HL.out.1.own, fun q hq => by
        rcases HL.out.1.el q hq with h1 | ⟨g, rfl, h1⟩
        · have h2 := HS.out q h1
          exact ⟨h2.1, h2.2.1, h2.2.2.keep (keeps_of HB.out)⟩
        · exact ⟨⟨Nat.le_refl _, fun h => by cases h⟩, by show 1 ≤ 1000000; omega, all_iv h1⟩⟩, by rw [HL.out.2]; exact HE.out⟩
       have E1 := zH (E0.out.below HB.out)
       have HB1 := zH (Below.next HB0.out HB.out)
       clear HL HB E0 HB0 HE HCS HC HS
       go_wp2_with fail
       refine (Box_any _ _ _ qs _ HSS.out.1).mono ?_
       rintro e w5 ⟨x, f, A5, n5, c5, rfl, hR, hb5⟩
       rw [HSS.out.2, HO.out.2] at hR
       rw [HSS.out.2, HO.out.1]
       have E5 := zH (E1.out.below hb5)
       have HB5 := zH (Below.next HB1.out hb5)
       have HR5 := zH hR
       clear hb5 hR E1 HB1
       have hc1 := E5.out.cell
       obtain ⟨ff1, ff2, ff3⟩ := put3R_free E5.out (.int .i64 x) (.bool f)
       have F1 : Hid (Blk _ _ _ #[.int .i64 x, .bool false, .slice none 0 0]) := zH (E5.out.set_ 0 (.int .i64 x))
       have F2 : Hid (Blk _ _ _ #[.int .i64 x, .bool f, .slice none 0 0]) := zH (F1.out.set_ 1 (.bool f))
       have F3 : Hid (Blk _ _ _ #[.int .i64 x, .bool f, .slice A5 n5 c5]) := zH (F2.out.set_ 2 (.slice A5 n5 c5))
       have y1 := F1.out.cell
       have y2 := F2.out.cell
       have y3 := F3.out.cell
       have HBr := zH (put3R_below HB5.out HRl.out (.int .i64 x) (.bool f) (.slice A5 n5 c5))
       have HRr := zH (RgS.off E5.out (put3R_but w5 R (.int .i64 x) (.bool f) (.slice A5 n5 c5)) HR5.out)
       go_wp2
       refine bodyPost_ret (v := .tuple #[.agg #[.int .i64 x, .bool f, .slice A5 n5 c5], .int .i64 0]) (by simp [results, Tryz.results136, go_sem, y3]) rfl ⟨x, f, A5, n5, c5, rfl, HRr.out, HBr.out⟩
end Go.Proofs.YtnnmlhmffnfjfaaGreat
