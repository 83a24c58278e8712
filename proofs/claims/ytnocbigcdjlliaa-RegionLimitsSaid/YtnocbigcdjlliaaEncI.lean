/-
  Plain: the bytes of a canonical region tell it from every other canonical region of its width. No program here.
-/
import Derived.Test.YtnocbigcdjlliaaEnc
namespace Go.Proofs.Ytnocbigcdjlliaa
open Go.RowKit
open Rg

/-- a number of 64 bits -/
def rgV (v : Vl) : Prop := -9223372036854775808 ≤ v.i ∧ v.i < 9223372036854775808
def WfR : Rg → Prop
  | .nil _ _ => True
  | .cons vs rest tail => (∀ x ∈ vs, rgV x.f ∧ rgV x.t) ∧ WfR rest ∧ WfR tail
theorem WfR.mem {p : List Iv × Rg} : ∀ {r : Rg}, WfR r → p ∈ r.parts → (∀ x ∈ p.1, rgV x.f ∧ rgV x.t) ∧ WfR p.2
  | .nil _ _, _, h => by cases h
  | .cons vs rest tail, ho, h => by
    rcases List.mem_cons.1 h with rfl | h
    · exact ⟨ho.1, ho.2.1⟩
    · exact WfR.mem ho.2.2 h
theorem WfR.of {w : Int} {f : Bool} : ∀ {L : List (List Iv × Rg)}, (∀ p ∈ L, (∀ x ∈ p.1, rgV x.f ∧ rgV x.t) ∧ WfR p.2) → WfR (mkR w f L)
  | [], _ => trivial
  | p :: L, h => ⟨(h p List.mem_cons_self).1, (h p List.mem_cons_self).2, WfR.of fun q hq => h q (List.mem_cons_of_mem _ hq)⟩
theorem EncOk.of {w : Int} {f : Bool} : ∀ {L : List (List Iv × Rg)}, (∀ p ∈ L, p.1.length ≤ 64 ∧ (∀ x ∈ p.1, okV x.f ∧ okV x.t) ∧ EncOk p.2) → EncOk (mkR w f L)
  | [], _ => trivial
  | p :: L, h => ⟨(h p List.mem_cons_self).1, (h p List.mem_cons_self).2.1, (h p List.mem_cons_self).2.2, EncOk.of fun q hq => h q (List.mem_cons_of_mem _ hq)⟩
theorem valid_ok {v : Vl} (h : validV v = true) : okV v := by
  unfold validV at h
  have emp : v.t.toList.isEmpty = true → v.t.size = 0 := fun h => by
    rw [List.isEmpty_iff, ByteArray.toList_eq] at h
    have := congrArg List.length h
    simpa using this
  unfold okV
  split at h
  · rename_i hk
    simp only [Bool.and_eq_true] at h
    have := emp h.2
    omega
  · split at h
    · simp only [Bool.and_eq_true] at h
      have := emp h.2
      omega
    · split at h
      · have := emp h
        omega
      · split at h
        · simp only [Bool.and_eq_true, decide_eq_true_eq] at h
          omega
        · cases h
theorem zero_ok : okV zeroV := ⟨⟨by decide, by decide⟩, by decide⟩
/-- an interval of a canonical list is closed with a valid end, or open with none -/
def goodI (x : Iv) : Prop := validV x.f = true ∧ ((x.o = true ∧ x.t = zeroV) ∨ (x.o = false ∧ validV x.t = true))
theorem ord_good : ∀ (l : List Iv) (p : Option Iv), ordFrom p l = true → ∀ x ∈ l, goodI x
  | [], _, _, x, h => by cases h
  | y :: l, p, h, x, hx => by
    rw [ordFrom_cons, Bool.and_eq_true] at h
    rcases List.mem_cons.1 hx with rfl | hx
    · have h1 := h.1
      unfold okI at h1
      simp only [Bool.and_eq_true] at h1
      refine ⟨h1.1.1, ?_⟩
      have h2 := h1.2
      split at h2
      · rename_i ho
        simp only [Bool.and_eq_true, decide_eq_true_eq] at h2
        exact .inl ⟨ho, h2.2⟩
      · rename_i ho
        simp only [Bool.and_eq_true, decide_eq_true_eq] at h2
        exact .inr ⟨by simpa using ho, h2.1⟩
    · exact ord_good l _ h.2 x hx
theorem good_okV {x : Iv} (h : goodI x) : okV x.f ∧ okV x.t := by
  refine ⟨valid_ok h.1, ?_⟩
  rcases h.2 with ⟨_, e⟩ | ⟨_, e⟩
  · rw [e]; exact zero_ok
  · exact valid_ok e
theorem good_eq {x y : Iv} (hx : goodI x) (hy : goodI y) (h1 : x.f = y.f) (h2 : x.t = y.t) : x = y := by
  obtain ⟨xf, xt, xo⟩ := x
  obtain ⟨yf, yt, yo⟩ := y
  simp only at h1 h2
  subst h1 h2
  have hz : validV zeroV = false := by decide
  rcases hx.2 with ⟨a1, a2⟩ | ⟨a1, a2⟩ <;> rcases hy.2 with ⟨b1, b2⟩ | ⟨b1, b2⟩ <;> simp only at a1 a2 b1 b2
  · rw [a1, b1]
  · rw [a2, hz] at b2; cases b2
  · rw [b2, hz] at a2; cases a2
  · rw [a1, b1]
theorem form_enc : ∀ (n : Nat) (r : Rg), Form n r → r.fits = true → EncOk r
  | 0, r, h, _ => by
    cases r with
    | nil => trivial
    | cons vs rest tail => have := h.2; simp [parts] at this
  | n + 1, r, h, hf => by
    rw [← mk_parts r]
    refine EncOk.of fun p hp => ?_
    obtain ⟨_, h2, h3, _⟩ := h.2.2.1 p hp
    have h4 := fits_mem hf hp
    exact ⟨h4.1, fun x hx => good_okV (ord_good _ _ h2 x hx), form_enc n _ h3 h4.2⟩
theorem num_inj {i j : Int} (hi : -9223372036854775808 ≤ i ∧ i < 9223372036854775808) (hj : -9223372036854775808 ≤ j ∧ j < 9223372036854775808) (h : numBs i 8 = numBs j 8) : i = j := by
  simp only [numBs, List.nil_append, List.cons_append, List.cons.injEq, and_true, numB] at h
  have e : ∀ x : Int, IntKind.u64.wrap x = x % 18446744073709551616 := fun x => by simp [IntKind.wrap, IntKind.bits, IntKind.signed]
  rw [e, e] at h
  omega
theorem tx_inj {a b : ByteArray} (h : txB a = txB b) : a = b := by
  rw [text_eq]
  unfold txB at h
  refine List.map_inj_right (f := fun b : UInt8 => (b.toNat : Int)) ?_ |>.1 h
  intro x y hxy
  have : x.toNat = y.toNat := Int.ofNat.inj hxy
  exact UInt8.toNat_inj.1 this
theorem encV_inj {v u : Vl} (hv : rgV v) (hu : rgV u) {s t : List Int} (h : encV v ++ s = encV u ++ t) : v = u ∧ s = t := by
  obtain ⟨vk, vi, vt⟩ := v
  obtain ⟨uk, ui, ut⟩ := u
  simp only [encV, List.append_assoc, List.cons_append, List.nil_append, List.cons.injEq] at h
  obtain ⟨h1, h2⟩ := h
  obtain ⟨h3, h4⟩ := List.append_inj h2 (by rw [numBs_len, numBs_len])
  simp only [List.cons.injEq] at h4
  obtain ⟨h5, h6⟩ := h4
  have hl : ∀ t : ByteArray, (txB t).length = t.size := fun t => by simp [txB, ByteArray.toList_eq]
  obtain ⟨h7, h8⟩ := List.append_inj h6 (by rw [hl, hl]; omega)
  have h9 := num_inj hv hu h3
  have h10 := tx_inj h7
  subst h1 h9 h10
  exact ⟨rfl, h8⟩
theorem encI_inj {x y : Iv} (hx : goodI x) (hy : goodI y) (rx : rgV x.f ∧ rgV x.t) (ry : rgV y.f ∧ rgV y.t) {s t : List Int} (h : encI x ++ s = encI y ++ t) : x = y ∧ s = t := by
  simp only [encI, List.append_assoc] at h
  obtain ⟨h1, h2⟩ := encV_inj rx.1 ry.1 h
  obtain ⟨h3, h4⟩ := encV_inj rx.2 ry.2 h2
  exact ⟨good_eq hx hy h1 h3, h4⟩
theorem encIs_inj : ∀ (l m : List Iv), l.length = m.length → (∀ x ∈ l, goodI x ∧ rgV x.f ∧ rgV x.t) → (∀ x ∈ m, goodI x ∧ rgV x.f ∧ rgV x.t) → ∀ s t, l.flatMap encI ++ s = m.flatMap encI ++ t → l = m ∧ s = t
  | [], [], _, _, _, s, t, h => ⟨rfl, by simpa using h⟩
  | [], _ :: _, h, _, _, _, _, _ => by simp at h
  | _ :: _, [], h, _, _, _, _, _ => by simp at h
  | x :: l, y :: m, hl, hx, hy, s, t, h => by
    simp only [List.flatMap_cons, List.append_assoc] at h
    obtain ⟨h1, h2⟩ := encI_inj (hx x List.mem_cons_self).1 (hy y List.mem_cons_self).1 (hx x List.mem_cons_self).2 (hy y List.mem_cons_self).2 h
    obtain ⟨h3, h4⟩ := encIs_inj l m (by simpa using hl) (fun z hz => hx z (List.mem_cons_of_mem _ hz)) (fun z hz => hy z (List.mem_cons_of_mem _ hz)) s t h2
    exact ⟨by rw [h1, h3], h4⟩
def encG (n : Nat) (p : List Iv × Rg) : Prop := (∀ x ∈ p.1, goodI x ∧ rgV x.f ∧ rgV x.t) ∧ Form n p.2 ∧ WfR p.2
theorem encPs_inj (n : Nat) (ih : ∀ a b : Rg, Form n a → Form n b → WfR a → WfR b → ∀ s t, encR a ++ s = encR b ++ t → a = b ∧ s = t) :
    ∀ (l m : List (List Iv × Rg)), l.length = m.length → (∀ p ∈ l, encG n p) → (∀ p ∈ m, encG n p) → ∀ s t, l.flatMap encP ++ s = m.flatMap encP ++ t → l = m ∧ s = t
  | [], [], _, _, _, s, t, h => ⟨rfl, by simpa using h⟩
  | [], _ :: _, h, _, _, _, _, _ => by simp at h
  | _ :: _, [], h, _, _, _, _, _ => by simp at h
  | p :: l, q :: m, hl, hx, hy, s, t, h => by
    simp only [List.flatMap_cons, encP, List.append_assoc, List.cons_append, List.nil_append, List.cons.injEq] at h
    obtain ⟨h1, h2⟩ := h
    have a := hx p List.mem_cons_self
    have b := hy q List.mem_cons_self
    obtain ⟨h3, h4⟩ := encIs_inj p.1 q.1 (by omega) a.1 b.1 _ _ h2
    obtain ⟨h5, h6⟩ := ih p.2 q.2 a.2.1 b.2.1 a.2.2 b.2.2 _ _ h4
    obtain ⟨h7, h8⟩ := encPs_inj n ih l m (by simpa using hl) (fun z hz => hx z (List.mem_cons_of_mem _ hz)) (fun z hz => hy z (List.mem_cons_of_mem _ hz)) s t h6
    exact ⟨by rw [h7, Prod.ext h3 h5], h8⟩
theorem fbit_inj {a b : Bool} (h : fbit a = fbit b) : a = b := by cases a <;> cases b <;> first | rfl | (simp [fbit] at h)
theorem encR_inj' : ∀ (n : Nat) (a b : Rg), Form n a → Form n b → WfR a → WfR b → ∀ s t, encR a ++ s = encR b ++ t → a = b ∧ s = t
  | 0, a, b, ha, hb, _, _, s, t, h => by
    simp only [encR, encB_parts, ha.2, hb.2, List.flatMap_nil, List.append_nil, List.cons_append, List.nil_append, List.cons.injEq] at h
    exact ⟨Rg.ext (ha.1.trans hb.1.symm) (fbit_inj h.1) (ha.2.trans hb.2.symm), h.2.2⟩
  | n + 1, a, b, ha, hb, wa, wb, s, t, h => by
    simp only [encR, encB_parts, List.cons_append, List.nil_append, List.cons.injEq] at h
    obtain ⟨h1, h2, h3⟩ := h
    have g : ∀ r : Rg, Form (n + 1) r → WfR r → ∀ p ∈ r.parts, encG n p := fun r hr wr p hp => by
      have k1 := hr.2.2.1 p hp
      have k2 := wr.mem hp
      exact ⟨fun x hx => ⟨ord_good _ _ k1.2.1 x hx, k2.1 x hx⟩, k1.2.2.1, k2.2⟩
    obtain ⟨h4, h5⟩ := encPs_inj n (encR_inj' n) a.parts b.parts (by rw [len_parts, len_parts]; omega) (g a ha wa) (g b hb wb) s t h3
    exact ⟨Rg.ext (ha.1.trans hb.1.symm) (ha.2.1.trans hb.2.1.symm) h4, h5⟩
theorem encR_inj {n : Nat} {a b : Rg} (ha : Form n a) (hb : Form n b) (wa : WfR a) (wb : WfR b) (h : encR a = encR b) : a = b :=
  (encR_inj' n a b ha hb wa wb [] [] (by rw [h])).1
end Go.Proofs.Ytnocbigcdjlliaa
