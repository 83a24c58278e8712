/-
  Texts: GHas, FHas.
-/
import Derived.Deep.Cut
import Derived.Test.YtnocbigcdjlliaaGreatB46
set_option linter.unusedVariables false
/-
  The program's Has of a region and a row.
-/
namespace Go.Proofs.YtnocbigcdjlliaaGreat
open Go.RowKit
set_option maxRecDepth 100000
open Rg

/-- the first part whose values contain v -/
def fnd : List (List Iv × Rg) → Vl → Option Rg
  | [], _ => none
  | p :: ps, v => if hasL p.1 v then some p.2 else fnd ps v
def hasF : Rg → List Vl → Bool
  | r, [] => r.f
  | r, v :: l => match fnd r.parts v with
    | none => false
    | some q => hasF q l
noncomputable def hasR (r : Rg) (l : List Vl) : Bool := okB r && decide ((l.length : Int) = r.w) && hasF r l
theorem fnd_step {ps : List (List Iv × Rg)} {k : Nat} {p : List Iv × Rg} {v : Vl} {o : Option Rg} (hp : ps[k]? = some p) (h : fnd (ps.drop k) v = o) : (if hasL p.1 v then some p.2 else fnd (ps.drop (k + 1)) v) = o := by
  rw [drop_at hp] at h
  exact h
theorem hasF_step {r : Rg} {l : List Vl} {k : Nat} {v : Vl} {rr : Bool} (hv : l[k]? = some v) (h : hasF r (l.drop k) = rr) : (match fnd (r.parts.drop 0) v with | none => false | some q => hasF q (l.drop (k + 1))) = rr := by
  rw [drop_at hv] at h
  exact h
set_option maxHeartbeats 4000000 in
theorem ghas_any (r : Rg) (x : Int) (f : Bool) (A : Option Addr) (n c : Nat) (l : List Vl) (B : Option Addr) (m cb : Nat) (w : World) (hR : RgS w x f A n c r) (hV : VlS w B m l) :
    Calls Tryz.prog 47 #[.agg #[.int .i64 x, .bool f, .slice A n c], .slice B m cb] w fun e w' => e = .returned (.bool (hasR r l)) ∧ Below w.heap.size w w' := by
  obtain ⟨rr, Hrr⟩ : ∃ z, Hid (hasR r l = z) := ⟨_, rfl⟩
  rw [Hrr.out]
  have Hxw := Lib.hid hR.hw
  have Hlm := Lib.hid hV.1
  have HR := Lib.hid hR
  have HV := Lib.hid hV
  clear hR hV
  obtain ⟨v1, H1⟩ : ∃ z, Hid (okB r = z) := ⟨_, rfl⟩
  go_enter Tryz.func47, Tryz.ntmps47
  go_wp2_with fail
  refine (rvalidR_any r x f A n c _ (HR.out.keep (keeps_alloc _ _))).mono ?_
  rintro e w1 ⟨rfl, hb1⟩
  rw [H1.out]
  have HT := Lib.hid ((Blk.new w 28 #[.int .i64 x, .bool f, .slice A n c]).below hb1)
  have HB1 := Lib.hid (Below.next ((Below.refl _ _).alloc (Nat.le_refl _) _) hb1)
  clear hb1
  have z := HT.out.cell
  cases v1
  · obtain rfl : rr = false := by rw [← Hrr.out, hasR, H1.out]; rfl
    clear z
    go_wp2
    go_ret
    exact ⟨rfl, HB1.out⟩
  · by_cases hmx : (m : Int) = x
    · have hok1 := okB_true.1 H1.out
      have hm12 : (m : Int) ≤ 12 := by have := hok1.2.1; have := Hxw.out; omega
      have Hsz1 := Lib.hid hok1.2.2.1
      clear hok1
      have Hf : Hid (hasF r (l.drop 0) = rr) := Lib.hid (by rw [← Hrr.out, hasR, H1.out, decide_eq_true (by rw [Hxw.out, Hlm.out]; exact hmx)]; rfl)
      subst hmx
      have HR1 := Lib.hid (HR.out.keep (keeps_of HB1.out))
      clear Hxw Hrr H1 HR
      go_wp2_with fail
      go_loopw [22] (fun i wr => ∃ (k : Nat) (r' : Rg) (x' : Int) (f' : Bool) (A' : Option Addr) (n' c' : Nat), k ≤ m ∧ i = .int .i64 (k : Int) ∧ Hid (hasF r' (l.drop k) = rr) ∧ Hid (Blk wr w.heap.size 28 #[.int .i64 x', .bool f', .slice A' n' c']) ∧ Hid (RgS wr x' f' A' n' c' r') ∧ Hid (Below w.heap.size w wr) ∧ Hid (r'.size ≤ 64)) (fun i _ => m - (intOf i).toNat)
      case atStart => exact ⟨0, r, _, f, A, n, c, by omega, rfl, Hf, HT, HR1, HB1, Hsz1⟩
      case round =>
        obtain ⟨k, r', x', f', A', n', c', hk, rfl, Hq, HTr, HRr, HBr, Hsz⟩ := hrel
        clear z HT HR1 HB1 Hf Hsz1
        have hn64 : n' ≤ 64 := by have := HRr.out.len; have := len_le_size r'; have := Hsz.out; omega
        by_cases hlt : k < m
        · obtain ⟨b, o, ⟨vk, vi, vt⟩, rfl, hv, hc⟩ := (HV.out.keep (keeps_of HBr.out)).at hlt
          have c0 : wr.cell? ⟨b, o + k * 3, none⟩ = some (.int .i64 vk) := hc 0 (.int .i64 vk) rfl
          have c1 : wr.cell? ⟨b, o + k * 3 + 1, none⟩ = some (.int .i64 vi) := hc 1 (.int .i64 vi) rfl
          have c2 : wr.cell? ⟨b, o + k * 3 + 2, none⟩ = some (.string vt) := hc 2 (.string vt) rfl
          have Hst := Lib.hid (hasF_step hv Hq.out)
          clear hv hc Hq
          have HX := Lib.hid (Blk.new wr 67 #[.int .i64 vk, .int .i64 vi, .string vt])
          have HTx := Lib.hid (HTr.out.alloc (.cells #[.int .i64 vk, .int .i64 vi, .string vt] 67))
          have HRx := Lib.hid (HRr.out.keep (keeps_alloc wr (.cells #[.int .i64 vk, .int .i64 vi, .string vt] 67)))
          have HBx := Lib.hid (HBr.out.alloc HBr.out.size (.cells #[.int .i64 vk, .int .i64 vi, .string vt] 67))
          obtain ⟨X, HXe⟩ : ∃ z, Hid (wr.heap.size = z) := ⟨_, rfl⟩
          rw [HXe.out] at HX
          have Hne := Lib.hid (show w.heap.size ≠ X by have := HTr.out.lt; have := HXe.out; omega)
          go_upto_region 7 with fail
          rw [HXe.out]
          generalize hW2 : wr.alloc (.cells #[.int .i64 vk, .int .i64 vi, .string vt] 67) = w2 at *
          clear hW2 HTr HRr HBr c0 c1 c2
          have z := HTx.out.cell
          obtain ⟨fo, Hfo⟩ : ∃ z, Hid (fnd (r'.parts.drop 0) ⟨vk, vi, vt⟩ = z) := ⟨_, rfl⟩
          rw [Hfo.out] at Hst
          go_wp2_with fail
          go_loopw [29, 7] (fun j t wr => ∃ (q : Nat), q ≤ n' ∧ j = .int .i64 (q : Int) ∧ t = .int .i64 (-1) ∧ Hid (fnd (r'.parts.drop q) ⟨vk, vi, vt⟩ = fo) ∧ Hid (Below w2.heap.size w2 wr)) (fun j _ _ => n' - (intOf j).toNat)
          case atStart => exact ⟨0, by omega, rfl, rfl, Hfo, Lib.hid (Below.refl _ _)⟩
          case round =>
            obtain ⟨q, hq, rfl, rfl, Hfq, HBq⟩ := hrel
            clear z
            by_cases hqn : q < n'
            · obtain ⟨b2, o2, p, A1, n1, c1, px, pf, A2, n2, c2, rfl, hp, hpt⟩ := (HRx.out.keep (keeps_of HBq.out)).at hqn
              have Hs2 := Lib.hid (fnd_step hp Hfq.out)
              have Hps := Lib.hid (show p.2.size ≤ 64 by have := size_at hp; have := Hsz.out; omega)
              have HPT := Lib.hid hpt
              obtain ⟨d0, d1, d2, d3, hok, hvs, hrg⟩ := hpt
              clear hp hok hvs hrg Hfq
              have HX2 := Lib.hid ((HX.out.below HBq.out).alloc (.cells #[.slice A1 n1 c1, .int .i64 px, .bool pf, .slice A2 n2 c2] 85))
              have HT2 := Lib.hid ((HTx.out.below HBq.out).alloc (.cells #[.slice A1 n1 c1, .int .i64 px, .bool pf, .slice A2 n2 c2] 85))
              have HP2 := Lib.hid (HPT.out.keep (keeps_alloc wr (.cells #[.slice A1 n1 c1, .int .i64 px, .bool pf, .slice A2 n2 c2] 85)))
              have HB2 := Lib.hid (HBq.out.alloc HBq.out.size (.cells #[.slice A1 n1 c1, .int .i64 px, .bool pf, .slice A2 n2 c2] 85))
              have zx := HX2.out.cell
              go_wp2_with fail
              generalize hW3 : wr.alloc (.cells #[.slice A1 n1 c1, .int .i64 px, .bool pf, .slice A2 n2 c2] 85) = w3 at *
              clear hW3 d0 d1 d2 d3 zx HBq HPT
              refine (has_any A1 n1 c1 p.1 ⟨vk, vi, vt⟩ _ HP2.out.vs).mono ?_
              rintro e w4 ⟨rfl, hb4⟩
              obtain ⟨d, Hd⟩ : ∃ z, Hid (hasL p.1 ⟨vk, vi, vt⟩ = z) := ⟨_, rfl⟩
              rw [Hd.out] at Hs2 ⊢
              have HB4 := Lib.hid (Below.next HB2.out hb4)
              cases d
              · go_wp2
                go_roundw
                case rel => exact ⟨q + 1, by omega, by go_num, rfl, Lib.hid Hs2.out, HB4⟩
                case measure => simp [intOf]; omega
              · have hfo : some p.2 = fo := Hs2.out
                subst hfo
                have HT4 := Lib.hid (HT2.out.below hb4)
                obtain ⟨e0, e1, e2, e3, hok, hvs, hrg⟩ := HP2.out.keep (keeps_of hb4)
                have hpx : p.2.w = px := hrg.hw
                have HRp := Lib.hid (RgS.off HT4.out (put3R_but _ w.heap.size (.int .i64 px) (.bool pf) (.slice A2 n2 c2)) hrg)
                have HBp := Lib.hid (put3R_below (Below.next HBx.out HB4.out) (Nat.le_refl w.heap.size) (.int .i64 px) (.bool pf) (.slice A2 n2 c2))
                have HTp := Lib.hid (put3R_blk (a' := .int .i64 px) (b' := .bool pf) (c' := .slice A2 n2 c2) HT4.out)
                have zr := HT4.out.cell
                obtain ⟨ff1, ff2, ff3⟩ := put3R_free HT4.out (.int .i64 px) (.bool pf)
                have y1 := (HT4.out.set_ 0 (.int .i64 px)).cell
                have y2 := ((HT4.out.set_ 0 (.int .i64 px)).set_ 1 (.bool pf)).cell
                have g1 : decide ((q : Int) < 0) = false := by simp
                clear hok hvs hrg hb4 hpx
                go_wp2
                go_roundw
                case rel => exact ⟨k + 1, p.2, px, pf, A2, n2, c2, by omega, by go_num, Lib.hid Hst.out, HTp, HRp, HBp, Hps⟩
                case measure => simp [intOf]; omega
            · have hfo : none = fo := by
                rw [← Hfq.out, List.drop_eq_nil_of_le (by rw [len_parts]; have := HRx.out.len; omega)]
                rfl
              subst hfo
              obtain rfl : false = rr := Hst.out
              go_wp2
              go_ret
              exact ⟨rfl, Below.next HBx.out HBq.out⟩
        · have h1 := Hq.out
          rw [List.drop_eq_nil_of_le (by rw [Hlm.out]; omega)] at h1
          have h2 := HRr.out.hf
          have z := HTr.out.cell
          clear HV Hlm
          go_wp2
          go_ret
          exact ⟨ret_bool (by rw [← h1]; exact h2.symm), HBr.out⟩
    · obtain rfl : rr = false := by rw [← Hrr.out, hasR, H1.out, decide_eq_false (by rw [Hxw.out, Hlm.out]; exact hmx)]; rfl
      have g1 : ((m : Int) != x) = true := by simpa using hmx
      go_wp2
      go_ret
      exact ⟨rfl, HB1.out⟩
end Go.Proofs.YtnocbigcdjlliaaGreat

/-
  The reference's In and Has of regions: they say what the program's Has says.
-/
namespace Go.Proofs.YtnocbigcdjlliaaGreat
open Go.RowKit
set_option maxRecDepth 100000
open Rg

theorem fits_valid {d : Nat} {r : Rg} (h : FormF (d + 1) r) {p : List Iv × Rg} (hp : p ∈ r.parts) : validL p.1 = true ∧ p.1.length ≤ 64 ∧ FormF d p.2 := by
  obtain ⟨h1, h2⟩ := h
  obtain ⟨h3, h4, h5, _⟩ := h1.2.2.1 p hp
  have h6 := fits_mem h2 hp
  refine ⟨?_, h6.1, h5, h6.2⟩
  unfold validL
  simp [h4, h6.1]
theorem hasF_bad {v : Vl} : ∀ {l : List Vl} {r : Rg}, v ∈ l → validV v = false → hasF r l = false
  | u :: l, r, hm, hv => by
    unfold hasF
    cases hq : fnd r.parts u with
    | none => rfl
    | some q =>
      rcases List.mem_cons.1 hm with rfl | hm
      · exfalso
        have hn : ∀ ps : List (List Iv × Rg), fnd ps v = none := fun ps => by
          induction ps with
          | nil => rfl
          | cons p ps ih => simp [fnd, hasL, hv, ih]
        rw [hn] at hq
        cases hq
      · exact hasF_bad hm hv
set_option maxHeartbeats 2000000 in
theorem fin_any (d : Nat) : ∀ (r : Rg) (x : Int) (f : Bool) (A : Option Addr) (n c : Nat) (l : List Vl) (B : Option Addr) (m cb : Nat) (w : World), d ≤ 12 → FormF d r → r.size ≤ 64 → l.all validV = true → RgS w x f A n c r → VlS w B m l → m ≤ cb →
    Calls Tryz.prog 90 #[.agg #[.int .i64 x, .bool f, .slice A n c], .slice B m cb] w fun e w' => e = .returned (.bool (decide (l.length = d) && hasF r l)) ∧ Below w.heap.size w w' := by
  induction d with
  | zero =>
    intro r x f A n c l B m cb w hd hF hsz hl hR hV hmc
    obtain rfl : x = 0 := by rw [← hR.hw, hF.1.width]; rfl
    have HT := Lib.hid (Blk.new w 28 #[.int .i64 0, .bool f, .slice A n c])
    have HB := Lib.hid ((Below.refl w.heap.size w).alloc (Nat.le_refl _) (.cells #[.int .i64 0, .bool f, .slice A n c] 28))
    have hml := hV.1
    have hff := hR.hf
    clear hF hR hV hsz hl
    by_cases hm0 : m = 0
    · subst hm0
      obtain rfl : l = [] := List.eq_nil_of_length_eq_zero (by omega)
      have e : (decide (([] : List Vl).length = 0) && hasF r []) = f := by rw [← hff]; simp [hasF]
      rw [e]
      clear e hff hml
      go_enter Tryz.func90, Tryz.ntmps90
      go_wp2
      go_ret
      exact ⟨rfl, HB.out⟩
    · have e : (decide (l.length = 0) && hasF r l) = false := by rw [decide_eq_false (by omega)]; rfl
      rw [e]
      have h1 : ¬ (0 : Int) = (m : Int) := by omega
      clear e hff hml
      go_enter Tryz.func90, Tryz.ntmps90
      go_wp2
      go_ret
      exact ⟨rfl, HB.out⟩
  | succ d ih =>
    intro r x f A n c l B m cb w hd hF hsz hl hR hV hmc
    have hxd : x = ((d + 1 : Nat) : Int) := by rw [← hR.hw, hF.1.width]
    have HT := Lib.hid (Blk.new w 28 #[.int .i64 x, .bool f, .slice A n c])
    have HB := Lib.hid ((Below.refl w.heap.size w).alloc (Nat.le_refl _) (.cells #[.int .i64 x, .bool f, .slice A n c] 28))
    have HR := Lib.hid (hR.keep (keeps_of HB.out))
    have HV := Lib.hid (hV.keep (keeps_of HB.out))
    have hml := hV.1
    have hn64 : n ≤ 64 := by have := hR.len; have := len_le_size r; omega
    have HF := Lib.hid hF
    have Hsz := Lib.hid hsz
    have HL := Lib.hid hl
    have HI := Lib.hid ih
    clear hF hR hV hsz hl ih
    generalize hW0 : w.alloc (.cells #[.int .i64 x, .bool f, .slice A n c] 28) = W0 at *
    by_cases hmd : m = d + 1
    · obtain rfl : x = (m : Int) := by omega
      have hmp : 0 < m := by omega
      have gm : ((m : Int) == 0) = false := by simp; omega
      have Hmd := Lib.hid hmd
      clear hxd
      cases l with
      | nil => simp at hml; omega
      | cons v l' =>
        rw [hmd] at hml
        clear hmd
        obtain ⟨vk, vi, vt⟩ := v
        obtain ⟨rr, Hrr⟩ : ∃ z, Hid ((decide ((⟨vk, vi, vt⟩ :: l').length = d + 1) && hasF r (⟨vk, vi, vt⟩ :: l')) = z) := ⟨_, rfl⟩
        rw [Hrr.out]
        have Hl' : Hid (l'.length = d) := Lib.hid (by simpa using hml)
        have Hst : Hid ((match fnd (r.parts.drop 0) ⟨vk, vi, vt⟩ with | none => false | some q => hasF q l') = rr) := Lib.hid (by
          rw [← Hrr.out, decide_eq_true hml]
          rfl)
        obtain ⟨b, o, y, rfl, hy, hc⟩ := HV.out.at hmp
        obtain rfl : (⟨vk, vi, vt⟩ : Vl) = y := by injection hy
        have c0 : W0.cell? ⟨b, o, none⟩ = some (.int .i64 vk) := by simpa using hc 0 (.int .i64 vk) rfl
        have c1 : W0.cell? ⟨b, o + 1, none⟩ = some (.int .i64 vi) := by simpa using hc 1 (.int .i64 vi) rfl
        have c2 : W0.cell? ⟨b, o + 2, none⟩ = some (.string vt) := by simpa using hc 2 (.string vt) rfl
        have HC := Lib.hid (And.intro c0 (And.intro c1 c2))
        have zo := HT.out.cell
        clear hy hc Hrr hml c0 c1 c2
        go_enter Tryz.func90, Tryz.ntmps90
        go_upto_region 1 with fail
        try rw [hW0]
        clear hW0
        obtain ⟨fo, Hfo⟩ : ∃ z, Hid (fnd (r.parts.drop 0) ⟨vk, vi, vt⟩ = z) := ⟨_, rfl⟩
        rw [Hfo.out] at Hst
        go_wp2_with fail
        go_loopw [19] (fun i wr => ∃ k : Nat, k ≤ n ∧ i = .int .i64 (k : Int) ∧ Hid (fnd (r.parts.drop k) ⟨vk, vi, vt⟩ = fo) ∧ Hid (Below W0.heap.size W0 wr)) (fun i _ => n - (intOf i).toNat)
        case atStart => exact ⟨0, by omega, rfl, Hfo, Lib.hid (Below.refl _ _)⟩
        case round =>
          obtain ⟨k, hk, rfl, Hk, HBk⟩ := hrel
          clear zo Hfo
          have HTk := Lib.hid (HT.out.below HBk.out)
          by_cases hkn : k < n
          · obtain ⟨b2, o2, p, A1, n1, c1, px, pf, A2, n2, c2, rfl, hp, hpt⟩ := (HR.out.keep (keeps_of HBk.out)).at hkn
            have Hs2 := Lib.hid (fnd_step hp Hk.out)
            have Hfv := Lib.hid (fits_valid HF.out (List.mem_of_getElem? hp))
            have Hps := Lib.hid (show p.2.size ≤ 64 by have := size_at hp; have := Hsz.out; omega)
            have hn1 : n1 ≤ 1000000 := by have := hpt.vs.len; have := Hfv.out.2.1; omega
            have HPT := Lib.hid hpt
            obtain ⟨d0, d1, d2, d3, _, _, _⟩ := hpt
            have zo := HTk.out.cell
            clear hp Hk
            go_upto_region 8 with fail
            refine wp_region_planR [9] noW anyW noW_trans anyW_trans (.one [0, 1, 2, 3, 4, 5, 6, 7, 8] [] 9 (.last [] [])) (by kernel_rfl) (by kernel_rfl) (fun _ _ d _ _ h => by cases d <;> exact h) ?_
            have hbd : Below wr.heap.size wr wr.drew := (Below.refl _ _).drew
            have HT3 := Lib.hid (HTk.out.below hbd)
            have HP3 := Lib.hid (HPT.out.keep (keeps_of hbd))
            have HB3 := Lib.hid (Below.next HBk.out hbd)
            replace d0 := keep_cell (keeps_of hbd) d0
            have g0 := keep_cell (keeps_of HB3.out) HC.out.1
            have g1 := keep_cell (keeps_of HB3.out) HC.out.2.1
            have g2 := keep_cell (keeps_of HB3.out) HC.out.2.2
            generalize hW3 : wr.drew = w3 at *
            clear hW3 hbd d1 d2 d3 zo HTk HBk HPT
            have q0 : ∀ y : LaterR noW w3, (afterR noW w3 y).cell? ⟨b2, o2 + k * 4, none⟩ = some (.slice A1 n1 c1) := fun y => y.cell d0 (fun W h => h.elim)
            have q1 : ∀ y : LaterR noW w3, (afterR noW w3 y).cell? ⟨b, o, none⟩ = some (.int .i64 vk) := fun y => y.cell g0 (fun W h => h.elim)
            have q2 : ∀ y : LaterR noW w3, (afterR noW w3 y).cell? ⟨b, o + 1, none⟩ = some (.int .i64 vi) := fun y => y.cell g1 (fun W h => h.elim)
            have q3 : ∀ y : LaterR noW w3, (afterR noW w3 y).cell? ⟨b, o + 2, none⟩ = some (.string vt) := fun y => y.cell g2 (fun W h => h.elim)
            have qo : ∀ (y : LaterR noW w3) z, (afterR noW w3 y).cell? ⟨w.heap.size, z, none⟩ = (#[.int .i64 (m : Int), .bool f, .slice (some ⟨b2, o2, none⟩) n c] : Array Value)[z]? := fun y z => y.cell (HT3.out.cell z) (fun W h => h.elim)
            clear d0 g0 g1 g2
            unfold wpPlanR
            simp only [pickOps, opAt, List.map_cons, List.map_nil, List.getElem?_toArray, List.getElem?_cons_zero, List.getElem?_cons_succ, Option.getD_some]
            repeat (go_big_quiet_step (fail))
            refine wpQuiet_nil ?_
            refine wpQuiet_nil ?_
            clear q0 q1 q2 q3 qo
            go_wp2_with fail
            refine (rin_any A1 n1 c1 p.1 ⟨vk, vi, vt⟩ _ HP3.out.vs hn1).mono ?_
            rintro e w4 ⟨rfl, hb4⟩
            go_wp2_with fail
            refine ⟨⟨fun h => (h (by decide)).elim, trivial⟩, ?_⟩
            unfold wpPlanR
            simp only [pickOps, List.map_nil]
            refine wpQuiet_nil ?_
            refine wpQuiet_nil ?_
            have HT4 := Lib.hid (HT3.out.below hb4)
            have HP4 := Lib.hid (HP3.out.keep (keeps_of hb4))
            have HB4 := Lib.hid (Below.next HB3.out hb4)
            clear HT3 HP3 HB3 hb4
            have hv1 : validV ⟨vk, vi, vt⟩ = true := by have := HL.out; simp only [List.all_cons, Bool.and_eq_true] at this; exact this.1
            have Hl1 : Hid (l'.all validV = true) := Lib.hid (by have := HL.out; simp only [List.all_cons, Bool.and_eq_true] at this; exact this.2)
            obtain ⟨dd, Hdd⟩ : ∃ z, Hid (inL p.1 ⟨vk, vi, vt⟩ = z) := ⟨_, rfl⟩
            have Hs3 : Hid ((if dd = true then some p.2 else fnd (r.parts.drop (k + 1)) ⟨vk, vi, vt⟩) = fo) := Lib.hid (by
              have h := Hs2.out
              rw [hasL, hv1, Hfv.out.1, Hdd.out] at h
              exact h)
            rw [Hdd.out]
            clear hv1 Hs2 Hdd
            cases dd
            · go_wp2
              go_roundw
              case rel => exact ⟨k + 1, by omega, by go_num, Lib.hid Hs3.out, HB4⟩
              case measure => simp [intOf]; omega
            · have hfo : some p.2 = fo := Hs3.out
              subst hfo
              have Hrr : Hid (hasF p.2 l' = rr) := Lib.hid Hst.out
              have zo := HT4.out.cell
              go_upto_region 9 with fail
              refine wp_region_planR [8] noW anyW noW_trans anyW_trans (.one [0, 1, 2, 3, 4, 5, 6, 7] [] 8 (.last [9] [])) (by kernel_rfl) (by kernel_rfl) (fun _ _ d _ _ h => by cases d <;> exact h) ?_
              have hbd : Below w4.heap.size w4 w4.drew := (Below.refl _ _).drew
              have HT5 := Lib.hid (HT4.out.below hbd)
              have HB5 := Lib.hid (Below.next HB4.out hbd)
              have HP5 := HP4.out.keep (keeps_of hbd)
              generalize hW5 : w4.drew = w5 at *
              clear hW5 hbd zo HT4 HP4 HB4
              obtain ⟨d0, d1, d2, d3, _, _, hrg⟩ := HP5
              have HRG := Lib.hid hrg
              have HV5 : Hid (VlS w5 (some ⟨b, o + 3, none⟩) (m - 1) l') := Lib.hid (Sl.drop (HV.out.keep (keeps_of HB5.out)) 1 (by omega))
              clear hrg
              have q1 : ∀ y : LaterR noW w5, (afterR noW w5 y).cell? ⟨b2, o2 + k * 4 + 1, none⟩ = some (.int .i64 px) := fun y => y.cell d1 (fun W h => h.elim)
              have q2 : ∀ y : LaterR noW w5, (afterR noW w5 y).cell? ⟨b2, o2 + k * 4 + 2, none⟩ = some (.bool pf) := fun y => y.cell d2 (fun W h => h.elim)
              have q3 : ∀ y : LaterR noW w5, (afterR noW w5 y).cell? ⟨b2, o2 + k * 4 + 3, none⟩ = some (.slice A2 n2 c2) := fun y => y.cell d3 (fun W h => h.elim)
              have q4 : ∀ y : LaterR noW w5, (afterR noW w5 y).cell? ⟨b2, o2 + k * 4 + 1 + 1, none⟩ = some (.bool pf) := q2
              have q5 : ∀ y : LaterR noW w5, (afterR noW w5 y).cell? ⟨b2, o2 + k * 4 + 1 + 2, none⟩ = some (.slice A2 n2 c2) := q3
              have qo : ∀ (y : LaterR noW w5) z, (afterR noW w5 y).cell? ⟨w.heap.size, z, none⟩ = (#[.int .i64 (m : Int), .bool f, .slice (some ⟨b2, o2, none⟩) n c] : Array Value)[z]? := fun y z => y.cell (HT5.out.cell z) (fun W h => h.elim)
              clear d0 d1 d2 d3
              by_cases hcb : cb = 1
              · subst hcb
                have hm1 : m - 1 = 0 := by omega
                have hv0 : VlS w5 (some ⟨b, o, none⟩) 0 l' := ⟨by rw [HV5.out.1, hm1], fun hz => absurd hz (by omega)⟩
                have HV0 := Lib.hid hv0
                have w2 : d ≤ 12 := by omega
                have Hw2 := Lib.hid w2
                clear w2 hm1
                clear hv0
                unfold wpPlanR
                simp only [pickOps, opAt, List.map_cons, List.map_nil, List.getElem?_toArray, List.getElem?_cons_zero, List.getElem?_cons_succ, Option.getD_some]
                repeat (go_big_quiet_step (fail))
                refine wpQuiet_nil ?_
                refine wpQuiet_nil ?_
                clear q1 q2 q3 q4 q5 qo
                go_wp2_with fail
                refine (HI.out p.2 px pf A2 n2 c2 l' (some ⟨b, o, none⟩) 0 0 _ Hw2.out Hfv.out.2.2 Hps.out Hl1.out HRG.out HV0.out (Nat.le_refl _)).mono ?_
                rintro e w6 ⟨rfl, hb6⟩
                rw [decide_eq_true Hl'.out, Hrr.out, Bool.true_and]
                have HB6 := Lib.hid (Below.next HB.out (Below.next HB5.out hb6))
                clear hb6
                go_wp2_with fail
                refine ⟨⟨fun h => (h (by decide)).elim, trivial⟩, ?_⟩
                unfold wpPlanR
                simp only [pickOps, opAt, List.map_cons, List.map_nil, List.getElem?_toArray, List.getElem?_cons_zero, List.getElem?_cons_succ, Option.getD_some]
                repeat (go_big_quiet_step (fail))
                refine wpQuiet_nil ?_
                refine wpQuiet_nil ?_
                go_wp2
                go_ret
                exact ⟨rfl, HB6.out⟩
              · have w1 : m - 1 ≤ cb - 1 := by omega
                have w2 : d ≤ 12 := by omega
                have Hw1 := Lib.hid w1
                have Hw2 := Lib.hid w2
                clear w1 w2
                unfold wpPlanR
                simp only [pickOps, opAt, List.map_cons, List.map_nil, List.getElem?_toArray, List.getElem?_cons_zero, List.getElem?_cons_succ, Option.getD_some]
                repeat (go_big_quiet_step (fail))
                refine wpQuiet_nil ?_
                refine wpQuiet_nil ?_
                clear q1 q2 q3 q4 q5 qo
                go_wp2_with fail
                refine (HI.out p.2 px pf A2 n2 c2 l' (some ⟨b, o + 3, none⟩) (m - 1) (cb - 1) _ Hw2.out Hfv.out.2.2 Hps.out Hl1.out HRG.out HV5.out Hw1.out).mono ?_
                rintro e w6 ⟨rfl, hb6⟩
                rw [decide_eq_true Hl'.out, Hrr.out, Bool.true_and]
                have HB6 := Lib.hid (Below.next HB.out (Below.next HB5.out hb6))
                clear hb6
                go_wp2_with fail
                refine ⟨⟨fun h => (h (by decide)).elim, trivial⟩, ?_⟩
                unfold wpPlanR
                simp only [pickOps, opAt, List.map_cons, List.map_nil, List.getElem?_toArray, List.getElem?_cons_zero, List.getElem?_cons_succ, Option.getD_some]
                repeat (go_big_quiet_step (fail))
                refine wpQuiet_nil ?_
                refine wpQuiet_nil ?_
                go_wp2
                go_ret
                exact ⟨rfl, HB6.out⟩
          · obtain rfl : k = n := by omega
            have hfo : none = fo := by
              have h := Hk.out
              rw [List.drop_eq_nil_of_le (by rw [len_parts, HR.out.len]; exact Nat.le_refl _)] at h
              exact h
            subst hfo
            have hrf : rr = false := Hst.out.symm
            subst hrf
            have HB6 := Lib.hid (Below.next HB.out HBk.out)
            go_wp2
            go_ret
            exact ⟨rfl, HB6.out⟩
    · have e : (decide (l.length = d + 1) && hasF r l) = false := by rw [decide_eq_false (by omega)]; rfl
      rw [e]
      have h1 : ¬ x = (m : Int) := by omega
      have zo := HT.out.cell
      clear e hml hxd hmd
      go_enter Tryz.func90, Tryz.ntmps90
      go_upto_region 1 with fail
      try rw [hW0]
      clear hW0
      go_wp2
      go_ret
      exact ⟨rfl, HB.out⟩
set_option maxHeartbeats 4000000 in
theorem fhas_any (r : Rg) (x : Int) (f : Bool) (A : Option Addr) (n c : Nat) (l : List Vl) (B : Option Addr) (m cb : Nat) (w : World) (hR : RgS w x f A n c r) (hV : VlS w B m l) (hmc : m ≤ cb) (hmx : m ≤ 9223372036854775807) :
    Calls Tryz.prog 48 #[.agg #[.int .i64 x, .bool f, .slice A n c], .slice B m cb] w fun e w' => e = .returned (.bool (hasR r l)) ∧ Below w.heap.size w w' := by
  obtain ⟨rr, Hrr⟩ : ∃ z, Hid (hasR r l = z) := ⟨_, rfl⟩
  rw [Hrr.out]
  have HT := Lib.hid (Blk.new w 28 #[.int .i64 x, .bool f, .slice A n c])
  have HB := Lib.hid ((Below.refl w.heap.size w).alloc (Nat.le_refl _) (.cells #[.int .i64 x, .bool f, .slice A n c] 28))
  have HR := Lib.hid (hR.keep (keeps_of HB.out))
  have HV := Lib.hid (hV.keep (keeps_of HB.out))
  have hml := hV.1
  clear hR hV
  generalize hW0 : w.alloc (.cells #[.int .i64 x, .bool f, .slice A n c] 28) = W0 at *
  have zo := HT.out.cell
  go_enter Tryz.func48, Tryz.ntmps48
  go_upto_region 1 with fail
  try rw [hW0]
  clear hW0 zo
  go_wp2_with fail
  go_loopw [9] (fun i wr => ∃ k : Nat, k ≤ m ∧ i = .int .i64 (k : Int) ∧ Hid ((l.take k).all validV = true) ∧ Hid (Below W0.heap.size W0 wr)) (fun i _ => m - (intOf i).toNat)
  case atStart => exact ⟨0, by omega, rfl, Lib.hid (by simp), Lib.hid (Below.refl _ _)⟩
  case round =>
    obtain ⟨k, hk, rfl, Hk, HBk⟩ := hrel
    by_cases hkm : k < m
    · obtain ⟨b, o, ⟨vk, vi, vt⟩, rfl, hv, hc⟩ := (HV.out.keep (keeps_of HBk.out)).at hkm
      have c0 : wr.cell? ⟨b, o + k * 3, none⟩ = some (.int .i64 vk) := hc 0 (.int .i64 vk) rfl
      have c1 : wr.cell? ⟨b, o + k * 3 + 1, none⟩ = some (.int .i64 vi) := hc 1 (.int .i64 vi) rfl
      have c2 : wr.cell? ⟨b, o + k * 3 + 2, none⟩ = some (.string vt) := hc 2 (.string vt) rfl
      have Hvk := Lib.hid hv
      clear hv hc
      go_wp2_with fail
      refine (rvalid_any ⟨vk, vi, vt⟩ _).mono ?_
      rintro e w2 ⟨rfl, hb2⟩
      have HB2 := Lib.hid (Below.next (HBk.out.alloc HBk.out.size (.cells #[.int .i64 vk, .int .i64 vi, .string vt] 67)) hb2)
      obtain ⟨dd, Hdd⟩ : ∃ z, Hid (validV ⟨vk, vi, vt⟩ = z) := ⟨_, rfl⟩
      rw [Hdd.out]
      clear c0 c1 c2 hb2
      cases dd
      · have hrf : false = rr := by
          rw [← Hrr.out, hasR, hasF_bad (List.mem_of_getElem? Hvk.out) Hdd.out]
          simp
        subst hrf
        have HB6 := Lib.hid (Below.next HB.out HB2.out)
        go_wp2
        go_ret
        exact ⟨rfl, HB6.out⟩
      · have Hk2 : Hid ((l.take (k + 1)).all validV = true) := Lib.hid (by rw [List.take_add_one, Hvk.out]; simp [Hk.out, Hdd.out])
        go_wp2
        go_roundw
        case rel => exact ⟨k + 1, by omega, by go_num, Hk2, HB2⟩
        case measure => simp only [intOf]; omega
    · obtain rfl : k = m := by omega
      have Hall : Hid (l.all validV = true) := Lib.hid (by have h := Hk.out; rw [List.take_of_length_le (by omega)] at h; exact h)
      have HTk := Lib.hid (HT.out.below HBk.out)
      have zo := HTk.out.cell
      go_wp2_with fail
      refine (fvalid_any r x f A n c _ (HR.out.keep (keeps_of HBk.out))).mono ?_
      rintro e w2 ⟨rfl, hb2⟩
      obtain ⟨dd, Hdd⟩ : ∃ z, Hid (okB r = z) := ⟨_, rfl⟩
      rw [Hdd.out]
      have HB2 := Lib.hid (Below.next HBk.out hb2)
      have HT2 := Lib.hid (HTk.out.below hb2)
      clear zo HTk hb2
      cases dd
      · have hrf : false = rr := by
          rw [← Hrr.out, hasR, Hdd.out]
          rfl
        subst hrf
        have HB6 := Lib.hid (Below.next HB.out HB2.out)
        go_wp2
        go_ret
        exact ⟨rfl, HB6.out⟩
      · have hok := okB_true.1 Hdd.out
        have Hrr2 : Hid ((decide (l.length = r.w.toNat) && hasF r l) = rr) := Lib.hid (by
          rw [← Hrr.out, hasR, Hdd.out, Bool.true_and]
          congr 1
          have := hok.1
          rw [decide_eq_decide]
          omega)
        have zo := HT2.out.cell
        have hw12 : r.w.toNat ≤ 12 := by have := hok.2.1; omega
        have Hok := Lib.hid hok
        clear hok
        go_wp2_with fail
        refine (fin_any r.w.toNat r x f A n c l B k cb _ hw12 Hok.out.2.2.2 Hok.out.2.2.1 Hall.out (HR.out.keep (keeps_of HB2.out)) (HV.out.keep (keeps_of HB2.out)) hmc).mono ?_
        rintro e w3 ⟨rfl, hb3⟩
        rw [Hrr2.out]
        have HB6 := Lib.hid (Below.next HB.out (Below.next HB2.out hb3))
        clear hb3 zo
        go_wp2
        go_ret
        exact ⟨rfl, HB6.out⟩
end Go.Proofs.YtnocbigcdjlliaaGreat
