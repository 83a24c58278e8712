/-
  Texts: GLeast.
-/
import Derived.Test.YtmnmckblmoalkaaGreatB44
set_option linter.unusedVariables false
/-
  The least row of a region, of the program and of the reference.
-/
namespace Go.Proofs.YtmnmckblmoalkaaGreat
open Go.RowKit
set_option maxRecDepth 100000
open Rg

def lstP : Rg → List Vl
  | .nil _ _ => []
  | .cons vs rest _ => lo vs :: lstP rest
noncomputable def lstB (r : Rg) : Bool := okB r && !r.nix
noncomputable def lstR (r : Rg) : List Vl := if lstB r = true then lstP r else []
/-- what Least returns -/
def LstOut (r : Rg) (w : World) (e : Ending) (w' : World) : Prop :=
  ∃ (A : Option Addr) (n c : Nat), e = .returned (.tuple #[.slice A n c, .bool (lstB r)]) ∧ VlS w' A n (lstR r) ∧ n ≤ c ∧ Below w.heap.size w w'
theorem lst_step {r : Rg} {p : List Iv × Rg} (hp : r.parts[0]? = some p) : lstP r = lo p.1 :: lstP p.2 := by
  cases r with
  | nil x f => simp [parts] at hp
  | cons vs rest tail =>
    simp only [parts, List.getElem?_cons_zero, Option.some.injEq] at hp
    subst hp
    rfl
theorem lst_none {r : Rg} (h : r.len = 0) : lstP r = [] := by
  cases r with
  | nil x f => rfl
  | cons vs rest tail => simp [Rg.len] at h
def lenSv : Value → Nat
  | .slice _ n _ => n
  | _ => 0
theorem below_then {B B' : Nat} {w a b : World} (h : Below B w a) (k : Below B' a b) (hB : B ≤ B') : Below B w b :=
  ⟨k.os.trans h.os, k.tape.trans h.tape, k.output.trans h.output, Nat.le_trans h.size k.size, fun q hq => (k.block q (Nat.lt_of_lt_of_le hq hB)).trans (h.block q hq)⟩
/-- the state of the loop: the row so far, the region that is left -/
structure LsS (w : World) (r : Rg) (D : Nat) (k : Nat) (A1 : Option Addr) (c1 : Nat) (x : Int) (f : Bool) (A : Option Addr) (n c : Nat) (wr : World) : Prop where
  ex : ∃ (l : List Vl) (q : Rg) (d : Nat), l.length = k ∧ wr.ownsRow (w.heap.size + 1) 49 3 (.slice A1 k c1) k (l.flatMap Vl.cs) ∧ RgS w x f A n c q ∧ FormF d q ∧ d + k = D ∧ q.nix = false ∧ l ++ lstP q = lstP r ∧ q.size ≤ 64
  bo : Blk wr w.heap.size 27 #[.int .i64 x, .bool f, .slice A n c]
  be : Below w.heap.size w wr
theorem form_next {d : Nat} {q : Rg} {p : List Iv × Rg} (h : FormF (d + 1) q) (hp : q.parts[0]? = some p) : FormF d p.2 ∧ p.2.nix = false ∧ p.1 ≠ [] := by
  obtain ⟨h1, h2⟩ := h
  have hm := List.mem_of_getElem? hp
  obtain ⟨h3, h4, h5, h6⟩ := h1.2.2.1 p hm
  exact ⟨⟨h5, (fits_mem h2 hm).2⟩, h6, h3⟩
theorem form_has {d n : Nat} {q : Rg} (h : FormF d q) (hx : q.nix = false) (hn : q.len = n) : (0 < d ↔ 0 < n) := by
  cases d with
  | zero =>
    have := h.1.2
    rw [← len_parts, this] at hn
    simp at hn
    omega
  | succ d =>
    have hf := h.1.2.1
    rw [nix_len, hf, hn] at hx
    simp at hx
    omega

set_option maxHeartbeats 4000000 in
theorem gleast_any (r : Rg) (x : Int) (f : Bool) (A : Option Addr) (n c : Nat) (w : World) (hR : RgS w x f A n c r) :
    Calls Tryz.prog 29 #[.agg #[.int .i64 x, .bool f, .slice A n c]] w fun e w' => LstOut r w e w' := by
  obtain ⟨i0, hi, hz0, hz1, hz2⟩ := info_parts info_vl
  have HT := Lib.hid (Blk.new w 27 #[.int .i64 x, .bool f, .slice A n c])
  have HB := Lib.hid ((Below.refl w.heap.size w).alloc (Nat.le_refl _) (.cells #[.int .i64 x, .bool f, .slice A n c] 27))
  have HR := Lib.hid (hR.keep (keeps_of HB.out))
  have Hxw := Lib.hid hR.hw
  have HR0 := Lib.hid hR
  clear hR
  obtain ⟨v1, H1⟩ : ∃ z, Hid (okB r = z) := ⟨_, rfl⟩
  obtain ⟨v2, H2⟩ : ∃ z, Hid (r.nix = z) := ⟨_, rfl⟩
  have Hs0 := Lib.hid (World.size_alloc w (.cells #[.int .i64 x, .bool f, .slice A n c] 27))
  generalize hW0 : w.alloc (.cells #[.int .i64 x, .bool f, .slice A n c] 27) = W0 at *
  have zo := HT.out.cell
  go_enter Tryz.func29, Tryz.ntmps29
  go_upto_region 1 with fail
  try rw [hW0]
  clear hW0
  go_wp2_with fail
  refine (rvalidR_any r x f A n c _ HR.out).mono ?_
  rintro e w1 ⟨rfl, hb1⟩
  rw [H1.out]
  have HT1 := Lib.hid (HT.out.below hb1)
  have HB1 := Lib.hid (Below.next HB.out hb1)
  have HR1 := Lib.hid (HR.out.keep (keeps_of hb1))
  clear hb1 zo HT HB HR
  cases v1
  · have hl : lstB r = false := by rw [lstB, H1.out]; rfl
    have hl2 : lstR r = [] := by rw [lstR, hl]; rfl
    have HE : Hid (LstOut r w (.returned (.tuple #[.slice none 0 0, .bool false])) w1) := Lib.hid ⟨none, 0, 0, by rw [hl], by rw [hl2]; exact Sl.nil, Nat.le_refl _, HB1.out⟩
    clear hl hl2
    go_wp2
    exact bodyPost_ret (v := .tuple #[.slice none 0 0, .bool false]) (by simp [results, Tryz.results29, go_sem]) rfl HE.out
  · have zo := HT1.out.cell
    go_wp2_with fail
    refine (rempty_any x f A n c r _ HR1.out).mono ?_
    rintro e w2 ⟨rfl, hb2⟩
    rw [H2.out]
    have HT2 := Lib.hid (HT1.out.below hb2)
    have HB2 := Lib.hid (Below.next HB1.out hb2)
    have HR2 := Lib.hid (HR1.out.keep (keeps_of hb2))
    clear hb2 zo HT1 HB1 HR1
    cases v2
    · have hl : lstB r = true := by rw [lstB, H1.out, H2.out]; rfl
      have Hl2 : Hid (lstR r = lstP r) := Lib.hid (by rw [lstR, hl]; rfl)
      have Hl := Lib.hid hl
      have hok := okB_true.1 H1.out
      have hD : r.w.toNat ≤ 12 := by have := hok.2.1; omega
      have hxD : x = (r.w.toNat : Int) := by have := hok.1; have := Hxw.out; omega
      obtain ⟨D, HD⟩ : ∃ z, Hid (r.w.toNat = z) := ⟨_, rfl⟩
      rw [HD.out] at hD hxD
      subst hxD
      have HF : Hid (FormF D r ∧ r.size ≤ 64) := Lib.hid ⟨by rw [← HD.out]; exact hok.2.2.2, hok.2.2.1⟩
      have hs2 : w.heap.size + 1 ≤ w2.heap.size := by have := HT2.out.lt; omega
      clear hl hok
      have zo := HT2.out.cell
      go_wp2_with (at_make; refine wpList_make_own w2 rfl _ _ _ rfl (w.heap.size + 1) 49 i0 _ 3 Tryz.underlying44 hi hz0 hz1 .i64 .i64 _ D rfl rfl rfl (by rw [hz2]; omega) (by simp only [maxLen]; omega) hs2 ?_; intro w3 hown3 hg3)
      have hb3 : Below w2.heap.size w2 w3 := (Below.refl _ _).grown hg3 (Nat.le_refl _) (fun k hk => by cases hk)
      have HL3 : Hid (LsS w r D 0 (some ⟨w2.heap.size, 0, none⟩) D (D : Int) f A n c w3) := Lib.hid ⟨⟨[], r, D, rfl, hown3, HR0.out, HF.out.1, by omega, H2.out, rfl, HF.out.2⟩, HT2.out.below hb3, Below.next HB2.out hb3⟩
      clear zo hown3 hg3 hb3
      have zo := HL3.out.bo.cell
      go_wp2_with fail
      go_loopw [4] (fun v wr => ∃ (k : Nat) (A1 : Option Addr) (c1 : Nat) (x' : Int) (f' : Bool) (A' : Option Addr) (n' c' : Nat), v = .slice A1 k c1 ∧ Hid (LsS w r D k A1 c1 x' f' A' n' c' wr)) (fun v _ => D - lenSv v)
      case atStart => exact ⟨0, some ⟨w2.heap.size, 0, none⟩, D, _, f, A, n, c, rfl, HL3⟩
      case round =>
        obtain ⟨k, A1, c1, x', f', A', n', c', rfl, HQ⟩ := hrel
        clear zo
        obtain ⟨l, q, d, hlk, hown, hrg, hff, hdk, hnix, hlp, hsz⟩ := HQ.out.ex
        have hxq : x' = (d : Int) := by rw [← hrg.hw, hff.1.width]
        have hiff := form_has hff hnix hrg.len.symm
        have hdD : d + k ≤ 12 := by omega
        have hn64 : n' ≤ 64 := by have := hrg.len; have := len_le_size q; omega
        have HOW := Lib.hid hown
        have HRG := Lib.hid (hrg.keep (keeps_of HQ.out.be))
        have HRG0 := Lib.hid hrg
        have H29 := Lib.hid hff
        have HLP := Lib.hid (And.intro hlk (And.intro hlp hsz))
        have HDK := Lib.hid hdk
        have zo := HQ.out.bo.cell
        subst hxq
        clear hown hrg hff hnix hlp hlk hsz
        by_cases hd0 : 0 < d
        · have hn0 : 0 < n' := hiff.1 hd0
          have hd1 : Hid (d - 1 + (k + 1) = D) := Lib.hid (by omega)
          have hkD : k < D := by omega
          obtain ⟨b, o, p, A3, n3, c3, x3, f3, A4, n4, c4, rfl, hp, hpt0, hpt⟩ := HRG0.out.at2 (keeps_of HQ.out.be) hn0
          have HNX := Lib.hid (form_next (d := d - 1) (by rw [show d - 1 + 1 = d by omega]; exact H29.out) hp)
          have Hlp := Lib.hid (lst_step hp)
          have Hsz2 := Lib.hid (size_at hp)
          rw [Nat.zero_mul, Nat.add_zero] at hpt hpt0
          have HPT0 := Lib.hid hpt0
          obtain ⟨d0, d1, d2, d3, hok3, hvs3, hrg3⟩ := hpt
          have hn3 : 0 < n3 := by rw [← hvs3.len]; exact List.length_pos_iff.2 HNX.out.2.2
          obtain ⟨b5, o5, y, rfl, hy, hat⟩ := lo_at hvs3 hn3
          obtain ⟨⟨yk, yi, yt⟩, yT, yO⟩ := y
          obtain ⟨c0, c1', c2'⟩ := hat
          dsimp only at c0 c1' c2'
          have Hy := Lib.hid hy
          clear hp hvs3 hrg3 hy hiff d1 d2 d3 hpt0
          have hbs : w.heap.size + 1 ≤ wr.heap.size := by have := HQ.out.bo.lt; omega
          go_upto_region 6 with (at_builtin; refine wpList_append_one2 (by rfl) (.tmp 19) (.tmp 28) _ (by rfl) (w.heap.size + 1) 49 i0 _ 3 32 Tryz.underlying44 hi hz0 hz1 hz2 (by rfl) (by omega) (.slice A1 k c1) k _ (by rfl) wr #[.int .i64 yk, .int .i64 yi, .string yt] HOW.out wr.heap.size (by rfl) (by rfl) (by rfl) (one_vl ⟨yk, yi, yt⟩) (by simp only [maxLen]; omega) (by omega) hbs ?_; intro g6 cap6 w6 hown6 hg6 hB6 hat6 hlt6)
          have HB6 := Lib.hid (below_then HQ.out.be hB6 (Nat.le_succ _))
          have HBO6 := Lib.hid (show Blk w6 w.heap.size 27 #[.int .i64 (d : Int), .bool f', .slice (some ⟨b, o, none⟩) n' c'] from (hB6.block _ (Nat.lt_succ_self _)).trans HQ.out.bo)
          have HOW6 := Lib.hid hown6
          have HP6 := HPT0.out.keep (keeps_of HB6.out)
          obtain ⟨e0, e1, e2, e3, hok6, hvs6, hrg6⟩ := HP6
          clear hok6 hvs6 hrg6 e0
          have e4 := e2
          have e5 := e3
          rw [show o + 2 = o + 1 + 1 from rfl] at e4
          rw [show o + 3 = o + 1 + 2 from rfl] at e5
          have HNEW : Hid (LsS w r D (k + 1) (some ⟨g6, 0, none⟩) cap6 x3 f3 A4 n4 c4 (put3R w6 w.heap.size (.int .i64 x3) (.bool f3) (.slice A4 n4 c4))) := by
            have hp := put3R_but w6 w.heap.size (.int .i64 x3) (.bool f3) (.slice A4 n4 c4)
            have hfl : l.flatMap Vl.cs ++ [.int .i64 yk, .int .i64 yi, .string yt] = (l ++ [(⟨yk, yi, yt⟩ : Vl)]).flatMap Vl.cs := by rw [List.flatMap_append]; rfl
            refine Lib.hid ⟨⟨l ++ [⟨yk, yi, yt⟩], p.2, d - 1, by rw [List.length_append, HLP.out.1]; rfl, ?_, HPT0.out.rg, HNX.out.1, hd1.out, HNX.out.2.1, ?_, by have := Hsz2.out; have := HLP.out.2.2; omega⟩, put3R_blk HBO6.out, put3R_below HB6.out (Nat.le_refl _) _ _ _⟩
            · have h1 := HOW6.out
              rw [hfl] at h1
              exact own_but h1 hp (fun q hq hs => by have := (own_lt h1 hq).1; omega)
            · rw [List.append_assoc, ← HLP.out.2.1, Hlp.out, Hy.out]
              rfl
          have zr := HBO6.out.cell
          obtain ⟨ff1, ff2, ff3⟩ := put3R_free HBO6.out (.int .i64 x3) (.bool f3)
          have y3 := (put3R_blk (a' := .int .i64 x3) (b' := .bool f3) (c' := .slice A4 n4 c4) HBO6.out).cell
          have y1 := (HBO6.out.set_ 0 (.int .i64 x3)).cell
          have y2 := ((HBO6.out.set_ 0 (.int .i64 x3)).set_ 1 (.bool f3)).cell
          unfold put3R at y3
          clear hown6 hg6 hB6 hat6 hlt6 zo c0 c1' c2' d0
          go_wp2
          go_roundw
          case rel => exact ⟨k + 1, some ⟨g6, 0, none⟩, cap6, x3, f3, A4, n4, c4, rfl, HNEW⟩
          case measure => simp [lenSv]; omega
        · have hn0 : n' = 0 := by omega
          obtain rfl : d = 0 := by omega
          subst hn0
          have hle : l = lstP r := by
            rw [← HLP.out.2.1, lst_none HRG0.out.len.symm, List.append_nil]
          have HE : Hid (LstOut r w (.returned (.tuple #[.slice A1 k c1, .bool true])) wr) := Lib.hid ⟨A1, k, c1, by rw [Hl.out], by rw [Hl2.out, ← hle]; exact Sl.of_own Vl.cs_len HLP.out.1 HOW.out, (own_okS HOW.out).1, HQ.out.be⟩
          clear hle hiff
          go_wp2
          exact bodyPost_ret (v := .tuple #[.slice A1 k c1, .bool true]) (by simp [results, Tryz.results29, go_sem]) rfl HE.out
    · have hl : lstB r = false := by rw [lstB, H1.out, H2.out]; rfl
      have hl2 : lstR r = [] := by rw [lstR, hl]; rfl
      have HE : Hid (LstOut r w (.returned (.tuple #[.slice none 0 0, .bool false])) w2) := Lib.hid ⟨none, 0, 0, by rw [hl], by rw [hl2]; exact Sl.nil, Nat.le_refl _, HB2.out⟩
      clear hl hl2
      go_wp2
      exact bodyPost_ret (v := .tuple #[.slice none 0 0, .bool false]) (by simp [results, Tryz.results29, go_sem]) rfl HE.out
end Go.Proofs.YtmnmckblmoalkaaGreat
