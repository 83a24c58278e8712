import Derived.Test.YtjlbnbljimmbeaaOrdered
namespace Go.Proofs.Ytjlbnbljimmbeaa
open Go.RowKit

theorem rvalidL_any (A : Option Addr) (n c : Nat) (l : List Iv) (w : World) (hs : IvS w A n l) (hn : n ≤ 9223372036854775807) :
    Calls Try.prog 16 #[.slice A n c] w fun e w' => e = .returned (.bool (validL l)) ∧ Below w.heap.size w w' := by
  have Hs := Lib.hid hs
  have hl := hs.len
  clear hs
  rcases Nat.lt_or_ge 64 n with h | h
  · have hv : validL l = false := by simp [validL]; omega
    rw [hv]
    have g1 : decide ((n : Int) ≤ 64) = false := by simp; omega
    clear hl
    go_enter Try.func16, Try.ntmps16
    go_wp2
    go_ret
    exact ⟨rfl, Below.refl _ _⟩
  · have hv : validL l = ordFrom none l := by simp [validL]; omega
    rw [hv]
    have g1 : decide ((n : Int) ≤ 64) = true := by simp; omega
    clear hl
    go_enter Try.func16, Try.ntmps16
    go_wp2_with fail
    refine (ordered_any A n c l _ (by omega) Hs.out).mono ?_
    rintro e w1 ⟨rfl, hb1⟩
    go_wp2
    go_ret
    exact ⟨rfl, hb1⟩

set_option maxHeartbeats 400000 in
theorem rfirst_any (k : Int) (w : World) : Calls Try.prog 65 #[.int .i64 k] w fun e w' =>
    e = .returned (.tuple #[.agg #[.int .i64 (firstV k).1.k, .int .i64 (firstV k).1.i, .string (firstV k).1.t], .bool (firstV k).2]) ∧ Below w.heap.size w w' := by
  generalize hf : firstV k = r
  have Hf := Lib.hid hf
  clear hf
  go_enter Try.func65, Try.ntmps65
  go_wp2
  all_goals
    first
      | (refine bodyPost_ret (v := .tuple #[.agg #[.int .i64 k, .int .i64 0, .string ⟨#[]⟩], .bool true]) ?_ rfl ⟨?_, ?_⟩; focus (simp [results, Try.results65, go_sem]; done))
      | (refine bodyPost_ret (v := .tuple #[.agg #[.int .i64 k, .int .i64 minI, .string ⟨#[]⟩], .bool true]) ?_ rfl ⟨?_, ?_⟩; focus (simp [results, Try.results65, go_sem, minI]; done))
      | (refine bodyPost_ret (v := .tuple #[.agg #[.int .i64 0, .int .i64 0, .string ⟨#[]⟩], .bool false]) ?_ rfl ⟨?_, ?_⟩; focus (simp [results, Try.results65, go_sem]; done))
    · rw [← Hf.out]
      simp_all [firstV, zeroV]
    · repeat (first | exact Below.refl _ _ | apply Below.drew | refine Below.setCell ?_ (by simp) _ | refine Below.alloc ?_ (by simp) _)
set_option maxHeartbeats 400000 in
theorem rbetween_any (f t : Vl) (w : World) : Calls Try.prog 37 #[.agg #[.int .i64 f.k, .int .i64 f.i, .string f.t], .agg #[.int .i64 t.k, .int .i64 t.i, .string t.t]] w fun e w' => IvRes w (betweenL f t) e w' := by
  obtain ⟨fk, fi, ft⟩ := f
  obtain ⟨tk, ti, tt⟩ := t
  obtain ⟨v1, H1⟩ : ∃ v, Hid (validV ⟨fk, fi, ft⟩ = v) := ⟨_, rfl⟩
  obtain ⟨v2, H2⟩ : ∃ v, Hid (validV ⟨tk, ti, tt⟩ = v) := ⟨_, rfl⟩
  obtain ⟨c, H3⟩ : ∃ v, Hid (cmpV ⟨fk, fi, ft⟩ ⟨tk, ti, tt⟩ = v) := ⟨_, rfl⟩
  go_enter Try.func37, Try.ntmps37
  go_wp2_with fail
  refine (rvalid_any ⟨fk, fi, ft⟩ _).mono ?_
  rintro e w1 ⟨rfl, hb1⟩
  rw [H1.out]
  have hx1 := ((Blk.new w 24 #[.int .i64 fk, .int .i64 fi, .string ft]).alloc (.cells #[.int .i64 tk, .int .i64 ti, .string tt] 24)).below hb1
  have hx2 := (Blk.new (w.alloc (.cells #[.int .i64 fk, .int .i64 fi, .string ft] 24)) 24 #[.int .i64 tk, .int .i64 ti, .string tt]).below hb1
  simp only [World.size_alloc] at hx2
  have hB1 : Below w.heap.size w w1 := Below.next (((Below.refl _ _).alloc (Nat.le_refl _) _).alloc (by simp) _) hb1
  cases v1
  · go_wp2
    go_ret2
    exact ivres_nil (by simp [betweenL, H1.out]) hB1
  · have y1 := hx1.cell
    have y2 := hx2.cell
    go_wp2_with fail
    refine (rvalid_any ⟨tk, ti, tt⟩ _).mono ?_
    rintro e w2 ⟨rfl, hb2⟩
    rw [H2.out]
    have hB2 := Below.next hB1 hb2
    cases v2
    · go_wp2
      go_ret2
      exact ivres_nil (by simp [betweenL, H1.out, H2.out]) hB2
    · clear y1 y2
      have y1 := (hx1.below hb2).cell
      have y2 := (hx2.below hb2).cell
      go_wp2_with fail
      refine (rcompare_any ⟨fk, fi, ft⟩ ⟨tk, ti, tt⟩ _).mono ?_
      rintro e w3 ⟨rfl, hb3⟩
      rw [H3.out]
      have hB3 := Below.next hB2 hb3
      clear y1 y2
      have y1 := ((hx1.below hb2).below hb3).cell
      have y2 := ((hx2.below hb2).below hb3).cell
      rcases Int.lt_or_le c 0 with h | h
      · go_wp2
        go_ret2
        have hr : betweenL ⟨fk, fi, ft⟩ ⟨tk, ti, tt⟩ = ([⟨⟨fk, fi, ft⟩, ⟨tk, ti, tt⟩, false⟩], 0) := by simp [betweenL, H1.out, H2.out, H3.out, h]
        rw [hr]
        exact ⟨_, _, rfl, iv_one (x := ⟨⟨fk, fi, ft⟩, ⟨tk, ti, tt⟩, false⟩) (Blk.new _ _ _), hB3.alloc hB3.size _⟩
      · go_wp2
        go_ret2
        exact ivres_nil (by simp [betweenL, H1.out, H2.out, H3.out]; omega) hB3

theorem rfrom_any (f : Vl) (w : World) : Calls Try.prog 41 #[.agg #[.int .i64 f.k, .int .i64 f.i, .string f.t]] w fun e w' => IvRes w (fromL f) e w' := by
  obtain ⟨fk, fi, ft⟩ := f
  obtain ⟨v1, H1⟩ : ∃ v, Hid (validV ⟨fk, fi, ft⟩ = v) := ⟨_, rfl⟩
  go_enter Try.func41, Try.ntmps41
  go_wp2_with fail
  refine (rvalid_any ⟨fk, fi, ft⟩ _).mono ?_
  rintro e w1 ⟨rfl, hb1⟩
  rw [H1.out]
  have y1 := ((Blk.new w 24 #[.int .i64 fk, .int .i64 fi, .string ft]).below hb1).cell
  have hB1 : Below w.heap.size w w1 := Below.next ((Below.refl _ _).alloc (Nat.le_refl _) _) hb1
  cases v1
  · go_wp2
    go_ret2
    exact ivres_nil (by simp [fromL, H1.out]) hB1
  · go_wp2
    go_ret2
    have hr : fromL ⟨fk, fi, ft⟩ = ([⟨⟨fk, fi, ft⟩, zeroV, true⟩], 0) := by simp [fromL, H1.out]
    rw [hr]
    exact ⟨_, _, rfl, iv_one (T := 26) (x := ⟨⟨fk, fi, ft⟩, zeroV, true⟩) (Blk.new _ _ _), hB1.alloc hB1.size _⟩

set_option maxHeartbeats 1000000 in
theorem rleast_any (A : Option Addr) (n c : Nat) (l : List Iv) (w : World) (hs : IvS w A n l) (hnm : n ≤ 9223372036854775807) :
    Calls Try.prog 18 #[.slice A n c] w fun e w' => e = .returned (.tuple #[.agg #[.int .i64 (leastV l).1.k, .int .i64 (leastV l).1.i, .string (leastV l).1.t], .bool (leastV l).2]) ∧ Below w.heap.size w w' := by
  have Hs := Lib.hid hs
  have Hln := Lib.hid hs.len
  clear hs
  obtain ⟨v2, H2⟩ : ∃ v, Hid (validL l = v) := ⟨_, rfl⟩
  generalize hr : leastV l = r
  have Hr := Lib.hid hr
  clear hr
  rcases Nat.eq_zero_or_pos n with h0 | h0
  · have Hr0 : Hid (r = (zeroV, false)) := by
      show _ = _
      have : l = [] := List.eq_nil_of_length_eq_zero (by have := Hln.out; omega)
      rw [← Hr.out, this]
      simp [leastV]
    have g0 : ((n : Int) == 0) = true := by simp [h0]
    have H0 := Lib.hid h0
    clear h0
    go_enter Try.func18, Try.ntmps18
    go_wp2
    refine bodyPost_ret (v := .tuple #[.agg #[.int .i64 0, .int .i64 0, .string ⟨#[]⟩], .bool false]) (by simp [results, Try.results18, go_sem]) rfl ⟨by rw [Hr0.out]; rfl, ?_⟩
    repeat (first | exact Below.refl _ _ | refine Below.setCell ?_ (by simp) _ | refine Below.alloc ?_ (by simp) _)
  · have g0 : ((n : Int) == 0) = false := by simp; omega
    go_enter Try.func18, Try.ntmps18
    go_wp2_with fail
    have hB0 : Below w.heap.size w (w.alloc (.cells #[.int .i64 0, .int .i64 0, .string ⟨#[]⟩] 24)) := (Below.refl _ _).alloc (Nat.le_refl _) _
    refine (rvalidL_any A n c l _ (Hs.out.keep (keeps_alloc _ _)) hnm).mono ?_
    rintro e w1 ⟨rfl, hb1⟩
    rw [H2.out]
    have hX := (Blk.new w 24 #[.int .i64 0, .int .i64 0, .string ⟨#[]⟩]).below hb1
    have hXc := hX.cell
    have hXf := hX.free
    have hB1 := Below.next hB0 hb1
    cases v2
    · have Hr0 : Hid (r = (zeroV, false)) := by
        show _ = _
        rw [← Hr.out]
        simp [leastV, H2.out]
      go_wp2
      refine bodyPost_ret (v := .tuple #[.agg #[.int .i64 0, .int .i64 0, .string ⟨#[]⟩], .bool false]) (by simp [results, Try.results18, go_sem, hXc]) rfl ⟨by rw [Hr0.out]; rfl, ?_⟩
      repeat (first | exact hB1 | refine Below.setCell ?_ (by simp) _)
    · obtain ⟨b, o, x, rfl, hx, hc⟩ := (Hs.out.keep (keeps_of hB1)).at h0
      have Hr0 : Hid (r = (x.f, true)) := by
        show _ = _
        rw [← Hr.out]
        cases l with
        | nil => simp at hx
        | cons y l => simp only [List.getElem?_cons_zero, Option.some.injEq] at hx; subst hx; simp [leastV, H2.out]
      obtain ⟨⟨fk, fi, ft⟩, ⟨tk, ti, tt⟩, xo⟩ := x
      obtain ⟨c0, c1, c2, c3, c4, c5, c6⟩ := IvAt.of hc
      dsimp only at c0 c1 c2 c3 c4 c5 c6
      simp only [Nat.zero_mul, Nat.add_zero] at c0 c1 c2
      clear c3 c4 c5 c6 hx hc
      go_wp2
      refine bodyPost_ret (v := .tuple #[.agg #[.int .i64 fk, .int .i64 fi, .string ft], .bool true]) (by simp [results, Try.results18, go_sem, hXc]) rfl ⟨by rw [Hr0.out], ?_⟩
      repeat (first | exact hB1 | refine Below.setCell ?_ (by simp) _)

theorem rall_any (w : World) : Calls Try.prog 44 #[] w fun e w' => IvLst w allL e w' := by
  go_enter Try.func44, Try.ntmps44
  go_wp2
  go_ret
  exact ⟨_, _, rfl, iv_one (T := 26) (x := ⟨⟨1, 0, ⟨#[]⟩⟩, zeroV, true⟩) (Blk.new _ _ _), (Below.refl _ _).alloc (Nat.le_refl _) _⟩

set_option maxHeartbeats 400000 in
theorem rhas_any (A : Option Addr) (n c : Nat) (l : List Iv) (v : Vl) (w : World) (hs : IvS w A n l) (hn : n ≤ 9223372036854775807) :
    Calls Try.prog 21 #[.slice A n c, .agg #[.int .i64 v.k, .int .i64 v.i, .string v.t]] w fun e w' => e = .returned (.bool (hasL l v)) ∧ Below w.heap.size w w' := by
  obtain ⟨vk, vi, vt⟩ := v
  have Hs := Lib.hid hs
  have Hln := Lib.hid hs.len
  clear hs
  obtain ⟨v1, H1⟩ : ∃ v, Hid (validV ⟨vk, vi, vt⟩ = v) := ⟨_, rfl⟩
  obtain ⟨v2, H2⟩ : ∃ v, Hid (validL l = v) := ⟨_, rfl⟩
  generalize hr : hasL l ⟨vk, vi, vt⟩ = r
  have Hr := Lib.hid hr
  clear hr
  go_enter Try.func21, Try.ntmps21
  go_wp2_with fail
  refine (rvalid_any ⟨vk, vi, vt⟩ _).mono ?_
  rintro e w1 ⟨rfl, hb1⟩
  rw [H1.out]
  have hx1 := (Blk.new w 24 #[.int .i64 vk, .int .i64 vi, .string vt]).below hb1
  have hB1 : Below w.heap.size w w1 := Below.next ((Below.refl _ _).alloc (Nat.le_refl _) _) hb1
  cases v1
  · go_wp2
    go_ret
    exact ⟨ret_bool (by rw [← Hr.out]; simp [hasL, H1.out]), hB1⟩
  · go_wp2_with fail
    refine (rvalidL_any A n c l _ (Hs.out.keep (keeps_of hB1)) hn).mono ?_
    rintro e w2 ⟨rfl, hb2⟩
    rw [H2.out]
    have hB2 := Below.next hB1 hb2
    have y2 := (hx1.below hb2).cell
    cases v2
    · go_wp2
      go_ret
      exact ⟨ret_bool (by rw [← Hr.out]; simp [hasL, H2.out]), hB2⟩
    · go_wp2_with fail
      refine (rin_any A n c l ⟨vk, vi, vt⟩ _ (Hs.out.keep (keeps_of hB2)) (by have h := H2.out; have := Hln.out; simp [validL] at h; omega)).mono ?_
      rintro e w3 ⟨rfl, hb3⟩
      go_wp2
      go_ret
      exact ⟨ret_bool (by rw [← Hr.out]; simp [hasL, H1.out, H2.out]), Below.next hB2 hb3⟩

/-- the reference's result of an operation -/
def doL (op : Bool → Bool → Bool) (a b : List Iv) : List Iv × Int :=
  if validL a && validL b then (if (combR op a b).length ≤ 64 then (combR op a b, 0) else ([], 2)) else ([], 30)
set_option maxHeartbeats 1000000 in
theorem rdo_any (k : Int) (A B : Option Addr) (n m ca cb : Nat) (la lb : List Iv) (w : World) (hA : IvS w A n la) (hB : IvS w B m lb) (hn : n ≤ 9223372036854775807) (hm : m ≤ 9223372036854775807) :
    Calls Try.prog 62 #[.int .i64 k, .slice A n ca, .slice B m cb] w fun e w' => IvRes w (doL (opR k) la lb) e w' := by
  have HA := Lib.hid hA
  have HB := Lib.hid hB
  have Hln := Lib.hid hA.len
  have Hlm := Lib.hid hB.len
  clear hA hB
  obtain ⟨va, Hva⟩ : ∃ va, Hid (validL la = va) := ⟨_, rfl⟩
  obtain ⟨vb, Hvb⟩ : ∃ vb, Hid (validL lb = vb) := ⟨_, rfl⟩
  go_enter Try.func62, Try.ntmps62
  go_wp2_with fail
  refine (rvalidL_any A n ca la _ HA.out hn).mono ?_
  rintro e w1 ⟨rfl, hb1⟩
  rw [Hva.out]
  cases va
  · go_wp2
    go_ret2
    exact ivres_nil (by simp [doL, Hva.out]) hb1
  · go_wp2_with fail
    refine (rvalidL_any B m cb lb _ (HB.out.keep (keeps_of hb1)) hm).mono ?_
    rintro e w2 ⟨rfl, hb2⟩
    rw [Hvb.out]
    have hb2' := Below.next hb1 hb2
    cases vb
    · go_wp2
      go_ret2
      exact ivres_nil (by simp [doL, Hva.out, Hvb.out]) hb2'
    · have hn : n ≤ 64 := by have h := Hva.out; have := Hln.out; simp [validL] at h; omega
      have hm : m ≤ 64 := by have h := Hvb.out; have := Hlm.out; simp [validL] at h; omega
      have hK := keeps_of hb2'
      go_wp2_with fail
      refine (rcombine_any k A B n m ca cb la lb _ (HA.out.keep hK) (HB.out.keep hK) hn hm).mono ?_
      rintro e w3 ⟨A3, c3, rfl, hO3, hb3⟩
      have hb3' := Below.next hb2' hb3
      have HS3 := Lib.hid (Sl.of_own Iv.cs_len rfl hO3)
      clear hO3 hK
      rcases Nat.lt_or_ge 64 (combR (opR k) la lb).length with h64 | h64
      · go_wp2
        go_ret2
        exact ivres_nil (by simp [doL, Hva.out, Hvb.out]; omega) hb3'
      · go_wp2
        go_ret2
        have hr : doL (opR k) la lb = (combR (opR k) la lb, 0) := by simp [doL, Hva.out, Hvb.out]; omega
        rw [hr]
        exact ⟨A3, c3, rfl, HS3.out, hb3'⟩
theorem runion_any (A B : Option Addr) (n m ca cb : Nat) (la lb : List Iv) (w : World) (hA : IvS w A n la) (hB : IvS w B m lb) (hn : n ≤ 9223372036854775807) (hm : m ≤ 9223372036854775807) :
    Calls Try.prog 32 #[.slice A n ca, .slice B m cb] w fun e w' => IvRes w (doL (opR 1) la lb) e w' := by
  have HA := Lib.hid hA
  have HB := Lib.hid hB
  clear hA hB
  go_enter Try.func32, Try.ntmps32
  go_wp2_with fail
  refine (rdo_any 1 A B n m ca cb la lb _ HA.out HB.out hn hm).mono ?_
  rintro e w1 ⟨A1, c1, rfl, hS1, hb1⟩
  have HS1 := Lib.hid hS1
  clear hS1
  go_wp2
  go_ret2
  exact ⟨A1, c1, rfl, HS1.out, hb1⟩
theorem rintersect_any (A B : Option Addr) (n m ca cb : Nat) (la lb : List Iv) (w : World) (hA : IvS w A n la) (hB : IvS w B m lb) (hn : n ≤ 9223372036854775807) (hm : m ≤ 9223372036854775807) :
    Calls Try.prog 33 #[.slice A n ca, .slice B m cb] w fun e w' => IvRes w (doL (opR 2) la lb) e w' := by
  have HA := Lib.hid hA
  have HB := Lib.hid hB
  clear hA hB
  go_enter Try.func33, Try.ntmps33
  go_wp2_with fail
  refine (rdo_any 2 A B n m ca cb la lb _ HA.out HB.out hn hm).mono ?_
  rintro e w1 ⟨A1, c1, rfl, hS1, hb1⟩
  have HS1 := Lib.hid hS1
  clear hS1
  go_wp2
  go_ret2
  exact ⟨A1, c1, rfl, HS1.out, hb1⟩
theorem rminus_any (A B : Option Addr) (n m ca cb : Nat) (la lb : List Iv) (w : World) (hA : IvS w A n la) (hB : IvS w B m lb) (hn : n ≤ 9223372036854775807) (hm : m ≤ 9223372036854775807) :
    Calls Try.prog 34 #[.slice A n ca, .slice B m cb] w fun e w' => IvRes w (doL (opR 3) la lb) e w' := by
  have HA := Lib.hid hA
  have HB := Lib.hid hB
  clear hA hB
  go_enter Try.func34, Try.ntmps34
  go_wp2_with fail
  refine (rdo_any 3 A B n m ca cb la lb _ HA.out HB.out hn hm).mono ?_
  rintro e w1 ⟨A1, c1, rfl, hS1, hb1⟩
  have HS1 := Lib.hid hS1
  clear hS1
  go_wp2
  go_ret2
  exact ⟨A1, c1, rfl, HS1.out, hb1⟩
theorem rcomplement_any (A : Option Addr) (n ca : Nat) (la : List Iv) (w : World) (hA : IvS w A n la) (hn : n ≤ 9223372036854775807) :
    Calls Try.prog 31 #[.slice A n ca] w fun e w' => IvRes w (doL (opR 3) allL la) e w' := by
  have HA := Lib.hid hA
  clear hA
  go_enter Try.func31, Try.ntmps31
  go_wp2_with fail
  refine (rall_any _).mono ?_
  rintro e w0 ⟨A0, c0, rfl, hS0, hb0⟩
  have HS0 := Lib.hid hS0
  clear hS0
  go_wp2_with fail
  refine (rdo_any 3 A0 A _ n c0 ca allL la _ HS0.out (HA.out.keep (keeps_of hb0)) (by simp [allL]) hn).mono ?_
  rintro e w1 ⟨A1, c1, rfl, hS1, hb1⟩
  have HS1 := Lib.hid hS1
  clear hS1
  go_wp2
  go_ret2
  exact ⟨A1, c1, rfl, HS1.out, Below.next hb0 hb1⟩
def rcoversL (a b : List Iv) : Bool × Int := if validL a && validL b then ((combR (opR 3) b a).isEmpty, 0) else (false, 30)
set_option maxHeartbeats 1000000 in
theorem rcovers_any (A B : Option Addr) (n m ca cb : Nat) (la lb : List Iv) (w : World) (hA : IvS w A n la) (hB : IvS w B m lb) (hnn : n ≤ 9223372036854775807) (hmm : m ≤ 9223372036854775807) :
    Calls Try.prog 35 #[.slice A n ca, .slice B m cb] w fun e w' => e = .returned (.tuple #[.bool (rcoversL la lb).1, .int .i64 (rcoversL la lb).2]) ∧ Below w.heap.size w w' := by
  have HA := Lib.hid hA
  have HB := Lib.hid hB
  have Hln := Lib.hid hA.len
  have Hlm := Lib.hid hB.len
  clear hA hB
  obtain ⟨va, Hva⟩ : ∃ va, Hid (validL la = va) := ⟨_, rfl⟩
  obtain ⟨vb, Hvb⟩ : ∃ vb, Hid (validL lb = vb) := ⟨_, rfl⟩
  generalize hr : rcoversL la lb = r
  have Hr := Lib.hid hr
  clear hr
  go_enter Try.func35, Try.ntmps35
  go_wp2_with fail
  refine (rvalidL_any A n ca la _ HA.out hnn).mono ?_
  rintro e w1 ⟨rfl, hb1⟩
  rw [Hva.out]
  cases va
  · go_wp2
    go_ret2
    rw [← Hr.out]
    simp only [rcoversL, Hva.out, Bool.false_and, Bool.false_eq_true, if_false]
    exact ⟨rfl, hb1⟩
  · go_wp2_with fail
    refine (rvalidL_any B m cb lb _ (HB.out.keep (keeps_of hb1)) hmm).mono ?_
    rintro e w2 ⟨rfl, hb2⟩
    rw [Hvb.out]
    have hb2' := Below.next hb1 hb2
    cases vb
    · go_wp2
      go_ret2
      rw [← Hr.out]
      simp only [rcoversL, Hva.out, Hvb.out, Bool.and_false, Bool.false_eq_true, if_false]
      exact ⟨rfl, hb2'⟩
    · have hn : n ≤ 64 := by have h := Hva.out; have := Hln.out; simp [validL] at h; omega
      have hm : m ≤ 64 := by have h := Hvb.out; have := Hlm.out; simp [validL] at h; omega
      have hK := keeps_of hb2'
      go_wp2_with fail
      refine (rcombine_any 3 B A m n cb ca lb la _ (HB.out.keep hK) (HA.out.keep hK) hm hn).mono ?_
      rintro e w3 ⟨A3, c3, rfl, hS3, hb3⟩
      have hb3' := Below.next hb2' hb3
      clear hS3 hK
      generalize hq : combR (opR 3) lb la = q
      have Hq := Lib.hid hq
      clear hq
      go_wp2
      go_ret2
      rw [← Hr.out]
      simp only [rcoversL, Hva.out, Hvb.out, Bool.and_true, if_true, Hq.out]
      refine ⟨?_, hb3'⟩
      cases q <;> rfl

theorem run_neqI (x y : Iv) (w : World) : (binOp .neq 26 (.agg #[.int .i64 x.f.k, .int .i64 x.f.i, .string x.f.t, .int .i64 x.t.k, .int .i64 x.t.i, .string x.t.t, .bool x.o]) (.agg #[.int .i64 y.f.k, .int .i64 y.f.i, .string y.f.t, .int .i64 y.t.k, .int .i64 y.t.i, .string y.t.t, .bool y.o])).run Try.prog w =
    .ok (.bool (decide (x ≠ y))) w := by
  obtain ⟨⟨a, b, c⟩, ⟨d, e, f⟩, g⟩ := x
  obtain ⟨⟨a', b', c'⟩, ⟨d', e', f'⟩, g'⟩ := y
  have h : decide ((⟨⟨a, b, c⟩, ⟨d, e, f⟩, g⟩ : Iv) ≠ ⟨⟨a', b', c'⟩, ⟨d', e', f'⟩, g'⟩) = !((a == a') && ((b == b') && ((c.toList == c'.toList) && ((d == d') && ((e == e') && ((f.toList == f'.toList) && (g == g'))))))) := by
    rw [Bool.eq_iff_iff]
    simp only [Iv.mk.injEq, Vl.mk.injEq, text_eq, decide_eq_true_eq, Bool.not_eq_true', Bool.and_eq_false_imp, beq_iff_eq, ne_eq, not_and, beq_eq_false_iff_ne, and_assoc]
  rw [h]
  clear h
  by_cases h1 : (a == a') = true
  · by_cases h2 : (b == b') = true
    · by_cases h3 : (c.toList == c'.toList) = true
      · by_cases h4 : (d == d') = true
        · by_cases h5 : (e == e') = true
          · by_cases h6 : (f.toList == f'.toList) = true
            · simp [go_sem, h1, h2, h3, h4, h5, h6]
              split <;> simp_all
            · simp [go_sem, h1, h2, h3, h4, h5, h6]
          · simp [go_sem, h1, h2, h3, h4, h5]
        · simp [go_sem, h1, h2, h3, h4]
      · simp [go_sem, h1, h2, h3]
    · simp [go_sem, h1, h2]
  · simp [go_sem, h1]
set_option maxHeartbeats 1000000 in
theorem same_any (A B : Option Addr) (n m ca cb : Nat) (la lb : List Iv) (w : World) (hA : IvS w A n la) (hB : IvS w B m lb) (hn : n ≤ 9223372036854775807) (hm : m ≤ 9223372036854775807) :
    Calls Try.prog 22 #[.slice A n ca, .slice B m cb] w fun e w' => e = .returned (.bool (decide (la = lb))) ∧ Below w.heap.size w w' := by
  have HA := Lib.hid hA
  have HB := Lib.hid hB
  have Hla := Lib.hid hA.len
  have Hlb := Lib.hid hB.len
  clear hA hB
  by_cases hnm : n = m
  · subst hnm
    generalize hr : decide (la = lb) = r
    have HR : Hid (decide (la.drop 0 = lb.drop 0) = r) := by
      show _ = _
      simpa using hr
    clear hr
    go_enter Try.func22, Try.ntmps22
    go_wp2
    go_loopw [13] (fun i wr => ∃ k : Nat, k ≤ n ∧ i = .int .i64 (k : Int) ∧ Hid (decide (la.drop k = lb.drop k) = r) ∧ Below w.heap.size w wr) (fun i _ => n - (intOf i).toNat)
    case atStart => exact ⟨0, by omega, rfl, HR, Below.refl _ _⟩
    case round =>
      obtain ⟨k, hk, rfl, hinv, hb⟩ := hrel
      by_cases hlt : k < n
      · obtain ⟨b1, o1, x, rfl, hx, hxc⟩ := (HA.out.keep (keeps_of hb)).at hlt
        obtain ⟨b2, o2, y, rfl, hy, hyc⟩ := (HB.out.keep (keeps_of hb)).at hlt
        have Hst : Hid (r = (decide (x = y) && decide (la.drop (k + 1) = lb.drop (k + 1)))) := by
          show _ = _
          rw [← hinv.out, drop_at hx, drop_at hy]
          simp
        have hev := run_neqI x y
        obtain ⟨q, Hq⟩ : ∃ q, Hid (decide (x ≠ y) = q) := ⟨_, rfl⟩
        rw [Hq.out] at hev
        obtain ⟨⟨fk, fi, ft⟩, ⟨tk, ti, tt⟩, xo⟩ := x
        obtain ⟨⟨gk, gi, gt⟩, ⟨uk, ui, ut⟩, yo⟩ := y
        dsimp only at hev
        obtain ⟨c0, c1, c2, c3, c4, c5, c6⟩ := IvAt.of hxc
        obtain ⟨d0, d1, d2, d3, d4, d5, d6⟩ := IvAt.of hyc
        dsimp only at c0 c1 c2 c3 c4 c5 c6 d0 d1 d2 d3 d4 d5 d6
        clear hx hy hxc hyc
        go_wp2
        have hca := @cell_after wr.drew
        refine wp_region_seg [] [0, 1, 2, 3, 4, 5, 6, 7, 8] (by kernel_rfl) (by kernel_rfl) (fun _ _ d _ _ h => by cases d <;> exact h) ?_
        simp only [pickSegs, pickOps, opAt, List.map_cons, List.map_nil, List.getElem?_toArray, List.getElem?_cons_zero, List.getElem?_cons_succ, Option.getD_some]
        unfold wpBlocks
        repeat (go_big_quiet_step (fail))
        refine wpQuiet_nil ?_
        clear hca
        cases q
        · go_wp2
          go_roundw
          case rel => exact ⟨k + 1, by omega, by go_num, (by show _ = _; rw [Hst.out]; have := Hq.out; simp at this; simp [this]), hb.drew⟩
          case measure => simp [intOf]; omega
        · go_wp2
          go_ret
          exact ⟨ret_bool (by rw [Hst.out]; have := Hq.out; simp at this; simp; intros; simp_all), hb.drew⟩
      · go_wp2
        go_ret
        have h1 : la.drop k = [] := List.drop_eq_nil_of_le (by have := Hla.out; omega)
        have h2 : lb.drop k = [] := List.drop_eq_nil_of_le (by have := Hlb.out; omega)
        exact ⟨ret_bool (by rw [← hinv.out, h1, h2]; simp), hb⟩
  · have hr : decide (la = lb) = false := by
      simp only [decide_eq_false_iff_not]
      rintro rfl
      have := Hla.out
      have := Hlb.out
      omega
    rw [hr]
    have g1 : ((n : Int) != (m : Int)) = true := by simp; omega
    clear hr
    go_enter Try.func22, Try.ntmps22
    go_wp2
    go_ret
    exact ⟨rfl, Below.refl _ _⟩
end Go.Proofs.Ytjlbnbljimmbeaa
