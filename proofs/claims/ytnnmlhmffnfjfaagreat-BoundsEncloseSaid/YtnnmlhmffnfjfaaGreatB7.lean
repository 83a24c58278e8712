/-
  Texts: Has, RIn, Join, RCombine, AlgC, Alg, Ordered, NeqI, Ref03, One, Good, CInt, BdSet, RgA.
-/
import Derived.Test.YtnnmlhmffnfjfaaGreatB6
set_option linter.unusedVariables false
set_option maxRecDepth 100000
namespace Go.Proofs.YtnnmlhmffnfjfaaGreat
open Go.RowKit
set_option maxHeartbeats 1000000 in
theorem has_any (A : Option Addr) (n c : Nat) (l : List Iv) (v : Vl) (w : World) (hs : IvS w A n l) :
 Calls Tryz.prog 95 #[.slice A n c, .agg #[.int .i64 v.k, .int .i64 v.i, .string v.t]] w fun e w' => e = .returned (.bool (hasL l v)) ∧ Below w.heap.size w w' := by
 obtain ⟨vk, vi, vt⟩ := v
 have Hs := zH hs
 have Hln := zH hs.len
 clear hs
 obtain ⟨v1, H1⟩ : ∃ v, Hid (validV ⟨vk, vi, vt⟩ = v) := ⟨_, rfl⟩
 obtain ⟨v2, H2⟩ : ∃ v, Hid (validL l = v) := ⟨_, rfl⟩
 generalize hr : hasL l ⟨vk, vi, vt⟩ = r
 have Hr := zH hr
 clear hr
 go_enter Tryz.func95, Tryz.ntmps95
 go_wp2_with fail
 refine (valid_any ⟨vk, vi, vt⟩ _).mono ?_
 rintro e w1 ⟨rfl, hb1⟩
 rw [H1.out]
 have hx1 := (Blk.new w 59 #[.int .i64 vk, .int .i64 vi, .string vt]).below hb1
 have hB1 : Below w.heap.size w w1 := Below.next ((Below.refl _ _).alloc (Nat.le_refl _) _) hb1
 cases v1
 · go_wp2
   go_ret
   exact ⟨ret_bool (by rw [← Hr.out]; simp [hasL, H1.out]), hB1⟩
 · go_wp2_with fail
   refine (validL_any A n c l _ (Hs.out.keep (keeps_of hB1))).mono ?_
   rintro e w2 ⟨rfl, hb2⟩
   rw [H2.out]
   have hB2 := Below.next hB1 hb2
   have hx2 := hx1.below hb2
   cases v2
   · go_wp2
     go_ret
     exact ⟨ret_bool (by rw [← Hr.out]; simp [hasL, H2.out]), hB2⟩
   · have hn : n ≤ 64 := by have h := H2.out; have := Hln.out; simp [validL] at h; omega
     have Hi : Hid (inL (l.drop 0) ⟨vk, vi, vt⟩ = r) := by
      show _ = _
      rw [← Hr.out]; simp [hasL, H1.out, H2.out]
     have hSS := zH (Hs.out.keep (keeps_of hB2))
     clear hx1 hb1 hB1 hb2 Hr
     go_wp2
     go_loopw [17] (fun i wr => ∃ k : Nat, k ≤ n ∧ i = .int .i64 (k : Int) ∧ Hid (inL (l.drop k) ⟨vk, vi, vt⟩ = r) ∧ Below w2.heap.size w2 wr) (fun i _ => n - (intOf i).toNat)
     case atStart => exact ⟨0, by omega, rfl, Hi, Below.refl _ _⟩
     case round =>
      obtain ⟨k, hk, rfl, hinv, hb⟩ := hrel
      by_cases hlt : k < n
      · obtain ⟨b, o, x, rfl, hx, hc⟩ := (hSS.out.keep (keeps_of hb)).at hlt
        have Hst := zH (in_step hx hinv.out)
        obtain ⟨⟨fk, fi, ft⟩, ⟨tk, ti, tt⟩, xo⟩ := x
        obtain ⟨c0, c1, c2, c3, c4, c5, c6⟩ := IvAt.of hc
        dsimp only at c0 c1 c2 c3 c4 c5 c6
        clear hx hc
        have hx3 := hx2.below hb
        have hbox := hx3.alloc (.cells #[.int .i64 fk, .int .i64 fi, .string ft, .int .i64 tk, .int .i64 ti, .string tt, .bool xo] 187)
        have hboxc := hbox.cell
        obtain ⟨d1, D1⟩ : ∃ v, Hid (cmpV ⟨fk, fi, ft⟩ ⟨vk, vi, vt⟩ = v) := ⟨_, rfl⟩
        obtain ⟨d2, D2⟩ : ∃ v, Hid (cmpV ⟨vk, vi, vt⟩ ⟨tk, ti, tt⟩ = v) := ⟨_, rfl⟩
        go_wp2_with fail
        refine (compare_any ⟨fk, fi, ft⟩ ⟨vk, vi, vt⟩ _).mono ?_
        rintro e w3 ⟨rfl, hb3⟩
        rw [D1.out]
        have hB3 := Below.next (hb.alloc hb.size _) hb3
        have z1 := (hbox.below hb3).cell
        have z2 := ((Blk.new wr 187 #[.int .i64 fk, .int .i64 fi, .string ft, .int .i64 tk, .int .i64 ti, .string tt, .bool xo]).below hb3).cell
        clear hboxc
        by_cases g1 : d1 ≤ 0
        · cases xo
          · go_wp2_with fail
            refine (compare_any ⟨vk, vi, vt⟩ ⟨tk, ti, tt⟩ _).mono ?_
            rintro e w4 ⟨rfl, hb4⟩
            rw [D2.out]
            have hB4 := Below.next hB3 hb4
            rcases Int.lt_or_le d2 0 with g2 | g2
            · go_wp2
              go_ret
              exact ⟨ret_bool (by rw [Hst.out]; simp [inI, D1.out, D2.out, g1, g2]), Below.next hB2 hB4⟩
            · go_wp2
              go_roundw
              case rel => exact ⟨k + 1, by omega, by go_num, (by show _ = _; rw [Hst.out]; simp [inI, D1.out, D2.out, g1]; omega), hB4⟩
              case measure => simp [intOf]; omega
          · go_wp2
            go_ret
            exact ⟨ret_bool (by rw [Hst.out]; simp [inI, D1.out, g1]), Below.next hB2 hB3⟩
        · go_wp2
          go_roundw
          case rel => exact ⟨k + 1, by omega, by go_num, (by show _ = _; rw [Hst.out]; simp [inI, D1.out]; intros; omega), hB3⟩
          case measure => simp [intOf]; omega
      · go_wp2
        go_ret
        exact ⟨ret_bool (by rw [← hinv.out, List.drop_eq_nil_of_le (by have := Hln.out; omega)]; rfl), Below.next hB2 hb⟩
def opR (k : Int) : Bool → Bool → Bool := if k = 1 then opU else if k = 2 then opI else opM
def segI (P : List Vl) (i : Nat) : Iv := match P[i + 1]? with
 | some q => ⟨P.getD i zeroV, q, false⟩
 | none => ⟨P.getD i zeroV, zeroV, true⟩
def joinL (L : List Iv) (x : Iv) : List Iv := match L.getLast? with
 | none => L ++ [x]
 | some y => if !y.o && decide (cmpV y.t x.f = 0) then L.dropLast ++ [⟨y.f, x.t, x.o⟩] else L ++ [x]
def ptsSet (a b : List Iv) : List Vl := (setL ((ptsR [a, b]).map fun v => [v])).map (fun r => r.headD zeroV)
theorem ptsSet_eq {a b : List Iv} {L : List Vl} (h : L.map (fun v => [v]) = setL ((ptsR [a, b]).map fun v => [v])) : ptsSet a b = L := by
 unfold ptsSet
 rw [← h, List.map_map]
 conv => rhs; rw [← List.map_id L]
 exact List.map_congr_left (fun _ _ => rfl)
def combStep (op : Bool → Bool → Bool) (a b : List Iv) (P : List Vl) (acc : List Iv) (i : Nat) : List Iv := if op (inL a (P.getD i zeroV)) (inL b (P.getD i zeroV)) then joinL acc (segI P i) else acc
def combTo (op : Bool → Bool → Bool) (a b : List Iv) (P : List Vl) (k : Nat) : List Iv := (List.range k).foldl (combStep op a b P) []
def combR (op : Bool → Bool → Bool) (a b : List Iv) : List Iv := combTo op a b (ptsSet a b) (ptsSet a b).length
def seg : Vl → List Vl → Iv
 | p, [] => ⟨p, zeroV, true⟩
 | p, q :: _ => ⟨p, q, false⟩
def cmb (g : Vl → Bool) : List Iv → List Vl → List Iv
 | acc, [] => acc
 | acc, p :: P => cmb g (if g p then joinL acc (seg p P) else acc) P
theorem joinL_snoc (out : List Iv) (y x : Iv) : joinL (out ++ [y]) x = if !y.o && decide (cmpV y.t x.f = 0) then out ++ [⟨y.f, x.t, x.o⟩] else out ++ [y] ++ [x] := by
 simp [joinL]
def lowEnd (acc : List Iv) (P : List Vl) : Prop := ∀ y, acc.getLast? = some y → y.o = false ∧ ∀ p ∈ P, cmpV y.t p < 0
theorem joinL_low {acc : List Iv} {p : Vl} {P : List Vl} (h : lowEnd acc (p :: P)) : joinL acc (seg p P) = acc ++ [seg p P] := by
 unfold joinL
 cases hl : acc.getLast? with
 | none => rfl
 | some y =>
   have h1 := (h y hl).2 p List.mem_cons_self
   have e : (seg p P).f = p := by cases P <;> rfl
   have : ¬ cmpV y.t p = 0 := by omega
   simp [e, this]
theorem cmb_eq (g : Vl → Bool) : ∀ (P : List Vl), ascV P →
 (∀ acc, lowEnd acc P → cmb g acc P = acc ++ ivsOf (chg g false P)) ∧
 (∀ out x p P', P = p :: P' → cmb g (out ++ [⟨x, p, false⟩]) P = out ++ ivsOf (x :: chg g true P)) ∧ (P = [] → ∀ out x, cmb g (out ++ [⟨x, zeroV, true⟩]) P = out ++ ivsOf (x :: chg g true P))
 | [], _ => ⟨fun acc _ => by simp [cmb, chg, ivsOf], (fun out x p P' h => by cases h), fun _ out x => by simp [cmb, chg, ivsOf]⟩
 | p :: P, h => by
   have k := List.pairwise_cons.1 h
   obtain ⟨i1, i2, i3⟩ := cmb_eq g P k.2
   have go : ∀ out x, cmb g (out ++ [⟨x, (seg p P).t, (seg p P).o⟩]) P = out ++ ivsOf (x :: chg g true P) := by
    intro out x
    cases P with
    | nil => exact i3 rfl out x
    | cons q P' => exact i2 out x q P' rfl
   refine ⟨fun acc hacc => ?_, fun out x p' P' e => ?_, fun h => by cases h⟩
   · rw [cmb, chg]
     cases hg : g p
     · simp only [Bool.false_eq_true, if_false, if_true]
       exact i1 acc (fun y hy => ⟨(hacc y hy).1, fun q hq => (hacc y hy).2 q (List.mem_cons_of_mem _ hq)⟩)
     · simp only [if_true, Bool.true_eq_false, if_false]
       rw [joinL_low hacc, ← go acc p]
       cases P <;> rfl
   · injection e with e1 e2
     subst e1 e2
     rw [cmb, chg]
     cases hg : g p
     · simp only [Bool.false_eq_true, if_false]
       rw [i1 _ (fun y hy => ?_), ivsOf, List.append_assoc]
       · rfl
       · have : y = ⟨x, p, false⟩ := by simpa using hy.symm
         subst this
         exact ⟨rfl, k.1⟩
     · simp only [if_true]
       rw [joinL_snoc]
       have e : (seg p P).f = p := by cases P <;> rfl
       simp only [e, cmpV_self, Bool.not_false, decide_true, Bool.and_self, if_true]
       exact go out x
theorem comb_fold (op : Bool → Bool → Bool) (a b : List Iv) (P : List Vl) : ∀ (R S : List Vl) (acc : List Iv), P = S ++ R →
 ((List.range' S.length R.length).foldl (combStep op a b P) acc) = cmb (fun p => op (inL a p) (inL b p)) acc R
 | [], S, acc, _ => by simp [cmb]
 | p :: R, S, acc, h => by
   have e1 : P.getD S.length zeroV = p := by rw [h]; simp
   have e2 : segI P S.length = seg p R := by
    unfold segI
    rw [e1]
    have : P[S.length + 1]? = R[0]? := by rw [h, List.getElem?_append_right (by omega)]; simp
    rw [this]
    cases R <;> rfl
   have ih := comb_fold op a b P R (S ++ [p]) (combStep op a b P acc S.length) (by rw [h]; simp)
   rw [List.length_cons, List.range'_succ, List.foldl_cons, cmb]
   rw [List.length_append, List.length_singleton] at ih
   rw [ih]
   unfold combStep
   rw [e1, e2]
theorem combR_eq (op : Bool → Bool → Bool) (a b : List Iv) : combR op a b = cmb (fun p => op (inL a p) (inL b p)) [] (ptsSet a b) := by
 have := comb_fold op a b (ptsSet a b) (ptsSet a b) [] [] rfl
 unfold combR combTo
 rw [List.range_eq_range']
 exact this
theorem one_lt (a b : Vl) : cmpR [a] [b] = cmpV a b := by
 simp only [cmpR]
 split <;> omega
theorem ptsSet_spec (a b : List Iv) : ascV (ptsSet a b) ∧ ∀ v, v ∈ ptsSet a b ↔ v ∈ ptsL a ∨ v ∈ ptsL b := by
 obtain ⟨L, hL⟩ := setL_ones (ptsR [a, b])
 rw [ptsSet_eq hL]
 refine ⟨?_, fun v => ?_⟩
 · have := setL_asc ((ptsR [a, b]).map fun v => [v])
   rw [← hL] at this
   have h2 := List.pairwise_map.1 this
   exact h2.imp_of_mem (fun {x y} _ _ h => by rw [one_lt] at h; exact h)
 · have := setL_mem ((ptsR [a, b]).map fun v => [v]) [v]
   rw [← hL] at this
   simpa [ptsR] using this
theorem comb_spec (op : Bool → Bool → Bool) (hop : op false false = false) {a b : List Iv} (ha : ordFrom none a = true) (hb : ordFrom none b = true) :
 ordFrom none (combR op a b) = true ∧ ∀ v, inL (combR op a b) v = op (inL a v) (inL b v) := by
 obtain ⟨a1, a2, a3, _⟩ := ord_pts a none ha
 obtain ⟨b1, b2, b3, _⟩ := ord_pts b none hb
 obtain ⟨hP, hm⟩ := ptsSet_spec a b
 have ia : ∀ v, inL a v = par (ptsL a) v := fun v => by rw [← in_ivs v _ a2, a1]
 have ib : ∀ v, inL b v = par (ptsL b) v := fun v => by rw [← in_ivs v _ b2, b1]
 have e : combR op a b = ivsOf (chg (fun p => op (inL a p) (inL b p)) false (ptsSet a b)) := by
  rw [combR_eq, (cmb_eq _ _ hP).1 [] (fun y h => by cases h)]
  rfl
 rw [e]
 refine ⟨ord_ivs _ _ (chg_asc _ _ _ hP) (fun v hv => ?_) (fun y h => by cases h), fun v => ?_⟩
 · rcases (hm v).1 ((chg_sub _ _ _).1 v hv) with h | h
   · exact a3 v h
   · exact b3 v h
 · rw [in_ivs v _ (chg_asc _ _ _ hP)]
   have h := chg_par (fun p => op (inL a p) (inL b p)) v (ptsSet a b) false hP
   rw [ia v, ib v, par_last hP (fun q hq => (hm q).2 (.inl hq)) v, par_last hP (fun q hq => (hm q).2 (.inr hq)) v]
   have h' : par (chg (fun p => op (inL a p) (inL b p)) false (ptsSet a b)) v = (match lastLe (ptsSet a b) v with | none => false | some u => op (inL a u) (inL b u)) := by rw [Bool.false_xor] at h; exact h
   rw [h']
   cases lastLe (ptsSet a b) v with
   | none => exact hop.symm
   | some u => show op (inL a u) (inL b u) = _; rw [ia u, ib u]
theorem comb_merge (op : Bool → Bool → Bool) (hop : op false false = false) {a b : List Iv} (ha : ordFrom none a = true) (hb : ordFrom none b = true) : combR op a b = mergeL op a b := by
 obtain ⟨c1, c2⟩ := comb_spec op hop ha hb
 obtain ⟨m1, _, m2⟩ := merge_spec op hop ha hb
 exact ord_ext c1 m1 fun v _ => by rw [c2, m2]
theorem run_neqI (x y : Iv) (w : World) : (binOp .neq 187 (.agg #[.int .i64 x.f.k, .int .i64 x.f.i, .string x.f.t, .int .i64 x.t.k, .int .i64 x.t.i, .string x.t.t, .bool x.o]) (.agg #[.int .i64 y.f.k, .int .i64 y.f.i, .string y.f.t, .int .i64 y.t.k, .int .i64 y.t.i, .string y.t.t, .bool y.o])).run Tryz.prog w =
 .ok (.bool (decide (x ≠ y))) w := by
 obtain ⟨⟨a, b, c⟩, ⟨d, e, f⟩, g⟩ := x
 obtain ⟨⟨a', b', c'⟩, ⟨d', e', f'⟩, g'⟩ := y
 have h : decide ((⟨⟨a, b, c⟩, ⟨d, e, f⟩, g⟩ : Iv) ≠ ⟨⟨a', b', c'⟩, ⟨d', e', f'⟩, g'⟩) = !((a == a') && ((b == b') && ((c.toList == c'.toList) && ((d == d') && ((e == e') && ((f.toList == f'.toList) && (g == g'))))))) := by
  rw [Bool.eq_iff_iff]
  simp only [Iv.mk.injEq, Vl.mk.injEq, text_eq, decide_eq_true_eq, Bool.not_eq_true', Bool.and_eq_false_imp, beq_iff_eq, ne_eq, not_and, beq_eq_false_iff_ne, and_assoc]
 rw [h]
 clear h
 by_cases h1 : (a == a') = true
 · by_cases h2 : (b == b') = true
   · by_cases h3 : (c.toList == c'.toList) = true
     · by_cases h4 : (d == d') = true
       · by_cases h5 : (e == e') = true
         · by_cases h6 : (f.toList == f'.toList) = true
           · simp [go_sem, h1, h2, h3, h4, h5, h6]
             split <;> simp_all
           · simp [go_sem, h1, h2, h3, h4, h5, h6]
         · simp [go_sem, h1, h2, h3, h4, h5]
       · simp [go_sem, h1, h2, h3, h4]
     · simp [go_sem, h1, h2, h3]
   · simp [go_sem, h1, h2]
 · simp [go_sem, h1]
theorem Blk.newAt {w : World} {g : Nat} {T : TypeId} {cs : Array Value} (h : g = w.heap.size) : Blk (w.alloc (.cells cs T)) g T cs := by
 subst h
 exact Blk.new w T cs
def oneL (v : Vl) : List Iv × Int := if validV v then ([⟨v, (nextV v).1, !(nextV v).2⟩], 0) else ([], 10)
def kindL (k : Int) : List Iv × Int := if (firstV k).2 then ([⟨(firstV k).1, (firstV (wrap64 (k + 1))).1, !(firstV (wrap64 (k + 1))).2⟩], 0) else ([], 1)
structure Good (l : List Iv) (m : Nat) : Prop where
 ord : ordFrom none l = true
 pts : (ptsL l).length ≤ m
theorem Good.len {l : List Iv} {m : Nat} (h : Good l m) : 2 * l.length ≤ m + 1 := by
 have h1 := (ord_pts l none h.ord).1
 have h2 := ivs_len (ptsL l)
 rw [h1] at h2
 have := h.pts
 omega
theorem Good.mono {l : List Iv} {m n : Nat} (h : Good l m) (hn : m ≤ n) : Good l n := ⟨h.ord, by have := h.pts; omega⟩
theorem Good.nil (m : Nat) : Good [] m := ⟨rfl, by simp [ptsL]⟩
theorem Good.valid {l : List Iv} {m : Nat} (h : Good l m) (hm : m ≤ 127) : validL l = true := by
 have := h.len
 unfold validL
 rw [h.ord, Bool.and_true, decide_eq_true_eq]
 omega
theorem Good.merge {op : Bool → Bool → Bool} {a b : List Iv} {m n : Nat} (ha : Good a m) (hb : Good b n) (hop : op false false = false) : Good (mergeL op a b) (m + n) := by
 obtain ⟨h1, h2, _⟩ := merge_spec op hop ha.ord hb.ord
 exact ⟨h1, by have := ha.pts; have := hb.pts; omega⟩
theorem Good.comb {op : Bool → Bool → Bool} {a b : List Iv} {m n : Nat} (ha : Good a m) (hb : Good b n) (hop : op false false = false) : Good (combR op a b) (m + n) := by
 rw [comb_merge op hop ha.ord hb.ord]
 exact ha.merge hb hop
theorem good_ivs {P : List Vl} (h : ascV P) (hv : ∀ v ∈ P, validV v = true) : Good (ivsOf P) P.length := ⟨ord_ivs P none h hv (fun y h => by cases h), by rw [pts_ivs]; exact Nat.le_refl _⟩
theorem good_from {v : Vl} (hv : validV v = true) : Good (fromL v).1 2 := by
 have e : (fromL v).1 = ivsOf [v] := by unfold fromL; rw [if_pos hv]; rfl
 rw [e]
 exact (good_ivs (List.pairwise_singleton _ _) (fun w hw => by
  have : w = v := by simpa using hw
  rw [this]; exact hv)).mono (by simp)
theorem good_one {v : Vl} (hv : validV v = true) (hr : rngV v) : Good (oneL v).1 2 := by
 obtain ⟨h1, h2⟩ := nextV_good hv hr
 have e : (oneL v).1 = [⟨v, (nextV v).1, !(nextV v).2⟩] := by unfold oneL; rw [if_pos hv]
 rw [e]
 cases hb : (nextV v).2
 · rw [h2 hb]
   have := good_from hv
   unfold fromL at this
   rw [if_pos hv] at this
   exact this
 · obtain ⟨g1, g2, g3, _⟩ := h1 hb
   exact good_ivs (P := [v, (nextV v).1]) (List.pairwise_cons.2 ⟨fun w hw => by
    have : w = (nextV v).1 := by simpa using hw
    rw [this]; exact g3, List.pairwise_singleton _ _⟩) (fun w hw => by
    rcases List.mem_cons.1 hw with rfl | hw
    · exact hv
    · have : w = (nextV v).1 := by simpa using hw
      rw [this]; exact g1)
theorem iv_ne {w : World} {g : Nat} {A : Option Addr} {n : Nat} {l : List Iv} (hc : CaseAt w g) (h : IvS w A n l) : 0 < n → ∀ b o, A = some ⟨b, o, none⟩ → ¬ b = g := by
 rintro hn b o hA rfl
 obtain ⟨A', n', c', k', zs, hB, _⟩ := hc.ex
 obtain ⟨b', o', x, hA', hx, hxc⟩ := h.at hn
 rw [hA] at hA'
 injection hA' with h1
 injection h1 with h1 h2
 subst h1 h2
 have c0 := hxc 0 _ rfl
 have c1 := hxc 1 _ rfl
 rw [hB.cell] at c0 c1
 simp only [Nat.zero_mul, Nat.add_zero] at c0 c1
 rcases o with _ | _ | o <;> simp at c0 c1
theorem empty_list : (⟨#[]⟩ : ByteArray).toList = [] := by rw [ByteArray.toList_eq]
theorem kind3 : (kindL 3).1 = [⟨⟨3, 0, ⟨#[]⟩⟩, ⟨4, minI, ⟨#[]⟩⟩, false⟩] := by decide +kernel
theorem kind4 : (kindL 4).1 = [⟨⟨4, minI, ⟨#[]⟩⟩, ⟨5, 0, ⟨#[]⟩⟩, false⟩] := by decide +kernel
theorem kind5 : (kindL 5).1 = [⟨⟨5, 0, ⟨#[]⟩⟩, zeroV, true⟩] := by decide +kernel
theorem v3 : validV ⟨3, 0, ⟨#[]⟩⟩ = true := by decide +kernel
theorem v4 : validV ⟨4, minI, ⟨#[]⟩⟩ = true := by decide +kernel
theorem v5 : validV ⟨5, 0, ⟨#[]⟩⟩ = true := by decide +kernel
theorem kind_good {k : Int} (h : 3 ≤ k ∧ k ≤ 5) : Good (kindL k).1 2 := by
 have : k = 3 ∨ k = 4 ∨ k = 5 := by omega
 rcases this with rfl | rfl | rfl
 · rw [kind3]
   exact good_ivs (P := [⟨3, 0, ⟨#[]⟩⟩, ⟨4, minI, ⟨#[]⟩⟩]) (List.pairwise_cons.2 ⟨fun w hw => by
    have : w = ⟨4, minI, ⟨#[]⟩⟩ := by simpa using hw
    rw [this]; decide +kernel, List.pairwise_singleton _ _⟩) (fun w hw => by
    rcases List.mem_cons.1 hw with rfl | hw
    · exact v3
    · have : w = ⟨4, minI, ⟨#[]⟩⟩ := by simpa using hw
      rw [this]; exact v4)
 · rw [kind4]
   exact good_ivs (P := [⟨4, minI, ⟨#[]⟩⟩, ⟨5, 0, ⟨#[]⟩⟩]) (List.pairwise_cons.2 ⟨fun w hw => by
    have : w = ⟨5, 0, ⟨#[]⟩⟩ := by simpa using hw
    rw [this]; decide +kernel, List.pairwise_singleton _ _⟩) (fun w hw => by
    rcases List.mem_cons.1 hw with rfl | hw
    · exact v4
    · have : w = ⟨5, 0, ⟨#[]⟩⟩ := by simpa using hw
      rw [this]; exact v5)
 · rw [kind5]
   exact (good_ivs (P := [⟨5, 0, ⟨#[]⟩⟩]) (List.pairwise_singleton _ _) (fun w hw => by
    have : w = ⟨5, 0, ⟨#[]⟩⟩ := by simpa using hw
    rw [this]; exact v5)).mono (by simp)
theorem in_one1 (x : Iv) (w : Vl) : inL [x] w = (decide (cmpV x.f w ≤ 0) && (x.o || decide (cmpV w x.t < 0))) := by simp [inL, inI]
theorem kind_lo {v : Vl} (hv : validV v = true) (hr : rngV v) : (v.k = 3 → cmpV ⟨3, 0, ⟨#[]⟩⟩ v ≤ 0) ∧ (v.k = 4 → cmpV ⟨4, minI, ⟨#[]⟩⟩ v ≤ 0) ∧ (v.k = 5 → cmpV ⟨5, 0, ⟨#[]⟩⟩ v ≤ 0) := by
 obtain ⟨k, i, t⟩ := v
 have hm : minI = -9223372036854775808 := rfl
 have hr1 : minI ≤ i := hr.1
 have he := empty_list
 refine ⟨fun h => ?_, fun h => ?_, fun h => ?_⟩ <;> simp only at h <;> subst h
 · have h0 : i = 0 ∨ i = 1 := by
    simp [validV] at hv
    exact hv.1
   rw [cmpV_of, he]
   have ht : t.toList = [] := by
    simp [validV] at hv
    exact hv.2
   rw [ht]
   rcases h0 with rfl | rfl <;> decide
 · have ht : t.toList = [] := by simpa [validV] using hv
   rw [cmpV_of, he, ht, cmpI_self]
   unfold cmpI cmpB
   repeat' split
   all_goals omega
 · have h0 : i = 0 := by
    simp [validV] at hv
    exact hv.1
   subst h0
   rw [cmpV_of, he, cmpI_self, cmpI_self]
   simp only [ne_eq, not_true_eq_false, if_false]
   cases t.toList <;> simp [cmpB]
theorem kind_in {k : Int} (h : 3 ≤ k ∧ k ≤ 5) {w : Vl} (hv : validV w = true) (hr : rngV w) : inL (kindL k).1 w = decide (w.k = k) := by
 obtain ⟨h3, h4, h5⟩ := kind_lo hv hr
 have hk : k = 3 ∨ k = 4 ∨ k = 5 := by omega
 have low : ∀ {a : Vl}, a.k < w.k → cmpV a w ≤ 0 ∧ ¬ cmpV w a < 0 := fun {a} h => by
  have h1 := cmpV_kind h
  have h2 := cmpV_anti a w
  omega
 have high : ∀ {a : Vl}, w.k < a.k → ¬ cmpV a w ≤ 0 ∧ cmpV w a < 0 := fun {a} h => by
  have h1 := cmpV_kind h
  have h2 := cmpV_anti a w
  omega
 have same : ∀ {a : Vl}, cmpV a w ≤ 0 → ¬ cmpV w a < 0 := fun {a} h => by
  have h2 := cmpV_anti a w
  omega
 rcases hk with rfl | rfl | rfl
 · rw [kind3, in_one1, Bool.eq_iff_iff]
   simp only [Bool.and_eq_true, Bool.false_or, decide_eq_true_eq]
   rcases Int.lt_trichotomy w.k 3 with h | h | h
   · exact ⟨fun e => absurd e.1 (high (a := ⟨3, 0, ⟨#[]⟩⟩) h).1, fun e => by omega⟩
   · exact ⟨fun _ => h, fun _ => ⟨h3 h, (high (a := ⟨4, minI, ⟨#[]⟩⟩) (by simp only; omega)).2⟩⟩
   · refine ⟨fun e => absurd e.2 ?_, fun e => by omega⟩
     rcases Int.lt_or_eq_of_le (show 4 ≤ w.k by omega) with h6 | h6
     · exact (low (a := ⟨4, minI, ⟨#[]⟩⟩) h6).2
     · exact same (h4 h6.symm)
 · rw [kind4, in_one1, Bool.eq_iff_iff]
   simp only [Bool.and_eq_true, Bool.false_or, decide_eq_true_eq]
   rcases Int.lt_trichotomy w.k 4 with h | h | h
   · exact ⟨fun e => absurd e.1 (high (a := ⟨4, minI, ⟨#[]⟩⟩) h).1, fun e => by omega⟩
   · exact ⟨fun _ => h, fun _ => ⟨h4 h, (high (a := ⟨5, 0, ⟨#[]⟩⟩) (by simp only; omega)).2⟩⟩
   · refine ⟨fun e => absurd e.2 ?_, fun e => by omega⟩
     rcases Int.lt_or_eq_of_le (show 5 ≤ w.k by omega) with h6 | h6
     · exact (low (a := ⟨5, 0, ⟨#[]⟩⟩) h6).2
     · exact same (h5 h6.symm)
 · rw [kind5, in_one1, Bool.eq_iff_iff]
   simp only [Bool.true_or, Bool.and_true, decide_eq_true_eq]
   rcases Int.lt_trichotomy w.k 5 with h | h | h
   · exact ⟨fun e => absurd e (high (a := ⟨5, 0, ⟨#[]⟩⟩) h).1, fun e => by omega⟩
   · exact ⟨fun _ => h, fun _ => h5 h⟩
   · have : w.k ≤ 5 := by
      have := valid_kind (k := w.k) (i := w.i) (t := w.t) hv
      omega
     omega
theorem from_in {v w : Vl} (hv : validV v = true) : inL (fromL v).1 w = decide (cmpV v w ≤ 0) := by
 unfold fromL
 rw [if_pos hv, in_one1]
 simp
theorem one_in {v w : Vl} (hv : validV v = true) : inL (oneL v).1 w = (decide (cmpV v w ≤ 0) && (!(nextV v).2 || decide (cmpV w (nextV v).1 < 0))) := by
 unfold oneL
 rw [if_pos hv, in_one1]
theorem one_sub {v : Vl} (hv : validV v = true) (hr : rngV v) (hk : 3 ≤ v.k) {w : Vl} (h : inL (oneL v).1 w = true) : inL (kindL v.k).1 w = true ∧ inL (fromL v).1 w = true := by
 rw [one_in hv] at h
 simp only [Bool.and_eq_true, Bool.or_eq_true, Bool.not_eq_true', decide_eq_true_eq] at h
 obtain ⟨h1, h2⟩ := h
 refine ⟨?_, by rw [from_in hv, decide_eq_true h1]⟩
 obtain ⟨l3, l4, l5⟩ := kind_lo hv hr
 obtain ⟨n1, n2⟩ := nextV_good hv hr
 have hk5 : v.k = 3 ∨ v.k = 4 ∨ v.k = 5 := by
  have := valid_kind (k := v.k) (i := v.i) (t := v.t) hv
  omega
 have up : ∀ {q : Vl}, validV q = true → rngV q → v.k < q.k → (nextV v).2 = true → cmpV w q < 0 := fun {q} q1 q2 q3 hb => by
  obtain ⟨_, _, _, m⟩ := n1 hb
  have h3 := m q q1 q2 (by rw [cmpV_kind q3]; decide)
  rcases h2 with h2 | h2
  · rw [hb] at h2; cases h2
  · exact cmpV_lt_of_lt h2 h3
 rcases hk5 with h | h | h
 · rw [h, kind3, in_one1]
   have hb : (nextV v).2 = true := by
    unfold nextV
    rw [if_pos hv]
    repeat' split
    all_goals first | rfl | (exfalso; omega) | skip
    rw [h]; decide +kernel
   simp only [Bool.false_or, Bool.and_eq_true, decide_eq_true_eq]
   exact ⟨cmpV_trans (l3 h) h1, up v4 ⟨Int.le_refl _, by show minI ≤ 9223372036854775807; decide⟩ (by rw [h]; decide) hb⟩
 · rw [h, kind4, in_one1]
   have hb : (nextV v).2 = true := by
    unfold nextV
    rw [if_pos hv]
    repeat' split
    all_goals first | rfl | (exfalso; omega) | skip
    rw [h]; decide +kernel
   simp only [Bool.false_or, Bool.and_eq_true, decide_eq_true_eq]
   exact ⟨cmpV_trans (l4 h) h1, up v5 ⟨by show minI ≤ 0; decide, by show (0 : Int) ≤ 9223372036854775807; decide⟩ (by rw [h]; decide) hb⟩
 · rw [h, kind5, in_one1]
   simp only [Bool.true_or, Bool.and_true, decide_eq_true_eq]
   exact cmpV_trans (l5 h) h1
theorem strip_all (l : List UInt8) : ∀ n, strip l n = 0 → ∀ i, i < n → l.getD i 0 = 255
 | 0, _, i, hi => absurd hi (by omega)
 | n + 1, h, i, hi => by
   unfold strip at h
   split at h
   · rename_i h1
     rcases Nat.lt_or_eq_of_le (Nat.le_of_lt_succ hi) with h2 | h2
     · exact strip_all l n h i h2
     · rw [h2]; exact h1
   · omega
theorem top_le : ∀ (l q : List UInt8), (∀ x ∈ l, x = 255) → q.length ≤ l.length → ¬ cmpB l q < 0
 | [], [], _, _ => by simp [cmpB]
 | [], _ :: _, _, h => by simp at h
 | _ :: _, [], _, _ => by simp [cmpB]
 | a :: l, b :: q, ha, h => by
   obtain rfl : a = 255 := ha a List.mem_cons_self
   have ih := top_le l q (fun x hx => ha x (List.mem_cons_of_mem _ hx)) (by simpa using h)
   have h1 : ¬ (255 : UInt8) < b := by
    intro h2
    have h3 := b.toNat_lt
    have h4 : (255 : UInt8).toNat < b.toNat := UInt8.lt_iff_toNat_lt.1 h2
    have : (255 : UInt8).toNat = 255 := rfl
    omega
   unfold cmpB
   rw [if_neg h1]
   split
   · omega
   · exact ih
theorem next_none {v : Vl} (hv : validV v = true) (hr : rngV v) (h : (nextV v).2 = false) {w : Vl} (hw : validV w = true) (hrw : rngV w) (hlt : cmpV v w < 0) : False := by
 obtain ⟨k, i, t⟩ := v
 unfold nextV at h
 rw [if_pos hv] at h
 have hk := valid_kind hv
 have hwk := valid_kind (k := w.k) (i := w.i) (t := w.t) hw
 split at h
 · cases h
 · split at h
   · cases h
   · split at h
     · rename_i h5
       simp only at h5
       subst h5
       have hi : i = 0 := by
        simp [validV] at hv
        exact hv.1
       have ht := valid_size hv
       subst hi
       simp only at h
       unfold nextT at h
       split at h
       · cases h
       · rename_i hs
         split at h
         · rename_i hz
           have hw5 : w.k = 5 ∧ w.i = 0 ∧ w.t.size ≤ 64 := by
            rcases lt_cases hlt with h1 | ⟨h1, h2⟩ | ⟨h1, h2, _⟩
            · simp only at h1; omega
            · simp only at h1 h2
              obtain ⟨wk, wi, wt⟩ := w
              simp only at h1 h2
              subst h1
              have : wi = 0 := by
               simp [validV] at hw
               exact hw.1
              omega
            · simp only at h1 h2
              obtain ⟨wk, wi, wt⟩ := w
              simp only at h1 h2
              subst h1
              exact ⟨rfl, h2.symm, valid_size hw⟩
           obtain ⟨w5, w0, ws⟩ := hw5
           rw [cmpV_text (a := ⟨5, 0, t⟩) (b := w) w5.symm w0.symm, bytes_list, bytes_list] at hlt
           refine top_le _ _ (fun x hx => ?_) ?_ hlt
           · obtain ⟨j, hj, rfl⟩ := List.mem_iff_getElem.1 hx
             have h3 := strip_all _ _ hz j (by simpa using hj)
             rw [List.getD_eq_getElem?_getD, List.getElem?_eq_getElem hj] at h3
             exact h3
           · have e1 : w.t.data.toList.length = w.t.size := by simp
             have e2 : t.data.toList.length = t.size := by simp
             have e3 : ¬ t.size < 64 := hs
             show w.t.data.toList.length ≤ t.data.toList.length
             omega
         · cases h
     · rename_i h3 h4 h5
       simp only at h3 h4 h5 h
       have hk2 : k = 1 ∨ k = 2 ∨ k = 3 ∨ k = 4 := by omega
       unfold firstV at h
       rcases hk2 with rfl | rfl | rfl | rfl <;> simp at h
def cmpSet (cm : Int) (v : Vl) : List Iv :=
 let kd := (kindL v.k).1
 let fr := (fromL v).1
 let on := (oneL v).1
 if cm = 1 then on else if cm = 2 then combR opM kd on else if cm = 3 then combR opM kd fr else if cm = 4 then combR opU (combR opM kd fr) on
 else if cm = 5 then combR opM (combR opI kd fr) on else combR opI kd fr
def cmpSet2 (cm : Int) (v : Vl) : List Iv :=
 let kd := (kindL v.k).1
 let fr := (fromL v).1
 let on := (oneL v).1
 let less := (combineL opM kd fr).1
 let g1 := (combineL opM kd less).1
 let gr := (combineL opM g1 on).1
 if cm = 2 then (combineL opU less gr).1 else if cm = 3 then less else if cm = 4 then (combineL opU less on).1 else if cm = 5 then gr else if cm = 6 then (combineL opU on gr).1 else on
theorem combine_good {op : Bool → Bool → Bool} {a b : List Iv} {m n : Nat} (ha : Good a m) (hb : Good b n) (hop : op false false = false) (h : m + n ≤ 127) : (combineL op a b).1 = mergeL op a b := by
 unfold combineL
 have h1 := ha.valid (by omega)
 have h2 := hb.valid (by omega)
 have h3 := (ha.merge hb hop).len
 rw [h1, h2]
 simp only [Bool.and_self, if_true]
 rw [if_pos (by omega)]
theorem merge_in (op : Bool → Bool → Bool) {a b : List Iv} {m n : Nat} (ha : Good a m) (hb : Good b n) (hop : op false false = false) (v : Vl) : inL (mergeL op a b) v = op (inL a v) (inL b v) := (merge_spec op hop ha.ord hb.ord).2.2 v
section
variable {v : Vl} (hv : validV v = true) (hr : rngV v) (hk : 3 ≤ v.k)
include hv hr hk
theorem cmpSet_eq (cm : Int) (hc : 1 ≤ cm ∧ cm ≤ 6) : cmpSet2 cm v = cmpSet cm v ∧ Good (cmpSet cm v) 8 := by
 have hk5 : 3 ≤ v.k ∧ v.k ≤ 5 := by
  have := valid_kind (k := v.k) (i := v.i) (t := v.t) hv
  omega
 have gk := kind_good hk5
 have gf := good_from hv
 have go := good_one hv hr
 have oM : opM false false = false := rfl
 have oU : opU false false = false := rfl
 have oI : opI false false = false := rfl
 have e1 := combine_good gk gf oM (by omega)
 have gl := gk.merge gf oM
 have e2 := combine_good gk gl oM (by omega)
 have gg := gk.merge gl oM
 have e3 := combine_good gg go oM (by omega)
 have gr := gg.merge go oM
 have hsub : ∀ w, inL (oneL v).1 w = true → inL (kindL v.k).1 w = true ∧ inL (fromL v).1 w = true := fun w hw => one_sub hv hr hk hw
 have c1 := comb_merge opM oM gk.ord go.ord
 have c2 := comb_merge opM oM gk.ord gf.ord
 have c3 := comb_merge opI oI gk.ord gf.ord
 have gi := gk.merge gf oI
 have gm1 := gk.merge go oM
 have gm2 := gi.merge go oM
 have gm3 := gl.merge go oU
 have ug := gl.merge gr oU
 have ug2 := go.merge gr oU
 have hcm : cm = 1 ∨ cm = 2 ∨ cm = 3 ∨ cm = 4 ∨ cm = 5 ∨ cm = 6 := by omega
 have fin : ∀ {a b : List Iv} {m n : Nat}, Good a m → Good b n → n ≤ 8 → (∀ w, inL a w = inL b w) → a = b ∧ Good b 8 := fun ga gb hn h => ⟨ord_ext ga.ord gb.ord fun w _ => h w, gb.mono hn⟩
 have key : ∀ w, (inL (mergeL opM (kindL v.k).1 (fromL v).1) w = (inL (kindL v.k).1 w && !inL (fromL v).1 w)) ∧ (inL (mergeL opM (mergeL opM (kindL v.k).1 (mergeL opM (kindL v.k).1 (fromL v).1)) (oneL v).1) w = (inL (kindL v.k).1 w && inL (fromL v).1 w && !inL (oneL v).1 w)) := fun w => by
  rw [merge_in _ gg go oM, merge_in _ gk gl oM, merge_in _ gk gf oM]
  refine ⟨rfl, ?_⟩
  simp only [opM]
  cases inL (kindL v.k).1 w <;> cases inL (fromL v).1 w <;> cases inL (oneL v).1 w <;> rfl
 rcases hcm with rfl | rfl | rfl | rfl | rfl | rfl
 · exact ⟨rfl, go.mono (by omega)⟩
 · have e4 := combine_good gl gr oU (by omega)
   simp only [cmpSet, cmpSet2, e1, e2, e3, e4, c1, reduceIte, Int.reduceEq]
   refine fin ug gm1 (by omega) fun w => ?_
   obtain ⟨k1, k2⟩ := key w
   rw [merge_in _ gl gr oU, k1, k2, merge_in _ gk go oM]
   simp only [opM, opU]
   have h := hsub w
   cases ho : inL (oneL v).1 w
   · cases inL (kindL v.k).1 w <;> cases inL (fromL v).1 w <;> rfl
   · rw [(h ho).1, (h ho).2]; rfl
 · simp only [cmpSet, cmpSet2, e1, c2, reduceIte, Int.reduceEq]
   exact ⟨trivial, gl.mono (by omega)⟩
 · have e4 := combine_good gl go oU (by omega)
   have c4 := comb_merge opU oU gl.ord go.ord
   simp only [cmpSet, cmpSet2, e1, e4, c2, c4, reduceIte, Int.reduceEq]
   exact ⟨trivial, gm3.mono (by omega)⟩
 · have c4 := comb_merge opM oM gi.ord go.ord
   simp only [cmpSet, cmpSet2, e1, e2, e3, c3, c4, reduceIte, Int.reduceEq]
   refine fin gr gm2 (by omega) fun w => ?_
   rw [(key w).2, merge_in _ gi go oM, merge_in _ gk gf oI]
   rfl
 · have e4 := combine_good go gr oU (by omega)
   simp only [cmpSet, cmpSet2, e1, e2, e3, e4, c3, reduceIte, Int.reduceEq]
   refine fin ug2 gi (by omega) fun w => ?_
   rw [merge_in _ go gr oU, (key w).2, merge_in _ gk gf oI]
   simp only [opU, opI]
   have h := hsub w
   cases ho : inL (oneL v).1 w
   · cases inL (kindL v.k).1 w <;> cases inL (fromL v).1 w <;> rfl
   · rw [(h ho).1, (h ho).2]; rfl
theorem cmpSet_in (cm : Int) (hc : 1 ≤ cm ∧ cm ≤ 6) {w : Vl} (hw : validV w = true) (hrw : rngV w) : inL (cmpSet cm v) w = (decide (w.k = v.k) && cmpB2 cm (cmpV w v)) := by
 have hk5 : 3 ≤ v.k ∧ v.k ≤ 5 := by
  have := valid_kind (k := v.k) (i := v.i) (t := v.t) hv
  omega
 have gk := kind_good hk5
 have gf := good_from hv
 have go := good_one hv hr
 have oM : opM false false = false := rfl
 have oU : opU false false = false := rfl
 have oI : opI false false = false := rfl
 have gl := gk.merge gf oM
 have gi := gk.merge gf oI
 have hK := kind_in hk5 hw hrw
 have hF : inL (fromL v).1 w = decide (0 ≤ cmpV w v) := by
  rw [from_in hv, Bool.eq_iff_iff]
  have := cmpV_anti v w
  simp only [decide_eq_true_eq]
  omega
 have hO : inL (oneL v).1 w = decide (cmpV w v = 0) := by
  rw [one_in hv, Bool.eq_iff_iff]
  simp only [Bool.and_eq_true, Bool.or_eq_true, Bool.not_eq_true', decide_eq_true_eq]
  obtain ⟨n1, n2⟩ := nextV_good hv hr
  have ha := cmpV_anti v w
  have hb := cmpV_anti w v
  constructor
  · rintro ⟨h1, h2⟩
    rcases h2 with h2 | h2
    · rcases Int.lt_or_eq_of_le h1 with h3 | h3
      · exfalso
        exact next_none hv hr h2 hw hrw h3
      · omega
    · rcases Int.lt_or_eq_of_le h1 with h3 | h3
      · exfalso
        cases hb2 : (nextV v).2
        · exact next_none hv hr hb2 hw hrw h3
        · obtain ⟨_, _, _, m⟩ := n1 hb2
          have h4 := m w hw hrw h3
          have h5 := cmpV_anti w (nextV v).1
          omega
      · omega
  · intro h
    have e : w = v := (cmpV_zero w v).1 h
    subst e
    refine ⟨by omega, ?_⟩
    cases hb2 : (nextV w).2
    · exact .inl rfl
    · exact .inr (n1 hb2).2.2.1
 have hz : cmpV w v = 0 → w.k = v.k := fun h => by rw [(cmpV_zero w v).1 h]
 have hcm : cm = 1 ∨ cm = 2 ∨ cm = 3 ∨ cm = 4 ∨ cm = 5 ∨ cm = 6 := by omega
 have fin : ∀ {p q : Bool}, (p = true ↔ q = true) → p = q := fun h => Bool.eq_iff_iff.2 h
 rcases hcm with rfl | rfl | rfl | rfl | rfl | rfl
 · simp only [cmpSet, cmpB2, reduceIte]
   rw [hO]
   refine fin ?_
   simp only [Bool.and_eq_true, decide_eq_true_eq]
   exact ⟨fun h => ⟨hz h, h⟩, fun h => h.2⟩
 · simp only [cmpSet, cmpB2, reduceIte, Int.reduceEq]
   rw [comb_merge opM oM gk.ord go.ord, merge_in _ gk go oM, hK, hO]
   refine fin ?_
   simp only [opM, Bool.and_eq_true, Bool.not_eq_true', decide_eq_true_eq, decide_eq_false_iff_not, ne_eq]
 · simp only [cmpSet, cmpB2, reduceIte, Int.reduceEq]
   rw [comb_merge opM oM gk.ord gf.ord, merge_in _ gk gf oM, hK, hF]
   refine fin ?_
   simp only [opM, Bool.and_eq_true, Bool.not_eq_true', decide_eq_true_eq, decide_eq_false_iff_not]
   omega
 · simp only [cmpSet, cmpB2, reduceIte, Int.reduceEq]
   rw [comb_merge opM oM gk.ord gf.ord, comb_merge opU oU gl.ord go.ord, merge_in _ gl go oU, merge_in _ gk gf oM, hK, hF, hO]
   refine fin ?_
   simp only [opM, opU, Bool.and_eq_true, Bool.or_eq_true, Bool.not_eq_true', decide_eq_true_eq, decide_eq_false_iff_not]
   constructor
   · rintro (h | h)
     · exact ⟨h.1, by omega⟩
     · exact ⟨hz h, by omega⟩
   · intro h
     omega
 · simp only [cmpSet, cmpB2, reduceIte, Int.reduceEq]
   rw [comb_merge opI oI gk.ord gf.ord, comb_merge opM oM gi.ord go.ord, merge_in _ gi go oM, merge_in _ gk gf oI, hK, hF, hO]
   refine fin ?_
   simp only [opM, opI, Bool.and_eq_true, Bool.not_eq_true', decide_eq_true_eq, decide_eq_false_iff_not]
   omega
 · simp only [cmpSet, cmpB2, reduceIte, Int.reduceEq]
   rw [comb_merge opI oI gk.ord gf.ord, merge_in _ gk gf oI, hK, hF]
   refine fin ?_
   simp only [opI, Bool.and_eq_true, decide_eq_true_eq]
end
end Go.Proofs.YtnnmlhmffnfjfaaGreat
namespace Go.Proofs.YtnnmlhmffnfjfaaGreat
open Go.RowKit
open Rg
theorem rempty_any (x : Int) (f : Bool) (A : Option Addr) (n c : Nat) (r : Rg) (w : World) (hR : RgS w x f A n c r) :
 Calls Tryz.prog 103 #[.agg #[.int .i64 x, .bool f, .slice A n c]] w fun e w' => e = .returned (.bool r.nix) ∧ Below w.heap.size w w' := by
 rw [nix_len, ← hR.len, hR.hf]
 clear hR
 cases f
 · go_enter Tryz.func103, Tryz.ntmps103
   go_wp2
   go_ret
   refine ⟨ret_bool ?_, (Below.refl _ _).alloc (Nat.le_refl _) _⟩
   rw [Bool.eq_iff_iff]
   simp
 · go_enter Tryz.func103, Tryz.ntmps103
   go_wp2
   go_ret
   exact ⟨ret_bool (by simp), (Below.refl _ _).alloc (Nat.le_refl _) _⟩
set_option maxHeartbeats 1000000 in
theorem rsize_any (r : Rg) : ∀ (x : Int) (f : Bool) (A : Option Addr) (n c : Nat) (w : World), RgS w x f A n c r → r.size ≤ 1000000 →
 Calls Tryz.prog 244 #[.agg #[.int .i64 x, .bool f, .slice A n c]] w fun e w' => e = .returned (.int .i64 (r.size : Int)) ∧ Below w.heap.size w w' := by
 induction hsz : r.size using Nat.strongRecOn generalizing r with
 | _ s ih =>
   intro x f A n c w hR hb
   have hnl := hR.len
   have hns : n ≤ s := by have := len_le_size r; omega
   have Hsz := zH hsz
   have HI := zH ih
   have HR := zH hR
   have HL : Hid (n + sizeL (r.parts.drop 0) = s + n) := by
    show _ = _
    rw [List.drop_zero, ← size_parts, hsz]
    omega
   clear ih hR hsz hnl
   go_enter Tryz.func244, Tryz.ntmps244
   go_wp2
   have hB0 : Below w.heap.size w (w.alloc (.cells #[.int .i64 x, .bool f, .slice A n c] 71)) := (Below.refl _ _).alloc (Nat.le_refl _) _
   go_loopw [3, 12] (fun v i wr => ∃ (k q : Nat), k ≤ n ∧ i = .int .i64 (k : Int) ∧ v = .int .i64 (q : Int) ∧ Hid (q + sizeL (r.parts.drop k) = s + (n - k)) ∧ Below w.heap.size w wr) (fun _ i _ => n - (intOf i).toNat)
   case atStart => exact ⟨0, n, by omega, rfl, rfl, HL, hB0⟩
   case round =>
    obtain ⟨k, q, hk, rfl, rfl, Hq, hb1⟩ := hrel
    by_cases hlt : k < n
    · obtain ⟨b, o, p, A1, n1, c1, px, pf, A2, n2, c2, rfl, hp, hpt⟩ := (HR.out.keep (keeps_of hb1)).at hlt
      have hps := size_at hp
      rw [Hsz.out] at hps
      have Hd := zH (sizeL_drop hp)
      obtain ⟨d0, d1, d2, d3, hok, hvs, hrg⟩ := hpt
      have HRG := zH hrg
      clear hp hok hvs hrg
      have HI' := zH (HI.out p.2.size hps p.2 rfl)
      have hqb : q ≤ s + n := by have := Hq.out; omega
      go_wp2_with fail
      refine (HI'.out px pf A2 n2 c2 _ (HRG.out.keep (keeps_alloc _ _)) (by omega)).mono ?_
      rintro e w2 ⟨rfl, hb2⟩
      go_wp2
      go_roundw
      case rel =>
       refine ⟨k + 1, q + p.2.size, by omega, by go_num, by go_num, ?_, Below.next (hb1.alloc hb1.size _) hb2⟩
       show _ = _
       have h1 := Hq.out
       have h2 := Hd.out
       omega
      case measure => simp [intOf]; omega
    · go_wp2
      go_ret
      refine ⟨ret_i64 ?_, hb1⟩
      have h1 := Hq.out
      rw [List.drop_eq_nil_of_le (by rw [len_parts]; have := HR.out.len; omega)] at h1
      simp only [sizeL, List.map_nil, List.sum_nil] at h1
      omega
set_option maxHeartbeats 1000000 in
theorem few_any (w0 : World) (B : Nat) (hB : w0.heap.size ≤ B) (r : Rg) : ∀ (x : Int) (f : Bool) (A : Option Addr) (n c : Nat) (v : Nat) (w : World), RgS w0 x f A n c r → v ≤ 64 → Below w0.heap.size w0 w → Blk w B 3 #[.int .i64 (v : Int)] →
 Calls Tryz.prog 157 #[.agg #[.int .i64 x, .bool f, .slice A n c], .pointer (some ⟨B, 0, none⟩)] w fun e w' => e = .returned (.bool (decide (r.size ≤ v))) ∧ Below w0.heap.size w0 w' ∧ (r.size ≤ v → Blk w' B 3 #[.int .i64 ((v - r.size : Nat) : Int)]) := by
 induction hsz : r.size using Nat.strongRecOn generalizing r with
 | _ s ih =>
   intro x f A n c v w hR hv hb hblk
   have Hsz := zH hsz
   have HI := zH ih
   have HR := zH hR
   have HL : Hid (sizeL (r.parts.drop 0) = s) := by
    show _ = _
    rw [List.drop_zero, ← size_parts, hsz]
   have hs1 : w0.heap.size ≤ w.heap.size := hb.size
   have hBl := hblk.lt
   have hblk1 := zH (hblk.alloc (.cells #[.int .i64 x, .bool f, .slice A n c] 71))
   have hB1 := hb.alloc hs1 (.cells #[.int .i64 x, .bool f, .slice A n c] 71)
   have HB1 := zH hB1
   clear ih hR hsz hB1 hblk
   go_enter Tryz.func157, Tryz.ntmps157
   go_wp2
   go_loopw [10] (fun i wr => ∃ (k q : Nat), k ≤ n ∧ k ≤ 64 ∧ i = .int .i64 (k : Int) ∧ q + k ≤ v ∧ Hid (sizeL (r.parts.drop k) + v = s + q) ∧ Blk wr B 3 #[.int .i64 (q : Int)] ∧ Below w0.heap.size w0 wr) (fun i _ => n - (intOf i).toNat)
   case atStart => exact ⟨0, v, by omega, by omega, rfl, by omega, (by show _ = _; have := HL.out; omega), hblk1.out, HB1.out⟩
   case round =>
    obtain ⟨k, q, hk, hk64, rfl, hqv, Hq, hbk, hb1⟩ := hrel
    clear hblk1 HB1
    by_cases hlt : k < n
    · obtain ⟨b, o, p, A1, n1, c1, px, pf, A2, n2, c2, rfl, hp, hpt', hpt⟩ := HR.out.at2 (keeps_of hb1) hlt
      have hps := size_at hp
      rw [Hsz.out] at hps
      have Hd := zH (sizeL_drop hp)
      have HRG := zH hpt'.rg
      obtain ⟨d0, d1, d2, d3, hok, hvs, hrg⟩ := hpt
      clear hp hok hvs hrg hpt'
      have HI' := zH (HI.out p.2.size hps p.2 rfl)
      have hsz1 := hb1.size
      have hBlt := hbk.lt
      have hbk2 := hbk.alloc (.cells #[.slice A1 n1 c1, .int .i64 px, .bool pf, .slice A2 n2 c2] 141)
      have hba := hb1.alloc hsz1 (.cells #[.slice A1 n1 c1, .int .i64 px, .bool pf, .slice A2 n2 c2] 141)
      have hnew := Blk.new wr 141 #[.slice A1 n1 c1, .int .i64 px, .bool pf, .slice A2 n2 c2]
      have hc2 := hbk2.cell
      have hf2 := hbk2.free
      have hne : ¬ wr.heap.size = B := by omega
      have hss : (wr.setCell ⟨B, 0, none⟩ (.int .i64 ((q : Int) - 1))).heap.size = wr.heap.size := by simp [World.setCell]
      have hbs := zH ((hbk.set_ 0 (.int .i64 ((q : Int) - 1))).alloc (.cells #[.slice A1 n1 c1, .int .i64 px, .bool pf, .slice A2 n2 c2] 141))
      have hnews := Blk.new (wr.setCell ⟨B, 0, none⟩ (.int .i64 ((q : Int) - 1))) 141 #[.slice A1 n1 c1, .int .i64 px, .bool pf, .slice A2 n2 c2]
      rw [hss] at hnews
      have hbas := zH ((hb1.setCell (p := ⟨B, 0, none⟩) hB (.int .i64 ((q : Int) - 1))).alloc (by rw [hss]; exact hsz1) (.cells #[.slice A1 n1 c1, .int .i64 px, .bool pf, .slice A2 n2 c2] 141))
      have hcs := blocks_at hbs.out (i := 0) (u := .int .i64 ((q : Int) - 1)) rfl
      have hcn := hnews.cell
      clear hbk hbk2 hba hnew hnews
      rcases Nat.eq_zero_or_pos q with hq0 | hq0
      · have g1 : decide ((q : Int) - 1 < 0) = true := by simp; omega
        have H0 := zH hq0
        clear hq0
        go_wp2
        go_ret
        have hq0 := H0.out
        refine ⟨ret_bool ?_, hbas.out, fun h => ?_⟩
        · have h1 := Hq.out
          have h2 := Hd.out
          simp; omega
        · have h1 := Hq.out
          have h2 := Hd.out
          omega
      · have g1 : decide ((q : Int) - 1 < 0) = false := by simp; omega
        go_wp2_with fail
        refine (HI'.out px pf A2 n2 c2 (q - 1) _ HRG.out (by omega) hbas.out (by rw [show ((q - 1 : Nat) : Int) = (q : Int) - 1 by omega]; exact hbs.out)).mono ?_
        rintro e w2 ⟨rfl, hb2, hblk2⟩
        have Hblk2 := zH hblk2
        clear hblk2
        by_cases hfit : p.2.size ≤ q - 1
        · have g2 : decide (p.2.size ≤ q - 1) = true := by simp [hfit]
          go_wp2
          go_roundw
          case rel =>
           refine ⟨k + 1, q - 1 - p.2.size, by omega, by omega, by go_num, by omega, ?_, Hblk2.out hfit, hb2⟩
           show _ = _
           have h1 := Hq.out
           have h2 := Hd.out
           omega
          case measure => simp [intOf]; omega
        · have g2 : decide (p.2.size ≤ q - 1) = false := by simp; omega
          go_wp2
          go_ret
          refine ⟨ret_bool ?_, hb2, fun h => ?_⟩
          · have h1 := Hq.out
            have h2 := Hd.out
            simp; omega
          · have h1 := Hq.out
            have h2 := Hd.out
            omega
    · go_wp2
      go_ret
      have h1 := Hq.out
      rw [List.drop_eq_nil_of_le (by rw [len_parts]; have := HR.out.len; omega)] at h1
      simp only [sizeL, List.map_nil, List.sum_nil] at h1
      refine ⟨ret_bool ?_, hb1, fun _ => ?_⟩
      · simp; omega
      · rw [show v - s = q by omega]; exact hbk
end Go.Proofs.YtnnmlhmffnfjfaaGreat
