/-
  Texts: RPoints, First, IvOps, Has, RIn.
-/
import Derived.Test.YtmnmckblmoalkaaGreatB20
set_option linter.unusedVariables false
namespace Go.Proofs.YtmnmckblmoalkaaGreat
open Go.RowKit
set_option maxRecDepth 100000

/-- a slice of lists of intervals -/
abbrev LstP := Hd × List Iv
def lstc (p : LstP) : List Value := [.slice p.1.1 p.1.2.1 p.1.2.2]
structure LstOk (w : World) (p : LstP) : Prop where
  rd : IvS w p.1.1 p.1.2.1 p.2
  sm : p.1.2.1 ≤ 64
theorem LstOk.keep {w w' : World} {p : LstP} (h : LstOk w p) (hk : Keeps w w') : LstOk w' p := ⟨h.rd.keep hk, h.sm⟩
structure LstsS (w : World) (A : Option Addr) (n : Nat) (ps : List LstP) : Prop where
  sl : Sl 1 lstc w A n ps
  ok : ∀ p ∈ ps, LstOk w p
theorem LstsS.keep {w w' : World} {A : Option Addr} {n : Nat} {ps : List LstP} (h : LstsS w A n ps) (hk : Keeps w w') : LstsS w' A n ps := ⟨h.sl.keep hk, fun p hp => (h.ok p hp).keep hk⟩

/-- rows of one value each, collected in a row of the call's own -/
structure PSt (w0 : World) (col : List Vl) (Ao : Option Addr) (no co : Nat) (wr : World) : Prop where
  ex : ∃ qs : List RowP, qs.map (·.2) = col.map (fun v => [v]) ∧ wr.ownsRow w0.heap.size 44 1 (.slice Ao no co) no (qs.flatMap rowc) ∧ ∀ q ∈ qs, OwnRow wr w0.heap.size q
  len : col.length = no
  bel : Below w0.heap.size w0 wr
theorem PSt.below {w0 : World} {col : List Vl} {Ao : Option Addr} {no co : Nat} {wr wr' : World} (h : PSt w0 col Ao no co wr) (hb : Below wr.heap.size wr wr') : PSt w0 col Ao no co wr' := by
  obtain ⟨qs, h1, h2, h3⟩ := h.ex
  exact ⟨⟨qs, h1, own_at h2 (fun g _ hl _ => hb.block g hl), fun q hq => (h3 q hq).below hb⟩, h.len, Below.next h.bel hb⟩
theorem own_row1 {w : World} {base g : Nat} {v : Vl} (h : Blk w g 49 #[.int .i64 v.k, .int .i64 v.i, .string v.t]) (hb : base ≤ g) : OwnRow w base ((some ⟨g, 0, none⟩, 1, 1), [v]) :=
  ⟨⟨rfl, .inr ⟨g, 1, _, rfl, hb, h, Nat.le_refl 1, by decide, rfl, rfl⟩⟩, rfl⟩
theorem PSt.push {w0 : World} {col : List Vl} {Ao : Option Addr} {no co : Nat} {W : World} {v : Vl} {qs : List RowP} (hq : qs.map (·.2) = col.map (fun v => [v])) (hl : col.length = no)
    (ho : W.ownsRow w0.heap.size 44 1 (.slice Ao no co) no (qs.flatMap rowc)) (hr : ∀ q ∈ qs, OwnRow W w0.heap.size q) (hbel : Below w0.heap.size w0 W) {g : Nat} (hB : Blk W g 49 #[.int .i64 v.k, .int .i64 v.i, .string v.t]) (hg0 : w0.heap.size ≤ g)
    {g6 cap6 : Nat} {w6 : World} (hown6 : w6.ownsRow w0.heap.size 44 1 (.slice (some ⟨g6, 0, none⟩) (no + 1) cap6) (no + 1) (qs.flatMap rowc ++ [.slice (some ⟨g, 0, none⟩) 1 1]))
    (hg6 : (W.alloc (.cells #[.slice (some ⟨g, 0, none⟩) 1 1] 44)).grownBy w6 (Value.slice Ao no co).ownBlock) (hB6 : Below w0.heap.size W w6) : PSt w0 (col ++ [v]) (some ⟨g6, 0, none⟩) (no + 1) cap6 w6 := by
  have ho4 := ho.alloc (.cells #[.slice (some ⟨g, 0, none⟩) 1 1] 44)
  refine ⟨⟨qs ++ [((some ⟨g, 0, none⟩, 1, 1), [v])], by simp [hq], by rw [List.flatMap_append]; simpa [rowc] using hown6, fun q hq => ?_⟩, by simp [hl], hbel.trans hB6⟩
  rw [List.mem_append, List.mem_singleton] at hq
  rcases hq with hq | rfl
  · exact ((hr q hq).below ((Below.refl _ _).alloc (Nat.le_refl _) _)).grown ho4 hg6
  · exact ((own_row1 hB hg0).below ((Below.refl _ _).alloc (Nat.le_refl _) _)).grown ho4 hg6

theorem own_same {w : World} {base base' : Nat} {e : TypeId} {size n : Nat} {v : Value} {xs ys : List Value} (h : w.ownsRow base e size v n xs) (h' : w.ownsRow base' e size v n ys) : xs = ys := by
  rcases h.2 with ⟨rfl, hn⟩ | ⟨g, cap, cur, rfl, _, hh, _, _, _, ht⟩
  · have h1 := h.1
    have h2 := h'.1
    rw [hn, Nat.zero_mul] at h1 h2
    rw [List.eq_nil_of_length_eq_zero h1, List.eq_nil_of_length_eq_zero h2]
  · rcases h'.2 with ⟨hv, _⟩ | ⟨g', cap', cur', hv, _, hh', _, _, _, ht'⟩
    · cases hv
    · injection hv with h1 h2 h3
      injection h1 with h1
      injection h1 with h1
      subst h1
      rw [hh] at hh'
      injection hh' with hh'
      injection hh' with hc
      subst hc
      rw [← ht, ← ht']
def ptsR (ls : List (List Iv)) : List Vl := ls.flatMap ptsL
def PRel (w0 : World) (ps : List LstP) (n : Nat) (x i : Value) (wr : World) : Prop :=
  ∃ (k : Nat) (col : List Vl) (Ao : Option Addr) (no co : Nat), k ≤ n ∧ i = .int .i64 (k : Int) ∧ x = .slice Ao no co ∧ no ≤ 128 * k ∧ col = ptsR ((ps.take k).map (·.2)) ∧ PSt w0 col Ao no co wr
def PRelI (w0 w1 : World) (l : List Iv) (col0 : List Vl) (n0 m : Nat) (x i : Value) (wr : World) : Prop :=
  ∃ (j : Nat) (col : List Vl) (Ao : Option Addr) (no co : Nat), j ≤ m ∧ i = .int .i64 (j : Int) ∧ x = .slice Ao no co ∧ no ≤ n0 + 2 * j ∧ col = col0 ++ ptsL (l.take j) ∧ PSt w0 col Ao no co wr ∧ w1.heap.size ≤ wr.heap.size

set_option maxHeartbeats 4000000 in
theorem rpoints_any (A : Option Addr) (n c : Nat) (ps : List LstP) (w : World) (hs : LstsS w A n ps) (hn : n ≤ 1000) :
    Calls Tryz.prog 143 #[.slice A n c] w fun e w' => ∃ (A' : Option Addr) (c' : Nat) (L : List Vl), L.map (fun v => [v]) = setL ((ptsR (ps.map (·.2))).map fun v => [v]) ∧ e = .returned (.slice A' L.length c') ∧ VlS w' A' L.length L ∧ Below w.heap.size w w' := by
  obtain ⟨i0, hi, hz0, hz1, hz2⟩ := info_parts info_row
  have HS := Lib.hid hs
  have Hln := Lib.hid hs.sl.len
  clear hs
  go_enter Tryz.func143, Tryz.ntmps143
  go_wp2
  go_loopw [3, 13] (fun x i wr => PRel w ps n x i wr) (fun _ i _ => n - (intOf i).toNat)
  case atStart => exact ⟨0, [], none, 0, 0, by omega, rfl, rfl, by omega, rfl, ⟨⟨[], rfl, ⟨by simp, .inl ⟨rfl, rfl⟩⟩, by simp⟩, rfl, Below.refl _ _⟩⟩
  case round =>
    obtain ⟨k, col, Ao, no, co, hk, rfl, rfl, hno, hcol, hP⟩ := hrel
    have HP := Lib.hid hP
    have Hcol := Lib.hid hcol
    clear hP hcol
    obtain ⟨wo, rfl⟩ : ∃ wo : World, wo = wr := ⟨_, rfl⟩
    by_cases hlt : k < n
    · obtain ⟨b, o, p, rfl, hp, hpc⟩ := HS.out.sl.at hlt
      have hkr := keeps_of HP.out.bel
      have e1 := keep_cell hkr (hpc 0 _ rfl)
      simp only [Nat.mul_one, Nat.add_zero] at e1
      have hpo := HS.out.ok p (List.mem_of_getElem? hp)
      have Htk := Lib.hid (take_snoc' hp)
      obtain ⟨⟨p1, m, p3⟩, l⟩ := p
      dsimp only [lstc] at e1
      have hm : m ≤ 64 := hpo.sm
      have HPO := Lib.hid hpo
      have Hlm : Hid (l.length = m) := hpo.rd.len
      clear hp hpc hpo hkr
      go_wp2
      go_loopw [3, 19] (fun x i wr => PRelI w wo l col no m x i wr) (fun _ i _ => m - (intOf i).toNat)
      case atStart => exact ⟨0, col, Ao, no, co, by omega, rfl, rfl, by omega, by simp [ptsL], HP.out, Nat.le_refl _⟩
      case round =>
        obtain ⟨j, col', Ao', no', co', hj, rfl, rfl, hno', hcol', hP', hwz⟩ := hrel
        have Hcol' := Lib.hid hcol'
        have hwz' := hP'.bel.size
        obtain ⟨qs, hq, ho, hr⟩ := hP'.ex
        have HQ := Lib.hid hq
        have HRr := Lib.hid hr
        have HP' := Lib.hid hP'
        clear hcol' hP' hq hr
        by_cases hjm : j < m
        · obtain ⟨b2, o2, x, rfl, hx, hxc⟩ := (HPO.out.rd.keep (keeps_of HP'.out.bel)).at hjm
          have Hts := Lib.hid (take_snoc' hx)
          obtain ⟨⟨fk, fi, ft⟩, ⟨tk, ti, tt⟩, xo⟩ := x
          obtain ⟨c0, c1, c2, c3, c4, c5, c6⟩ := IvAt.of hxc
          dsimp only at c0 c1 c2 c3 c4 c5 c6
          clear hx hxc
          have hPush1 : ∀ (g6 cap6 : Nat) (w6 : World), w6.ownsRow w.heap.size 44 1 (.slice (some ⟨g6, 0, none⟩) (no' + 1) cap6) (no' + 1) (qs.flatMap rowc ++ [.slice (some ⟨wr.heap.size + 1, 0, none⟩) 1 1]) →
              (((wr.alloc (.cells #[.int .i64 fk, .int .i64 fi, .string ft, .int .i64 tk, .int .i64 ti, .string tt, .bool xo] 90)).alloc (.cells #[.int .i64 fk, .int .i64 fi, .string ft] 49)).alloc (.cells #[.slice (some ⟨wr.heap.size + 1, 0, none⟩) 1 1] 44)).grownBy w6 (Value.slice Ao' no' co').ownBlock →
              Below w.heap.size ((wr.alloc (.cells #[.int .i64 fk, .int .i64 fi, .string ft, .int .i64 tk, .int .i64 ti, .string tt, .bool xo] 90)).alloc (.cells #[.int .i64 fk, .int .i64 fi, .string ft] 49)) w6 → PSt w (col' ++ [⟨fk, fi, ft⟩]) (some ⟨g6, 0, none⟩) (no' + 1) cap6 w6 := by
            intro g6 cap6 w6 h1 h2 h3
            have hbb : Below wr.heap.size wr ((wr.alloc (.cells #[.int .i64 fk, .int .i64 fi, .string ft, .int .i64 tk, .int .i64 ti, .string tt, .bool xo] 90)).alloc (.cells #[.int .i64 fk, .int .i64 fi, .string ft] 49)) := ((Below.refl _ _).alloc (Nat.le_refl _) _).alloc (by simp) _
            have hB := Blk.new (wr.alloc (.cells #[.int .i64 fk, .int .i64 fi, .string ft, .int .i64 tk, .int .i64 ti, .string tt, .bool xo] 90)) 49 #[.int .i64 fk, .int .i64 fi, .string ft]
            rw [World.size_alloc] at hB
            exact PSt.push (v := ⟨fk, fi, ft⟩) HQ.out HP'.out.len ((ho.alloc _).alloc _) (fun q hq => (HRr.out q hq).below hbb) (Below.next HP'.out.bel hbb) hB (by omega) h1 h2 h3
          have HPush1 := Lib.hid hPush1
          clear hPush1
          go_wp2_with (first
            | (at_builtin; refine wpList_append_one2 (by rfl) (.tmp 23) (.tmp 27) _ (by rfl) w.heap.size 44 i0 _ 1 24 Tryz.underlying172 hi hz0 hz1 hz2 (by rfl) (by omega) (.slice Ao' no' co') (no') _ (by rfl) _ _ ((ho.alloc _).alloc _) (wr.heap.size + 1 + 1) (by simp) (by rfl) (by rfl) (one_row ((some ⟨wr.heap.size + 1, 0, none⟩, 1, 1), [])) (by simp only [maxLen]; omega) (by omega) (by simp; omega) ?_; intro g6 cap6 w6 hown6 hg6 hB6 hat6 hlt6; have hbx := (Blk.grown (((Blk.new wr 90 #[.int .i64 fk, .int .i64 fi, .string ft, .int .i64 tk, .int .i64 ti, .string tt, .bool xo]).alloc _).alloc _) hg6 (own_ne ho)).cell; have hsz6 := hg6.size; simp only [World.size_alloc] at hsz6)
            | (at_builtin; refine wpList_append_one2 (by rfl) (.tmp 32) (.tmp 36) _ (by rfl) w.heap.size 44 i0 _ 1 24 Tryz.underlying172 hi hz0 hz1 hz2 (by rfl) (by omega) (.slice (some ⟨g6, 0, none⟩) (no' + 1) cap6) (no' + 1) _ (by rfl) _ _ (hown6.alloc _) (w6.heap.size + 1) (by simp) (by rfl) (by rfl) (one_row ((some ⟨w6.heap.size, 0, none⟩, 1, 1), [])) (by simp only [maxLen]; omega) (by omega) (by simp; omega) ?_; intro g7 cap7 w7 hown7 hg7 hB7 hat7 hlt7))
          · go_roundw
            case rel =>
              have hp6 := HPush1.out g6 cap6 w6 hown6 hg6 hB6
              obtain ⟨qs6, hq6, ho6, hr6⟩ := hp6.ex
              refine ⟨j + 1, col' ++ [⟨fk, fi, ft⟩] ++ [⟨tk, ti, tt⟩], _, no' + 1 + 1, cap7, by omega, by go_num, rfl, by omega, ?_, ?_, ?_⟩
              · have hxo : xo = false := by simpa using ‹(!xo) = true›
                rw [Hts.out, ptsL_snoc, if_neg (by simp [hxo]), Hcol'.out]; simp
              · have hbb : Below w6.heap.size w6 (w6.alloc (.cells #[.int .i64 tk, .int .i64 ti, .string tt] 49)) := (Below.refl _ _).alloc (Nat.le_refl _) _
                have he : qs6.flatMap rowc = qs.flatMap rowc ++ [.slice (some ⟨wr.heap.size + 1, 0, none⟩) 1 1] := own_same ho6 hown6
                exact PSt.push (v := ⟨tk, ti, tt⟩) hq6 hp6.len (ho6.alloc _) (fun q hq => (hr6 q hq).below hbb) (Below.next hp6.bel hbb) (Blk.new _ _ _) hp6.bel.size (by rw [he]; exact hown7) hg7 hB7
              · have := hg7.size; simp at this; omega
            case measure => simp [intOf]; omega
          · go_roundw
            case rel =>
              refine ⟨j + 1, col' ++ [⟨fk, fi, ft⟩], _, no' + 1, cap6, by omega, by go_num, rfl, by omega, ?_, HPush1.out g6 cap6 w6 hown6 hg6 hB6, by omega⟩
              have hxo : xo = true := by simpa using ‹(!xo) = false›
              rw [Hts.out, ptsL_snoc, if_pos (by simp [hxo]), Hcol'.out]; simp
            case measure => simp [intOf]; omega
        · go_wp2
          go_roundw
          case rel =>
            refine ⟨k + 1, col', Ao', no', co', by omega, by go_num, rfl, by omega, ?_, HP'.out⟩
            have e1 : l.take j = l := List.take_of_length_le (by have := Hlm.out; omega)
            rw [Hcol'.out, Hcol.out, Htk.out, e1]
            simp [ptsR]
          case measure => simp [intOf]; omega
    · obtain ⟨qs, hq, ho, hr⟩ := HP.out.ex
      have hlen : qs.length = no := by have := congrArg List.length hq; simpa [HP.out.len] using this
      obtain ⟨f1, f2, f3⟩ := own_forms ho
      have hco : co ≤ 9223372036854775807 := by
        rcases ho.2 with ⟨hv, _⟩ | ⟨g, cap, cur, hv, _, _, _, hm, _⟩
        · injection hv with _ _ h3; omega
        · injection hv with _ _ h3; simp only [maxLen] at hm; omega
      have hrs : RowsS wo Ao no qs := ⟨Sl.of_own (cs := rowc) (fun _ => rfl) hlen ho, fun q hq => (hr q hq).ok⟩
      have hq1 : ∀ q ∈ qs, q.1.2.1 ≤ 4398046511104 := fun q hqm => by
        have h1 := (hr q hqm).2
        have h2 : q.2 ∈ qs.map (·.2) := List.mem_map_of_mem hqm
        rw [hq, List.mem_map] at h2
        obtain ⟨v, _, hv⟩ := h2
        rw [← hv] at h1
        simp at h1
        omega
      have Hset : Hid (setR qs = setL ((ptsR (ps.map (·.2))).map fun v => [v])) := by
        show _ = _
        rw [setR_eq, hq, Hcol.out, List.take_of_length_le (by have := Hln.out; omega)]
      have HRS := Lib.hid hrs
      have HF := Lib.hid (And.intro f1 (And.intro f2 hq1))
      have HLen := Lib.hid hlen
      clear hq ho hr hlen f1 f2 hrs hq1
      go_wp2_with fail
      refine (rset_any Ao no co qs _ HRS.out HF.out.1 HF.out.2.1 f3 hco (by omega) HF.out.2.2).mono ?_
      intro e w2 hpost
      obtain ⟨rs, A2, c2, rfl, hrs2, hS2, hb2⟩ := hpost.rows
      rw [Hset.out] at hrs2 hS2
      rw [Hset.out]
      have HB2 := Lib.hid (Below.next HP.out.bel hb2)
      obtain ⟨L, hL⟩ := setL_ones (ptsR (ps.map (·.2)))
      have hll : (setL ((ptsR (ps.map (·.2))).map fun v => [v])).length = L.length := by rw [← hL]; simp
      rw [hll] at hS2
      rw [hll]
      rw [← hL] at hrs2
      have HL := Lib.hid hL
      have HSS := Lib.hid hS2
      have HRR := Lib.hid hrs2
      have Hrl : Hid (rs.length = L.length) := by
        show _ = _
        have := congrArg List.length hrs2; simpa using this
      have hLb : L.length ≤ 1000000 := by
        have h1 : L.length = (setR qs).length := by rw [Hset.out, hll]
        have h2 : (setR qs).length ≤ 128 * k := by
          rw [setR_eq]
          have h3 := setL_len (qs.map (·.2))
          rw [List.length_map, HLen.out] at h3
          omega
        omega
      clear hL hS2 hrs2 hll hpost hb2
      obtain ⟨i1, hi1, hy0, hy1, hy2⟩ := info_parts info_vl
      go_wp2
      go_loopw [8, 43] (fun x i wr => ∃ (t : Nat) (A' : Option Addr) (c' : Nat), t ≤ L.length ∧ i = .int .i64 (t : Int) ∧ x = .slice A' t c' ∧ wr.ownsRow w2.heap.size 49 3 (.slice A' t c') t ((L.take t).flatMap Vl.cs) ∧ Below w2.heap.size w2 wr) (fun _ i _ => L.length - (intOf i).toNat)
      case atStart => exact ⟨0, none, 0, by omega, rfl, rfl, ⟨by simp, .inl ⟨rfl, rfl⟩⟩, Below.refl _ _⟩
      case round =>
        obtain ⟨t, A', c', ht, rfl, rfl, ho, hb⟩ := hrel
        have hbs := hb.size
        by_cases htl : t < L.length
        · obtain ⟨b, o, q, rfl, hq, hqc⟩ := HSS.out.sl.at htl
          have hkr := keeps_of hb
          have e1 := keep_cell hkr (hqc 0 _ rfl)
          simp only [Nat.mul_one, Nat.add_zero] at e1
          have hqo := (HSS.out.ok q (List.mem_of_getElem? hq)).keep hkr
          have hv : ∃ v, L[t]? = some v ∧ q.2 = [v] := by
            have h1 : (rs.map (·.2))[t]? = some q.2 := by rw [List.getElem?_map, hq]; rfl
            rw [HRR.out, List.getElem?_map, List.getElem?_eq_getElem htl] at h1
            simp only [Option.map_some, Option.some.injEq] at h1
            exact ⟨_, List.getElem?_eq_getElem htl, h1.symm⟩
          obtain ⟨v, hLv, hqv⟩ := hv
          obtain ⟨⟨q1, q2, q3⟩, qr⟩ := q
          dsimp only [rowc] at e1 hqv
          subst hqv
          have hrd := hqo.rd
          dsimp only at hrd
          obtain rfl : 1 = q2 := hrd.len
          obtain ⟨bq, oq, v', rfl, hv', hvc⟩ := hrd.at (k := 0) (by omega)
          simp only [List.getElem?_cons_zero, Option.some.injEq] at hv'
          subst hv'
          have Hts := Lib.hid (take_snoc' hLv)
          obtain ⟨vk, vi, vt⟩ := v
          obtain ⟨c0, c1, c2⟩ := VlAt.of hvc
          dsimp only at c0 c1 c2
          simp only [Nat.zero_mul, Nat.add_zero] at c0 c1 c2
          clear hq hqc hqo hrd hvc hLv hkr
          go_wp2_with (at_builtin; refine wpList_append_one (by rfl) (.tmp 47) (.tmp 51) _ (by rfl) w2.heap.size 49 i1 _ 3 32 Tryz.underlying43 hi1 hy0 hy1 hy2 (by rfl) (by omega) (.slice A' t c') t _ (by rfl) _ _ ho wr.heap.size (by rfl) (by rfl) (by rfl) (one_vl ⟨vk, vi, vt⟩) (by simp only [maxLen]; omega) (by omega) hbs ?_; intro g6 cap6 w6 hown6 hg6 hB6 hat6 hlt6)
          go_roundw
          case rel =>
            refine ⟨t + 1, _, cap6, by omega, by go_num, rfl, ?_, hb.trans hB6⟩
            rw [Hts.out, List.flatMap_append]
            simpa [Vl.cs] using hown6
          case measure => simp [intOf]; omega
        · go_wp2
          go_ret
          obtain rfl : t = L.length := by omega
          rw [List.take_length] at ho
          exact ⟨A', c', L, HL.out, rfl, Sl.of_own Vl.cs_len rfl ho, Below.next HB2.out hb⟩
end Go.Proofs.YtmnmckblmoalkaaGreat

namespace Go.Proofs.YtmnmckblmoalkaaGreat
open Go.RowKit
set_option maxRecDepth 100000

def minI : Int := -9223372036854775808
def firstV (k : Int) : Vl × Bool :=
  if k = 1 ∨ k = 2 ∨ k = 3 ∨ k = 5 then (⟨k, 0, ⟨#[]⟩⟩, true) else if k = 4 then (⟨k, minI, ⟨#[]⟩⟩, true) else (zeroV, false)

set_option maxHeartbeats 400000 in
theorem first_any (k : Int) (w : World) : Calls Tryz.prog 106 #[.int .i64 k] w fun e w' =>
    e = .returned (.tuple #[.agg #[.int .i64 (firstV k).1.k, .int .i64 (firstV k).1.i, .string (firstV k).1.t], .bool (firstV k).2]) ∧ Below w.heap.size w w' := by
  generalize hf : firstV k = r
  have Hf := Lib.hid hf
  clear hf
  go_enter Tryz.func106, Tryz.ntmps106
  go_wp2
  all_goals
    first
      | (refine bodyPost_ret (v := .tuple #[.agg #[.int .i64 k, .int .i64 0, .string ⟨#[]⟩], .bool true]) ?_ rfl ⟨?_, ?_⟩; focus (simp [results, Tryz.results106, go_sem]; done))
      | (refine bodyPost_ret (v := .tuple #[.agg #[.int .i64 k, .int .i64 minI, .string ⟨#[]⟩], .bool true]) ?_ rfl ⟨?_, ?_⟩; focus (simp [results, Tryz.results106, go_sem, minI]; done))
      | (refine bodyPost_ret (v := .tuple #[.agg #[.int .i64 0, .int .i64 0, .string ⟨#[]⟩], .bool false]) ?_ rfl ⟨?_, ?_⟩; focus (simp [results, Tryz.results106, go_sem]; done))
    · rw [← Hf.out]
      simp_all [firstV, zeroV]
    · repeat (first | exact Below.refl _ _ | apply Below.drew | refine Below.setCell ?_ (by simp) _ | refine Below.alloc ?_ (by simp) _)
end Go.Proofs.YtmnmckblmoalkaaGreat

namespace Go.Proofs.YtmnmckblmoalkaaGreat
open Go.RowKit
set_option maxRecDepth 100000

def allL : List Iv := [⟨⟨1, 0, ⟨#[]⟩⟩, zeroV, true⟩]
theorem iv_one {w : World} {g : Nat} {T : TypeId} {x : Iv} (h : Blk w g T #[.int .i64 x.f.k, .int .i64 x.f.i, .string x.f.t, .int .i64 x.t.k, .int .i64 x.t.i, .string x.t.t, .bool x.o]) : IvS w (some ⟨g, 0, none⟩) 1 [x] := by
  refine ⟨rfl, fun _ => ⟨g, 0, rfl, fun k y hy j u hu => ?_⟩⟩
  obtain ⟨rfl, rfl⟩ : k = 0 ∧ x = y := by
    rcases k with _ | k
    · exact ⟨rfl, by simpa using hy⟩
    · simp at hy
  rw [show 0 + 0 * 7 + j = j by omega, h.cell]
  simpa [Iv.cs] using hu
def IvLst (w : World) (l : List Iv) (e : Ending) (w' : World) : Prop := ∃ (A' : Option Addr) (c' : Nat), e = .returned (.slice A' l.length c') ∧ IvS w' A' l.length l ∧ Below w.heap.size w w'

def betweenL (f t : Vl) : List Iv × Int := if validV f && validV t then (if cmpV f t < 0 then ([⟨f, t, false⟩], 0) else ([], 0)) else ([], 10)
def fromL (f : Vl) : List Iv × Int := if validV f then ([⟨f, zeroV, true⟩], 0) else ([], 10)
end Go.Proofs.YtmnmckblmoalkaaGreat

namespace Go.Proofs.YtmnmckblmoalkaaGreat
open Go.RowKit
set_option maxRecDepth 100000

set_option maxHeartbeats 1000000 in
theorem has_any (A : Option Addr) (n c : Nat) (l : List Iv) (v : Vl) (w : World) (hs : IvS w A n l) :
    Calls Tryz.prog 69 #[.slice A n c, .agg #[.int .i64 v.k, .int .i64 v.i, .string v.t]] w fun e w' => e = .returned (.bool (hasL l v)) ∧ Below w.heap.size w w' := by
  obtain ⟨vk, vi, vt⟩ := v
  have Hs := Lib.hid hs
  have Hln := Lib.hid hs.len
  clear hs
  obtain ⟨v1, H1⟩ : ∃ v, Hid (validV ⟨vk, vi, vt⟩ = v) := ⟨_, rfl⟩
  obtain ⟨v2, H2⟩ : ∃ v, Hid (validL l = v) := ⟨_, rfl⟩
  generalize hr : hasL l ⟨vk, vi, vt⟩ = r
  have Hr := Lib.hid hr
  clear hr
  go_enter Tryz.func69, Tryz.ntmps69
  go_wp2_with fail
  refine (valid_any ⟨vk, vi, vt⟩ _).mono ?_
  rintro e w1 ⟨rfl, hb1⟩
  rw [H1.out]
  have hx1 := (Blk.new w 49 #[.int .i64 vk, .int .i64 vi, .string vt]).below hb1
  have hB1 : Below w.heap.size w w1 := Below.next ((Below.refl _ _).alloc (Nat.le_refl _) _) hb1
  cases v1
  · go_wp2
    go_ret
    exact ⟨ret_bool (by rw [← Hr.out]; simp [hasL, H1.out]), hB1⟩
  · go_wp2_with fail
    refine (validL_any A n c l _ (Hs.out.keep (keeps_of hB1))).mono ?_
    rintro e w2 ⟨rfl, hb2⟩
    rw [H2.out]
    have hB2 := Below.next hB1 hb2
    have hx2 := hx1.below hb2
    cases v2
    · go_wp2
      go_ret
      exact ⟨ret_bool (by rw [← Hr.out]; simp [hasL, H2.out]), hB2⟩
    · have hn : n ≤ 64 := by have h := H2.out; have := Hln.out; simp [validL] at h; omega
      have Hi : Hid (inL (l.drop 0) ⟨vk, vi, vt⟩ = r) := by
        show _ = _
        rw [← Hr.out]; simp [hasL, H1.out, H2.out]
      have hSS := Lib.hid (Hs.out.keep (keeps_of hB2))
      clear hx1 hb1 hB1 hb2 Hr
      go_wp2
      go_loopw [17] (fun i wr => ∃ k : Nat, k ≤ n ∧ i = .int .i64 (k : Int) ∧ Hid (inL (l.drop k) ⟨vk, vi, vt⟩ = r) ∧ Below w2.heap.size w2 wr) (fun i _ => n - (intOf i).toNat)
      case atStart => exact ⟨0, by omega, rfl, Hi, Below.refl _ _⟩
      case round =>
        obtain ⟨k, hk, rfl, hinv, hb⟩ := hrel
        by_cases hlt : k < n
        · obtain ⟨b, o, x, rfl, hx, hc⟩ := (hSS.out.keep (keeps_of hb)).at hlt
          have Hst := Lib.hid (in_step hx hinv.out)
          obtain ⟨⟨fk, fi, ft⟩, ⟨tk, ti, tt⟩, xo⟩ := x
          obtain ⟨c0, c1, c2, c3, c4, c5, c6⟩ := IvAt.of hc
          dsimp only at c0 c1 c2 c3 c4 c5 c6
          clear hx hc
          have hx3 := hx2.below hb
          have hbox := hx3.alloc (.cells #[.int .i64 fk, .int .i64 fi, .string ft, .int .i64 tk, .int .i64 ti, .string tt, .bool xo] 90)
          have hboxc := hbox.cell
          obtain ⟨d1, D1⟩ : ∃ v, Hid (cmpV ⟨fk, fi, ft⟩ ⟨vk, vi, vt⟩ = v) := ⟨_, rfl⟩
          obtain ⟨d2, D2⟩ : ∃ v, Hid (cmpV ⟨vk, vi, vt⟩ ⟨tk, ti, tt⟩ = v) := ⟨_, rfl⟩
          go_wp2_with fail
          refine (compare_any ⟨fk, fi, ft⟩ ⟨vk, vi, vt⟩ _).mono ?_
          rintro e w3 ⟨rfl, hb3⟩
          rw [D1.out]
          have hB3 := Below.next (hb.alloc hb.size _) hb3
          have z1 := (hbox.below hb3).cell
          have z2 := ((Blk.new wr 90 #[.int .i64 fk, .int .i64 fi, .string ft, .int .i64 tk, .int .i64 ti, .string tt, .bool xo]).below hb3).cell
          clear hboxc
          by_cases g1 : d1 ≤ 0
          · cases xo
            · go_wp2_with fail
              refine (compare_any ⟨vk, vi, vt⟩ ⟨tk, ti, tt⟩ _).mono ?_
              rintro e w4 ⟨rfl, hb4⟩
              rw [D2.out]
              have hB4 := Below.next hB3 hb4
              rcases Int.lt_or_le d2 0 with g2 | g2
              · go_wp2
                go_ret
                exact ⟨ret_bool (by rw [Hst.out]; simp [inI, D1.out, D2.out, g1, g2]), Below.next hB2 hB4⟩
              · go_wp2
                go_roundw
                case rel => exact ⟨k + 1, by omega, by go_num, (by show _ = _; rw [Hst.out]; simp [inI, D1.out, D2.out, g1]; omega), hB4⟩
                case measure => simp [intOf]; omega
            · go_wp2
              go_ret
              exact ⟨ret_bool (by rw [Hst.out]; simp [inI, D1.out, g1]), Below.next hB2 hB3⟩
          · go_wp2
            go_roundw
            case rel => exact ⟨k + 1, by omega, by go_num, (by show _ = _; rw [Hst.out]; simp [inI, D1.out]; intros; omega), hB3⟩
            case measure => simp [intOf]; omega
        · go_wp2
          go_ret
          exact ⟨ret_bool (by rw [← hinv.out, List.drop_eq_nil_of_le (by have := Hln.out; omega)]; rfl), Below.next hB2 hb⟩

end Go.Proofs.YtmnmckblmoalkaaGreat

namespace Go.Proofs.YtmnmckblmoalkaaGreat
open Go.RowKit
set_option maxRecDepth 100000

set_option maxHeartbeats 1000000 in
theorem rin_any (A : Option Addr) (n c : Nat) (l : List Iv) (v : Vl) (w : World) (hs : IvS w A n l) (hn : n ≤ 1000000) :
    Calls Tryz.prog 145 #[.slice A n c, .agg #[.int .i64 v.k, .int .i64 v.i, .string v.t]] w fun e w' => e = .returned (.bool (inL l v)) ∧ Below w.heap.size w w' := by
  obtain ⟨vk, vi, vt⟩ := v
  have Hs := Lib.hid hs
  have Hln := Lib.hid hs.len
  clear hs
  generalize hr : inL l ⟨vk, vi, vt⟩ = r
  have Hi : Hid (inL (l.drop 0) ⟨vk, vi, vt⟩ = r) := by
    show _ = _
    simpa using hr
  clear hr
  have hx2 := Blk.new w 49 #[.int .i64 vk, .int .i64 vi, .string vt]
  have hB2 : Below w.heap.size w (w.alloc (.cells #[.int .i64 vk, .int .i64 vi, .string vt] 49)) := (Below.refl _ _).alloc (Nat.le_refl _) _
  have hSS := Lib.hid (Hs.out.keep (keeps_of hB2))
  go_enter Tryz.func145, Tryz.ntmps145
  go_wp2
  generalize w.alloc (.cells #[.int .i64 vk, .int .i64 vi, .string vt] 49) = w2 at *
  generalize hz : w.heap.size = z at *
  have Hz := Lib.hid hz
  clear hz
  go_loopw [9] (fun i wr => ∃ k : Nat, k ≤ n ∧ i = .int .i64 (k : Int) ∧ Hid (inL (l.drop k) ⟨vk, vi, vt⟩ = r) ∧ Below w2.heap.size w2 wr) (fun i _ => n - (intOf i).toNat)
  case atStart => exact ⟨0, by omega, rfl, Hi, Below.refl _ _⟩
  case round =>
    obtain ⟨k, hk, rfl, hinv, hb⟩ := hrel
    by_cases hlt : k < n
    · obtain ⟨b, o, x, rfl, hx, hc⟩ := (hSS.out.keep (keeps_of hb)).at hlt
      have Hst := Lib.hid (in_step hx hinv.out)
      obtain ⟨⟨fk, fi, ft⟩, ⟨tk, ti, tt⟩, xo⟩ := x
      obtain ⟨c0, c1, c2, c3, c4, c5, c6⟩ := IvAt.of hc
      dsimp only at c0 c1 c2 c3 c4 c5 c6
      clear hx hc
      have hx3 := hx2.below hb
      have hbox := hx3.alloc (.cells #[.int .i64 fk, .int .i64 fi, .string ft, .int .i64 tk, .int .i64 ti, .string tt, .bool xo] 90)
      have hboxc := hbox.cell
      obtain ⟨d1, D1⟩ : ∃ v, Hid (cmpV ⟨fk, fi, ft⟩ ⟨vk, vi, vt⟩ = v) := ⟨_, rfl⟩
      obtain ⟨d2, D2⟩ : ∃ v, Hid (cmpV ⟨vk, vi, vt⟩ ⟨tk, ti, tt⟩ = v) := ⟨_, rfl⟩
      go_wp2_with fail
      refine (rcompare_any ⟨fk, fi, ft⟩ ⟨vk, vi, vt⟩ _).mono ?_
      rintro e w3 ⟨rfl, hb3⟩
      rw [D1.out]
      have hB3 := Below.next (hb.alloc hb.size _) hb3
      have z1 := (hbox.below hb3).cell
      have z2 := ((Blk.new wr 90 #[.int .i64 fk, .int .i64 fi, .string ft, .int .i64 tk, .int .i64 ti, .string tt, .bool xo]).below hb3).cell
      clear hboxc
      by_cases g1 : d1 ≤ 0
      · cases xo
        · go_wp2_with fail
          refine (rcompare_any ⟨vk, vi, vt⟩ ⟨tk, ti, tt⟩ _).mono ?_
          rintro e w4 ⟨rfl, hb4⟩
          rw [D2.out]
          have hB4 := Below.next hB3 hb4
          rcases Int.lt_or_le d2 0 with g2 | g2
          · go_wp2
            go_ret
            exact ⟨ret_bool (by rw [Hst.out]; simp [inI, D1.out, D2.out, g1, g2]), by rw [← Hz.out] at hB2; exact Below.next hB2 hB4⟩
          · go_wp2
            go_roundw
            case rel => exact ⟨k + 1, by omega, by go_num, (by show _ = _; rw [Hst.out]; simp [inI, D1.out, D2.out, g1]; omega), hB4⟩
            case measure => simp [intOf]; omega
        · go_wp2
          go_ret
          exact ⟨ret_bool (by rw [Hst.out]; simp [inI, D1.out, g1]), by rw [← Hz.out] at hB2; exact Below.next hB2 hB3⟩
      · go_wp2
        go_roundw
        case rel => exact ⟨k + 1, by omega, by go_num, (by show _ = _; rw [Hst.out]; simp [inI, D1.out]; intros; omega), hB3⟩
        case measure => simp [intOf]; omega
    · go_wp2
      go_ret
      exact ⟨ret_bool (by rw [← hinv.out, List.drop_eq_nil_of_le (by have := Hln.out; omega)]; rfl), by rw [← Hz.out] at hB2; exact Below.next hB2 hb⟩

/-- the three operations of the reference -/
def opR (k : Int) : Bool → Bool → Bool := if k = 1 then opU else if k = 2 then opI else opM
theorem apply_any (k : Int) (x y : Bool) (w : World) : Calls Tryz.prog 144 #[.int .i64 k, .bool x, .bool y] w fun e w' => e = .returned (.bool (opR k x y)) ∧ w = w' := by
  by_cases h1 : k = 1
  · subst h1
    cases x <;> cases y <;>
    · go_enter Tryz.func144, Tryz.ntmps144
      go_wp2
      go_ret
      exact ⟨rfl, rfl⟩
  · by_cases h2 : k = 2
    · subst h2
      cases x <;> cases y <;>
      · go_enter Tryz.func144, Tryz.ntmps144
        go_wp2
        go_ret
        exact ⟨rfl, rfl⟩
    · have Hk : Hid (opR k = opM) := by
        show _ = _
        simp [opR, h1, h2]
      have g1 : (k == 1) = false := by simp [h1]
      have g2 : (k == 2) = false := by simp [h2]
      clear h1 h2
      generalize opR k = f at *
      cases x <;> cases y <;>
      · go_enter Tryz.func144, Tryz.ntmps144
        go_wp2
        go_ret
        exact ⟨ret_bool (by rw [Hk.out]; rfl), rfl⟩
end Go.Proofs.YtmnmckblmoalkaaGreat
