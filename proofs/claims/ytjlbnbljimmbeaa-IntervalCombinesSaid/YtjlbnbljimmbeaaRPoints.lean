import Derived.Test.YtjlbnbljimmbeaaSetR
namespace Go.Proofs.Ytjlbnbljimmbeaa
open Go.RowKit

def mrgR : List (List Vl) → List (List Vl) → List (List Vl)
  | [], b => b
  | x :: a, [] => x :: a
  | x :: a, y :: b => if cmpR x y ≤ 0 then x :: mrgR a (y :: b) else y :: mrgR (x :: a) b
termination_by a b => a.length + b.length
theorem mrgR_cons (x : List Vl) (a : List (List Vl)) (y : List Vl) (b : List (List Vl)) : mrgR (x :: a) (y :: b) = if cmpR x y ≤ 0 then x :: mrgR a (y :: b) else y :: mrgR (x :: a) b := by rw [mrgR]
def srtR (l : List (List Vl)) : List (List Vl) :=
  if h : l.length < 2 then l else mrgR (srtR (l.take (l.length / 2))) (srtR (l.drop (l.length / 2)))
termination_by l.length
decreasing_by
  · simp; omega
  · simp; omega
theorem mergeP_map : ∀ (a b : List RowP), (mergeP a b).map (·.2) = mrgR (a.map (·.2)) (b.map (·.2))
  | [], b => by simp [mergeP, mrgR]
  | x :: a, [] => by simp [mergeP, mrgR]
  | x :: a, y :: b => by
    rw [mergeP_cons, List.map_cons, List.map_cons, mrgR_cons]
    split
    · rw [List.map_cons, mergeP_map a (y :: b)]; rfl
    · rw [List.map_cons, mergeP_map (x :: a) b]; rfl
termination_by a b => a.length + b.length
theorem sortP_map (ps : List RowP) : (sortP ps).map (·.2) = srtR (ps.map (·.2)) := by
  induction h : ps.length using Nat.strongRecOn generalizing ps with
  | _ n ih =>
    subst h
    by_cases h2 : ps.length < 2
    · rw [sortP_short h2, srtR]; simp [h2]
    · rw [sortP_long (by omega), mergeP_map, ih _ (by simp; omega) (ps.take (ps.length / 2)) rfl, ih _ (by simp; omega) (ps.drop (ps.length / 2)) rfl]
      conv => rhs; rw [srtR]
      simp [h2]
def setL (l : List (List Vl)) : List (List Vl) := dedup [] (srtR l)
theorem setR_eq (ps : List RowP) : setR ps = setL (ps.map (·.2)) := by unfold setR setL; rw [sortP_map]

theorem mrgR_mem : ∀ (a b : List (List Vl)) (r : List Vl), r ∈ mrgR a b ↔ r ∈ a ∨ r ∈ b
  | [], b, r => by simp [mrgR]
  | x :: a, [], r => by simp [mrgR]
  | x :: a, y :: b, r => by
    rw [mrgR_cons]
    split
    · rw [List.mem_cons, mrgR_mem a (y :: b) r]; simp only [List.mem_cons]; grind
    · rw [List.mem_cons, mrgR_mem (x :: a) b r]; simp only [List.mem_cons]; grind
termination_by a b => a.length + b.length
theorem srtR_short {l : List (List Vl)} (h : l.length < 2) : srtR l = l := by rw [srtR]; simp [h]
theorem srtR_long {l : List (List Vl)} (h : 2 ≤ l.length) : srtR l = mrgR (srtR (l.take (l.length / 2))) (srtR (l.drop (l.length / 2))) := by
  rw [srtR, dif_neg (by omega)]
theorem srtR_mem (l : List (List Vl)) (r : List Vl) : r ∈ srtR l ↔ r ∈ l := by
  induction h : l.length using Nat.strongRecOn generalizing l with
  | _ n ih =>
    subst h
    by_cases h2 : l.length < 2
    · rw [srtR_short h2]
    · rw [srtR_long (by omega), mrgR_mem, ih _ (by simp; omega) (l.take (l.length / 2)) rfl, ih _ (by simp; omega) (l.drop (l.length / 2)) rfl]
      rw [← List.mem_append, List.take_append_drop]
theorem dedup_sub : ∀ (l acc : List (List Vl)) (r : List Vl), r ∈ dedup acc l → r ∈ acc ∨ r ∈ l
  | [], acc, r, h => .inl h
  | x :: l, acc, r, h => by
    unfold dedup at h
    split at h
    · rcases dedup_sub l _ r h with h1 | h1
      · rw [List.mem_append, List.mem_singleton] at h1
        rcases h1 with h1 | rfl
        · exact .inl h1
        · exact .inr List.mem_cons_self
      · exact .inr (List.mem_cons_of_mem _ h1)
    · rcases dedup_sub l _ r h with h1 | h1
      · exact .inl h1
      · exact .inr (List.mem_cons_of_mem _ h1)
theorem mrgR_len : ∀ (a b : List (List Vl)), (mrgR a b).length = a.length + b.length
  | [], b => by simp [mrgR]
  | x :: a, [] => by simp [mrgR]
  | x :: a, y :: b => by
    rw [mrgR_cons]
    split
    · rw [List.length_cons, mrgR_len a (y :: b)]; simp; omega
    · rw [List.length_cons, mrgR_len (x :: a) b]; simp; omega
termination_by a b => a.length + b.length
theorem srtR_len (l : List (List Vl)) : (srtR l).length = l.length := by
  induction h : l.length using Nat.strongRecOn generalizing l with
  | _ n ih =>
    subst h
    by_cases h2 : l.length < 2
    · rw [srtR_short h2]
    · rw [srtR_long (by omega), mrgR_len, ih _ (by simp; omega) (l.take (l.length / 2)) rfl, ih _ (by simp; omega) (l.drop (l.length / 2)) rfl]
      simp; omega
theorem dedup_len : ∀ (l acc : List (List Vl)), (dedup acc l).length ≤ acc.length + l.length
  | [], acc => by simp [dedup]
  | x :: l, acc => by
    unfold dedup
    split
    · have := dedup_len l (acc ++ [x]); simp at this ⊢; omega
    · have := dedup_len l acc; simp at this ⊢; omega
theorem setL_len (l : List (List Vl)) : (setL l).length ≤ l.length := by
  have := dedup_len (srtR l) []
  rw [srtR_len] at this
  simpa [setL] using this
theorem setL_sub (l : List (List Vl)) (r : List Vl) (h : r ∈ setL l) : r ∈ l := by
  rcases dedup_sub _ _ r h with h1 | h1
  · simp at h1
  · exact (srtR_mem l r).1 h1
theorem setL_ones (c : List Vl) : ∃ L : List Vl, L.map (fun v => [v]) = setL (c.map fun v => [v]) := by
  refine ⟨(setL (c.map fun v => [v])).map (fun r => r.headD zeroV), ?_⟩
  rw [List.map_map]
  conv => rhs; rw [← List.map_id (setL (c.map fun v => [v]))]
  apply List.map_congr_left
  intro r hr
  have := setL_sub _ r hr
  rw [List.mem_map] at this
  obtain ⟨v, _, rfl⟩ := this
  rfl

/-- a slice of lists of intervals -/
abbrev LstP := Hd × List Iv
def lstc (p : LstP) : List Value := [.slice p.1.1 p.1.2.1 p.1.2.2]
structure LstOk (w : World) (p : LstP) : Prop where
  rd : IvS w p.1.1 p.1.2.1 p.2
  sm : p.1.2.1 ≤ 64
theorem LstOk.keep {w w' : World} {p : LstP} (h : LstOk w p) (hk : Keeps w w') : LstOk w' p := ⟨h.rd.keep hk, h.sm⟩
structure LstsS (w : World) (A : Option Addr) (n : Nat) (ps : List LstP) : Prop where
  sl : Sl 1 lstc w A n ps
  ok : ∀ p ∈ ps, LstOk w p
theorem LstsS.keep {w w' : World} {A : Option Addr} {n : Nat} {ps : List LstP} (h : LstsS w A n ps) (hk : Keeps w w') : LstsS w' A n ps := ⟨h.sl.keep hk, fun p hp => (h.ok p hp).keep hk⟩

/-- rows of one value each, collected in a row of the call's own -/
structure PSt (w0 : World) (col : List Vl) (Ao : Option Addr) (no co : Nat) (wr : World) : Prop where
  ex : ∃ qs : List RowP, qs.map (·.2) = col.map (fun v => [v]) ∧ wr.ownsRow w0.heap.size 86 1 (.slice Ao no co) no (qs.flatMap rowc) ∧ ∀ q ∈ qs, OwnRow wr w0.heap.size q
  len : col.length = no
  bel : Below w0.heap.size w0 wr
theorem PSt.below {w0 : World} {col : List Vl} {Ao : Option Addr} {no co : Nat} {wr wr' : World} (h : PSt w0 col Ao no co wr) (hb : Below wr.heap.size wr wr') : PSt w0 col Ao no co wr' := by
  obtain ⟨qs, h1, h2, h3⟩ := h.ex
  exact ⟨⟨qs, h1, own_at h2 (fun g _ hl _ => hb.block g hl), fun q hq => (h3 q hq).below hb⟩, h.len, Below.next h.bel hb⟩
theorem own_row1 {w : World} {base g : Nat} {v : Vl} (h : Blk w g 24 #[.int .i64 v.k, .int .i64 v.i, .string v.t]) (hb : base ≤ g) : OwnRow w base ((some ⟨g, 0, none⟩, 1, 1), [v]) :=
  ⟨⟨rfl, .inr ⟨g, 1, _, rfl, hb, h, Nat.le_refl 1, by decide, rfl, rfl⟩⟩, rfl⟩
theorem PSt.push {w0 : World} {col : List Vl} {Ao : Option Addr} {no co : Nat} {W : World} {v : Vl} {qs : List RowP} (hq : qs.map (·.2) = col.map (fun v => [v])) (hl : col.length = no)
    (ho : W.ownsRow w0.heap.size 86 1 (.slice Ao no co) no (qs.flatMap rowc)) (hr : ∀ q ∈ qs, OwnRow W w0.heap.size q) (hbel : Below w0.heap.size w0 W) {g : Nat} (hB : Blk W g 24 #[.int .i64 v.k, .int .i64 v.i, .string v.t]) (hg0 : w0.heap.size ≤ g)
    {g6 cap6 : Nat} {w6 : World} (hown6 : w6.ownsRow w0.heap.size 86 1 (.slice (some ⟨g6, 0, none⟩) (no + 1) cap6) (no + 1) (qs.flatMap rowc ++ [.slice (some ⟨g, 0, none⟩) 1 1]))
    (hg6 : (W.alloc (.cells #[.slice (some ⟨g, 0, none⟩) 1 1] 86)).grownBy w6 (Value.slice Ao no co).ownBlock) (hB6 : Below w0.heap.size W w6) : PSt w0 (col ++ [v]) (some ⟨g6, 0, none⟩) (no + 1) cap6 w6 := by
  have ho4 := ho.alloc (.cells #[.slice (some ⟨g, 0, none⟩) 1 1] 86)
  refine ⟨⟨qs ++ [((some ⟨g, 0, none⟩, 1, 1), [v])], by simp [hq], by rw [List.flatMap_append]; simpa [rowc] using hown6, fun q hq => ?_⟩, by simp [hl], hbel.trans hB6⟩
  rw [List.mem_append, List.mem_singleton] at hq
  rcases hq with hq | rfl
  · exact ((hr q hq).below ((Below.refl _ _).alloc (Nat.le_refl _) _)).grown ho4 hg6
  · exact ((own_row1 hB hg0).below ((Below.refl _ _).alloc (Nat.le_refl _) _)).grown ho4 hg6

theorem own_same {w : World} {base base' : Nat} {e : TypeId} {size n : Nat} {v : Value} {xs ys : List Value} (h : w.ownsRow base e size v n xs) (h' : w.ownsRow base' e size v n ys) : xs = ys := by
  rcases h.2 with ⟨rfl, hn⟩ | ⟨g, cap, cur, rfl, _, hh, _, _, _, ht⟩
  · have h1 := h.1
    have h2 := h'.1
    rw [hn, Nat.zero_mul] at h1 h2
    rw [List.eq_nil_of_length_eq_zero h1, List.eq_nil_of_length_eq_zero h2]
  · rcases h'.2 with ⟨hv, _⟩ | ⟨g', cap', cur', hv, _, hh', _, _, _, ht'⟩
    · cases hv
    · injection hv with h1 h2 h3
      injection h1 with h1
      injection h1 with h1
      subst h1
      rw [hh] at hh'
      injection hh' with hh'
      injection hh' with hc
      subst hc
      rw [← ht, ← ht']
def ptsR (ls : List (List Iv)) : List Vl := ls.flatMap ptsL
def PRel (w0 : World) (ps : List LstP) (n : Nat) (x i : Value) (wr : World) : Prop :=
  ∃ (k : Nat) (col : List Vl) (Ao : Option Addr) (no co : Nat), k ≤ n ∧ i = .int .i64 (k : Int) ∧ x = .slice Ao no co ∧ no ≤ 128 * k ∧ col = ptsR ((ps.take k).map (·.2)) ∧ PSt w0 col Ao no co wr
def PRelI (w0 w1 : World) (l : List Iv) (col0 : List Vl) (n0 m : Nat) (x i : Value) (wr : World) : Prop :=
  ∃ (j : Nat) (col : List Vl) (Ao : Option Addr) (no co : Nat), j ≤ m ∧ i = .int .i64 (j : Int) ∧ x = .slice Ao no co ∧ no ≤ n0 + 2 * j ∧ col = col0 ++ ptsL (l.take j) ∧ PSt w0 col Ao no co wr ∧ w1.heap.size ≤ wr.heap.size

set_option maxHeartbeats 4000000 in
theorem rpoints_any (A : Option Addr) (n c : Nat) (ps : List LstP) (w : World) (hs : LstsS w A n ps) (hn : n ≤ 4) :
    Calls Try.prog 66 #[.slice A n c] w fun e w' => ∃ (A' : Option Addr) (c' : Nat) (L : List Vl), L.map (fun v => [v]) = setL ((ptsR (ps.map (·.2))).map fun v => [v]) ∧ e = .returned (.slice A' L.length c') ∧ VlS w' A' L.length L ∧ Below w.heap.size w w' := by
  obtain ⟨i0, hi, hz0, hz1, hz2⟩ := info_parts info_row
  have HS := Lib.hid hs
  have Hln := Lib.hid hs.sl.len
  clear hs
  go_enter Try.func66, Try.ntmps66
  go_wp2
  go_loopw [3, 13] (fun x i wr => PRel w ps n x i wr) (fun _ i _ => n - (intOf i).toNat)
  case atStart => exact ⟨0, [], none, 0, 0, by omega, rfl, rfl, by omega, rfl, ⟨⟨[], rfl, ⟨by simp, .inl ⟨rfl, rfl⟩⟩, by simp⟩, rfl, Below.refl _ _⟩⟩
  case round =>
    obtain ⟨k, col, Ao, no, co, hk, rfl, rfl, hno, hcol, hP⟩ := hrel
    have HP := Lib.hid hP
    have Hcol := Lib.hid hcol
    clear hP hcol
    obtain ⟨wo, rfl⟩ : ∃ wo : World, wo = wr := ⟨_, rfl⟩
    by_cases hlt : k < n
    · obtain ⟨b, o, p, rfl, hp, hpc⟩ := HS.out.sl.at hlt
      have hkr := keeps_of HP.out.bel
      have e1 := keep_cell hkr (hpc 0 _ rfl)
      simp only [Nat.mul_one, Nat.add_zero] at e1
      have hpo := HS.out.ok p (List.mem_of_getElem? hp)
      have Htk := Lib.hid (take_snoc' hp)
      obtain ⟨⟨p1, m, p3⟩, l⟩ := p
      dsimp only [lstc] at e1
      have hm : m ≤ 64 := hpo.sm
      have HPO := Lib.hid hpo
      have Hlm : Hid (l.length = m) := hpo.rd.len
      clear hp hpc hpo hkr
      go_wp2
      go_loopw [3, 19] (fun x i wr => PRelI w wo l col no m x i wr) (fun _ i _ => m - (intOf i).toNat)
      case atStart => exact ⟨0, col, Ao, no, co, by omega, rfl, rfl, by omega, by simp [ptsL], HP.out, Nat.le_refl _⟩
      case round =>
        obtain ⟨j, col', Ao', no', co', hj, rfl, rfl, hno', hcol', hP', hwz⟩ := hrel
        have Hcol' := Lib.hid hcol'
        have hwz' := hP'.bel.size
        obtain ⟨qs, hq, ho, hr⟩ := hP'.ex
        have HQ := Lib.hid hq
        have HRr := Lib.hid hr
        have HP' := Lib.hid hP'
        clear hcol' hP' hq hr
        by_cases hjm : j < m
        · obtain ⟨b2, o2, x, rfl, hx, hxc⟩ := (HPO.out.rd.keep (keeps_of HP'.out.bel)).at hjm
          have Hts := Lib.hid (take_snoc' hx)
          obtain ⟨⟨fk, fi, ft⟩, ⟨tk, ti, tt⟩, xo⟩ := x
          obtain ⟨c0, c1, c2, c3, c4, c5, c6⟩ := IvAt.of hxc
          dsimp only at c0 c1 c2 c3 c4 c5 c6
          clear hx hxc
          have hPush1 : ∀ (g6 cap6 : Nat) (w6 : World), w6.ownsRow w.heap.size 86 1 (.slice (some ⟨g6, 0, none⟩) (no' + 1) cap6) (no' + 1) (qs.flatMap rowc ++ [.slice (some ⟨wr.heap.size + 1, 0, none⟩) 1 1]) →
              (((wr.alloc (.cells #[.int .i64 fk, .int .i64 fi, .string ft, .int .i64 tk, .int .i64 ti, .string tt, .bool xo] 26)).alloc (.cells #[.int .i64 fk, .int .i64 fi, .string ft] 24)).alloc (.cells #[.slice (some ⟨wr.heap.size + 1, 0, none⟩) 1 1] 86)).grownBy w6 (Value.slice Ao' no' co').ownBlock →
              Below w.heap.size ((wr.alloc (.cells #[.int .i64 fk, .int .i64 fi, .string ft, .int .i64 tk, .int .i64 ti, .string tt, .bool xo] 26)).alloc (.cells #[.int .i64 fk, .int .i64 fi, .string ft] 24)) w6 → PSt w (col' ++ [⟨fk, fi, ft⟩]) (some ⟨g6, 0, none⟩) (no' + 1) cap6 w6 := by
            intro g6 cap6 w6 h1 h2 h3
            have hbb : Below wr.heap.size wr ((wr.alloc (.cells #[.int .i64 fk, .int .i64 fi, .string ft, .int .i64 tk, .int .i64 ti, .string tt, .bool xo] 26)).alloc (.cells #[.int .i64 fk, .int .i64 fi, .string ft] 24)) := ((Below.refl _ _).alloc (Nat.le_refl _) _).alloc (by simp) _
            have hB := Blk.new (wr.alloc (.cells #[.int .i64 fk, .int .i64 fi, .string ft, .int .i64 tk, .int .i64 ti, .string tt, .bool xo] 26)) 24 #[.int .i64 fk, .int .i64 fi, .string ft]
            rw [World.size_alloc] at hB
            exact PSt.push (v := ⟨fk, fi, ft⟩) HQ.out HP'.out.len ((ho.alloc _).alloc _) (fun q hq => (HRr.out q hq).below hbb) (Below.next HP'.out.bel hbb) hB (by omega) h1 h2 h3
          have HPush1 := Lib.hid hPush1
          clear hPush1
          go_wp2_with (first
            | (at_builtin; refine wpList_append_one2 (by rfl) (.tmp 23) (.tmp 27) _ (by rfl) w.heap.size 86 i0 _ 1 24 Try.underlying85 hi hz0 hz1 hz2 (by rfl) (by omega) (.slice Ao' no' co') (no') _ (by rfl) _ _ ((ho.alloc _).alloc _) (wr.heap.size + 1 + 1) (by simp) (by rfl) (by rfl) (one_row ((some ⟨wr.heap.size + 1, 0, none⟩, 1, 1), [])) (by simp only [maxLen]; omega) (by omega) (by simp; omega) ?_; intro g6 cap6 w6 hown6 hg6 hB6 hat6 hlt6; have hbx := (Blk.grown (((Blk.new wr 26 #[.int .i64 fk, .int .i64 fi, .string ft, .int .i64 tk, .int .i64 ti, .string tt, .bool xo]).alloc _).alloc _) hg6 (own_ne ho)).cell; have hsz6 := hg6.size; simp only [World.size_alloc] at hsz6)
            | (at_builtin; refine wpList_append_one2 (by rfl) (.tmp 32) (.tmp 36) _ (by rfl) w.heap.size 86 i0 _ 1 24 Try.underlying85 hi hz0 hz1 hz2 (by rfl) (by omega) (.slice (some ⟨g6, 0, none⟩) (no' + 1) cap6) (no' + 1) _ (by rfl) _ _ (hown6.alloc _) (w6.heap.size + 1) (by simp) (by rfl) (by rfl) (one_row ((some ⟨w6.heap.size, 0, none⟩, 1, 1), [])) (by simp only [maxLen]; omega) (by omega) (by simp; omega) ?_; intro g7 cap7 w7 hown7 hg7 hB7 hat7 hlt7))
          · go_roundw
            case rel =>
              have hp6 := HPush1.out g6 cap6 w6 hown6 hg6 hB6
              obtain ⟨qs6, hq6, ho6, hr6⟩ := hp6.ex
              refine ⟨j + 1, col' ++ [⟨fk, fi, ft⟩] ++ [⟨tk, ti, tt⟩], _, no' + 1 + 1, cap7, by omega, by go_num, rfl, by omega, ?_, ?_, ?_⟩
              · have hxo : xo = false := by simpa using ‹(!xo) = true›
                rw [Hts.out, ptsL_snoc, if_neg (by simp [hxo]), Hcol'.out]; simp
              · have hbb : Below w6.heap.size w6 (w6.alloc (.cells #[.int .i64 tk, .int .i64 ti, .string tt] 24)) := (Below.refl _ _).alloc (Nat.le_refl _) _
                have he : qs6.flatMap rowc = qs.flatMap rowc ++ [.slice (some ⟨wr.heap.size + 1, 0, none⟩) 1 1] := own_same ho6 hown6
                exact PSt.push (v := ⟨tk, ti, tt⟩) hq6 hp6.len (ho6.alloc _) (fun q hq => (hr6 q hq).below hbb) (Below.next hp6.bel hbb) (Blk.new _ _ _) hp6.bel.size (by rw [he]; exact hown7) hg7 hB7
              · have := hg7.size; simp at this; omega
            case measure => simp [intOf]; omega
          · go_roundw
            case rel =>
              refine ⟨j + 1, col' ++ [⟨fk, fi, ft⟩], _, no' + 1, cap6, by omega, by go_num, rfl, by omega, ?_, HPush1.out g6 cap6 w6 hown6 hg6 hB6, by omega⟩
              have hxo : xo = true := by simpa using ‹(!xo) = false›
              rw [Hts.out, ptsL_snoc, if_pos (by simp [hxo]), Hcol'.out]; simp
            case measure => simp [intOf]; omega
        · go_wp2
          go_roundw
          case rel =>
            refine ⟨k + 1, col', Ao', no', co', by omega, by go_num, rfl, by omega, ?_, HP'.out⟩
            have e1 : l.take j = l := List.take_of_length_le (by have := Hlm.out; omega)
            rw [Hcol'.out, Hcol.out, Htk.out, e1]
            simp [ptsR]
          case measure => simp [intOf]; omega
    · obtain ⟨qs, hq, ho, hr⟩ := HP.out.ex
      have hlen : qs.length = no := by have := congrArg List.length hq; simpa [HP.out.len] using this
      obtain ⟨f1, f2, f3⟩ := own_forms ho
      have hco : co ≤ 9223372036854775807 := by
        rcases ho.2 with ⟨hv, _⟩ | ⟨g, cap, cur, hv, _, _, _, hm, _⟩
        · injection hv with _ _ h3; omega
        · injection hv with _ _ h3; simp only [maxLen] at hm; omega
      have hrs : RowsS wo Ao no qs := ⟨Sl.of_own (cs := rowc) (fun _ => rfl) hlen ho, fun q hq => (hr q hq).ok⟩
      have hq1 : ∀ q ∈ qs, q.1.2.1 ≤ 4398046511104 := fun q hqm => by
        have h1 := (hr q hqm).2
        have h2 : q.2 ∈ qs.map (·.2) := List.mem_map_of_mem hqm
        rw [hq, List.mem_map] at h2
        obtain ⟨v, _, hv⟩ := h2
        rw [← hv] at h1
        simp at h1
        omega
      have Hset : Hid (setR qs = setL ((ptsR (ps.map (·.2))).map fun v => [v])) := by
        show _ = _
        rw [setR_eq, hq, Hcol.out, List.take_of_length_le (by have := Hln.out; omega)]
      have HRS := Lib.hid hrs
      have HF := Lib.hid (And.intro f1 (And.intro f2 hq1))
      have HLen := Lib.hid hlen
      clear hq ho hr hlen f1 f2 hrs hq1
      go_wp2_with fail
      refine (rset_any Ao no co qs _ HRS.out HF.out.1 HF.out.2.1 f3 hco (by omega) HF.out.2.2).mono ?_
      intro e w2 hpost
      obtain ⟨rs, A2, c2, rfl, hrs2, hS2, hb2⟩ := hpost.rows
      rw [Hset.out] at hrs2 hS2
      rw [Hset.out]
      have HB2 := Lib.hid (Below.next HP.out.bel hb2)
      obtain ⟨L, hL⟩ := setL_ones (ptsR (ps.map (·.2)))
      have hll : (setL ((ptsR (ps.map (·.2))).map fun v => [v])).length = L.length := by rw [← hL]; simp
      rw [hll] at hS2
      rw [hll]
      rw [← hL] at hrs2
      have HL := Lib.hid hL
      have HSS := Lib.hid hS2
      have HRR := Lib.hid hrs2
      have Hrl : Hid (rs.length = L.length) := by
        show _ = _
        have := congrArg List.length hrs2; simpa using this
      have hLb : L.length ≤ 1000000 := by
        have h1 : L.length = (setR qs).length := by rw [Hset.out, hll]
        have h2 : (setR qs).length ≤ 128 * k := by
          rw [setR_eq]
          have h3 := setL_len (qs.map (·.2))
          rw [List.length_map, HLen.out] at h3
          omega
        omega
      clear hL hS2 hrs2 hll hpost hb2
      obtain ⟨i1, hi1, hy0, hy1, hy2⟩ := info_parts info_vl
      go_wp2
      go_loopw [8, 43] (fun x i wr => ∃ (t : Nat) (A' : Option Addr) (c' : Nat), t ≤ L.length ∧ i = .int .i64 (t : Int) ∧ x = .slice A' t c' ∧ wr.ownsRow w2.heap.size 24 3 (.slice A' t c') t ((L.take t).flatMap Vl.cs) ∧ Below w2.heap.size w2 wr) (fun _ i _ => L.length - (intOf i).toNat)
      case atStart => exact ⟨0, none, 0, by omega, rfl, rfl, ⟨by simp, .inl ⟨rfl, rfl⟩⟩, Below.refl _ _⟩
      case round =>
        obtain ⟨t, A', c', ht, rfl, rfl, ho, hb⟩ := hrel
        have hbs := hb.size
        by_cases htl : t < L.length
        · obtain ⟨b, o, q, rfl, hq, hqc⟩ := HSS.out.sl.at htl
          have hkr := keeps_of hb
          have e1 := keep_cell hkr (hqc 0 _ rfl)
          simp only [Nat.mul_one, Nat.add_zero] at e1
          have hqo := (HSS.out.ok q (List.mem_of_getElem? hq)).keep hkr
          have hv : ∃ v, L[t]? = some v ∧ q.2 = [v] := by
            have h1 : (rs.map (·.2))[t]? = some q.2 := by rw [List.getElem?_map, hq]; rfl
            rw [HRR.out, List.getElem?_map, List.getElem?_eq_getElem htl] at h1
            simp only [Option.map_some, Option.some.injEq] at h1
            exact ⟨_, List.getElem?_eq_getElem htl, h1.symm⟩
          obtain ⟨v, hLv, hqv⟩ := hv
          obtain ⟨⟨q1, q2, q3⟩, qr⟩ := q
          dsimp only [rowc] at e1 hqv
          subst hqv
          have hrd := hqo.rd
          dsimp only at hrd
          obtain rfl : 1 = q2 := hrd.len
          obtain ⟨bq, oq, v', rfl, hv', hvc⟩ := hrd.at (k := 0) (by omega)
          simp only [List.getElem?_cons_zero, Option.some.injEq] at hv'
          subst hv'
          have Hts := Lib.hid (take_snoc' hLv)
          obtain ⟨vk, vi, vt⟩ := v
          obtain ⟨c0, c1, c2⟩ := VlAt.of hvc
          dsimp only at c0 c1 c2
          simp only [Nat.zero_mul, Nat.add_zero] at c0 c1 c2
          clear hq hqc hqo hrd hvc hLv hkr
          go_wp2_with (at_builtin; refine wpList_append_one (by rfl) (.tmp 47) (.tmp 51) _ (by rfl) w2.heap.size 24 i1 _ 3 32 Try.underlying42 hi1 hy0 hy1 hy2 (by rfl) (by omega) (.slice A' t c') t _ (by rfl) _ _ ho wr.heap.size (by rfl) (by rfl) (by rfl) (one_vl ⟨vk, vi, vt⟩) (by simp only [maxLen]; omega) (by omega) hbs ?_; intro g6 cap6 w6 hown6 hg6 hB6 hat6 hlt6)
          go_roundw
          case rel =>
            refine ⟨t + 1, _, cap6, by omega, by go_num, rfl, ?_, hb.trans hB6⟩
            rw [Hts.out, List.flatMap_append]
            simpa [Vl.cs] using hown6
          case measure => simp [intOf]; omega
        · go_wp2
          go_ret
          obtain rfl : t = L.length := by omega
          rw [List.take_length] at ho
          exact ⟨A', c', L, HL.out, rfl, Sl.of_own Vl.cs_len rfl ho, Below.next HB2.out hb⟩
end Go.Proofs.Ytjlbnbljimmbeaa
