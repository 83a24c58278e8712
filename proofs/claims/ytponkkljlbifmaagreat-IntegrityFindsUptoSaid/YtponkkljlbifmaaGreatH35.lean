/-
  Texts: IgAm, IgRec.
-/
import Derived.Test.YtponkkljlbifmaaGreatH33
import Derived.Test.YtponkkljlbifmaaGreatH34
set_option linter.unusedVariables false
/-
  The program's among: a test of the keys of the changes' rows.
-/
namespace Go.Proofs.YtponkkljlbifmaaGreat
open Go.RowKit
set_option maxRecDepth 100000
open Pd

def AmongO (tbs : List Tb) (sel : Ch → Rw) (cs : List Ch) (n : Nat) (w : World) (e : Ending) (w' : World) : Prop :=
  ∃ bx : Nat, e = .returned (.func (.func 68) #[] #[.pointer (some ⟨bx, 0, none⟩)]) ∧ TestOk 68 #[.pointer (some ⟨bx, 0, none⟩)] w' n (memK tbs sel cs) ∧ Below w.heap.size w w'
def stB2 (g k : Nat) (a b : World) : Prop := stB g a b ∧ stB k a b
theorem stB2_trans (g k : Nat) : ∀ a b c, stB2 g k a b → stB2 g k b c → stB2 g k a c := fun _ _ _ h m => ⟨Eq.trans m.1 h.1, Eq.trans m.2 h.2⟩
/-- what the selection of a row asks -/
structure SelOk (F : Nat) (sel : Ch → Rw) (selE : ChE → RowP) : Prop where
  ent : ∀ args w, (callFunc F args).run Tryz.prog w = .ok (.enter F args) w
  run : ∀ (W : World) (t : Int) (o r : Rw) (ho hn : Hd), Calls Tryz.prog F #[.agg #[.int .i64 t, .slice ho.1 ho.2.1 ho.2.2, .slice hn.1 hn.2.1 hn.2.2]] W fun e w' => e = .returned (.slice (selE ⟨⟨t, o, r⟩, ho, hn⟩).1.1 (selE ⟨⟨t, o, r⟩, ho, hn⟩).1.2.1 (selE ⟨⟨t, o, r⟩, ho, hn⟩).1.2.2) ∧ Below W.heap.size W w'
  row : ∀ (W : World) (e : ChE), ChOk W e → RowOk W (selE e)
  eq : ∀ e : ChE, (selE e).2 = sel e.c
set_option maxHeartbeats 4000000 in
theorem among_any (ver : Int) (A : Option Addr) (n c : Nat) (tbs : List Tb) (C : Option Addr) (cn cc : Nat) (es : List ChE) (F : Nat) (sel : Ch → Rw) (selE : ChE → RowP) (w : World) (hs : ScS w A n tbs) (hg : GoodS ver tbs) (hch : ChsS w C cn es) (hcn : cn ≤ 1000000) (hF : SelOk F sel selE) (hv : ∀ e ∈ es, validC tbs e.c = true) :
    Calls Tryz.prog 38 #[.agg #[.int .i64 ver, .slice A n c], .slice C cn cc, .func (.func F) #[] #[]] w fun e w' => AmongO tbs sel (es.map (·.c)) n w e w' := by
  obtain ⟨il, hil, hl0, hl1, hl2⟩ := info_parts (show (Tryz.prog.info? 79).map (fun i => (i.zero, i.size, i.bytes)) = some (some (.slice none 0 0), 1, 24) by kernel_rfl)
  obtain ⟨i0, hi0, hz0, hz1, hz2⟩ := info_parts info_row
  have HS0 := Lib.hid hs
  have HCH0 := Lib.hid hch
  have HG := Lib.hid hg
  have Hln := Lib.hid hs.len
  have Hec := Lib.hid hch.sl.len
  have HV := Lib.hid hv
  have HF := Lib.hid hF
  have eF := hF.ent
  have hn8 : n ≤ 8 := by have := hg.ln; have := Hln.out; omega
  have HZ := Lib.hid (Blk.new w 30 #[.int .i64 ver, .slice A n c])
  have HB := Lib.hid ((Below.refl w.heap.size w).alloc (Nat.le_refl _) (.cells #[.int .i64 ver, .slice A n c] 30))
  have HW1 : Hid ((w.alloc (.cells #[.int .i64 ver, .slice A n c] 30)).heap.size = w.heap.size + 1) := Lib.hid (World.size_alloc _ _)
  clear hs hch hg hv hF
  go_enter Tryz.func38, Tryz.ntmps38
  go_upto_region 1 with fail
  generalize hW : w.alloc (.cells #[.int .i64 ver, .slice A n c] 30) = w1 at *
  have z := HZ.out.cell
  go_upto_region 2 with (at_make; refine wpList_make_full _ rfl _ _ 23 rfl w1.heap.size 79 il (.slice none 0 0) 1 Tryz.underlying23 hil hl0 hl1 .i64 .i64 _ _ n rfl rfl rfl rfl (by rw [hl2]; omega) (by unfold maxLen; omega) (Nat.le_refl _) ?_; intro w2 hown hg2)
  have hb2 : Below w1.heap.size w1 w2 := (Below.refl _ _).grown hg2 (Nat.le_refl _) (fun k hk => by cases hk)
  rw [mk_slices] at hown
  obtain ⟨h3, hh3⟩ : ∃ z, w2.heap.size = z := ⟨_, rfl⟩
  obtain ⟨b, hbb⟩ : ∃ z, w1.heap.size = z := ⟨_, rfl⟩
  rw [hh3]
  have hW1 := HW1.out
  rw [hbb] at hown hW1 ⊢
  have hbh : b < h3 := by
    rcases hown.2 with ⟨hv, _⟩ | ⟨g', cap, cur, hv, _, hh, _⟩
    · cases hv
    · injection hv with hv
      injection hv with hv
      injection hv with hv
      have := (Array.getElem?_eq_some_iff.1 hh).1
      omega
  have HI : Hid (KyI w b h3 n #[.int .i64 ver, .slice A n c] (w2.alloc (.cells #[.slice (some ⟨b, 0, none⟩) n n] 23)) (List.replicate n ((none, 0, 0), []))) := Lib.hid (by
    refine ⟨?_, by simp, fun p hp => ?_, fun i j p q hi hj _ g hg => ?_, (HZ.out.below hb2).alloc _, ?_, (HB.out.trans (hb2.mono HB.out.size)).alloc (by have := HB.out.size; have := hb2.size; omega) _, by omega, hbh⟩
    · rcases hown.2 with ⟨hv, _⟩ | ⟨g', cap, cur, hv, _, hh, _, _, hcs, htk⟩
      · cases hv
      · injection hv with hv _ hv3
        injection hv with hv
        injection hv with hv
        subst hv hv3
        have hcur : cur = (List.replicate n (Value.slice none 0 0)).toArray := by
          have h1 : cur.toList = List.replicate n (Value.slice none 0 0) := by
            rw [← htk, List.take_of_length_le (by simp; omega)]
          rw [← h1]
        rw [hcur] at hh
        have : Blk w2 b 79 (List.replicate n (Value.slice none 0 0)).toArray := hh
        have h2 := this.alloc (.cells #[.slice (some ⟨b, 0, none⟩) n n] 23)
        simpa using h2
    · obtain rfl := List.eq_of_mem_replicate hp
      exact ⟨⟨by simp, .inl ⟨rfl, rfl⟩⟩, rfl, fun _ h => absurd h List.not_mem_nil⟩
    · obtain rfl := List.eq_of_mem_replicate (List.mem_of_getElem? hi)
      cases hg
    · have := Blk.new w2 23 #[.slice (some ⟨b, 0, none⟩) n n]
      rwa [hh3] at this)
  clear hown hg2 hb2 HZ HB z hbb hbh hW hW1 HW1
  generalize w2.alloc (.cells #[.slice (some ⟨b, 0, none⟩) n n] 23) = w3 at *
  clear hh3
  have HK0 : Hid (∀ (j : Nat) (T : Tb) (p : TlP), tbs[j]? = some T → (List.replicate n ((none, 0, 0), []) : List TlP)[j]? = some p → p.2.map (·.2) = keysL T sel j ((es.map (·.c)).take 0)) := Lib.hid (fun j T p _ hp => by
    obtain rfl := List.eq_of_mem_replicate (List.mem_of_getElem? hp)
    rfl)
  go_wp2_with fail
  go_loopw [18] (fun i wr => ∃ (q : Nat) (ls : List TlP), q ≤ cn ∧ i = .int .i64 (q : Int) ∧ Hid (KyI w b h3 n #[.int .i64 ver, .slice A n c] wr ls) ∧ Hid (∀ (j : Nat) (T : Tb) (p : TlP), tbs[j]? = some T → ls[j]? = some p → p.2.map (·.2) = keysL T sel j ((es.map (·.c)).take q))) (fun i _ => cn - (intOf i).toNat)
  case atStart => exact ⟨0, _, by omega, rfl, HI, HK0⟩
  case round =>
    clear HI HK0
    obtain ⟨q, ls, hq, rfl, HI, HK⟩ := hrel
    by_cases hqn : q < cn
    · obtain ⟨bc, oc', ⟨⟨t, o, r⟩, ⟨OA, on, oc⟩, ⟨NA, nn, nc⟩⟩, rfl, hee, hok, c0, c1, c2⟩ := (HCH0.out.keep (keeps_of HI.out.be)).at hqn
      dsimp only at c0 c1 c2
      have HRow0 : Hid (RowOk wr (selE ⟨⟨t, o, r⟩, ⟨OA, on, oc⟩, ⟨NA, nn, nc⟩⟩)) := Lib.hid (HF.out.row wr _ hok)
      have HVc : Hid (validC tbs ⟨t, o, r⟩ = true) := Lib.hid (HV.out _ (List.mem_of_getElem? hee))
      have Htk : Hid ((es.map (·.c)).take (q + 1) = (es.map (·.c)).take q ++ [⟨t, o, r⟩]) := Lib.hid (take_snoc' (by rw [List.getElem?_map, hee]; rfl))
      have Hsel : Hid ((selE ⟨⟨t, o, r⟩, ⟨OA, on, oc⟩, ⟨NA, nn, nc⟩⟩).2 = sel ⟨t, o, r⟩) := Lib.hid (HF.out.eq _)
      have hrun := HF.out.run
      clear hee hok
      have HX : Hid (Blk (wr.alloc (.cells #[.int .i64 t, .slice OA on oc, .slice NA nn nc] 91)) wr.heap.size 91 #[.int .i64 t, .slice OA on oc, .slice NA nn nc]) := Lib.hid (Blk.new wr _ _)
      have hal : Below wr.heap.size wr (wr.alloc (.cells #[.int .i64 t, .slice OA on oc, .slice NA nn nc] 91)) := (Below.refl _ _).alloc (Nat.le_refl _) _
      replace HI := Lib.hid (HI.out.below hal)
      replace HRow0 := Lib.hid (HRow0.out.keep (keeps_of hal))
      clear hal
      obtain ⟨hx, Hhx⟩ : ∃ z, Hid (wr.heap.size = z) := ⟨_, Lib.hid rfl⟩
      rw [Hhx.out] at HX
      go_upto_region 5 with fail
      rw [Hhx.out]
      generalize wr.alloc (.cells #[.int .i64 t, .slice OA on oc, .slice NA nn nc] 91) = w6 at *
      clear Hhx c0 c1 c2
      have zx := HX.out.cell
      go_wp2_with fail
      refine (hrun w6 t o r (OA, on, oc) (NA, nn, nc)).mono ?_
      rintro e w7 ⟨rfl, hb7⟩
      replace HI := Lib.hid (HI.out.below hb7)
      replace HX := Lib.hid (HX.out.below hb7)
      replace HRow0 := Lib.hid (HRow0.out.keep (keeps_of hb7))
      clear hb7 zx hrun
      obtain ⟨⟨⟨X, xn, xc⟩, x⟩, hX⟩ : ∃ z, selE ⟨⟨t, o, r⟩, ⟨OA, on, oc⟩, ⟨NA, nn, nc⟩⟩ = z := ⟨_, rfl⟩
      rw [hX] at HRow0 Hsel ⊢
      dsimp only at Hsel ⊢
      clear hX
      have Hxl : Hid (x.length = xn) := Lib.hid HRow0.out.rd.len
      by_cases hx0 : xn = 0
      · have g1 : decide (0 < xn) = false := by simp [hx0]
        have HK2 : Hid (∀ (j : Nat) (T : Tb) (p : TlP), tbs[j]? = some T → ls[j]? = some p → p.2.map (·.2) = keysL T sel j ((es.map (·.c)).take (q + 1))) := Lib.hid (fun j T p hT hp => by
          rw [Htk.out, keysL_snoc, if_neg (by rw [← Hsel.out, Hxl.out]; omega), List.append_nil]
          exact HK.out j T p hT hp)
        clear hx0 HK
        go_wp2
        go_roundw
        case rel => exact ⟨q + 1, ls, by omega, by go_num, HI, HK2⟩
        case measure => simp [intOf]; omega
      · have g1 : decide (0 < xn) = true := by simp; omega
        have Hx0 : Hid (0 < (sel ⟨t, o, r⟩).length) := Lib.hid (by rw [← Hsel.out, Hxl.out]; omega)
        clear hx0
        obtain ⟨ht0, T, hT, _⟩ := validC_at HVc.out
        obtain ⟨t, rfl⟩ := Int.eq_ofNat_of_zero_le ht0
        simp only [Int.toNat_natCast] at hT
        have htn : t < n := by rw [← Hln.out]; exact (List.getElem?_eq_some_iff.1 hT).1
        obtain ⟨⟨⟨L, ln, lc⟩, ps⟩, hl, zl⟩ := HI.out.at htn
        have HT := Lib.hid hT
        have HGT := Lib.hid (HG.out.tb T (List.mem_of_getElem? hT))
        have Hl := Lib.hid hl
        have Hkq : Hid (ps.map (·.2) = keysL T sel t ((es.map (·.c)).take q)) := Lib.hid (HK.out t T _ hT hl)
        have hln : ln ≤ 1000000 := by
          have h1 := (HI.out.own _ (List.mem_of_getElem? hl)).2.1
          have h2 := congrArg List.length Hkq.out
          have h3 := keysL_len T sel t ((es.map (·.c)).take q)
          rw [List.length_map] at h2
          rw [List.length_take, List.length_map, Hec.out] at h3
          dsimp only at h1
          omega
        have HOw : Hid (w7.ownsRow w.heap.size 75 1 (.slice L ln lc) ln (ps.flatMap rowc)) := Lib.hid (HI.out.own _ (List.mem_of_getElem? hl)).1
        have HZl : Hid (w7.cell? ⟨b, t, none⟩ = some (.slice L ln lc)) := Lib.hid zl
        clear ht0 hT hl zl
        go_upto_region 7 with fail
        refine wp_region_planR [14, 16] (belB w7.drew.heap.size) (stB2 h3 hx) (belB_trans _) (stB2_trans h3 hx) (.one [3, 4, 5, 6, 7, 8, 9, 10, 11] [0, 1, 2] 12 (.one [] [] 13 (.one [] [] 14 (.one [] [15] 16 (.last [] []))))) (by kernel_rfl) (by kernel_rfl) (fun _ _ d _ _ h => by cases d <;> exact h) ?_
        replace HI := Lib.hid (HI.out.below (Below.refl w7.heap.size w7).drew)
        replace HX : Hid (Blk w7.drew hx 91 #[.int .i64 (t : Int), .slice OA on oc, .slice NA nn nc]) := Lib.hid HX.out
        replace HRow0 : Hid (RowOk w7.drew ((X, xn, xc), x)) := Lib.hid (HRow0.out.keep (Keeps.refl _).drew)
        replace HOw : Hid (w7.drew.ownsRow w.heap.size 75 1 (.slice L ln lc) ln (ps.flatMap rowc)) := Lib.hid HOw.out
        replace HZl : Hid (w7.drew.cell? ⟨b, t, none⟩ = some (.slice L ln lc)) := Lib.hid HZl.out
        generalize hWd : w7.drew = wd at *
        clear hWd
        have qx : ∀ (y : LaterR (belB wd.heap.size) wd) i, (afterR (belB wd.heap.size) wd y).cell? ⟨h3, i, none⟩ = (#[.slice (some ⟨b, 0, none⟩) n n] : Array Value)[i]? := fun y i => y.cell (HI.out.x.cell i) (fun W h => (HI.out.x.below h).cell i)
        have qc : ∀ (y : LaterR (belB wd.heap.size) wd) i, (afterR (belB wd.heap.size) wd y).cell? ⟨hx, i, none⟩ = (#[.int .i64 (t : Int), .slice OA on oc, .slice NA nn nc] : Array Value)[i]? := fun y i => y.cell (HX.out.cell i) (fun W h => (HX.out.below h).cell i)
        have qz : ∀ (y : LaterR (belB wd.heap.size) wd) i, (afterR (belB wd.heap.size) wd y).cell? ⟨w.heap.size, i, none⟩ = (#[.int .i64 ver, .slice A n c] : Array Value)[i]? := fun y i => y.cell (HI.out.z.cell i) (fun W h => (HI.out.z.below h).cell i)
        have qb : ∀ (y : LaterR (belB wd.heap.size) wd), (afterR (belB wd.heap.size) wd y).cell? ⟨b, t, none⟩ = some (.slice L ln lc) := fun y => y.cell HZl.out (fun W h => (h.cell (p := ⟨b, t, none⟩) HI.out.blk.lt).trans HZl.out)
        have qx2 : ∀ (y : LaterR (stB2 h3 hx) wd) i, (afterR (stB2 h3 hx) wd y).cell? ⟨h3, i, none⟩ = (#[.slice (some ⟨b, 0, none⟩) n n] : Array Value)[i]? := fun y i => y.cell (HI.out.x.cell i) (fun W h => (World.cell?_of_block (w := wd) (a := ⟨h3, i, none⟩) (show W.heap[h3]? = wd.heap[h3]? from h.1)).trans (HI.out.x.cell i))
        have qc2 : ∀ (y : LaterR (stB2 h3 hx) wd) i, (afterR (stB2 h3 hx) wd y).cell? ⟨hx, i, none⟩ = (#[.int .i64 (t : Int), .slice OA on oc, .slice NA nn nc] : Array Value)[i]? := fun y i => y.cell (HX.out.cell i) (fun W h => (World.cell?_of_block (w := wd) (a := ⟨hx, i, none⟩) (show W.heap[hx]? = wd.heap[hx]? from h.2)).trans (HX.out.cell i))
        unfold wpPlanR
        simp only [pickOps, opAt, List.map_cons, List.map_nil, List.getElem?_toArray, List.getElem?_cons_zero, List.getElem?_cons_succ, Option.getD_some]
        repeat (go_big_quiet_step (fail))
        refine wpQuiet_nil ?_
        repeat (go_big_quiet_step (fail))
        refine wpQuiet_nil ?_
        clear qx qc qz qb qx2 qc2
        go_wp2_with fail
        refine (skey_any ver A n c tbs t T X xn xc x _ (HS0.out.keep (keeps_of HI.out.be)) hn8 HT.out (by have := HGT.out.k1; omega) (by have := HGT.out.k2; have := HGT.out.cl; omega) HRow0.out).mono ?_
        rintro e w8 ⟨A8, c8, rfl, hown8, hb8⟩
        go_wp2_with fail
        refine ⟨⟨fun _ => hb8, hb8.block h3 HI.out.x.lt, hb8.block hx HX.out.lt⟩, ?_⟩
        have hbz : w.heap.size ≤ wd.heap.size := HI.out.be.size
        have HN : Hid (OwnRow w8 w.heap.size ((A8, (keyT T x).length, c8), keyT T x)) := Lib.hid ⟨own_weaken hown8.1 hbz, hown8.2⟩
        have HI8 := Lib.hid (HI.out.below hb8)
        have HX8 := Lib.hid (HX.out.below hb8)
        have HO8 : Hid (w8.ownsRow w.heap.size 75 1 (.slice L ln lc) ln (ps.flatMap rowc)) := Lib.hid (own_at HOw.out (fun g _ hlt _ => hb8.block g hlt))
        have hsz8 : w.heap.size ≤ w8.heap.size := HI8.out.be.size
        clear hown8 HI HX HOw HZl HRow0
        unfold wpPlanR
        simp only [pickOps, opAt, List.map_nil, List.getElem?_toArray, List.getElem?_cons_zero, List.getElem?_cons_succ, Option.getD_some]
        repeat (go_big_quiet_step (fail))
        refine wpQuiet_nil ?_
        repeat (go_big_quiet_step (fail))
        refine wpQuiet_nil ?_
        go_wp2_with fail
        refine ⟨⟨fun _ => (Below.refl _ _).alloc hb8.size _, Below.heap_alloc _ _ _ HI8.out.x.lt, Below.heap_alloc _ _ _ HX8.out.lt⟩, ?_⟩
        clear hb8
        unfold wpPlanR
        simp only [pickOps, opAt, List.map_nil, List.getElem?_toArray, List.getElem?_cons_zero, List.getElem?_cons_succ, Option.getD_some]
        repeat (go_big_quiet_step (fail))
        refine wpQuiet_nil ?_
        repeat (go_big_quiet_step (fail))
        refine wpQuiet_nil ?_
        go_wp2_with (at_builtin; refine wpList_append_one2 (by rfl) (.tmp 35) (.tmp 41) _ (by rfl) w.heap.size 75 i0 _ 1 24 Tryz.underlying79 hi0 hz0 hz1 hz2 (by rfl) (by omega) (.slice L ln lc) ln _ (by rfl) w8 #[.slice A8 (keyT T x).length c8] HO8.out w8.heap.size (by rfl) (by rfl) (by rfl) (one_row ((A8, (keyT T x).length, c8), keyT T x)) (by simp only [maxLen]; omega) (by omega) hsz8 ?_; intro g7 cap7 w9 hown9 hg9 hB9 hat9 hlt9)
        have hblk : ∀ k T' cs', Blk w8 k T' cs' → T' ≠ 75 → w9.heap[k]? = w8.heap[k]? := fun k T' cs' hk hT' => (grown_of_alloc hg9).block k hk.lt (fun e => ownR_ne HO8.out e.symm hk hT' rfl)
        refine ⟨⟨fun h => (h (by decide)).elim, (hblk _ _ _ HI8.out.x (by decide)).trans (Below.heap_alloc _ _ _ HI8.out.x.lt).symm, (hblk _ _ _ HX8.out (by decide)).trans (Below.heap_alloc _ _ _ HX8.out.lt).symm⟩, ?_⟩
        have HIN := Lib.hid (HI8.out.add Hl.out HN.out hown9 hg9 hB9 hat9)
        have HB9 : Hid (Blk w9 b 79 (ls.map hdc).toArray) := Lib.hid ((hblk _ _ _ HI8.out.blk (by decide)).trans HI8.out.blk)
        have hbx : b < h3 := HI8.out.hx
        have Hxb : Hid (hx ≠ b) := Lib.hid (fun e => by
          have h1 := HX8.out
          rw [e] at h1
          have h2 := HI8.out.blk
          unfold Blk at h1 h2
          rw [h1] at h2
          injection h2 with h2
          injection h2 with _ ht
          exact absurd ht (by decide))
        clear hblk hown9 hg9 hB9 hat9 hlt9 HO8 HN HI8 HX8
        have zt : w9.cell? ⟨b, t, none⟩ = some (.slice L ln lc) := by rw [HB9.out.cell]; simp [Hl.out]
        have zf := HB9.out.free
        unfold wpPlanR
        simp only [pickOps, opAt, List.map_cons, List.map_nil, List.getElem?_toArray, List.getElem?_cons_zero, List.getElem?_cons_succ, Option.getD_some]
        repeat (go_big_quiet_step (fail))
        refine wpQuiet_nil ?_
        repeat (go_big_quiet_step (fail))
        refine wpQuiet_nil ?_
        go_wp2_with fail
        refine ⟨⟨fun h => (h (by decide)).elim, Below.heap_setCell _ _ _ _ (by show h3 ≠ b; omega), Below.heap_setCell _ _ _ _ Hxb.out⟩, ?_⟩
        clear zt zf
        unfold wpPlanR
        simp only [pickOps, List.map_nil]
        refine wpQuiet_nil ?_
        refine wpQuiet_nil ?_
        have HK2 : Hid (∀ (j : Nat) (T' : Tb) (p : TlP), tbs[j]? = some T' → (ls.set t ((some ⟨g7, 0, none⟩, ln + 1, cap7), ps ++ [((A8, (keyT T x).length, c8), keyT T x)]))[j]? = some p → p.2.map (·.2) = keysL T' sel j ((es.map (·.c)).take (q + 1))) := Lib.hid (fun j T' p hT' hp => by
          rw [Htk.out, keysL_snoc]
          rw [List.getElem?_set] at hp
          split at hp
          · rename_i e
            subst e
            rw [if_pos (List.getElem?_eq_some_iff.1 Hl.out).1] at hp
            injection hp with hp
            subst hp
            obtain rfl : T = T' := by have := HT.out; rw [hT'] at this; injection this with this; exact this.symm
            rw [if_pos ⟨rfl, Hx0.out⟩, List.map_append, Hkq.out, ← Hsel.out]
            rfl
          · rename_i e
            rw [if_neg (fun h => e (by have := h.1; simp only at this; omega)), List.append_nil]
            exact HK.out j T' p hT' hp)
        clear HK
        go_wp2
        go_roundw
        case rel => exact ⟨q + 1, _, by omega, by go_num, HIN, HK2⟩
        case measure => simp [intOf]; omega
    · obtain rfl : q = cn := by omega
      have HSe := Lib.hid HI.out.se
      have HKs : Hid (∀ (j : Nat) (T : Tb) (p : TlP), tbs[j]? = some T → ls[j]? = some p → p.2.map (·.2) = if j < 0 then setL (keysL T sel j (es.map (·.c))) else keysL T sel j (es.map (·.c))) := Lib.hid (fun j T p hT hp => by
        have h := HK.out j T p hT hp
        rw [List.take_of_length_le (by rw [List.length_map, Hec.out]; exact Nat.le_refl _)] at h
        rw [if_neg (by omega)]
        exact h)
      have zx := HI.out.x.cell
      clear HI HK
      go_wp2_with fail
      clear zx
      go_loopw [47] (fun i wr => ∃ (j : Nat) (ls : List TlP), j ≤ n ∧ i = .int .i64 (j : Int) ∧ Hid (SeI w b h3 n wr ls) ∧ Hid (∀ (k : Nat) (T : Tb) (p : TlP), tbs[k]? = some T → ls[k]? = some p → p.2.map (·.2) = if k < j then setL (keysL T sel k (es.map (·.c))) else keysL T sel k (es.map (·.c)))) (fun i _ => n - (intOf i).toNat)
      case atStart => exact ⟨0, ls, by omega, rfl, HSe, HKs⟩
      case round =>
        clear HSe HKs
        obtain ⟨j, ls, hj, rfl, HI, HK⟩ := hrel
        by_cases hjn : j < n
        · obtain ⟨T, hT⟩ : ∃ T, tbs[j]? = some T := ⟨_, List.getElem?_eq_getElem (by rw [Hln.out]; exact hjn)⟩
          obtain ⟨⟨⟨L, ln, lc⟩, ps⟩, hl, htl, zl⟩ := HI.out.at hjn
          have HT := Lib.hid hT
          have Hl := Lib.hid hl
          have Hkj : Hid (ps.map (·.2) = keysL T sel j (es.map (·.c))) := Lib.hid (by have h := HK.out j T _ hT hl; rw [if_neg (by omega)] at h; exact h)
          have HGT := Lib.hid (HG.out.tb T (List.mem_of_getElem? hT))
          have HTL : Hid (TlW wr.drew w.heap.size ((L, ln, lc), ps)) := Lib.hid (htl.below (Below.refl wr.heap.size wr).drew)
          have HZl : Hid (wr.drew.cell? ⟨b, j, none⟩ = some (.slice L ln lc)) := Lib.hid zl
          have hln : ln ≤ 1000000 := by
            have h1 := htl.ok.len
            have h2 := congrArg List.length Hkj.out
            have h3 := keysL_len T sel j (es.map (·.c))
            rw [List.length_map, Hec.out] at h3
            unfold tlR at h1
            rw [List.length_map] at h1 h2
            dsimp only at h1
            omega
          clear hT hl htl zl
          go_wp2_with fail
          refine wp_region_planR [8] (belB wr.drew.heap.size) anyW (belB_trans _) anyW_trans (.one [0, 1, 2, 3, 4, 5] [] 6 (.one [7] [] 8 (.last [] []))) (by kernel_rfl) (by kernel_rfl) (fun _ _ d _ _ h => by cases d <;> exact h) ?_
          replace HI := Lib.hid (HI.out.below (Below.refl wr.heap.size wr).drew)
          generalize hWd : wr.drew = wd at *
          clear hWd
          have qx : ∀ (y : LaterR (belB wd.heap.size) wd) i, (afterR (belB wd.heap.size) wd y).cell? ⟨h3, i, none⟩ = (#[.slice (some ⟨b, 0, none⟩) n n] : Array Value)[i]? := fun y i => y.cell (HI.out.x.cell i) (fun W h => (HI.out.x.below h).cell i)
          have qb : ∀ (y : LaterR (belB wd.heap.size) wd), (afterR (belB wd.heap.size) wd y).cell? ⟨b, j, none⟩ = some (.slice L ln lc) := fun y => y.cell HZl.out (fun W h => (h.cell (p := ⟨b, j, none⟩) HI.out.blk.lt).trans HZl.out)
          unfold wpPlanR
          simp only [pickOps, opAt, List.map_cons, List.map_nil, List.getElem?_toArray, List.getElem?_cons_zero, List.getElem?_cons_succ, Option.getD_some]
          repeat (go_big_quiet_step (fail))
          refine wpQuiet_nil ?_
          repeat (go_big_quiet_step (fail))
          refine wpQuiet_nil ?_
          clear qx qb
          go_wp2_with fail
          refine (setV_any L ln lc ps _ HTL.out.ok.rd HTL.out.ok.nl HTL.out.sp hln (fun p hp => ?_)).mono ?_
          · have h1 := (HTL.out.ok.rd.ok p hp).rd.len
            have h2 : p.2 ∈ keysL T sel j (es.map (·.c)) := by rw [← Hkj.out]; exact List.mem_map_of_mem hp
            unfold keysL at h2
            obtain ⟨c', _, h3⟩ := List.mem_map.1 h2
            have h4 := keyT_len T (sel c')
            rw [h3] at h4
            have := HGT.out.k2
            have := HGT.out.cl
            omega
          rintro e w8 ⟨qs, Ao, co, rfl, hqs, hown8, hrows8, hb8⟩
          go_wp2_with fail
          refine ⟨⟨fun _ => hb8, trivial⟩, ?_⟩
          have hbz : w.heap.size ≤ wd.heap.size := HI.out.be.size
          replace HI := Lib.hid (HI.out.below hb8)
          obtain ⟨R, HR⟩ : ∃ z, Hid (setL (ps.map (·.2)) = z) := ⟨_, Lib.hid rfl⟩
          rw [HR.out] at hqs hown8 ⊢
          have HQ := Lib.hid hqs
          have hql : qs.length = R.length := by rw [← hqs, List.length_map]
          have HTN : Hid (TlW w8 w.heap.size ((Ao, R.length, co), qs)) := Lib.hid (own_tlw (p := ((Ao, R.length, co), qs)) hown8 hql (fun y hy => (hrows8 y hy).ok) hbz)
          have hjl : j < ls.length := by rw [HI.out.len]; exact hjn
          have zt : w8.cell? ⟨b, j, none⟩ = some (.slice L ln lc) := by rw [HI.out.blk.cell]; simp [Hl.out]
          have zf := HI.out.blk.free
          clear hqs hown8 hrows8 hb8 hql HTL HZl
          obtain ⟨rl, Hrl⟩ : ∃ z, Hid (R.length = z) := ⟨_, Lib.hid rfl⟩
          rw [Hrl.out] at HTN ⊢
          unfold wpPlanR
          simp only [pickOps, opAt, List.map_cons, List.map_nil, List.getElem?_toArray, List.getElem?_cons_zero, List.getElem?_cons_succ, Option.getD_some]
          repeat (go_big_quiet_step (fail))
          refine wpQuiet_nil ?_
          repeat (go_big_quiet_step (fail))
          refine wpQuiet_nil ?_
          go_wp2_with fail
          refine ⟨⟨fun h => (h (by decide)).elim, trivial⟩, ?_⟩
          clear zt zf
          unfold wpPlanR
          simp only [pickOps, List.map_nil]
          refine wpQuiet_nil ?_
          refine wpQuiet_nil ?_
          have HIN := Lib.hid (HI.out.put (t := j) HTN.out)
          have HK2 : Hid (∀ (k : Nat) (T' : Tb) (p : TlP), tbs[k]? = some T' → (ls.set j ((Ao, rl, co), qs))[k]? = some p → p.2.map (·.2) = if k < j + 1 then setL (keysL T' sel k (es.map (·.c))) else keysL T' sel k (es.map (·.c))) := Lib.hid (fun k T' p hT' hp => by
            rw [List.getElem?_set] at hp
            split at hp
            · rename_i e
              subst e
              injection hp with hp
              subst hp
              obtain rfl : T = T' := by have := HT.out; rw [hT'] at this; injection this with this; exact this.symm
              rw [if_pos (by omega), ← Hkj.out, HR.out]
              exact HQ.out
            · rename_i e
              rw [HK.out k T' p hT' hp]
              by_cases h1 : k < j
              · rw [if_pos h1, if_pos (by omega)]
              · rw [if_neg h1, if_neg (by omega)])
          clear HK HI
          go_wp2
          go_roundw
          case rel => exact ⟨j + 1, _, by omega, by go_num, HIN, HK2⟩
          case measure => simp [intOf]; omega
        · obtain rfl : j = n := by omega
          have HTest := Lib.hid (amtest_any (sel := sel) (cs := es.map (·.c)) HI.out Hln.out (by rw [List.length_map, Hec.out]; exact hcn) (fun k T p hT hp => by
            have h := HK.out k T p hT hp
            rw [if_pos (by rw [← Hln.out]; exact (List.getElem?_eq_some_iff.1 hT).1)] at h
            exact h))
          have HE : Hid (AmongO tbs sel (es.map (·.c)) j w (.returned (.func (.func 68) #[] #[.pointer (some ⟨h3, 0, none⟩)])) wr) := Lib.hid ⟨h3, rfl, HTest.out, HI.out.be⟩
          clear HTest
          go_wp2
          go_ret
          exact HE.out
end Go.Proofs.YtponkkljlbifmaaGreat

/-
  The program's Recheck: the violations that changes may have caused.
-/
namespace Go.Proofs.YtponkkljlbifmaaGreat
open Go.RowKit
set_option maxRecDepth 100000
open Pd

set_option maxHeartbeats 400000 in
theorem selN_run (W : World) (t : Int) (o r : Rw) (ho hn : Hd) : Calls Tryz.prog 39 #[.agg #[.int .i64 t, .slice ho.1 ho.2.1 ho.2.2, .slice hn.1 hn.2.1 hn.2.2]] W fun e w' => e = .returned (.slice hn.1 hn.2.1 hn.2.2) ∧ Below W.heap.size W w' := by
  have HB := Lib.hid ((Below.refl W.heap.size W).alloc (Nat.le_refl _) (.cells #[.int .i64 t, .slice ho.1 ho.2.1 ho.2.2, .slice hn.1 hn.2.1 hn.2.2] 91))
  go_enter Tryz.func39, Tryz.ntmps39
  go_wp2
  go_ret
  exact ⟨rfl, HB.out⟩
set_option maxHeartbeats 400000 in
theorem selO_run (W : World) (t : Int) (o r : Rw) (ho hn : Hd) : Calls Tryz.prog 40 #[.agg #[.int .i64 t, .slice ho.1 ho.2.1 ho.2.2, .slice hn.1 hn.2.1 hn.2.2]] W fun e w' => e = .returned (.slice ho.1 ho.2.1 ho.2.2) ∧ Below W.heap.size W w' := by
  have HB := Lib.hid ((Below.refl W.heap.size W).alloc (Nat.le_refl _) (.cells #[.int .i64 t, .slice ho.1 ho.2.1 ho.2.2, .slice hn.1 hn.2.1 hn.2.2] 91))
  go_enter Tryz.func40, Tryz.ntmps40
  go_wp2
  go_ret
  exact ⟨rfl, HB.out⟩
theorem selN_ok : SelOk 39 Ch.n (fun e => (e.n, e.c.n)) where
  ent := Go.Proofs.enters_of Tryz.func39 (by kernel_rfl) rfl
  run := selN_run
  row := fun _ _ h => h.n
  eq := fun _ => rfl
theorem selO_ok : SelOk 40 Ch.o (fun e => (e.o, e.c.o)) where
  ent := Go.Proofs.enters_of Tryz.func40 (by kernel_rfl) rfl
  run := selO_run
  row := fun _ _ h => h.o
  eq := fun _ => rfl
theorem ent_among : ∀ args w, (callFunc 68 args).run Tryz.prog w = .ok (.enter 68 args) w := Go.Proofs.enters_of Tryz.func68 (by kernel_rfl) rfl
def RecO (r : Int × List Vo) (w : World) (e : Ending) (w' : World) : Prop :=
  ((r.1 = 0 ∧ ∃ (V : Option Addr) (n vc : Nat) (xs : List VoE), e = .returned (.tuple #[.slice V n vc, .int .i64 0]) ∧ VosN w.heap.size w' V n xs ∧ xs.map (·.v) = r.2) ∨ (r.1 ≠ 0 ∧ e = .returned (.tuple #[.slice none 0 0, .int .i64 r.1]))) ∧ Below w.heap.size w w'
set_option maxHeartbeats 4000000 in
theorem recheck_any (ver : Int) (A : Option Addr) (n c : Nat) (tbs : List Tb) (B : Option Addr) (m cb : Nat) (ls0 : List TlP) (C : Option Addr) (cn cc : Nat) (es : List ChE) (w : World) (hs : ScS w A n tbs) (hg : GoodS ver tbs) (hst : StS w B m ls0) (hb : cntS (stR ls0) ≤ 4611686018427387904) (hm : m ≤ 1000000) (hch : ChsS w C cn es) (hcn : cn ≤ 1000000) :
    Calls Tryz.prog 16 #[.agg #[.int .i64 ver, .slice A n c], .agg #[.slice B m cb], .slice C cn cc] w fun e w' => RecO (recS tbs (stR ls0) (es.map (·.c))) w e w' := by
  have HB : Hid (Below w.heap.size w ((w.alloc (.cells #[.int .i64 ver, .slice A n c] 30)).alloc (.cells #[.slice B m cb] 25))) := Lib.hid (((Below.refl _ _).alloc (Nat.le_refl _) _).alloc (by simp) _)
  have HS0 := Lib.hid hs
  have HST := Lib.hid (hst.keep (keeps_of HB.out))
  have HCH0 := Lib.hid hch
  have HZ := Lib.hid ((Blk.new w 30 #[.int .i64 ver, .slice A n c]).alloc (.cells #[.slice B m cb] 25))
  have HY := Lib.hid (Blk.new (w.alloc (.cells #[.int .i64 ver, .slice A n c] 30)) 25 #[.slice B m cb])
  rw [World.size_alloc] at HY
  have HG := Lib.hid hg
  have Hln := Lib.hid hs.len
  clear hs hst hch hg
  obtain ⟨RR, HRR⟩ : ∃ z, Hid (recS tbs (stR ls0) (es.map (·.c)) = z) := ⟨_, Lib.hid rfl⟩
  rw [HRR.out]
  go_enter Tryz.func16, Tryz.ntmps16
  go_upto_region 1 with fail
  generalize hW : (w.alloc (.cells #[.int .i64 ver, .slice A n c] 30)).alloc (.cells #[.slice B m cb] 25) = w1 at *
  have z := HZ.out.cell
  have zy := HY.out.cell
  go_wp2_with fail
  refine (tapply_any ver A n c tbs B m cb ls0 C cn cc es _ (HS0.out.keep (keeps_of HB.out)) HG.out HST.out hb hm (HCH0.out.keep (keeps_of HB.out)) hcn).mono ?_
  rintro e w2 ⟨⟨h0, b, ls, rfl, hst2, hls, hbb⟩ | ⟨h0, rfl⟩, hb2⟩
  · have HB2 := Lib.hid (HB.out.trans (hb2.mono HB.out.size))
    have HZ2 := Lib.hid (HZ.out.below hb2)
    have HST2 := Lib.hid hst2
    have HOK : Hid (OkS tbs (stR ls)) := Lib.hid (by rw [hls]; exact applyS_ok h0)
    have HV := Lib.hid (applyS_valid h0)
    have hmn : m = n := by
      have h1 := HOK.out.ln
      unfold stR at h1
      rw [List.length_map, hst2.sl.len, Hln.out] at h1
      exact h1
    subst hmn
    have HR2 : Hid (RR = (0, vioS (memK tbs Ch.n (es.map (·.c))) (memK tbs Ch.o (es.map (·.c))) tbs (stR ls))) := Lib.hid (by rw [← HRR.out]; unfold recS; rw [if_neg (by rw [h0]; simp), hls])
    clear z zy hb2 h0 hst2 hls hbb HZ HY HST HB hW
    have HX : Hid (Blk (w2.alloc (.cells #[.slice (some ⟨b, 0, none⟩) m m] 25)) w2.heap.size 25 #[.slice (some ⟨b, 0, none⟩) m m]) := Lib.hid (Blk.new _ _ _)
    have hal : Below w2.heap.size w2 (w2.alloc (.cells #[.slice (some ⟨b, 0, none⟩) m m] 25)) := (Below.refl _ _).alloc (Nat.le_refl _) _
    have HB3 := Lib.hid (Below.next HB2.out hal)
    have HZ3 := Lib.hid (HZ2.out.below hal)
    have HST3 := Lib.hid (HST2.out.keep (keeps_of hal))
    obtain ⟨hx, Hhx⟩ : ∃ z, Hid (w2.heap.size = z) := ⟨_, Lib.hid rfl⟩
    rw [Hhx.out] at HX
    clear hal HB2 HZ2 HST2
    go_upto_region 2 with fail
    rw [Hhx.out]
    generalize w2.alloc (.cells #[.slice (some ⟨b, 0, none⟩) m m] 25) = w3 at *
    clear Hhx
    have z := HZ3.out.cell
    go_wp2_with fail
    refine (among_any ver A m c tbs C cn cc es 39 Ch.n (fun e => (e.n, e.c.n)) _ (HS0.out.keep (keeps_of HB3.out)) HG.out (HCH0.out.keep (keeps_of HB3.out)) hcn selN_ok (fun e he => HV.out _ (List.mem_map_of_mem he))).mono ?_
    rintro e w4 ⟨bx1, rfl, ht1, hb4⟩
    have HB4 := Lib.hid (Below.next HB3.out hb4)
    have HZ4 := Lib.hid (HZ3.out.below hb4)
    have HX4 := Lib.hid (HX.out.below hb4)
    have HST4 := Lib.hid (HST3.out.keep (keeps_of hb4))
    have HT1 := Lib.hid ht1
    clear z hb4 ht1 HB3 HZ3 HX HST3
    have z := HZ4.out.cell
    go_wp2_with fail
    refine (among_any ver A m c tbs C cn cc es 40 Ch.o (fun e => (e.o, e.c.o)) _ (HS0.out.keep (keeps_of HB4.out)) HG.out (HCH0.out.keep (keeps_of HB4.out)) hcn selO_ok (fun e he => HV.out _ (List.mem_map_of_mem he))).mono ?_
    rintro e w5 ⟨bx2, rfl, ht2, hb5⟩
    have HB5 := Lib.hid (Below.next HB4.out hb5)
    have HZ5 := Lib.hid (HZ4.out.below hb5)
    have HX5 := Lib.hid (HX4.out.below hb5)
    have HST5 := Lib.hid (HST4.out.keep (keeps_of hb5))
    have HT1' := Lib.hid (HT1.out.below hb5)
    have HT2 := Lib.hid ht2
    clear z hb5 ht2 HB4 HZ4 HX4 HST4 HT1
    have z := HZ5.out.cell
    have zx := HX5.out.cell
    go_wp2_with fail
    refine (find_any ver A m c tbs (some ⟨b, 0, none⟩) m ls 68 68 #[.pointer (some ⟨bx1, 0, none⟩)] #[.pointer (some ⟨bx2, 0, none⟩)] (memK tbs Ch.n (es.map (·.c))) (memK tbs Ch.o (es.map (·.c))) _ (HS0.out.keep (keeps_of HB5.out)) HG.out HST5.out HOK.out.tb HOK.out.ct ent_among ent_among HT1'.out HT2.out).mono ?_
    rintro e w6 ⟨V, vn, vc, xs, rfl, hvn, hxs, hb6⟩
    have HR : Hid (RecO RR w (.returned (.tuple #[.slice V vn vc, .int .i64 0])) w6) := Lib.hid ⟨.inl ⟨by rw [HR2.out], V, vn, vc, xs, rfl, ⟨hvn.sl, fun hn g o e => by have h1 := hvn.far hn g o e; have h2 := HB5.out.size; omega, fun x hx => (hvn.keys x hx).mono HB5.out.size⟩, by rw [HR2.out]; exact hxs⟩, Below.next HB5.out hb6⟩
    clear hvn hxs hb6
    go_wp2
    exact bodyPost_ret (v := .tuple #[.slice V vn vc, .int .i64 0]) (by simp [results, Tryz.results16, go_sem]) rfl HR.out
  · have HR2 : Hid (RR = ((applyS tbs (stR ls0) (es.map (·.c))).1, [])) := Lib.hid (by rw [← HRR.out]; unfold recS; rw [if_pos h0])
    have hal : Below w2.heap.size w2 (w2.alloc (.cells #[.slice none 0 0] 25)) := (Below.refl _ _).alloc (Nat.le_refl _) _
    have HR : Hid (RecO RR w (.returned (.tuple #[.slice none 0 0, .int .i64 (applyS tbs (stR ls0) (es.map (·.c))).1])) (w2.alloc (.cells #[.slice none 0 0] 25))) := Lib.hid ⟨.inr ⟨by rw [HR2.out]; exact h0, by rw [HR2.out]⟩, Below.next (HB.out.trans (hb2.mono HB.out.size)) hal⟩
    have g : ((applyS tbs (stR ls0) (es.map (·.c))).1 != 0) = true := by simpa using h0
    clear hal HR2 HRR
    generalize (applyS tbs (stR ls0) (es.map (·.c))).1 = ee at *
    clear h0 z zy
    go_wp2
    exact bodyPost_ret (v := .tuple #[.slice none 0 0, .int .i64 ee]) (by simp [results, Tryz.results16, go_sem]) rfl HR.out
end Go.Proofs.YtponkkljlbifmaaGreat
