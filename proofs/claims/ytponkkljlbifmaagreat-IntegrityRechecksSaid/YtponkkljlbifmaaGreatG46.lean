/-
  Texts: IgRRk.
-/
import Derived.Test.YtponkkljlbifmaaGreatG45
set_option linter.unusedVariables false
/-
  The reference's Recheck: the violations that changes may have caused.
-/
namespace Go.Proofs.YtponkkljlbifmaaGreat
open Go.RowKit
set_option maxRecDepth 100000
open Pd

/-- what Recheck holds: the violations so far; w4: the world before all, w5: behind it -/
structure RkI (w4 w5 wr : World) (O : Option Addr) (n c : Nat) (ys : List VoE) : Prop where
  own : wr.ownsRow w5.heap.size 88 4 (.slice O n c) n (ys.flatMap VoE.cs)
  len : ys.length = n
  keys : ∀ x ∈ ys, OwnRow wr w4.heap.size x.p
  be : Below w5.heap.size w5 wr
section
variable {w4 w5 wr wr' : World} {O : Option Addr} {n c : Nat} {ys : List VoE}
theorem RkI.nil (w4 w5 : World) : RkI w4 w5 w5 none 0 0 [] := ⟨⟨by simp, .inl ⟨rfl, rfl⟩⟩, rfl, fun _ h => absurd h List.not_mem_nil, Below.refl _ _⟩
theorem RkI.below (h : RkI w4 w5 wr O n c ys) (hb : Below wr.heap.size wr wr') : RkI w4 w5 wr' O n c ys :=
  ⟨own_at h.own (fun g _ hlt _ => hb.block g hlt), h.len, fun x hx => (h.keys x hx).below hb, Below.next h.be hb⟩
theorem RkI.add (h : RkI w4 w5 wr O n c ys) {x : VoE} (hx : OwnRow wr w4.heap.size x.p) {o : Obj} {g cap : Nat} (ho : wr'.ownsRow w5.heap.size 88 4 (.slice (some ⟨g, 0, none⟩) (n + 1) cap) (n + 1) (ys.flatMap VoE.cs ++ VoE.cs x)) (hg : (wr.alloc o).grownBy wr' (Value.slice O n c).ownBlock) (hB : Below w5.heap.size wr wr') : RkI w4 w5 wr' (some ⟨g, 0, none⟩) (n + 1) cap (ys ++ [x]) := by
  have hg2 := grown_of_alloc hg
  refine ⟨by rw [List.flatMap_append]; simpa using ho, by rw [List.length_append, h.len]; rfl, fun y hy => ?_, h.be.trans hB⟩
  rcases List.mem_append.1 hy with hy | hy
  · exact (h.keys y hy).grownT h.own (by decide) hg2
  · rw [List.mem_singleton.1 hy]
    exact hx.grownT h.own (by decide) hg2
end
theorem but_cell {S : Nat → Prop} {w w' : World} (hb : But S w w') {p : Addr} {v : Value} (h : w.cell? p = some v) (hp : ¬ S p.block) : w'.cell? p = some v := by
  have hlt := cell_lt (w := w) (a := p) (by rw [h]; rfl)
  rw [World.cell?_of_block (w := w) (hb.block p.block hlt hp)]
  exact h
theorem but_alloc2 {S : Nat → Prop} (w : World) (o o' : Obj) (h : S w.heap.size) : But S (w.alloc o) (w.alloc o') := by
  have h1 : Below w.heap.size w (w.alloc o) := (Below.refl _ _).alloc (Nat.le_refl _) _
  have h2 : Below w.heap.size w (w.alloc o') := (Below.refl _ _).alloc (Nat.le_refl _) _
  refine ⟨h2.os.trans h1.os.symm, h2.tape.trans h1.tape.symm, h2.output.trans h1.output.symm, by rw [World.size_alloc, World.size_alloc]; exact Nat.le_refl _, fun k hk hs => ?_⟩
  rw [World.size_alloc] at hk
  have hk2 : k < w.heap.size := by
    rcases Nat.lt_or_ge k w.heap.size with h3 | h3
    · exact h3
    · obtain rfl : k = w.heap.size := by omega
      exact absurd h hs
  exact (h2.block k hk2).trans (h1.block k hk2).symm
set_option maxRecDepth 100000 in
set_option maxHeartbeats 16000000 in
theorem rrecheck_any (ver : Int) (A : Option Addr) (n c : Nat) (tbs : List Tb) (B : Option Addr) (m cb : Nat) (ls0 : List TlP) (C : Option Addr) (cn cc : Nat) (es : List ChE) (w : World) (hs : ScS w A n tbs) (hg : GoodS ver tbs) (hn0 : 0 < n) (hst : StS w B m ls0) (hm : m ≤ 9223372036854775807) (hch : ChsS w C cn es) (hcn : cn ≤ 1000000) :
    Calls Tryz.prog 17 #[.agg #[.int .i64 ver, .slice A n c], .agg #[.slice B m cb], .slice C cn cc] w fun e w' => RecO (recS tbs (stR ls0) (es.map (·.c))) w e w' := by
  obtain ⟨i0, hi, hz0, hz1, hz2⟩ := info_parts info_vo
  obtain ⟨b3, o3, hA⟩ : ∃ b o, A = some ⟨b, o, none⟩ := by
    obtain ⟨b, o, _, h, _⟩ := hs.at hn0
    exact ⟨b, o, h⟩
  subst hA
  have HB : Hid (Below w.heap.size w ((w.alloc (.cells #[.int .i64 ver, .slice (some ⟨b3, o3, none⟩) n c] 30)).alloc (.cells #[.slice B m cb] 25))) := Lib.hid (((Below.refl _ _).alloc (Nat.le_refl _) _).alloc (by simp) _)
  have HS0 := Lib.hid hs
  have HST := Lib.hid (hst.keep (keeps_of HB.out))
  have HCH0 := Lib.hid hch
  have HZ := Lib.hid ((Blk.new w 30 #[.int .i64 ver, .slice (some ⟨b3, o3, none⟩) n c]).alloc (.cells #[.slice B m cb] 25))
  have HY := Lib.hid (Blk.new (w.alloc (.cells #[.int .i64 ver, .slice (some ⟨b3, o3, none⟩) n c] 30)) 25 #[.slice B m cb])
  rw [World.size_alloc] at HY
  have HG := Lib.hid hg
  have Hln := Lib.hid hs.len
  have hn8 : n ≤ 8 := by have := hg.ln; have := Hln.out; omega
  clear hs hst hch hg
  obtain ⟨RR, HRR⟩ : ∃ z, Hid (recS tbs (stR ls0) (es.map (·.c)) = z) := ⟨_, Lib.hid rfl⟩
  rw [HRR.out]
  go_enter Tryz.func17, Tryz.ntmps17
  go_upto_region 1 with fail
  generalize hW : (w.alloc (.cells #[.int .i64 ver, .slice (some ⟨b3, o3, none⟩) n c] 30)).alloc (.cells #[.slice B m cb] 25) = w1 at *
  have z := HZ.out.cell
  have zy := HY.out.cell
  go_wp2_with fail
  refine (rapply_any ver (some ⟨b3, o3, none⟩) n c tbs B m cb ls0 C cn cc es _ (HS0.out.keep (keeps_of HB.out)) HG.out hn0 HST.out hm (HCH0.out.keep (keeps_of HB.out)) hcn).mono ?_
  rintro e w2 ⟨⟨h0, b, cb', ls, rfl, hst2, hls, hbb⟩ | ⟨h0, rfl⟩, hb2⟩
  · have HB2 := Lib.hid (HB.out.trans (hb2.mono HB.out.size))
    have HZ2 := Lib.hid (HZ.out.below hb2)
    have HST2 := Lib.hid hst2
    have HOK : Hid (OkS tbs (stR ls)) := Lib.hid (by rw [hls]; exact applyS_ok h0)
    have hmn : m = n := by
      have h1 := HOK.out.ln
      unfold stR at h1
      rw [List.length_map, hst2.sl.len, Hln.out] at h1
      exact h1
    subst hmn
    have HR2 : Hid (RR = (0, vioS (memK tbs Ch.n (es.map (·.c))) (memK tbs Ch.o (es.map (·.c))) tbs (stR ls))) := Lib.hid (by rw [← HRR.out]; unfold recS; rw [if_neg (by rw [h0]; simp), hls])
    clear z zy hb2 h0 hst2 hls hbb HZ HY HST HB hW
    have HX : Hid (Blk (w2.alloc (.cells #[.slice (some ⟨b, 0, none⟩) m cb'] 25)) w2.heap.size 25 #[.slice (some ⟨b, 0, none⟩) m cb']) := Lib.hid (Blk.new _ _ _)
    have hal : Below w2.heap.size w2 (w2.alloc (.cells #[.slice (some ⟨b, 0, none⟩) m cb'] 25)) := (Below.refl _ _).alloc (Nat.le_refl _) _
    have HB3 := Lib.hid (Below.next HB2.out hal)
    have HZ3 := Lib.hid (HZ2.out.below hal)
    have HST3 := Lib.hid (HST2.out.keep (keeps_of hal))
    obtain ⟨hx, Hhx⟩ : ∃ z, Hid (w2.heap.size = z) := ⟨_, Lib.hid rfl⟩
    rw [Hhx.out] at HX
    clear hal HB2 HZ2 HST2
    go_upto_region 2 with fail
    rw [Hhx.out]
    generalize w2.alloc (.cells #[.slice (some ⟨b, 0, none⟩) m cb'] 25) = w4 at *
    clear Hhx
    have z := HZ3.out.cell
    have zx := HX.out.cell
    go_wp2_with fail
    refine (rall9_any ver (some ⟨b3, o3, none⟩) m c tbs (some ⟨b, 0, none⟩) cb' ls _ (HS0.out.keep (keeps_of HB3.out)) HG.out HST3.out HOK.out.tb HOK.out.ct).mono ?_
    rintro e w5 ⟨V, vn, vc, xs, rfl, hvn, hxs, hb5⟩
    have HB5 := Lib.hid (Below.next HB3.out hb5)
    have HZ5 := Lib.hid (HZ3.out.below hb5)
    have HX5 := Lib.hid (HX.out.below hb5)
    have HST5 := Lib.hid (HST3.out.keep (keeps_of hb5))
    have hvb : vn ≤ 4096 := by
      have h1 : (allV tbs (stR ls)).length ≤ 8 * cntS (stR ls) := vTabs_len _ _ _ HG.out.tb
      have h2 := HOK.out.ct
      rw [← hxs, List.length_map, hvn.sl.len] at h1
      omega
    have HV := Lib.hid hvn
    have HXS := Lib.hid hxs
    have HW45 : Hid (w.heap.size ≤ w4.heap.size ∧ w4.heap.size ≤ w5.heap.size) := Lib.hid ⟨HB3.out.size, hb5.size⟩
    obtain ⟨KV, HKV⟩ : ∃ z, Hid (keepV tbs (stR ls) (es.map (·.c)) = z) := ⟨_, Lib.hid rfl⟩
    obtain ⟨RL, HRL⟩ : ∃ z, Hid (((xs.map (·.v)).drop 0).filter KV = z) := ⟨_, Lib.hid rfl⟩
    have HR5 : Hid (RR = (0, RL)) := Lib.hid (by rw [HR2.out, ← recheck_filter HOK.out, HKV.out, ← HRL.out, List.drop_zero, HXS.out])
    have HI0 : Hid (RkI w4 w5 w5 none 0 0 []) := Lib.hid (RkI.nil w4 w5)
    have Hq0 : Hid (([] : List VoE).map (·.v) ++ ((xs.map (·.v)).drop 0).filter KV = RL) := Lib.hid HRL.out
    clear z zx hb5 hvn hxs HB3 HZ3 HX HST3 HR2 HRL HRR
    go_wp2_with fail
    go_loopw [10, 31] (fun v i wr => ∃ (k : Nat) (O : Option Addr) (on oc : Nat) (ys : List VoE), k ≤ vn ∧ on ≤ k ∧ i = .int .i64 (k : Int) ∧ v = .slice O on oc ∧ Hid (RkI w4 w5 wr O on oc ys) ∧ Hid (ys.map (·.v) ++ ((xs.map (·.v)).drop k).filter KV = RL)) (fun _ i _ => vn - (intOf i).toNat)
    case atStart => exact ⟨0, none, 0, 0, [], by omega, by omega, rfl, rfl, HI0, Hq0⟩
    case round =>
      clear HI0 Hq0
      obtain ⟨k, O, on, oc, ys, hk, hok, rfl, rfl, HI, Hq⟩ := hrel
      by_cases hkn : k < vn
      · obtain ⟨vb, vo, ⟨⟨vk, vt, key, vi⟩, XA, xn, xc⟩, rfl, hx, hkey, c0, c1, c2, c3⟩ := (HV.out.but2 (But.ofB HI.out.be : But (fun _ => False) w5 wr) (fun k hk => hk.elim)).at hkn
        dsimp only at c0 c1 c2 c3
        have hmem : (⟨vk, vt, key, vi⟩ : Vo) ∈ allV tbs (stR ls) := by rw [← HXS.out]; exact List.mem_map_of_mem (List.mem_of_getElem? hx)
        obtain ⟨t, T, l, h1, h2, h3, r, hr, h4, h5⟩ := vTabs_at _ _ _ _ hmem
        simp only [Int.zero_add] at h1 h4 h5
        subst h1
        obtain ⟨pl, hpl, hpr⟩ : ∃ pl, ls[t]? = some pl ∧ tlR pl = l := by
          unfold stR at h3
          rw [List.getElem?_map, Option.map_eq_some_iff] at h3
          exact h3
        subst hpr
        have HT := Lib.hid h2
        have HGT := Lib.hid (HG.out.tb T (List.mem_of_getElem? h2))
        have Hpl := Lib.hid hpl
        have HGet : Hid (getT T (tlR pl) key = some r) := Lib.hid (by rw [h4]; exact getT_self _ none (tabsB_at _ _ _ T _ HOK.out.tb h2 h3) r hr)
        have Hfit : Hid (r.length = T.cols.length) := Lib.hid (by
          have h6 := fitL_len (rowsB_fit _ none (tabsB_at _ _ _ T _ HOK.out.tb h2 h3) r hr)
          unfold Tb.kinds at h6
          rwa [List.length_map] at h6)
        have HAlt := Lib.hid h5
        have htm : t < m := by rw [← Hln.out]; exact (List.getElem?_eq_some_iff.1 h2).1
        obtain ⟨kv, Hkv⟩ : ∃ z, Hid (KV ⟨vk, (t : Int), key, vi⟩ = z) := ⟨_, Lib.hid rfl⟩
        have Hq2 : Hid (ys.map (·.v) ++ ((if kv = true then [⟨vk, (t : Int), key, vi⟩] else []) ++ ((xs.map (·.v)).drop (k + 1)).filter KV) = RL) := Lib.hid (by
          have h6 : (xs.map (·.v)).drop k = ⟨vk, (t : Int), key, vi⟩ :: (xs.map (·.v)).drop (k + 1) := drop_at' (by rw [List.getElem?_map, hx]; rfl)
          have h7 := Hq.out
          rw [h6, List.filter_cons, Hkv.out] at h7
          rw [← h7]
          cases kv <;> simp)
        have HKR := Lib.hid hkey
        have hal : Below wr.heap.size wr (wr.alloc (.cells #[.int .i64 vk, .int .i64 (t : Int), .slice XA xn xc, .int .i64 vi] 88)) := (Below.refl _ _).alloc (Nat.le_refl _) _
        have HYv := Lib.hid (Blk.new wr 88 #[.int .i64 vk, .int .i64 (t : Int), .slice XA xn xc, .int .i64 vi])
        have HI2 := Lib.hid (HI.out.below hal)
        have HK2 : Hid (OwnRow (wr.alloc (.cells #[.int .i64 vk, .int .i64 (t : Int), .slice XA xn xc, .int .i64 vi] 88)) w4.heap.size ((XA, xn, xc), key)) := Lib.hid (HKR.out.below hal)
        obtain ⟨Y, HYY⟩ : ∃ z, Hid (wr.heap.size = z) := ⟨_, Lib.hid rfl⟩
        rw [HYY.out] at HYv
        clear hx hkey h2 h3 hr h4 h5 hpl hmem hal HI Hq HKR
        go_upto_region 8 with fail
        rw [HYY.out]
        clear c0 c1 c2 c3 HYY
        generalize wr.alloc (.cells #[.int .i64 vk, .int .i64 (t : Int), .slice XA xn xc, .int .i64 vi] 88) = wy at *
        have hk0 : 0 ≤ T.key := by have := HGT.out.k1; omega
        have hk8 : T.key ≤ 8 := by have := HGT.out.k2; have := HGT.out.cl; omega
        have z := (HZ5.out.below HI2.out.be).cell
        have zy := HYv.out.cell
        have HBy := Lib.hid (HB5.out.trans (HI2.out.be.mono HB5.out.size))
        go_wp2_with fail
        refine (written_any ver (some ⟨b3, o3, none⟩) m c tbs C cn cc es t T XA xn xc key _ (HS0.out.keep (keeps_of HBy.out)) hn8 HT.out hk0 hk8 (HCH0.out.keep (keeps_of HBy.out)) hcn HK2.out.ok).mono ?_
        rintro e w6 ⟨rfl, hb6⟩
        have HI6 := Lib.hid (HI2.out.below hb6)
        have HK6 := Lib.hid (HK2.out.below hb6)
        have HY6 := Lib.hid (HYv.out.below hb6)
        obtain ⟨hit, Hh⟩ : ∃ z, Hid (memK tbs Ch.n (es.map (·.c)) (t : Int) key = z) := ⟨_, Lib.hid rfl⟩
        rw [Hh.out]
        have Hkv2 : Hid ((hit || (decide (vk = 1) && keepRf tbs (stR ls) (es.map (·.c)) ⟨vk, (t : Int), key, vi⟩)) = kv) := Lib.hid (by
          rw [← Hkv.out, ← HKV.out, ← Hh.out]
          rfl)
        clear hb6 HI2 HK2 HYv HBy z zy Hkv
        cases hit
        · rcases HAlt.out with ⟨hv1, j, y, hj, hy⟩ | hv2
          · subst hv1 hj
            have Hkv3 : Hid ((!gtS tbs (stR ls) y.t (cellsR r y.cols) && memK tbs Ch.o (es.map (·.c)) y.t (cellsR r y.cols)) = kv) := Lib.hid (by
              rw [← Hkv2.out, keepRf_at (v := ⟨1, (t : Int), key, (j : Int)⟩) rfl HT.out (by unfold getS; rw [HT.out, stR_at Hpl.out]; exact HGet.out) rfl hy]
              simp)
            have HRy := Lib.hid hy
            have HGR := Lib.hid (HG.out.rf T (List.mem_of_getElem? HT.out) y (List.mem_of_getElem? hy))
            clear hy Hkv2
            have HB6 := Lib.hid (HB5.out.trans (HI6.out.be.mono HB5.out.size))
            have z := (HZ5.out.below HI6.out.be).cell
            have zx := (HX5.out.below HI6.out.be).cell
            have zy := HY6.out.cell
            go_wp2_with fail
            refine (rget_any ver (some ⟨b3, o3, none⟩) m c tbs (some ⟨b, 0, none⟩) m cb' ls t T pl XA xn xc key _ (HS0.out.keep (keeps_of HB6.out)) hn8 HT.out hk0 hk8 (HST5.out.keep (keeps_of HI6.out.be)) Hpl.out HK6.out.ok (fun q hq => Nat.le_trans (okS_row8 HOK.out HG.out (stR_at Hpl.out) q hq) (by omega))).mono ?_
            rintro e w7 ⟨⟨r', RA, rc, rfl, hr', hown⟩ | ⟨rfl, hr'⟩, hb7⟩
            rotate_left
            · rw [HGet.out] at hr'
              cases hr'
            obtain rfl : r = r' := by rw [HGet.out] at hr'; injection hr'
            have HI7 := Lib.hid (HI6.out.below hb7)
            have HK7 := Lib.hid (HK6.out.below hb7)
            have HY7 := Lib.hid (HY6.out.below hb7)
            have HRo := Lib.hid hown.ok
            clear hb7 hr' hown HI6 HK6 HY6 z zx zy
            have HB7 := Lib.hid (HB5.out.trans (HI7.out.be.mono HB5.out.size))
            obtain ⟨b', o', ⟨T', ⟨A1, n1, k1⟩, ⟨A2, n2, k2⟩, ⟨A3, n3, k3⟩⟩, e3, hT', hok', _, _, _, u3, _⟩ := (HS0.out.keep (keeps_of HB7.out)).at htm
            obtain rfl : T = T' := by have h1 := HT.out; rw [hT'] at h1; injection h1 with h1; exact h1.symm
            injection e3 with e3
            injection e3 with e3 e4
            subst e3 e4
            dsimp only at u3 hok'
            obtain ⟨rs, hrs⟩ := hok'.rs
            dsimp only at hrs
            have hjn : j < n2 := by rw [← hrs.len]; exact (List.getElem?_eq_some_iff.1 HRy.out).1
            have hn2 : n2 ≤ 4 := by have h1 := hrs.len; have h2 := HGT.out.rl; omega
            obtain ⟨b4, o4, ⟨y', YA, yn, yc⟩, rfl, hy', hcl, x0, x1⟩ := hrs.at hjn
            obtain rfl : y = y' := by have h1 := HRy.out; rw [hy'] at h1; injection h1 with h1; exact h1.symm
            dsimp only at hcl x0 x1
            obtain ⟨ht0, U, hU, hUk, hUc⟩ := HGR.out
            obtain ⟨tt, htt⟩ := Int.eq_ofNat_of_zero_le ht0
            rw [htt, Int.toNat_natCast] at hU
            rw [htt] at x1
            have htn : tt < m := by rw [← Hln.out]; exact (List.getElem?_eq_some_iff.1 hU).1
            obtain ⟨pu, hpu⟩ : ∃ pu, ls[tt]? = some pu := ⟨_, List.getElem?_eq_getElem (by rw [HST5.out.sl.len]; exact htn)⟩
            have HUG := Lib.hid (HG.out.tb U (List.mem_of_getElem? hU))
            have HU := Lib.hid (And.intro hU hpu)
            have hyn8 : yn ≤ 8 := by
              have h1 := hcl.len
              have h2 := HUG.out.k2
              have h3 := HUG.out.cl
              omega
            have Hin : Hid (∀ c ∈ y.cols, 0 ≤ c ∧ c < (r.length : Int)) := Lib.hid (fun c hc => by
              obtain ⟨i, hi⟩ := List.mem_iff_getElem?.1 hc
              obtain ⟨h1, a, _, h2, _⟩ := hUc i c hi
              have h3 := (List.getElem?_eq_some_iff.1 h2).1
              have h4 := Hfit.out
              exact ⟨h1, by omega⟩)
            have HCl := Lib.hid hcl
            have Hkv4 : Hid ((!(getT U (tlR pu) (cellsR r y.cols)).isSome && memK tbs Ch.o (es.map (·.c)) (tt : Int) (cellsR r y.cols)) = kv) := Lib.hid (by
              rw [← Hkv3.out, htt]
              unfold gtS getS
              rw [Int.toNat_natCast, hU, stR_at hpu])
            clear ht0 hU hUk hUc htt hpu hy' hT' hok' hrs hcl Hkv3 HAlt HGR HRy
            have g1 : decide ((j : Int) < 0) = false := by simp
            have g2 : decide (n2 ≤ j) = false := by simp; omega
            have g3 : decide ((t : Int) < 0) = false := by simp
            have g4 : decide (m ≤ t) = false := by simp; omega
            go_upto_region 11 with fail
            have HI8 : Hid (RkI w4 w5 w7.drew O on oc ys) := Lib.hid (HI7.out.below (Below.refl _ _).drew)
            have HK8 : Hid (OwnRow w7.drew w4.heap.size ((XA, xn, xc), key)) := Lib.hid (HK7.out.below (Below.refl _ _).drew)
            have HY8 : Hid (Blk w7.drew Y 88 #[.int .i64 1, .int .i64 (t : Int), .slice XA xn xc, .int .i64 (j : Int)]) := Lib.hid HY7.out
            have HR8 : Hid (RowOk w7.drew ((RA, r.length, rc), r)) := Lib.hid (HRo.out.keep (Keeps.refl _).drew)
            have HC8 : Hid (ClS w7.drew YA yn y.cols) := Lib.hid (HCl.out.keep (Keeps.refl _).drew)
            have p3 : w7.drew.cell? ⟨b3, o3 + t * 5 + 3, none⟩ = some (.slice (some ⟨b4, o4, none⟩) n2 k2) := u3
            have p0 : w7.drew.cell? ⟨b4, o4 + j * 2, none⟩ = some (.slice YA yn yc) := x0
            have p1 : w7.drew.cell? ⟨b4, o4 + j * 2 + 1, none⟩ = some (.int .i64 (tt : Int)) := x1
            clear HI7 HK7 HY7 HRo HCl HB7 u3 x0 x1
            generalize hWn : w7.drew = Wn at *
            have hS : ∀ {p : Addr} {v : Value}, Wn.cell? p = some v → ¬ Wn.heap.size ≤ p.block := fun h => by have := cell_lt (w := Wn) (by rw [h]; rfl); omega
            have q0 : ∀ (x : LaterS (fun k => Wn.heap.size ≤ k) Wn), (afterS (fun k => Wn.heap.size ≤ k) Wn x).cell? ⟨b4, o4 + j * 2, none⟩ = some (.slice YA yn yc) := fun x => but_cell x.but p0 (hS p0)
            have q1 : ∀ (x : LaterS (fun k => Wn.heap.size ≤ k) Wn), (afterS (fun k => Wn.heap.size ≤ k) Wn x).cell? ⟨b4, o4 + j * 2 + 1, none⟩ = some (.int .i64 (tt : Int)) := fun x => but_cell x.but p1 (hS p1)
            have q3 : ∀ (x : LaterS (fun k => Wn.heap.size ≤ k) Wn), (afterS (fun k => Wn.heap.size ≤ k) Wn x).cell? ⟨b3, o3 + t * 5 + 3, none⟩ = some (.slice (some ⟨b4, o4, none⟩) n2 k2) := fun x => but_cell x.but p3 (hS p3)
            have HZ8 := Lib.hid (HZ5.out.below HI8.out.be)
            have qz : ∀ (x : LaterS (fun k => Wn.heap.size ≤ k) Wn) i, (afterS (fun k => Wn.heap.size ≤ k) Wn x).cell? ⟨w.heap.size, i, none⟩ = (#[.int .i64 ver, .slice (some ⟨b3, o3, none⟩) m c] : Array Value)[i]? := fun x i => (HZ8.out.but x.but (by have := HZ8.out.lt; omega)).cell i
            have qy : ∀ (x : LaterS (fun k => Wn.heap.size ≤ k) Wn) i, (afterS (fun k => Wn.heap.size ≤ k) Wn x).cell? ⟨Y, i, none⟩ = (#[.int .i64 1, .int .i64 (t : Int), .slice XA xn xc, .int .i64 (j : Int)] : Array Value)[i]? := fun x i => (HY8.out.but x.but (by have := HY8.out.lt; omega)).cell i
            refine wp_region_segS (fun k => Wn.heap.size ≤ k) [([0, 1, 2, 3, 4, 5, 6, 7, 8, 9, 10], 11), ([], 12)] [] (by kernel_rfl) (by kernel_rfl) (fun _ _ d _ _ h => by cases d <;> exact h) ?_
            rw [hWn]
            clear hWn p0 p1 p3 hS
            simp only [pickSegs, pickOps, opAt, List.map_cons, List.map_nil, List.getElem?_toArray, List.getElem?_cons_zero, List.getElem?_cons_succ, Option.getD_some]
            unfold wpBlocksS
            repeat (go_big_quiet_step (fail))
            refine wpQuiet_nil ?_
            clear q0 q1 q3 qz qy
            go_wp2_with fail
            refine ⟨But.alloc _ _, ?_⟩
            unfold wpBlocksS
            refine wpQuiet_nil ?_
            have HXr := Lib.hid (Blk.new Wn 65 #[.slice YA yn yc, .int .i64 (tt : Int)])
            have hbr : Below Wn.heap.size Wn (Wn.alloc (.cells #[.slice YA yn yc, .int .i64 (tt : Int)] 65)) := (Below.refl _ _).alloc (Nat.le_refl _) _
            have HI9 := Lib.hid (HI8.out.below hbr)
            have HK9 := Lib.hid (HK8.out.below hbr)
            have HY9 := Lib.hid (HY8.out.below hbr)
            have HR9 := Lib.hid (HR8.out.keep (keeps_of hbr))
            have HC9 := Lib.hid (HC8.out.keep (keeps_of hbr))
            obtain ⟨X5, HX5n⟩ : ∃ z, Hid (Wn.heap.size = z) := ⟨_, Lib.hid rfl⟩
            clear hbr HI8 HK8 HY8 HR8 HC8 HZ8
            go_wp2_with fail
            refine ⟨but_alloc2 Wn _ _ (Nat.le_refl _), ?_⟩
            unfold wpBlocksS
            refine wpQuiet_nil ?_
            rw [HX5n.out] at HXr ⊢
            generalize Wn.alloc (.cells #[.slice YA yn yc, .int .i64 (tt : Int)] 65) = wb at *
            clear HX5n
            go_upto_region 12 with fail
            have HB9 := Lib.hid (HB5.out.trans (HI9.out.be.mono HB5.out.size))
            have zz : ∀ i, wb.drew.cell? ⟨w.heap.size, i, none⟩ = (#[.int .i64 ver, .slice (some ⟨b3, o3, none⟩) m c] : Array Value)[i]? := (HZ5.out.below HI9.out.be).cell
            have zx : ∀ i, wb.drew.cell? ⟨hx, i, none⟩ = (#[.slice (some ⟨b, 0, none⟩) m cb'] : Array Value)[i]? := (HX5.out.below HI9.out.be).cell
            have zr : ∀ i, wb.drew.cell? ⟨X5, i, none⟩ = (#[.slice YA yn yc, .int .i64 (tt : Int)] : Array Value)[i]? := HXr.out.cell
            have HIa : Hid (RkI w4 w5 wb.drew O on oc ys) := Lib.hid (HI9.out.below (Below.refl _ _).drew)
            have HKa : Hid (OwnRow wb.drew w4.heap.size ((XA, xn, xc), key)) := Lib.hid (HK9.out.below (Below.refl _ _).drew)
            have HYa : Hid (Blk wb.drew Y 88 #[.int .i64 1, .int .i64 (t : Int), .slice XA xn xc, .int .i64 (j : Int)]) := Lib.hid HY9.out
            have HRa : Hid (RowOk wb.drew ((RA, r.length, rc), r)) := Lib.hid (HR9.out.keep (Keeps.refl _).drew)
            have HCa : Hid (ClS wb.drew YA yn y.cols) := Lib.hid (HC9.out.keep (Keeps.refl _).drew)
            clear HI9 HK9 HY9 HR9 HC9 HXr HB9
            generalize hWm : wb.drew = Wm at *
            have hca := @cell_after Wm
            refine wp_region_seg [([0, 1, 2, 3, 4, 5, 6, 7], 8), ([], 9)] [10] (by kernel_rfl) (by kernel_rfl) (fun _ _ d _ _ h => by cases d <;> exact h) ?_
            rw [hWm]
            clear hWm
            simp only [pickSegs, pickOps, opAt, List.map_cons, List.map_nil, List.getElem?_toArray, List.getElem?_cons_zero, List.getElem?_cons_succ, Option.getD_some]
            unfold wpBlocks
            repeat (go_big_quiet_step (fail))
            refine wpQuiet_nil ?_
            clear hca zz zx zr
            go_wp2_with fail
            refine (rcells_any RA r.length rc r YA yn yc y.cols _ HRa.out (by have := Hfit.out; have := HGT.out.cl; omega) HCa.out (by omega) Hin.out).mono ?_
            rintro e w8 ⟨TA, tc, rfl, hto, hb8⟩
            obtain ⟨ck, Hck⟩ : ∃ z, Hid (cellsR r y.cols = z) := ⟨_, Lib.hid rfl⟩
            rw [Hck.out] at hto Hkv4 ⊢
            have HIb := Lib.hid (HIa.out.below hb8)
            have HKb := Lib.hid (HKa.out.below hb8)
            have HYb := Lib.hid (HYa.out.below hb8)
            have HTb := Lib.hid hto.ok
            clear hto HIa HKa HYa HRa HCa Hin
            go_wp2_with fail
            refine ⟨hb8, ?_⟩
            unfold wpBlocks
            refine wpQuiet_nil ?_
            clear hb8
            have HBb := Lib.hid (HB5.out.trans (HIb.out.be.mono HB5.out.size))
            go_wp2_with fail
            refine (removed_any ver (some ⟨b3, o3, none⟩) m c tbs (some ⟨b, 0, none⟩) m cb' ls pu C cn cc es tt U TA _ tc ck _ (HS0.out.keep (keeps_of HBb.out)) hn8 HU.out.1 (by have := HUG.out.k1; omega) (by have := HUG.out.k2; have := HUG.out.cl; omega) (HST5.out.keep (keeps_of HIb.out.be)) HU.out.2 (fun q hq => Nat.le_trans (okS_row8 HOK.out HG.out (stR_at HU.out.2) q hq) (by omega)) (HCH0.out.keep (keeps_of HBb.out)) hcn HTb.out).mono ?_
            rintro e w9 ⟨rfl, hb9⟩
            have HIc := Lib.hid (HIb.out.below hb9)
            have HKc := Lib.hid (HKb.out.below hb9)
            have HYc := Lib.hid (HYb.out.below hb9)
            rw [Hkv4.out]
            clear HIb HKb HYb HTb HBb Hkv4
            go_wp2_with fail
            refine ⟨hb9, ?_⟩
            unfold wpBlocks
            repeat (go_big_quiet_step (fail))
            refine wpQuiet_nil ?_
            clear hb9
            cases kv
            · have Hs2 : Hid (ys.map (·.v) ++ ((xs.map (·.v)).drop (k + 1)).filter KV = RL) := Lib.hid (by have h := Hq2.out; rw [if_neg Bool.false_ne_true] at h; simpa using h)
              clear Hq2
              go_wp2
              go_roundw
              case rel => exact ⟨k + 1, O, on, oc, ys, by omega, by omega, by go_num, rfl, HIc, Hs2⟩
              case measure => simp [intOf]; omega
            · have Hs2 : Hid (ys.map (·.v) ++ [⟨1, (t : Int), key, (j : Int)⟩] ++ ((xs.map (·.v)).drop (k + 1)).filter KV = RL) := Lib.hid (by have h := Hq2.out; rw [if_pos rfl] at h; simpa using h)
              have zy := HYc.out.cell
              clear Hq2
              go_wp2_with (at_builtin; refine wpList_append_one2 (by rfl) (.tmp 81) (.tmp 83) _ (by rfl) w5.heap.size 88 i0 _ 4 48 Tryz.underlying35 hi hz0 hz1 hz2 (by rfl) (by omega) (.slice O on oc) on _ (by rfl) w9 #[.int .i64 1, .int .i64 (t : Int), .slice XA xn xc, .int .i64 (j : Int)] HIc.out.own w9.heap.size (by rfl) (by rfl) (by rfl) (one_vo ⟨⟨1, (t : Int), key, (j : Int)⟩, XA, xn, xc⟩) (by simp only [maxLen]; omega) (by omega) HIc.out.be.size ?_; intro g6 cap6 w11 hown6 hg6 hB6 hat6 hlt6)
              have HI11 := Lib.hid (HIc.out.add (x := ⟨⟨1, (t : Int), key, (j : Int)⟩, XA, xn, xc⟩) HKc.out hown6 hg6 hB6)
              clear hown6 hg6 hB6 hat6 hlt6 HIc HKc HYc zy
              go_roundw
              case rel => exact ⟨k + 1, _, on + 1, cap6, _, by omega, by omega, by go_num, rfl, HI11, Lib.hid (by have h := Hs2.out; rw [List.map_append]; exact h)⟩
              case measure => simp [intOf]; omega
          · subst hv2
            have hkf : kv = false := by rw [← Hkv2.out]; rfl
            subst hkf
            have zy := HY6.out.cell
            have Hs2 : Hid (ys.map (·.v) ++ ((xs.map (·.v)).drop (k + 1)).filter KV = RL) := Lib.hid (by have h := Hq2.out; rw [if_neg Bool.false_ne_true] at h; simpa using h)
            clear Hq2
            go_wp2
            go_roundw
            case rel => exact ⟨k + 1, O, on, oc, ys, by omega, by omega, by go_num, rfl, HI6, Hs2⟩
            case measure => simp [intOf]; omega
        · have hkt : kv = true := by rw [← Hkv2.out]; rfl
          subst hkt
          have Hs2 : Hid (ys.map (·.v) ++ [⟨vk, (t : Int), key, vi⟩] ++ ((xs.map (·.v)).drop (k + 1)).filter KV = RL) := Lib.hid (by have h := Hq2.out; rw [if_pos rfl] at h; simpa using h)
          have zy := HY6.out.cell
          clear Hq2
          go_wp2_with (at_builtin; refine wpList_append_one2 (by rfl) (.tmp 81) (.tmp 83) _ (by rfl) w5.heap.size 88 i0 _ 4 48 Tryz.underlying35 hi hz0 hz1 hz2 (by rfl) (by omega) (.slice O on oc) on _ (by rfl) w6 #[.int .i64 vk, .int .i64 (t : Int), .slice XA xn xc, .int .i64 vi] HI6.out.own w6.heap.size (by rfl) (by rfl) (by rfl) (one_vo ⟨⟨vk, (t : Int), key, vi⟩, XA, xn, xc⟩) (by simp only [maxLen]; omega) (by omega) HI6.out.be.size ?_; intro g6 cap6 w11 hown6 hg6 hB6 hat6 hlt6)
          have HI11 := Lib.hid (HI6.out.add (x := ⟨⟨vk, (t : Int), key, vi⟩, XA, xn, xc⟩) HK6.out hown6 hg6 hB6)
          clear hown6 hg6 hB6 hat6 hlt6 HI6 HK6 HY6 zy
          go_roundw
          case rel => exact ⟨k + 1, _, on + 1, cap6, _, by omega, by omega, by go_num, rfl, HI11, Lib.hid (by have h := Hs2.out; rw [List.map_append]; exact h)⟩
          case measure => simp [intOf]; omega
      · obtain rfl : k = vn := by omega
        have hrl : ys.map (·.v) = RL := by
          rw [← Hq.out, List.drop_of_length_le (by rw [List.length_map, HV.out.sl.len]; exact Nat.le_refl _)]
          simp
        have HE : Hid (RecO RR w (.returned (.tuple #[.slice O on oc, .int .i64 0])) wr) := Lib.hid ⟨.inl ⟨by rw [HR5.out], O, on, oc, ys, rfl, ⟨Sl.of_own VoE.cs_len HI.out.len HI.out.own, fun hn b o hA => by
          have h1 := (own_lt HI.out.own (k := b) (by rw [hA]; rfl)).1
          have h2 := HW45.out
          omega, fun x hx => (HI.out.keys x hx).mono HW45.out.1⟩, by rw [HR5.out]; exact hrl⟩, HB5.out.trans (HI.out.be.mono HB5.out.size)⟩
        clear hrl
        go_wp2
        exact bodyPost_ret (v := .tuple #[.slice O on oc, .int .i64 0]) (by simp [results, Tryz.results17, go_sem]) rfl HE.out
  · have HR2 : Hid (RR = ((applyS tbs (stR ls0) (es.map (·.c))).1, [])) := Lib.hid (by rw [← HRR.out]; unfold recS; rw [if_pos h0])
    have hal : Below w2.heap.size w2 (w2.alloc (.cells #[.slice none 0 0] 25)) := (Below.refl _ _).alloc (Nat.le_refl _) _
    have HR : Hid (RecO RR w (.returned (.tuple #[.slice none 0 0, .int .i64 (applyS tbs (stR ls0) (es.map (·.c))).1])) (w2.alloc (.cells #[.slice none 0 0] 25))) := Lib.hid ⟨.inr ⟨by rw [HR2.out]; exact h0, by rw [HR2.out]⟩, Below.next (HB.out.trans (hb2.mono HB.out.size)) hal⟩
    have g : ((applyS tbs (stR ls0) (es.map (·.c))).1 != 0) = true := by simpa using h0
    clear hal HR2 HRR
    generalize (applyS tbs (stR ls0) (es.map (·.c))).1 = ee at *
    clear h0 z zy
    go_wp2
    exact bodyPost_ret (v := .tuple #[.slice none 0 0, .int .i64 ee]) (by simp [results, Tryz.results17, go_sem]) rfl HR.out
end Go.Proofs.YtponkkljlbifmaaGreat
