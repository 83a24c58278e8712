/-
  Texts: IgRTab, IgRFt, IgRVd.
-/
import Derived.Test.YtponkkljlbifmaaGreatG38
set_option linter.unusedVariables false
/-
  The reference's check of one table of a good schema.
-/
namespace Go.Proofs.YtponkkljlbifmaaGreat
open Go.RowKit
set_option maxRecDepth 100000
open Pd

theorem nd_ne {α β : Type} {f : α → β} : ∀ (l : List α), (l.map f).Nodup → ∀ (i j : Nat) (x y : α), i < j → l[i]? = some x → l[j]? = some y → f x ≠ f y := by
  intro l h i j x y hij hx hy e
  rw [List.nodup_iff_pairwise_ne, List.pairwise_iff_getElem] at h
  obtain ⟨h1, h2⟩ := List.getElem?_eq_some_iff.1 hx
  obtain ⟨h3, h4⟩ := List.getElem?_eq_some_iff.1 hy
  refine h i j (by rw [List.length_map]; exact h1) (by rw [List.length_map]; exact h3) hij ?_
  rw [List.getElem_map, List.getElem_map, h2, h4, e]
/-- what the check holds -/
structure RtI (w : World) (ver : Int) (A : Option Addr) (n c : Nat) (tbs : List Tb) (tc : Array Value) (cl : Option Addr) (n1 : Nat) (cols : List Cm) (wr : World) : Prop where
  z : Blk wr w.heap.size 30 #[.int .i64 ver, .slice A n c]
  y : Blk wr (w.heap.size + 1) 62 tc
  sc : ScS wr A n tbs
  cl : Sl 2 Cm.cs wr cl n1 cols
  be : Below w.heap.size w wr
theorem RtI.below {w : World} {ver : Int} {A : Option Addr} {n c : Nat} {tbs : List Tb} {tc : Array Value} {cl : Option Addr} {n1 : Nat} {cols : List Cm} {wr w' : World} (h : RtI w ver A n c tbs tc cl n1 cols wr) (hb : Below wr.heap.size wr w') : RtI w ver A n c tbs tc cl n1 cols w' :=
  ⟨h.z.below hb, h.y.below hb, h.sc.keep (keeps_of hb), h.cl.keep (keeps_of hb), Below.next h.be hb⟩
set_option maxRecDepth 100000 in
set_option maxHeartbeats 4000000 in
theorem rtable_any (ver : Int) (A : Option Addr) (n c : Nat) (tbs : List Tb) (t : Nat) (T : Tb) (w : World) (hs : ScS w A n tbs) (hg : GoodS ver tbs) (hT : tbs[t]? = some T) :
    Calls Tryz.prog 100 #[.agg #[.int .i64 ver, .slice A n c], .int .i64 (t : Int)] w fun e w' => e = .returned (.bool true) ∧ Below w.heap.size w w' := by
  have ht : t < n := by rw [← hs.len]; exact (List.getElem?_eq_some_iff.1 hT).1
  have hn8 : n ≤ 8 := by have := hg.ln; have := hs.len; omega
  have HS0 := Lib.hid hs
  obtain ⟨b, o, e, rfl, he, hok, c0, c1, c2, c3, c4⟩ := hs.at ht
  obtain rfl : T = e.T := by rw [hT] at he; injection he
  have HC0 := Lib.hid hok.cs
  have Hln := Lib.hid (hok.cs.len)
  have HG := Lib.hid hg
  have HGT := Lib.hid (hg.tb e.T (List.mem_of_getElem? hT))
  have HT := Lib.hid hT
  clear hs hok hT he hg
  obtain ⟨T, ⟨A1, n1, k1⟩, ⟨A2, n2, k2⟩, ⟨A3, n3, k3⟩⟩ := e
  dsimp only at HC0 Hln HGT HT c0 c1 c2 c3 c4 ⊢
  have HZ := Lib.hid (Blk.new w 30 #[.int .i64 ver, .slice (some ⟨b, o, none⟩) n c])
  have hB1 : Below w.heap.size w (w.alloc (.cells #[.int .i64 ver, .slice (some ⟨b, o, none⟩) n c] 30)) := (Below.refl _ w).alloc (Nat.le_refl _) _
  have hk := keeps_of hB1
  have d0 := (hk _ (by rw [c0]; rfl)).trans c0
  have d1 := (hk _ (by rw [c1]; rfl)).trans c1
  have d2 := (hk _ (by rw [c2]; rfl)).trans c2
  have d3 := (hk _ (by rw [c3]; rfl)).trans c3
  have d4 := (hk _ (by rw [c4]; rfl)).trans c4
  have hB2 := Below.next hB1 ((Below.refl _ _).alloc (Nat.le_refl _) (.cells #[.string T.nm, .slice A1 n1 k1, .int .i64 T.key, .slice A2 n2 k2, .slice A3 n3 k3] 62))
  have HI : Hid (RtI w ver (some ⟨b, o, none⟩) n c tbs #[.string T.nm, .slice A1 n1 k1, .int .i64 T.key, .slice A2 n2 k2, .slice A3 n3 k3] A1 n1 T.cols ((w.alloc (.cells #[.int .i64 ver, .slice (some ⟨b, o, none⟩) n c] 30)).alloc (.cells #[.string T.nm, .slice A1 n1 k1, .int .i64 T.key, .slice A2 n2 k2, .slice A3 n3 k3] 62))) := Lib.hid
    ⟨HZ.out.alloc _, by have h := Blk.new (w.alloc (.cells #[.int .i64 ver, .slice (some ⟨b, o, none⟩) n c] 30)) 62 #[.string T.nm, .slice A1 n1 k1, .int .i64 T.key, .slice A2 n2 k2, .slice A3 n3 k3]; rwa [World.size_alloc] at h, HS0.out.keep (keeps_of hB2), HC0.out.keep (keeps_of hB2), hB2⟩
  have z0 := HZ.out.cell
  have g0 : decide ((t : Int) < 0) = false := by simp
  have g1 : decide (n ≤ t) = false := by simp; omega
  clear hB1 hB2 hk c0 c1 c2 c3 c4 HZ HS0 HC0
  go_enter Tryz.func100, Tryz.ntmps100
  go_upto_region 2 with fail
  clear d0 d1 d2 d3 d4 z0
  generalize (w.alloc (.cells #[.int .i64 ver, .slice (some ⟨b, o, none⟩) n c] 30)).alloc (.cells #[.string T.nm, .slice A1 n1 k1, .int .i64 T.key, .slice A2 n2 k2, .slice A3 n3 k3] 62) = w1 at *
  have zy := HI.out.y.cell
  go_wp2_with fail
  refine (rname_any T.nm _ HGT.out.nm).mono ?_
  rintro e w2 ⟨rfl, hb2⟩
  have HI2 := Lib.hid (HI.out.below hb2)
  have hk1 := HGT.out.k1
  have hk2 := HGT.out.k2
  have hk3 := HGT.out.cl
  have hln := Hln.out
  have g2 : ((n1 : Int) == 0) = false := by rw [beq_eq_false_iff_ne]; omega
  have g3 : decide (T.key < 1) = false := by simp; omega
  have g4 : decide ((n1 : Int) < T.key) = false := by simp; omega
  have hn1 : n1 ≤ 8 := by omega
  clear hb2 zy HI hk1 hk2 hk3 hln
  have zy := HI2.out.y.cell
  go_wp2_with fail
  clear g2 g3 g4 zy
  go_loopw [6] (fun i wr => ∃ k : Nat, k ≤ t ∧ i = .int .i64 (k : Int) ∧ Hid (RtI w ver (some ⟨b, o, none⟩) n c tbs #[.string T.nm, .slice A1 n1 k1, .int .i64 T.key, .slice A2 n2 k2, .slice A3 n3 k3] A1 n1 T.cols wr)) (fun i _ => t - (intOf i).toNat)
  case atStart => exact ⟨0, by omega, rfl, HI2⟩
  case round =>
    clear HI2
    obtain ⟨k, hk, rfl, HI⟩ := hrel
    by_cases hkt : k < t
    · obtain ⟨b', o', ⟨U, x1, x2, x3⟩, hbo, hU, _, d0, _⟩ := HI.out.sc.at (show k < n by omega)
      injection hbo with hbo
      injection hbo with h1 h2
      subst h1 h2
      dsimp only at hU d0
      have hne2 : (U.nm.toList == T.nm.toList) = false := by
        rw [beq_eq_false_iff_ne, Lib.toList_data, Lib.toList_data]
        exact nd_ne (f := fun T : Tb => T.nm.data.toList) tbs HG.out.nd k t U T hkt hU HT.out
      have e0 : wr.drew.cell? ⟨b, o + k * 5, none⟩ = some (.string U.nm) := d0
      have zz : ∀ i, wr.drew.cell? ⟨w.heap.size, i, none⟩ = (#[.int .i64 ver, .slice (some ⟨b, o, none⟩) n c] : Array Value)[i]? := HI.out.z.cell
      have zy : ∀ i, wr.drew.cell? ⟨w.heap.size + 1, i, none⟩ = (#[.string T.nm, .slice A1 n1 k1, .int .i64 T.key, .slice A2 n2 k2, .slice A3 n3 k3] : Array Value)[i]? := HI.out.y.cell
      have HI3 : Hid (RtI w ver (some ⟨b, o, none⟩) n c tbs #[.string T.nm, .slice A1 n1 k1, .int .i64 T.key, .slice A2 n2 k2, .slice A3 n3 k3] A1 n1 T.cols wr.drew) := Lib.hid (HI.out.below (Below.refl _ _).drew)
      have g2 : decide (n ≤ k) = false := by simp; omega
      have g3 : decide ((k : Int) < 0) = false := by simp
      clear d0 HI hU g0 g1
      go_wp2_with fail
      generalize hWn : wr.drew = Wn at *
      have hca := @cell_after Wn
      refine wp_region_seg [] [0, 1, 2, 3, 4, 5, 6, 7, 8] (by kernel_rfl) (by kernel_rfl) (fun _ _ d _ _ h => by cases d <;> exact h) ?_
      rw [hWn]
      clear hWn
      simp only [pickSegs, pickOps, opAt, List.map_cons, List.map_nil, List.getElem?_toArray, List.getElem?_cons_zero, List.getElem?_cons_succ, Option.getD_some]
      unfold wpBlocks
      repeat (go_big_quiet_step (fail))
      refine wpQuiet_nil ?_
      clear hca e0 zz zy
      go_wp2
      go_roundw
      case rel => exact ⟨k + 1, by omega, by go_num, HI3⟩
      case measure => simp [intOf]; omega
    · obtain rfl : k = t := by omega
      clear g0 g1
      have zy := HI.out.y.cell
      go_wp2_with fail
      clear zy
      go_loopw [54] (fun i wr => ∃ j : Nat, j ≤ n1 ∧ i = .int .i64 (j : Int) ∧ Hid (RtI w ver (some ⟨b, o, none⟩) n c tbs #[.string T.nm, .slice A1 n1 k1, .int .i64 T.key, .slice A2 n2 k2, .slice A3 n3 k3] A1 n1 T.cols wr)) (fun i _ => n1 - (intOf i).toNat)
      case atStart => exact ⟨0, by omega, rfl, HI⟩
      case round =>
        clear HI
        obtain ⟨j, hj, rfl, HI⟩ := hrel
        by_cases hjn : j < n1
        · obtain ⟨b1, o1, x, rfl, hx, e0, e1⟩ := Cm.at HI.out.cl hjn
          have hcx := HGT.out.cn x (List.mem_of_getElem? hx)
          have Hx := Lib.hid hx
          have hkx : decide (3 ≤ x.k ∧ x.k ≤ 5) = true := by
            have h1 := hcx.2
            unfold kindB at h1
            simp only [decide_eq_true_eq] at h1 ⊢
            omega
          have Hkx := Lib.hid hkx
          have zy := HI.out.y.cell
          have q0 : decide ((j : Int) < 0) = false := by simp
          have q1 : decide (n1 ≤ j) = false := by simp; omega
          clear hx hkx
          go_wp2_with fail
          refine (rname_any x.nm _ hcx.1).mono ?_
          rintro e w3 ⟨rfl, hb3⟩
          have HI3 := Lib.hid (HI.out.below hb3)
          have f1 := (keeps_of hb3 _ (by rw [e1]; rfl)).trans e1
          clear hb3 HI e0 e1 zy
          have zy := HI3.out.y.cell
          go_wp2_with fail
          refine (rcolk_any x.k _).mono ?_
          rintro e _ ⟨rfl, rfl⟩
          rw [Hkx.out]
          clear f1 zy q0 q1 hcx
          go_wp2_with fail
          go_loopw [8] (fun i wr => ∃ q : Nat, q ≤ j ∧ i = .int .i64 (q : Int) ∧ Hid (RtI w ver (some ⟨b, o, none⟩) n c tbs #[.string T.nm, .slice (some ⟨b1, o1, none⟩) n1 k1, .int .i64 T.key, .slice A2 n2 k2, .slice A3 n3 k3] (some ⟨b1, o1, none⟩) n1 T.cols wr)) (fun i _ => j - (intOf i).toNat)
          case atStart => exact ⟨0, by omega, rfl, HI3⟩
          case round =>
            clear HI3
            obtain ⟨q, hq, rfl, HI⟩ := hrel
            by_cases hqj : q < j
            · obtain ⟨b2, o2, y, hbo, hy, e0, _⟩ := Cm.at HI.out.cl (show q < n1 by omega)
              injection hbo with hbo
              injection hbo with h1 h2
              subst h1 h2
              obtain ⟨b2, o2, x2, hbo, hx2, f0, _⟩ := Cm.at HI.out.cl hjn
              injection hbo with hbo
              injection hbo with h1 h2
              subst h1 h2
              obtain rfl : x2 = x := by have h1 := Hx.out; rw [hx2] at h1; injection h1
              have hne2 : (y.nm.toList == x2.nm.toList) = false := by
                rw [beq_eq_false_iff_ne, Lib.toList_data, Lib.toList_data]
                exact nd_ne (f := fun c : Cm => c.nm.data.toList) T.cols HGT.out.cd q j y x2 hqj hy hx2
              have e2 : wr.drew.cell? ⟨b1, o1 + q * 2, none⟩ = some (.string y.nm) := e0
              have f2 : wr.drew.cell? ⟨b1, o1 + j * 2, none⟩ = some (.string x2.nm) := f0
              have zy : ∀ i, wr.drew.cell? ⟨w.heap.size + 1, i, none⟩ = (#[.string T.nm, .slice (some ⟨b1, o1, none⟩) n1 k1, .int .i64 T.key, .slice A2 n2 k2, .slice A3 n3 k3] : Array Value)[i]? := HI.out.y.cell
              have HI3 : Hid (RtI w ver (some ⟨b, o, none⟩) n c tbs #[.string T.nm, .slice (some ⟨b1, o1, none⟩) n1 k1, .int .i64 T.key, .slice A2 n2 k2, .slice A3 n3 k3] (some ⟨b1, o1, none⟩) n1 T.cols wr.drew) := Lib.hid (HI.out.below (Below.refl _ _).drew)
              have g2 : decide (n1 ≤ q) = false := by simp; omega
              have g3 : decide ((q : Int) < 0) = false := by simp
              have g4 : decide (n1 ≤ j) = false := by simp; omega
              have g5 : decide ((j : Int) < 0) = false := by simp
              clear e0 f0 HI hy hx2
              go_wp2_with fail
              generalize hWn : wr.drew = Wn at *
              have hca := @cell_after Wn
              refine wp_region_seg [] [0, 1, 2, 3, 4, 5, 6, 7, 8, 9, 10, 11, 12] (by kernel_rfl) (by kernel_rfl) (fun _ _ d _ _ h => by cases d <;> exact h) ?_
              rw [hWn]
              clear hWn
              simp only [pickSegs, pickOps, opAt, List.map_cons, List.map_nil, List.getElem?_toArray, List.getElem?_cons_zero, List.getElem?_cons_succ, Option.getD_some]
              unfold wpBlocks
              repeat (go_big_quiet_step (fail))
              refine wpQuiet_nil ?_
              clear hca e2 f2 zy
              go_wp2
              go_roundw
              case rel => exact ⟨q + 1, by omega, by go_num, HI3⟩
              case measure => simp [intOf]; omega
            · obtain rfl : q = j := by omega
              go_wp2
              go_roundw
              case rel => exact ⟨q + 1, by omega, by go_num, HI⟩
              case measure => simp [intOf]; omega
        · obtain rfl : j = n1 := by omega
          have HE := Lib.hid HI.out.be
          go_wp2
          go_ret
          exact ⟨rfl, HE.out⟩
end Go.Proofs.YtponkkljlbifmaaGreat

/-
  The reference's Fits of a row, in the mode of the server.
-/
namespace Go.Proofs.YtponkkljlbifmaaGreat
open Go.RowKit
set_option maxRecDepth 100000
open Pd

set_option maxHeartbeats 4000000 in
theorem rfits_any (ver : Int) (A : Option Addr) (n c : Nat) (tbs : List Tb) (t : Nat) (T : Tb) (B : Option Addr) (m cb : Nat) (r : Rw) (w : World) (hs : ScS w A n tbs) (hn : n ≤ 8) (hT : tbs[t]? = some T) (h8 : T.cols.length ≤ 8) (hr : VlS w B m r) :
    Calls Tryz.prog 63 #[.agg #[.int .i64 ver, .slice A n c], .int .i64 (t : Int), .slice B m cb, .int .i64 1] w fun e w' => e = .returned (.bool (fitsB T r)) ∧ Below w.heap.size w w' := by
  have ht : t < n := by rw [← hs.len]; exact (List.getElem?_eq_some_iff.1 hT).1
  obtain ⟨b, o, e, rfl, he, hok, c0, c1, c2, c3, c4⟩ := hs.at ht
  obtain rfl : T = e.T := by rw [hT] at he; injection he
  have HC := Lib.hid hok.cs
  have Hln := Lib.hid hok.cs.len
  have HR := Lib.hid hr
  have Hrl := Lib.hid hr.len
  clear hs hok hT he hr c0 c2 c3 c4
  obtain ⟨T, ⟨A1, n1, k1⟩, ⟨A2, n2, k2⟩, ⟨A3, n3, k3⟩⟩ := e
  dsimp only at HC Hln c1 h8 ⊢
  have hn1 : n1 ≤ 8 := by have := Hln.out; omega
  obtain ⟨rr, Hrr⟩ : ∃ z, Hid (fitsB T r = z) := ⟨_, Lib.hid rfl⟩
  rw [Hrr.out]
  have HZ := Lib.hid (Blk.new w 30 #[.int .i64 ver, .slice (some ⟨b, o, none⟩) n c])
  have HB := Lib.hid ((Below.refl w.heap.size w).alloc (Nat.le_refl _) (.cells #[.int .i64 ver, .slice (some ⟨b, o, none⟩) n c] 30))
  have hk := keeps_of HB.out
  have d1 := (hk _ (by rw [c1]; rfl)).trans c1
  have HC2 := Lib.hid (HC.out.keep hk)
  have HR2 := Lib.hid (HR.out.keep hk)
  have g0 : decide ((t : Int) < 0) = false := by simp
  have g1 : decide (n ≤ t) = false := by simp; omega
  clear c1 hk HC HR
  go_enter Tryz.func63, Tryz.ntmps63
  by_cases hm : (m : Int) = (n1 : Int)
  · obtain rfl : m = n1 := by omega
    have Hf : Hid (fitL (r.drop 0) (T.kinds.drop 0) = rr) := Lib.hid Hrr.out
    have Hc1 : Hid (∀ w', Below (w.alloc (.cells #[.int .i64 ver, .slice (some ⟨b, o, none⟩) n c] 30)).heap.size (w.alloc (.cells #[.int .i64 ver, .slice (some ⟨b, o, none⟩) n c] 30)) w' → w'.cell? ⟨b, o + t * 5 + 1, none⟩ = some (.slice A1 m k1)) := Lib.hid (fun w' h => (keeps_of h _ (by rw [d1]; rfl)).trans d1)
    go_upto_region 1 with fail
    generalize hW : w.alloc (.cells #[.int .i64 ver, .slice (some ⟨b, o, none⟩) n c] 30) = w2 at *
    have z := HZ.out.cell
    go_wp2_with fail
    clear z d1 g0 g1
    go_loopw [42] (fun i wr => ∃ k : Nat, k ≤ m ∧ i = .int .i64 (k : Int) ∧ Hid (fitL (r.drop k) (T.kinds.drop k) = rr) ∧ Hid (Below w2.heap.size w2 wr)) (fun i _ => m - (intOf i).toNat)
    case atStart => exact ⟨0, by omega, rfl, Hf, Lib.hid (Below.refl _ _)⟩
    case round =>
      obtain ⟨k, hk, rfl, Hq, HBr⟩ := hrel
      by_cases hlt : k < m
      · obtain ⟨b1, o1, ⟨vk, vi, vt⟩, rfl, hv, hvc⟩ := (HR2.out.keep (keeps_of HBr.out)).at hlt
        obtain ⟨b2, o2, x, rfl, hx, x0, x1⟩ := Cm.at (HC2.out.keep (keeps_of HBr.out)) hlt
        have e0 : wr.cell? ⟨b1, o1 + k * 3, none⟩ = some (.int .i64 vk) := hvc 0 (.int .i64 vk) rfl
        have e1 : wr.cell? ⟨b1, o1 + k * 3 + 1, none⟩ = some (.int .i64 vi) := hvc 1 (.int .i64 vi) rfl
        have e2 : wr.cell? ⟨b1, o1 + k * 3 + 2, none⟩ = some (.string vt) := hvc 2 (.string vt) rfl
        have Hs : Hid ((fitC ⟨vk, vi, vt⟩ x.k && fitL (r.drop (k + 1)) (T.kinds.drop (k + 1))) = rr) := Lib.hid (by rw [← Hq.out, drop_at' hv, drop_at' (kinds_at hx)]; rfl)
        have HX := Lib.hid (Blk.new wr 67 #[.int .i64 vk, .int .i64 vi, .string vt])
        have HBx := Lib.hid (HBr.out.alloc HBr.out.size (.cells #[.int .i64 vk, .int .i64 vi, .string vt] 67))
        have x5 := (keeps_alloc wr (.cells #[.int .i64 vk, .int .i64 vi, .string vt] 67) _ (by rw [x1]; rfl)).trans x1
        have zx := HX.out.cell
        clear hv hx hvc Hq x0 x1 HBr
        go_wp2_with fail
        refine (rvalid_any ⟨vk, vi, vt⟩ _).mono ?_
        rintro e w4 ⟨rfl, hb4⟩
        have x6 := (keeps_of hb4 _ (by rw [x5]; rfl)).trans x5
        have zx4 := (HX.out.below hb4).cell
        have HB4 := Lib.hid (Below.next HBx.out hb4)
        have zz4 := (HZ.out.below HB4.out).cell
        have y1 := Hc1.out _ HB4.out
        have HE := Lib.hid (HB.out.trans (HB4.out.mono HB.out.size))
        clear x5 e0 e1 e2 zx hb4 HX HBx
        cases hval : validV ⟨vk, vi, vt⟩
        · have hf : rr = false := by rw [← Hs.out]; unfold fitC; rw [hval]; rfl
          subst hf
          clear hval
          go_wp2
          go_ret
          exact ⟨rfl, HE.out⟩
        · obtain ⟨xk, hxk⟩ : ∃ z, x.k = z := ⟨_, rfl⟩
          rw [hxk] at x6
          have Hs2 : Hid ((decide (vk = xk) && fitL (r.drop (k + 1)) (T.kinds.drop (k + 1))) = rr) := Lib.hid (by rw [← Hs.out]; unfold fitC; rw [hval, hxk]; rfl)
          have g0 : decide ((t : Int) < 0) = false := by simp
          have g1 : decide (n ≤ t) = false := by simp; omega
          have g2 : decide ((k : Int) < 0) = false := by simp
          have g3 : decide (m ≤ k) = false := by simp; omega
          clear hval hxk Hs
          go_wp2_with fail
          have x7 : w4.drew.cell? ⟨b2, o2 + k * 2 + 1, none⟩ = some (.int .i64 xk) := x6
          have zx5 : ∀ j, w4.drew.cell? ⟨wr.heap.size, j, none⟩ = (#[.int .i64 vk, .int .i64 vi, .string vt] : Array Value)[j]? := zx4
          have zz5 : ∀ j, w4.drew.cell? ⟨w.heap.size, j, none⟩ = (#[.int .i64 ver, .slice (some ⟨b, o, none⟩) n c] : Array Value)[j]? := zz4
          have y7 : w4.drew.cell? ⟨b, o + t * 5 + 1, none⟩ = some (.slice (some ⟨b2, o2, none⟩) m k1) := y1
          have HE5 : Hid (Below w.heap.size w w4.drew) := Lib.hid HE.out.drew
          have HB5 : Hid (Below w2.heap.size w2 w4.drew) := Lib.hid HB4.out.drew
          clear x6 zx4 zz4 y1 HE HB4
          by_cases hxx : vk = xk
          · have g5 : (vk == xk) = true := by simp [hxx]
            rw [decide_eq_true hxx, Bool.true_and] at Hs2
            clear hxx
            generalize hWn : w4.drew = Wn at *
            have hca := @cell_after Wn
            refine wp_region_seg [] [0, 1, 2, 3, 4, 5, 6, 7, 8, 9, 10, 11, 12, 13] (by kernel_rfl) (by kernel_rfl) (fun _ _ d _ _ h => by cases d <;> exact h) ?_
            rw [hWn]
            clear hWn
            simp only [pickSegs, pickOps, opAt, List.map_cons, List.map_nil, List.getElem?_toArray, List.getElem?_cons_zero, List.getElem?_cons_succ, Option.getD_some]
            unfold wpBlocks
            repeat (go_big_quiet_step (fail))
            refine wpQuiet_nil ?_
            clear hca x7 zx5 zz5 y7
            go_wp2
            go_roundw
            case rel => exact ⟨k + 1, by omega, by go_num, Lib.hid Hs2.out, HB5⟩
            case measure => simp [intOf]; omega
          · have g5 : (vk == xk) = false := by simp [hxx]
            rw [decide_eq_false hxx, Bool.false_and] at Hs2
            have hf : rr = false := Hs2.out.symm
            subst hf
            clear hxx
            generalize hWn : w4.drew = Wn at *
            have hca := @cell_after Wn
            refine wp_region_seg [] [0, 1, 2, 3, 4, 5, 6, 7, 8, 9, 10, 11, 12, 13] (by kernel_rfl) (by kernel_rfl) (fun _ _ d _ _ h => by cases d <;> exact h) ?_
            rw [hWn]
            clear hWn
            simp only [pickSegs, pickOps, opAt, List.map_cons, List.map_nil, List.getElem?_toArray, List.getElem?_cons_zero, List.getElem?_cons_succ, Option.getD_some]
            unfold wpBlocks
            repeat (go_big_quiet_step (fail))
            refine wpQuiet_nil ?_
            clear hca x7 y7
            cases h2 : (vk == 2) <;> cases h1 : (vk == 1)
            all_goals
              go_wp2_with fail
              go_ret
              exact ⟨rfl, HE5.out⟩
      · obtain rfl : k = m := by omega
        have hf : rr = true := by
          rw [← Hq.out, List.drop_of_length_le (by rw [Hrl.out]; exact Nat.le_refl _), List.drop_of_length_le (by unfold Tb.kinds; rw [List.length_map, Hln.out]; exact Nat.le_refl _)]
          rfl
        have HE := Lib.hid (HB.out.trans (HBr.out.mono HB.out.size))
        subst hf
        go_wp2
        go_ret
        exact ⟨rfl, HE.out⟩
  · have hf : rr = false := by
      rw [← Hrr.out]
      unfold fitsB
      rw [Bool.eq_false_iff]
      intro h
      have := fitL_len h
      unfold Tb.kinds at this
      rw [List.length_map, Hln.out, Hrl.out] at this
      omega
    subst hf
    have g4 : ((m : Int) != (n1 : Int)) = true := by simp [hm]
    have z := HZ.out.cell
    clear hm
    go_wp2
    go_ret
    exact ⟨rfl, HB.out⟩
end Go.Proofs.YtponkkljlbifmaaGreat

/-
  The reference's Valid and KeyOf of a change, in the mode of the server.
-/
namespace Go.Proofs.YtponkkljlbifmaaGreat
open Go.RowKit
set_option maxRecDepth 100000
open Pd

set_option maxHeartbeats 4000000 in
theorem rvalid8_any (ver : Int) (A : Option Addr) (n c : Nat) (tbs : List Tb) (t : Int) (OA : Option Addr) (on oc : Nat) (o : Rw) (NA : Option Addr) (nn nc : Nat) (r : Rw) (w : World) (hs : ScS w A n tbs) (hg : GoodS ver tbs) (ho : RowOk w ((OA, on, oc), o)) (hr : RowOk w ((NA, nn, nc), r)) :
    Calls Tryz.prog 71 #[.agg #[.int .i64 ver, .slice A n c], .int .i64 1, .agg #[.int .i64 t, .slice OA on oc, .slice NA nn nc]] w fun e w' => e = .returned (.bool (validC tbs ⟨t, o, r⟩)) ∧ Below w.heap.size w w' := by
  have HB : Hid (Below w.heap.size w ((w.alloc (.cells #[.int .i64 ver, .slice A n c] 30)).alloc (.cells #[.int .i64 t, .slice OA on oc, .slice NA nn nc] 91))) := Lib.hid (((Below.refl _ _).alloc (Nat.le_refl _) _).alloc (by simp) _)
  have HS := Lib.hid (hs.keep (keeps_of HB.out))
  have HO := Lib.hid (ho.keep (keeps_of HB.out))
  have HR := Lib.hid (hr.keep (keeps_of HB.out))
  have HZ := Lib.hid ((Blk.new w 30 #[.int .i64 ver, .slice A n c]).alloc (.cells #[.int .i64 t, .slice OA on oc, .slice NA nn nc] 91))
  have HY := Lib.hid (Blk.new (w.alloc (.cells #[.int .i64 ver, .slice A n c] 30)) 91 #[.int .i64 t, .slice OA on oc, .slice NA nn nc])
  rw [World.size_alloc] at HY
  have HG := Lib.hid hg
  have Hln := Lib.hid hs.len
  have Hol := Lib.hid ho.rd.len
  have Hrl := Lib.hid hr.rd.len
  have hn8 : n ≤ 8 := by have := hg.ln; have := Hln.out; omega
  obtain ⟨vb, Hvb⟩ : ∃ z, Hid (validC tbs ⟨t, o, r⟩ = z) := ⟨_, Lib.hid rfl⟩
  rw [Hvb.out]
  clear hs ho hr hg
  go_enter Tryz.func71, Tryz.ntmps71
  go_upto_region 1 with fail
  generalize hW : (w.alloc (.cells #[.int .i64 ver, .slice A n c] 30)).alloc (.cells #[.int .i64 t, .slice OA on oc, .slice NA nn nc] 91) = w1 at *
  have z := HZ.out.cell
  have zy := HY.out.cell
  by_cases ht0 : t < 0
  · have g1 : decide (t < 0) = true := by simp [ht0]
    have hv : false = vb := by rw [← Hvb.out]; unfold validC tabC; rw [if_neg (by show ¬ 0 ≤ t; omega)]
    subst hv
    have HE := Lib.hid HB.out
    go_wp2
    go_ret
    exact ⟨rfl, HE.out⟩
  have g1 : decide (t < 0) = false := by simp; omega
  obtain ⟨t, rfl⟩ := Int.eq_ofNat_of_zero_le (show 0 ≤ t by omega)
  clear ht0
  by_cases htn : n ≤ t
  · have g2 : decide (n ≤ t) = true := by simp [htn]
    have hv : false = vb := by
      rw [← Hvb.out]; unfold validC tabC
      rw [if_pos (by show 0 ≤ (t : Int); omega)]
      have : tbs[(Int.ofNat t).toNat]? = none := List.getElem?_eq_none (by rw [Hln.out]; simpa using htn)
      show false = (match tbs[(Int.ofNat t).toNat]? with | none => false | some T => _)
      rw [this]
    subst hv
    have HE := Lib.hid HB.out
    go_wp2
    go_ret
    exact ⟨rfl, HE.out⟩
  have g2 : decide (n ≤ t) = false := by simp; omega
  obtain ⟨T, hT⟩ : ∃ T, tbs[t]? = some T := ⟨_, List.getElem?_eq_getElem (by rw [Hln.out]; omega)⟩
  have HT := Lib.hid hT
  have HGT := Lib.hid (HG.out.tb T (List.mem_of_getElem? hT))
  replace Hvb : Hid (okC T ⟨t, o, r⟩ = vb) := Lib.hid (by
    rw [← Hvb.out]; unfold validC tabC
    rw [if_pos (by show 0 ≤ (t : Int); omega)]
    show _ = (match tbs[(t : Int).toNat]? with | none => false | some T => _)
    rw [Int.toNat_natCast, hT])
  clear hT htn
  have hol : o.length = on := Hol.out
  have hrl : r.length = nn := Hrl.out
  have Hv2 : Hid (((!(decide (on = 0) && decide (nn = 0))) && (decide (on = 0) || fitsB T o) && (decide (nn = 0) || fitsB T r) && (decide (on = 0) || decide (nn = 0) || decide (cmpR (keyT T o) (keyT T r) = 0))) = vb) := Lib.hid (by
    rw [← Hvb.out]; unfold okC; simp only [hol, hrl])
  clear hol hrl Hvb Hol Hrl
  obtain ⟨b0, hb0⟩ : ∃ b, decide (on = 0) = b := ⟨_, rfl⟩
  obtain ⟨b1, hb1⟩ : ∃ b, decide (nn = 0) = b := ⟨_, rfl⟩
  rw [hb0, hb1] at Hv2
  have g3 : ((on : Int) == 0) = b0 := by rw [← hb0]; by_cases h : on = 0 <;> simp [h]
  have g4 : ((nn : Int) == 0) = b1 := by rw [← hb1]; by_cases h : nn = 0 <;> simp [h]
  have g5 : decide (0 < on) = !b0 := by rw [← hb0]; by_cases h : on = 0 <;> simp [h]; omega
  have g6 : decide (0 < nn) = !b1 := by rw [← hb1]; by_cases h : nn = 0 <;> simp [h]; omega
  clear hb0 hb1
  have HB0 : Hid (Below w1.heap.size w1 w1) := Lib.hid (Below.refl _ _)
  cases b0
  · cases b1
    · go_wp2_with fail
      refine (rfits_any ver A n c tbs t T OA on oc o _ (HS.out.keep (keeps_of HB0.out)) hn8 HT.out HGT.out.cl (HO.out.rd.keep (keeps_of HB0.out))).mono ?_
      rintro e w5 ⟨rfl, hb5⟩
      have HB5 := Lib.hid (Below.next HB0.out hb5)
      clear hb5 z zy 
      have z := (HZ.out.below HB5.out).cell
      have zy := (HY.out.below HB5.out).cell
      obtain ⟨f, Hfo⟩ : ∃ z, Hid (fitsB T o = z) := ⟨_, Lib.hid rfl⟩
      rw [Hfo.out]
      cases f
      · have hv : false = vb := by rw [← Hv2.out, Hfo.out]; simp
        subst hv
        have HE := Lib.hid (HB.out.trans (HB5.out.mono HB.out.size))
        go_wp2
        go_ret
        exact ⟨rfl, HE.out⟩
      · go_wp2_with fail
        refine (rfits_any ver A n c tbs t T NA nn nc r _ (HS.out.keep (keeps_of HB5.out)) hn8 HT.out HGT.out.cl (HR.out.rd.keep (keeps_of HB5.out))).mono ?_
        rintro e w5 ⟨rfl, hb5⟩
        have HB6 := Lib.hid (Below.next HB5.out hb5)
        clear hb5 z zy HB5
        have z := (HZ.out.below HB6.out).cell
        have zy := (HY.out.below HB6.out).cell
        obtain ⟨f, Hfr⟩ : ∃ z, Hid (fitsB T r = z) := ⟨_, Lib.hid rfl⟩
        rw [Hfr.out]
        cases f
        · have hv : false = vb := by rw [← Hv2.out, Hfr.out]; simp
          subst hv
          have HE := Lib.hid (HB.out.trans (HB6.out.mono HB.out.size))
          go_wp2
          go_ret
          exact ⟨rfl, HE.out⟩
        · have HBd := Lib.hid HB6.out.drew
          go_upto_region 5 with fail
          clear z zy
          have zb := (HZ.out.below HBd.out).cell
          have zy := (HY.out.below HBd.out).cell
          generalize hWn : World.drew _ = Wn at *
          have hca := @cell_after Wn
          refine wp_region_seg [([0, 1, 2, 3, 4, 5, 6, 7, 8, 9, 10, 11, 12, 13, 14, 15, 17, 18, 19, 20, 21], 16), ([], 22), ([], 23)] [24, 25, 26] (by kernel_rfl) (by kernel_rfl) (fun _ _ d _ _ h => by cases d <;> exact h) ?_
          rw [hWn]
          clear hWn
          simp only [pickSegs, pickOps, opAt, List.map_cons, List.map_nil, List.getElem?_toArray, List.getElem?_cons_zero, List.getElem?_cons_succ, Option.getD_some]
          unfold wpBlocks
          repeat (go_big_quiet_step (fail))
          refine wpQuiet_nil ?_
          clear hca zb zy
          have h0 : 0 ≤ T.key := by have := HGT.out.k1; omega
          have h8 : T.key ≤ 8 := by have := HGT.out.k2; have := HGT.out.cl; omega
          go_wp2_with fail
          refine (rkey_any ver A n c tbs t T OA on oc o _ (HS.out.keep (keeps_of HBd.out)) hn8 HT.out h0 h8 (HO.out.keep (keeps_of HBd.out))).mono ?_
          rintro e w6 ⟨Q, qc, rfl, hqo, hb6⟩
          have HQ := Lib.hid hqo.ok
          have HB6 := Lib.hid (Below.next HBd.out hb6)
          clear hqo HBd
          go_wp2_with fail
          refine ⟨hb6, ?_⟩
          unfold wpBlocks
          refine wpQuiet_nil ?_
          clear hb6
          go_wp2_with fail
          refine (rkey_any ver A n c tbs t T NA nn nc r _ (HS.out.keep (keeps_of HB6.out)) hn8 HT.out h0 h8 (HR.out.keep (keeps_of HB6.out))).mono ?_
          rintro e w7 ⟨Q2, qc2, rfl, hqo, hb7⟩
          have HQ2 := Lib.hid hqo.ok
          have HQ1 := Lib.hid (HQ.out.keep (keeps_of hb7))
          have HB7 := Lib.hid (Below.next HB6.out hb7)
          clear hqo HQ HB6
          go_wp2_with fail
          refine ⟨hb7, ?_⟩
          unfold wpBlocks
          refine wpQuiet_nil ?_
          clear hb7
          go_wp2_with fail
          refine (rcomp_rw Q _ qc (keyT T o) Q2 _ qc2 (keyT T r) _ HQ1.out HQ2.out).mono ?_
          rintro e w8 ⟨rfl, hb8⟩
          have HB8 := Lib.hid (Below.next HB7.out hb8)
          clear HQ1 HQ2 HB7
          obtain ⟨q, Hq⟩ : ∃ z, Hid (decide (cmpR (keyT T o) (keyT T r) = 0) = z) := ⟨_, Lib.hid rfl⟩
          have hv : q = vb := by rw [← Hv2.out, Hq.out, Hfo.out, Hfr.out]; simp
          subst hv
          have gq : (cmpR (keyT T o) (keyT T r) == 0) = q := by rw [← Hq.out]; by_cases h : cmpR (keyT T o) (keyT T r) = 0 <;> simp [h]
          generalize cmpR (keyT T o) (keyT T r) = cc at *
          have HE := Lib.hid (HB.out.trans (HB8.out.mono HB.out.size))
          go_wp2_with fail
          refine ⟨hb8, ?_⟩
          unfold wpBlocks
          repeat (go_big_quiet_step (fail))
          refine wpQuiet_nil ?_
          clear hb8
          go_wp2
          go_ret
          exact ⟨rfl, HE.out⟩
    · go_wp2_with fail
      refine (rfits_any ver A n c tbs t T OA on oc o _ (HS.out.keep (keeps_of HB0.out)) hn8 HT.out HGT.out.cl (HO.out.rd.keep (keeps_of HB0.out))).mono ?_
      rintro e w5 ⟨rfl, hb5⟩
      have HB5 := Lib.hid (Below.next HB0.out hb5)
      clear hb5 z zy 
      have z := (HZ.out.below HB5.out).cell
      have zy := (HY.out.below HB5.out).cell
      obtain ⟨f, Hfo⟩ : ∃ z, Hid (fitsB T o = z) := ⟨_, Lib.hid rfl⟩
      rw [Hfo.out]
      cases f
      · have hv : false = vb := by rw [← Hv2.out, Hfo.out]; simp
        subst hv
        have HE := Lib.hid (HB.out.trans (HB5.out.mono HB.out.size))
        go_wp2
        go_ret
        exact ⟨rfl, HE.out⟩
      · have HBd := Lib.hid HB5.out.drew
        go_upto_region 5 with fail
        clear z zy
        have zb := (HZ.out.below HBd.out).cell
        have zy := (HY.out.below HBd.out).cell
        generalize hWn : World.drew _ = Wn at *
        have hca := @cell_after Wn
        refine wp_region_seg [([0, 1, 2, 3, 4, 5, 6, 7, 8, 9, 10, 11, 12, 13, 14, 15, 17, 18, 19, 20, 21], 16), ([], 22), ([], 23)] [24, 25, 26] (by kernel_rfl) (by kernel_rfl) (fun _ _ d _ _ h => by cases d <;> exact h) ?_
        rw [hWn]
        clear hWn
        simp only [pickSegs, pickOps, opAt, List.map_cons, List.map_nil, List.getElem?_toArray, List.getElem?_cons_zero, List.getElem?_cons_succ, Option.getD_some]
        unfold wpBlocks
        repeat (go_big_quiet_step (fail))
        refine wpQuiet_nil ?_
        clear hca zb zy
        have hv : true = vb := by rw [← Hv2.out, Hfo.out]; rfl
        subst hv
        have HE := Lib.hid (HB.out.trans (HBd.out.mono HB.out.size))
        go_wp2_with fail
        refine ⟨Below.refl _ _, ?_⟩
        unfold wpBlocks
        refine wpQuiet_nil ?_
        go_wp2_with fail
        refine ⟨Below.refl _ _, ?_⟩
        unfold wpBlocks
        refine wpQuiet_nil ?_
        go_wp2_with fail
        refine ⟨Below.refl _ _, ?_⟩
        unfold wpBlocks
        repeat (go_big_quiet_step (fail))
        refine wpQuiet_nil ?_
        go_wp2
        go_ret
        exact ⟨rfl, HE.out⟩
  · cases b1
    · go_wp2_with fail
      refine (rfits_any ver A n c tbs t T NA nn nc r _ (HS.out.keep (keeps_of HB0.out)) hn8 HT.out HGT.out.cl (HR.out.rd.keep (keeps_of HB0.out))).mono ?_
      rintro e w5 ⟨rfl, hb5⟩
      have HB5 := Lib.hid (Below.next HB0.out hb5)
      clear hb5 z zy 
      have z := (HZ.out.below HB5.out).cell
      have zy := (HY.out.below HB5.out).cell
      obtain ⟨f, Hfr⟩ : ∃ z, Hid (fitsB T r = z) := ⟨_, Lib.hid rfl⟩
      rw [Hfr.out]
      cases f
      · have hv : false = vb := by rw [← Hv2.out, Hfr.out]; simp
        subst hv
        have HE := Lib.hid (HB.out.trans (HB5.out.mono HB.out.size))
        go_wp2
        go_ret
        exact ⟨rfl, HE.out⟩
      · have HBd := Lib.hid HB5.out.drew
        go_upto_region 5 with fail
        clear z zy
        have zb := (HZ.out.below HBd.out).cell
        have zy := (HY.out.below HBd.out).cell
        generalize hWn : World.drew _ = Wn at *
        have hca := @cell_after Wn
        refine wp_region_seg [([0, 1, 2, 3, 4, 5, 6, 7, 8, 9, 10, 11, 12, 13, 14, 15, 17, 18, 19, 20, 21], 16), ([], 22), ([], 23)] [24, 25, 26] (by kernel_rfl) (by kernel_rfl) (fun _ _ d _ _ h => by cases d <;> exact h) ?_
        rw [hWn]
        clear hWn
        simp only [pickSegs, pickOps, opAt, List.map_cons, List.map_nil, List.getElem?_toArray, List.getElem?_cons_zero, List.getElem?_cons_succ, Option.getD_some]
        unfold wpBlocks
        repeat (go_big_quiet_step (fail))
        refine wpQuiet_nil ?_
        clear hca zb zy
        have hv : true = vb := by rw [← Hv2.out, Hfr.out]; rfl
        subst hv
        have HE := Lib.hid (HB.out.trans (HBd.out.mono HB.out.size))
        go_wp2_with fail
        refine ⟨Below.refl _ _, ?_⟩
        unfold wpBlocks
        refine wpQuiet_nil ?_
        go_wp2_with fail
        refine ⟨Below.refl _ _, ?_⟩
        unfold wpBlocks
        refine wpQuiet_nil ?_
        go_wp2_with fail
        refine ⟨Below.refl _ _, ?_⟩
        unfold wpBlocks
        repeat (go_big_quiet_step (fail))
        refine wpQuiet_nil ?_
        go_wp2
        go_ret
        exact ⟨rfl, HE.out⟩
    · have hv : false = vb := by rw [← Hv2.out]; rfl
      subst hv
      have HE := Lib.hid HB.out
      go_wp2
      go_ret
      exact ⟨rfl, HE.out⟩
set_option maxHeartbeats 2000000 in
theorem rkeyof_any (ver : Int) (A : Option Addr) (n c : Nat) (tbs : List Tb) (t : Nat) (T : Tb) (OA : Option Addr) (on oc : Nat) (o : Rw) (NA : Option Addr) (nn nc : Nat) (r : Rw) (w : World) (hs : ScS w A n tbs) (hn : n ≤ 8) (hT : tbs[t]? = some T) (h0 : 0 ≤ T.key) (h8 : T.key ≤ 8) (ho : RowOk w ((OA, on, oc), o)) (hr : RowOk w ((NA, nn, nc), r)) :
    Calls Tryz.prog 72 #[.agg #[.int .i64 ver, .slice A n c], .agg #[.int .i64 (t : Int), .slice OA on oc, .slice NA nn nc]] w fun e w' => RowN (keyC T ⟨(t : Int), o, r⟩) w e w' := by
  have HB : Hid (Below w.heap.size w ((w.alloc (.cells #[.int .i64 ver, .slice A n c] 30)).alloc (.cells #[.int .i64 (t : Int), .slice OA on oc, .slice NA nn nc] 91))) := Lib.hid (((Below.refl _ _).alloc (Nat.le_refl _) _).alloc (by simp) _)
  have HS := Lib.hid (hs.keep (keeps_of HB.out))
  have HO := Lib.hid (ho.keep (keeps_of HB.out))
  have HR := Lib.hid (hr.keep (keeps_of HB.out))
  have HZ := Lib.hid ((Blk.new w 30 #[.int .i64 ver, .slice A n c]).alloc (.cells #[.int .i64 (t : Int), .slice OA on oc, .slice NA nn nc] 91))
  have HY := Lib.hid (Blk.new (w.alloc (.cells #[.int .i64 ver, .slice A n c] 30)) 91 #[.int .i64 (t : Int), .slice OA on oc, .slice NA nn nc])
  rw [World.size_alloc] at HY
  have HT := Lib.hid hT
  have hol : o.length = on := ho.rd.len
  obtain ⟨key, Hkey⟩ : ∃ z, Hid (keyC T ⟨(t : Int), o, r⟩ = z) := ⟨_, Lib.hid rfl⟩
  have Hk2 : Hid ((if on = 0 then keyT T r else keyT T o) = key) := Lib.hid (by rw [← Hkey.out]; unfold keyC; simp only [hol])
  rw [Hkey.out]
  clear hs ho hr hT hol Hkey
  go_enter Tryz.func72, Tryz.ntmps72
  go_upto_region 1 with fail
  generalize hW : (w.alloc (.cells #[.int .i64 ver, .slice A n c] 30)).alloc (.cells #[.int .i64 (t : Int), .slice OA on oc, .slice NA nn nc] 91) = w1 at *
  have z := HZ.out.cell
  have zy := HY.out.cell
  by_cases hz : on = 0
  · have g1 : decide (0 < on) = false := by simp [hz]
    have Hk := Lib.hid Hk2.out
    rw [if_pos hz] at Hk
    clear hz Hk2
    go_wp2_with fail
    refine (rkey_any ver A n c tbs t T NA nn nc r _ HS.out hn HT.out h0 h8 HR.out).mono ?_
    rintro e w2 ⟨Q, qc, rfl, hqo, hb2⟩
    rw [Hk.out] at hqo ⊢
    have HE : Hid (RowN key w (.returned (.slice Q key.length qc)) w2) := Lib.hid ⟨Q, qc, rfl, hqo.mono HB.out.size, HB.out.trans (hb2.mono HB.out.size)⟩
    clear hqo hb2 z zy
    go_wp2
    go_ret
    exact HE.out
  · have g1 : decide (0 < on) = true := by simp; omega
    have Hk := Lib.hid Hk2.out
    rw [if_neg hz] at Hk
    clear hz Hk2
    go_wp2_with fail
    refine (rkey_any ver A n c tbs t T OA on oc o _ HS.out hn HT.out h0 h8 HO.out).mono ?_
    rintro e w2 ⟨Q, qc, rfl, hqo, hb2⟩
    rw [Hk.out] at hqo ⊢
    have HE : Hid (RowN key w (.returned (.slice Q key.length qc)) w2) := Lib.hid ⟨Q, qc, rfl, hqo.mono HB.out.size, HB.out.trans (hb2.mono HB.out.size)⟩
    clear hqo hb2 z zy
    go_wp2
    go_ret
    exact HE.out
end Go.Proofs.YtponkkljlbifmaaGreat
