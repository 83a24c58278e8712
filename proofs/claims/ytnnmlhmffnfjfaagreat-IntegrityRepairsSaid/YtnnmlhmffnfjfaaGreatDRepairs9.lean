/-
  The walk of the law IntegrityRepairs.
-/
import Derived.Test.YtnnmlhmffnfjfaaGreatD37
set_option linter.unusedVariables false
namespace Go.Proofs.YtnnmlhmffnfjfaaGreat
open Go.RowKit
set_option maxRecDepth 100000
open Pd

theorem chkS_of {tbs : List Tb} {st : List (List Rw)} (h1 : cntS st ≤ 512) (h2 : st.length = tbs.length) (h3 : tabsB tbs st = true) : chkS tbs st = 0 := by
  unfold chkS
  rw [if_neg (by omega), if_neg (by omega), if_pos h3]
theorem StB.box {S : Nat → Prop} {w : World} {b n X : Nat} {ls : List TlP} (h : StB S w b n ls) (hX : w.heap.size = X) (o : Obj) : StB (fun k => S k ∨ k = X) (w.alloc o) b n ls :=
  ⟨h.blk.alloc o, h.len, fun p hp w' hb => h.ok p hp w' (but_from ((Below.refl _ w).alloc (Nat.le_refl _) o) hb (fun k hk hs => hs.resolve_right (by omega)))⟩
/-- what the repair holds: w2 the world with the schema's box -/
structure RpI (w2 : World) (g b X2 n : Nat) (wr : World) (ls : List TlP) : Prop where
  st : StB (fun k => k = b ∨ k = X2) wr b n ls
  x : Blk wr X2 25 #[.slice (some ⟨b, 0, none⟩) n n]
  bu : But (· = g) w2 wr
  hb : w2.heap.size ≤ b
  hx : w2.heap.size ≤ X2
  ne : b ≠ X2
theorem RpI.below {w2 wr w' : World} {g b X2 n : Nat} {ls : List TlP} (h : RpI w2 g b X2 n wr ls) (hb : Below wr.heap.size wr w') : RpI w2 g b X2 n w' ls :=
  ⟨h.st.below hb, h.x.below hb, h.bu.trans (But.ofB hb), h.hb, h.hx, h.ne⟩
theorem RpI.far {w2 wr w' : World} {g b X2 n k : Nat} {ls : List TlP} (h : RpI w2 g b X2 n wr ls) (hk : w2.heap.size ≤ k) (hb : But (· = k) wr w') : But (· = g) w2 w' :=
  ⟨hb.os.trans h.bu.os, hb.tape.trans h.bu.tape, hb.output.trans h.bu.output, Nat.le_trans h.bu.size hb.size, fun i hi hne => (hb.block i (Nat.lt_of_lt_of_le hi h.bu.size) (by omega)).trans (h.bu.block i hi hne)⟩
theorem RpI.put {w2 wr w' : World} {g b X2 n : Nat} {ls ls' : List TlP} (h : RpI w2 g b X2 n wr ls) (hb : But (· = b) wr w') (hs : StB (fun k => k = b ∨ k = X2) w' b n ls') : RpI w2 g b X2 n w' ls' :=
  ⟨hs, h.x.but hb (fun e => h.ne e.symm), h.far h.hb hb, h.hb, h.hx, h.ne⟩
theorem RpI.again {w2 wr : World} {g b X2 n : Nat} {ls : List TlP} (h : RpI w2 g b X2 n wr ls) : RpI w2 g b X2 n (wr.setCell ⟨X2, 0, none⟩ (.slice (some ⟨b, 0, none⟩) n n)) ls := by
  have hb : But (· = X2) wr (wr.setCell ⟨X2, 0, none⟩ (.slice (some ⟨b, 0, none⟩) n n)) := But.set (S := (· = X2)) wr (p := ⟨X2, 0, none⟩) rfl _
  refine ⟨h.st.but hb (fun k hk => .inr hk) h.ne, ?_, h.far h.hx hb, h.hb, h.hx, h.ne⟩
  have := h.x.set_ 0 (.slice (some ⟨b, 0, none⟩) n n)
  simpa using this
set_option maxRecDepth 100000 in
set_option maxHeartbeats 4000000 in
theorem repairs9_walk (A : Option Addr) (n c : Nat) (zs : List Int) (w : World) (hs : Sl 1 u8c w A n zs) (hz : ∀ z ∈ zs, 0 ≤ z ∧ z ≤ 255) (hnil : A = none → n = 0 ∧ c = 0) (hsp : ∀ ad, A = some ad → ad.spot = none) (hnc : n ≤ c) (hcm : c ≤ 9223372036854775807) :
    Calls Tryz.prog 7 #[.slice A n c] w fun e w' => e = .returned (.bool true) ∧ Below w.heap.size w w' := by
  have HS := Lib.hid hs
  have HZ := Lib.hid hz
  have HN := Lib.hid hnil
  have HP := Lib.hid hsp
  clear hs hz hnil hsp
  go_enter Tryz.func7, Tryz.ntmps7
  go_wp2_with fail
  refine (new_any A n c zs 200 _ HS.out HZ.out HN.out HP.out hnc hcm (by omega)).mono ?_
  rintro e w0 ⟨g, hg, rfl, hc, hB0⟩
  have HC := Lib.hid hc
  have HB := Lib.hid hB0
  have HG := Lib.hid hg
  clear HS HZ HN HP hc hB0 hg hnc hcm
  go_wp2_with fail
  refine (cschema_any g _ HC.out).mono ?_
  rintro e w1 ⟨ver, sb, m, tbs, rfl, hsc, hgs, hm2, hm4, hc1, hb1⟩
  have HB1 := Lib.hid (hb1.below HB.out HB.out.size (fun k hk => by subst hk; exact HG.out))
  have HGS := Lib.hid hgs
  have HC1 := Lib.hid (hc1.below ((Below.refl w1.heap.size w1).alloc (Nat.le_refl _) (.cells #[.int .i64 ver, .slice (some ⟨sb, 0, none⟩) m 4] 30)))
  have hal : Below w1.heap.size w1 (w1.alloc (.cells #[.int .i64 ver, .slice (some ⟨sb, 0, none⟩) m 4] 30)) := (Below.refl _ _).alloc (Nat.le_refl _) _
  have HSC : Hid (ScN g (w1.alloc (.cells #[.int .i64 ver, .slice (some ⟨sb, 0, none⟩) m 4] 30)) (some ⟨sb, 0, none⟩) m tbs) := Lib.hid (fun w' hw => hsc w' ((But.ofB hal).trans hw))
  have HZ := Lib.hid (Blk.new w1 30 #[.int .i64 ver, .slice (some ⟨sb, 0, none⟩) m 4])
  have HB2 := Lib.hid (Below.next HB1.out hal)
  obtain ⟨X1, HX1⟩ : ∃ z, Hid (w1.heap.size = z) := ⟨_, Lib.hid rfl⟩
  have HgX : Hid (X1 ≠ g) := Lib.hid (by have := hc1.lt; have := HX1.out; omega)
  rw [HX1.out] at HZ
  clear hsc hgs hc1 hb1 hal HC HB HB1
  go_upto_region 3 with fail
  rw [HX1.out]
  generalize w1.alloc (.cells #[.int .i64 ver, .slice (some ⟨sb, 0, none⟩) m 4] 30) = w2 at *
  clear HX1
  have z := HZ.out.cell
  go_wp2_with fail
  refine (cstate_any g ver (some ⟨sb, 0, none⟩) m 4 tbs _ HC1.out HSC.out HGS.out).mono ?_
  rintro e w3 ⟨b, ls, rfl, hbb, hst, htb, hct, hc3, hb3⟩
  have HXn := Lib.hid (Blk.new w3 25 #[.slice (some ⟨b, 0, none⟩) m m])
  obtain ⟨X2, HX2⟩ : ∃ z, Hid (w3.heap.size = z) := ⟨_, Lib.hid rfl⟩
  have HI : Hid (RpI w2 g b X2 m (w3.alloc (.cells #[.slice (some ⟨b, 0, none⟩) m m] 25)) ls) := Lib.hid (by
    have h1 := hst.box HX2.out (.cells #[.slice (some ⟨b, 0, none⟩) m m] 25)
    have h2 := HXn.out
    rw [HX2.out] at h2
    have h3 := HX2.out
    have h4 := hst.blk.lt
    refine ⟨⟨h1.blk, h1.len, fun p hp w' hb => h1.ok p hp w' (hb.wide (fun k hk => by rcases hk with hk | hk; exact .inl (.inr hk); exact .inr hk))⟩, h2, hb3.trans (But.alloc _ _), hbb, by have := hb3.size; omega, by omega⟩)
  have HL : Hid (tabsB tbs (stR ls) = true) := Lib.hid htb
  have hcn : cntS (stR ls) + 0 ≤ 16 := by omega
  have HM : Hid (m ≤ 4) := Lib.hid hm4
  clear hbb hst htb hct hc3 hb3 hm2 hm4 HXn HC1 z
  go_upto_region 4 with fail
  rw [HX2.out]
  generalize w3.alloc (.cells #[.slice (some ⟨b, 0, none⟩) m m] 25) = w4 at *
  clear HX2
  go_wp2_with fail
  go_loopw [6] (fun i wr => ∃ (k : Nat) (ls : List TlP), cntS (stR ls) + k ≤ 16 ∧ i = .int .i64 (k : Int) ∧ Hid (RpI w2 g b X2 m wr ls) ∧ Hid (tabsB tbs (stR ls) = true)) (fun i _ => 30 - (intOf i).toNat)
  case atStart => exact ⟨0, ls, hcn, rfl, HI, HL⟩
  case round =>
    clear HI HL hcn
    obtain ⟨k, ls, hck, rfl, HI, HL⟩ := hrel
    have g1 : decide (k < 30) = true := by simp; omega
    have HSc : Hid (ScS wr (some ⟨sb, 0, none⟩) m tbs) := Lib.hid (HSC.out wr HI.out.bu)
    have HZr := Lib.hid (HZ.out.but HI.out.bu HgX.out)
    have hls : (stR ls).length = m := by unfold stR; rw [List.length_map]; exact HI.out.st.len
    have HCk : Hid (chkS tbs (stR ls) = 0) := Lib.hid (chkS_of (by omega) (by rw [hls, ← HSc.out.len]) HL.out)
    clear hls
    have z := HZr.out.cell
    have zx := HI.out.x.cell
    have hmm : m ≤ 1000000 := by have := HM.out; omega
    go_wp2_with fail
    refine (viol_any ver (some ⟨sb, 0, none⟩) m 4 tbs (some ⟨b, 0, none⟩) m m ls _ HSc.out HGS.out HI.out.st.st (by omega) hmm).mono ?_
    rintro e w5 ⟨h5, hb5⟩
    rcases h5 with ⟨_, V, vn, vc, xs, rfl, hvn, hxs⟩ | ⟨h5, _⟩
    rotate_left
    · exact absurd HCk.out h5
    have HI5 := Lib.hid (HI.out.below hb5)
    have HS5 := Lib.hid (HSc.out.keep (keeps_of hb5))
    have HZ5 := Lib.hid (HZr.out.below hb5)
    have HVN := Lib.hid hvn
    have HXS := Lib.hid hxs
    clear z zx hb5 hvn hxs HI HSc HZr
    have z := HZ5.out.cell
    have zx := HI5.out.x.cell
    by_cases hv0 : vn = 0
    · subst hv0
      have HBw : Hid (Below w.heap.size w w5) := Lib.hid (HI5.out.bu.below HB2.out HB2.out.size (fun k hk => by subst hk; exact HG.out))
      go_wp2_with fail
      refine (begun9_any w5).mono ?_
      rintro e w6 ⟨rfl, hb6⟩
      have HI6 := Lib.hid (HI5.out.below hb6)
      have HS6 := Lib.hid (HS5.out.keep (keeps_of hb6))
      have HZ6 := Lib.hid (HZ5.out.below hb6)
      have HB6 := Lib.hid (Below.next HBw.out hb6)
      clear z zx hb6 HI5 HS5 HZ5 HBw
      have z := HZ6.out.cell
      have zx := HI6.out.x.cell
      go_wp2_with fail
      refine (tcheck_any ver (some ⟨sb, 0, none⟩) m 4 tbs (some ⟨b, 0, none⟩) m m ls _ HS6.out HGS.out HI6.out.st.st (by omega) hmm).mono ?_
      rintro e w7 ⟨rfl, hb7⟩
      rw [HCk.out]
      have HE := Lib.hid (Below.next HB6.out hb7)
      clear z zx hb7
      go_wp2
      go_ret
      exact ⟨rfl, HE.out⟩
    · have hvp : 0 < vn := by omega
      obtain ⟨vb, vo, x, rfl, hx, hcx⟩ := HVN.out.sl.at hvp
      have hmem : x.v ∈ allV tbs (stR ls) := by rw [← HXS.out]; exact List.mem_map_of_mem (List.mem_of_getElem? hx)
      obtain ⟨t, T, l, h1, h2, h3, h4, h5⟩ := repair hmem HL.out
      have HKr := Lib.hid ((HVN.out.keys _ (List.mem_of_getElem? hx)).ok)
      obtain ⟨pl, hpl, hpr⟩ : ∃ pl, ls[t]? = some pl ∧ tlR pl = l := by
        unfold stR at h3
        rw [List.getElem?_map, Option.map_eq_some_iff] at h3
        exact h3
      have HT := Lib.hid h2
      have HGT := Lib.hid (HGS.out.tb T (List.mem_of_getElem? h2))
      have Hpl := Lib.hid hpl
      have HTB := Lib.hid h4
      have HCN := Lib.hid h5
      have Hpr := Lib.hid hpr
      have hl16 : (tlR pl).length ≤ 16 := by
        have := cntS_le h3
        rw [hpr]
        omega
      obtain ⟨v, XA, xn, xc⟩ := x
      obtain ⟨vk, vt, key, vi⟩ := v
      simp only at h1
      subst h1
      dsimp only at HKr HTB HCN
      have c1 : w5.drew.cell? ⟨vb, vo + 1, none⟩ = some (.int .i64 (t : Int)) := hcx 1 _ rfl
      have c2 : w5.drew.cell? ⟨vb, vo + 2, none⟩ = some (.slice XA xn xc) := hcx 2 _ rfl
      clear hx hcx hmem h2 h3 h4 h5 hpl hpr HXS HVN z zx
      have gv : ((vn : Int) == 0) = false := by simp; omega
      have z : ∀ i, w5.drew.cell? ⟨X1, i, none⟩ = (#[.int .i64 ver, .slice (some ⟨sb, 0, none⟩) m 4] : Array Value)[i]? := HZ5.out.cell
      have zx : ∀ i, w5.drew.cell? ⟨X2, i, none⟩ = (#[.slice (some ⟨b, 0, none⟩) m m] : Array Value)[i]? := HI5.out.x.cell
      have HI6 : Hid (RpI w2 g b X2 m w5.drew ls) := Lib.hid (HI5.out.below (Below.refl _ _).drew)
      have HS6 : Hid (ScS w5.drew (some ⟨sb, 0, none⟩) m tbs) := Lib.hid (HS5.out.keep (Keeps.refl _).drew)
      have HK6 : Hid (RowOk w5.drew ((XA, xn, xc), key)) := Lib.hid (HKr.out.keep (Keeps.refl _).drew)
      clear hv0 HI5 HS5 HZ5 HKr
      go_upto_region 12 with fail
      refine wp_region_planR [10, 11] noW anyW noW_trans anyW_trans (.one [0, 1, 2, 3, 4, 5, 6, 7, 8, 9] [] 10 (.one [] [] 11 (.last [] []))) (by kernel_rfl) (by kernel_rfl) (fun _ _ d _ _ h => by cases d <;> exact h) ?_
      generalize hWd : w5.drew = wd at *
      clear hWd
      have q0 : ∀ (y : LaterR noW wd) i, (afterR noW wd y).cell? ⟨X1, i, none⟩ = (#[.int .i64 ver, .slice (some ⟨sb, 0, none⟩) m 4] : Array Value)[i]? := fun y i => y.cell (z i) (fun W h => h.elim)
      have q1 : ∀ (y : LaterR noW wd) i, (afterR noW wd y).cell? ⟨X2, i, none⟩ = (#[.slice (some ⟨b, 0, none⟩) m m] : Array Value)[i]? := fun y i => y.cell (zx i) (fun W h => h.elim)
      have q2 : ∀ (y : LaterR noW wd), (afterR noW wd y).cell? ⟨vb, vo + 1, none⟩ = some (.int .i64 (t : Int)) := fun y => y.cell c1 (fun W h => h.elim)
      have q3 : ∀ (y : LaterR noW wd), (afterR noW wd y).cell? ⟨vb, vo + 2, none⟩ = some (.slice XA xn xc) := fun y => y.cell c2 (fun W h => h.elim)
      clear c1 c2 z zx
      unfold wpPlanR
      simp only [pickOps, opAt, List.map_cons, List.map_nil, List.getElem?_toArray, List.getElem?_cons_zero, List.getElem?_cons_succ, Option.getD_some]
      repeat (go_big_quiet_step (fail))
      refine wpQuiet_nil ?_
      repeat (go_big_quiet_step (fail))
      refine wpQuiet_nil ?_
      clear q0 q1 q2 q3
      go_wp2_with fail
      refine (rput_any ver (some ⟨sb, 0, none⟩) m 4 tbs b m ls t T pl XA xn xc key none 0 0 [] (fun k => k = b ∨ k = X2) _ HS6.out (by have := HM.out; omega) HT.out (by have := HGT.out.k1; omega) (by have := HGT.out.k2; have := HGT.out.cl; omega) HI6.out.st Hpl.out (.inl rfl) (fun k hk => ?_) HK6.out ⟨Sl.nil, fun _ => ⟨rfl, rfl⟩, Nat.le_refl _, by simp⟩ (by omega) (by omega)).mono ?_
      · rcases hk with hk | hk
        · rw [hk]; exact HI6.out.st.blk.lt
        · rw [hk]; exact HI6.out.x.lt
      rintro e w8 ⟨rfl, hbt, pn, hpn, hst⟩
      go_wp2_with fail
      refine ⟨⟨fun h => (h (by decide)).elim, trivial⟩, ?_⟩
      have HI8 := Lib.hid (HI6.out.put hbt hst)
      have HSt : Hid (stR (ls.set t pn) = (stR ls).set t (dropL T key (tlR pl))) := Lib.hid (by unfold stR; rw [List.map_set, hpn, putRw_nil])
      have HL8 : Hid (tabsB tbs (stR (ls.set t pn)) = true) := Lib.hid (by rw [HSt.out, Hpr.out]; exact HTB.out)
      have hck8 : cntS (stR (ls.set t pn)) + (k + 1) ≤ 16 := by
        have h1 := HCN.out
        rw [← Hpr.out, ← HSt.out] at h1
        omega
      clear hbt hpn hst HSt HI6
      have zx := HI8.out.x.cell
      have zf := HI8.out.x.free
      have HI9 := Lib.hid HI8.out.again
      unfold wpPlanR
      simp only [pickOps, opAt, List.map_nil, List.getElem?_toArray, List.getElem?_cons_zero, List.getElem?_cons_succ, Option.getD_some]
      refine wpQuiet_nil ?_
      refine wpQuiet_nil ?_
      go_wp2_with fail
      refine ⟨⟨fun h => (h (by decide)).elim, trivial⟩, ?_⟩
      unfold wpPlanR
      simp only [pickOps, List.map_nil]
      refine wpQuiet_nil ?_
      refine wpQuiet_nil ?_
      clear zx zf HI8
      go_wp2
      go_roundw
      case rel => exact ⟨k + 1, _, hck8, by go_num, HI9, HL8⟩
      case measure => simp [intOf]; omega
end Go.Proofs.YtnnmlhmffnfjfaaGreat
