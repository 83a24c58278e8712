import Derived.Test.YtjlbnbljimmbeaaRep
namespace Go.Proofs.Ytjlbnbljimmbeaa
open Go.RowKit

set_option maxRecDepth 100000 in
set_option maxHeartbeats 8000000 in
theorem algebra_walk (A : Option Addr) (n c : Nat) (zs : List Int) (w : World) (hs : Sl 1 u8c w A n zs) (hz : ∀ z ∈ zs, 0 ≤ z ∧ z ≤ 255) (hnil : A = none → n = 0 ∧ c = 0) (hsp : ∀ ad, A = some ad → ad.spot = none) (hnc : n ≤ c) (hcm : c ≤ 9223372036854775807) :
    Calls Try.prog 5 #[.slice A n c] w fun e w' => e = .returned (.bool true) ∧ Below w.heap.size w w' := by
  have HS := Lib.hid hs
  have HZ := Lib.hid hz
  have HN := Lib.hid hnil
  have HP := Lib.hid hsp
  clear hs hz hnil hsp
  go_enter Try.func5, Try.ntmps5
  go_wp2_with fail
  refine (new_any A n c zs 120 _ HS.out HZ.out HN.out HP.out hnc hcm (by omega)).mono ?_
  rintro e w0 ⟨g, hg, rfl, hc, hB⟩
  clear HS HZ HN HP
  go_wp2_with fail
  refine (cinterval_any g _ hc).mono ?_
  rintro e w1 ⟨la, Aa, ca, hGa, rfl, hSa, hNa, hPa, hc1, hb1⟩
  have HSa := Lib.hid hSa
  have HRa := Lib.hid hGa.rep
  clear hSa hGa hNa hPa
  replace hB := hb1.below hB hB.size (fun k hk => by subst hk; exact hg)
  replace hc := hc1
  clear hb1
  go_wp2_with fail
  refine (cinterval_any g _ hc).mono ?_
  rintro e w2 ⟨lb, Ab, cb, hGb, rfl, hSb, hNb, hPb, hc2, hb2⟩
  have HSb := Lib.hid hSb
  have HRb := Lib.hid hGb.rep
  clear hSb hGb hNb hPb
  replace HSa := Lib.hid (HSa.out.but hb2 (iv_ne hc HSa.out))
  replace hB := hb2.below hB hB.size (fun k hk => by subst hk; exact hg)
  replace hc := hc2
  clear hb2
  go_wp2_with fail
  refine (cinterval_any g _ hc).mono ?_
  rintro e w3 ⟨lx, Ax, cx, hGx, rfl, hSx, hNx, hPx, hc3, hb3⟩
  have HSx := Lib.hid hSx
  have HRx := Lib.hid hGx.rep
  clear hSx hGx hNx hPx
  replace HSa := Lib.hid (HSa.out.but hb3 (iv_ne hc HSa.out))
  replace HSb := Lib.hid (HSb.out.but hb3 (iv_ne hc HSb.out))
  replace hB := hb3.below hB hB.size (fun k hk => by subst hk; exact hg)
  replace hc := hc3
  clear hb3
  clear hc
  go_wp2_with fail
  refine (begun_any _).mono ?_
  rintro e w4 ⟨rfl, hb4⟩
  replace HSa := Lib.hid (HSa.out.keep (keeps_of hb4))
  replace HSb := Lib.hid (HSb.out.keep (keeps_of hb4))
  replace HSx := Lib.hid (HSx.out.keep (keeps_of hb4))
  replace hB := Below.next hB hb4
  clear hb4
  go_wp2_with fail
  refine (not_any Aa _ ca la _ HSa.out).mono ?_
  rintro e w5 ⟨Ap, cp, rfl, hSp, hb5⟩
  have HSp := Lib.hid hSp
  clear hSp
  have HRp : Hid (Rep (combineL opM allL la).1 (fun v => (opM true (inL la v))) 8) := Lib.hid (Rep.all.op HRa.out rfl (by omega))
  generalize (combineL opM allL la).1 = lp at *
  replace HSa := Lib.hid (HSa.out.keep (keeps_of hb5))
  replace HSb := Lib.hid (HSb.out.keep (keeps_of hb5))
  replace HSx := Lib.hid (HSx.out.keep (keeps_of hb5))
  replace hB := Below.next hB hb5
  clear hb5
  go_wp2_with fail
  refine (not_any Ap _ cp lp _ HSp.out).mono ?_
  rintro e w6 ⟨Aq, cq, rfl, hSq, hb6⟩
  have HSq := Lib.hid hSq
  clear hSq
  have HRq : Hid (Rep (combineL opM allL lp).1 (fun v => (opM true (opM true (inL la v)))) 9) := Lib.hid (Rep.all.op HRp.out rfl (by omega))
  generalize (combineL opM allL lp).1 = lq at *
  replace HSa := Lib.hid (HSa.out.keep (keeps_of hb6))
  replace HSb := Lib.hid (HSb.out.keep (keeps_of hb6))
  replace HSx := Lib.hid (HSx.out.keep (keeps_of hb6))
  replace HSp := Lib.hid (HSp.out.keep (keeps_of hb6))
  replace hB := Below.next hB hb6
  clear hb6
  go_wp2_with fail
  refine (same_eq HSq.out HSa.out (HRq.out.len (by omega)) (HRq.out.ext HRa.out (fun v => by cases inL la v <;> cases inL lb v <;> cases inL lx v <;> rfl))).mono ?_
  rintro e w7 ⟨rfl, hb7⟩
  replace HSa := Lib.hid (HSa.out.keep (keeps_of hb7))
  replace HSb := Lib.hid (HSb.out.keep (keeps_of hb7))
  replace HSx := Lib.hid (HSx.out.keep (keeps_of hb7))
  replace HSp := Lib.hid (HSp.out.keep (keeps_of hb7))
  replace HSq := Lib.hid (HSq.out.keep (keeps_of hb7))
  replace hB := Below.next hB hb7
  clear hb7
  clear HSp HRp
  clear HSq HRq
  go_wp2_with fail
  refine (or_any Aa Ab _ _ ca cb la lb _ HSa.out HSb.out).mono ?_
  rintro e w8 ⟨Ap, cp, rfl, hSp, hb8⟩
  have HSp := Lib.hid hSp
  clear hSp
  have HRp : Hid (Rep (combineL opU la lb).1 (fun v => (opU (inL la v) (inL lb v))) 14) := Lib.hid (HRa.out.op HRb.out rfl (by omega))
  generalize (combineL opU la lb).1 = lp at *
  replace HSa := Lib.hid (HSa.out.keep (keeps_of hb8))
  replace HSb := Lib.hid (HSb.out.keep (keeps_of hb8))
  replace HSx := Lib.hid (HSx.out.keep (keeps_of hb8))
  replace hB := Below.next hB hb8
  clear hb8
  go_wp2_with fail
  refine (or_any Ab Aa _ _ cb ca lb la _ HSb.out HSa.out).mono ?_
  rintro e w9 ⟨Aq, cq, rfl, hSq, hb9⟩
  have HSq := Lib.hid hSq
  clear hSq
  have HRq : Hid (Rep (combineL opU lb la).1 (fun v => (opU (inL lb v) (inL la v))) 14) := Lib.hid (HRb.out.op HRa.out rfl (by omega))
  generalize (combineL opU lb la).1 = lq at *
  replace HSa := Lib.hid (HSa.out.keep (keeps_of hb9))
  replace HSb := Lib.hid (HSb.out.keep (keeps_of hb9))
  replace HSx := Lib.hid (HSx.out.keep (keeps_of hb9))
  replace HSp := Lib.hid (HSp.out.keep (keeps_of hb9))
  replace hB := Below.next hB hb9
  clear hb9
  go_wp2_with fail
  refine (same_eq HSp.out HSq.out (HRp.out.len (by omega)) (HRp.out.ext HRq.out (fun v => by cases inL la v <;> cases inL lb v <;> cases inL lx v <;> rfl))).mono ?_
  rintro e w10 ⟨rfl, hb10⟩
  replace HSa := Lib.hid (HSa.out.keep (keeps_of hb10))
  replace HSb := Lib.hid (HSb.out.keep (keeps_of hb10))
  replace HSx := Lib.hid (HSx.out.keep (keeps_of hb10))
  replace HSp := Lib.hid (HSp.out.keep (keeps_of hb10))
  replace HSq := Lib.hid (HSq.out.keep (keeps_of hb10))
  replace hB := Below.next hB hb10
  clear hb10
  clear HSp HRp
  clear HSq HRq
  go_wp2_with fail
  refine (or_any Aa Ab _ _ ca cb la lb _ HSa.out HSb.out).mono ?_
  rintro e w11 ⟨Ap, cp, rfl, hSp, hb11⟩
  have HSp := Lib.hid hSp
  clear hSp
  have HRp : Hid (Rep (combineL opU la lb).1 (fun v => (opU (inL la v) (inL lb v))) 14) := Lib.hid (HRa.out.op HRb.out rfl (by omega))
  generalize (combineL opU la lb).1 = lp at *
  replace HSa := Lib.hid (HSa.out.keep (keeps_of hb11))
  replace HSb := Lib.hid (HSb.out.keep (keeps_of hb11))
  replace HSx := Lib.hid (HSx.out.keep (keeps_of hb11))
  replace hB := Below.next hB hb11
  clear hb11
  go_wp2_with fail
  refine (and_any Aa Ap _ _ ca cp la lp _ HSa.out HSp.out).mono ?_
  rintro e w12 ⟨Aq, cq, rfl, hSq, hb12⟩
  have HSq := Lib.hid hSq
  clear hSq
  have HRq : Hid (Rep (combineL opI la lp).1 (fun v => (opI (inL la v) (opU (inL la v) (inL lb v)))) 21) := Lib.hid (HRa.out.op HRp.out rfl (by omega))
  generalize (combineL opI la lp).1 = lq at *
  replace HSa := Lib.hid (HSa.out.keep (keeps_of hb12))
  replace HSb := Lib.hid (HSb.out.keep (keeps_of hb12))
  replace HSx := Lib.hid (HSx.out.keep (keeps_of hb12))
  replace HSp := Lib.hid (HSp.out.keep (keeps_of hb12))
  replace hB := Below.next hB hb12
  clear hb12
  go_wp2_with fail
  refine (same_eq HSq.out HSa.out (HRq.out.len (by omega)) (HRq.out.ext HRa.out (fun v => by cases inL la v <;> cases inL lb v <;> cases inL lx v <;> rfl))).mono ?_
  rintro e w13 ⟨rfl, hb13⟩
  replace HSa := Lib.hid (HSa.out.keep (keeps_of hb13))
  replace HSb := Lib.hid (HSb.out.keep (keeps_of hb13))
  replace HSx := Lib.hid (HSx.out.keep (keeps_of hb13))
  replace HSp := Lib.hid (HSp.out.keep (keeps_of hb13))
  replace HSq := Lib.hid (HSq.out.keep (keeps_of hb13))
  replace hB := Below.next hB hb13
  clear hb13
  clear HSp HRp
  clear HSq HRq
  go_wp2_with fail
  refine (or_any Ab Ax _ _ cb cx lb lx _ HSb.out HSx.out).mono ?_
  rintro e w14 ⟨Ap, cp, rfl, hSp, hb14⟩
  have HSp := Lib.hid hSp
  clear hSp
  have HRp : Hid (Rep (combineL opU lb lx).1 (fun v => (opU (inL lb v) (inL lx v))) 14) := Lib.hid (HRb.out.op HRx.out rfl (by omega))
  generalize (combineL opU lb lx).1 = lp at *
  replace HSa := Lib.hid (HSa.out.keep (keeps_of hb14))
  replace HSb := Lib.hid (HSb.out.keep (keeps_of hb14))
  replace HSx := Lib.hid (HSx.out.keep (keeps_of hb14))
  replace hB := Below.next hB hb14
  clear hb14
  go_wp2_with fail
  refine (and_any Aa Ap _ _ ca cp la lp _ HSa.out HSp.out).mono ?_
  rintro e w15 ⟨Aq, cq, rfl, hSq, hb15⟩
  have HSq := Lib.hid hSq
  clear hSq
  have HRq : Hid (Rep (combineL opI la lp).1 (fun v => (opI (inL la v) (opU (inL lb v) (inL lx v)))) 21) := Lib.hid (HRa.out.op HRp.out rfl (by omega))
  generalize (combineL opI la lp).1 = lq at *
  replace HSa := Lib.hid (HSa.out.keep (keeps_of hb15))
  replace HSb := Lib.hid (HSb.out.keep (keeps_of hb15))
  replace HSx := Lib.hid (HSx.out.keep (keeps_of hb15))
  replace HSp := Lib.hid (HSp.out.keep (keeps_of hb15))
  replace hB := Below.next hB hb15
  clear hb15
  go_wp2_with fail
  refine (and_any Aa Ab _ _ ca cb la lb _ HSa.out HSb.out).mono ?_
  rintro e w16 ⟨Ar, cr, rfl, hSr, hb16⟩
  have HSr := Lib.hid hSr
  clear hSr
  have HRr : Hid (Rep (combineL opI la lb).1 (fun v => (opI (inL la v) (inL lb v))) 14) := Lib.hid (HRa.out.op HRb.out rfl (by omega))
  generalize (combineL opI la lb).1 = lr at *
  replace HSa := Lib.hid (HSa.out.keep (keeps_of hb16))
  replace HSb := Lib.hid (HSb.out.keep (keeps_of hb16))
  replace HSx := Lib.hid (HSx.out.keep (keeps_of hb16))
  replace HSp := Lib.hid (HSp.out.keep (keeps_of hb16))
  replace HSq := Lib.hid (HSq.out.keep (keeps_of hb16))
  replace hB := Below.next hB hb16
  clear hb16
  go_wp2_with fail
  refine (and_any Aa Ax _ _ ca cx la lx _ HSa.out HSx.out).mono ?_
  rintro e w17 ⟨As, cs, rfl, hSs, hb17⟩
  have HSs := Lib.hid hSs
  clear hSs
  have HRs : Hid (Rep (combineL opI la lx).1 (fun v => (opI (inL la v) (inL lx v))) 14) := Lib.hid (HRa.out.op HRx.out rfl (by omega))
  generalize (combineL opI la lx).1 = ls at *
  replace HSa := Lib.hid (HSa.out.keep (keeps_of hb17))
  replace HSb := Lib.hid (HSb.out.keep (keeps_of hb17))
  replace HSx := Lib.hid (HSx.out.keep (keeps_of hb17))
  replace HSp := Lib.hid (HSp.out.keep (keeps_of hb17))
  replace HSq := Lib.hid (HSq.out.keep (keeps_of hb17))
  replace HSr := Lib.hid (HSr.out.keep (keeps_of hb17))
  replace hB := Below.next hB hb17
  clear hb17
  go_wp2_with fail
  refine (or_any Ar As _ _ cr cs lr ls _ HSr.out HSs.out).mono ?_
  rintro e w18 ⟨At, ct, rfl, hSt, hb18⟩
  have HSt := Lib.hid hSt
  clear hSt
  have HRt : Hid (Rep (combineL opU lr ls).1 (fun v => (opU (opI (inL la v) (inL lb v)) (opI (inL la v) (inL lx v)))) 28) := Lib.hid (HRr.out.op HRs.out rfl (by omega))
  generalize (combineL opU lr ls).1 = lt at *
  replace HSa := Lib.hid (HSa.out.keep (keeps_of hb18))
  replace HSb := Lib.hid (HSb.out.keep (keeps_of hb18))
  replace HSx := Lib.hid (HSx.out.keep (keeps_of hb18))
  replace HSp := Lib.hid (HSp.out.keep (keeps_of hb18))
  replace HSq := Lib.hid (HSq.out.keep (keeps_of hb18))
  replace HSr := Lib.hid (HSr.out.keep (keeps_of hb18))
  replace HSs := Lib.hid (HSs.out.keep (keeps_of hb18))
  replace hB := Below.next hB hb18
  clear hb18
  go_wp2_with fail
  refine (same_eq HSq.out HSt.out (HRq.out.len (by omega)) (HRq.out.ext HRt.out (fun v => by cases inL la v <;> cases inL lb v <;> cases inL lx v <;> rfl))).mono ?_
  rintro e w19 ⟨rfl, hb19⟩
  replace HSa := Lib.hid (HSa.out.keep (keeps_of hb19))
  replace HSb := Lib.hid (HSb.out.keep (keeps_of hb19))
  replace HSx := Lib.hid (HSx.out.keep (keeps_of hb19))
  replace HSp := Lib.hid (HSp.out.keep (keeps_of hb19))
  replace HSq := Lib.hid (HSq.out.keep (keeps_of hb19))
  replace HSr := Lib.hid (HSr.out.keep (keeps_of hb19))
  replace HSs := Lib.hid (HSs.out.keep (keeps_of hb19))
  replace HSt := Lib.hid (HSt.out.keep (keeps_of hb19))
  replace hB := Below.next hB hb19
  clear hb19
  clear HSp HRp
  clear HSq HRq
  clear HSr HRr
  clear HSs HRs
  clear HSt HRt
  go_wp2_with fail
  refine (or_any Aa Ab _ _ ca cb la lb _ HSa.out HSb.out).mono ?_
  rintro e w20 ⟨Ap, cp, rfl, hSp, hb20⟩
  have HSp := Lib.hid hSp
  clear hSp
  have HRp : Hid (Rep (combineL opU la lb).1 (fun v => (opU (inL la v) (inL lb v))) 14) := Lib.hid (HRa.out.op HRb.out rfl (by omega))
  generalize (combineL opU la lb).1 = lp at *
  replace HSa := Lib.hid (HSa.out.keep (keeps_of hb20))
  replace HSb := Lib.hid (HSb.out.keep (keeps_of hb20))
  replace HSx := Lib.hid (HSx.out.keep (keeps_of hb20))
  replace hB := Below.next hB hb20
  clear hb20
  go_wp2_with fail
  refine (not_any Ap _ cp lp _ HSp.out).mono ?_
  rintro e w21 ⟨Aq, cq, rfl, hSq, hb21⟩
  have HSq := Lib.hid hSq
  clear hSq
  have HRq : Hid (Rep (combineL opM allL lp).1 (fun v => (opM true (opU (inL la v) (inL lb v)))) 15) := Lib.hid (Rep.all.op HRp.out rfl (by omega))
  generalize (combineL opM allL lp).1 = lq at *
  replace HSa := Lib.hid (HSa.out.keep (keeps_of hb21))
  replace HSb := Lib.hid (HSb.out.keep (keeps_of hb21))
  replace HSx := Lib.hid (HSx.out.keep (keeps_of hb21))
  replace HSp := Lib.hid (HSp.out.keep (keeps_of hb21))
  replace hB := Below.next hB hb21
  clear hb21
  go_wp2_with fail
  refine (not_any Aa _ ca la _ HSa.out).mono ?_
  rintro e w22 ⟨Ar, cr, rfl, hSr, hb22⟩
  have HSr := Lib.hid hSr
  clear hSr
  have HRr : Hid (Rep (combineL opM allL la).1 (fun v => (opM true (inL la v))) 8) := Lib.hid (Rep.all.op HRa.out rfl (by omega))
  generalize (combineL opM allL la).1 = lr at *
  replace HSa := Lib.hid (HSa.out.keep (keeps_of hb22))
  replace HSb := Lib.hid (HSb.out.keep (keeps_of hb22))
  replace HSx := Lib.hid (HSx.out.keep (keeps_of hb22))
  replace HSp := Lib.hid (HSp.out.keep (keeps_of hb22))
  replace HSq := Lib.hid (HSq.out.keep (keeps_of hb22))
  replace hB := Below.next hB hb22
  clear hb22
  go_wp2_with fail
  refine (not_any Ab _ cb lb _ HSb.out).mono ?_
  rintro e w23 ⟨As, cs, rfl, hSs, hb23⟩
  have HSs := Lib.hid hSs
  clear hSs
  have HRs : Hid (Rep (combineL opM allL lb).1 (fun v => (opM true (inL lb v))) 8) := Lib.hid (Rep.all.op HRb.out rfl (by omega))
  generalize (combineL opM allL lb).1 = ls at *
  replace HSa := Lib.hid (HSa.out.keep (keeps_of hb23))
  replace HSb := Lib.hid (HSb.out.keep (keeps_of hb23))
  replace HSx := Lib.hid (HSx.out.keep (keeps_of hb23))
  replace HSp := Lib.hid (HSp.out.keep (keeps_of hb23))
  replace HSq := Lib.hid (HSq.out.keep (keeps_of hb23))
  replace HSr := Lib.hid (HSr.out.keep (keeps_of hb23))
  replace hB := Below.next hB hb23
  clear hb23
  go_wp2_with fail
  refine (and_any Ar As _ _ cr cs lr ls _ HSr.out HSs.out).mono ?_
  rintro e w24 ⟨At, ct, rfl, hSt, hb24⟩
  have HSt := Lib.hid hSt
  clear hSt
  have HRt : Hid (Rep (combineL opI lr ls).1 (fun v => (opI (opM true (inL la v)) (opM true (inL lb v)))) 16) := Lib.hid (HRr.out.op HRs.out rfl (by omega))
  generalize (combineL opI lr ls).1 = lt at *
  replace HSa := Lib.hid (HSa.out.keep (keeps_of hb24))
  replace HSb := Lib.hid (HSb.out.keep (keeps_of hb24))
  replace HSx := Lib.hid (HSx.out.keep (keeps_of hb24))
  replace HSp := Lib.hid (HSp.out.keep (keeps_of hb24))
  replace HSq := Lib.hid (HSq.out.keep (keeps_of hb24))
  replace HSr := Lib.hid (HSr.out.keep (keeps_of hb24))
  replace HSs := Lib.hid (HSs.out.keep (keeps_of hb24))
  replace hB := Below.next hB hb24
  clear hb24
  go_wp2_with fail
  refine (same_eq HSq.out HSt.out (HRq.out.len (by omega)) (HRq.out.ext HRt.out (fun v => by cases inL la v <;> cases inL lb v <;> cases inL lx v <;> rfl))).mono ?_
  rintro e w25 ⟨rfl, hb25⟩
  replace HSa := Lib.hid (HSa.out.keep (keeps_of hb25))
  replace HSb := Lib.hid (HSb.out.keep (keeps_of hb25))
  replace HSx := Lib.hid (HSx.out.keep (keeps_of hb25))
  replace HSp := Lib.hid (HSp.out.keep (keeps_of hb25))
  replace HSq := Lib.hid (HSq.out.keep (keeps_of hb25))
  replace HSr := Lib.hid (HSr.out.keep (keeps_of hb25))
  replace HSs := Lib.hid (HSs.out.keep (keeps_of hb25))
  replace HSt := Lib.hid (HSt.out.keep (keeps_of hb25))
  replace hB := Below.next hB hb25
  clear hb25
  clear HSp HRp
  clear HSq HRq
  clear HSr HRr
  clear HSs HRs
  clear HSt HRt
  go_wp2_with fail
  refine (not_any Aa _ ca la _ HSa.out).mono ?_
  rintro e w26 ⟨Ap, cp, rfl, hSp, hb26⟩
  have HSp := Lib.hid hSp
  clear hSp
  have HRp : Hid (Rep (combineL opM allL la).1 (fun v => (opM true (inL la v))) 8) := Lib.hid (Rep.all.op HRa.out rfl (by omega))
  generalize (combineL opM allL la).1 = lp at *
  replace HSa := Lib.hid (HSa.out.keep (keeps_of hb26))
  replace HSb := Lib.hid (HSb.out.keep (keeps_of hb26))
  replace HSx := Lib.hid (HSx.out.keep (keeps_of hb26))
  replace hB := Below.next hB hb26
  clear hb26
  go_wp2_with fail
  refine (or_any Aa Ap _ _ ca cp la lp _ HSa.out HSp.out).mono ?_
  rintro e w27 ⟨Aq, cq, rfl, hSq, hb27⟩
  have HSq := Lib.hid hSq
  clear hSq
  have HRq : Hid (Rep (combineL opU la lp).1 (fun v => (opU (inL la v) (opM true (inL la v)))) 15) := Lib.hid (HRa.out.op HRp.out rfl (by omega))
  generalize (combineL opU la lp).1 = lq at *
  replace HSa := Lib.hid (HSa.out.keep (keeps_of hb27))
  replace HSb := Lib.hid (HSb.out.keep (keeps_of hb27))
  replace HSx := Lib.hid (HSx.out.keep (keeps_of hb27))
  replace HSp := Lib.hid (HSp.out.keep (keeps_of hb27))
  replace hB := Below.next hB hb27
  clear hb27
  go_wp2_with fail
  refine (all_any _).mono ?_
  rintro e w28 ⟨At, ct, rfl, hSt, hb28⟩
  have HSt := Lib.hid hSt
  clear hSt
  have HRt := Lib.hid Rep.all
  replace HSa := Lib.hid (HSa.out.keep (keeps_of hb28))
  replace HSb := Lib.hid (HSb.out.keep (keeps_of hb28))
  replace HSx := Lib.hid (HSx.out.keep (keeps_of hb28))
  replace HSp := Lib.hid (HSp.out.keep (keeps_of hb28))
  replace HSq := Lib.hid (HSq.out.keep (keeps_of hb28))
  replace hB := Below.next hB hb28
  clear hb28
  go_wp2_with fail
  refine (same_eq HSq.out HSt.out (HRq.out.len (by omega)) (HRq.out.ext HRt.out (fun v => by cases inL la v <;> cases inL lb v <;> cases inL lx v <;> rfl))).mono ?_
  rintro e w29 ⟨rfl, hb29⟩
  replace HSa := Lib.hid (HSa.out.keep (keeps_of hb29))
  replace HSb := Lib.hid (HSb.out.keep (keeps_of hb29))
  replace HSx := Lib.hid (HSx.out.keep (keeps_of hb29))
  replace HSp := Lib.hid (HSp.out.keep (keeps_of hb29))
  replace HSq := Lib.hid (HSq.out.keep (keeps_of hb29))
  replace HSt := Lib.hid (HSt.out.keep (keeps_of hb29))
  replace hB := Below.next hB hb29
  clear hb29
  clear HSp HRp
  clear HSq HRq
  clear HSt HRt
  go_wp2_with fail
  refine (not_any Aa _ ca la _ HSa.out).mono ?_
  rintro e w30 ⟨Ap, cp, rfl, hSp, hb30⟩
  have HSp := Lib.hid hSp
  clear hSp
  have HRp : Hid (Rep (combineL opM allL la).1 (fun v => (opM true (inL la v))) 8) := Lib.hid (Rep.all.op HRa.out rfl (by omega))
  generalize (combineL opM allL la).1 = lp at *
  replace HSa := Lib.hid (HSa.out.keep (keeps_of hb30))
  replace HSb := Lib.hid (HSb.out.keep (keeps_of hb30))
  replace HSx := Lib.hid (HSx.out.keep (keeps_of hb30))
  replace hB := Below.next hB hb30
  clear hb30
  go_wp2_with fail
  refine (and_any Aa Ap _ _ ca cp la lp _ HSa.out HSp.out).mono ?_
  rintro e w31 ⟨Aq, cq, rfl, hSq, hb31⟩
  have HSq := Lib.hid hSq
  clear hSq
  have HRq : Hid (Rep (combineL opI la lp).1 (fun v => (opI (inL la v) (opM true (inL la v)))) 15) := Lib.hid (HRa.out.op HRp.out rfl (by omega))
  generalize (combineL opI la lp).1 = lq at *
  replace HSa := Lib.hid (HSa.out.keep (keeps_of hb31))
  replace HSb := Lib.hid (HSb.out.keep (keeps_of hb31))
  replace HSx := Lib.hid (HSx.out.keep (keeps_of hb31))
  replace HSp := Lib.hid (HSp.out.keep (keeps_of hb31))
  replace hB := Below.next hB hb31
  clear hb31
  have hem : lq = [] := HRq.out.empty (fun v => by cases inL la v <;> rfl)
  subst hem
  clear HSp HRp HSq HRq
  go_wp2_with fail
  refine (or_any Ab Ax _ _ cb cx lb lx _ HSb.out HSx.out).mono ?_
  rintro e w32 ⟨Ap, cp, rfl, hSp, hb32⟩
  have HSp := Lib.hid hSp
  clear hSp
  have HRp : Hid (Rep (combineL opU lb lx).1 (fun v => (opU (inL lb v) (inL lx v))) 14) := Lib.hid (HRb.out.op HRx.out rfl (by omega))
  generalize (combineL opU lb lx).1 = lp at *
  replace HSa := Lib.hid (HSa.out.keep (keeps_of hb32))
  replace HSb := Lib.hid (HSb.out.keep (keeps_of hb32))
  replace HSx := Lib.hid (HSx.out.keep (keeps_of hb32))
  replace hB := Below.next hB hb32
  clear hb32
  go_wp2_with fail
  refine (or_any Aa Ap _ _ ca cp la lp _ HSa.out HSp.out).mono ?_
  rintro e w33 ⟨Aq, cq, rfl, hSq, hb33⟩
  have HSq := Lib.hid hSq
  clear hSq
  have HRq : Hid (Rep (combineL opU la lp).1 (fun v => (opU (inL la v) (opU (inL lb v) (inL lx v)))) 21) := Lib.hid (HRa.out.op HRp.out rfl (by omega))
  generalize (combineL opU la lp).1 = lq at *
  replace HSa := Lib.hid (HSa.out.keep (keeps_of hb33))
  replace HSb := Lib.hid (HSb.out.keep (keeps_of hb33))
  replace HSx := Lib.hid (HSx.out.keep (keeps_of hb33))
  replace HSp := Lib.hid (HSp.out.keep (keeps_of hb33))
  replace hB := Below.next hB hb33
  clear hb33
  go_wp2_with fail
  refine (or_any Aa Ab _ _ ca cb la lb _ HSa.out HSb.out).mono ?_
  rintro e w34 ⟨Ar, cr, rfl, hSr, hb34⟩
  have HSr := Lib.hid hSr
  clear hSr
  have HRr : Hid (Rep (combineL opU la lb).1 (fun v => (opU (inL la v) (inL lb v))) 14) := Lib.hid (HRa.out.op HRb.out rfl (by omega))
  generalize (combineL opU la lb).1 = lr at *
  replace HSa := Lib.hid (HSa.out.keep (keeps_of hb34))
  replace HSb := Lib.hid (HSb.out.keep (keeps_of hb34))
  replace HSx := Lib.hid (HSx.out.keep (keeps_of hb34))
  replace HSp := Lib.hid (HSp.out.keep (keeps_of hb34))
  replace HSq := Lib.hid (HSq.out.keep (keeps_of hb34))
  replace hB := Below.next hB hb34
  clear hb34
  go_wp2_with fail
  refine (or_any Ar Ax _ _ cr cx lr lx _ HSr.out HSx.out).mono ?_
  rintro e w35 ⟨As, cs, rfl, hSs, hb35⟩
  have HSs := Lib.hid hSs
  clear hSs
  have HRs : Hid (Rep (combineL opU lr lx).1 (fun v => (opU (opU (inL la v) (inL lb v)) (inL lx v))) 21) := Lib.hid (HRr.out.op HRx.out rfl (by omega))
  generalize (combineL opU lr lx).1 = ls at *
  replace HSa := Lib.hid (HSa.out.keep (keeps_of hb35))
  replace HSb := Lib.hid (HSb.out.keep (keeps_of hb35))
  replace HSx := Lib.hid (HSx.out.keep (keeps_of hb35))
  replace HSp := Lib.hid (HSp.out.keep (keeps_of hb35))
  replace HSq := Lib.hid (HSq.out.keep (keeps_of hb35))
  replace HSr := Lib.hid (HSr.out.keep (keeps_of hb35))
  replace hB := Below.next hB hb35
  clear hb35
  go_wp2_with fail
  refine (same_eq HSq.out HSs.out (HRq.out.len (by omega)) (HRq.out.ext HRs.out (fun v => by cases inL la v <;> cases inL lb v <;> cases inL lx v <;> rfl))).mono ?_
  rintro e w36 ⟨rfl, hb36⟩
  replace HSa := Lib.hid (HSa.out.keep (keeps_of hb36))
  replace HSb := Lib.hid (HSb.out.keep (keeps_of hb36))
  replace HSx := Lib.hid (HSx.out.keep (keeps_of hb36))
  replace HSp := Lib.hid (HSp.out.keep (keeps_of hb36))
  replace HSq := Lib.hid (HSq.out.keep (keeps_of hb36))
  replace HSr := Lib.hid (HSr.out.keep (keeps_of hb36))
  replace HSs := Lib.hid (HSs.out.keep (keeps_of hb36))
  replace hB := Below.next hB hb36
  clear hb36
  clear HSp HRp
  clear HSq HRq
  clear HSr HRr
  clear HSs HRs
  go_wp2
  go_ret
  exact ⟨rfl, hB⟩
end Go.Proofs.Ytjlbnbljimmbeaa
