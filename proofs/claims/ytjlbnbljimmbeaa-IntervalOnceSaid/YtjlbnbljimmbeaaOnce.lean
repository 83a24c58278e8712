import Derived.Test.YtjlbnbljimmbeaaRep
namespace Go.Proofs.Ytjlbnbljimmbeaa
open Go.RowKit

set_option maxRecDepth 100000 in
set_option maxHeartbeats 8000000 in
theorem once_walk (A : Option Addr) (n c : Nat) (zs : List Int) (w : World) (hs : Sl 1 u8c w A n zs) (hz : ∀ z ∈ zs, 0 ≤ z ∧ z ≤ 255) (hnil : A = none → n = 0 ∧ c = 0) (hsp : ∀ ad, A = some ad → ad.spot = none) (hnc : n ≤ c) (hcm : c ≤ 9223372036854775807) :
    Calls Try.prog 6 #[.slice A n c] w fun e w' => e = .returned (.bool true) ∧ Below w.heap.size w w' := by
  have HS := Lib.hid hs
  have HZ := Lib.hid hz
  have HN := Lib.hid hnil
  have HP := Lib.hid hsp
  clear hs hz hnil hsp
  go_enter Try.func6, Try.ntmps6
  go_wp2_with fail
  refine (new_any A n c zs 120 _ HS.out HZ.out HN.out HP.out hnc hcm (by omega)).mono ?_
  rintro e w0 ⟨g, hg, rfl, hc, hB⟩
  clear HS HZ HN HP
  go_wp2_with fail
  refine (cinterval_any g _ hc).mono ?_
  rintro e w1 ⟨la, Aa, ca, hGa, rfl, hSa, hNa, hPa, hc1, hb1⟩
  have HSa := Lib.hid hSa
  have HRa := Lib.hid hGa.rep
  clear hSa hGa hNa hPa
  replace hB := hb1.below hB hB.size (fun k hk => by subst hk; exact hg)
  replace hc := hc1
  clear hb1
  go_wp2_with fail
  refine (cinterval_any g _ hc).mono ?_
  rintro e w2 ⟨lb, Ab, cb, hGb, rfl, hSb, hNb, hPb, hc2, hb2⟩
  have HSb := Lib.hid hSb
  have HRb := Lib.hid hGb.rep
  clear hSb hGb hNb hPb
  replace HSa := Lib.hid (HSa.out.but hb2 (iv_ne hc HSa.out))
  replace hB := hb2.below hB hB.size (fun k hk => by subst hk; exact hg)
  replace hc := hc2
  clear hb2
  clear hc
  go_wp2_with fail
  refine (covers_any Aa Ab _ _ ca cb la lb _ HSa.out HSb.out).mono ?_
  rintro e w3 ⟨rfl, hb3⟩
  rw [covers_good HRa.out.good HRb.out.good (by omega) (by omega)]
  dsimp only
  replace HSa := Lib.hid (HSa.out.keep (keeps_of hb3))
  replace HSb := Lib.hid (HSb.out.keep (keeps_of hb3))
  replace hB := Below.next hB hb3
  clear hb3
  go_wp2_with fail
  refine (covers_any Ab Aa _ _ cb ca lb la _ HSb.out HSa.out).mono ?_
  rintro e w4 ⟨rfl, hb4⟩
  rw [covers_good HRb.out.good HRa.out.good (by omega) (by omega)]
  dsimp only
  replace HSa := Lib.hid (HSa.out.keep (keeps_of hb4))
  replace HSb := Lib.hid (HSb.out.keep (keeps_of hb4))
  replace hB := Below.next hB hb4
  clear hb4
  obtain ⟨u1, HU1⟩ : ∃ u, Hid ((mergeL opM lb la).isEmpty = u) := ⟨_, rfl⟩
  obtain ⟨u2, HU2⟩ : ∃ u, Hid ((mergeL opM la lb).isEmpty = u) := ⟨_, rfl⟩
  rw [HU1.out, HU2.out]
  have HUU : Hid ((u1 && u2) = decide (la = lb)) := by have h := covers_both HRa.out.good HRb.out.good; rw [HU1.out, HU2.out] at h; exact Lib.hid h
  clear HU1 HU2
  go_wp2_with fail
  refine (minus_any Aa Ab _ _ ca cb la lb _ HSa.out HSb.out).mono ?_
  rintro e w5 ⟨Ax, cx, rfl, hSx, hb5⟩
  have HSx := Lib.hid hSx
  clear hSx
  have HRx : Hid (Rep (combineL opM la lb).1 (fun v => (opM (inL la v) (inL lb v))) 14) := Lib.hid (HRa.out.op HRb.out rfl (by omega))
  have hEx := HRa.out.err (o := opM) HRb.out rfl (by omega)
  rw [hEx]
  clear hEx
  generalize (combineL opM la lb).1 = lx at *
  replace HSa := Lib.hid (HSa.out.keep (keeps_of hb5))
  replace HSb := Lib.hid (HSb.out.keep (keeps_of hb5))
  replace hB := Below.next hB hb5
  clear hb5
  go_wp2_with fail
  refine (intersect_any Aa Ab _ _ ca cb la lb _ HSa.out HSb.out).mono ?_
  rintro e w6 ⟨Ay, cy, rfl, hSy, hb6⟩
  have HSy := Lib.hid hSy
  clear hSy
  have HRy : Hid (Rep (combineL opI la lb).1 (fun v => (opI (inL la v) (inL lb v))) 14) := Lib.hid (HRa.out.op HRb.out rfl (by omega))
  have hEy := HRa.out.err (o := opI) HRb.out rfl (by omega)
  rw [hEy]
  clear hEy
  generalize (combineL opI la lb).1 = ly at *
  replace HSa := Lib.hid (HSa.out.keep (keeps_of hb6))
  replace HSb := Lib.hid (HSb.out.keep (keeps_of hb6))
  replace HSx := Lib.hid (HSx.out.keep (keeps_of hb6))
  replace hB := Below.next hB hb6
  clear hb6
  go_wp2_with fail
  refine (union_any Ax Ay _ _ cx cy lx ly _ HSx.out HSy.out).mono ?_
  rintro e w7 ⟨Az, cz, rfl, hSz, hb7⟩
  have HSz := Lib.hid hSz
  clear hSz
  have HRz : Hid (Rep (combineL opU lx ly).1 (fun v => (opU (opM (inL la v) (inL lb v)) (opI (inL la v) (inL lb v)))) 28) := Lib.hid (HRx.out.op HRy.out rfl (by omega))
  have hEz := HRx.out.err (o := opU) HRy.out rfl (by omega)
  rw [hEz]
  clear hEz
  generalize (combineL opU lx ly).1 = lz at *
  replace HSa := Lib.hid (HSa.out.keep (keeps_of hb7))
  replace HSb := Lib.hid (HSb.out.keep (keeps_of hb7))
  replace HSx := Lib.hid (HSx.out.keep (keeps_of hb7))
  replace HSy := Lib.hid (HSy.out.keep (keeps_of hb7))
  replace hB := Below.next hB hb7
  clear hb7
  cases u1 <;> cases u2
  all_goals
    go_wp2_with fail
    refine (begun_any _).mono ?_
    rintro e w8 ⟨rfl, hb8⟩
    replace HSa := Lib.hid (HSa.out.keep (keeps_of hb8))
    replace HSb := Lib.hid (HSb.out.keep (keeps_of hb8))
    replace HSx := Lib.hid (HSx.out.keep (keeps_of hb8))
    replace HSy := Lib.hid (HSy.out.keep (keeps_of hb8))
    replace HSz := Lib.hid (HSz.out.keep (keeps_of hb8))
    replace hB := Below.next hB hb8
    clear hb8
    go_wp2_with fail
    refine (same_any Aa Ab _ _ ca cb la lb _ HSa.out HSb.out (by have := HRa.out.len (by omega); omega) (by have := HRb.out.len (by omega); omega)).mono ?_
    rintro e w9 ⟨rfl, hb9⟩
    rw [← HUU.out]
    clear HUU
    replace HSa := Lib.hid (HSa.out.keep (keeps_of hb9))
    replace HSb := Lib.hid (HSb.out.keep (keeps_of hb9))
    replace HSx := Lib.hid (HSx.out.keep (keeps_of hb9))
    replace HSy := Lib.hid (HSy.out.keep (keeps_of hb9))
    replace HSz := Lib.hid (HSz.out.keep (keeps_of hb9))
    replace hB := Below.next hB hb9
    clear hb9
    go_wp2_with fail
    refine (same_eq HSz.out HSa.out (HRz.out.len (by omega)) (HRz.out.ext HRa.out (fun v => by cases inL la v <;> cases inL lb v <;> rfl))).mono ?_
    rintro e w10 ⟨rfl, hb10⟩
    replace HSa := Lib.hid (HSa.out.keep (keeps_of hb10))
    replace HSb := Lib.hid (HSb.out.keep (keeps_of hb10))
    replace HSx := Lib.hid (HSx.out.keep (keeps_of hb10))
    replace HSy := Lib.hid (HSy.out.keep (keeps_of hb10))
    replace HSz := Lib.hid (HSz.out.keep (keeps_of hb10))
    replace hB := Below.next hB hb10
    clear hb10
    go_wp2
    go_ret
    exact ⟨rfl, hB⟩
end Go.Proofs.Ytjlbnbljimmbeaa
