import Derived.Test.YtemllddgefahfaaVBegun
namespace Go.Proofs.Ytemllddgefahfaa
open Go.RowKit

set_option maxHeartbeats 400000 in
theorem rfirst_any (k : Int) (w : World) : Calls Try.prog 23 #[.int .i64 k] w fun e w' =>
    e = .returned (.tuple #[.agg #[.int .i64 (firstV k).1.k, .int .i64 (firstV k).1.i, .string (firstV k).1.t], .bool (firstV k).2]) ∧ Below w.heap.size w w' := by
  generalize hf : firstV k = r
  have Hf := Lib.hid hf
  clear hf
  go_enter Try.func23, Try.ntmps23
  go_wp2
  all_goals
    first
      | (refine bodyPost_ret (v := .tuple #[.agg #[.int .i64 k, .int .i64 0, .string ⟨#[]⟩], .bool true]) ?_ rfl ⟨?_, ?_⟩; focus (simp [results, Try.results23, go_sem]; done))
      | (refine bodyPost_ret (v := .tuple #[.agg #[.int .i64 k, .int .i64 minI, .string ⟨#[]⟩], .bool true]) ?_ rfl ⟨?_, ?_⟩; focus (simp [results, Try.results23, go_sem, minI]; done))
      | (refine bodyPost_ret (v := .tuple #[.agg #[.int .i64 0, .int .i64 0, .string ⟨#[]⟩], .bool false]) ?_ rfl ⟨?_, ?_⟩; focus (simp [results, Try.results23, go_sem]; done))
    · rw [← Hf.out]
      simp_all [firstV, zeroV]
    · repeat (first | exact Below.refl _ _ | apply Below.drew | refine Below.setCell ?_ (by simp) _ | refine Below.alloc ?_ (by simp) _)
def ffs (k : Nat) : ByteArray := ⟨(List.replicate k (255 : UInt8)).toArray⟩
theorem ffs_succ (k : Nat) : ffs k ++ ⟨#[255]⟩ = ffs (k + 1) := by
  unfold ffs
  apply ByteArray.ext
  rw [ByteArray.data_append]
  apply Array.ext'
  rw [Array.toList_append, List.replicate_succ']
theorem ffs_size (k : Nat) : (ffs k).size = k := by
  show (List.replicate k (255 : UInt8)).toArray.size = k
  simp
theorem fst_a : nextV ⟨2, 0, ⟨#[]⟩⟩ = (⟨3, 0, ⟨#[]⟩⟩, true) := by decide +kernel
theorem fst_b : nextV ⟨3, 1, ⟨#[]⟩⟩ = (⟨4, -9223372036854775808, ⟨#[]⟩⟩, true) := by decide +kernel
theorem fst_d : nextV ⟨4, 9223372036854775807, ⟨#[]⟩⟩ = (⟨5, 0, ⟨#[]⟩⟩, true) := by decide +kernel
theorem fst_z : nextV ⟨5, 0, ffs 64⟩ = (⟨0, 0, ⟨#[]⟩⟩, false) := by decide +kernel
theorem fst_c1 {n : Int} (h : -9223372036854775808 ≤ n) : cmpV ⟨4, -9223372036854775808, ⟨#[]⟩⟩ ⟨4, n, ⟨#[]⟩⟩ ≤ 0 := by
  rcases Int.lt_or_le (-9223372036854775808) n with h1 | h1
  · rw [cmpV_num (a := ⟨4, -9223372036854775808, ⟨#[]⟩⟩) (b := ⟨4, n, ⟨#[]⟩⟩) rfl h1]; omega
  · rw [cmpV_text (a := ⟨4, -9223372036854775808, ⟨#[]⟩⟩) (b := ⟨4, n, ⟨#[]⟩⟩) rfl (by simp only; omega)]; exact nil_le _
theorem fst_c2 (n : Int) : cmpV ⟨4, n, ⟨#[]⟩⟩ ⟨5, 0, ⟨#[]⟩⟩ = -1 := cmpV_kind (by simp)
set_option maxRecDepth 100000 in
set_option maxHeartbeats 4000000 in
theorem firsts_walk (kd n : Int) (w : World) (hn : -9223372036854775808 ≤ n) :
    Calls Try.prog 6 #[.int .i64 kd, .int .i64 n] w fun e w' => e = .returned (.bool true) ∧ Below w.heap.size w w' := by
  go_enter Try.func6, Try.ntmps6
  have hU := Below.refl w.heap.size w
  obtain ⟨⟨⟨fk, fi, ft⟩, fo⟩, Hf⟩ : ∃ r, Hid (firstV kd = r) := ⟨_, rfl⟩
  go_wp2_with fail
  refine (first_any kd _).mono ?_
  rintro e w1 ⟨rfl, hb⟩
  rw [Hf.out]
  dsimp only
  replace hU := Below.next hU hb
  clear hb
  have hV := Blk.new w1 24 #[.int .i64 fk, .int .i64 fi, .string ft]
  have hA := (Below.refl w1.heap.size w1).alloc (Nat.le_refl _) (.cells #[.int .i64 fk, .int .i64 fi, .string ft] 24)
  replace hU := Below.next hU hA
  clear hA
  go_wp2_with fail
  generalize (w1.alloc (.cells #[.int .i64 fk, .int .i64 fi, .string ft] 24)) = W1 at *
  generalize w1.heap.size = z1 at *
  refine (rfirst_any kd _).mono ?_
  rintro e w2 ⟨rfl, hb⟩
  rw [Hf.out]
  dsimp only
  clear Hf
  replace hV := hV.below hb
  replace hU := Below.next hU hb
  clear hb
  have hW := Blk.new w2 24 #[.int .i64 fk, .int .i64 fi, .string ft]
  have hA := (Below.refl w2.heap.size w2).alloc (Nat.le_refl _) (.cells #[.int .i64 fk, .int .i64 fi, .string ft] 24)
  replace hV := hV.below hA
  replace hU := Below.next hU hA
  clear hA
  go_wp2_with fail
  generalize (w2.alloc (.cells #[.int .i64 fk, .int .i64 fi, .string ft] 24)) = W2 at *
  generalize w2.heap.size = z2 at *
  go_loop [9, 10] (fun t i => ∃ k : Nat, k ≤ 64 ∧ i = .int .i64 (k : Int) ∧ t = .string (ffs k)) (fun _ i => 64 - (intOf i).toNat)
  case atStart => exact ⟨0, by omega, rfl, rfl⟩
  case round =>
    obtain ⟨k, hk, rfl, rfl⟩ := hrel
    by_cases hlt : k < 64
    · have Hff := Lib.hid (ffs_succ k)
      have hsz : (ffs k).size ≤ 64 := by rw [ffs_size]; omega
      generalize ffs k = fk0 at *
      go_wp2
      go_round
      case rel => exact ⟨k + 1, by omega, by go_num, by rw [← Hff.out]⟩
      case measure => simp [intOf]; omega
    · obtain rfl : k = 64 := by omega
      have HZ := Lib.hid fst_z
      generalize ffs 64 = ff at *
      go_wp2_with fail
      refine (next_any ⟨2, 0, ⟨#[]⟩⟩ _).mono ?_
      rintro e w3 ⟨rfl, hb⟩
      rw [fst_a]
      dsimp only
      replace hV := hV.below hb
      replace hW := hW.below hb
      replace hU := Below.next hU hb
      clear hb
      have hNa := Blk.new w3 24 #[.int .i64 3, .int .i64 0, .string ⟨#[]⟩]
      have hA := (Below.refl w3.heap.size w3).alloc (Nat.le_refl _) (.cells #[.int .i64 3, .int .i64 0, .string ⟨#[]⟩] 24)
      replace hV := hV.below hA
      replace hW := hW.below hA
      replace hU := Below.next hU hA
      clear hA
      go_wp2_with fail
      generalize (w3.alloc (.cells #[.int .i64 3, .int .i64 0, .string ⟨#[]⟩] 24)) = W3 at *
      generalize w3.heap.size = z3 at *
      refine (next_any ⟨3, 1, ⟨#[]⟩⟩ _).mono ?_
      rintro e w4 ⟨rfl, hb⟩
      rw [fst_b]
      dsimp only
      replace hV := hV.below hb
      replace hW := hW.below hb
      replace hNa := hNa.below hb
      replace hU := Below.next hU hb
      clear hb
      have hNb := Blk.new w4 24 #[.int .i64 4, .int .i64 (-9223372036854775808), .string ⟨#[]⟩]
      have hA := (Below.refl w4.heap.size w4).alloc (Nat.le_refl _) (.cells #[.int .i64 4, .int .i64 (-9223372036854775808), .string ⟨#[]⟩] 24)
      replace hV := hV.below hA
      replace hW := hW.below hA
      replace hNa := hNa.below hA
      replace hU := Below.next hU hA
      clear hA
      go_wp2_with fail
      generalize (w4.alloc (.cells #[.int .i64 4, .int .i64 (-9223372036854775808), .string ⟨#[]⟩] 24)) = W4 at *
      generalize w4.heap.size = z4 at *
      refine (next_any ⟨4, 9223372036854775807, ⟨#[]⟩⟩ _).mono ?_
      rintro e w5 ⟨rfl, hb⟩
      rw [fst_d]
      dsimp only
      replace hV := hV.below hb
      replace hW := hW.below hb
      replace hNa := hNa.below hb
      replace hNb := hNb.below hb
      replace hU := Below.next hU hb
      clear hb
      have hNd := Blk.new w5 24 #[.int .i64 5, .int .i64 0, .string ⟨#[]⟩]
      have hA := (Below.refl w5.heap.size w5).alloc (Nat.le_refl _) (.cells #[.int .i64 5, .int .i64 0, .string ⟨#[]⟩] 24)
      replace hV := hV.below hA
      replace hW := hW.below hA
      replace hNa := hNa.below hA
      replace hNb := hNb.below hA
      replace hU := Below.next hU hA
      clear hA
      go_wp2_with fail
      generalize (w5.alloc (.cells #[.int .i64 5, .int .i64 0, .string ⟨#[]⟩] 24)) = W5 at *
      generalize w5.heap.size = z5 at *
      refine (next_any ⟨5, 0, ff⟩ _).mono ?_
      rintro e w6 ⟨rfl, hb⟩
      rw [HZ.out]
      dsimp only
      replace hV := hV.below hb
      replace hW := hW.below hb
      replace hNa := hNa.below hb
      replace hNb := hNb.below hb
      replace hNd := hNd.below hb
      replace hU := Below.next hU hb
      clear hb
      have hA := ((Below.refl w6.heap.size w6).alloc (Nat.le_refl _) (.cells #[.int .i64 0, .int .i64 0, .string ⟨#[]⟩] 24)).alloc (by simp) (.cells #[.int .i64 4, .int .i64 n, .string ⟨#[]⟩] 24)
      have hNx := Blk.new (w6.alloc (.cells #[.int .i64 0, .int .i64 0, .string ⟨#[]⟩] 24)) 24 #[.int .i64 4, .int .i64 n, .string ⟨#[]⟩]
      rw [World.size_alloc] at hNx
      replace hV := hV.below hA
      replace hW := hW.below hA
      replace hNa := hNa.below hA
      replace hNb := hNb.below hA
      replace hNd := hNd.below hA
      replace hU := Below.next hU hA
      clear hA
      go_wp2_with fail
      generalize ((w6.alloc (.cells #[.int .i64 0, .int .i64 0, .string ⟨#[]⟩] 24)).alloc (.cells #[.int .i64 4, .int .i64 n, .string ⟨#[]⟩] 24)) = W6 at *
      generalize w6.heap.size = z6 at *
      refine (vbegun_any _).mono ?_
      rintro e w7 ⟨rfl, hb⟩
      replace hV := hV.below hb
      replace hW := hW.below hb
      replace hNa := hNa.below hb
      replace hNb := hNb.below hb
      replace hNd := hNd.below hb
      replace hNx := hNx.below hb
      replace hU := Below.next hU hb
      clear hb
      have hev := run_eqV fk fi fk fi ft ft
      have hev5 := run_eqV 5 0 5 0 ⟨#[]⟩ ⟨#[]⟩
      simp only [decide_true] at hev hev5
      have hoo : (fo == fo) = true := by simp
      have y1 := hV.cell
      have y2 := hW.cell
      have y3 := hNa.cell
      have y4 := hNb.cell
      have y5 := hNd.cell
      have y6 := hNx.cell
      go_wp2_with fail
      clear hev hev5 hoo y1 y2 y3 y4 y5 y6
      refine (compare_any ⟨4, -9223372036854775808, ⟨#[]⟩⟩ ⟨4, n, ⟨#[]⟩⟩ _).mono ?_
      rintro e w8 ⟨rfl, hb⟩
      have hc1 := fst_c1 hn
      generalize cmpV ⟨4, -9223372036854775808, ⟨#[]⟩⟩ ⟨4, n, ⟨#[]⟩⟩ = q1 at *
      replace hV := hV.below hb
      replace hW := hW.below hb
      replace hNa := hNa.below hb
      replace hNb := hNb.below hb
      replace hNd := hNd.below hb
      replace hNx := hNx.below hb
      replace hU := Below.next hU hb
      clear hb
      have y5 := hNd.cell
      have y6 := hNx.cell
      go_wp2_with fail
      clear y5 y6
      refine (compare_any ⟨4, n, ⟨#[]⟩⟩ ⟨5, 0, ⟨#[]⟩⟩ _).mono ?_
      rintro e w9 ⟨rfl, hb⟩
      rw [fst_c2]
      replace hV := hV.below hb
      replace hW := hW.below hb
      replace hNa := hNa.below hb
      replace hNb := hNb.below hb
      replace hNd := hNd.below hb
      replace hNx := hNx.below hb
      replace hU := Below.next hU hb
      clear hb
      go_wp2
      go_ret
      exact ⟨rfl, hU⟩
end Go.Proofs.Ytemllddgefahfaa
