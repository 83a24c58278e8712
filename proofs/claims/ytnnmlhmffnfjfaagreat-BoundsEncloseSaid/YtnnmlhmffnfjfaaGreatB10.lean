/-
  Texts: Enc, EncI, Sweep.
-/
import Derived.Test.YtnnmlhmffnfjfaaGreatB9
set_option linter.unusedVariables false
set_option maxRecDepth 100000
namespace Go.Proofs.YtnnmlhmffnfjfaaGreat
open Go.RowKit
open Rg
def encI (x : Iv) : List Int := encV x.f ++ encV x.t
def fbit (f : Bool) : Int := if f then 1 else 0
def encB : Rg → List Int
 | .nil _ _ => []
 | .cons vs rest tail => [(vs.length : Int)] ++ vs.flatMap encI ++ ([fbit rest.f, (rest.len : Int)] ++ encB rest) ++ encB tail
def encR (r : Rg) : List Int := [fbit r.f, (r.len : Int)] ++ encB r
def encP (p : List Iv × Rg) : List Int := [(p.1.length : Int)] ++ p.1.flatMap encI ++ encR p.2
theorem encB_parts : ∀ r : Rg, encB r = r.parts.flatMap encP
 | .nil _ _ => rfl
 | .cons vs rest tail => by
   rw [encB, encB_parts tail, parts, List.flatMap_cons]
   rfl
def okV (v : Vl) : Prop := (0 ≤ v.k ∧ v.k ≤ 255) ∧ v.t.size ≤ 64
def EncOk : Rg → Prop
 | .nil _ _ => True
 | .cons vs rest tail => vs.length ≤ 64 ∧ (∀ x ∈ vs, okV x.f ∧ okV x.t) ∧ EncOk rest ∧ EncOk tail
theorem EncOk.mem {p : List Iv × Rg} : ∀ {r : Rg}, EncOk r → p ∈ r.parts → p.1.length ≤ 64 ∧ (∀ x ∈ p.1, okV x.f ∧ okV x.t) ∧ EncOk p.2
 | .nil _ _, _, h => by cases h
 | .cons vs rest tail, ho, h => by
   rcases List.mem_cons.1 h with rfl | h
   · exact ⟨ho.1, ho.2.1, ho.2.2.1⟩
   · exact EncOk.mem ho.2.2.2 h
theorem numBs_len (i : Int) : ∀ k, (numBs i k).length = k
 | 0 => rfl
 | k + 1 => by simp [numBs, numBs_len i k]
theorem encV_len (v : Vl) : (encV v).length = 10 + v.t.size := by
 simp [encV, numBs_len, txB, ByteArray.toList_eq]
 omega
theorem encI_len {x : Iv} (h : okV x.f ∧ okV x.t) : (encI x).length ≤ 148 := by
 have h1 := h.1.2
 have h2 := h.2.2
 rw [encI, List.length_append, encV_len, encV_len]
 omega
theorem encIs_len : ∀ {l : List Iv}, (∀ x ∈ l, okV x.f ∧ okV x.t) → (l.flatMap encI).length ≤ 148 * l.length
 | [], _ => by simp
 | x :: l, h => by
   have h1 := encI_len (h x List.mem_cons_self)
   have h2 := encIs_len (fun y hy => h y (List.mem_cons_of_mem _ hy))
   rw [List.flatMap_cons, List.length_append, List.length_cons]
   omega
theorem encB_len : ∀ {r : Rg}, EncOk r → (encB r).length ≤ 10000 * r.size
 | .nil _ _, _ => by simp [encB]
 | .cons vs rest tail, h => by
   have h1 := encB_len h.2.2.1
   have h2 := encB_len h.2.2.2
   have h3 := encIs_len h.2.1
   have h4 := h.1
   simp only [encB, List.length_append, List.length_cons, List.length_nil, Rg.size]
   omega
theorem encR_len {r : Rg} (h : EncOk r) : (encR r).length ≤ 10000 * r.size + 2 := by
 have := encB_len h
 simp only [encR, List.length_append, List.length_cons, List.length_nil]
 omega
set_option maxRecDepth 100000 in
set_option maxHeartbeats 8000000 in
theorem enc_any (w0 : World) (r : Rg) : ∀ (x : Int) (f : Bool) (A : Option Addr) (n c : Nat) (B : Option Addr) (m d : Nat) (bs : List Int) (w : World), RgS w0 x f A n c r → EncOk r → r.size ≤ 64 → Below w0.heap.size w0 w → OwnB w w0.heap.size B m d bs → m + 10000 * r.size ≤ 1000000 →
 Calls Tryz.prog 243 #[.slice B m d, .agg #[.int .i64 x, .bool f, .slice A n c]] w fun e w' => ∃ (A' : Option Addr) (m' c' : Nat), e = .returned (.slice A' m' c') ∧ OwnB w' w0.heap.size A' m' c' (bs ++ encR r) ∧ Below w0.heap.size w0 w' ∧ TB w w' := by
 induction hsz : r.size using Nat.strongRecOn generalizing r with
 | _ s ih =>
   intro x f A n c B m d bs w hR hok hs hb ho hm
   obtain ⟨i0, hi, hz0, hz1, hz2⟩ := info_parts info_u8e
   have hn : n ≤ 64 := by have := hR.len; have := len_le_size r; omega
   have HN := zH hR.len
   have Hf := zH hR.hf
   have HR := zH hR
   have HOK := zH hok
   have HI := zH ih
   have Hsz := zH hsz
   have hown := ho.1
   have Hl := zH ho.2
   have hs1 := hb.size
   have HB := zH hb
   clear hR hok ih hsz ho hb
   cases f
   all_goals
    go_enter Tryz.func243, Tryz.ntmps243
    go_wp2_with (first
     | (at_builtin; refine wpList_append_one (by rfl) (.tmp 11) (.tmp 12) _ (by rfl) w0.heap.size 5 i0 _ 1 1 Tryz.underlying22 hi hz0 hz1 hz2 (by rfl) (by omega) (.slice B m d) m _ (by rfl) _ _ (hown.alloc _) (w.heap.size + 1) (by first | rfl | simp) (by rfl) (by rfl) (one_u8v _) (by simp only [maxLen]; omega) (by omega) (by first | omega | (simp; omega)) ?_; intro g5 cap5 w5 hown5 hg5 hB5 hat5 _; have hx5 := (Blk.grown (Blk.new w _ _) hg5 (own_ne hown)); have hx5c := hx5.cell; have hs5 := hB5.size; simp only [World.size_alloc] at hs5; have hne5 := own_ne hown)
     | (at_builtin; refine wpList_append_one (by rfl) (.tmp 14) (.tmp 15) _ (by rfl) w0.heap.size 5 i0 _ 1 1 Tryz.underlying22 hi hz0 hz1 hz2 (by rfl) (by omega) (.slice B m d) m _ (by rfl) _ _ (hown.alloc _) (w.heap.size + 1) (by first | rfl | simp) (by rfl) (by rfl) (one_u8v _) (by simp only [maxLen]; omega) (by omega) (by first | omega | (simp; omega)) ?_; intro g5 cap5 w5 hown5 hg5 hB5 hat5 _; have hx5 := (Blk.grown (Blk.new w _ _) hg5 (own_ne hown)); have hx5c := hx5.cell; have hs5 := hB5.size; simp only [World.size_alloc] at hs5; have hne5 := own_ne hown)
     | (at_builtin; refine wpList_append_one (by rfl) (.tmp 17) (.tmp 22) _ (by rfl) w0.heap.size 5 i0 _ 1 1 Tryz.underlying22 hi hz0 hz1 hz2 (by rfl) (by omega) (.slice (some ⟨g5, 0, none⟩) (m + 1) cap5) (m + 1) _ (by rfl) _ _ hown5 w5.heap.size (by first | rfl | simp) (by rfl) (by rfl) (one_u8v _) (by simp only [maxLen]; omega) (by omega) (by first | omega | (simp; omega)) ?_; intro g6 cap6 w6 hown6 hg6 hB6 hat6 _; have hx6c := (hx5.tb (by decide) ((TB.refl _).grown hown5 hg6)).cell))
    have HB6 : Hid (Below w0.heap.size w0 w6) := zH (((HB.out.alloc hs1 _).trans hB5).trans hB6)
    have HT6 : Hid (TB w w6) := zH (((TB.refl w).alloc _).grown (hown.alloc _) hg5 |>.grown hown5 hg6)
    have HO6 : Hid (∃ cl, cl = bs ++ [fbit r.f, (r.len : Int)] ∧ w6.ownsRow w0.heap.size 5 1 (.slice (some ⟨g6, 0, none⟩) (m + 1 + 1) cap6) (m + 1 + 1) (cl.flatMap u8v)) := by
     refine ⟨_, rfl, ?_⟩
     rw [Hf.out, ← HN.out]
     simpa [u8v, fbit] using hown6
    clear hown hown5 hown6 hg5 hg6 hat5 hat6 hB5 hB6
    go_loopw [0, 27] (fun v i wr => ∃ (k q : Nat) (A' : Option Addr) (m' c' : Nat) (cl : List Int), k ≤ n ∧ i = .int .i64 (k : Int) ∧ v = .slice A' m' c' ∧ m' + 10000 * q ≤ m + 2 + 10000 * s ∧ Hid (q = sizeL (r.parts.drop k)) ∧ Hid (cl = bs ++ [fbit r.f, (r.len : Int)] ++ (r.parts.take k).flatMap encP) ∧ wr.ownsRow w0.heap.size 5 1 (.slice A' m' c') m' (cl.flatMap u8v) ∧ Below w0.heap.size w0 wr ∧ TB w wr) (fun _ i _ => n - (intOf i).toNat)
    case atStart =>
     obtain ⟨cl, hcl, ho⟩ := HO6.out
     refine ⟨0, s, _, m + 1 + 1, cap6, cl, by omega, rfl, rfl, by omega, ?_, ?_, ho, HB6.out, HT6.out⟩
     · show _ = _
       rw [List.drop_zero, ← size_parts, Hsz.out]
     · show _ = _
       rw [hcl]; simp
    case round =>
     obtain ⟨k, q, A', m', c', cl, hk, rfl, rfl, hmq, Hq, Hcl, hown, hb, htb⟩ := hrel
     clear HB6 HT6 HO6
     by_cases hlt : k < n
     · obtain ⟨b1, o1, p, A1, n1, c1, x1, f1, A2, n2, c2, rfl, hp, hpt0, hpt⟩ := HR.out.at2 (keeps_of hb) hlt
       have hps := size_at hp
       rw [Hsz.out] at hps
       have Hd := zH (sizeL_drop hp)
       have hq1 : 1 + p.2.size ≤ q := by have h1 := Hq.out; have h2 := Hd.out; omega
       have hq2 : q ≤ s := by
        have h1 := Hq.out
        have h2 : sizeL (r.parts.take k) + sizeL (r.parts.drop k) = s := by rw [← sizeL_append, List.take_append_drop, ← size_parts, Hsz.out]
        omega
       have Htk := zH (take_snoc' hp)
       have hpok := EncOk.mem HOK.out (List.mem_of_getElem? hp)
       have Hpok := zH hpok
       have PV := zH hpt0.vs
       have PR := zH hpt0.rg
       have HI' := zH (HI.out p.2.size hps p.2 rfl)
       obtain ⟨p0, p1, p2, p3, pok, pvs, prg⟩ := hpt
       have hn1 : n1 ≤ 64 := by have := pvs.len; have := hpok.1; omega
       have Hn1 := zH pvs.len
       clear hp pok pvs prg hpt0 hpok
       have hsr := hb.size
       obtain ⟨qq, Hqq⟩ : ∃ z, Hid (p.2.size = z) := ⟨_, rfl⟩
       rw [Hqq.out] at hq1
       go_wp2_with (first
        | (at_builtin; refine wpList_append_one (by rfl) (.tmp 31) (.tmp 36) _ (by rfl) w0.heap.size 5 i0 _ 1 1 Tryz.underlying22 hi hz0 hz1 hz2 (by rfl) (by omega) (.slice A' m' c') m' _ (by rfl) _ _ (hown.alloc _) (wr.heap.size + 1) (by first | rfl | simp) (by rfl) (by rfl) (one_u8v _) (by simp only [maxLen]; omega) (by omega) (by first | omega | (simp; omega)) ?_; intro g5 cap5 w5 hown5 hg5 hB5 hat5 _; have hx5c := (Blk.grown (Blk.new wr _ _) hg5 (own_ne hown)).cell))
       have HB5 : Hid (Below w0.heap.size w0 w5) := zH ((hb.alloc hsr _).trans hB5)
       have HT5 : Hid (TB w w5) := zH ((htb.alloc _).grown (hown.alloc _) hg5)
       have HP5 : Hid (Blk w5 wr.heap.size 141 #[.slice A1 n1 c1, .int .i64 x1, .bool f1, .slice A2 n2 c2]) := zH (Blk.grown (Blk.new wr _ _) hg5 (own_ne hown))
       have HO5 : Hid (w5.ownsRow w0.heap.size 5 1 (.slice (some ⟨g5, 0, none⟩) (m' + 1) cap5) (m' + 1) ((cl ++ [(n1 : Int)]).flatMap u8v)) := by
        show World.ownsRow _ _ _ _ _ _ _
        simpa [u8v] using hown5
       clear hown hown5 hg5 hat5 hB5 p0 p1 p2 p3
       go_loopw [0, 41] (fun v i wr3 => ∃ (j m2 : Nat) (A'' : Option Addr) (c'' : Nat) (cl2 : List Int), j ≤ n1 ∧ i = .int .i64 (j : Int) ∧ v = .slice A'' m2 c'' ∧ m2 ≤ m' + 1 + 148 * j ∧ Hid (cl2 = cl ++ [(n1 : Int)] ++ (p.1.take j).flatMap encI) ∧ OwnB wr3 w0.heap.size A'' m2 c'' cl2 ∧ Below w0.heap.size w0 wr3 ∧ TB w wr3 ∧ Blk wr3 wr.heap.size 141 #[.slice A1 n1 c1, .int .i64 x1, .bool f1, .slice A2 n2 c2]) (fun _ i _ => n1 - (intOf i).toNat)
       case atStart =>
        refine ⟨0, m' + 1, _, cap5, cl ++ [(n1 : Int)], by omega, rfl, rfl, by omega, (by show _ = _; simp), ⟨HO5.out, ?_⟩, HB5.out, HT5.out, HP5.out⟩
        have := HO5.out.1
        rw [flat_len u8v_len] at this
        omega
       case round =>
        obtain ⟨j, m2, A'', c'', cl2, hj, rfl, rfl, hm2, Hcl2, hown2, hb3, htb3, hP3⟩ := hrel
        clear HB5 HT5 HP5 HO5
        have HP3 := zH hP3
        have HO2 := zH hown2
        have hs3 := hb3.size
        have hwr := hP3.lt
        clear hP3 hown2
        by_cases hjl : j < n1
        · obtain ⟨b, o, u, rfl, hu, huc⟩ := (PV.out.keep (keeps_of hb3)).at hjl
          have Hts := zH (take_snoc' hu)
          have Huok := zH (Hpok.out.2.1 u (List.mem_of_getElem? hu))
          have Hul := zH (encI_len Huok.out)
          obtain ⟨uf, ut, xo⟩ := u
          obtain ⟨d0, d1, d2, d3, d4, d5, d6⟩ := IvAt.of huc
          dsimp only at d0 d1 d2 d3 d4 d5 d6
          clear hu huc
          go_wp2_with fail
          refine (encV_any w0.heap.size A'' m2 c'' cl2 uf _ ⟨HO2.out.1.alloc _, HO2.out.2⟩ (by simp; omega) (by omega) Huok.out.1.1 Huok.out.1.2).mono ?_
          rintro e w7 ⟨A7, c7, rfl, hO7, hb7, ht7⟩
          have HO7 := zH hO7
          have Hl7 : Hid ((cl2 ++ encV uf).length = m2 + 10 + uf.t.size) := by show _ = _; rw [List.length_append, encV_len, HO2.out.2]; omega
          have hl7 : (cl2 ++ encV uf).length ≤ m2 + 74 := by have h1 := Hl7.out; have h2 : uf.t.size ≤ 64 := Huok.out.1.2; omega
          obtain ⟨m7, Hm7⟩ : ∃ z, Hid ((cl2 ++ encV uf).length = z) := ⟨_, rfl⟩
          rw [Hm7.out] at HO7 hl7 Hl7 ⊢
          have hx7 := (Blk.tb (Blk.new _ _ _) (by decide) ht7).cell
          have HB7 := zH ((hb3.alloc hs3 (.cells #[.int .i64 uf.k, .int .i64 uf.i, .string uf.t, .int .i64 ut.k, .int .i64 ut.i, .string ut.t, .bool xo] 187)).trans hb7)
          have HT7 := zH ((htb3.alloc (.cells #[.int .i64 uf.k, .int .i64 uf.i, .string uf.t, .int .i64 ut.k, .int .i64 ut.i, .string ut.t, .bool xo] 187)).trans ht7)
          have HP7 := zH ((HP3.out.alloc (.cells #[.int .i64 uf.k, .int .i64 uf.i, .string uf.t, .int .i64 ut.k, .int .i64 ut.i, .string ut.t, .bool xo] 187)).tb (by decide) ht7)
          have hs7 := HB7.out.size
          clear hO7 hb7 ht7 d0 d1 d2 d3 d4 d5 d6 hb3 htb3
          go_wp2_with fail
          refine (encV_any w0.heap.size A7 m7 c7 (cl2 ++ encV uf) ut _ HO7.out (by omega) (by omega) Huok.out.2.1 Huok.out.2.2).mono ?_
          rintro e w8 ⟨A8, c8, rfl, hO8, hb8, ht8⟩
          have HO8 := zH hO8
          have Hl8 : Hid ((cl2 ++ encV uf ++ encV ut).length = m7 + 10 + ut.t.size) := by show _ = _; rw [List.length_append, encV_len, Hm7.out]; omega
          obtain ⟨m8, Hm8⟩ : ∃ z, Hid ((cl2 ++ encV uf ++ encV ut).length = z) := ⟨_, rfl⟩
          rw [Hm8.out] at HO8 Hl8 ⊢
          clear hx7 hO8
          go_wp2
          go_roundw
          case rel =>
           refine ⟨j + 1, m8, A8, c8, cl2 ++ encV uf ++ encV ut, by omega, by go_num, rfl, ?_, ?_, HO8.out, HB7.out.trans hb8, HT7.out.trans ht8, HP7.out.tb (by decide) ht8⟩
           · have h1 := Hl8.out
             have h3 : ut.t.size ≤ 64 := Huok.out.2.2
             omega
           · show _ = _
             rw [Hts.out, Hcl2.out]
             simp [encI]
          case measure => simp [intOf]; omega
        · have hx3 := HP3.out.cell
          have hme : m2 + 10000 * qq ≤ 1000000 := by omega
          go_wp2_with fail
          refine (HI'.out x1 f1 A2 n2 c2 A'' m2 c'' cl2 _ PR.out Hpok.out.2.2 (by rw [Hqq.out]; omega) hb3 HO2.out (by rw [Hqq.out]; exact hme)).mono ?_
          rintro e w9 ⟨A9, m9, c9, rfl, hO9, hb9, ht9⟩
          have HO9 := zH hO9
          have Hl9 := zH hO9.2
          clear hO9 hx3
          go_wp2
          go_roundw
          case rel =>
           refine ⟨k + 1, q - 1 - qq, A9, m9, c9, cl2 ++ encR p.2, by omega, by go_num, rfl, ?_, ?_, ?_, HO9.out.1, hb9, htb3.trans ht9⟩
           · have h1 := Hl9.out
             have h2 := encR_len Hpok.out.2.2
             rw [List.length_append, HO2.out.2] at h1
             rw [Hqq.out] at h2
             omega
           · show _ = _
             have h1 := Hq.out
             have h2 := Hd.out
             rw [Hqq.out] at h2
             omega
           · show _ = _
             have e1 : p.1.take j = p.1 := List.take_of_length_le (by have := Hn1.out; omega)
             rw [Htk.out, Hcl2.out, Hcl.out, e1]
             simp [encP, Hn1.out]
          case measure => simp [intOf]; omega
     · go_wp2
       go_ret
       refine ⟨A', m', c', rfl, ⟨?_, ?_⟩, hb, htb⟩
       · have e1 : r.parts.take k = r.parts := List.take_of_length_le (by rw [len_parts]; have := HN.out; omega)
         have h1 := Hcl.out
         rw [e1, ← encB_parts] at h1
         have h2 : bs ++ encR r = cl := by rw [h1, encR]; simp
         rw [h2]
         exact hown
       · have e1 : r.parts.take k = r.parts := List.take_of_length_le (by rw [len_parts]; have := HN.out; omega)
         have h1 := Hcl.out
         rw [e1, ← encB_parts] at h1
         have h2 : bs ++ encR r = cl := by rw [h1, encR]; simp
         rw [h2]
         have := hown.1
         rw [flat_len u8v_len] at this
         omega
def rgV (v : Vl) : Prop := -9223372036854775808 ≤ v.i ∧ v.i < 9223372036854775808
def WfR : Rg → Prop
 | .nil _ _ => True
 | .cons vs rest tail => (∀ x ∈ vs, rgV x.f ∧ rgV x.t) ∧ WfR rest ∧ WfR tail
theorem WfR.mem {p : List Iv × Rg} : ∀ {r : Rg}, WfR r → p ∈ r.parts → (∀ x ∈ p.1, rgV x.f ∧ rgV x.t) ∧ WfR p.2
 | .nil _ _, _, h => by cases h
 | .cons vs rest tail, ho, h => by
   rcases List.mem_cons.1 h with rfl | h
   · exact ⟨ho.1, ho.2.1⟩
   · exact WfR.mem ho.2.2 h
theorem WfR.of {w : Int} {f : Bool} : ∀ {L : List (List Iv × Rg)}, (∀ p ∈ L, (∀ x ∈ p.1, rgV x.f ∧ rgV x.t) ∧ WfR p.2) → WfR (mkR w f L)
 | [], _ => trivial
 | p :: L, h => ⟨(h p List.mem_cons_self).1, (h p List.mem_cons_self).2, WfR.of fun q hq => h q (List.mem_cons_of_mem _ hq)⟩
theorem EncOk.of {w : Int} {f : Bool} : ∀ {L : List (List Iv × Rg)}, (∀ p ∈ L, p.1.length ≤ 64 ∧ (∀ x ∈ p.1, okV x.f ∧ okV x.t) ∧ EncOk p.2) → EncOk (mkR w f L)
 | [], _ => trivial
 | p :: L, h => ⟨(h p List.mem_cons_self).1, (h p List.mem_cons_self).2.1, (h p List.mem_cons_self).2.2, EncOk.of fun q hq => h q (List.mem_cons_of_mem _ hq)⟩
theorem valid_ok {v : Vl} (h : validV v = true) : okV v := by
 unfold validV at h
 have emp : v.t.toList.isEmpty = true → v.t.size = 0 := fun h => by
  rw [List.isEmpty_iff, ByteArray.toList_eq] at h
  have := congrArg List.length h
  simpa using this
 unfold okV
 split at h
 · rename_i hk
   simp only [Bool.and_eq_true] at h
   have := emp h.2
   omega
 · split at h
   · simp only [Bool.and_eq_true] at h
     have := emp h.2
     omega
   · split at h
     · have := emp h
       omega
     · split at h
       · simp only [Bool.and_eq_true, decide_eq_true_eq] at h
         omega
       · cases h
theorem zero_ok : okV zeroV := ⟨⟨by decide, by decide⟩, by decide⟩
def goodI (x : Iv) : Prop := validV x.f = true ∧ ((x.o = true ∧ x.t = zeroV) ∨ (x.o = false ∧ validV x.t = true))
theorem ord_good : ∀ (l : List Iv) (p : Option Iv), ordFrom p l = true → ∀ x ∈ l, goodI x
 | [], _, _, x, h => by cases h
 | y :: l, p, h, x, hx => by
   rw [ordFrom_cons, Bool.and_eq_true] at h
   rcases List.mem_cons.1 hx with rfl | hx
   · have h1 := h.1
     unfold okI at h1
     simp only [Bool.and_eq_true] at h1
     refine ⟨h1.1.1, ?_⟩
     have h2 := h1.2
     split at h2
     · rename_i ho
       simp only [Bool.and_eq_true, decide_eq_true_eq] at h2
       exact .inl ⟨ho, h2.2⟩
     · rename_i ho
       simp only [Bool.and_eq_true, decide_eq_true_eq] at h2
       exact .inr ⟨by simpa using ho, h2.1⟩
   · exact ord_good l _ h.2 x hx
theorem good_okV {x : Iv} (h : goodI x) : okV x.f ∧ okV x.t := by
 refine ⟨valid_ok h.1, ?_⟩
 rcases h.2 with ⟨_, e⟩ | ⟨_, e⟩
 · rw [e]; exact zero_ok
 · exact valid_ok e
theorem good_eq {x y : Iv} (hx : goodI x) (hy : goodI y) (h1 : x.f = y.f) (h2 : x.t = y.t) : x = y := by
 obtain ⟨xf, xt, xo⟩ := x
 obtain ⟨yf, yt, yo⟩ := y
 simp only at h1 h2
 subst h1 h2
 have hz : validV zeroV = false := by decide
 rcases hx.2 with ⟨a1, a2⟩ | ⟨a1, a2⟩ <;> rcases hy.2 with ⟨b1, b2⟩ | ⟨b1, b2⟩ <;> simp only at a1 a2 b1 b2
 · rw [a1, b1]
 · rw [a2, hz] at b2; cases b2
 · rw [b2, hz] at a2; cases a2
 · rw [a1, b1]
theorem form_enc : ∀ (n : Nat) (r : Rg), Form n r → r.fits = true → EncOk r
 | 0, r, h, _ => by
   cases r with
   | nil => trivial
   | cons vs rest tail => have := h.2; simp [parts] at this
 | n + 1, r, h, hf => by
   rw [← mk_parts r]
   refine EncOk.of fun p hp => ?_
   obtain ⟨_, h2, h3, _⟩ := h.2.2.1 p hp
   have h4 := fits_mem hf hp
   exact ⟨h4.1, fun x hx => good_okV (ord_good _ _ h2 x hx), form_enc n _ h3 h4.2⟩
theorem num_inj {i j : Int} (hi : -9223372036854775808 ≤ i ∧ i < 9223372036854775808) (hj : -9223372036854775808 ≤ j ∧ j < 9223372036854775808) (h : numBs i 8 = numBs j 8) : i = j := by
 simp only [numBs, List.nil_append, List.cons_append, List.cons.injEq, and_true, numB] at h
 have e : ∀ x : Int, IntKind.u64.wrap x = x % 18446744073709551616 := fun x => by simp [IntKind.wrap, IntKind.bits, IntKind.signed]
 rw [e, e] at h
 omega
theorem tx_inj {a b : ByteArray} (h : txB a = txB b) : a = b := by
 rw [text_eq]
 unfold txB at h
 refine List.map_inj_right (f := fun b : UInt8 => (b.toNat : Int)) ?_ |>.1 h
 intro x y hxy
 have : x.toNat = y.toNat := Int.ofNat.inj hxy
 exact UInt8.toNat_inj.1 this
theorem encV_inj {v u : Vl} (hv : rgV v) (hu : rgV u) {s t : List Int} (h : encV v ++ s = encV u ++ t) : v = u ∧ s = t := by
 obtain ⟨vk, vi, vt⟩ := v
 obtain ⟨uk, ui, ut⟩ := u
 simp only [encV, List.append_assoc, List.cons_append, List.nil_append, List.cons.injEq] at h
 obtain ⟨h1, h2⟩ := h
 obtain ⟨h3, h4⟩ := List.append_inj h2 (by rw [numBs_len, numBs_len])
 simp only [List.cons.injEq] at h4
 obtain ⟨h5, h6⟩ := h4
 have hl : ∀ t : ByteArray, (txB t).length = t.size := fun t => by simp [txB, ByteArray.toList_eq]
 obtain ⟨h7, h8⟩ := List.append_inj h6 (by rw [hl, hl]; omega)
 have h9 := num_inj hv hu h3
 have h10 := tx_inj h7
 subst h1 h9 h10
 exact ⟨rfl, h8⟩
theorem encI_inj {x y : Iv} (hx : goodI x) (hy : goodI y) (rx : rgV x.f ∧ rgV x.t) (ry : rgV y.f ∧ rgV y.t) {s t : List Int} (h : encI x ++ s = encI y ++ t) : x = y ∧ s = t := by
 simp only [encI, List.append_assoc] at h
 obtain ⟨h1, h2⟩ := encV_inj rx.1 ry.1 h
 obtain ⟨h3, h4⟩ := encV_inj rx.2 ry.2 h2
 exact ⟨good_eq hx hy h1 h3, h4⟩
theorem encIs_inj : ∀ (l m : List Iv), l.length = m.length → (∀ x ∈ l, goodI x ∧ rgV x.f ∧ rgV x.t) → (∀ x ∈ m, goodI x ∧ rgV x.f ∧ rgV x.t) → ∀ s t, l.flatMap encI ++ s = m.flatMap encI ++ t → l = m ∧ s = t
 | [], [], _, _, _, s, t, h => ⟨rfl, by simpa using h⟩
 | [], _ :: _, h, _, _, _, _, _ => by simp at h
 | _ :: _, [], h, _, _, _, _, _ => by simp at h
 | x :: l, y :: m, hl, hx, hy, s, t, h => by
   simp only [List.flatMap_cons, List.append_assoc] at h
   obtain ⟨h1, h2⟩ := encI_inj (hx x List.mem_cons_self).1 (hy y List.mem_cons_self).1 (hx x List.mem_cons_self).2 (hy y List.mem_cons_self).2 h
   obtain ⟨h3, h4⟩ := encIs_inj l m (by simpa using hl) (fun z hz => hx z (List.mem_cons_of_mem _ hz)) (fun z hz => hy z (List.mem_cons_of_mem _ hz)) s t h2
   exact ⟨by rw [h1, h3], h4⟩
def encG (n : Nat) (p : List Iv × Rg) : Prop := (∀ x ∈ p.1, goodI x ∧ rgV x.f ∧ rgV x.t) ∧ Form n p.2 ∧ WfR p.2
theorem encPs_inj (n : Nat) (ih : ∀ a b : Rg, Form n a → Form n b → WfR a → WfR b → ∀ s t, encR a ++ s = encR b ++ t → a = b ∧ s = t) :
 ∀ (l m : List (List Iv × Rg)), l.length = m.length → (∀ p ∈ l, encG n p) → (∀ p ∈ m, encG n p) → ∀ s t, l.flatMap encP ++ s = m.flatMap encP ++ t → l = m ∧ s = t
 | [], [], _, _, _, s, t, h => ⟨rfl, by simpa using h⟩
 | [], _ :: _, h, _, _, _, _, _ => by simp at h
 | _ :: _, [], h, _, _, _, _, _ => by simp at h
 | p :: l, q :: m, hl, hx, hy, s, t, h => by
   simp only [List.flatMap_cons, encP, List.append_assoc, List.cons_append, List.nil_append, List.cons.injEq] at h
   obtain ⟨h1, h2⟩ := h
   have a := hx p List.mem_cons_self
   have b := hy q List.mem_cons_self
   obtain ⟨h3, h4⟩ := encIs_inj p.1 q.1 (by omega) a.1 b.1 _ _ h2
   obtain ⟨h5, h6⟩ := ih p.2 q.2 a.2.1 b.2.1 a.2.2 b.2.2 _ _ h4
   obtain ⟨h7, h8⟩ := encPs_inj n ih l m (by simpa using hl) (fun z hz => hx z (List.mem_cons_of_mem _ hz)) (fun z hz => hy z (List.mem_cons_of_mem _ hz)) s t h6
   exact ⟨by rw [h7, Prod.ext h3 h5], h8⟩
theorem fbit_inj {a b : Bool} (h : fbit a = fbit b) : a = b := by cases a <;> cases b <;> first | rfl | (simp [fbit] at h)
theorem encR_inj' : ∀ (n : Nat) (a b : Rg), Form n a → Form n b → WfR a → WfR b → ∀ s t, encR a ++ s = encR b ++ t → a = b ∧ s = t
 | 0, a, b, ha, hb, _, _, s, t, h => by
   simp only [encR, encB_parts, ha.2, hb.2, List.flatMap_nil, List.append_nil, List.cons_append, List.nil_append, List.cons.injEq] at h
   exact ⟨Rg.ext (ha.1.trans hb.1.symm) (fbit_inj h.1) (ha.2.trans hb.2.symm), h.2.2⟩
 | n + 1, a, b, ha, hb, wa, wb, s, t, h => by
   simp only [encR, encB_parts, List.cons_append, List.nil_append, List.cons.injEq] at h
   obtain ⟨h1, h2, h3⟩ := h
   have g : ∀ r : Rg, Form (n + 1) r → WfR r → ∀ p ∈ r.parts, encG n p := fun r hr wr p hp => by
    have k1 := hr.2.2.1 p hp
    have k2 := wr.mem hp
    exact ⟨fun x hx => ⟨ord_good _ _ k1.2.1 x hx, k2.1 x hx⟩, k1.2.2.1, k2.2⟩
   obtain ⟨h4, h5⟩ := encPs_inj n (encR_inj' n) a.parts b.parts (by rw [len_parts, len_parts]; omega) (g a ha wa) (g b hb wb) s t h3
   exact ⟨Rg.ext (ha.1.trans hb.1.symm) (ha.2.1.trans hb.2.1.symm) h4, h5⟩
theorem encR_inj {n : Nat} {a b : Rg} (ha : Form n a) (hb : Form n b) (wa : WfR a) (wb : WfR b) (h : encR a = encR b) : a = b :=
 (encR_inj' n a b ha hb wa wb [] [] (by rw [h])).1
theorem mem_evI {s : Int} {i : Nat} {x : Iv} {e : Ev} : e ∈ evI s i x ↔ e = ⟨x.f, s, (i : Int), true⟩ ∨ (x.o = false ∧ e = ⟨x.t, s, (i : Int), false⟩) := by
 unfold evI
 cases x.o <;> simp
theorem mem_evR {s : Int} {e : Ev} : ∀ {L : List (List Iv × Rg)} {i : Nat}, e ∈ evR s i L ↔ ∃ (j : Nat) (p : List Iv × Rg) (x : Iv), L[j]? = some p ∧ x ∈ p.1 ∧ e ∈ evI s (i + j) x
 | [], i => by simp [evR]
 | q :: L, i => by
   rw [evR, List.mem_append, mem_evR (L := L) (i := i + 1)]
   constructor
   · rintro (h | ⟨j, p, x, h1, h2, h3⟩)
     · rw [evP, List.mem_flatMap] at h
       obtain ⟨x, h1, h2⟩ := h
       exact ⟨0, q, x, rfl, h1, h2⟩
     · exact ⟨j + 1, p, x, by simpa using h1, h2, by rw [show i + (j + 1) = i + 1 + j by omega]; exact h3⟩
   · rintro ⟨j, p, x, h1, h2, h3⟩
     cases j with
     | zero =>
       simp only [List.getElem?_cons_zero, Option.some.injEq] at h1
       subst h1
       exact .inl (by rw [evP, List.mem_flatMap]; exact ⟨x, h2, h3⟩)
     | succ j => exact .inr ⟨j, p, x, by simpa using h1, h2, by rw [show i + 1 + j = i + (j + 1) by omega]; exact h3⟩
theorem evR_side {s : Int} {e : Ev} {L : List (List Iv × Rg)} {i : Nat} (h : e ∈ evR s i L) : e.s = s := by
 obtain ⟨j, p, x, _, _, h3⟩ := mem_evR.1 h
 rcases mem_evI.1 h3 with rfl | ⟨_, rfl⟩ <;> rfl
theorem evs_side0 {a b : Rg} {e : Ev} (h : e.s = 0) : e ∈ evs a b ↔ e ∈ evR 0 0 a.parts := by
 unfold evs
 rw [List.mem_append]
 constructor
 · rintro (h1 | h1)
   · exact h1
   · have := evR_side h1; omega
 · exact .inl
theorem evs_side1 {a b : Rg} {e : Ev} (h : e.s = 1) : e ∈ evs a b ↔ e ∈ evR 1 0 b.parts := by
 unfold evs
 rw [List.mem_append]
 constructor
 · rintro (h1 | h1)
   · have := evR_side h1; omega
   · exact h1
 · exact .inr
def curOf (s : Int) (es : List Ev) : Int := es.foldl (fun c e => if e.s = s then (if e.e then e.p else -1) else c) (-1)
theorem curOf_snoc (s : Int) (es : List Ev) (e : Ev) : curOf s (es ++ [e]) = if e.s = s then (if e.e then e.p else -1) else curOf s es := by simp [curOf]
theorem snoc_ind {α : Type} {P : List α → Prop} (h0 : P []) (h1 : ∀ l x, P l → P (l ++ [x])) (l : List α) : P l := by
 have : ∀ r : List α, P r.reverse := fun r => by
  induction r with
  | nil => exact h0
  | cons x r ih => rw [List.reverse_cons]; exact h1 _ _ ih
 have := this l.reverse
 rwa [List.reverse_reverse] at this
theorem curOf_last (s : Int) (es : List Ev) : (curOf s es = -1 ∧ ∀ e ∈ es, e.s ≠ s) ∨ ∃ pre e post, es = pre ++ e :: post ∧ e.s = s ∧ (∀ e' ∈ post, e'.s ≠ s) ∧ curOf s es = if e.e then e.p else -1 := by
 refine snoc_ind (P := fun es => (curOf s es = -1 ∧ ∀ e ∈ es, e.s ≠ s) ∨ ∃ pre e post, es = pre ++ e :: post ∧ e.s = s ∧ (∀ e' ∈ post, e'.s ≠ s) ∧ curOf s es = if e.e then e.p else -1) ?_ ?_ es
 · exact .inl ⟨rfl, fun e h => by cases h⟩
 · intro es e ih
   rw [curOf_snoc]
   by_cases he : e.s = s
   · exact .inr ⟨es, e, [], rfl, he, (fun e' h => by cases h), by rw [if_pos he]⟩
   · rw [if_neg he]
     rcases ih with ⟨h1, h2⟩ | ⟨pre, e1, post, h1, h2, h3, h4⟩
     · refine .inl ⟨h1, fun e' h => ?_⟩
       rcases List.mem_append.1 h with h | h
       · exact h2 e' h
       · rw [List.mem_singleton.1 h]; exact he
     · refine .inr ⟨pre, e1, post ++ [e], by rw [h1]; simp, h2, fun e' h => ?_, h4⟩
       rcases List.mem_append.1 h with h | h
       · exact h3 e' h
       · rw [List.mem_singleton.1 h]; exact he
def idxP : List (List Iv × Rg) → Vl → Int
 | [], _ => -1
 | p :: L, v => if inL p.1 v then 0 else if idxP L v < 0 then -1 else idxP L v + 1
theorem idx_spec (v : Vl) : ∀ L : List (List Iv × Rg), (idxP L v = -1 ∧ ∀ p ∈ L, inL p.1 v = false) ∨ ∃ (j : Nat) (p : List Iv × Rg), L[j]? = some p ∧ inL p.1 v = true ∧ idxP L v = (j : Int) ∧ ∀ i q, i < j → L[i]? = some q → inL q.1 v = false
 | [] => .inl ⟨rfl, fun p h => by cases h⟩
 | p :: L => by
   unfold idxP
   by_cases hp : inL p.1 v = true
   · exact .inr ⟨0, p, rfl, hp, by rw [if_pos hp]; rfl, fun i q hi => by omega⟩
   · rw [if_neg hp]
     have hp' : inL p.1 v = false := by simpa using hp
     rcases idx_spec v L with ⟨h1, h2⟩ | ⟨j, q, h1, h2, h3, h4⟩
     · rw [if_pos (by omega)]
       refine .inl ⟨rfl, fun q hq => ?_⟩
       rcases List.mem_cons.1 hq with rfl | hq
       · exact hp'
       · exact h2 q hq
     · rw [if_neg (by omega)]
       refine .inr ⟨j + 1, q, by simpa using h1, h2, by omega, fun i q' hi hq' => ?_⟩
       cases i with
       | zero => simp only [List.getElem?_cons_zero, Option.some.injEq] at hq'; subst hq'; exact hp'
       | succ i => exact h4 i q' (by omega) (by simpa using hq')
theorem idx_of {v : Vl} {L : List (List Iv × Rg)} (hd : L.Pairwise (fun p q => disj p.1 q.1)) (hv : validV v = true) {j : Nat} {p : List Iv × Rg} (hp : L[j]? = some p) (hin : inL p.1 v = true) : idxP L v = (j : Int) := by
 rcases idx_spec v L with ⟨_, h2⟩ | ⟨i, q, h1, h2, h3, h4⟩
 · rw [h2 p (List.mem_of_getElem? hp)] at hin; cases hin
 · rw [h3]
   rcases Nat.lt_trichotomy i j with h | h | h
   · have hij : j < L.length := (List.getElem?_eq_some_iff.1 hp).1
     have hii : i < L.length := by omega
     have := List.pairwise_iff_getElem.1 hd i j hii hij h v hv
     rw [(List.getElem?_eq_some_iff.1 h1).2, (List.getElem?_eq_some_iff.1 hp).2] at this
     rw [this h2] at hin; cases hin
   · rw [h]
   · rw [h4 j p h hp] at hin; cases hin
theorem ord_pair : ∀ (l : List Iv) (p : Option Iv), ordFrom p l = true → l.Pairwise (fun x y => x.o = false ∧ cmpV x.t y.f < 0)
 | [], _, _ => List.Pairwise.nil
 | x :: l, p, h => by
   rw [ordFrom_cons, Bool.and_eq_true] at h
   refine List.pairwise_cons.2 ⟨fun y hy => ?_, ord_pair l _ h.2⟩
   have hne : l.isEmpty = false := by cases l with | nil => cases hy | cons => rfl
   have h1 := h.1
   unfold okI at h1
   rw [hne] at h1
   refine ⟨?_, (ord_pts l (some x) h.2).2.2.2 x rfl y.f ?_⟩
   · cases ho : x.o
     · rfl
     · rw [ho] at h1; simp at h1
   · clear h h1 hne
     induction l with
     | nil => cases hy
     | cons z l ih =>
       unfold ptsL
       rcases List.mem_cons.1 hy with rfl | hy
       · split <;> simp
       · have := ih hy
         split <;> simp [this]
theorem ord_disj {l : List Iv} (h : ordFrom none l = true) {x y : Iv} (hx : x ∈ l) (hy : y ∈ l) {z : Vl} (h1 : inI x z = true) (h2 : inI y z = true) : x = y := by
 have hp := ord_pair l none h
 clear h
 unfold inI at h1 h2
 simp only [Bool.and_eq_true, Bool.or_eq_true, decide_eq_true_eq] at h1 h2
 induction l with
 | nil => cases hx
 | cons u l ih =>
   have k := List.pairwise_cons.1 hp
   have far : ∀ a b : Iv, (a.o = false ∧ cmpV a.t b.f < 0) → (a.o = true ∨ cmpV z a.t < 0) → cmpV b.f z ≤ 0 → False := fun a b ⟨ho, hlt⟩ h3 h4 => by
    rcases h3 with h3 | h3
    · rw [ho] at h3; cases h3
    · have := cmpV_lt_of_lt (cmpV_lt_trans h3 hlt) h4
      rw [cmpV_self] at this
      omega
   rcases List.mem_cons.1 hx with e1 | hx'
   · rcases List.mem_cons.1 hy with e2 | hy'
     · rw [e1, e2]
     · exact (far u y (k.1 y hy') (e1 ▸ h1.2) h2.1).elim
   · rcases List.mem_cons.1 hy with e2 | hy'
     · exact (far u x (k.1 x hx') (e2 ▸ h2.2) h1.1).elim
     · exact ih hx' hy' k.2
theorem good_lt {l : List Iv} (h : ordFrom none l = true) {x : Iv} (hx : x ∈ l) (ho : x.o = false) : cmpV x.f x.t < 0 := by
 have : ∀ (l : List Iv) (p : Option Iv), ordFrom p l = true → x ∈ l → cmpV x.f x.t < 0 := by
  intro l
  induction l with
  | nil => intro p _ hx; cases hx
  | cons u l ih =>
    intro p h hx
    rw [ordFrom_cons, Bool.and_eq_true] at h
    rcases List.mem_cons.1 hx with rfl | hx
    · have h1 := h.1
      unfold okI at h1
      rw [ho] at h1
      simp only [Bool.false_eq_true, if_false, Bool.and_eq_true, decide_eq_true_eq] at h1
      exact h1.2.2
    · exact ih _ h.2 hx
 exact this l none h hx
theorem inL_iff {l : List Iv} {v : Vl} : inL l v = true ↔ ∃ x ∈ l, inI x v = true := by unfold inL; exact List.any_eq_true
theorem inI_iff {x : Iv} {v : Vl} : inI x v = true ↔ cmpV x.f v ≤ 0 ∧ (x.o = true ∨ cmpV v x.t < 0) := by
 unfold inI
 simp only [Bool.and_eq_true, Bool.or_eq_true, decide_eq_true_eq]
theorem cmpE_le {a b : Ev} (h : ¬ cmpE b a < 0) : cmpV a.v b.v ≤ 0 ∧ (a.v = b.v → a.e = true → b.e = true) := by
 have ha := cmpV_anti a.v b.v
 unfold cmpE at h
 by_cases hz : cmpV b.v a.v = 0
 · rw [if_neg (by omega)] at h
   refine ⟨by omega, fun _ he => ?_⟩
   cases hb : b.e
   · rw [he, hb] at h; simp at h
   · rfl
 · rw [if_pos hz] at h
   refine ⟨by omega, fun e => ?_⟩
   rw [e, cmpV_self] at hz
   omega
theorem cur_idx {s : Int} {L : List (List Iv × Rg)} {es rest : List Ev} {p : Vl} (hup : EvUp (es ++ rest)) (hm : ∀ e : Ev, e.s = s → (e ∈ es ++ rest ↔ e ∈ evR s 0 L))
 (hle : ∀ e ∈ es, cmpV e.v p ≤ 0) (hgt : ∀ e ∈ rest, cmpV p e.v < 0) (hL : ∀ q ∈ L, ordFrom none q.1 = true) (hd : L.Pairwise (fun p q => disj p.1 q.1)) (hv : validV p = true) : curOf s es = idxP L p := by
 have hin : ∀ e : Ev, e.s = s → e ∈ evR s 0 L → cmpV e.v p ≤ 0 → e ∈ es := fun e hs he hp => by
  rcases List.mem_append.1 ((hm e hs).2 he) with h | h
  · exact h
  · have := hgt e h; have := cmpV_anti p e.v; omega
 rcases curOf_last s es with ⟨h1, h2⟩ | ⟨pre, e, post, h1, h2, h3, h4⟩
 · rw [h1]
   rcases idx_spec p L with ⟨k1, _⟩ | ⟨j, q, k1, k2, _, _⟩
   · exact k1.symm
   · obtain ⟨x, hx, hxi⟩ := inL_iff.1 k2
     have hx1 := (inI_iff.1 hxi).1
     exact absurd rfl (h2 ⟨x.f, s, ((0 + j : Nat) : Int), true⟩ (hin _ rfl (mem_evR.2 ⟨j, q, x, k1, hx, mem_evI.2 (.inl rfl)⟩) hx1))
 · rw [h4]
   have hees : e ∈ es := by rw [h1]; simp
   obtain ⟨j, q, x, k1, k2, k3⟩ := mem_evR.1 ((hm e h2).1 (List.mem_append_left _ hees))
   have hord := hL q (List.mem_of_getElem? k1)
   have hpe : ∀ e' : Ev, e' ∈ es → e'.s = s → e' ≠ e → ¬ cmpE e e' < 0 := fun e' he' hs' hne => by
    rw [h1] at he'
    rcases List.mem_append.1 he' with h | h
    · unfold EvUp at hup
      rw [h1, List.append_assoc] at hup
      exact (List.pairwise_append.1 hup).2.2 e' h e (by simp)
    · rcases List.mem_cons.1 h with h | h
      · exact absurd h hne
      · exact absurd hs' (h3 e' h)
   rcases mem_evI.1 k3 with rfl | ⟨ho, rfl⟩
   · simp only [if_true]
     have hf : cmpV x.f p ≤ 0 := hle _ hees
     have hi : inI x p = true := by
      refine inI_iff.2 ⟨hf, ?_⟩
      cases ho : x.o
      · right
        rcases Int.lt_or_le (cmpV p x.t) 0 with h | h
        · exact h
        · exfalso
          have hle' : cmpV x.t p ≤ 0 := by have := cmpV_anti p x.t; omega
          have hmem := hin ⟨x.t, s, ((0 + j : Nat) : Int), false⟩ rfl (mem_evR.2 ⟨j, q, x, k1, k2, mem_evI.2 (.inr ⟨ho, rfl⟩)⟩) hle'
          have := (cmpE_le (hpe _ hmem rfl (by simp))).1
          have h5 := good_lt hord k2 ho
          have h6 := cmpV_anti x.f x.t
          simp only at this
          omega
      · exact .inl rfl
     rw [idx_of hd hv k1 (inL_iff.2 ⟨x, k2, hi⟩)]
     simp
   · simp only [Bool.false_eq_true, if_false]
     have hf : cmpV x.t p ≤ 0 := hle _ hees
     rcases idx_spec p L with ⟨k4, _⟩ | ⟨i, q', k4, k5, _, _⟩
     · exact k4.symm
     · exfalso
       obtain ⟨y, hy, hyi⟩ := inL_iff.1 k5
       have hy1 := inI_iff.1 hyi
       have hordy := hL q' (List.mem_of_getElem? k4)
       have hmem := hin ⟨y.f, s, ((0 + i : Nat) : Int), true⟩ rfl (mem_evR.2 ⟨i, q', y, k4, hy, mem_evI.2 (.inl rfl)⟩) hy1.1
       have h5 := cmpE_le (hpe _ hmem rfl (by simp))
       simp only at h5
       have h6 : cmpV y.f x.t < 0 := by
        rcases Int.lt_or_le (cmpV y.f x.t) 0 with h | h
        · exact h
        · have e0 : y.f = x.t := (cmpV_zero _ _).1 (by omega)
          have := h5.2 e0 trivial
          cases this
       have h7 := good_lt hord k2 ho
       have hyt : ∀ z, cmpV z x.t < 0 → (y.o = true ∨ cmpV z y.t < 0) := fun z hz => by
        rcases hy1.2 with h | h
        · exact .inl h
        · exact .inr (cmpV_lt_trans (cmpV_lt_of_lt hz hf) h)
       have hz : ∃ z, validV z = true ∧ inI x z = true ∧ inI y z = true := by
        rcases Int.lt_or_le 0 (cmpV x.f y.f) with h | h
        · have h8 : cmpV y.f x.f ≤ 0 := by have := cmpV_anti x.f y.f; omega
          exact ⟨x.f, (ord_good _ _ hord x k2).1, inI_iff.2 ⟨by rw [cmpV_self]; omega, .inr h7⟩, inI_iff.2 ⟨h8, hyt _ h7⟩⟩
        · exact ⟨y.f, (ord_good _ _ hordy y hy).1, inI_iff.2 ⟨h, .inr h6⟩, inI_iff.2 ⟨by rw [cmpV_self]; omega, hyt _ h6⟩⟩
       obtain ⟨z, hzv, hzx, hzy⟩ := hz
       have e1 := idx_of hd hzv k1 (inL_iff.2 ⟨x, k2, hzx⟩)
       have e2 := idx_of hd hzv k4 (inL_iff.2 ⟨y, hy, hzy⟩)
       have hij : i = j := by omega
       subst hij
       rw [k1] at k4
       injection k4 with k4
       subst k4
       have hxy := ord_disj hord k2 hy hzx hzy
       subst hxy
       rcases hy1.2 with h | h
       · rw [ho] at h; cases h
       · have := cmpV_anti p x.t; omega
theorem rest_at {n : Nat} {r : Rg} (hw : r.w = ((n + 1 : Nat) : Int)) (v : Vl) : restR r (idxP r.parts v) = r.at_ (n : Int) v := by
 have key : ∀ r : Rg, ∀ w : Int, (match r.parts[(idxP r.parts v).toNat]? with | some p => p.2 | none => zeroR) = r.at_ (n : Int) v ∨ (idxP r.parts v < 0 ∧ r.at_ (n : Int) v = .nil (n : Int) false) := by
  intro r w
  induction r with
  | nil => right; exact ⟨by simp [parts, idxP], rfl⟩
  | cons vs rest tail _ ih =>
    simp only [parts, idxP, Rg.at_]
    by_cases hp : inL vs v = true
    · left; simp [hp]
    · rw [if_neg hp, if_neg hp]
      rcases Int.lt_or_le (idxP tail.parts v) 0 with h | h
      · rw [if_pos h]
        right
        refine ⟨by omega, ?_⟩
        rcases ih with ih | ih
        · rcases at_spec (n : Int) v tail with ⟨p, hp1, hp2, _⟩ | ⟨h1, _⟩
          · rcases idx_spec v tail.parts with ⟨_, h2⟩ | ⟨j, _, _, _, h3, _⟩
            · rw [h2 p hp1] at hp2; cases hp2
            · omega
          · exact h1
        · exact ih.2
      · rw [if_neg (by omega)]
        left
        rcases ih with ih | ih
        · rw [← ih]
          have : (idxP tail.parts v + 1).toNat = (idxP tail.parts v).toNat + 1 := by omega
          rw [this, List.getElem?_cons_succ]
        · omega
 unfold restR
 rcases Int.lt_or_le (idxP r.parts v) 0 with h | h
 · rw [if_pos h]
   rcases at_spec (n : Int) v r with ⟨p, hp1, hp2, _⟩ | ⟨h1, _⟩
   · rcases idx_spec v r.parts with ⟨_, h2⟩ | ⟨j, _, _, _, h3, _⟩
     · rw [h2 p hp1] at hp2; cases hp2
     · omega
   · rw [h1, hw]
     congr 1
     omega
 · rw [if_neg (by omega)]
   rcases key r 0 with h1 | h1
   · exact h1
   · omega
end Go.Proofs.YtnnmlhmffnfjfaaGreat
