/-
  Texts: Enc, EncI.
-/
import Derived.Test.YtmnmckblmoalkaaGreatB12
set_option linter.unusedVariables false
/-
  The program's region function encode.
-/
namespace Go.Proofs.YtmnmckblmoalkaaGreat
open Go.RowKit
set_option maxRecDepth 100000
open Rg

def encI (x : Iv) : List Int := encV x.f ++ encV x.t
def fbit (f : Bool) : Int := if f then 1 else 0
/-- the bytes of the parts of a region -/
def encB : Rg → List Int
  | .nil _ _ => []
  | .cons vs rest tail => [(vs.length : Int)] ++ vs.flatMap encI ++ ([fbit rest.f, (rest.len : Int)] ++ encB rest) ++ encB tail
def encR (r : Rg) : List Int := [fbit r.f, (r.len : Int)] ++ encB r
def encP (p : List Iv × Rg) : List Int := [(p.1.length : Int)] ++ p.1.flatMap encI ++ encR p.2
theorem encB_parts : ∀ r : Rg, encB r = r.parts.flatMap encP
  | .nil _ _ => rfl
  | .cons vs rest tail => by
    rw [encB, encB_parts tail, parts, List.flatMap_cons]
    rfl
def okV (v : Vl) : Prop := (0 ≤ v.k ∧ v.k ≤ 255) ∧ v.t.size ≤ 64
def EncOk : Rg → Prop
  | .nil _ _ => True
  | .cons vs rest tail => vs.length ≤ 64 ∧ (∀ x ∈ vs, okV x.f ∧ okV x.t) ∧ EncOk rest ∧ EncOk tail
theorem EncOk.mem {p : List Iv × Rg} : ∀ {r : Rg}, EncOk r → p ∈ r.parts → p.1.length ≤ 64 ∧ (∀ x ∈ p.1, okV x.f ∧ okV x.t) ∧ EncOk p.2
  | .nil _ _, _, h => by cases h
  | .cons vs rest tail, ho, h => by
    rcases List.mem_cons.1 h with rfl | h
    · exact ⟨ho.1, ho.2.1, ho.2.2.1⟩
    · exact EncOk.mem ho.2.2.2 h
theorem numBs_len (i : Int) : ∀ k, (numBs i k).length = k
  | 0 => rfl
  | k + 1 => by simp [numBs, numBs_len i k]
theorem encV_len (v : Vl) : (encV v).length = 10 + v.t.size := by
  simp [encV, numBs_len, txB, ByteArray.toList_eq]
  omega
theorem encI_len {x : Iv} (h : okV x.f ∧ okV x.t) : (encI x).length ≤ 148 := by
  have h1 := h.1.2
  have h2 := h.2.2
  rw [encI, List.length_append, encV_len, encV_len]
  omega
theorem encIs_len : ∀ {l : List Iv}, (∀ x ∈ l, okV x.f ∧ okV x.t) → (l.flatMap encI).length ≤ 148 * l.length
  | [], _ => by simp
  | x :: l, h => by
    have h1 := encI_len (h x List.mem_cons_self)
    have h2 := encIs_len (fun y hy => h y (List.mem_cons_of_mem _ hy))
    rw [List.flatMap_cons, List.length_append, List.length_cons]
    omega
theorem encB_len : ∀ {r : Rg}, EncOk r → (encB r).length ≤ 10000 * r.size
  | .nil _ _, _ => by simp [encB]
  | .cons vs rest tail, h => by
    have h1 := encB_len h.2.2.1
    have h2 := encB_len h.2.2.2
    have h3 := encIs_len h.2.1
    have h4 := h.1
    simp only [encB, List.length_append, List.length_cons, List.length_nil, Rg.size]
    omega
theorem encR_len {r : Rg} (h : EncOk r) : (encR r).length ≤ 10000 * r.size + 2 := by
  have := encB_len h
  simp only [encR, List.length_append, List.length_cons, List.length_nil]
  omega
set_option maxRecDepth 100000 in
set_option maxHeartbeats 8000000 in
theorem enc_any (w0 : World) (r : Rg) : ∀ (x : Int) (f : Bool) (A : Option Addr) (n c : Nat) (B : Option Addr) (m d : Nat) (bs : List Int) (w : World), RgS w0 x f A n c r → EncOk r → r.size ≤ 64 → Below w0.heap.size w0 w → OwnB w w0.heap.size B m d bs → m + 10000 * r.size ≤ 1000000 →
    Calls Tryz.prog 183 #[.slice B m d, .agg #[.int .i64 x, .bool f, .slice A n c]] w fun e w' => ∃ (A' : Option Addr) (m' c' : Nat), e = .returned (.slice A' m' c') ∧ OwnB w' w0.heap.size A' m' c' (bs ++ encR r) ∧ Below w0.heap.size w0 w' ∧ TB w w' := by
  induction hsz : r.size using Nat.strongRecOn generalizing r with
  | _ s ih =>
    intro x f A n c B m d bs w hR hok hs hb ho hm
    obtain ⟨i0, hi, hz0, hz1, hz2⟩ := info_parts info_u8e
    have hn : n ≤ 64 := by have := hR.len; have := len_le_size r; omega
    have HN := Lib.hid hR.len
    have Hf := Lib.hid hR.hf
    have HR := Lib.hid hR
    have HOK := Lib.hid hok
    have HI := Lib.hid ih
    have Hsz := Lib.hid hsz
    have hown := ho.1
    have Hl := Lib.hid ho.2
    have hs1 := hb.size
    have HB := Lib.hid hb
    clear hR hok ih hsz ho hb
    cases f
    all_goals
      go_enter Tryz.func183, Tryz.ntmps183
      go_wp2_with (first
        | (at_builtin; refine wpList_append_one (by rfl) (.tmp 11) (.tmp 12) _ (by rfl) w0.heap.size 5 i0 _ 1 1 Tryz.underlying22 hi hz0 hz1 hz2 (by rfl) (by omega) (.slice B m d) m _ (by rfl) _ _ (hown.alloc _) (w.heap.size + 1) (by first | rfl | simp) (by rfl) (by rfl) (one_u8v _) (by simp only [maxLen]; omega) (by omega) (by first | omega | (simp; omega)) ?_; intro g5 cap5 w5 hown5 hg5 hB5 hat5 _; have hx5 := (Blk.grown (Blk.new w _ _) hg5 (own_ne hown)); have hx5c := hx5.cell; have hs5 := hB5.size; simp only [World.size_alloc] at hs5; have hne5 := own_ne hown)
        | (at_builtin; refine wpList_append_one (by rfl) (.tmp 14) (.tmp 15) _ (by rfl) w0.heap.size 5 i0 _ 1 1 Tryz.underlying22 hi hz0 hz1 hz2 (by rfl) (by omega) (.slice B m d) m _ (by rfl) _ _ (hown.alloc _) (w.heap.size + 1) (by first | rfl | simp) (by rfl) (by rfl) (one_u8v _) (by simp only [maxLen]; omega) (by omega) (by first | omega | (simp; omega)) ?_; intro g5 cap5 w5 hown5 hg5 hB5 hat5 _; have hx5 := (Blk.grown (Blk.new w _ _) hg5 (own_ne hown)); have hx5c := hx5.cell; have hs5 := hB5.size; simp only [World.size_alloc] at hs5; have hne5 := own_ne hown)
        | (at_builtin; refine wpList_append_one (by rfl) (.tmp 17) (.tmp 22) _ (by rfl) w0.heap.size 5 i0 _ 1 1 Tryz.underlying22 hi hz0 hz1 hz2 (by rfl) (by omega) (.slice (some ⟨g5, 0, none⟩) (m + 1) cap5) (m + 1) _ (by rfl) _ _ hown5 w5.heap.size (by first | rfl | simp) (by rfl) (by rfl) (one_u8v _) (by simp only [maxLen]; omega) (by omega) (by first | omega | (simp; omega)) ?_; intro g6 cap6 w6 hown6 hg6 hB6 hat6 _; have hx6c := (hx5.tb (by decide) ((TB.refl _).grown hown5 hg6)).cell))
      have HB6 : Hid (Below w0.heap.size w0 w6) := Lib.hid (((HB.out.alloc hs1 _).trans hB5).trans hB6)
      have HT6 : Hid (TB w w6) := Lib.hid (((TB.refl w).alloc _).grown (hown.alloc _) hg5 |>.grown hown5 hg6)
      have HO6 : Hid (∃ cl, cl = bs ++ [fbit r.f, (r.len : Int)] ∧ w6.ownsRow w0.heap.size 5 1 (.slice (some ⟨g6, 0, none⟩) (m + 1 + 1) cap6) (m + 1 + 1) (cl.flatMap u8v)) := by
        refine ⟨_, rfl, ?_⟩
        rw [Hf.out, ← HN.out]
        simpa [u8v, fbit] using hown6
      clear hown hown5 hown6 hg5 hg6 hat5 hat6 hB5 hB6
      go_loopw [0, 27] (fun v i wr => ∃ (k q : Nat) (A' : Option Addr) (m' c' : Nat) (cl : List Int), k ≤ n ∧ i = .int .i64 (k : Int) ∧ v = .slice A' m' c' ∧ m' + 10000 * q ≤ m + 2 + 10000 * s ∧ Hid (q = sizeL (r.parts.drop k)) ∧ Hid (cl = bs ++ [fbit r.f, (r.len : Int)] ++ (r.parts.take k).flatMap encP) ∧ wr.ownsRow w0.heap.size 5 1 (.slice A' m' c') m' (cl.flatMap u8v) ∧ Below w0.heap.size w0 wr ∧ TB w wr) (fun _ i _ => n - (intOf i).toNat)
      case atStart =>
        obtain ⟨cl, hcl, ho⟩ := HO6.out
        refine ⟨0, s, _, m + 1 + 1, cap6, cl, by omega, rfl, rfl, by omega, ?_, ?_, ho, HB6.out, HT6.out⟩
        · show _ = _
          rw [List.drop_zero, ← size_parts, Hsz.out]
        · show _ = _
          rw [hcl]; simp
      case round =>
        obtain ⟨k, q, A', m', c', cl, hk, rfl, rfl, hmq, Hq, Hcl, hown, hb, htb⟩ := hrel
        clear HB6 HT6 HO6
        by_cases hlt : k < n
        · obtain ⟨b1, o1, p, A1, n1, c1, x1, f1, A2, n2, c2, rfl, hp, hpt0, hpt⟩ := HR.out.at2 (keeps_of hb) hlt
          have hps := size_at hp
          rw [Hsz.out] at hps
          have Hd := Lib.hid (sizeL_drop hp)
          have hq1 : 1 + p.2.size ≤ q := by have h1 := Hq.out; have h2 := Hd.out; omega
          have hq2 : q ≤ s := by
            have h1 := Hq.out
            have h2 : sizeL (r.parts.take k) + sizeL (r.parts.drop k) = s := by rw [← sizeL_append, List.take_append_drop, ← size_parts, Hsz.out]
            omega
          have Htk := Lib.hid (take_snoc' hp)
          have hpok := EncOk.mem HOK.out (List.mem_of_getElem? hp)
          have Hpok := Lib.hid hpok
          have PV := Lib.hid hpt0.vs
          have PR := Lib.hid hpt0.rg
          have HI' := Lib.hid (HI.out p.2.size hps p.2 rfl)
          obtain ⟨p0, p1, p2, p3, pok, pvs, prg⟩ := hpt
          have hn1 : n1 ≤ 64 := by have := pvs.len; have := hpok.1; omega
          have Hn1 := Lib.hid pvs.len
          clear hp pok pvs prg hpt0 hpok
          have hsr := hb.size
          obtain ⟨qq, Hqq⟩ : ∃ z, Hid (p.2.size = z) := ⟨_, rfl⟩
          rw [Hqq.out] at hq1
          go_wp2_with (first
            | (at_builtin; refine wpList_append_one (by rfl) (.tmp 31) (.tmp 36) _ (by rfl) w0.heap.size 5 i0 _ 1 1 Tryz.underlying22 hi hz0 hz1 hz2 (by rfl) (by omega) (.slice A' m' c') m' _ (by rfl) _ _ (hown.alloc _) (wr.heap.size + 1) (by first | rfl | simp) (by rfl) (by rfl) (one_u8v _) (by simp only [maxLen]; omega) (by omega) (by first | omega | (simp; omega)) ?_; intro g5 cap5 w5 hown5 hg5 hB5 hat5 _; have hx5c := (Blk.grown (Blk.new wr _ _) hg5 (own_ne hown)).cell))
          have HB5 : Hid (Below w0.heap.size w0 w5) := Lib.hid ((hb.alloc hsr _).trans hB5)
          have HT5 : Hid (TB w w5) := Lib.hid ((htb.alloc _).grown (hown.alloc _) hg5)
          have HP5 : Hid (Blk w5 wr.heap.size 86 #[.slice A1 n1 c1, .int .i64 x1, .bool f1, .slice A2 n2 c2]) := Lib.hid (Blk.grown (Blk.new wr _ _) hg5 (own_ne hown))
          have HO5 : Hid (w5.ownsRow w0.heap.size 5 1 (.slice (some ⟨g5, 0, none⟩) (m' + 1) cap5) (m' + 1) ((cl ++ [(n1 : Int)]).flatMap u8v)) := by
            show World.ownsRow _ _ _ _ _ _ _
            simpa [u8v] using hown5
          clear hown hown5 hg5 hat5 hB5 p0 p1 p2 p3
          go_loopw [0, 41] (fun v i wr3 => ∃ (j m2 : Nat) (A'' : Option Addr) (c'' : Nat) (cl2 : List Int), j ≤ n1 ∧ i = .int .i64 (j : Int) ∧ v = .slice A'' m2 c'' ∧ m2 ≤ m' + 1 + 148 * j ∧ Hid (cl2 = cl ++ [(n1 : Int)] ++ (p.1.take j).flatMap encI) ∧ OwnB wr3 w0.heap.size A'' m2 c'' cl2 ∧ Below w0.heap.size w0 wr3 ∧ TB w wr3 ∧ Blk wr3 wr.heap.size 86 #[.slice A1 n1 c1, .int .i64 x1, .bool f1, .slice A2 n2 c2]) (fun _ i _ => n1 - (intOf i).toNat)
          case atStart =>
            refine ⟨0, m' + 1, _, cap5, cl ++ [(n1 : Int)], by omega, rfl, rfl, by omega, (by show _ = _; simp), ⟨HO5.out, ?_⟩, HB5.out, HT5.out, HP5.out⟩
            have := HO5.out.1
            rw [flat_len u8v_len] at this
            omega
          case round =>
            obtain ⟨j, m2, A'', c'', cl2, hj, rfl, rfl, hm2, Hcl2, hown2, hb3, htb3, hP3⟩ := hrel
            clear HB5 HT5 HP5 HO5
            have HP3 := Lib.hid hP3
            have HO2 := Lib.hid hown2
            have hs3 := hb3.size
            have hwr := hP3.lt
            clear hP3 hown2
            by_cases hjl : j < n1
            · obtain ⟨b, o, u, rfl, hu, huc⟩ := (PV.out.keep (keeps_of hb3)).at hjl
              have Hts := Lib.hid (take_snoc' hu)
              have Huok := Lib.hid (Hpok.out.2.1 u (List.mem_of_getElem? hu))
              have Hul := Lib.hid (encI_len Huok.out)
              obtain ⟨uf, ut, xo⟩ := u
              obtain ⟨d0, d1, d2, d3, d4, d5, d6⟩ := IvAt.of huc
              dsimp only at d0 d1 d2 d3 d4 d5 d6
              clear hu huc
              go_wp2_with fail
              refine (encV_any w0.heap.size A'' m2 c'' cl2 uf _ ⟨HO2.out.1.alloc _, HO2.out.2⟩ (by simp; omega) (by omega) Huok.out.1.1 Huok.out.1.2).mono ?_
              rintro e w7 ⟨A7, c7, rfl, hO7, hb7, ht7⟩
              have HO7 := Lib.hid hO7
              have Hl7 : Hid ((cl2 ++ encV uf).length = m2 + 10 + uf.t.size) := by show _ = _; rw [List.length_append, encV_len, HO2.out.2]; omega
              have hl7 : (cl2 ++ encV uf).length ≤ m2 + 74 := by have h1 := Hl7.out; have h2 : uf.t.size ≤ 64 := Huok.out.1.2; omega
              obtain ⟨m7, Hm7⟩ : ∃ z, Hid ((cl2 ++ encV uf).length = z) := ⟨_, rfl⟩
              rw [Hm7.out] at HO7 hl7 Hl7 ⊢
              have hx7 := (Blk.tb (Blk.new _ _ _) (by decide) ht7).cell
              have HB7 := Lib.hid ((hb3.alloc hs3 (.cells #[.int .i64 uf.k, .int .i64 uf.i, .string uf.t, .int .i64 ut.k, .int .i64 ut.i, .string ut.t, .bool xo] 90)).trans hb7)
              have HT7 := Lib.hid ((htb3.alloc (.cells #[.int .i64 uf.k, .int .i64 uf.i, .string uf.t, .int .i64 ut.k, .int .i64 ut.i, .string ut.t, .bool xo] 90)).trans ht7)
              have HP7 := Lib.hid ((HP3.out.alloc (.cells #[.int .i64 uf.k, .int .i64 uf.i, .string uf.t, .int .i64 ut.k, .int .i64 ut.i, .string ut.t, .bool xo] 90)).tb (by decide) ht7)
              have hs7 := HB7.out.size
              clear hO7 hb7 ht7 d0 d1 d2 d3 d4 d5 d6 hb3 htb3
              go_wp2_with fail
              refine (encV_any w0.heap.size A7 m7 c7 (cl2 ++ encV uf) ut _ HO7.out (by omega) (by omega) Huok.out.2.1 Huok.out.2.2).mono ?_
              rintro e w8 ⟨A8, c8, rfl, hO8, hb8, ht8⟩
              have HO8 := Lib.hid hO8
              have Hl8 : Hid ((cl2 ++ encV uf ++ encV ut).length = m7 + 10 + ut.t.size) := by show _ = _; rw [List.length_append, encV_len, Hm7.out]; omega
              obtain ⟨m8, Hm8⟩ : ∃ z, Hid ((cl2 ++ encV uf ++ encV ut).length = z) := ⟨_, rfl⟩
              rw [Hm8.out] at HO8 Hl8 ⊢
              clear hx7 hO8
              go_wp2
              go_roundw
              case rel =>
                refine ⟨j + 1, m8, A8, c8, cl2 ++ encV uf ++ encV ut, by omega, by go_num, rfl, ?_, ?_, HO8.out, HB7.out.trans hb8, HT7.out.trans ht8, HP7.out.tb (by decide) ht8⟩
                · have h1 := Hl8.out
                  have h3 : ut.t.size ≤ 64 := Huok.out.2.2
                  omega
                · show _ = _
                  rw [Hts.out, Hcl2.out]
                  simp [encI]
              case measure => simp [intOf]; omega
            · have hx3 := HP3.out.cell
              have hme : m2 + 10000 * qq ≤ 1000000 := by omega
              go_wp2_with fail
              refine (HI'.out x1 f1 A2 n2 c2 A'' m2 c'' cl2 _ PR.out Hpok.out.2.2 (by rw [Hqq.out]; omega) hb3 HO2.out (by rw [Hqq.out]; exact hme)).mono ?_
              rintro e w9 ⟨A9, m9, c9, rfl, hO9, hb9, ht9⟩
              have HO9 := Lib.hid hO9
              have Hl9 := Lib.hid hO9.2
              clear hO9 hx3
              go_wp2
              go_roundw
              case rel =>
                refine ⟨k + 1, q - 1 - qq, A9, m9, c9, cl2 ++ encR p.2, by omega, by go_num, rfl, ?_, ?_, ?_, HO9.out.1, hb9, htb3.trans ht9⟩
                · have h1 := Hl9.out
                  have h2 := encR_len Hpok.out.2.2
                  rw [List.length_append, HO2.out.2] at h1
                  rw [Hqq.out] at h2
                  omega
                · show _ = _
                  have h1 := Hq.out
                  have h2 := Hd.out
                  rw [Hqq.out] at h2
                  omega
                · show _ = _
                  have e1 : p.1.take j = p.1 := List.take_of_length_le (by have := Hn1.out; omega)
                  rw [Htk.out, Hcl2.out, Hcl.out, e1]
                  simp [encP, Hn1.out]
              case measure => simp [intOf]; omega
        · go_wp2
          go_ret
          refine ⟨A', m', c', rfl, ⟨?_, ?_⟩, hb, htb⟩
          · have e1 : r.parts.take k = r.parts := List.take_of_length_le (by rw [len_parts]; have := HN.out; omega)
            have h1 := Hcl.out
            rw [e1, ← encB_parts] at h1
            have h2 : bs ++ encR r = cl := by rw [h1, encR]; simp
            rw [h2]
            exact hown
          · have e1 : r.parts.take k = r.parts := List.take_of_length_le (by rw [len_parts]; have := HN.out; omega)
            have h1 := Hcl.out
            rw [e1, ← encB_parts] at h1
            have h2 : bs ++ encR r = cl := by rw [h1, encR]; simp
            rw [h2]
            have := hown.1
            rw [flat_len u8v_len] at this
            omega
end Go.Proofs.YtmnmckblmoalkaaGreat

/-
  Plain: the bytes of a canonical region tell it from every other canonical region of its width. No program here.
-/
namespace Go.Proofs.YtmnmckblmoalkaaGreat
open Go.RowKit
set_option maxRecDepth 100000
open Rg

/-- a number of 64 bits -/
def rgV (v : Vl) : Prop := -9223372036854775808 ≤ v.i ∧ v.i < 9223372036854775808
def WfR : Rg → Prop
  | .nil _ _ => True
  | .cons vs rest tail => (∀ x ∈ vs, rgV x.f ∧ rgV x.t) ∧ WfR rest ∧ WfR tail
theorem WfR.mem {p : List Iv × Rg} : ∀ {r : Rg}, WfR r → p ∈ r.parts → (∀ x ∈ p.1, rgV x.f ∧ rgV x.t) ∧ WfR p.2
  | .nil _ _, _, h => by cases h
  | .cons vs rest tail, ho, h => by
    rcases List.mem_cons.1 h with rfl | h
    · exact ⟨ho.1, ho.2.1⟩
    · exact WfR.mem ho.2.2 h
theorem WfR.of {w : Int} {f : Bool} : ∀ {L : List (List Iv × Rg)}, (∀ p ∈ L, (∀ x ∈ p.1, rgV x.f ∧ rgV x.t) ∧ WfR p.2) → WfR (mkR w f L)
  | [], _ => trivial
  | p :: L, h => ⟨(h p List.mem_cons_self).1, (h p List.mem_cons_self).2, WfR.of fun q hq => h q (List.mem_cons_of_mem _ hq)⟩
theorem EncOk.of {w : Int} {f : Bool} : ∀ {L : List (List Iv × Rg)}, (∀ p ∈ L, p.1.length ≤ 64 ∧ (∀ x ∈ p.1, okV x.f ∧ okV x.t) ∧ EncOk p.2) → EncOk (mkR w f L)
  | [], _ => trivial
  | p :: L, h => ⟨(h p List.mem_cons_self).1, (h p List.mem_cons_self).2.1, (h p List.mem_cons_self).2.2, EncOk.of fun q hq => h q (List.mem_cons_of_mem _ hq)⟩
theorem valid_ok {v : Vl} (h : validV v = true) : okV v := by
  unfold validV at h
  have emp : v.t.toList.isEmpty = true → v.t.size = 0 := fun h => by
    rw [List.isEmpty_iff, ByteArray.toList_eq] at h
    have := congrArg List.length h
    simpa using this
  unfold okV
  split at h
  · rename_i hk
    simp only [Bool.and_eq_true] at h
    have := emp h.2
    omega
  · split at h
    · simp only [Bool.and_eq_true] at h
      have := emp h.2
      omega
    · split at h
      · have := emp h
        omega
      · split at h
        · simp only [Bool.and_eq_true, decide_eq_true_eq] at h
          omega
        · cases h
theorem zero_ok : okV zeroV := ⟨⟨by decide, by decide⟩, by decide⟩
/-- an interval of a canonical list is closed with a valid end, or open with none -/
def goodI (x : Iv) : Prop := validV x.f = true ∧ ((x.o = true ∧ x.t = zeroV) ∨ (x.o = false ∧ validV x.t = true))
theorem ord_good : ∀ (l : List Iv) (p : Option Iv), ordFrom p l = true → ∀ x ∈ l, goodI x
  | [], _, _, x, h => by cases h
  | y :: l, p, h, x, hx => by
    rw [ordFrom_cons, Bool.and_eq_true] at h
    rcases List.mem_cons.1 hx with rfl | hx
    · have h1 := h.1
      unfold okI at h1
      simp only [Bool.and_eq_true] at h1
      refine ⟨h1.1.1, ?_⟩
      have h2 := h1.2
      split at h2
      · rename_i ho
        simp only [Bool.and_eq_true, decide_eq_true_eq] at h2
        exact .inl ⟨ho, h2.2⟩
      · rename_i ho
        simp only [Bool.and_eq_true, decide_eq_true_eq] at h2
        exact .inr ⟨by simpa using ho, h2.1⟩
    · exact ord_good l _ h.2 x hx
theorem good_okV {x : Iv} (h : goodI x) : okV x.f ∧ okV x.t := by
  refine ⟨valid_ok h.1, ?_⟩
  rcases h.2 with ⟨_, e⟩ | ⟨_, e⟩
  · rw [e]; exact zero_ok
  · exact valid_ok e
theorem good_eq {x y : Iv} (hx : goodI x) (hy : goodI y) (h1 : x.f = y.f) (h2 : x.t = y.t) : x = y := by
  obtain ⟨xf, xt, xo⟩ := x
  obtain ⟨yf, yt, yo⟩ := y
  simp only at h1 h2
  subst h1 h2
  have hz : validV zeroV = false := by decide
  rcases hx.2 with ⟨a1, a2⟩ | ⟨a1, a2⟩ <;> rcases hy.2 with ⟨b1, b2⟩ | ⟨b1, b2⟩ <;> simp only at a1 a2 b1 b2
  · rw [a1, b1]
  · rw [a2, hz] at b2; cases b2
  · rw [b2, hz] at a2; cases a2
  · rw [a1, b1]
theorem form_enc : ∀ (n : Nat) (r : Rg), Form n r → r.fits = true → EncOk r
  | 0, r, h, _ => by
    cases r with
    | nil => trivial
    | cons vs rest tail => have := h.2; simp [parts] at this
  | n + 1, r, h, hf => by
    rw [← mk_parts r]
    refine EncOk.of fun p hp => ?_
    obtain ⟨_, h2, h3, _⟩ := h.2.2.1 p hp
    have h4 := fits_mem hf hp
    exact ⟨h4.1, fun x hx => good_okV (ord_good _ _ h2 x hx), form_enc n _ h3 h4.2⟩
theorem num_inj {i j : Int} (hi : -9223372036854775808 ≤ i ∧ i < 9223372036854775808) (hj : -9223372036854775808 ≤ j ∧ j < 9223372036854775808) (h : numBs i 8 = numBs j 8) : i = j := by
  simp only [numBs, List.nil_append, List.cons_append, List.cons.injEq, and_true, numB] at h
  have e : ∀ x : Int, IntKind.u64.wrap x = x % 18446744073709551616 := fun x => by simp [IntKind.wrap, IntKind.bits, IntKind.signed]
  rw [e, e] at h
  omega
theorem tx_inj {a b : ByteArray} (h : txB a = txB b) : a = b := by
  rw [text_eq]
  unfold txB at h
  refine List.map_inj_right (f := fun b : UInt8 => (b.toNat : Int)) ?_ |>.1 h
  intro x y hxy
  have : x.toNat = y.toNat := Int.ofNat.inj hxy
  exact UInt8.toNat_inj.1 this
theorem encV_inj {v u : Vl} (hv : rgV v) (hu : rgV u) {s t : List Int} (h : encV v ++ s = encV u ++ t) : v = u ∧ s = t := by
  obtain ⟨vk, vi, vt⟩ := v
  obtain ⟨uk, ui, ut⟩ := u
  simp only [encV, List.append_assoc, List.cons_append, List.nil_append, List.cons.injEq] at h
  obtain ⟨h1, h2⟩ := h
  obtain ⟨h3, h4⟩ := List.append_inj h2 (by rw [numBs_len, numBs_len])
  simp only [List.cons.injEq] at h4
  obtain ⟨h5, h6⟩ := h4
  have hl : ∀ t : ByteArray, (txB t).length = t.size := fun t => by simp [txB, ByteArray.toList_eq]
  obtain ⟨h7, h8⟩ := List.append_inj h6 (by rw [hl, hl]; omega)
  have h9 := num_inj hv hu h3
  have h10 := tx_inj h7
  subst h1 h9 h10
  exact ⟨rfl, h8⟩
theorem encI_inj {x y : Iv} (hx : goodI x) (hy : goodI y) (rx : rgV x.f ∧ rgV x.t) (ry : rgV y.f ∧ rgV y.t) {s t : List Int} (h : encI x ++ s = encI y ++ t) : x = y ∧ s = t := by
  simp only [encI, List.append_assoc] at h
  obtain ⟨h1, h2⟩ := encV_inj rx.1 ry.1 h
  obtain ⟨h3, h4⟩ := encV_inj rx.2 ry.2 h2
  exact ⟨good_eq hx hy h1 h3, h4⟩
theorem encIs_inj : ∀ (l m : List Iv), l.length = m.length → (∀ x ∈ l, goodI x ∧ rgV x.f ∧ rgV x.t) → (∀ x ∈ m, goodI x ∧ rgV x.f ∧ rgV x.t) → ∀ s t, l.flatMap encI ++ s = m.flatMap encI ++ t → l = m ∧ s = t
  | [], [], _, _, _, s, t, h => ⟨rfl, by simpa using h⟩
  | [], _ :: _, h, _, _, _, _, _ => by simp at h
  | _ :: _, [], h, _, _, _, _, _ => by simp at h
  | x :: l, y :: m, hl, hx, hy, s, t, h => by
    simp only [List.flatMap_cons, List.append_assoc] at h
    obtain ⟨h1, h2⟩ := encI_inj (hx x List.mem_cons_self).1 (hy y List.mem_cons_self).1 (hx x List.mem_cons_self).2 (hy y List.mem_cons_self).2 h
    obtain ⟨h3, h4⟩ := encIs_inj l m (by simpa using hl) (fun z hz => hx z (List.mem_cons_of_mem _ hz)) (fun z hz => hy z (List.mem_cons_of_mem _ hz)) s t h2
    exact ⟨by rw [h1, h3], h4⟩
def encG (n : Nat) (p : List Iv × Rg) : Prop := (∀ x ∈ p.1, goodI x ∧ rgV x.f ∧ rgV x.t) ∧ Form n p.2 ∧ WfR p.2
theorem encPs_inj (n : Nat) (ih : ∀ a b : Rg, Form n a → Form n b → WfR a → WfR b → ∀ s t, encR a ++ s = encR b ++ t → a = b ∧ s = t) :
    ∀ (l m : List (List Iv × Rg)), l.length = m.length → (∀ p ∈ l, encG n p) → (∀ p ∈ m, encG n p) → ∀ s t, l.flatMap encP ++ s = m.flatMap encP ++ t → l = m ∧ s = t
  | [], [], _, _, _, s, t, h => ⟨rfl, by simpa using h⟩
  | [], _ :: _, h, _, _, _, _, _ => by simp at h
  | _ :: _, [], h, _, _, _, _, _ => by simp at h
  | p :: l, q :: m, hl, hx, hy, s, t, h => by
    simp only [List.flatMap_cons, encP, List.append_assoc, List.cons_append, List.nil_append, List.cons.injEq] at h
    obtain ⟨h1, h2⟩ := h
    have a := hx p List.mem_cons_self
    have b := hy q List.mem_cons_self
    obtain ⟨h3, h4⟩ := encIs_inj p.1 q.1 (by omega) a.1 b.1 _ _ h2
    obtain ⟨h5, h6⟩ := ih p.2 q.2 a.2.1 b.2.1 a.2.2 b.2.2 _ _ h4
    obtain ⟨h7, h8⟩ := encPs_inj n ih l m (by simpa using hl) (fun z hz => hx z (List.mem_cons_of_mem _ hz)) (fun z hz => hy z (List.mem_cons_of_mem _ hz)) s t h6
    exact ⟨by rw [h7, Prod.ext h3 h5], h8⟩
theorem fbit_inj {a b : Bool} (h : fbit a = fbit b) : a = b := by cases a <;> cases b <;> first | rfl | (simp [fbit] at h)
theorem encR_inj' : ∀ (n : Nat) (a b : Rg), Form n a → Form n b → WfR a → WfR b → ∀ s t, encR a ++ s = encR b ++ t → a = b ∧ s = t
  | 0, a, b, ha, hb, _, _, s, t, h => by
    simp only [encR, encB_parts, ha.2, hb.2, List.flatMap_nil, List.append_nil, List.cons_append, List.nil_append, List.cons.injEq] at h
    exact ⟨Rg.ext (ha.1.trans hb.1.symm) (fbit_inj h.1) (ha.2.trans hb.2.symm), h.2.2⟩
  | n + 1, a, b, ha, hb, wa, wb, s, t, h => by
    simp only [encR, encB_parts, List.cons_append, List.nil_append, List.cons.injEq] at h
    obtain ⟨h1, h2, h3⟩ := h
    have g : ∀ r : Rg, Form (n + 1) r → WfR r → ∀ p ∈ r.parts, encG n p := fun r hr wr p hp => by
      have k1 := hr.2.2.1 p hp
      have k2 := wr.mem hp
      exact ⟨fun x hx => ⟨ord_good _ _ k1.2.1 x hx, k2.1 x hx⟩, k1.2.2.1, k2.2⟩
    obtain ⟨h4, h5⟩ := encPs_inj n (encR_inj' n) a.parts b.parts (by rw [len_parts, len_parts]; omega) (g a ha wa) (g b hb wb) s t h3
    exact ⟨Rg.ext (ha.1.trans hb.1.symm) (ha.2.1.trans hb.2.1.symm) h4, h5⟩
theorem encR_inj {n : Nat} {a b : Rg} (ha : Form n a) (hb : Form n b) (wa : WfR a) (wb : WfR b) (h : encR a = encR b) : a = b :=
  (encR_inj' n a b ha hb wa wb [] [] (by rw [h])).1
end Go.Proofs.YtmnmckblmoalkaaGreat
