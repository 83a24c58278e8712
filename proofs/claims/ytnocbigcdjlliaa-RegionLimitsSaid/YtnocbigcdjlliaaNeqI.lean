import Derived.Test.YtnocbigcdjlliaaBut
namespace Go.Proofs.Ytnocbigcdjlliaa
open Go.RowKit

theorem run_neqI (x y : Iv) (w : World) : (binOp .neq 41 (.agg #[.int .i64 x.f.k, .int .i64 x.f.i, .string x.f.t, .int .i64 x.t.k, .int .i64 x.t.i, .string x.t.t, .bool x.o]) (.agg #[.int .i64 y.f.k, .int .i64 y.f.i, .string y.f.t, .int .i64 y.t.k, .int .i64 y.t.i, .string y.t.t, .bool y.o])).run Try.prog w =
    .ok (.bool (decide (x ≠ y))) w := by
  obtain ⟨⟨a, b, c⟩, ⟨d, e, f⟩, g⟩ := x
  obtain ⟨⟨a', b', c'⟩, ⟨d', e', f'⟩, g'⟩ := y
  have h : decide ((⟨⟨a, b, c⟩, ⟨d, e, f⟩, g⟩ : Iv) ≠ ⟨⟨a', b', c'⟩, ⟨d', e', f'⟩, g'⟩) = !((a == a') && ((b == b') && ((c.toList == c'.toList) && ((d == d') && ((e == e') && ((f.toList == f'.toList) && (g == g'))))))) := by
    rw [Bool.eq_iff_iff]
    simp only [Iv.mk.injEq, Vl.mk.injEq, text_eq, decide_eq_true_eq, Bool.not_eq_true', Bool.and_eq_false_imp, beq_iff_eq, ne_eq, not_and, beq_eq_false_iff_ne, and_assoc]
  rw [h]
  clear h
  by_cases h1 : (a == a') = true
  · by_cases h2 : (b == b') = true
    · by_cases h3 : (c.toList == c'.toList) = true
      · by_cases h4 : (d == d') = true
        · by_cases h5 : (e == e') = true
          · by_cases h6 : (f.toList == f'.toList) = true
            · simp [go_sem, h1, h2, h3, h4, h5, h6]
              split <;> simp_all
            · simp [go_sem, h1, h2, h3, h4, h5, h6]
          · simp [go_sem, h1, h2, h3, h4, h5]
        · simp [go_sem, h1, h2, h3, h4]
      · simp [go_sem, h1, h2, h3]
    · simp [go_sem, h1, h2]
  · simp [go_sem, h1]
end Go.Proofs.Ytnocbigcdjlliaa
