/- Histograms: HistGrows answers true: the law. -/
import Derived.Test.YtokdkmlpfkeeaaaHistC
namespace Go.Fx
open Go.Proofs
set_option maxRecDepth 100000
set_option maxHeartbeats 8000000
set_option linter.unusedVariables false
set_option linter.unusedSimpArgs false
namespace Hist
attribute [local irreducible] QOk
theorem law8 (n : Nat) (l : Nat → Int) (p : Int) (hx : ∀ i, -2147483648 ≤ l i ∧ l i ≤ 2147483647) : CallIn Try.prog 8 [Sl n (Is32 l), I p] [] ⟨.ret, [B true], []⟩ := by
  by_cases hn : n ≤ 60
  · obtain ⟨A, s, m, h, hq⟩ := loop8a n l p hx hn n 0 [0, 0, 0, 0, 0, 0, 0, 0, 0, 0] 0 0 (by omega) (by
      refine ⟨rfl, by decide, fun k hk => ?_, rfl, rfl, rfl, rfl⟩
      match k, hk with
      | 0, _ => rfl
      | 1, _ => rfl
      | 2, _ => rfl
      | 3, _ => rfl
      | 4, _ => rfl
      | 5, _ => rfl
      | 6, _ => rfl
      | 7, _ => rfl)
    refine treeIn_i hP (law8_t n l p A s m (fun k => cnt l (bound k) n)) ?_
    have v1 : IntKind.i64.wrap (0 + 1) = 1 := by decide
    have v2 : IntKind.i64.wrap (1 + 1) = 2 := by decide
    have v3 : IntKind.i64.wrap (2 + 1) = 3 := by decide
    have v4 : IntKind.i64.wrap (3 + 1) = 4 := by decide
    have v5 : IntKind.i64.wrap (4 + 1) = 5 := by decide
    have v6 : IntKind.i64.wrap (5 + 1) = 6 := by decide
    have v7 : IntKind.i64.wrap (6 + 1) = 7 := by decide
    have v8 : IntKind.i64.wrap (7 + 1) = 8 := by decide
    have hL : [nth A 0, nth A 1, nth A 2, nth A 3, nth A 4, nth A 5, nth A 6, nth A 7, nth A 8, nth A 9] = A := h.ten
    have hin := fun k => loop8c n l p A m k [hbelow [nth A 0, nth A 1, nth A 2, nth A 3, nth A 4, nth A 5, nth A 6, nth A 7, nth A 8, nth A 9] 0, hbelow [nth A 0, nth A 1, nth A 2, nth A 3, nth A 4, nth A 5, nth A 6, nth A 7, nth A 8, nth A 9] 1, hbelow [nth A 0, nth A 1, nth A 2, nth A 3, nth A 4, nth A 5, nth A 6, nth A 7, nth A 8, nth A 9] 2, hbelow [nth A 0, nth A 1, nth A 2, nth A 3, nth A 4, nth A 5, nth A 6, nth A 7, nth A 8, nth A 9] 3, hbelow [nth A 0, nth A 1, nth A 2, nth A 3, nth A 4, nth A 5, nth A 6, nth A 7, nth A 8, nth A 9] 4, hbelow [nth A 0, nth A 1, nth A 2, nth A 3, nth A 4, nth A 5, nth A 6, nth A 7, nth A 8, nth A 9] 5, hbelow [nth A 0, nth A 1, nth A 2, nth A 3, nth A 4, nth A 5, nth A 6, nth A 7, nth A 8, nth A 9] 6, hbelow [nth A 0, nth A 1, nth A 2, nth A 3, nth A 4, nth A 5, nth A 6, nth A 7, nth A 8, nth A 9] 7, hbelow [nth A 0, nth A 1, nth A 2, nth A 3, nth A 4, nth A 5, nth A 6, nth A 7, nth A 8, nth A 9] 8] hx hn n 0 (by omega)
    have q40 := c40 (nth A 0) (nth A 1) (nth A 2) (nth A 3) (nth A 4) (nth A 5) (nth A 6) (nth A 7) (nth A 8) (nth A 9)
    have q36 := c36 (nth A 0) (nth A 1) (nth A 2) (nth A 3) (nth A 4) (nth A 5) (nth A 6) (nth A 7) (nth A 8) (nth A 9)
    have q42 : QOk Try.prog CK (.call 42 [Hi (nth A 0) (nth A 1) (nth A 2) (nth A 3) (nth A 4) (nth A 5) (nth A 6) (nth A 7) (nth A 8) (nth A 9), I p] []) (leastS [nth A 0, nth A 1, nth A 2, nth A 3, nth A 4, nth A 5, nth A 6, nth A 7, nth A 8, nth A 9] p).val := by
      rw [leastS_val]; exact c42 _ _ _ _ _ _ _ _ _ _ _
    have hb : ∀ k : Nat, hbelow A k = acc A k := fun k => by unfold hbelow; rw [if_pos h.right]
    have hb0 : hbelow A 0 = cnt l (bound 0) n := (hb 0).trans (h.below 0 (by omega))
    have hb1 : hbelow A 1 = cnt l (bound 1) n := (hb 1).trans (h.below 1 (by omega))
    have hb2 : hbelow A 2 = cnt l (bound 2) n := (hb 2).trans (h.below 2 (by omega))
    have hb3 : hbelow A 3 = cnt l (bound 3) n := (hb 3).trans (h.below 3 (by omega))
    have hb4 : hbelow A 4 = cnt l (bound 4) n := (hb 4).trans (h.below 4 (by omega))
    have hb5 : hbelow A 5 = cnt l (bound 5) n := (hb 5).trans (h.below 5 (by omega))
    have hb6 : hbelow A 6 = cnt l (bound 6) n := (hb 6).trans (h.below 6 (by omega))
    have hb7 : hbelow A 7 = cnt l (bound 7) n := (hb 7).trans (h.below 7 (by omega))
    have hb8 : hbelow A 8 = m := (hb 8).trans (h.all.trans h.m.symm)
    have hs : nth A 9 = s := h.sum.trans h.s.symm
    have m0 : cnt l (bound 0) n ≤ cnt l (bound 1) n := cnt_mono l (by decide) n
    have m1 : cnt l (bound 1) n ≤ cnt l (bound 2) n := cnt_mono l (by decide) n
    have m2 : cnt l (bound 2) n ≤ cnt l (bound 3) n := cnt_mono l (by decide) n
    have m3 : cnt l (bound 3) n ≤ cnt l (bound 4) n := cnt_mono l (by decide) n
    have m4 : cnt l (bound 4) n ≤ cnt l (bound 5) n := cnt_mono l (by decide) n
    have m5 : cnt l (bound 5) n ≤ cnt l (bound 6) n := cnt_mono l (by decide) n
    have m6 : cnt l (bound 6) n ≤ cnt l (bound 7) n := cnt_mono l (by decide) n
    have m7 : cnt l (bound 7) n ≤ m := by rw [h.m]; exact (cnt_rng l _ n).2
    have mp : 0 ≤ cnt l (bound 0) n := (cnt_rng l _ n).1
    have mm : m ≤ 60 := by have := (many_rng l n).2; have := h.m; omega
    simp only [Sc.Ok, v1, v2, v3, v4, v5, v6, v7, v8]
    repeat' first | exact c31 | exact hq | exact q40 | exact q36 | exact q42 | exact hin _ | apply And.intro | intro _
    all_goals simp only [hL] at *
    all_goals simp only [hb0, hb1, hb2, hb3, hb4, hb5, hb6, hb7, hb8, hs, h.right] at *
    all_goals clear hin q40 q36 q42 hq
    all_goals
      have hz : 0 ≤ p → p ≤ 1000 → IntKind.i64.wrap (p * m) = p * m := fun h1 h2 => by
        have g1 : 0 ≤ p * m := Int.mul_nonneg h1 (by omega)
        have g2 : p * m ≤ 1000 * m := Int.mul_le_mul_of_nonneg_right h2 (by omega)
        exact w64 (by omega)
    all_goals
      have hzz : 0 ≤ p → p ≤ 1000 → p * m ≤ 1000 * m := fun h1 h2 => Int.mul_le_mul_of_nonneg_right h2 (by rename_i hmm; omega)
    all_goals
      have z0 : IntKind.i64.wrap (cnt l (bound 0) n * 1000) = cnt l (bound 0) n * 1000 := w64 (by omega)
      have z1 : IntKind.i64.wrap (cnt l (bound 1) n * 1000) = cnt l (bound 1) n * 1000 := w64 (by omega)
      have z2 : IntKind.i64.wrap (cnt l (bound 2) n * 1000) = cnt l (bound 2) n * 1000 := w64 (by omega)
      have z3 : IntKind.i64.wrap (cnt l (bound 3) n * 1000) = cnt l (bound 3) n * 1000 := w64 (by omega)
      have z4 : IntKind.i64.wrap (cnt l (bound 4) n * 1000) = cnt l (bound 4) n * 1000 := w64 (by omega)
      have z5 : IntKind.i64.wrap (cnt l (bound 5) n * 1000) = cnt l (bound 5) n * 1000 := w64 (by omega)
      have z6 : IntKind.i64.wrap (cnt l (bound 6) n * 1000) = cnt l (bound 6) n * 1000 := w64 (by omega)
      have z7 : IntKind.i64.wrap (cnt l (bound 7) n * 1000) = cnt l (bound 7) n * 1000 := w64 (by omega)
      have z8 : IntKind.i64.wrap (m * 1000) = m * 1000 := w64 (by omega)
      simp only [z0, z1, z2, z3, z4, z5, z6, z7, z8] at *
      clear z0 z1 z2 z3 z4 z5 z6 z7 z8
      generalize cnt l (bound 0) n = e0 at *
      generalize cnt l (bound 1) n = e1 at *
      generalize cnt l (bound 2) n = e2 at *
      generalize cnt l (bound 3) n = e3 at *
      generalize cnt l (bound 4) n = e4 at *
      generalize cnt l (bound 5) n = e5 at *
      generalize cnt l (bound 6) n = e6 at *
      generalize cnt l (bound 7) n = e7 at *
      generalize IntKind.i64.wrap (p * m) = y at *
      generalize p * m = z at *
      clear hL hb hb0 hb1 hb2 hb3 hb4 hb5 hb6 hb7 hb8 hs h
      simp only [bne_iff_ne, ne_eq, beq_iff_eq, decide_eq_true_eq, decide_eq_false_iff_not, bne_eq_false_iff_eq, beq_eq_false_iff_ne, Bool.not_eq_true', Bool.not_eq_false', Bool.not_true, Bool.not_false, not_true_eq_false] at *
    all_goals first
      | rfl
      | contradiction
      | (exfalso; omega)
      | (refine ar (congrArg B ?_); simp only [beq_iff_eq, decide_eq_true_eq]; omega)
      | (refine ar (congrArg B ?_); simp; omega)
  · refine treeIn_i hP (law8_t n l p [] 0 0 (fun _ => 0)) ?_
    simp only [Sc.Ok]
    refine ⟨c31, fun _ => trivial, fun h => ?_⟩
    simp at h; omega
end Hist
end Go.Fx
