/- The states that a tape writes. -/
import Derived.Test.YtiipggfhjkalfaaProg
import Derived.Test.YtiipggfhjkalfaaPmU
import Derived.Test.YtiipggfhjkalfaaYaG
set_option linter.unusedSimpArgs false
set_option linter.unusedVariables false
set_option maxRecDepth 20000
open Go Go.Proofs
namespace Go.Proofs.Ytiipggfhjkalfaa
open Pm
attribute [local irreducible] Wait CallT CallW NextT Le Weak
def WrittenY (i : Int) : List Int :=
  if i = 0 then zero10
  else if i ≤ 4 then [1, i - 1, 0, 0, 0, 0, 0, 0, 0, 0]
  else if i ≤ 12 then [1, (i - 5).tdiv 2, 0, 8 + (i - 5).tmod 2, 0, 0, 0, 0, 0, 0]
  else if i ≤ 16 then [2, i - 13, 0, 0, 0, 0, 0, 0, 0, 0]
  else if i ≤ 24 then [3, (i - 17).tdiv 2, (i - 17).tmod 2, 0, 0, 0, 0, 0, 0, 0]
  else if i ≤ 32 then [4, (i - 25).tdiv 2, (i - 25).tmod 2, 0, 0, 0, 0, 0, 0, 0]
  else if i ≤ 40 then [5, (i - 33).tdiv 2, (i - 33).tmod 2, 0, 0, 0, 0, 0, 0, 0]
  else if i ≤ 48 then [6, (i - 41).tdiv 2, (i - 41).tmod 2, 0, 0, 0, 0, 0, 0, 0]
  else if i ≤ 56 then [7, (i - 49).tdiv 2, (i - 49).tmod 2, 0, 0, 0, 0, 0, 0, 0]
  else if i ≤ 64 then [8, (i - 57).tdiv 2, (i - 57).tmod 2, 0, 0, 0, 1, 0, 0, 0]
  else if i ≤ 68 then [9, i - 65, 0, 0, 0, 0, 0, 0, 1, 0]
  else [10, i - 69, 0, 0, 0, 1, 0, 0, 0, 0]
def WrittenStateE (i : Int) : Int × Int := if i < 0 ∨ 73 ≤ i then (0, 19) else YardStateE (WrittenY i)
def RefWrittenStateE (i : Int) : Int × Int := if i < 0 ∨ 73 ≤ i then (0, 19) else if i = 0 then (0, 0) else ((RefYardStateE (WrittenY i)).1, 0)
theorem wI (i c : Int) (h0 : 0 ≤ i) (h1 : i < 73) (h2 : 0 ≤ c) (h3 : c < 73) : IntKind.i64.wrap (i - c) = i - c := wrapI (by omega) (by omega)
theorem tdiv_bd (a : Int) (h0 : -73 ≤ a) (h1 : a < 73) : -73 ≤ a.tdiv 2 ∧ a.tdiv 2 < 73 := by
  rcases Int.le_total 0 a with h | h
  · rw [Int.tdiv_eq_ediv_of_nonneg h]; omega
  · have e : a = -(-a) := by omega
    rw [e, Int.neg_tdiv, Int.tdiv_eq_ediv_of_nonneg (by omega)]; omega
theorem tmod_bd (a : Int) : -2 < a.tmod 2 ∧ a.tmod 2 < 2 := by
  have h1 := Int.tmod_lt_of_pos a (show (0 : Int) < 2 by omega)
  have h2 := Int.lt_tmod_of_pos a (show (0 : Int) < 2 by omega)
  omega
theorem wQ (i c : Int) (h0 : 0 ≤ i) (h1 : i < 73) (h2 : 0 ≤ c) (h3 : c < 73) : IntKind.i64.wrap ((i - c).tdiv 2) = (i - c).tdiv 2 := by
  have := tdiv_bd (i - c) (by omega) (by omega)
  exact wrapI (by omega) (by omega)
theorem wM (a : Int) : IntKind.i64.wrap (8 + a.tmod 2) = 8 + a.tmod 2 := by
  have := tmod_bd a
  exact wrapI (by omega) (by omega)
theorem two_con (i kind first : Int) (y : List Int) (hy : y.length = 10) (h0 : 0 ≤ i) (h1 : i < 73) (h2 : 0 ≤ first) (h3 : first < 73) :
    Con Try.prog 45 [iA kind, iA first, .ptr 0 1 0 0, .ptr 1 10 0 0] [some (.row 3 1 [iA i]), some (.row 37 10 [yA y])]
      fun x h => x = .tup [] ∧ h = [some (.row 3 1 [iA i]), some (.row 37 10 [yA (((y.set 0 kind).set 1 ((i - first).tdiv 2)).set 2 ((i - first).tmod 2))])] := by
  obtain ⟨k, d, s, s1, s2, ph, as1, se, ro, co, rfl⟩ := ten_of y hy
  have w1 := wI i first h0 h1 h2 h3
  have w2 := wQ i first h0 h1 h2 h3
  refine con_run 1000 Try.func45 rfl Try.results45 Try.ntmps45 (Nat.le_of_ble_eq_true rfl) ?_
  simp (maxSteps := 1000000) -implicitDefEqProofs only [go_sem, ↓reduceIte, reduceCtorEq, Nat.reduceEqDiff, Nat.reduceLT, Nat.reduceAdd, Nat.reduceLeDiff, Nat.reduceMul, Nat.reduceSub, Int.reduceToNat, Int.reduceLT, Int.reduceLE, Int.reduceEq, Int.reduceBNe, Nat.reduceBEq, yA, iA]
  refine wait_drawW (fun id => id == 1) 1000 mixed (by decide +kernel) ?_
  simp (maxSteps := 1000000) -implicitDefEqProofs only [go_sem, ↓reduceIte, reduceCtorEq, Nat.reduceEqDiff, Nat.reduceLT, Nat.reduceAdd, Nat.reduceLeDiff, Nat.reduceMul, Nat.reduceSub, Int.reduceToNat, Int.reduceLT, Int.reduceLE, Int.reduceEq, Int.reduceBNe, Nat.reduceBEq, w1, w2]
theorem writtenY_len (i : Int) : (WrittenY i).length = 10 := by
  unfold WrittenY
  repeat' (first | rfl | refine ite_P (Q := fun l : List Int => l.length = 10) ?_ ?_)
theorem written_pc (i : Int) : PCon Try.prog 16 [iA i] (· = .tup [iA (WrittenStateE i).1, iA (WrittenStateE i).2]) := by
  refine pcon_run 1000 Try.func16 rfl Try.results16 Try.ntmps16 (Nat.le_of_ble_eq_true rfl) ?_
  by_cases h0 : i < 0
  · simp (maxSteps := 1000000) -implicitDefEqProofs only [go_sem, ↓reduceIte, reduceCtorEq, Nat.reduceEqDiff, Nat.reduceLT, Nat.reduceAdd, Nat.reduceLeDiff, Nat.reduceMul, Nat.reduceSub, Int.reduceToNat, Int.reduceLT, Int.reduceLE, Int.reduceEq, Int.reduceBNe, Nat.reduceBEq, iA, h0]
    simp [fz_v, fz_agg, fz_tup, fz_fsl, fzL_nil, fzL_cons, WrittenStateE, h0, iA]
  · by_cases h1 : 73 ≤ i
    · simp (maxSteps := 1000000) -implicitDefEqProofs only [go_sem, ↓reduceIte, reduceCtorEq, Nat.reduceEqDiff, Nat.reduceLT, Nat.reduceAdd, Nat.reduceLeDiff, Nat.reduceMul, Nat.reduceSub, Int.reduceToNat, Int.reduceLT, Int.reduceLE, Int.reduceEq, Int.reduceBNe, Nat.reduceBEq, iA, h0, h1]
      simp [fz_v, fz_agg, fz_tup, fz_fsl, fzL_nil, fzL_cons, WrittenStateE, h1, iA]
    · have e0 : 0 ≤ i := by omega
      have e1 : i < 73 := by omega
      have w1 := wI i 1 e0 e1 (by omega) (by omega)
      have w5 := wI i 5 e0 e1 (by omega) (by omega)
      have q5 := wQ i 5 e0 e1 (by omega) (by omega)
      have w13 := wI i 13 e0 e1 (by omega) (by omega)
      have w65 := wI i 65 e0 e1 (by omega) (by omega)
      have w69 := wI i 69 e0 e1 (by omega) (by omega)
      have hE : WrittenStateE i = YardStateE (WrittenY i) := by unfold WrittenStateE; rw [if_neg (by omega)]
      rw [hE]
      simp (maxSteps := 1000000) -implicitDefEqProofs only [go_sem, ↓reduceIte, reduceCtorEq, Nat.reduceEqDiff, Nat.reduceLT, Nat.reduceAdd, Nat.reduceLeDiff, Nat.reduceMul, Nat.reduceSub, Int.reduceToNat, Int.reduceLT, Int.reduceLE, Int.reduceEq, Int.reduceBNe, Nat.reduceBEq, iA, h0, h1]
      (repeat' (first | exact trivial | contradiction | exact ⟨_, rfl⟩ | refine And.intro ?_ ?_ | ((first | show (_ : Nat) ≤ _ | show (_ : Nat) < _ | show (_ : Int) ≤ _ | show (_ : Int) < _); omega) | ((first | refine wait_draw 1000 mixed (by decide +kernel) ?_ | refine wait_drawW (fun id => id == 1) 1000 mixed (by decide +kernel) ?_); simp (maxSteps := 1000000) -implicitDefEqProofs only [go_sem, ↓reduceIte, reduceCtorEq, Nat.reduceEqDiff, Nat.reduceLT, Nat.reduceAdd, Nat.reduceLeDiff, Nat.reduceMul, Nat.reduceSub, Int.reduceToNat, Int.reduceLT, Int.reduceLE, Int.reduceEq, Int.reduceBNe, Nat.reduceBEq, w1, w5, q5, w13, w65, w69, wM, zero10, yA, iA]) | ((first | refine call_con_eq 1000 [0, 1] (two_con i 3 17 zero10 rfl e0 e1 (by omega) (by omega)) ?_ ?_ ?_ (by simp) (by simp) rfl (by first | (simp; done) | exact Nat.le_of_ble_eq_true rfl) | refine call_draw_con 1000 [0, 1] (two_con i 3 17 zero10 rfl e0 e1 (by omega) (by omega)) (by decide +kernel) ?_ ?_ ?_ (by simp) (by simp) rfl (by first | (simp; done) | exact Nat.le_of_ble_eq_true rfl)); (focus (simp (maxSteps := 1000000) -implicitDefEqProofs only [go_sem, ↓reduceIte, reduceCtorEq, Nat.reduceEqDiff, Nat.reduceLT, Nat.reduceAdd, Nat.reduceLeDiff, Nat.reduceMul, Nat.reduceSub, Int.reduceToNat, Int.reduceLT, Int.reduceLE, Int.reduceEq, Int.reduceBNe, Nat.reduceBEq, w1, w5, q5, w13, w65, w69, wM, zero10, yA, iA]; done)); (focus (simp (maxSteps := 1000000) -implicitDefEqProofs only [go_sem, ↓reduceIte, reduceCtorEq, Nat.reduceEqDiff, Nat.reduceLT, Nat.reduceAdd, Nat.reduceLeDiff, Nat.reduceMul, Nat.reduceSub, Int.reduceToNat, Int.reduceLT, Int.reduceLE, Int.reduceEq, Int.reduceBNe, Nat.reduceBEq, w1, w5, q5, w13, w65, w69, wM, zero10, yA, iA]; done)); simp (maxSteps := 1000000) -implicitDefEqProofs only [go_sem, ↓reduceIte, reduceCtorEq, Nat.reduceEqDiff, Nat.reduceLT, Nat.reduceAdd, Nat.reduceLeDiff, Nat.reduceMul, Nat.reduceSub, Int.reduceToNat, Int.reduceLT, Int.reduceLE, Int.reduceEq, Int.reduceBNe, Nat.reduceBEq, w1, w5, q5, w13, w65, w69, wM, zero10, yA, iA]) | ((first | refine call_con_eq 1000 [0, 1] (two_con i 4 25 zero10 rfl e0 e1 (by omega) (by omega)) ?_ ?_ ?_ (by simp) (by simp) rfl (by first | (simp; done) | exact Nat.le_of_ble_eq_true rfl) | refine call_draw_con 1000 [0, 1] (two_con i 4 25 zero10 rfl e0 e1 (by omega) (by omega)) (by decide +kernel) ?_ ?_ ?_ (by simp) (by simp) rfl (by first | (simp; done) | exact Nat.le_of_ble_eq_true rfl)); (focus (simp (maxSteps := 1000000) -implicitDefEqProofs only [go_sem, ↓reduceIte, reduceCtorEq, Nat.reduceEqDiff, Nat.reduceLT, Nat.reduceAdd, Nat.reduceLeDiff, Nat.reduceMul, Nat.reduceSub, Int.reduceToNat, Int.reduceLT, Int.reduceLE, Int.reduceEq, Int.reduceBNe, Nat.reduceBEq, w1, w5, q5, w13, w65, w69, wM, zero10, yA, iA]; done)); (focus (simp (maxSteps := 1000000) -implicitDefEqProofs only [go_sem, ↓reduceIte, reduceCtorEq, Nat.reduceEqDiff, Nat.reduceLT, Nat.reduceAdd, Nat.reduceLeDiff, Nat.reduceMul, Nat.reduceSub, Int.reduceToNat, Int.reduceLT, Int.reduceLE, Int.reduceEq, Int.reduceBNe, Nat.reduceBEq, w1, w5, q5, w13, w65, w69, wM, zero10, yA, iA]; done)); simp (maxSteps := 1000000) -implicitDefEqProofs only [go_sem, ↓reduceIte, reduceCtorEq, Nat.reduceEqDiff, Nat.reduceLT, Nat.reduceAdd, Nat.reduceLeDiff, Nat.reduceMul, Nat.reduceSub, Int.reduceToNat, Int.reduceLT, Int.reduceLE, Int.reduceEq, Int.reduceBNe, Nat.reduceBEq, w1, w5, q5, w13, w65, w69, wM, zero10, yA, iA]) | ((first | refine call_con_eq 1000 [0, 1] (two_con i 5 33 zero10 rfl e0 e1 (by omega) (by omega)) ?_ ?_ ?_ (by simp) (by simp) rfl (by first | (simp; done) | exact Nat.le_of_ble_eq_true rfl) | refine call_draw_con 1000 [0, 1] (two_con i 5 33 zero10 rfl e0 e1 (by omega) (by omega)) (by decide +kernel) ?_ ?_ ?_ (by simp) (by simp) rfl (by first | (simp; done) | exact Nat.le_of_ble_eq_true rfl)); (focus (simp (maxSteps := 1000000) -implicitDefEqProofs only [go_sem, ↓reduceIte, reduceCtorEq, Nat.reduceEqDiff, Nat.reduceLT, Nat.reduceAdd, Nat.reduceLeDiff, Nat.reduceMul, Nat.reduceSub, Int.reduceToNat, Int.reduceLT, Int.reduceLE, Int.reduceEq, Int.reduceBNe, Nat.reduceBEq, w1, w5, q5, w13, w65, w69, wM, zero10, yA, iA]; done)); (focus (simp (maxSteps := 1000000) -implicitDefEqProofs only [go_sem, ↓reduceIte, reduceCtorEq, Nat.reduceEqDiff, Nat.reduceLT, Nat.reduceAdd, Nat.reduceLeDiff, Nat.reduceMul, Nat.reduceSub, Int.reduceToNat, Int.reduceLT, Int.reduceLE, Int.reduceEq, Int.reduceBNe, Nat.reduceBEq, w1, w5, q5, w13, w65, w69, wM, zero10, yA, iA]; done)); simp (maxSteps := 1000000) -implicitDefEqProofs only [go_sem, ↓reduceIte, reduceCtorEq, Nat.reduceEqDiff, Nat.reduceLT, Nat.reduceAdd, Nat.reduceLeDiff, Nat.reduceMul, Nat.reduceSub, Int.reduceToNat, Int.reduceLT, Int.reduceLE, Int.reduceEq, Int.reduceBNe, Nat.reduceBEq, w1, w5, q5, w13, w65, w69, wM, zero10, yA, iA]) | ((first | refine call_con_eq 1000 [0, 1] (two_con i 6 41 zero10 rfl e0 e1 (by omega) (by omega)) ?_ ?_ ?_ (by simp) (by simp) rfl (by first | (simp; done) | exact Nat.le_of_ble_eq_true rfl) | refine call_draw_con 1000 [0, 1] (two_con i 6 41 zero10 rfl e0 e1 (by omega) (by omega)) (by decide +kernel) ?_ ?_ ?_ (by simp) (by simp) rfl (by first | (simp; done) | exact Nat.le_of_ble_eq_true rfl)); (focus (simp (maxSteps := 1000000) -implicitDefEqProofs only [go_sem, ↓reduceIte, reduceCtorEq, Nat.reduceEqDiff, Nat.reduceLT, Nat.reduceAdd, Nat.reduceLeDiff, Nat.reduceMul, Nat.reduceSub, Int.reduceToNat, Int.reduceLT, Int.reduceLE, Int.reduceEq, Int.reduceBNe, Nat.reduceBEq, w1, w5, q5, w13, w65, w69, wM, zero10, yA, iA]; done)); (focus (simp (maxSteps := 1000000) -implicitDefEqProofs only [go_sem, ↓reduceIte, reduceCtorEq, Nat.reduceEqDiff, Nat.reduceLT, Nat.reduceAdd, Nat.reduceLeDiff, Nat.reduceMul, Nat.reduceSub, Int.reduceToNat, Int.reduceLT, Int.reduceLE, Int.reduceEq, Int.reduceBNe, Nat.reduceBEq, w1, w5, q5, w13, w65, w69, wM, zero10, yA, iA]; done)); simp (maxSteps := 1000000) -implicitDefEqProofs only [go_sem, ↓reduceIte, reduceCtorEq, Nat.reduceEqDiff, Nat.reduceLT, Nat.reduceAdd, Nat.reduceLeDiff, Nat.reduceMul, Nat.reduceSub, Int.reduceToNat, Int.reduceLT, Int.reduceLE, Int.reduceEq, Int.reduceBNe, Nat.reduceBEq, w1, w5, q5, w13, w65, w69, wM, zero10, yA, iA]) | ((first | refine call_con_eq 1000 [0, 1] (two_con i 7 49 zero10 rfl e0 e1 (by omega) (by omega)) ?_ ?_ ?_ (by simp) (by simp) rfl (by first | (simp; done) | exact Nat.le_of_ble_eq_true rfl) | refine call_draw_con 1000 [0, 1] (two_con i 7 49 zero10 rfl e0 e1 (by omega) (by omega)) (by decide +kernel) ?_ ?_ ?_ (by simp) (by simp) rfl (by first | (simp; done) | exact Nat.le_of_ble_eq_true rfl)); (focus (simp (maxSteps := 1000000) -implicitDefEqProofs only [go_sem, ↓reduceIte, reduceCtorEq, Nat.reduceEqDiff, Nat.reduceLT, Nat.reduceAdd, Nat.reduceLeDiff, Nat.reduceMul, Nat.reduceSub, Int.reduceToNat, Int.reduceLT, Int.reduceLE, Int.reduceEq, Int.reduceBNe, Nat.reduceBEq, w1, w5, q5, w13, w65, w69, wM, zero10, yA, iA]; done)); (focus (simp (maxSteps := 1000000) -implicitDefEqProofs only [go_sem, ↓reduceIte, reduceCtorEq, Nat.reduceEqDiff, Nat.reduceLT, Nat.reduceAdd, Nat.reduceLeDiff, Nat.reduceMul, Nat.reduceSub, Int.reduceToNat, Int.reduceLT, Int.reduceLE, Int.reduceEq, Int.reduceBNe, Nat.reduceBEq, w1, w5, q5, w13, w65, w69, wM, zero10, yA, iA]; done)); simp (maxSteps := 1000000) -implicitDefEqProofs only [go_sem, ↓reduceIte, reduceCtorEq, Nat.reduceEqDiff, Nat.reduceLT, Nat.reduceAdd, Nat.reduceLeDiff, Nat.reduceMul, Nat.reduceSub, Int.reduceToNat, Int.reduceLT, Int.reduceLE, Int.reduceEq, Int.reduceBNe, Nat.reduceBEq, w1, w5, q5, w13, w65, w69, wM, zero10, yA, iA]) | ((first | refine call_con_eq 1000 [0, 1] (two_con i 8 57 zero10 rfl e0 e1 (by omega) (by omega)) ?_ ?_ ?_ (by simp) (by simp) rfl (by first | (simp; done) | exact Nat.le_of_ble_eq_true rfl) | refine call_draw_con 1000 [0, 1] (two_con i 8 57 zero10 rfl e0 e1 (by omega) (by omega)) (by decide +kernel) ?_ ?_ ?_ (by simp) (by simp) rfl (by first | (simp; done) | exact Nat.le_of_ble_eq_true rfl)); (focus (simp (maxSteps := 1000000) -implicitDefEqProofs only [go_sem, ↓reduceIte, reduceCtorEq, Nat.reduceEqDiff, Nat.reduceLT, Nat.reduceAdd, Nat.reduceLeDiff, Nat.reduceMul, Nat.reduceSub, Int.reduceToNat, Int.reduceLT, Int.reduceLE, Int.reduceEq, Int.reduceBNe, Nat.reduceBEq, w1, w5, q5, w13, w65, w69, wM, zero10, yA, iA]; done)); (focus (simp (maxSteps := 1000000) -implicitDefEqProofs only [go_sem, ↓reduceIte, reduceCtorEq, Nat.reduceEqDiff, Nat.reduceLT, Nat.reduceAdd, Nat.reduceLeDiff, Nat.reduceMul, Nat.reduceSub, Int.reduceToNat, Int.reduceLT, Int.reduceLE, Int.reduceEq, Int.reduceBNe, Nat.reduceBEq, w1, w5, q5, w13, w65, w69, wM, zero10, yA, iA]; done)); simp (maxSteps := 1000000) -implicitDefEqProofs only [go_sem, ↓reduceIte, reduceCtorEq, Nat.reduceEqDiff, Nat.reduceLT, Nat.reduceAdd, Nat.reduceLeDiff, Nat.reduceMul, Nat.reduceSub, Int.reduceToNat, Int.reduceLT, Int.reduceLE, Int.reduceEq, Int.reduceBNe, Nat.reduceBEq, w1, w5, q5, w13, w65, w69, wM, zero10, yA, iA]) | intro _))
      all_goals (refine call_eq 1000 (yardState_pc (WrittenY i) (writtenY_len i)) ?_ ?_ rfl)
      all_goals first | (simp (maxSteps := 1000000) -implicitDefEqProofs only [go_sem, ↓reduceIte, reduceCtorEq, Nat.reduceEqDiff, Nat.reduceLT, Nat.reduceAdd, Nat.reduceLeDiff, Nat.reduceMul, Nat.reduceSub, Int.reduceToNat, Int.reduceLT, Int.reduceLE, Int.reduceEq, Int.reduceBNe, Nat.reduceBEq, iA]; done) | (simp (maxSteps := 1000000) -implicitDefEqProofs only [go_sem, ↓reduceIte, reduceCtorEq, Nat.reduceEqDiff, Nat.reduceLT, Nat.reduceAdd, Nat.reduceLeDiff, Nat.reduceMul, Nat.reduceSub, Int.reduceToNat, Int.reduceLT, Int.reduceLE, Int.reduceEq, Int.reduceBNe, Nat.reduceBEq]; simp [WrittenY, yA, iA, zero10, *])
def refWY (i : Int) : List Int :=
  if i = 0 then zero10
  else if i < 5 then [1, i - 1, 0, 0, 0, 0, 0, 0, 0, 0]
  else if i < 13 then [1, (i - 5).tdiv 2, 0, 8 + (i - 5).tmod 2, 0, 0, 0, 0, 0, 0]
  else if i < 17 then [2, i - 13, 0, 0, 0, 0, 0, 0, 0, 0]
  else if i < 25 then [3, (i - 17).tdiv 2, (i - 17).tmod 2, 0, 0, 0, 0, 0, 0, 0]
  else if i < 33 then [4, (i - 25).tdiv 2, (i - 25).tmod 2, 0, 0, 0, 0, 0, 0, 0]
  else if i < 41 then [5, (i - 33).tdiv 2, (i - 33).tmod 2, 0, 0, 0, 0, 0, 0, 0]
  else if i < 49 then [6, (i - 41).tdiv 2, (i - 41).tmod 2, 0, 0, 0, 0, 0, 0, 0]
  else if i < 57 then [7, (i - 49).tdiv 2, (i - 49).tmod 2, 0, 0, 0, 0, 0, 0, 0]
  else if i < 65 then [8, (i - 57).tdiv 2, (i - 57).tmod 2, 0, 0, 0, 1, 0, 0, 0]
  else if i < 69 then [9, i - 65, 0, 0, 0, 0, 0, 0, 1, 0]
  else [10, i - 69, 0, 0, 0, 1, 0, 0, 0, 0]
theorem refWY_eq (i : Int) : refWY i = WrittenY i := by
  unfold refWY WrittenY
  repeat' (first | rfl | (refine ite_congr ?_ (fun _ => ?_) (fun _ => ?_)) | (apply propext; omega))
theorem refWritten_pc (i : Int) : PCon Try.prog 17 [iA i] (· = .tup [iA (RefWrittenStateE i).1, iA (RefWrittenStateE i).2]) := by
  refine pcon_run 1000 Try.func17 rfl Try.results17 Try.ntmps17 (Nat.le_of_ble_eq_true rfl) ?_
  by_cases h0 : i < 0
  · simp (maxSteps := 1000000) -implicitDefEqProofs only [go_sem, ↓reduceIte, reduceCtorEq, Nat.reduceEqDiff, Nat.reduceLT, Nat.reduceAdd, Nat.reduceLeDiff, Nat.reduceMul, Nat.reduceSub, Int.reduceToNat, Int.reduceLT, Int.reduceLE, Int.reduceEq, Int.reduceBNe, Nat.reduceBEq, iA, h0]
    simp [fz_v, fz_agg, fz_tup, fz_fsl, fzL_nil, fzL_cons, RefWrittenStateE, h0, iA]
  · by_cases h1 : 73 ≤ i
    · simp (maxSteps := 1000000) -implicitDefEqProofs only [go_sem, ↓reduceIte, reduceCtorEq, Nat.reduceEqDiff, Nat.reduceLT, Nat.reduceAdd, Nat.reduceLeDiff, Nat.reduceMul, Nat.reduceSub, Int.reduceToNat, Int.reduceLT, Int.reduceLE, Int.reduceEq, Int.reduceBNe, Nat.reduceBEq, iA, h0, h1]
      simp [fz_v, fz_agg, fz_tup, fz_fsl, fzL_nil, fzL_cons, RefWrittenStateE, h1, iA]
    · have e0 : 0 ≤ i := by omega
      have e1 : i < 73 := by omega
      have w1 := wI i 1 e0 e1 (by omega) (by omega)
      have w5 := wI i 5 e0 e1 (by omega) (by omega)
      have q5 := wQ i 5 e0 e1 (by omega) (by omega)
      have w13 := wI i 13 e0 e1 (by omega) (by omega)
      have w17 := wI i 17 e0 e1 (by omega) (by omega)
      have q17 := wQ i 17 e0 e1 (by omega) (by omega)
      have w25 := wI i 25 e0 e1 (by omega) (by omega)
      have q25 := wQ i 25 e0 e1 (by omega) (by omega)
      have w33 := wI i 33 e0 e1 (by omega) (by omega)
      have q33 := wQ i 33 e0 e1 (by omega) (by omega)
      have w41 := wI i 41 e0 e1 (by omega) (by omega)
      have q41 := wQ i 41 e0 e1 (by omega) (by omega)
      have w49 := wI i 49 e0 e1 (by omega) (by omega)
      have q49 := wQ i 49 e0 e1 (by omega) (by omega)
      have w57 := wI i 57 e0 e1 (by omega) (by omega)
      have q57 := wQ i 57 e0 e1 (by omega) (by omega)
      have w65 := wI i 65 e0 e1 (by omega) (by omega)
      have w69 := wI i 69 e0 e1 (by omega) (by omega)
      have hE : RefWrittenStateE i = if i = 0 then (0, 0) else ((RefYardStateE (WrittenY i)).1, 0) := by unfold RefWrittenStateE; rw [if_neg (by omega)]
      rw [hE]
      simp (maxSteps := 1000000) -implicitDefEqProofs only [go_sem, ↓reduceIte, reduceCtorEq, Nat.reduceEqDiff, Nat.reduceLT, Nat.reduceAdd, Nat.reduceLeDiff, Nat.reduceMul, Nat.reduceSub, Int.reduceToNat, Int.reduceLT, Int.reduceLE, Int.reduceEq, Int.reduceBNe, Nat.reduceBEq, iA, h0, h1]
      (repeat' (first | exact trivial | contradiction | exact ⟨_, rfl⟩ | refine And.intro ?_ ?_ | ((first | show (_ : Nat) ≤ _ | show (_ : Nat) < _ | show (_ : Int) ≤ _ | show (_ : Int) < _); omega) | (refine wait_draw 1000 mixed (by decide +kernel) ?_; simp (maxSteps := 1000000) -implicitDefEqProofs only [go_sem, ↓reduceIte, reduceCtorEq, Nat.reduceEqDiff, Nat.reduceLT, Nat.reduceAdd, Nat.reduceLeDiff, Nat.reduceMul, Nat.reduceSub, Int.reduceToNat, Int.reduceLT, Int.reduceLE, Int.reduceEq, Int.reduceBNe, Nat.reduceBEq w1, w5, q5, w13, w17, q17, w25, q25, w33, q33, w41, q41, w49, q49, w57, q57, w65, w69, wM, zero10, yA, iA]) | intro _))
      all_goals first | (simp [*]; done) | (refine call_eq 1000 (refYardState_pc (refWY i) (by rw [refWY_eq]; exact writtenY_len i)) ?_ ?_ rfl)
      all_goals first | (simp (maxSteps := 1000000) -implicitDefEqProofs only [go_sem, ↓reduceIte, reduceCtorEq, Nat.reduceEqDiff, Nat.reduceLT, Nat.reduceAdd, Nat.reduceLeDiff, Nat.reduceMul, Nat.reduceSub, Int.reduceToNat, Int.reduceLT, Int.reduceLE, Int.reduceEq, Int.reduceBNe, Nat.reduceBEq, iA, refWY_eq, if_neg (by assumption : ¬ i = 0)]; done) | (simp (maxSteps := 1000000) -implicitDefEqProofs only [go_sem, ↓reduceIte, reduceCtorEq, Nat.reduceEqDiff, Nat.reduceLT, Nat.reduceAdd, Nat.reduceLeDiff, Nat.reduceMul, Nat.reduceSub, Int.reduceToNat, Int.reduceLT, Int.reduceLE, Int.reduceEq, Int.reduceBNe, Nat.reduceBEq]; simp [refWY, yA, iA, zero10, wM, *])
end Go.Proofs.Ytiipggfhjkalfaa
