/- The yard's states: which fields fit together; the reference's tables. -/
import Derived.Test.YthflneagfnpfkaaDoorProg
import Derived.Test.YthflneagfnpfkaaDoorPmU
import Derived.Test.YthflneagfnpfkaaDoorYaA
set_option linter.unusedSimpArgs false
set_option linter.unusedVariables false
set_option maxRecDepth 20000
open Go Go.Proofs
namespace Go.Proofs.YthflneagfnpfkaaDoor
open Pm
attribute [local irreducible] Wait CallT CallW Le Weak
def properB (l : List Int) : Bool :=
  if 96 < l.getD 3 0 ∨ 96 < l.getD 4 0 ∨ 2 < l.getD 6 0 then false
  else if l.getD 0 0 = 0 ∨ l.getD 0 0 = 14 then decide (l.getD 1 0 = 0)
  else if l.getD 0 0 = 3 then decide (l.getD 7 0 ≠ 3 ∧ (l.getD 3 0 ≠ 0 ∨ l.getD 7 0 = 0))
  else if l.getD 0 0 = 8 then if 6 < l.getD 5 0 ∨ l.getD 7 0 = 3 ∨ (l.getD 3 0 = 0 ∧ l.getD 7 0 ≠ 0) then false else decide (l.getD 5 0 ≠ 4 ∨ (l.getD 3 0 = 1 ∧ l.getD 7 0 = 2))
  else if l.getD 0 0 = 10 then if l.getD 5 0 = 0 ∨ l.getD 5 0 = 1 then decide (l.getD 3 0 = 0) else if l.getD 5 0 = 2 then decide ((l.getD 3 0 = 5 ∨ 24 ≤ l.getD 3 0) ∧ 1 ≤ l.getD 9 0) else false
  else if l.getD 0 0 = 11 then decide (1 ≤ l.getD 9 0)
  else if l.getD 0 0 = 12 then decide (1 ≤ l.getD 9 0 ∧ 24 ≤ l.getD 3 0)
  else if l.getD 0 0 = 13 then decide (l.getD 5 0 = 1 ∨ l.getD 3 0 = 0)
  else true
theorem proper_pc (l : List Int) (hl : l.length = 10) : PCon Tryd.prog 40 [yA l] (· = .v (.bool (properB l))) := by
  obtain ⟨k, d, s, s1, s2, ph, as1, se, ro, co, rfl⟩ := ten_of l hl
  refine pcon_run 1000 Tryd.func40 rfl Tryd.results40 Tryd.ntmps40 (Nat.le_of_ble_eq_true rfl) ?_
  simp (maxSteps := 1000000) -implicitDefEqProofs only [go_sem, ↓reduceIte, reduceCtorEq, Nat.reduceEqDiff, Nat.reduceLT, Nat.reduceAdd, Nat.reduceLeDiff, Nat.reduceMul, Nat.reduceSub, Nat.reduceDiv, Nat.reduceMod, Int.reduceToNat, Int.reduceLT, Int.reduceLE, Int.reduceEq, Int.reduceAdd, Int.reduceSub, Int.reduceMul, Int.reduceNeg, Int.reduceTMod, Int.reduceTDiv, Int.reduceMod, Int.reduceDiv, Int.reduceBEq, Int.reduceBNe, Nat.reduceBEq, yA, iA]
  (repeat' (first | exact trivial | contradiction | refine And.intro ?_ ?_ | (show (_ : Nat) ≤ _; omega) | (show (_ : Nat) < _; omega) | (show (_ : Int) ≤ _; omega) | (show (_ : Int) < _; omega)  | (refine wait_draw 1000 mixed (by decide +kernel) ?_; simp (maxSteps := 1000000) -implicitDefEqProofs only [go_sem, ↓reduceIte, reduceCtorEq, Nat.reduceEqDiff, Nat.reduceLT, Nat.reduceAdd, Nat.reduceLeDiff, Nat.reduceMul, Nat.reduceSub, Nat.reduceDiv, Nat.reduceMod, Int.reduceToNat, Int.reduceLT, Int.reduceLE, Int.reduceEq, Int.reduceAdd, Int.reduceSub, Int.reduceMul, Int.reduceNeg, Int.reduceTMod, Int.reduceTDiv, Int.reduceMod, Int.reduceDiv, Int.reduceBEq, Int.reduceBNe, Nat.reduceBEq]) | intro _))
  all_goals simp_all [properB]
  all_goals (first | omega | exact Bool.beq_eq_decide_eq _ _ | (refine bool_eq ?_; simp only [Bool.and_eq_true, Bool.or_eq_true, Bool.not_eq_true', decide_eq_true_eq, beq_iff_eq, bne_iff_ne, decide_eq_false_iff_not, ne_eq, Bool.true_eq, Bool.false_eq, iff_self]; done) | (refine bool_eq ?_; simp only [Bool.and_eq_true, Bool.or_eq_true, Bool.not_eq_true', decide_eq_true_eq, beq_iff_eq, bne_iff_ne, decide_eq_false_iff_not, ne_eq, Bool.true_eq, Bool.false_eq, iff_self]; omega))
def rightB (l : List Int) : Bool :=
  if (l.getD 0 0 ≠ 5 ∧ l.getD 0 0 ≠ 6) ∧ (97 ≤ l.getD 3 0 ∨ 97 ≤ l.getD 4 0) then false
  else if l.getD 7 0 = 3 ∨ (l.getD 7 0 ≠ 0 ∧ l.getD 3 0 = 0) ∨ l.getD 6 0 = 3 then false
  else if l.getD 0 0 = 8 then decide (l.getD 5 0 ≤ 6 ∧ (l.getD 5 0 ≠ 4 ∨ (l.getD 3 0 = 1 ∧ l.getD 7 0 = 2)))
  else if l.getD 0 0 = 10 then if l.getD 5 0 = 3 then false else if l.getD 5 0 ≠ 2 then decide (l.getD 3 0 = 0) else decide ((l.getD 3 0 = 5 ∨ 24 ≤ l.getD 3 0) ∧ 1 ≤ l.getD 9 0)
  else if l.getD 0 0 = 13 then decide (l.getD 5 0 = 1 ∨ l.getD 3 0 = 0)
  else if l.getD 0 0 = 11 then decide (1 ≤ l.getD 9 0)
  else if l.getD 0 0 = 12 then decide (1 ≤ l.getD 9 0 ∧ 24 ≤ l.getD 3 0)
  else true
theorem right_pc (l : List Int) (hl : l.length = 10) : PCon Tryd.prog 23 [yA l] (· = .v (.bool (rightB l))) := by
  obtain ⟨k, d, s, s1, s2, ph, as1, se, ro, co, rfl⟩ := ten_of l hl
  refine pcon_run 1000 Tryd.func23 rfl Tryd.results23 Tryd.ntmps23 (Nat.le_of_ble_eq_true rfl) ?_
  simp (maxSteps := 1000000) -implicitDefEqProofs only [go_sem, ↓reduceIte, reduceCtorEq, Nat.reduceEqDiff, Nat.reduceLT, Nat.reduceAdd, Nat.reduceLeDiff, Nat.reduceMul, Nat.reduceSub, Nat.reduceDiv, Nat.reduceMod, Int.reduceToNat, Int.reduceLT, Int.reduceLE, Int.reduceEq, Int.reduceAdd, Int.reduceSub, Int.reduceMul, Int.reduceNeg, Int.reduceTMod, Int.reduceTDiv, Int.reduceMod, Int.reduceDiv, Int.reduceBEq, Int.reduceBNe, Nat.reduceBEq, yA, iA]
  (repeat' (first | exact trivial | contradiction | refine And.intro ?_ ?_ | (show (_ : Nat) ≤ _; omega) | (show (_ : Nat) < _; omega) | (show (_ : Int) ≤ _; omega) | (show (_ : Int) < _; omega)  | (refine wait_draw 1000 mixed (by decide +kernel) ?_; simp (maxSteps := 1000000) -implicitDefEqProofs only [go_sem, ↓reduceIte, reduceCtorEq, Nat.reduceEqDiff, Nat.reduceLT, Nat.reduceAdd, Nat.reduceLeDiff, Nat.reduceMul, Nat.reduceSub, Nat.reduceDiv, Nat.reduceMod, Int.reduceToNat, Int.reduceLT, Int.reduceLE, Int.reduceEq, Int.reduceAdd, Int.reduceSub, Int.reduceMul, Int.reduceNeg, Int.reduceTMod, Int.reduceTDiv, Int.reduceMod, Int.reduceDiv, Int.reduceBEq, Int.reduceBNe, Nat.reduceBEq]) | intro _))
  all_goals simp_all [rightB]
  all_goals (first | omega | exact Bool.beq_eq_decide_eq _ _ | (refine bool_eq ?_; simp only [Bool.and_eq_true, Bool.or_eq_true, Bool.not_eq_true', decide_eq_true_eq, beq_iff_eq, bne_iff_ne, decide_eq_false_iff_not, ne_eq, Bool.true_eq, Bool.false_eq, iff_self]; done) | (refine bool_eq ?_; simp only [Bool.and_eq_true, Bool.or_eq_true, Bool.not_eq_true', decide_eq_true_eq, beq_iff_eq, bne_iff_ne, decide_eq_false_iff_not, ne_eq, Bool.true_eq, Bool.false_eq, iff_self]; omega))
end Go.Proofs.YthflneagfnpfkaaDoor
