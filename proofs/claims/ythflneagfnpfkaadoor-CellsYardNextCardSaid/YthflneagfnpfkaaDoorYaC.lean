/- The yard's states: the reference's tables. -/
import Derived.Test.YthflneagfnpfkaaDoorProg
import Derived.Test.YthflneagfnpfkaaDoorPmU
import Derived.Test.YthflneagfnpfkaaDoorYaB
set_option linter.unusedSimpArgs false
set_option linter.unusedVariables false
set_option maxRecDepth 20000
open Go Go.Proofs
namespace Go.Proofs.YthflneagfnpfkaaDoor
open Pm
attribute [local irreducible] Wait CallT CallW Le Weak
def fieldE (l : List Int) (f : Int) : Int :=
  if f = 0 then l.getD 2 0 else if f = 1 then l.getD 3 0 else if f = 2 then l.getD 4 0 else if f = 3 then l.getD 5 0 else if f = 4 then l.getD 6 0 else if f = 5 then l.getD 7 0 else if f = 6 then l.getD 8 0 else l.getD 9 0
theorem field_pc (l : List Int) (hl : l.length = 10) (f : Int) : PCon Tryd.prog 37 [yA l, iA f] (· = iA (fieldE l f)) := by
  obtain ⟨k, d, s, s1, s2, ph, as1, se, ro, co, rfl⟩ := ten_of l hl
  refine pcon_run 1000 Tryd.func37 rfl Tryd.results37 Tryd.ntmps37 (Nat.le_of_ble_eq_true rfl) ?_
  simp (maxSteps := 1000000) -implicitDefEqProofs only [go_sem, ↓reduceIte, reduceCtorEq, Nat.reduceEqDiff, Nat.reduceLT, Nat.reduceAdd, Nat.reduceLeDiff, Nat.reduceMul, Nat.reduceSub, Nat.reduceDiv, Nat.reduceMod, Int.reduceToNat, Int.reduceLT, Int.reduceLE, Int.reduceEq, Int.reduceAdd, Int.reduceSub, Int.reduceMul, Int.reduceNeg, Int.reduceTMod, Int.reduceTDiv, Int.reduceMod, Int.reduceDiv, Int.reduceBEq, Int.reduceBNe, Nat.reduceBEq, yA, iA]
  (repeat' (first | exact trivial | contradiction | refine And.intro ?_ ?_ | (show (_ : Nat) ≤ _; omega) | (show (_ : Nat) < _; omega) | (show (_ : Int) ≤ _; omega) | (show (_ : Int) < _; omega)  | (refine wait_draw 1000 mixed (by decide +kernel) ?_; simp (maxSteps := 1000000) -implicitDefEqProofs only [go_sem, ↓reduceIte, reduceCtorEq, Nat.reduceEqDiff, Nat.reduceLT, Nat.reduceAdd, Nat.reduceLeDiff, Nat.reduceMul, Nat.reduceSub, Nat.reduceDiv, Nat.reduceMod, Int.reduceToNat, Int.reduceLT, Int.reduceLE, Int.reduceEq, Int.reduceAdd, Int.reduceSub, Int.reduceMul, Int.reduceNeg, Int.reduceTMod, Int.reduceTDiv, Int.reduceMod, Int.reduceDiv, Int.reduceBEq, Int.reduceBNe, Nat.reduceBEq]) | intro _))
  all_goals simp_all [fieldE]
def withE (l : List Int) (f v : Int) : List Int :=
  if f = 0 then l.set 2 v else if f = 1 then l.set 3 v else if f = 2 then l.set 4 v else if f = 3 then l.set 5 v else if f = 4 then l.set 6 v else if f = 5 then l.set 7 v else if f = 6 then l.set 8 v else l.set 9 v
theorem with_pc (l : List Int) (hl : l.length = 10) (f v : Int) : PCon Tryd.prog 22 [yA l, iA f, iA v] (· = yA (withE l f v)) := by
  obtain ⟨k, d, s, s1, s2, ph, as1, se, ro, co, rfl⟩ := ten_of l hl
  refine pcon_run 1000 Tryd.func22 rfl Tryd.results22 Tryd.ntmps22 (Nat.le_of_ble_eq_true rfl) ?_
  simp (maxSteps := 1000000) -implicitDefEqProofs only [go_sem, ↓reduceIte, reduceCtorEq, Nat.reduceEqDiff, Nat.reduceLT, Nat.reduceAdd, Nat.reduceLeDiff, Nat.reduceMul, Nat.reduceSub, Nat.reduceDiv, Nat.reduceMod, Int.reduceToNat, Int.reduceLT, Int.reduceLE, Int.reduceEq, Int.reduceAdd, Int.reduceSub, Int.reduceMul, Int.reduceNeg, Int.reduceTMod, Int.reduceTDiv, Int.reduceMod, Int.reduceDiv, Int.reduceBEq, Int.reduceBNe, Nat.reduceBEq, yA, iA]
  (repeat' (first | exact trivial | contradiction | refine And.intro ?_ ?_ | (show (_ : Nat) ≤ _; omega) | (show (_ : Nat) < _; omega) | (show (_ : Int) ≤ _; omega) | (show (_ : Int) < _; omega)  | (refine wait_draw 1000 mixed (by decide +kernel) ?_; simp (maxSteps := 1000000) -implicitDefEqProofs only [go_sem, ↓reduceIte, reduceCtorEq, Nat.reduceEqDiff, Nat.reduceLT, Nat.reduceAdd, Nat.reduceLeDiff, Nat.reduceMul, Nat.reduceSub, Nat.reduceDiv, Nat.reduceMod, Int.reduceToNat, Int.reduceLT, Int.reduceLE, Int.reduceEq, Int.reduceAdd, Int.reduceSub, Int.reduceMul, Int.reduceNeg, Int.reduceTMod, Int.reduceTDiv, Int.reduceMod, Int.reduceDiv, Int.reduceBEq, Int.reduceBNe, Nat.reduceBEq]) | intro _))
  all_goals simp_all [withE, iA]
def basesA (k : Int) : AV := .tup [.fsl 1 ((kindF k).map fun p => iA p.1), .fsl 1 ((kindF k).map fun p => iA (p.2 - 2))]
theorem bases_pc (k : Int) : PCon Tryd.prog 21 [iA k] (· = basesA k) := by
  refine PCon.upto ?_
  refine pcon_run 1000 Tryd.func21 rfl Tryd.results21 Tryd.ntmps21 (Nat.le_of_ble_eq_true rfl) ?_
  simp (maxSteps := 1000000) -implicitDefEqProofs only [go_sem, ↓reduceIte, reduceCtorEq, Nat.reduceEqDiff, Nat.reduceLT, Nat.reduceAdd, Nat.reduceLeDiff, Nat.reduceMul, Nat.reduceSub, Nat.reduceDiv, Nat.reduceMod, Int.reduceToNat, Int.reduceLT, Int.reduceLE, Int.reduceEq, Int.reduceAdd, Int.reduceSub, Int.reduceMul, Int.reduceNeg, Int.reduceTMod, Int.reduceTDiv, Int.reduceMod, Int.reduceDiv, Int.reduceBEq, Int.reduceBNe, Nat.reduceBEq, iA]
  (repeat' (first | exact trivial | contradiction | refine And.intro ?_ ?_ | (show (_ : Nat) ≤ _; omega) | (show (_ : Nat) < _; omega) | (show (_ : Int) ≤ _; omega) | (show (_ : Int) < _; omega)  | (refine wait_draw 1000 mixed (by decide +kernel) ?_; simp (maxSteps := 1000000) -implicitDefEqProofs only [go_sem, ↓reduceIte, reduceCtorEq, Nat.reduceEqDiff, Nat.reduceLT, Nat.reduceAdd, Nat.reduceLeDiff, Nat.reduceMul, Nat.reduceSub, Nat.reduceDiv, Nat.reduceMod, Int.reduceToNat, Int.reduceLT, Int.reduceLE, Int.reduceEq, Int.reduceAdd, Int.reduceSub, Int.reduceMul, Int.reduceNeg, Int.reduceTMod, Int.reduceTDiv, Int.reduceMod, Int.reduceDiv, Int.reduceBEq, Int.reduceBNe, Nat.reduceBEq]) | intro _))
  all_goals simp [basesA, kindF, *, iA]
  all_goals first | exact Le.refl _ | exact Le.tup (.cons (Le.nil 1) (.cons (Le.nil 1) .nil))
end Go.Proofs.YthflneagfnpfkaaDoor
