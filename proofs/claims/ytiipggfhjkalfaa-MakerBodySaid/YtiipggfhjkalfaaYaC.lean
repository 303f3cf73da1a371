import Derived.Test.YtiipggfhjkalfaaProg
import Derived.Test.YtiipggfhjkalfaaPmU
/- The yard's states: what the fields of a kind are. -/
set_option linter.unusedSimpArgs false
set_option linter.unusedVariables false
set_option maxRecDepth 20000
open Go Go.Proofs
namespace Go.Proofs.Ytiipggfhjkalfaa
open Pm
attribute [local irreducible] Wait CallT CallW NextT Le Weak
def yA (l : List Int) : AV := .agg (l.map iA)
/-- The fields of a kind, the lowest first: base, cell. -/
def kindF (k : Int) : List (Nat × Nat) :=
  if k = 1 then [(128, 3)] else if k = 2 then [(128, 3)] else if k = 3 then [(2, 2), (128, 3), (4, 7)] else if k = 4 then [(2, 2), (128, 3), (128, 4)]
  else if k = 5 then [(2, 2), (3, 3), (3, 4)] else if k = 6 then [(2, 2), (3, 3), (3, 4)] else if k = 7 then [(2, 2), (2, 5), (128, 3)] else if k = 8 then [(2, 2), (8, 5), (4, 6), (4, 7), (128, 3)]
  else if k = 9 then [(2, 8), (4, 6), (128, 3)] else if k = 10 then [(4, 5), (128, 3), (256, 9)] else if k = 11 then [(256, 9)] else if k = 12 then [(128, 3), (256, 9)] else if k = 13 then [(2, 5), (128, 3)] else []
def fA (id : Nat) (p : Nat × Nat) : AV := .agg [iA p.1, .ptr id 10 0 p.2]
def fsV (F : List (Nat × Nat)) (id : Nat) : AV := match F with
  | [] => .v (.slice none 0 0)
  | _ => .sl id 2 0 F.length
def fsH (F : List (Nat × Nat)) (id : Nat) : List (Option Blk) := match F with
  | [] => []
  | _ => [some (.row 70 2 (F.map (fA id)))]
theorem ten_of {α : Type} (l : List α) (h : l.length = 10) : ∃ a b c d e f g i j k, l = [a, b, c, d, e, f, g, i, j, k] := by
  match l, h with
  | [a, b, c, d, e, f, g, i, j, k], _ => exact ⟨a, b, c, d, e, f, g, i, j, k, rfl⟩
theorem fields_con (l : List Int) (hl : l.length = 10) : Con Try.prog 39 [.ptr 0 10 0 0] [some (.row 37 10 [yA l])]
    fun x y => x = fsV (kindF (l.getD 0 0)) 1 ∧ y = some (.row 37 10 [yA l]) :: fsH (kindF (l.getD 0 0)) 0 := by
  obtain ⟨k, d, s, s1, s2, ph, as1, se, ro, co, rfl⟩ := ten_of l hl
  refine con_run 1000 Try.func39 rfl Try.results39 Try.ntmps39 (Nat.le_of_ble_eq_true rfl) ?_
  simp (maxSteps := 1000000) -implicitDefEqProofs only [go_sem, ↓reduceIte, reduceCtorEq, Nat.reduceEqDiff, Nat.reduceLT, Nat.reduceAdd, Nat.reduceLeDiff, Nat.reduceMul, Nat.reduceSub, Int.reduceToNat, Int.reduceLT, Int.reduceLE, Int.reduceEq, Int.reduceBNe, Nat.reduceBEq, yA, iA]
  (repeat' (first | exact trivial | contradiction | exact ⟨_, rfl⟩ | refine And.intro ?_ ?_ | ((first | show (_ : Nat) ≤ _ | show (_ : Nat) < _ | show (_ : Int) ≤ _ | show (_ : Int) < _); omega) | (refine wait_draw 1000 mixed (by decide +kernel) ?_; simp (maxSteps := 1000000) -implicitDefEqProofs only [go_sem, ↓reduceIte, reduceCtorEq, Nat.reduceEqDiff, Nat.reduceLT, Nat.reduceAdd, Nat.reduceLeDiff, Nat.reduceMul, Nat.reduceSub, Int.reduceToNat, Int.reduceLT, Int.reduceLE, Int.reduceEq, Int.reduceBNe, Nat.reduceBEq]) | intro _))
  all_goals simp_all [kindF, fsV, fsH, fA, iA]
end Go.Proofs.Ytiipggfhjkalfaa
/- The yard's states: which fields fit together; the reference's tables. -/
set_option linter.unusedSimpArgs false
set_option linter.unusedVariables false
set_option maxRecDepth 20000
open Go Go.Proofs
namespace Go.Proofs.Ytiipggfhjkalfaa
open Pm
attribute [local irreducible] Wait CallT CallW NextT Le Weak
def properB (l : List Int) : Bool :=
  if 96 < l.getD 3 0 ∨ 96 < l.getD 4 0 ∨ 2 < l.getD 6 0 then false
  else if l.getD 0 0 = 0 ∨ l.getD 0 0 = 14 then decide (l.getD 1 0 = 0)
  else if l.getD 0 0 = 3 then decide (l.getD 7 0 ≠ 3 ∧ (l.getD 3 0 ≠ 0 ∨ l.getD 7 0 = 0))
  else if l.getD 0 0 = 8 then if 6 < l.getD 5 0 ∨ l.getD 7 0 = 3 ∨ (l.getD 3 0 = 0 ∧ l.getD 7 0 ≠ 0) then false else decide (l.getD 5 0 ≠ 4 ∨ (l.getD 3 0 = 1 ∧ l.getD 7 0 = 2))
  else if l.getD 0 0 = 10 then if l.getD 5 0 = 0 ∨ l.getD 5 0 = 1 then decide (l.getD 3 0 = 0) else if l.getD 5 0 = 2 then decide ((l.getD 3 0 = 5 ∨ 24 ≤ l.getD 3 0) ∧ 1 ≤ l.getD 9 0) else false
  else if l.getD 0 0 = 11 then decide (1 ≤ l.getD 9 0)
  else if l.getD 0 0 = 12 then decide (1 ≤ l.getD 9 0 ∧ 24 ≤ l.getD 3 0)
  else if l.getD 0 0 = 13 then decide (l.getD 5 0 = 1 ∨ l.getD 3 0 = 0)
  else true
theorem proper_pc (l : List Int) (hl : l.length = 10) : PCon Try.prog 40 [yA l] (· = .v (.bool (properB l))) := by
  obtain ⟨k, d, s, s1, s2, ph, as1, se, ro, co, rfl⟩ := ten_of l hl
  refine pcon_run 1000 Try.func40 rfl Try.results40 Try.ntmps40 (Nat.le_of_ble_eq_true rfl) ?_
  simp (maxSteps := 1000000) -implicitDefEqProofs only [go_sem, ↓reduceIte, reduceCtorEq, Nat.reduceEqDiff, Nat.reduceLT, Nat.reduceAdd, Nat.reduceLeDiff, yA, iA]
  (repeat' (first | exact trivial | contradiction | exact ⟨_, rfl⟩ | refine And.intro ?_ ?_ | ((first | show (_ : Nat) ≤ _ | show (_ : Nat) < _ | show (_ : Int) ≤ _ | show (_ : Int) < _); omega) | (refine wait_draw 1000 mixed (by decide +kernel) ?_; simp (maxSteps := 1000000) -implicitDefEqProofs only [go_sem, ↓reduceIte, reduceCtorEq, Nat.reduceEqDiff, Nat.reduceLT, Nat.reduceAdd, Nat.reduceLeDiff]) | intro _))
  all_goals simp_all [properB]
  all_goals (first | omega | exact Bool.beq_eq_decide_eq _ _ | (refine bool_eq ?_; simp only [Bool.and_eq_true, Bool.or_eq_true, Bool.not_eq_true', decide_eq_true_eq, beq_iff_eq, bne_iff_ne, decide_eq_false_iff_not, ne_eq, Bool.true_eq, Bool.false_eq, iff_self]; done) | (refine bool_eq ?_; simp only [Bool.and_eq_true, Bool.or_eq_true, Bool.not_eq_true', decide_eq_true_eq, beq_iff_eq, bne_iff_ne, decide_eq_false_iff_not, ne_eq, Bool.true_eq, Bool.false_eq, iff_self]; omega))
def rightB (l : List Int) : Bool :=
  if (l.getD 0 0 ≠ 5 ∧ l.getD 0 0 ≠ 6) ∧ (97 ≤ l.getD 3 0 ∨ 97 ≤ l.getD 4 0) then false
  else if l.getD 7 0 = 3 ∨ (l.getD 7 0 ≠ 0 ∧ l.getD 3 0 = 0) ∨ l.getD 6 0 = 3 then false
  else if l.getD 0 0 = 8 then decide (l.getD 5 0 ≤ 6 ∧ (l.getD 5 0 ≠ 4 ∨ (l.getD 3 0 = 1 ∧ l.getD 7 0 = 2)))
  else if l.getD 0 0 = 10 then if l.getD 5 0 = 3 then false else if l.getD 5 0 ≠ 2 then decide (l.getD 3 0 = 0) else decide ((l.getD 3 0 = 5 ∨ 24 ≤ l.getD 3 0) ∧ 1 ≤ l.getD 9 0)
  else if l.getD 0 0 = 13 then decide (l.getD 5 0 = 1 ∨ l.getD 3 0 = 0)
  else if l.getD 0 0 = 11 then decide (1 ≤ l.getD 9 0)
  else if l.getD 0 0 = 12 then decide (1 ≤ l.getD 9 0 ∧ 24 ≤ l.getD 3 0)
  else true
theorem right_pc (l : List Int) (hl : l.length = 10) : PCon Try.prog 43 [yA l] (· = .v (.bool (rightB l))) := by
  obtain ⟨k, d, s, s1, s2, ph, as1, se, ro, co, rfl⟩ := ten_of l hl
  refine pcon_run 1000 Try.func43 rfl Try.results43 Try.ntmps43 (Nat.le_of_ble_eq_true rfl) ?_
  simp (maxSteps := 1000000) -implicitDefEqProofs only [go_sem, ↓reduceIte, reduceCtorEq, Nat.reduceEqDiff, Nat.reduceLT, Nat.reduceAdd, Nat.reduceLeDiff, yA, iA]
  (repeat' (first | exact trivial | contradiction | exact ⟨_, rfl⟩ | refine And.intro ?_ ?_ | ((first | show (_ : Nat) ≤ _ | show (_ : Nat) < _ | show (_ : Int) ≤ _ | show (_ : Int) < _); omega) | (refine wait_draw 1000 mixed (by decide +kernel) ?_; simp (maxSteps := 1000000) -implicitDefEqProofs only [go_sem, ↓reduceIte, reduceCtorEq, Nat.reduceEqDiff, Nat.reduceLT, Nat.reduceAdd, Nat.reduceLeDiff]) | intro _))
  all_goals simp_all [rightB]
  all_goals (first | omega | exact Bool.beq_eq_decide_eq _ _ | (refine bool_eq ?_; simp only [Bool.and_eq_true, Bool.or_eq_true, Bool.not_eq_true', decide_eq_true_eq, beq_iff_eq, bne_iff_ne, decide_eq_false_iff_not, ne_eq, Bool.true_eq, Bool.false_eq, iff_self]; done) | (refine bool_eq ?_; simp only [Bool.and_eq_true, Bool.or_eq_true, Bool.not_eq_true', decide_eq_true_eq, beq_iff_eq, bne_iff_ne, decide_eq_false_iff_not, ne_eq, Bool.true_eq, Bool.false_eq, iff_self]; omega))
end Go.Proofs.Ytiipggfhjkalfaa
/- The yard's states: the reference's tables. -/
set_option linter.unusedSimpArgs false
set_option linter.unusedVariables false
set_option maxRecDepth 20000
open Go Go.Proofs
namespace Go.Proofs.Ytiipggfhjkalfaa
open Pm
attribute [local irreducible] Wait CallT CallW NextT Le Weak
def fieldE (l : List Int) (f : Int) : Int :=
  if f = 0 then l.getD 2 0 else if f = 1 then l.getD 3 0 else if f = 2 then l.getD 4 0 else if f = 3 then l.getD 5 0 else if f = 4 then l.getD 6 0 else if f = 5 then l.getD 7 0 else if f = 6 then l.getD 8 0 else l.getD 9 0
theorem field_pc (l : List Int) (hl : l.length = 10) (f : Int) : PCon Try.prog 44 [yA l, iA f] (· = iA (fieldE l f)) := by
  obtain ⟨k, d, s, s1, s2, ph, as1, se, ro, co, rfl⟩ := ten_of l hl
  refine pcon_run 1000 Try.func44 rfl Try.results44 Try.ntmps44 (Nat.le_of_ble_eq_true rfl) ?_
  simp (maxSteps := 1000000) -implicitDefEqProofs only [go_sem, ↓reduceIte, reduceCtorEq, Nat.reduceEqDiff, Nat.reduceLT, Nat.reduceAdd, Nat.reduceLeDiff, yA, iA]
  (repeat' (first | exact trivial | contradiction | exact ⟨_, rfl⟩ | refine And.intro ?_ ?_ | ((first | show (_ : Nat) ≤ _ | show (_ : Nat) < _ | show (_ : Int) ≤ _ | show (_ : Int) < _); omega) | (refine wait_draw 1000 mixed (by decide +kernel) ?_; simp (maxSteps := 1000000) -implicitDefEqProofs only [go_sem, ↓reduceIte, reduceCtorEq, Nat.reduceEqDiff, Nat.reduceLT, Nat.reduceAdd, Nat.reduceLeDiff]) | intro _))
  all_goals simp_all [fieldE]
def withE (l : List Int) (f v : Int) : List Int :=
  if f = 0 then l.set 2 v else if f = 1 then l.set 3 v else if f = 2 then l.set 4 v else if f = 3 then l.set 5 v else if f = 4 then l.set 6 v else if f = 5 then l.set 7 v else if f = 6 then l.set 8 v else l.set 9 v
theorem with_pc (l : List Int) (hl : l.length = 10) (f v : Int) : PCon Try.prog 42 [yA l, iA f, iA v] (· = yA (withE l f v)) := by
  obtain ⟨k, d, s, s1, s2, ph, as1, se, ro, co, rfl⟩ := ten_of l hl
  refine pcon_run 1000 Try.func42 rfl Try.results42 Try.ntmps42 (Nat.le_of_ble_eq_true rfl) ?_
  simp (maxSteps := 1000000) -implicitDefEqProofs only [go_sem, ↓reduceIte, reduceCtorEq, Nat.reduceEqDiff, Nat.reduceLT, Nat.reduceAdd, Nat.reduceLeDiff, yA, iA]
  (repeat' (first | exact trivial | contradiction | exact ⟨_, rfl⟩ | refine And.intro ?_ ?_ | ((first | show (_ : Nat) ≤ _ | show (_ : Nat) < _ | show (_ : Int) ≤ _ | show (_ : Int) < _); omega) | (refine wait_draw 1000 mixed (by decide +kernel) ?_; simp (maxSteps := 1000000) -implicitDefEqProofs only [go_sem, ↓reduceIte, reduceCtorEq, Nat.reduceEqDiff, Nat.reduceLT, Nat.reduceAdd, Nat.reduceLeDiff]) | intro _))
  all_goals simp_all [withE, iA]
def basesA (k : Int) : AV := .tup [.fsl 1 ((kindF k).map fun p => iA p.1), .fsl 1 ((kindF k).map fun p => iA (p.2 - 2))]
theorem bases_pc (k : Int) : PCon Try.prog 41 [iA k] (· = basesA k) := by
  refine PCon.upto ?_
  refine pcon_run 1000 Try.func41 rfl Try.results41 Try.ntmps41 (Nat.le_of_ble_eq_true rfl) ?_
  simp (maxSteps := 1000000) -implicitDefEqProofs only [go_sem, ↓reduceIte, reduceCtorEq, Nat.reduceEqDiff, Nat.reduceLT, Nat.reduceAdd, Nat.reduceLeDiff, iA]
  (repeat' (first | exact trivial | contradiction | exact ⟨_, rfl⟩ | refine And.intro ?_ ?_ | ((first | show (_ : Nat) ≤ _ | show (_ : Nat) < _ | show (_ : Int) ≤ _ | show (_ : Int) < _); omega) | (refine wait_draw 1000 mixed (by decide +kernel) ?_; simp (maxSteps := 1000000) -implicitDefEqProofs only [go_sem, ↓reduceIte, reduceCtorEq, Nat.reduceEqDiff, Nat.reduceLT, Nat.reduceAdd, Nat.reduceLeDiff]) | intro _))
  all_goals simp [basesA, kindF, *, iA]
  all_goals first | exact Le.refl _ | exact Le.tup (.cons (Le.nil 1) (.cons (Le.nil 1) .nil))
end Go.Proofs.Ytiipggfhjkalfaa
