/- The yard's states: what the fields of a kind are. -/
import Derived.Test.YthflneagfnpfkaaDoorProg
import Derived.Test.YthflneagfnpfkaaDoorPmU
set_option linter.unusedSimpArgs false
set_option linter.unusedVariables false
set_option maxRecDepth 20000
open Go Go.Proofs
namespace Go.Proofs.YthflneagfnpfkaaDoor
open Pm
attribute [local irreducible] Wait CallT CallW Le Weak
def iA (x : Int) : AV := .v (.int .i64 x)
def yA (l : List Int) : AV := .agg (l.map iA)
/-- The fields of a kind, the lowest first: base, cell. -/
def kindF (k : Int) : List (Nat × Nat) :=
  if k = 1 then [(128, 3)] else if k = 2 then [(128, 3)] else if k = 3 then [(2, 2), (128, 3), (4, 7)] else if k = 4 then [(2, 2), (128, 3), (128, 4)]
  else if k = 5 then [(2, 2), (3, 3), (3, 4)] else if k = 6 then [(2, 2), (3, 3), (3, 4)] else if k = 7 then [(2, 2), (2, 5), (128, 3)] else if k = 8 then [(2, 2), (8, 5), (4, 6), (4, 7), (128, 3)]
  else if k = 9 then [(2, 8), (4, 6), (128, 3)] else if k = 10 then [(4, 5), (128, 3), (256, 9)] else if k = 11 then [(256, 9)] else if k = 12 then [(128, 3), (256, 9)] else if k = 13 then [(2, 5), (128, 3)] else []
def fA (id : Nat) (p : Nat × Nat) : AV := .agg [iA p.1, .ptr id 10 0 p.2]
def fsV (F : List (Nat × Nat)) (id : Nat) : AV := match F with
  | [] => .v (.slice none 0 0)
  | _ => .sl id 2 0 F.length
def fsH (F : List (Nat × Nat)) (id : Nat) : List (Option Blk) := match F with
  | [] => []
  | _ => [some (.row 70 2 (F.map (fA id)))]
theorem ten_of {α : Type} (l : List α) (h : l.length = 10) : ∃ a b c d e f g i j k, l = [a, b, c, d, e, f, g, i, j, k] := by
  match l, h with
  | [a, b, c, d, e, f, g, i, j, k], _ => exact ⟨a, b, c, d, e, f, g, i, j, k, rfl⟩
theorem fields_con (l : List Int) (hl : l.length = 10) : Con Tryd.prog 39 [.ptr 0 10 0 0] [some (.row 29 10 [yA l])]
    fun x y => x = fsV (kindF (l.getD 0 0)) 1 ∧ y = some (.row 29 10 [yA l]) :: fsH (kindF (l.getD 0 0)) 0 := by
  obtain ⟨k, d, s, s1, s2, ph, as1, se, ro, co, rfl⟩ := ten_of l hl
  refine con_run 1000 Tryd.func39 rfl Tryd.results39 Tryd.ntmps39 (Nat.le_of_ble_eq_true rfl) ?_
  simp (maxSteps := 1000000) -implicitDefEqProofs only [go_sem, ↓reduceIte, reduceCtorEq, Nat.reduceEqDiff, Nat.reduceLT, Nat.reduceAdd, Nat.reduceLeDiff, Nat.reduceMul, Nat.reduceSub, Nat.reduceDiv, Nat.reduceMod, Int.reduceToNat, Int.reduceLT, Int.reduceLE, Int.reduceEq, Int.reduceAdd, Int.reduceSub, Int.reduceMul, Int.reduceNeg, Int.reduceTMod, Int.reduceTDiv, Int.reduceMod, Int.reduceDiv, Int.reduceBEq, Int.reduceBNe, Nat.reduceBEq, yA, iA]
  (repeat' (first | exact trivial | contradiction | refine And.intro ?_ ?_ | (show (_ : Nat) ≤ _; omega) | (show (_ : Nat) < _; omega) | (show (_ : Int) ≤ _; omega) | (show (_ : Int) < _; omega)  | (refine wait_draw 1000 mixed (by decide +kernel) ?_; simp (maxSteps := 1000000) -implicitDefEqProofs only [go_sem, ↓reduceIte, reduceCtorEq, Nat.reduceEqDiff, Nat.reduceLT, Nat.reduceAdd, Nat.reduceLeDiff, Nat.reduceMul, Nat.reduceSub, Nat.reduceDiv, Nat.reduceMod, Int.reduceToNat, Int.reduceLT, Int.reduceLE, Int.reduceEq, Int.reduceAdd, Int.reduceSub, Int.reduceMul, Int.reduceNeg, Int.reduceTMod, Int.reduceTDiv, Int.reduceMod, Int.reduceDiv, Int.reduceBEq, Int.reduceBNe, Nat.reduceBEq]) | intro _))
  all_goals simp_all [kindF, fsV, fsH, fA, iA]
end Go.Proofs.YthflneagfnpfkaaDoor
