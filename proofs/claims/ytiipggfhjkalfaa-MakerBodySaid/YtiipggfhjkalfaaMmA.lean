/- What a tape means: places, the trail as a stack, the program's Check. -/
import Derived.Test.YtiipggfhjkalfaaProg
import Derived.Test.YtiipggfhjkalfaaPmU
import Derived.Test.YtiipggfhjkalfaaPmAB
import Derived.Test.YtiipggfhjkalfaaMmB
import Derived.Test.YtiipggfhjkalfaaYaH
set_option linter.unusedSimpArgs false
set_option linter.unusedVariables false
set_option maxRecDepth 20000
open Go Go.Proofs
namespace Go.Proofs.Ytiipggfhjkalfaa
open Pm
attribute [local irreducible] Wait CallT CallW NextT Le Weak
theorem mget_pl {α : Type} (f : α → AV) (x y : Int) (l : List (Pl × α)) : mget Try.prog 91 (.agg [.v (.int .i64 x), .v (.int .i64 y)]) (mE f l) 0 = some (rget f (x, y) l) := mget_mE (by kernel_rfl) f x y l
attribute [go_sem] mget_pl
/-- The place next to one. -/
def onP (p : Pl) (d : Int) : Pl := if d = 0 then (p.1 + 1, p.2) else if d = 1 then (p.1, p.2 - 1) else if d = 2 then (p.1 - 1, p.2) else (p.1, p.2 + 1)
theorem on_pc (x y d : Int) (h0 : 0 ≤ d) (h4 : d < 4) (hx : -9223372036854775807 ≤ x) (hx' : x < 9223372036854775807) (hy : -9223372036854775807 ≤ y) (hy' : y < 9223372036854775807) :
    PCon Try.prog 70 [.agg [.v (.int .i64 x), .v (.int .i64 y)], .v (.int .i64 d)] (· = .agg [.v (.int .i64 (onP (x, y) d).1), .v (.int .i64 (onP (x, y) d).2)]) := by
  have hd : d = 0 ∨ d = 1 ∨ d = 2 ∨ d = 3 := by omega
  refine pcon_run 1000 Try.func70 rfl Try.results70 Try.ntmps70 (Nat.le_of_ble_eq_true rfl) ?_
  rcases hd with rfl | rfl | rfl | rfl
  all_goals
    simp (maxSteps := 1000000) -implicitDefEqProofs only [go_sem, ↓reduceIte, reduceCtorEq, Nat.reduceEqDiff, Nat.reduceLT, Nat.reduceAdd, Nat.reduceLeDiff, Nat.reduceMul, Nat.reduceSub, Int.reduceToNat, Int.reduceLT, Int.reduceLE, Int.reduceEq, Int.reduceBNe, Nat.reduceBEq]
    (repeat' (first | exact trivial | contradiction | exact ⟨_, rfl⟩ | refine And.intro ?_ ?_ | ((first | show (_ : Nat) ≤ _ | show (_ : Nat) < _ | show (_ : Int) ≤ _ | show (_ : Int) < _); omega) | (refine wait_draw 1000 mixed (by decide +kernel) ?_; simp (maxSteps := 1000000) -implicitDefEqProofs only [go_sem, ↓reduceIte, reduceCtorEq, Nat.reduceEqDiff, Nat.reduceLT, Nat.reduceAdd, Nat.reduceLeDiff, Nat.reduceMul, Nat.reduceSub, Int.reduceToNat, Int.reduceLT, Int.reduceLE, Int.reduceEq, Int.reduceBNe, Nat.reduceBEq]) | intro _))
    all_goals simp [fz_v, fz_agg, fzL_nil, fzL_cons, onP]
    all_goals (try rw [wrap64 (by omega) (by omega)])
    all_goals (try rw [wrap64 (by omega) (by omega)])
    all_goals (try simp)
    all_goals (try omega)
theorem cell_pc (x y s : Int) : PCon Try.prog 51 [.agg [.v (.int .i64 x), .v (.int .i64 y)], .v (.int .i64 s)] (· = .agg [.v (.int .i64 x), .v (.int .i64 y), .v (.int .i64 s)]) := by
  refine pcon_run 1000 Try.func51 rfl Try.results51 Try.ntmps51 (Nat.le_of_ble_eq_true rfl) ?_
  simp (maxSteps := 1000000) -implicitDefEqProofs only [go_sem, ↓reduceIte, reduceCtorEq, Nat.reduceEqDiff, Nat.reduceLT, Nat.reduceAdd, Nat.reduceLeDiff, Nat.reduceMul, Nat.reduceSub, Int.reduceToNat, Int.reduceLT, Int.reduceLE, Int.reduceEq, Int.reduceBNe, Nat.reduceBEq]
  (repeat' (first | exact trivial | contradiction | exact ⟨_, rfl⟩ | refine And.intro ?_ ?_ | ((first | show (_ : Nat) ≤ _ | show (_ : Nat) < _ | show (_ : Int) ≤ _ | show (_ : Int) < _); omega) | (refine wait_draw 1000 mixed (by decide +kernel) ?_; simp (maxSteps := 1000000) -implicitDefEqProofs only [go_sem, ↓reduceIte, reduceCtorEq, Nat.reduceEqDiff, Nat.reduceLT, Nat.reduceAdd, Nat.reduceLeDiff, Nat.reduceMul, Nat.reduceSub, Int.reduceToNat, Int.reduceLT, Int.reduceLE, Int.reduceEq, Int.reduceBNe, Nat.reduceBEq]) | intro _))
  all_goals simp [fz_v, fz_agg, fz_tup, fz_fsl, fzL_nil, fzL_cons]
end Go.Proofs.Ytiipggfhjkalfaa
