import Derived.Test.YtiipggfhjkalfaaProg
import Derived.Test.YtiipggfhjkalfaaPmU
import Derived.Test.YtiipggfhjkalfaaPmAB
import Derived.Test.YtiipggfhjkalfaaRmU
/- The constructor: small functions of both texts. -/
set_option linter.unusedSimpArgs false
set_option linter.unusedVariables false
set_option maxRecDepth 20000
open Go Go.Proofs
namespace Go.Proofs.Ytiipggfhjkalfaa
open Pm
attribute [local irreducible] Wait CallT CallW NextT Le Weak
/-- A ring of 2 * w cells. -/
def rgA (w : Nat) : AV := .v (.int .i64 ((2 * w : Nat) : Int))
theorem half_nat (w : Nat) : ((2 * w : Nat) : Int).tdiv 2 = (w : Int) := by rw [Int.tdiv_eq_ediv_of_nonneg (by omega)]; omega
theorem root_nat {w : Nat} (h : 1 ≤ w) : ((w : Int) - 1).tdiv 2 = (((w - 1) / 2 : Nat) : Int) := by rw [Int.tdiv_eq_ediv_of_nonneg (by omega)]; omega
theorem root_pc (w : Nat) (h : 6 ≤ w) (h' : w ≤ 4096) : PCon Try.prog 65 [rgA w] (· = .v (.int .i64 (((w - 1) / 2 : Nat) : Int))) := by
  refine pcon_run 1000 Try.func65 rfl Try.results65 Try.ntmps65 (Nat.le_of_ble_eq_true rfl) ?_
  have e1 := half_nat w
  have e2 : IntKind.i64.wrap (w : Int) = (w : Int) := wrap64 (by omega) (by omega)
  have e3 : IntKind.i64.wrap ((w : Int) - 1) = (w : Int) - 1 := wrap64 (by omega) (by omega)
  have e4 := root_nat (w := w) (by omega)
  have e5 : IntKind.i64.wrap (((w - 1) / 2 : Nat) : Int) = (((w - 1) / 2 : Nat) : Int) := wrap64 (by omega) (by omega)
  simp (maxSteps := 1000000) -implicitDefEqProofs only [go_sem, ↓reduceIte, reduceCtorEq, Nat.reduceEqDiff, Nat.reduceLT, Nat.reduceAdd, Nat.reduceLeDiff, Nat.reduceMul, Nat.reduceSub, Int.reduceToNat, Int.reduceLT, Int.reduceLE, Int.reduceEq, Int.reduceBNe, Nat.reduceBEq, rgA, e1, e2, e3, e4, e5]
  (repeat' (first | exact trivial | contradiction | exact ⟨_, rfl⟩ | refine And.intro ?_ ?_ | ((first | show (_ : Nat) ≤ _ | show (_ : Nat) < _ | show (_ : Int) ≤ _ | show (_ : Int) < _); omega) | (refine wait_draw 1000 mixed (by decide +kernel) ?_; simp (maxSteps := 1000000) -implicitDefEqProofs only [go_sem, ↓reduceIte, reduceCtorEq, Nat.reduceEqDiff, Nat.reduceLT, Nat.reduceAdd, Nat.reduceLeDiff, Nat.reduceMul, Nat.reduceSub, Int.reduceToNat, Int.reduceLT, Int.reduceLE, Int.reduceEq, Int.reduceBNe, Nat.reduceBEq , rgA, e1, e2, e3, e4, e5]) | intro _))
theorem rhalf_pc (w : Nat) (h : 6 ≤ w) (h' : w ≤ 4096) : PCon Try.prog 63 [rgA w] (· = .v (.int .i64 (((w - 1) / 2 : Nat) : Int))) := by
  refine pcon_run 1000 Try.func63 rfl Try.results63 Try.ntmps63 (Nat.le_of_ble_eq_true rfl) ?_
  have e1 := half_nat w
  have e2 : IntKind.i64.wrap (w : Int) = (w : Int) := wrap64 (by omega) (by omega)
  have e3 : IntKind.i64.wrap ((w : Int) - 1) = (w : Int) - 1 := wrap64 (by omega) (by omega)
  have e4 := root_nat (w := w) (by omega)
  have e5 : IntKind.i64.wrap (((w - 1) / 2 : Nat) : Int) = (((w - 1) / 2 : Nat) : Int) := wrap64 (by omega) (by omega)
  simp (maxSteps := 1000000) -implicitDefEqProofs only [go_sem, ↓reduceIte, reduceCtorEq, Nat.reduceEqDiff, Nat.reduceLT, Nat.reduceAdd, Nat.reduceLeDiff, Nat.reduceMul, Nat.reduceSub, Int.reduceToNat, Int.reduceLT, Int.reduceLE, Int.reduceEq, Int.reduceBNe, Nat.reduceBEq, rgA, e1, e2, e3, e4, e5]
  (repeat' (first | exact trivial | contradiction | exact ⟨_, rfl⟩ | refine And.intro ?_ ?_ | ((first | show (_ : Nat) ≤ _ | show (_ : Nat) < _ | show (_ : Int) ≤ _ | show (_ : Int) < _); omega) | (refine wait_draw 1000 mixed (by decide +kernel) ?_; simp (maxSteps := 1000000) -implicitDefEqProofs only [go_sem, ↓reduceIte, reduceCtorEq, Nat.reduceEqDiff, Nat.reduceLT, Nat.reduceAdd, Nat.reduceLeDiff, Nat.reduceMul, Nat.reduceSub, Int.reduceToNat, Int.reduceLT, Int.reduceLE, Int.reduceEq, Int.reduceBNe, Nat.reduceBEq , rgA, e1, e2, e3, e4, e5]) | intro _))
theorem wstate_pc (i : Int) : PCon Try.prog 89 [.v (.int .i64 i)] (· = .v (.int .i64 (WrittenStateE i).1)) := by
  refine pcon_run 1000 Try.func89 rfl Try.results89 Try.ntmps89 (Nat.le_of_ble_eq_true rfl) ?_
  have c := written_pc i
  simp only [iA] at c
  simp (maxSteps := 1000000) -implicitDefEqProofs only [go_sem, ↓reduceIte, reduceCtorEq, Nat.reduceEqDiff, Nat.reduceLT, Nat.reduceAdd, Nat.reduceLeDiff, Nat.reduceMul, Nat.reduceSub, Int.reduceToNat, Int.reduceLT, Int.reduceLE, Int.reduceEq, Int.reduceBNe, Nat.reduceBEq]
  (repeat' (first | exact trivial | contradiction | exact ⟨_, rfl⟩ | refine And.intro ?_ ?_ | ((first | show (_ : Nat) ≤ _ | show (_ : Nat) < _ | show (_ : Int) ≤ _ | show (_ : Int) < _); omega) | (refine wait_draw 1000 mixed (by decide +kernel) ?_; simp (maxSteps := 1000000) -implicitDefEqProofs only [go_sem, ↓reduceIte, reduceCtorEq, Nat.reduceEqDiff, Nat.reduceLT, Nat.reduceAdd, Nat.reduceLeDiff, Nat.reduceMul, Nat.reduceSub, Int.reduceToNat, Int.reduceLT, Int.reduceLE, Int.reduceEq, Int.reduceBNe, Nat.reduceBEq]) | ((first | refine call_eq 1000 (c) ?_ ?_ rfl | refine call_draw 1000 (c) ?_ ?_); (focus (simp (maxSteps := 1000000) -implicitDefEqProofs only [go_sem, ↓reduceIte, reduceCtorEq, Nat.reduceEqDiff, Nat.reduceLT, Nat.reduceAdd, Nat.reduceLeDiff, Nat.reduceMul, Nat.reduceSub, Int.reduceToNat, Int.reduceLT, Int.reduceLE, Int.reduceEq, Int.reduceBNe, Nat.reduceBEq]; done)); simp (maxSteps := 1000000) -implicitDefEqProofs only [go_sem, ↓reduceIte, reduceCtorEq, Nat.reduceEqDiff, Nat.reduceLT, Nat.reduceAdd, Nat.reduceLeDiff, Nat.reduceMul, Nat.reduceSub, Int.reduceToNat, Int.reduceLT, Int.reduceLE, Int.reduceEq, Int.reduceBNe, Nat.reduceBEq]) | intro _))
theorem rstate_pc (y : List Int) (hy : y.length = 10) : PCon Try.prog 88 [yA y] (· = .v (.int .i64 (YardStateE y).1)) := by
  have c := refYardState_pc y hy
  rw [← state_eq y hy] at c
  obtain ⟨z0, z1, z2, z3, z4, z5, z6, z7, z8, z9, rfl⟩ := ten_of y hy
  generalize YardStateE [z0, z1, z2, z3, z4, z5, z6, z7, z8, z9] = r at c ⊢
  simp only [yA, iA, List.map_cons, List.map_nil] at c ⊢
  refine pcon_run 1000 Try.func88 rfl Try.results88 Try.ntmps88 (Nat.le_of_ble_eq_true rfl) ?_
  simp (maxSteps := 1000000) -implicitDefEqProofs only [go_sem, ↓reduceIte, reduceCtorEq, Nat.reduceEqDiff, Nat.reduceLT, Nat.reduceAdd, Nat.reduceLeDiff, Nat.reduceMul, Nat.reduceSub, Int.reduceToNat, Int.reduceLT, Int.reduceLE, Int.reduceEq, Int.reduceBNe, Nat.reduceBEq]
  (repeat' (first | exact trivial | contradiction | exact ⟨_, rfl⟩ | refine And.intro ?_ ?_ | ((first | show (_ : Nat) ≤ _ | show (_ : Nat) < _ | show (_ : Int) ≤ _ | show (_ : Int) < _); omega) | (refine wait_draw 1000 mixed (by decide +kernel) ?_; simp (maxSteps := 1000000) -implicitDefEqProofs only [go_sem, ↓reduceIte, reduceCtorEq, Nat.reduceEqDiff, Nat.reduceLT, Nat.reduceAdd, Nat.reduceLeDiff, Nat.reduceMul, Nat.reduceSub, Int.reduceToNat, Int.reduceLT, Int.reduceLE, Int.reduceEq, Int.reduceBNe, Nat.reduceBEq]) | ((first | refine call_eq 1000 (c) ?_ ?_ rfl | refine call_draw 1000 (c) ?_ ?_); (focus (simp (maxSteps := 1000000) -implicitDefEqProofs only [go_sem, ↓reduceIte, reduceCtorEq, Nat.reduceEqDiff, Nat.reduceLT, Nat.reduceAdd, Nat.reduceLeDiff, Nat.reduceMul, Nat.reduceSub, Int.reduceToNat, Int.reduceLT, Int.reduceLE, Int.reduceEq, Int.reduceBNe, Nat.reduceBEq]; done)); simp (maxSteps := 1000000) -implicitDefEqProofs only [go_sem, ↓reduceIte, reduceCtorEq, Nat.reduceEqDiff, Nat.reduceLT, Nat.reduceAdd, Nat.reduceLeDiff, Nat.reduceMul, Nat.reduceSub, Int.reduceToNat, Int.reduceLT, Int.reduceLE, Int.reduceEq, Int.reduceBNe, Nat.reduceBEq]) | intro _))
/-- The place of a cell of the ring, from the corner. -/
def ringP (w k : Nat) : Pl :=
  let a := (w - 1) / 2
  let b := w - 1 - a
  if k ≤ b then (((a + k : Nat) : Int), 2) else if k ≤ b + w then (((w - 1 - (k - b - 1) : Nat) : Int), 3) else (((k - b - w - 1 : Nat) : Int), 2)
theorem rRing_pc (w k : Nat) (h : 6 ≤ w) (h' : w ≤ 4096) (hk : k < 2 * w) : PCon Try.prog 87 [rgA w, .v (.int .i64 (k : Int))] (· = .tup [.v (.int .i64 (ringP w k).1), .v (.int .i64 (ringP w k).2)]) := by
  refine pcon_run 1000 Try.func87 rfl Try.results87 Try.ntmps87 (Nat.le_of_ble_eq_true rfl) ?_
  have c := rhalf_pc w h h'
  obtain ⟨a, ha⟩ : ∃ a, a = (w - 1) / 2 := ⟨_, rfl⟩
  have e1 := half_nat w
  have e2 : IntKind.i64.wrap (w : Int) = (w : Int) := wrap64 (by omega) (by omega)
  simp only [rgA, ← ha] at c
  have e3 : IntKind.i64.wrap ((w : Int) - 1) = (w : Int) - 1 := wrap64 (by omega) (by omega)
  have e4 : IntKind.i64.wrap ((w : Int) - 1 - (a : Int)) = ((w - 1 - a : Nat) : Int) := by rw [wrap64 (by omega) (by omega)]; omega
  obtain ⟨b, hb⟩ : ∃ b, b = w - 1 - a := ⟨_, rfl⟩
  rw [← hb] at e4
  have e5 : IntKind.i64.wrap ((b : Int) + (w : Int)) = ((b + w : Nat) : Int) := by rw [wrap64 (by omega) (by omega)]; omega
  have e6 : IntKind.i64.wrap ((a : Int) + (k : Int)) = ((a + k : Nat) : Int) := by rw [wrap64 (by omega) (by omega)]; omega
  have e7 : IntKind.i64.wrap ((k : Int) - (b : Int)) = (k : Int) - (b : Int) := wrap64 (by omega) (by omega)
  have e8 : IntKind.i64.wrap ((k : Int) - (b : Int) - 1) = (k : Int) - (b : Int) - 1 := wrap64 (by omega) (by omega)
  have e9 : IntKind.i64.wrap ((w : Int) - 1 - ((k : Int) - (b : Int) - 1)) = (w : Int) - 1 - ((k : Int) - (b : Int) - 1) := wrap64 (by omega) (by omega)
  have e10 : IntKind.i64.wrap ((k : Int) - (b : Int) - (w : Int)) = (k : Int) - (b : Int) - (w : Int) := wrap64 (by omega) (by omega)
  have e11 : IntKind.i64.wrap ((k : Int) - (b : Int) - (w : Int) - 1) = (k : Int) - (b : Int) - (w : Int) - 1 := wrap64 (by omega) (by omega)
  simp only [ringP, ← ha, ← hb]
  simp (maxSteps := 1000000) -implicitDefEqProofs only [go_sem, ↓reduceIte, reduceCtorEq, Nat.reduceEqDiff, Nat.reduceLT, Nat.reduceAdd, Nat.reduceLeDiff, Nat.reduceMul, Nat.reduceSub, Int.reduceToNat, Int.reduceLT, Int.reduceLE, Int.reduceEq, Int.reduceBNe, Nat.reduceBEq, rgA, e1, e2, e3, e4, e5, e6]
  (repeat' (first | exact trivial | contradiction | exact ⟨_, rfl⟩ | refine And.intro ?_ ?_ | ((first | show (_ : Nat) ≤ _ | show (_ : Nat) < _ | show (_ : Int) ≤ _ | show (_ : Int) < _); omega) | (refine wait_draw 1000 mixed (by decide +kernel) ?_; simp (maxSteps := 1000000) -implicitDefEqProofs only [go_sem, ↓reduceIte, reduceCtorEq, Nat.reduceEqDiff, Nat.reduceLT, Nat.reduceAdd, Nat.reduceLeDiff, Nat.reduceMul, Nat.reduceSub, Int.reduceToNat, Int.reduceLT, Int.reduceLE, Int.reduceEq, Int.reduceBNe, Nat.reduceBEq, rgA, e1, e2, e3, e4, e5, e6, e7, e8, e9, e10, e11]) | ((first | refine call_eq 1000 (c) ?_ ?_ rfl | refine call_draw 1000 (c) ?_ ?_); (focus (simp (maxSteps := 1000000) -implicitDefEqProofs only [go_sem, ↓reduceIte, reduceCtorEq, Nat.reduceEqDiff, Nat.reduceLT, Nat.reduceAdd, Nat.reduceLeDiff, Nat.reduceMul, Nat.reduceSub, Int.reduceToNat, Int.reduceLT, Int.reduceLE, Int.reduceEq, Int.reduceBNe, Nat.reduceBEq, rgA, e1, e2, e3, e4, e5, e6, e7, e8, e9, e10, e11]; done)); simp (maxSteps := 1000000) -implicitDefEqProofs only [go_sem, ↓reduceIte, reduceCtorEq, Nat.reduceEqDiff, Nat.reduceLT, Nat.reduceAdd, Nat.reduceLeDiff, Nat.reduceMul, Nat.reduceSub, Int.reduceToNat, Int.reduceLT, Int.reduceLE, Int.reduceEq, Int.reduceBNe, Nat.reduceBEq, rgA, e1, e2, e3, e4, e5, e6, e7, e8, e9, e10, e11]) | intro _))
  · rw [if_pos (by omega)]
  · rw [if_neg (by omega), if_pos (by omega), show ((w : Int) - 1 - ((k : Int) - (b : Int) - 1)) = ((w - 1 - (k - b - 1) : Nat) : Int) by omega]
  · rw [if_neg (by omega), if_neg (by omega), show ((k : Int) - (b : Int) - (w : Int) - 1) = ((k - b - w - 1 : Nat) : Int) by omega]
end Go.Proofs.Ytiipggfhjkalfaa
/- The constructor: what stands in a ring's cell, the document's way. -/
set_option linter.unusedSimpArgs false
set_option linter.unusedVariables false
set_option maxRecDepth 20000
open Go Go.Proofs
namespace Go.Proofs.Ytiipggfhjkalfaa
open Pm
attribute [local irreducible] Wait CallT CallW NextT Le Weak
def ringY (w k : Nat) : List Int :=
  if k = 0 then [8, 0, 0, 0, 0, 0, 1, 0, 0, 0]
  else if (ringP w k).2 = 3 ∧ (ringP w k).1 = (((w - 1) / 2 : Nat) : Int) then [7, 2, 0, 0, 0, 0, 0, 0, 0, 0]
  else if (ringP w k).2 = 3 ∧ (ringP w k).1 = 0 then [1, 1, 0, 0, 0, 0, 0, 0, 0, 0]
  else if (ringP w k).2 = 3 then [1, 2, 0, 0, 0, 0, 0, 0, 0, 0]
  else if (ringP w k).1 = (w : Int) - 1 then [1, 3, 0, 0, 0, 0, 0, 0, 0, 0]
  else [1, 0, 0, 0, 0, 0, 0, 0, 0, 0]
theorem ringState_pc (w k : Nat) (h : 6 ≤ w) (h' : w ≤ 4096) (hk : k < 2 * w) : PCon Try.prog 54 [rgA w, .v (.int .i64 (k : Int))] (· = yA (ringY w k)) := by
  refine pcon_run 1000 Try.func54 rfl Try.results54 Try.ntmps54 (Nat.le_of_ble_eq_true rfl) ?_
  have c := rhalf_pc w h h'
  have d := rRing_pc w k h h' hk
  have e1 := half_nat w
  have e2 : IntKind.i64.wrap (w : Int) = (w : Int) := wrap64 (by omega) (by omega)
  have e3 : IntKind.i64.wrap ((w : Int) - 1) = (w : Int) - 1 := wrap64 (by omega) (by omega)
  unfold ringY
  generalize ringP w k = p at d ⊢
  obtain ⟨x, y⟩ := p
  obtain ⟨a, ha⟩ : ∃ a, a = (w - 1) / 2 := ⟨_, rfl⟩
  simp only [rgA, ← ha] at c d
  rw [← ha]
  simp only
  simp (maxSteps := 1000000) -implicitDefEqProofs only [go_sem, ↓reduceIte, reduceCtorEq, Nat.reduceEqDiff, Nat.reduceLT, Nat.reduceAdd, Nat.reduceLeDiff, Nat.reduceMul, Nat.reduceSub, Int.reduceToNat, Int.reduceLT, Int.reduceLE, Int.reduceEq, Int.reduceBNe, Nat.reduceBEq, rgA, e1, e2, e3]
  (repeat' (first | exact trivial | contradiction | exact ⟨_, rfl⟩ | refine And.intro ?_ ?_ | ((first | show (_ : Nat) ≤ _ | show (_ : Nat) < _ | show (_ : Int) ≤ _ | show (_ : Int) < _); omega) | (refine wait_draw 1000 mixed (by decide +kernel) ?_; simp (maxSteps := 1000000) -implicitDefEqProofs only [go_sem, ↓reduceIte, reduceCtorEq, Nat.reduceEqDiff, Nat.reduceLT, Nat.reduceAdd, Nat.reduceLeDiff, Nat.reduceMul, Nat.reduceSub, Int.reduceToNat, Int.reduceLT, Int.reduceLE, Int.reduceEq, Int.reduceBNe, Nat.reduceBEq, rgA, e1, e2, e3]) | ((first | refine call_eq 1000 (c) ?_ ?_ rfl | refine call_draw 1000 (c) ?_ ?_ | refine call_eq 1000 (d) ?_ ?_ rfl | refine call_draw 1000 (d) ?_ ?_); (focus (simp (maxSteps := 1000000) -implicitDefEqProofs only [go_sem, ↓reduceIte, reduceCtorEq, Nat.reduceEqDiff, Nat.reduceLT, Nat.reduceAdd, Nat.reduceLeDiff, Nat.reduceMul, Nat.reduceSub, Int.reduceToNat, Int.reduceLT, Int.reduceLE, Int.reduceEq, Int.reduceBNe, Nat.reduceBEq, rgA, e1, e2, e3]; done)); simp (maxSteps := 1000000) -implicitDefEqProofs only [go_sem, ↓reduceIte, reduceCtorEq, Nat.reduceEqDiff, Nat.reduceLT, Nat.reduceAdd, Nat.reduceLeDiff, Nat.reduceMul, Nat.reduceSub, Int.reduceToNat, Int.reduceLT, Int.reduceLE, Int.reduceEq, Int.reduceBNe, Nat.reduceBEq, rgA, e1, e2, e3]) | intro _))
  all_goals first
  | (rw [if_pos (by omega)]; rfl)
  | (rw [if_neg (by omega), if_pos (by omega)]; rfl)
  | (rw [if_neg (by omega), if_neg (by omega), if_pos (by omega)]; rfl)
  | (rw [if_neg (by omega), if_neg (by omega), if_neg (by omega), if_pos (by omega)]; rfl)
  | (rw [if_neg (by omega), if_neg (by omega), if_neg (by omega), if_neg (by omega), if_pos (by omega)]; rfl)
  | (rw [if_neg (by omega), if_neg (by omega), if_neg (by omega), if_neg (by omega), if_neg (by omega)]; rfl)
end Go.Proofs.Ytiipggfhjkalfaa
/- The constructor, whole: the document's way. -/
set_option linter.unusedSimpArgs false
set_option linter.unusedVariables false
set_option maxRecDepth 20000
open Go Go.Proofs
namespace Go.Proofs.Ytiipggfhjkalfaa
open Pm
attribute [local irreducible] Wait CallT CallW NextT Le Weak
def wholeY (sy rd : List Int) (jn : Int) (k : Nat) (y : List Int) : List Int :=
  if y.getD 0 0 = 8 then rd else if y.getD 0 0 = 7 then (y.set 5 jn).set 3 (sy.getD k 0) else y.set 3 (sy.getD k 0)
def wholeS (w : Nat) (sy rd : List Int) (jn : Int) (k : Nat) : Int := (YardStateE (wholeY sy rd jn k (ringY w k))).1
def wholeR (w : Nat) (sy rd : List Int) (jn : Int) (k : Nat) : List Ce := (List.range k).map fun i => (ringP w i, wholeS w sy rd jn i)
def wholeL (w : Nat) (sy rd : List Int) (jn : Int) : List Ce := wholeR w sy rd jn (2 * w) ++ [(((((w - 1) / 2 : Nat) : Int), 0), (YardStateE [10, 1, 0, 0, 0, 1, 0, 0, 0, 0]).1)] ++ [(((((w - 1) / 2 : Nat) : Int), 1), (YardStateE [9, 1, 0, 0, 0, 0, 0, 0, 1, 0]).1)]
theorem ringY_kinds (w k : Nat) : ringY w k = [8, 0, 0, 0, 0, 0, 1, 0, 0, 0] ∨ ringY w k = [7, 2, 0, 0, 0, 0, 0, 0, 0, 0] ∨ ∃ d : Int, ringY w k = [1, d, 0, 0, 0, 0, 0, 0, 0, 0] := by
  unfold ringY
  split
  · exact .inl rfl
  · split
    · exact .inr (.inl rfl)
    · split
      · exact .inr (.inr ⟨_, rfl⟩)
      · split
        · exact .inr (.inr ⟨_, rfl⟩)
        · split
          · exact .inr (.inr ⟨_, rfl⟩)
          · exact .inr (.inr ⟨_, rfl⟩)
theorem wholeR_succ (w : Nat) (sy rd : List Int) (jn : Int) (k : Nat) : wholeR w sy rd jn (k + 1) = wholeR w sy rd jn k ++ [(ringP w k, wholeS w sy rd jn k)] := by
  unfold wholeR
  rw [List.range_succ, List.map_append]; rfl
theorem wholeR_len (w : Nat) (sy rd : List Int) (jn : Int) (k : Nat) : (wholeR w sy rd jn k).length = k := by simp [wholeR]
def whB (rd : List Int) : Option Blk := some (.row 37 10 [yA rd])
def whN (w : Nat) (sy rd : List Int) (jn : Int) : St := ⟨74, 0, [(0, rgA w), (1, tA sy), (3, .v (.int .i64 jn)), (6, .ptr 0 10 0 0), (9, .v (.slice none 0 0)), (10, .v (.int .i64 0))], [whB rd]⟩
def whC (w : Nat) (sy rd : List Int) (jn : Int) (k : Nat) : St := ⟨74, 0, [(0, rgA w), (1, tA sy), (3, .v (.int .i64 jn)), (6, .ptr 0 10 0 0), (9, .sl 1 3 0 k), (10, .v (.int .i64 (k : Int)))], [whB rd, some (.row 33 3 (ceL (wholeR w sy rd jn k)))]⟩
def whS (w : Nat) (sy rd : List Int) (jn : Int) (k : Nat) : St := if k = 0 then whN w sy rd jn else whC w sy rd jn k
set_option maxHeartbeats 4000000 in
theorem whole_pc (w : Nat) (sy rd : List Int) (jn : Int) (h : 6 ≤ w) (h' : w ≤ 4096) (hsy : sy.length = 2 * w) (hrd : rd.length = 10) (hn : ((wholeL w sy rd jn).map Prod.fst).Nodup) :
    PCon Try.prog 53 [rgA w, tA sy, yA rd, .v (.int .i64 jn)] (· = .fsl 3 (ceL (sortC (wholeL w sy rd jn)))) := by
  refine pcon_run 1000 Try.func53 rfl Try.results53 Try.ntmps53 (Nat.le_of_ble_eq_true rfl) ?_
  obtain ⟨z0, z1, z2, z3, z4, z5, z6, z7, z8, z9, hz⟩ := ten_of rd hrd
  have hyz : yA rd = .agg [.v (.int .i64 z0), .v (.int .i64 z1), .v (.int .i64 z2), .v (.int .i64 z3), .v (.int .i64 z4), .v (.int .i64 z5), .v (.int .i64 z6), .v (.int .i64 z7), .v (.int .i64 z8), .v (.int .i64 z9)] := by rw [hz]; rfl
  simp (maxSteps := 1000000) -implicitDefEqProofs only [go_sem, ↓reduceIte, reduceCtorEq, Nat.reduceEqDiff, Nat.reduceLT, Nat.reduceAdd, Nat.reduceLeDiff, Nat.reduceMul, Nat.reduceSub, Int.reduceToNat, Int.reduceLT, Int.reduceLE, Int.reduceEq, Int.reduceBNe, Nat.reduceBEq, Int.reduceAdd, rgA, tA, hyz]
  (repeat' (first | exact trivial | contradiction | exact ⟨_, rfl⟩ | refine And.intro ?_ ?_ | ((first | show (_ : Nat) ≤ _ | show (_ : Nat) < _ | show (_ : Int) ≤ _ | show (_ : Int) < _); omega) | (refine wait_draw 1000 mixed (by decide +kernel) ?_; simp (maxSteps := 1000000) -implicitDefEqProofs only [go_sem, ↓reduceIte, reduceCtorEq, Nat.reduceEqDiff, Nat.reduceLT, Nat.reduceAdd, Nat.reduceLeDiff, Nat.reduceMul, Nat.reduceSub, Int.reduceToNat, Int.reduceLT, Int.reduceLE, Int.reduceEq, Int.reduceBNe, Nat.reduceBEq, Int.reduceAdd , rgA, tA, hyz]) | intro _))
  refine wait_range (2 * w) (whS w sy rd jn) (fun _ => True) (weak_to [0, 1, 3, 6, 9, 10] [0] ?_ (by simp) (fun i h => by cases h)) trivial ?_
  · rw [show whS w sy rd jn 0 = whN w sy rd jn from rfl]
    simp (maxSteps := 1000000) -implicitDefEqProofs only [go_sem, ↓reduceIte, reduceCtorEq, Nat.reduceEqDiff, Nat.reduceLT, Nat.reduceAdd, Nat.reduceLeDiff, Nat.reduceMul, Nat.reduceSub, Int.reduceToNat, Int.reduceLT, Int.reduceLE, Int.reduceEq, Int.reduceBNe, Nat.reduceBEq, Int.reduceAdd, St.keep, whN, whB, rgA, tA, hyz]
  intro k hk _
  by_cases hkw : k < 2 * w
  · refine run_sound 1000 _ _ ?_
    have h1 : ((k : Int) < ((2 * w : Nat) : Int)) = True := eq_true (by omega)
    have h2 : (k < sy.length) = True := eq_true (by omega)
    have h3 : ((k : Int) < (sy.length : Int)) = True := eq_true (by omega)
    have hw1 : IntKind.i64.wrap ((k : Int) + 1) = ((k + 1 : Nat) : Int) := by rw [wrap64 (by omega) (by omega)]; omega
    have gs := get_tA sy k (by omega)
    have c := rRing_pc w k h h' hkw
    have d := ringState_pc w k h h' hkw
    have hsucc := wholeR_succ w sy rd jn k
    have hSk : wholeS w sy rd jn k = (YardStateE (wholeY sy rd jn k (ringY w k))).1 := rfl
    have hwl := wholeR_len w sy rd jn k
    rw [show whS w sy rd jn (k + 1) = whC w sy rd jn (k + 1) from rfl]
    unfold whC
    rw [hsucc, hSk]
    generalize ringP w k = p at c ⊢
    obtain ⟨px, py⟩ := p
    simp only [rgA] at c d
    obtain ⟨s, hs⟩ : ∃ s, s = sy.getD k 0 := ⟨_, rfl⟩
    rw [← hs] at gs
    rcases ringY_kinds w k with hy | hy | ⟨dd, hy⟩
    · have cs := rstate_pc rd hrd
      rw [hy] at d
      rw [hy, show wholeY sy rd jn k [8, 0, 0, 0, 0, 0, 1, 0, 0, 0] = rd from rfl]
      generalize (YardStateE rd).1 = st at cs ⊢
      rw [hyz] at cs
      simp only [yA, iA, List.map_cons, List.map_nil] at d
      by_cases hk0 : k = 0
      · have h10 : ((0 : Int) < ((2 * w : Nat) : Int)) = True := eq_true (by omega)
        have h20 : (0 < sy.length) = True := eq_true (by omega)
        have h30 : ((0 : Int) < (sy.length : Int)) = True := eq_true (by omega)
        subst hk0
        simp only [Int.natCast_zero] at c d
        rw [show whS w sy rd jn 0 = whN w sy rd jn from rfl, show wholeR w sy rd jn 0 = [] from rfl]
        simp (maxSteps := 1000000) -implicitDefEqProofs only [go_sem, ↓reduceIte, reduceCtorEq, Nat.reduceEqDiff, Nat.reduceLT, Nat.reduceAdd, Nat.reduceLeDiff, Nat.reduceMul, Nat.reduceSub, Int.reduceToNat, Int.reduceLT, Int.reduceLE, Int.reduceEq, Int.reduceBNe, Nat.reduceBEq, Int.reduceAdd, whN, whB, rgA, tA, hyz, h10, h20, h30, gs]
        (repeat' (first | exact trivial | contradiction | exact ⟨_, rfl⟩ | refine And.intro ?_ ?_ | ((first | show (_ : Nat) ≤ _ | show (_ : Nat) < _ | show (_ : Int) ≤ _ | show (_ : Int) < _); omega) | (refine wait_draw 1000 mixed (by decide +kernel) ?_; simp (maxSteps := 1000000) -implicitDefEqProofs only [go_sem, ↓reduceIte, reduceCtorEq, Nat.reduceEqDiff, Nat.reduceLT, Nat.reduceAdd, Nat.reduceLeDiff, Nat.reduceMul, Nat.reduceSub, Int.reduceToNat, Int.reduceLT, Int.reduceLE, Int.reduceEq, Int.reduceBNe, Nat.reduceBEq, Int.reduceAdd, whN, whB, rgA, tA, hyz, h10, h20, h30, gs]) | ((first | refine call_eq 1000 (c) ?_ ?_ rfl | refine call_draw 1000 (c) ?_ ?_ | refine call_eq 1000 (d) ?_ ?_ rfl | refine call_draw 1000 (d) ?_ ?_ | refine call_eq 1000 (cs) ?_ ?_ rfl | refine call_draw 1000 (cs) ?_ ?_); (focus (simp (maxSteps := 1000000) -implicitDefEqProofs only [go_sem, ↓reduceIte, reduceCtorEq, Nat.reduceEqDiff, Nat.reduceLT, Nat.reduceAdd, Nat.reduceLeDiff, Nat.reduceMul, Nat.reduceSub, Int.reduceToNat, Int.reduceLT, Int.reduceLE, Int.reduceEq, Int.reduceBNe, Nat.reduceBEq, Int.reduceAdd, whN, whB, rgA, tA, hyz, h10, h20, h30, gs]; done)); simp (maxSteps := 1000000) -implicitDefEqProofs only [go_sem, ↓reduceIte, reduceCtorEq, Nat.reduceEqDiff, Nat.reduceLT, Nat.reduceAdd, Nat.reduceLeDiff, Nat.reduceMul, Nat.reduceSub, Int.reduceToNat, Int.reduceLT, Int.reduceLE, Int.reduceEq, Int.reduceBNe, Nat.reduceBEq, Int.reduceAdd, whN, whB, rgA, tA, hyz, h10, h20, h30, gs]) | intro _))
        all_goals
          refine weak_to [0, 1, 3, 6, 9, 10] [0, 3] ?_ (by decide) (fun i h => by cases h)
          simp (maxSteps := 1000000) -implicitDefEqProofs only [go_sem, ↓reduceIte, reduceCtorEq, Nat.reduceEqDiff, Nat.reduceLT, Nat.reduceAdd, Nat.reduceLeDiff, Nat.reduceMul, Nat.reduceSub, Int.reduceToNat, Int.reduceLT, Int.reduceLE, Int.reduceEq, Int.reduceBNe, Nat.reduceBEq, Int.reduceAdd, St.keep, whB, rgA, tA, hyz, List.nil_append, ceL_cons, ceL_nil]
      · rw [show whS w sy rd jn k = whC w sy rd jn k from if_neg hk0]
        unfold whC
        simp (maxSteps := 1000000) -implicitDefEqProofs only [go_sem, ↓reduceIte, reduceCtorEq, Nat.reduceEqDiff, Nat.reduceLT, Nat.reduceAdd, Nat.reduceLeDiff, Nat.reduceMul, Nat.reduceSub, Int.reduceToNat, Int.reduceLT, Int.reduceLE, Int.reduceEq, Int.reduceBNe, Nat.reduceBEq, Int.reduceAdd, whB, rgA, tA, hyz, h1, h2, h3, gs]
        (repeat' (first | exact trivial | contradiction | exact ⟨_, rfl⟩ | refine And.intro ?_ ?_ | ((first | show (_ : Nat) ≤ _ | show (_ : Nat) < _ | show (_ : Int) ≤ _ | show (_ : Int) < _); omega) | (refine wait_draw 1000 mixed (by decide +kernel) ?_; simp (maxSteps := 1000000) -implicitDefEqProofs only [go_sem, ↓reduceIte, reduceCtorEq, Nat.reduceEqDiff, Nat.reduceLT, Nat.reduceAdd, Nat.reduceLeDiff, Nat.reduceMul, Nat.reduceSub, Int.reduceToNat, Int.reduceLT, Int.reduceLE, Int.reduceEq, Int.reduceBNe, Nat.reduceBEq, Int.reduceAdd, whB, rgA, tA, hyz, h1, h2, h3, gs, hwl]) | ((first | refine call_eq 1000 (c) ?_ ?_ rfl | refine call_draw 1000 (c) ?_ ?_ | refine call_eq 1000 (d) ?_ ?_ rfl | refine call_draw 1000 (d) ?_ ?_ | refine call_eq 1000 (cs) ?_ ?_ rfl | refine call_draw 1000 (cs) ?_ ?_); (focus (simp (maxSteps := 1000000) -implicitDefEqProofs only [go_sem, ↓reduceIte, reduceCtorEq, Nat.reduceEqDiff, Nat.reduceLT, Nat.reduceAdd, Nat.reduceLeDiff, Nat.reduceMul, Nat.reduceSub, Int.reduceToNat, Int.reduceLT, Int.reduceLE, Int.reduceEq, Int.reduceBNe, Nat.reduceBEq, Int.reduceAdd, whB, rgA, tA, hyz, h1, h2, h3, gs, hwl]; done)); simp (maxSteps := 1000000) -implicitDefEqProofs only [go_sem, ↓reduceIte, reduceCtorEq, Nat.reduceEqDiff, Nat.reduceLT, Nat.reduceAdd, Nat.reduceLeDiff, Nat.reduceMul, Nat.reduceSub, Int.reduceToNat, Int.reduceLT, Int.reduceLE, Int.reduceEq, Int.reduceBNe, Nat.reduceBEq, Int.reduceAdd, whB, rgA, tA, hyz, h1, h2, h3, gs, hwl]) | intro _))
        all_goals
          refine weak_to [0, 1, 3, 6, 9, 10] [0, 4] ?_ (by decide) (fun i h => by cases h)
          simp (maxSteps := 1000000) -implicitDefEqProofs only [go_sem, ↓reduceIte, reduceCtorEq, Nat.reduceEqDiff, Nat.reduceLT, Nat.reduceAdd, Nat.reduceLeDiff, Nat.reduceMul, Nat.reduceSub, Int.reduceToNat, Int.reduceLT, Int.reduceLE, Int.reduceEq, Int.reduceBNe, Nat.reduceBEq, Int.reduceAdd, St.keep, whB, rgA, tA, hyz, hw1]
    · have cs := rstate_pc [7, 2, 0, s, 0, jn, 0, 0, 0, 0] rfl
      rw [hy] at d
      rw [hy, show wholeY sy rd jn k [7, 2, 0, 0, 0, 0, 0, 0, 0, 0] = [7, 2, 0, s, 0, jn, 0, 0, 0, 0] from by rw [hs]; rfl]
      generalize (YardStateE [7, 2, 0, s, 0, jn, 0, 0, 0, 0]).1 = st at cs ⊢
      simp only [yA, iA, List.map_cons, List.map_nil] at d cs
      by_cases hk0 : k = 0
      · have h10 : ((0 : Int) < ((2 * w : Nat) : Int)) = True := eq_true (by omega)
        have h20 : (0 < sy.length) = True := eq_true (by omega)
        have h30 : ((0 : Int) < (sy.length : Int)) = True := eq_true (by omega)
        subst hk0
        simp only [Int.natCast_zero] at c d
        rw [show whS w sy rd jn 0 = whN w sy rd jn from rfl, show wholeR w sy rd jn 0 = [] from rfl]
        simp (maxSteps := 1000000) -implicitDefEqProofs only [go_sem, ↓reduceIte, reduceCtorEq, Nat.reduceEqDiff, Nat.reduceLT, Nat.reduceAdd, Nat.reduceLeDiff, Nat.reduceMul, Nat.reduceSub, Int.reduceToNat, Int.reduceLT, Int.reduceLE, Int.reduceEq, Int.reduceBNe, Nat.reduceBEq, Int.reduceAdd, whN, whB, rgA, tA, hyz, h10, h20, h30, gs]
        (repeat' (first | exact trivial | contradiction | exact ⟨_, rfl⟩ | refine And.intro ?_ ?_ | ((first | show (_ : Nat) ≤ _ | show (_ : Nat) < _ | show (_ : Int) ≤ _ | show (_ : Int) < _); omega) | (refine wait_draw 1000 mixed (by decide +kernel) ?_; simp (maxSteps := 1000000) -implicitDefEqProofs only [go_sem, ↓reduceIte, reduceCtorEq, Nat.reduceEqDiff, Nat.reduceLT, Nat.reduceAdd, Nat.reduceLeDiff, Nat.reduceMul, Nat.reduceSub, Int.reduceToNat, Int.reduceLT, Int.reduceLE, Int.reduceEq, Int.reduceBNe, Nat.reduceBEq, Int.reduceAdd, whN, whB, rgA, tA, hyz, h10, h20, h30, gs]) | ((first | refine call_eq 1000 (c) ?_ ?_ rfl | refine call_draw 1000 (c) ?_ ?_ | refine call_eq 1000 (d) ?_ ?_ rfl | refine call_draw 1000 (d) ?_ ?_ | refine call_eq 1000 (cs) ?_ ?_ rfl | refine call_draw 1000 (cs) ?_ ?_); (focus (simp (maxSteps := 1000000) -implicitDefEqProofs only [go_sem, ↓reduceIte, reduceCtorEq, Nat.reduceEqDiff, Nat.reduceLT, Nat.reduceAdd, Nat.reduceLeDiff, Nat.reduceMul, Nat.reduceSub, Int.reduceToNat, Int.reduceLT, Int.reduceLE, Int.reduceEq, Int.reduceBNe, Nat.reduceBEq, Int.reduceAdd, whN, whB, rgA, tA, hyz, h10, h20, h30, gs]; done)); simp (maxSteps := 1000000) -implicitDefEqProofs only [go_sem, ↓reduceIte, reduceCtorEq, Nat.reduceEqDiff, Nat.reduceLT, Nat.reduceAdd, Nat.reduceLeDiff, Nat.reduceMul, Nat.reduceSub, Int.reduceToNat, Int.reduceLT, Int.reduceLE, Int.reduceEq, Int.reduceBNe, Nat.reduceBEq, Int.reduceAdd, whN, whB, rgA, tA, hyz, h10, h20, h30, gs]) | intro _))
        all_goals
          refine weak_to [0, 1, 3, 6, 9, 10] [0, 3] ?_ (by decide) (fun i h => by cases h)
          simp (maxSteps := 1000000) -implicitDefEqProofs only [go_sem, ↓reduceIte, reduceCtorEq, Nat.reduceEqDiff, Nat.reduceLT, Nat.reduceAdd, Nat.reduceLeDiff, Nat.reduceMul, Nat.reduceSub, Int.reduceToNat, Int.reduceLT, Int.reduceLE, Int.reduceEq, Int.reduceBNe, Nat.reduceBEq, Int.reduceAdd, St.keep, whB, rgA, tA, hyz, List.nil_append, ceL_cons, ceL_nil]
      · rw [show whS w sy rd jn k = whC w sy rd jn k from if_neg hk0]
        unfold whC
        simp (maxSteps := 1000000) -implicitDefEqProofs only [go_sem, ↓reduceIte, reduceCtorEq, Nat.reduceEqDiff, Nat.reduceLT, Nat.reduceAdd, Nat.reduceLeDiff, Nat.reduceMul, Nat.reduceSub, Int.reduceToNat, Int.reduceLT, Int.reduceLE, Int.reduceEq, Int.reduceBNe, Nat.reduceBEq, Int.reduceAdd, whB, rgA, tA, hyz, h1, h2, h3, gs]
        (repeat' (first | exact trivial | contradiction | exact ⟨_, rfl⟩ | refine And.intro ?_ ?_ | ((first | show (_ : Nat) ≤ _ | show (_ : Nat) < _ | show (_ : Int) ≤ _ | show (_ : Int) < _); omega) | (refine wait_draw 1000 mixed (by decide +kernel) ?_; simp (maxSteps := 1000000) -implicitDefEqProofs only [go_sem, ↓reduceIte, reduceCtorEq, Nat.reduceEqDiff, Nat.reduceLT, Nat.reduceAdd, Nat.reduceLeDiff, Nat.reduceMul, Nat.reduceSub, Int.reduceToNat, Int.reduceLT, Int.reduceLE, Int.reduceEq, Int.reduceBNe, Nat.reduceBEq, Int.reduceAdd, whB, rgA, tA, hyz, h1, h2, h3, gs, hwl]) | ((first | refine call_eq 1000 (c) ?_ ?_ rfl | refine call_draw 1000 (c) ?_ ?_ | refine call_eq 1000 (d) ?_ ?_ rfl | refine call_draw 1000 (d) ?_ ?_ | refine call_eq 1000 (cs) ?_ ?_ rfl | refine call_draw 1000 (cs) ?_ ?_); (focus (simp (maxSteps := 1000000) -implicitDefEqProofs only [go_sem, ↓reduceIte, reduceCtorEq, Nat.reduceEqDiff, Nat.reduceLT, Nat.reduceAdd, Nat.reduceLeDiff, Nat.reduceMul, Nat.reduceSub, Int.reduceToNat, Int.reduceLT, Int.reduceLE, Int.reduceEq, Int.reduceBNe, Nat.reduceBEq, Int.reduceAdd, whB, rgA, tA, hyz, h1, h2, h3, gs, hwl]; done)); simp (maxSteps := 1000000) -implicitDefEqProofs only [go_sem, ↓reduceIte, reduceCtorEq, Nat.reduceEqDiff, Nat.reduceLT, Nat.reduceAdd, Nat.reduceLeDiff, Nat.reduceMul, Nat.reduceSub, Int.reduceToNat, Int.reduceLT, Int.reduceLE, Int.reduceEq, Int.reduceBNe, Nat.reduceBEq, Int.reduceAdd, whB, rgA, tA, hyz, h1, h2, h3, gs, hwl]) | intro _))
        all_goals
          refine weak_to [0, 1, 3, 6, 9, 10] [0, 4] ?_ (by decide) (fun i h => by cases h)
          simp (maxSteps := 1000000) -implicitDefEqProofs only [go_sem, ↓reduceIte, reduceCtorEq, Nat.reduceEqDiff, Nat.reduceLT, Nat.reduceAdd, Nat.reduceLeDiff, Nat.reduceMul, Nat.reduceSub, Int.reduceToNat, Int.reduceLT, Int.reduceLE, Int.reduceEq, Int.reduceBNe, Nat.reduceBEq, Int.reduceAdd, St.keep, whB, rgA, tA, hyz, hw1]
    · have cs := rstate_pc [1, dd, 0, s, 0, 0, 0, 0, 0, 0] rfl
      rw [hy] at d
      rw [hy, show wholeY sy rd jn k [1, dd, 0, 0, 0, 0, 0, 0, 0, 0] = [1, dd, 0, s, 0, 0, 0, 0, 0, 0] from by rw [hs]; rfl]
      generalize (YardStateE [1, dd, 0, s, 0, 0, 0, 0, 0, 0]).1 = st at cs ⊢
      simp only [yA, iA, List.map_cons, List.map_nil] at d cs
      by_cases hk0 : k = 0
      · have h10 : ((0 : Int) < ((2 * w : Nat) : Int)) = True := eq_true (by omega)
        have h20 : (0 < sy.length) = True := eq_true (by omega)
        have h30 : ((0 : Int) < (sy.length : Int)) = True := eq_true (by omega)
        subst hk0
        simp only [Int.natCast_zero] at c d
        rw [show whS w sy rd jn 0 = whN w sy rd jn from rfl, show wholeR w sy rd jn 0 = [] from rfl]
        simp (maxSteps := 1000000) -implicitDefEqProofs only [go_sem, ↓reduceIte, reduceCtorEq, Nat.reduceEqDiff, Nat.reduceLT, Nat.reduceAdd, Nat.reduceLeDiff, Nat.reduceMul, Nat.reduceSub, Int.reduceToNat, Int.reduceLT, Int.reduceLE, Int.reduceEq, Int.reduceBNe, Nat.reduceBEq, Int.reduceAdd, whN, whB, rgA, tA, hyz, h10, h20, h30, gs]
        (repeat' (first | exact trivial | contradiction | exact ⟨_, rfl⟩ | refine And.intro ?_ ?_ | ((first | show (_ : Nat) ≤ _ | show (_ : Nat) < _ | show (_ : Int) ≤ _ | show (_ : Int) < _); omega) | (refine wait_draw 1000 mixed (by decide +kernel) ?_; simp (maxSteps := 1000000) -implicitDefEqProofs only [go_sem, ↓reduceIte, reduceCtorEq, Nat.reduceEqDiff, Nat.reduceLT, Nat.reduceAdd, Nat.reduceLeDiff, Nat.reduceMul, Nat.reduceSub, Int.reduceToNat, Int.reduceLT, Int.reduceLE, Int.reduceEq, Int.reduceBNe, Nat.reduceBEq, Int.reduceAdd, whN, whB, rgA, tA, hyz, h10, h20, h30, gs]) | ((first | refine call_eq 1000 (c) ?_ ?_ rfl | refine call_draw 1000 (c) ?_ ?_ | refine call_eq 1000 (d) ?_ ?_ rfl | refine call_draw 1000 (d) ?_ ?_ | refine call_eq 1000 (cs) ?_ ?_ rfl | refine call_draw 1000 (cs) ?_ ?_); (focus (simp (maxSteps := 1000000) -implicitDefEqProofs only [go_sem, ↓reduceIte, reduceCtorEq, Nat.reduceEqDiff, Nat.reduceLT, Nat.reduceAdd, Nat.reduceLeDiff, Nat.reduceMul, Nat.reduceSub, Int.reduceToNat, Int.reduceLT, Int.reduceLE, Int.reduceEq, Int.reduceBNe, Nat.reduceBEq, Int.reduceAdd, whN, whB, rgA, tA, hyz, h10, h20, h30, gs]; done)); simp (maxSteps := 1000000) -implicitDefEqProofs only [go_sem, ↓reduceIte, reduceCtorEq, Nat.reduceEqDiff, Nat.reduceLT, Nat.reduceAdd, Nat.reduceLeDiff, Nat.reduceMul, Nat.reduceSub, Int.reduceToNat, Int.reduceLT, Int.reduceLE, Int.reduceEq, Int.reduceBNe, Nat.reduceBEq, Int.reduceAdd, whN, whB, rgA, tA, hyz, h10, h20, h30, gs]) | intro _))
        all_goals
          refine weak_to [0, 1, 3, 6, 9, 10] [0, 3] ?_ (by decide) (fun i h => by cases h)
          simp (maxSteps := 1000000) -implicitDefEqProofs only [go_sem, ↓reduceIte, reduceCtorEq, Nat.reduceEqDiff, Nat.reduceLT, Nat.reduceAdd, Nat.reduceLeDiff, Nat.reduceMul, Nat.reduceSub, Int.reduceToNat, Int.reduceLT, Int.reduceLE, Int.reduceEq, Int.reduceBNe, Nat.reduceBEq, Int.reduceAdd, St.keep, whB, rgA, tA, hyz, List.nil_append, ceL_cons, ceL_nil]
      · rw [show whS w sy rd jn k = whC w sy rd jn k from if_neg hk0]
        unfold whC
        simp (maxSteps := 1000000) -implicitDefEqProofs only [go_sem, ↓reduceIte, reduceCtorEq, Nat.reduceEqDiff, Nat.reduceLT, Nat.reduceAdd, Nat.reduceLeDiff, Nat.reduceMul, Nat.reduceSub, Int.reduceToNat, Int.reduceLT, Int.reduceLE, Int.reduceEq, Int.reduceBNe, Nat.reduceBEq, Int.reduceAdd, whB, rgA, tA, hyz, h1, h2, h3, gs]
        (repeat' (first | exact trivial | contradiction | exact ⟨_, rfl⟩ | refine And.intro ?_ ?_ | ((first | show (_ : Nat) ≤ _ | show (_ : Nat) < _ | show (_ : Int) ≤ _ | show (_ : Int) < _); omega) | (refine wait_draw 1000 mixed (by decide +kernel) ?_; simp (maxSteps := 1000000) -implicitDefEqProofs only [go_sem, ↓reduceIte, reduceCtorEq, Nat.reduceEqDiff, Nat.reduceLT, Nat.reduceAdd, Nat.reduceLeDiff, Nat.reduceMul, Nat.reduceSub, Int.reduceToNat, Int.reduceLT, Int.reduceLE, Int.reduceEq, Int.reduceBNe, Nat.reduceBEq, Int.reduceAdd, whB, rgA, tA, hyz, h1, h2, h3, gs, hwl]) | ((first | refine call_eq 1000 (c) ?_ ?_ rfl | refine call_draw 1000 (c) ?_ ?_ | refine call_eq 1000 (d) ?_ ?_ rfl | refine call_draw 1000 (d) ?_ ?_ | refine call_eq 1000 (cs) ?_ ?_ rfl | refine call_draw 1000 (cs) ?_ ?_); (focus (simp (maxSteps := 1000000) -implicitDefEqProofs only [go_sem, ↓reduceIte, reduceCtorEq, Nat.reduceEqDiff, Nat.reduceLT, Nat.reduceAdd, Nat.reduceLeDiff, Nat.reduceMul, Nat.reduceSub, Int.reduceToNat, Int.reduceLT, Int.reduceLE, Int.reduceEq, Int.reduceBNe, Nat.reduceBEq, Int.reduceAdd, whB, rgA, tA, hyz, h1, h2, h3, gs, hwl]; done)); simp (maxSteps := 1000000) -implicitDefEqProofs only [go_sem, ↓reduceIte, reduceCtorEq, Nat.reduceEqDiff, Nat.reduceLT, Nat.reduceAdd, Nat.reduceLeDiff, Nat.reduceMul, Nat.reduceSub, Int.reduceToNat, Int.reduceLT, Int.reduceLE, Int.reduceEq, Int.reduceBNe, Nat.reduceBEq, Int.reduceAdd, whB, rgA, tA, hyz, h1, h2, h3, gs, hwl]) | intro _))
        all_goals
          refine weak_to [0, 1, 3, 6, 9, 10] [0, 4] ?_ (by decide) (fun i h => by cases h)
          simp (maxSteps := 1000000) -implicitDefEqProofs only [go_sem, ↓reduceIte, reduceCtorEq, Nat.reduceEqDiff, Nat.reduceLT, Nat.reduceAdd, Nat.reduceLeDiff, Nat.reduceMul, Nat.reduceSub, Int.reduceToNat, Int.reduceLT, Int.reduceLE, Int.reduceEq, Int.reduceBNe, Nat.reduceBEq, Int.reduceAdd, St.keep, whB, rgA, tA, hyz, hw1]
  · obtain rfl : k = 2 * w := by omega
    have hk0 : ¬ 2 * w = 0 := by omega
    rw [show whS w sy rd jn (2 * w) = whC w sy rd jn (2 * w) from if_neg hk0]
    have h1 : (((2 * w : Nat) : Int) < ((2 * w : Nat) : Int)) = False := eq_false (by omega)
    have hwl := wholeR_len w sy rd jn (2 * w)
    have ch := rhalf_pc w h h'
    have ca := rstate_pc [10, 1, 0, 0, 0, 1, 0, 0, 0, 0] rfl
    have cb := rstate_pc [9, 1, 0, 0, 0, 0, 0, 0, 1, 0] rfl
    have hsrt := rsorted_pc (wholeL w sy rd jn).length (wholeL w sy rd jn) (Nat.le_refl _) hn (by
      unfold wholeL
      simp only [List.length_append, List.length_cons, List.length_nil, hwl]
      omega)
    have hWl : (wholeL w sy rd jn).length = 2 * w + 1 + 1 := by
      unfold wholeL
      simp only [List.length_append, List.length_cons, List.length_nil, hwl]
    obtain ⟨WL, hWL⟩ : ∃ WL, WL = wholeL w sy rd jn := ⟨_, rfl⟩
    have hWL2 := hWL
    unfold wholeL at hWL2
    generalize (YardStateE [10, 1, 0, 0, 0, 1, 0, 0, 0, 0]).1 = sa at ca hWL2
    generalize (YardStateE [9, 1, 0, 0, 0, 0, 0, 0, 1, 0]).1 = sb at cb hWL2
    rw [← hWL] at hsrt hWl ⊢
    refine run_sound 1000 _ _ ?_
    unfold whC
    generalize wholeR w sy rd jn (2 * w) = R at hwl hWL2 ⊢
    obtain ⟨a, ha⟩ : ∃ a, a = (w - 1) / 2 := ⟨_, rfl⟩
    rw [← ha] at ch hWL2
    simp only [rgA, yA, iA, List.map_cons, List.map_nil] at ch ca cb
    simp (maxSteps := 1000000) -implicitDefEqProofs only [go_sem, ↓reduceIte, reduceCtorEq, Nat.reduceEqDiff, Nat.reduceLT, Nat.reduceAdd, Nat.reduceLeDiff, Nat.reduceMul, Nat.reduceSub, Int.reduceToNat, Int.reduceLT, Int.reduceLE, Int.reduceEq, Int.reduceBNe, Nat.reduceBEq, Int.reduceAdd, whB, rgA, tA, hyz, h1]
    refine call_eq 1000 ch ?_ ?_ rfl
    · simp (maxSteps := 1000000) -implicitDefEqProofs only [go_sem, ↓reduceIte, reduceCtorEq, Nat.reduceEqDiff, Nat.reduceLT, Nat.reduceAdd, Nat.reduceLeDiff, Nat.reduceMul, Nat.reduceSub, Int.reduceToNat, Int.reduceLT, Int.reduceLE, Int.reduceEq, Int.reduceBNe, Nat.reduceBEq, Int.reduceAdd]
    simp (maxSteps := 1000000) -implicitDefEqProofs only [go_sem, ↓reduceIte, reduceCtorEq, Nat.reduceEqDiff, Nat.reduceLT, Nat.reduceAdd, Nat.reduceLeDiff, Nat.reduceMul, Nat.reduceSub, Int.reduceToNat, Int.reduceLT, Int.reduceLE, Int.reduceEq, Int.reduceBNe, Nat.reduceBEq, Int.reduceAdd, whB, rgA, tA, hyz, h1]
    refine call_eq 1000 ca ?_ ?_ rfl
    · simp (maxSteps := 1000000) -implicitDefEqProofs only [go_sem, ↓reduceIte, reduceCtorEq, Nat.reduceEqDiff, Nat.reduceLT, Nat.reduceAdd, Nat.reduceLeDiff, Nat.reduceMul, Nat.reduceSub, Int.reduceToNat, Int.reduceLT, Int.reduceLE, Int.reduceEq, Int.reduceBNe, Nat.reduceBEq, Int.reduceAdd]
    simp (maxSteps := 1000000) -implicitDefEqProofs only [go_sem, ↓reduceIte, reduceCtorEq, Nat.reduceEqDiff, Nat.reduceLT, Nat.reduceAdd, Nat.reduceLeDiff, Nat.reduceMul, Nat.reduceSub, Int.reduceToNat, Int.reduceLT, Int.reduceLE, Int.reduceEq, Int.reduceBNe, Nat.reduceBEq, Int.reduceAdd, whB, rgA, tA, hyz, hwl, List.length_append]
    refine ⟨by omega, ?_⟩
    refine call_eq 5 cb ?_ ?_ rfl
    · simp (maxSteps := 1000000) -implicitDefEqProofs only [go_sem, ↓reduceIte, reduceCtorEq, Nat.reduceEqDiff, Nat.reduceLT, Nat.reduceAdd, Nat.reduceLeDiff, Nat.reduceMul, Nat.reduceSub, Int.reduceToNat, Int.reduceLT, Int.reduceLE, Int.reduceEq, Int.reduceBNe, Nat.reduceBEq, Int.reduceAdd]
    simp (maxSteps := 1000000) -implicitDefEqProofs only [go_sem, ↓reduceIte, reduceCtorEq, Nat.reduceEqDiff, Nat.reduceLT, Nat.reduceAdd, Nat.reduceLeDiff, Nat.reduceMul, Nat.reduceSub, Int.reduceToNat, Int.reduceLT, Int.reduceLE, Int.reduceEq, Int.reduceBNe, Nat.reduceBEq, Int.reduceAdd, whB, rgA, tA, hyz, hwl, List.length_append]
    refine ⟨by omega, ?_⟩
    rw [← hWL2, ← hWl]
    refine TriT.weak (st' := ⟨74, 0, [(9, .fsl 3 (ceL WL))], [none]⟩) (Weak.trans (b := ⟨74, 0, [(9, .sl 0 3 0 WL.length)], [some (.row 33 3 (ceL WL))]⟩) (weak_to [9] [5] ?_ (by decide) (fun i h => by cases h)) (weak_frzB 0 (b := .row 33 3 (ceL WL)) rfl rfl (fun f => by simp (maxSteps := 1000000) -implicitDefEqProofs only [go_sem, ↓reduceIte, reduceCtorEq, Nat.reduceEqDiff, Nat.reduceLT, Nat.reduceAdd, Nat.reduceLeDiff, Nat.reduceMul, Nat.reduceSub, Int.reduceToNat, Int.reduceLT, Int.reduceLE, Int.reduceEq, Int.reduceBNe, Nat.reduceBEq, Int.reduceAdd]) ?_)) trivial (run_sound 1000 _ _ ?_)
    · simp (maxSteps := 1000000) -implicitDefEqProofs only [go_sem, ↓reduceIte, reduceCtorEq, Nat.reduceEqDiff, Nat.reduceLT, Nat.reduceAdd, Nat.reduceLeDiff, Nat.reduceMul, Nat.reduceSub, Int.reduceToNat, Int.reduceLT, Int.reduceLE, Int.reduceEq, Int.reduceBNe, Nat.reduceBEq, Int.reduceAdd, St.keep]
    · simp (maxSteps := 1000000) -implicitDefEqProofs only [go_sem, ↓reduceIte, reduceCtorEq, Nat.reduceEqDiff, Nat.reduceLT, Nat.reduceAdd, Nat.reduceLeDiff, Nat.reduceMul, Nat.reduceSub, Int.reduceToNat, Int.reduceLT, Int.reduceLE, Int.reduceEq, Int.reduceBNe, Nat.reduceBEq, Int.reduceAdd]
    simp (maxSteps := 1000000) -implicitDefEqProofs only [go_sem, ↓reduceIte, reduceCtorEq, Nat.reduceEqDiff, Nat.reduceLT, Nat.reduceAdd, Nat.reduceLeDiff, Nat.reduceMul, Nat.reduceSub, Int.reduceToNat, Int.reduceLT, Int.reduceLE, Int.reduceEq, Int.reduceBNe, Nat.reduceBEq, Int.reduceAdd]
    (repeat' (first | exact trivial | contradiction | exact ⟨_, rfl⟩ | refine And.intro ?_ ?_ | ((first | show (_ : Nat) ≤ _ | show (_ : Nat) < _ | show (_ : Int) ≤ _ | show (_ : Int) < _); omega) | (refine wait_draw 1000 mixed (by decide +kernel) ?_; simp (maxSteps := 1000000) -implicitDefEqProofs only [go_sem, ↓reduceIte, reduceCtorEq, Nat.reduceEqDiff, Nat.reduceLT, Nat.reduceAdd, Nat.reduceLeDiff, Nat.reduceMul, Nat.reduceSub, Int.reduceToNat, Int.reduceLT, Int.reduceLE, Int.reduceEq, Int.reduceBNe, Nat.reduceBEq, Int.reduceAdd]) | ((first | refine call_eq 1000 (hsrt) ?_ ?_ rfl | refine call_draw 1000 (hsrt) ?_ ?_); (focus (simp (maxSteps := 1000000) -implicitDefEqProofs only [go_sem, ↓reduceIte, reduceCtorEq, Nat.reduceEqDiff, Nat.reduceLT, Nat.reduceAdd, Nat.reduceLeDiff, Nat.reduceMul, Nat.reduceSub, Int.reduceToNat, Int.reduceLT, Int.reduceLE, Int.reduceEq, Int.reduceBNe, Nat.reduceBEq, Int.reduceAdd]; done)); simp (maxSteps := 1000000) -implicitDefEqProofs only [go_sem, ↓reduceIte, reduceCtorEq, Nat.reduceEqDiff, Nat.reduceLT, Nat.reduceAdd, Nat.reduceLeDiff, Nat.reduceMul, Nat.reduceSub, Int.reduceToNat, Int.reduceLT, Int.reduceLE, Int.reduceEq, Int.reduceBNe, Nat.reduceBEq, Int.reduceAdd]) | intro _))
end Go.Proofs.Ytiipggfhjkalfaa
/- The constructor: the program's ring. -/
set_option linter.unusedSimpArgs false
set_option linter.unusedVariables false
set_option maxRecDepth 20000
open Go Go.Proofs
namespace Go.Proofs.Ytiipggfhjkalfaa
open Pm
attribute [local irreducible] Wait CallT CallW NextT Le Weak
def plL (l : List Pl) : List AV := l.map fun p => .agg [.v (.int .i64 p.1), .v (.int .i64 p.2)]
theorem plL_len (l : List Pl) : (plL l).length = l.length := by simp [plL]
theorem plL_ren (f : Nat → Option Nat) (l : List Pl) : AV.renL f (plL l) = plL l := by rw [AV.renL_eq]; simp [plL, AV.ren, AV.renL]
theorem plL_fy (h : List (Option Blk)) (l : List Pl) : fyL h (plL l) = plL l := by rw [fyL_eq]; simp [plL, fy_agg, fyL_cons, fyL_nil, fy_v]
theorem plL_fz (h : List (Option Blk)) (l : List Pl) : fzL h (plL l) = plL l := by rw [fzL_eq]; simp [plL, fz_agg, fzL_cons, fzL_nil, fz_v]
theorem plL_take (l : List Pl) : (plL l).take l.length = plL l := List.take_of_length_le (by simp [plL])
theorem plL_app (l : List Pl) (x y : Int) : plL l ++ [.agg [.v (.int .i64 x), .v (.int .i64 y)]] = plL (l ++ [(x, y)]) := by simp [plL]
theorem plL_one (x y : Int) : plL [(x, y)] = [.agg [.v (.int .i64 x), .v (.int .i64 y)]] := rfl
theorem plL_closed (l : List Pl) : AV.closedL (plL l) = true := by
  induction l with
  | nil => rfl
  | cons a l ih => show AV.closedL (AV.agg [.v (.int .i64 a.1), .v (.int .i64 a.2)] :: plL l) = true; rw [closedL_cons, ih]; rfl
theorem plL_frz (id : Nat) (b : Blk) (l : List Pl) : AV.frzL id b (plL l) = plL l := by rw [frzL_eq]; simp [plL, frz_agg, frzL_cons, frzL_nil, frz_v]
attribute [go_sem] plL_frz plL_len plL_ren plL_fy plL_fz plL_take plL_app plL_closed
def ring1 (a k : Nat) : List Pl := (List.range k).map fun i => (((a + i : Nat) : Int), 2)
def ring2 (w k : Nat) : List Pl := (List.range k).map fun i => (((w - 1 - i : Nat) : Int), 3)
def ring3 (k : Nat) : List Pl := (List.range k).map fun (i : Nat) => ((i : Int), (2 : Int))
def ringL (w : Nat) : List Pl := ring1 ((w - 1) / 2) (w - (w - 1) / 2) ++ ring2 w w ++ ring3 ((w - 1) / 2)
theorem ring1_succ (a k : Nat) : ring1 a (k + 1) = ring1 a k ++ [(((a + k : Nat) : Int), 2)] := by unfold ring1; rw [List.range_succ, List.map_append]; rfl
theorem ring2_succ (w k : Nat) : ring2 w (k + 1) = ring2 w k ++ [(((w - 1 - k : Nat) : Int), 3)] := by unfold ring2; rw [List.range_succ, List.map_append]; rfl
theorem ring3_succ (k : Nat) : ring3 (k + 1) = ring3 k ++ [((k : Int), 2)] := by unfold ring3; rw [List.range_succ, List.map_append]; rfl
theorem ring1_len (a k : Nat) : (ring1 a k).length = k := by simp [ring1]
theorem ring2_len (w k : Nat) : (ring2 w k).length = k := by simp [ring2]
theorem ring3_len (k : Nat) : (ring3 k).length = k := by simp [ring3]
def rgRow (l : List Pl) : Option Blk := some (.row 91 2 (plL l))
def rg1N (w a : Nat) : St := ⟨47, 0, [(3, .v (.int .i64 (w : Int))), (4, .v (.int .i64 (a : Int))), (5, .v (.slice none 0 0)), (6, .v (.int .i64 (a : Int)))], []⟩
def rg1C (w a k : Nat) (l : List Pl) : St := ⟨47, 0, [(3, .v (.int .i64 (w : Int))), (4, .v (.int .i64 (a : Int))), (5, .sl 0 2 0 l.length), (6, .v (.int .i64 ((a + k : Nat) : Int)))], [rgRow l]⟩
def rg1S (w a k : Nat) : St := if k = 0 then rg1N w a else rg1C w a k (ring1 a k)
def rg2C (w a k : Nat) (l : List Pl) : St := ⟨47, 0, [(3, .v (.int .i64 (w : Int))), (4, .v (.int .i64 (a : Int))), (5, .sl 0 2 0 l.length), (7, .v (.int .i64 ((w : Int) - 1 - (k : Int))))], [rgRow l]⟩
def rg3C (w a k : Nat) (l : List Pl) : St := ⟨47, 0, [(3, .v (.int .i64 (w : Int))), (4, .v (.int .i64 (a : Int))), (5, .sl 0 2 0 l.length), (8, .v (.int .i64 (k : Int)))], [rgRow l]⟩
theorem ring_pc (w : Nat) (h : 6 ≤ w) (h' : w ≤ 4096) : PCon Try.prog 90 [rgA w] (· = .fsl 2 (plL (ringL w))) := by
  refine pcon_run 1000 Try.func90 rfl Try.results90 Try.ntmps90 (Nat.le_of_ble_eq_true rfl) ?_
  have e1 := half_nat w
  have e2 : IntKind.i64.wrap (w : Int) = (w : Int) := wrap64 (by omega) (by omega)
  have e3 : IntKind.i64.wrap ((w : Int) - 1) = (w : Int) - 1 := wrap64 (by omega) (by omega)
  have e4 := root_nat (w := w) (by omega)
  obtain ⟨a, ha⟩ : ∃ a, a = (w - 1) / 2 := ⟨_, rfl⟩
  have e5 : IntKind.i64.wrap (a : Int) = (a : Int) := wrap64 (by omega) (by omega)
  rw [← ha] at e4
  unfold ringL
  rw [← ha]
  simp (maxSteps := 1000000) -implicitDefEqProofs only [go_sem, ↓reduceIte, reduceCtorEq, Nat.reduceEqDiff, Nat.reduceLT, Nat.reduceAdd, Nat.reduceLeDiff, Nat.reduceMul, Nat.reduceSub, Int.reduceToNat, Int.reduceLT, Int.reduceLE, Int.reduceEq, Int.reduceBNe, Nat.reduceBEq, rgA, e1, e2, e3, e4, e5]
  (repeat' (first | exact trivial | contradiction | exact ⟨_, rfl⟩ | refine And.intro ?_ ?_ | ((first | show (_ : Nat) ≤ _ | show (_ : Nat) < _ | show (_ : Int) ≤ _ | show (_ : Int) < _); omega) | (refine wait_draw 1000 mixed (by decide +kernel) ?_; simp (maxSteps := 1000000) -implicitDefEqProofs only [go_sem, ↓reduceIte, reduceCtorEq, Nat.reduceEqDiff, Nat.reduceLT, Nat.reduceAdd, Nat.reduceLeDiff, Nat.reduceMul, Nat.reduceSub, Int.reduceToNat, Int.reduceLT, Int.reduceLE, Int.reduceEq, Int.reduceBNe, Nat.reduceBEq , rgA, e1, e2, e3, e4, e5]) | intro _))
  refine wait_range (w - a) (rg1S w a) (fun _ => True) (weak_to [3, 4, 5, 6] [] ?_ (by decide) (fun i h => by cases h)) trivial ?_
  · rw [show rg1S w a 0 = rg1N w a from rfl]
    simp (maxSteps := 1000000) -implicitDefEqProofs only [go_sem, ↓reduceIte, reduceCtorEq, Nat.reduceEqDiff, Nat.reduceLT, Nat.reduceAdd, Nat.reduceLeDiff, Nat.reduceMul, Nat.reduceSub, Int.reduceToNat, Int.reduceLT, Int.reduceLE, Int.reduceEq, Int.reduceBNe, Nat.reduceBEq, St.keep, rg1N]
  intro k hk _
  by_cases hkw : k < w - a
  · refine run_sound 1000 _ _ ?_
    have hw1 : IntKind.i64.wrap (((a + k : Nat) : Int) + 1) = ((a + (k + 1) : Nat) : Int) := by rw [wrap64 (by omega) (by omega)]; omega
    rw [show rg1S w a (k + 1) = rg1C w a (k + 1) (ring1 a (k + 1)) from rfl, ring1_succ]
    by_cases hk0 : k = 0
    · subst hk0
      have h1 : ((a : Int) < (w : Int)) = True := eq_true (by omega)
      have hw0 : IntKind.i64.wrap ((a : Int) + 1) = ((a + (0 + 1) : Nat) : Int) := by rw [wrap64 (by omega) (by omega)]; omega
      rw [show rg1S w a 0 = rg1N w a from rfl, show ring1 a 0 = [] from rfl]
      simp (maxSteps := 1000000) -implicitDefEqProofs only [go_sem, ↓reduceIte, reduceCtorEq, Nat.reduceEqDiff, Nat.reduceLT, Nat.reduceAdd, Nat.reduceLeDiff, Nat.reduceMul, Nat.reduceSub, Int.reduceToNat, Int.reduceLT, Int.reduceLE, Int.reduceEq, Int.reduceBNe, Nat.reduceBEq, rg1N, rgRow, h1]
      (repeat' (first | exact trivial | contradiction | exact ⟨_, rfl⟩ | refine And.intro ?_ ?_ | ((first | show (_ : Nat) ≤ _ | show (_ : Nat) < _ | show (_ : Int) ≤ _ | show (_ : Int) < _); omega) | (refine wait_draw 1000 mixed (by decide +kernel) ?_; simp (maxSteps := 1000000) -implicitDefEqProofs only [go_sem, ↓reduceIte, reduceCtorEq, Nat.reduceEqDiff, Nat.reduceLT, Nat.reduceAdd, Nat.reduceLeDiff, Nat.reduceMul, Nat.reduceSub, Int.reduceToNat, Int.reduceLT, Int.reduceLE, Int.reduceEq, Int.reduceBNe, Nat.reduceBEq , rg1N, rgRow, h1]) | intro _))
      all_goals
        refine weak_to [3, 4, 5, 6] [1] ?_ (by decide) (fun i h => by cases h)
        simp (maxSteps := 1000000) -implicitDefEqProofs only [go_sem, ↓reduceIte, reduceCtorEq, Nat.reduceEqDiff, Nat.reduceLT, Nat.reduceAdd, Nat.reduceLeDiff, Nat.reduceMul, Nat.reduceSub, Int.reduceToNat, Int.reduceLT, Int.reduceLE, Int.reduceEq, Int.reduceBNe, Nat.reduceBEq, St.keep, rg1C, rgRow, List.nil_append, plL_one, Nat.add_zero, List.length_cons, List.length_nil]
        simp only [hw0, Nat.zero_add]
    · have h1 : (((a + k : Nat) : Int) < (w : Int)) = True := eq_true (by omega)
      have hl := ring1_len a k
      rw [show rg1S w a k = rg1C w a k (ring1 a k) from if_neg hk0]
      generalize ring1 a k = L at hl ⊢
      simp (maxSteps := 1000000) -implicitDefEqProofs only [go_sem, ↓reduceIte, reduceCtorEq, Nat.reduceEqDiff, Nat.reduceLT, Nat.reduceAdd, Nat.reduceLeDiff, Nat.reduceMul, Nat.reduceSub, Int.reduceToNat, Int.reduceLT, Int.reduceLE, Int.reduceEq, Int.reduceBNe, Nat.reduceBEq, rg1C, rgRow, h1, hl]
      (repeat' (first | exact trivial | contradiction | exact ⟨_, rfl⟩ | refine And.intro ?_ ?_ | ((first | show (_ : Nat) ≤ _ | show (_ : Nat) < _ | show (_ : Int) ≤ _ | show (_ : Int) < _); omega) | (refine wait_draw 1000 mixed (by decide +kernel) ?_; simp (maxSteps := 1000000) -implicitDefEqProofs only [go_sem, ↓reduceIte, reduceCtorEq, Nat.reduceEqDiff, Nat.reduceLT, Nat.reduceAdd, Nat.reduceLeDiff, Nat.reduceMul, Nat.reduceSub, Int.reduceToNat, Int.reduceLT, Int.reduceLE, Int.reduceEq, Int.reduceBNe, Nat.reduceBEq , rg1C, rgRow, h1, hl]) | intro _))
      all_goals
        refine weak_to [3, 4, 5, 6] [2] ?_ (by decide) (fun i h => by cases h)
        simp (maxSteps := 1000000) -implicitDefEqProofs only [go_sem, ↓reduceIte, reduceCtorEq, Nat.reduceEqDiff, Nat.reduceLT, Nat.reduceAdd, Nat.reduceLeDiff, Nat.reduceMul, Nat.reduceSub, Int.reduceToNat, Int.reduceLT, Int.reduceLE, Int.reduceEq, Int.reduceBNe, Nat.reduceBEq, St.keep, rg1C, rgRow, List.length_append, hl, hw1]
  obtain rfl : k = w - a := by omega
  rw [show rg1S w a (w - a) = rg1C w a (w - a) (ring1 a (w - a)) from if_neg (by omega)]
  have hl1 := ring1_len a (w - a)
  generalize ring1 a (w - a) = L1 at hl1 ⊢
  have h1 : (((a + (w - a) : Nat) : Int) < (w : Int)) = False := eq_false (by omega)
  refine run_sound 1000 _ _ ?_
  simp (maxSteps := 1000000) -implicitDefEqProofs only [go_sem, ↓reduceIte, reduceCtorEq, Nat.reduceEqDiff, Nat.reduceLT, Nat.reduceAdd, Nat.reduceLeDiff, Nat.reduceMul, Nat.reduceSub, Int.reduceToNat, Int.reduceLT, Int.reduceLE, Int.reduceEq, Int.reduceBNe, Nat.reduceBEq, rg1C, rgRow, h1, e3]
  (repeat' (first | exact trivial | contradiction | exact ⟨_, rfl⟩ | refine And.intro ?_ ?_ | ((first | show (_ : Nat) ≤ _ | show (_ : Nat) < _ | show (_ : Int) ≤ _ | show (_ : Int) < _); omega) | (refine wait_draw 1000 mixed (by decide +kernel) ?_; simp (maxSteps := 1000000) -implicitDefEqProofs only [go_sem, ↓reduceIte, reduceCtorEq, Nat.reduceEqDiff, Nat.reduceLT, Nat.reduceAdd, Nat.reduceLeDiff, Nat.reduceMul, Nat.reduceSub, Int.reduceToNat, Int.reduceLT, Int.reduceLE, Int.reduceEq, Int.reduceBNe, Nat.reduceBEq , rg1C, rgRow, h1, e3]) | intro _))
  refine wait_range w (fun k => rg2C w a k (L1 ++ ring2 w k)) (fun _ => True) (weak_to [3, 4, 5, 7] [0] ?_ (by decide) (fun i h => by cases h)) trivial ?_
  · rw [show ring2 w 0 = [] from rfl, List.append_nil]
    simp (maxSteps := 1000000) -implicitDefEqProofs only [go_sem, ↓reduceIte, reduceCtorEq, Nat.reduceEqDiff, Nat.reduceLT, Nat.reduceAdd, Nat.reduceLeDiff, Nat.reduceMul, Nat.reduceSub, Int.reduceToNat, Int.reduceLT, Int.reduceLE, Int.reduceEq, Int.reduceBNe, Nat.reduceBEq, St.keep, rg2C, rgRow, Int.natCast_zero, Int.sub_zero]
  intro k hk _
  by_cases hkw : k < w
  · refine run_sound 1000 _ _ ?_
    have hw1 : IntKind.i64.wrap ((w : Int) - 1 - (k : Int) - 1) = (w : Int) - 1 - ((k + 1 : Nat) : Int) := by rw [wrap64 (by omega) (by omega)]; omega
    have h2 : (0 ≤ (w : Int) - 1 - (k : Int)) = True := eq_true (by omega)
    have hx : (w : Int) - 1 - (k : Int) = ((w - 1 - k : Nat) : Int) := by omega
    have hl := ring2_len w k
    rw [ring2_succ, ← hx, ← List.append_assoc]
    have hl2 : (L1 ++ ring2 w k).length = w - a + k := by rw [List.length_append, hl1, hl]
    generalize L1 ++ ring2 w k = L at hl2 ⊢
    simp (maxSteps := 1000000) -implicitDefEqProofs only [go_sem, ↓reduceIte, reduceCtorEq, Nat.reduceEqDiff, Nat.reduceLT, Nat.reduceAdd, Nat.reduceLeDiff, Nat.reduceMul, Nat.reduceSub, Int.reduceToNat, Int.reduceLT, Int.reduceLE, Int.reduceEq, Int.reduceBNe, Nat.reduceBEq, rg2C, rgRow, h2, hl2]
    (repeat' (first | exact trivial | contradiction | exact ⟨_, rfl⟩ | refine And.intro ?_ ?_ | ((first | show (_ : Nat) ≤ _ | show (_ : Nat) < _ | show (_ : Int) ≤ _ | show (_ : Int) < _); omega) | (refine wait_draw 1000 mixed (by decide +kernel) ?_; simp (maxSteps := 1000000) -implicitDefEqProofs only [go_sem, ↓reduceIte, reduceCtorEq, Nat.reduceEqDiff, Nat.reduceLT, Nat.reduceAdd, Nat.reduceLeDiff, Nat.reduceMul, Nat.reduceSub, Int.reduceToNat, Int.reduceLT, Int.reduceLE, Int.reduceEq, Int.reduceBNe, Nat.reduceBEq , rg2C, rgRow, h2, hl2]) | intro _))
    all_goals
      refine weak_to [3, 4, 5, 7] [2] ?_ (by decide) (fun i h => by cases h)
      simp (maxSteps := 1000000) -implicitDefEqProofs only [go_sem, ↓reduceIte, reduceCtorEq, Nat.reduceEqDiff, Nat.reduceLT, Nat.reduceAdd, Nat.reduceLeDiff, Nat.reduceMul, Nat.reduceSub, Int.reduceToNat, Int.reduceLT, Int.reduceLE, Int.reduceEq, Int.reduceBNe, Nat.reduceBEq, St.keep, rg2C, rgRow, List.length_append, hl2, hw1]
  obtain rfl : k = w := by omega
  have hl2 : (L1 ++ ring2 k k).length = k - a + k := by rw [List.length_append, hl1, ring2_len]
  generalize L1 ++ ring2 k k = L2 at hl2 ⊢
  have h2 : (0 ≤ (k : Int) - 1 - (k : Int)) = False := eq_false (by omega)
  refine run_sound 1000 _ _ ?_
  simp (maxSteps := 1000000) -implicitDefEqProofs only [go_sem, ↓reduceIte, reduceCtorEq, Nat.reduceEqDiff, Nat.reduceLT, Nat.reduceAdd, Nat.reduceLeDiff, Nat.reduceMul, Nat.reduceSub, Int.reduceToNat, Int.reduceLT, Int.reduceLE, Int.reduceEq, Int.reduceBNe, Nat.reduceBEq, rg2C, rgRow, h2]
  (repeat' (first | exact trivial | contradiction | exact ⟨_, rfl⟩ | refine And.intro ?_ ?_ | ((first | show (_ : Nat) ≤ _ | show (_ : Nat) < _ | show (_ : Int) ≤ _ | show (_ : Int) < _); omega) | (refine wait_draw 1000 mixed (by decide +kernel) ?_; simp (maxSteps := 1000000) -implicitDefEqProofs only [go_sem, ↓reduceIte, reduceCtorEq, Nat.reduceEqDiff, Nat.reduceLT, Nat.reduceAdd, Nat.reduceLeDiff, Nat.reduceMul, Nat.reduceSub, Int.reduceToNat, Int.reduceLT, Int.reduceLE, Int.reduceEq, Int.reduceBNe, Nat.reduceBEq , rg2C, rgRow, h2]) | intro _))
  refine wait_range a (fun j => rg3C k a j (L2 ++ ring3 j)) (fun _ => True) (weak_to [3, 4, 5, 8] [0] ?_ (by decide) (fun i h => by cases h)) trivial ?_
  · rw [show ring3 0 = [] from rfl, List.append_nil]
    simp (maxSteps := 1000000) -implicitDefEqProofs only [go_sem, ↓reduceIte, reduceCtorEq, Nat.reduceEqDiff, Nat.reduceLT, Nat.reduceAdd, Nat.reduceLeDiff, Nat.reduceMul, Nat.reduceSub, Int.reduceToNat, Int.reduceLT, Int.reduceLE, Int.reduceEq, Int.reduceBNe, Nat.reduceBEq, St.keep, rg3C, rgRow, Int.natCast_zero]
  intro j hj _
  by_cases hja : j < a
  · refine run_sound 1000 _ _ ?_
    have hw1 : IntKind.i64.wrap ((j : Int) + 1) = ((j + 1 : Nat) : Int) := by rw [wrap64 (by omega) (by omega)]; omega
    have h3 : ((j : Int) < (a : Int)) = True := eq_true (by omega)
    rw [ring3_succ, ← List.append_assoc]
    have hl3 : (L2 ++ ring3 j).length = k - a + k + j := by rw [List.length_append, hl2, ring3_len]
    generalize L2 ++ ring3 j = L at hl3 ⊢
    simp (maxSteps := 1000000) -implicitDefEqProofs only [go_sem, ↓reduceIte, reduceCtorEq, Nat.reduceEqDiff, Nat.reduceLT, Nat.reduceAdd, Nat.reduceLeDiff, Nat.reduceMul, Nat.reduceSub, Int.reduceToNat, Int.reduceLT, Int.reduceLE, Int.reduceEq, Int.reduceBNe, Nat.reduceBEq, rg3C, rgRow, h3, hl3]
    (repeat' (first | exact trivial | contradiction | exact ⟨_, rfl⟩ | refine And.intro ?_ ?_ | ((first | show (_ : Nat) ≤ _ | show (_ : Nat) < _ | show (_ : Int) ≤ _ | show (_ : Int) < _); omega) | (refine wait_draw 1000 mixed (by decide +kernel) ?_; simp (maxSteps := 1000000) -implicitDefEqProofs only [go_sem, ↓reduceIte, reduceCtorEq, Nat.reduceEqDiff, Nat.reduceLT, Nat.reduceAdd, Nat.reduceLeDiff, Nat.reduceMul, Nat.reduceSub, Int.reduceToNat, Int.reduceLT, Int.reduceLE, Int.reduceEq, Int.reduceBNe, Nat.reduceBEq , rg3C, rgRow, h3, hl3]) | intro _))
    all_goals
      refine weak_to [3, 4, 5, 8] [2] ?_ (by decide) (fun i h => by cases h)
      simp (maxSteps := 1000000) -implicitDefEqProofs only [go_sem, ↓reduceIte, reduceCtorEq, Nat.reduceEqDiff, Nat.reduceLT, Nat.reduceAdd, Nat.reduceLeDiff, Nat.reduceMul, Nat.reduceSub, Int.reduceToNat, Int.reduceLT, Int.reduceLE, Int.reduceEq, Int.reduceBNe, Nat.reduceBEq, St.keep, rg3C, rgRow, List.length_append, hl3, hw1]
  obtain rfl : j = a := by omega
  have h3 : ((j : Int) < (j : Int)) = False := eq_false (by omega)
  refine run_sound 1000 _ _ ?_
  simp (maxSteps := 1000000) -implicitDefEqProofs only [go_sem, ↓reduceIte, reduceCtorEq, Nat.reduceEqDiff, Nat.reduceLT, Nat.reduceAdd, Nat.reduceLeDiff, Nat.reduceMul, Nat.reduceSub, Int.reduceToNat, Int.reduceLT, Int.reduceLE, Int.reduceEq, Int.reduceBNe, Nat.reduceBEq, rg3C, rgRow, h3]
  (repeat' (first | exact trivial | contradiction | exact ⟨_, rfl⟩ | refine And.intro ?_ ?_ | ((first | show (_ : Nat) ≤ _ | show (_ : Nat) < _ | show (_ : Int) ≤ _ | show (_ : Int) < _); omega) | (refine wait_draw 1000 mixed (by decide +kernel) ?_; simp (maxSteps := 1000000) -implicitDefEqProofs only [go_sem, ↓reduceIte, reduceCtorEq, Nat.reduceEqDiff, Nat.reduceLT, Nat.reduceAdd, Nat.reduceLeDiff, Nat.reduceMul, Nat.reduceSub, Int.reduceToNat, Int.reduceLT, Int.reduceLE, Int.reduceEq, Int.reduceBNe, Nat.reduceBEq , rg3C, rgRow, h3]) | intro _))
end Go.Proofs.Ytiipggfhjkalfaa
