/- The numbers of written states. -/
import Derived.Test.YtiipggfhjkalfaaProg
import Derived.Test.YtiipggfhjkalfaaPmU
import Derived.Test.YtiipggfhjkalfaaYaH
set_option linter.unusedSimpArgs false
set_option linter.unusedVariables false
set_option maxRecDepth 20000
open Go Go.Proofs
namespace Go.Proofs.Ytiipggfhjkalfaa
open Pm
attribute [local irreducible] Wait CallT CallW Le Weak
def findF (p : Int → Bool) : Nat → Nat → Int × Int
  | 0, _ => (0, 19)
  | n + 1, k => if p k = true then ((k : Int), 0) else findF p n (k + 1)
def wrP (s i : Int) : Bool := decide ((WrittenStateE i).2 = 0) && decide ((WrittenStateE i).1 = s)
def wrQ (s i : Int) : Bool := decide ((RefWrittenStateE i).1 = s)
def WrittenNumberE (s : Int) : Int × Int := findF (wrP s) 73 0
def RefWrittenNumberE (s : Int) : Int × Int := findF (wrQ s) 73 0
theorem number_pc (s : Int) : PCon Try.prog 18 [iA s] (· = .tup [iA (WrittenNumberE s).1, iA (WrittenNumberE s).2]) := by
  refine pcon_run 1000 Try.func18 rfl Try.results18 Try.ntmps18 (Nat.le_of_ble_eq_true rfl) ?_
  simp -implicitDefEqProofs only [go_sem, ↓reduceIte, reduceCtorEq, Nat.reduceEqDiff, Nat.reduceLT, Nat.reduceAdd, Nat.reduceLeDiff, Nat.reduceMul, Nat.reduceSub, Int.reduceToNat, Int.reduceLT, Int.reduceLE, Int.reduceEq, Int.reduceAdd, Int.reduceSub, Int.reduceMul, Int.reduceNeg, Int.reduceBEq, Int.reduceBNe, Nat.reduceBEq, iA]
  refine wait_range 73 (fun k => ⟨24, 0, [(0, iA s), (2, iA 0), (3, iA 0), (7, iA k)], []⟩) (fun k => findF (wrP s) (73 - k) k = WrittenNumberE s) (weak_to [0, 2, 3, 7] [] ?_ (by simp) (fun i h => by cases h)) rfl ?_
  · simp -implicitDefEqProofs only [go_sem, ↓reduceIte, reduceCtorEq, Nat.reduceEqDiff, Nat.reduceLT, Nat.reduceAdd, Nat.reduceLeDiff, Nat.reduceMul, Nat.reduceSub, Int.reduceToNat, Int.reduceLT, Int.reduceLE, Int.reduceEq, Int.reduceAdd, Int.reduceSub, Int.reduceMul, Int.reduceNeg, Int.reduceBEq, Int.reduceBNe, Nat.reduceBEq, St.keep, iA, Int.natCast_zero]
  · intro k hk hp
    refine run_sound 1000 _ _ ?_
    have hw2 : IntKind.i64.wrap ((k : Int) + 1) = ((k + 1 : Nat) : Int) := by rw [wrapI (by omega) (by omega)]; omega
    by_cases hk1 : k < 73
    · have hlt : ((k : Int) < 73) = True := by simp; omega
      obtain ⟨m, hm⟩ : ∃ m, 73 - k = m + 1 := ⟨73 - k - 1, by omega⟩
      have hm' : 73 - (k + 1) = m := by omega
      rw [hm, findF] at hp
      simp -implicitDefEqProofs only [go_sem, ↓reduceIte, reduceCtorEq, Nat.reduceEqDiff, Nat.reduceLT, Nat.reduceAdd, Nat.reduceLeDiff, Nat.reduceMul, Nat.reduceSub, Int.reduceToNat, Int.reduceLT, Int.reduceLE, Int.reduceEq, Int.reduceAdd, Int.reduceSub, Int.reduceMul, Int.reduceNeg, Int.reduceBEq, Int.reduceBNe, Nat.reduceBEq, iA, hlt]
      refine call_eq 1000 (written_pc k) (by simp -implicitDefEqProofs only [go_sem, ↓reduceIte, reduceCtorEq, Nat.reduceEqDiff, Nat.reduceLT, Nat.reduceAdd, Nat.reduceLeDiff, Nat.reduceMul, Nat.reduceSub, Int.reduceToNat, Int.reduceLT, Int.reduceLE, Int.reduceEq, Int.reduceAdd, Int.reduceSub, Int.reduceMul, Int.reduceNeg, Int.reduceBEq, Int.reduceBNe, Nat.reduceBEq, iA]) ?_ rfl
      generalize hws : WrittenStateE k = ws at hp
      simp -implicitDefEqProofs only [go_sem, ↓reduceIte, reduceCtorEq, Nat.reduceEqDiff, Nat.reduceLT, Nat.reduceAdd, Nat.reduceLeDiff, Nat.reduceMul, Nat.reduceSub, Int.reduceToNat, Int.reduceLT, Int.reduceLE, Int.reduceEq, Int.reduceAdd, Int.reduceSub, Int.reduceMul, Int.reduceNeg, Int.reduceBEq, Int.reduceBNe, Nat.reduceBEq, iA, hlt]
      (repeat' (first | exact trivial | contradiction | refine And.intro ?_ ?_ | (refine wait_draw 1000 mixed (by decide +kernel) ?_; simp -implicitDefEqProofs only [go_sem, ↓reduceIte, reduceCtorEq, Nat.reduceEqDiff, Nat.reduceLT, Nat.reduceAdd, Nat.reduceLeDiff, Nat.reduceMul, Nat.reduceSub, Int.reduceToNat, Int.reduceLT, Int.reduceLE, Int.reduceEq, Int.reduceAdd, Int.reduceSub, Int.reduceMul, Int.reduceNeg, Int.reduceBEq, Int.reduceBNe, Nat.reduceBEq iA]) | intro _))
      all_goals simp only [wrP, hws] at hp
      all_goals first | exact hk1 | (refine weak_to [0, 2, 3, 7] [] ?_ (by simp) (fun i h => by cases h); simp -implicitDefEqProofs only [go_sem, ↓reduceIte, reduceCtorEq, Nat.reduceEqDiff, Nat.reduceLT, Nat.reduceAdd, Nat.reduceLeDiff, Nat.reduceMul, Nat.reduceSub, Int.reduceToNat, Int.reduceLT, Int.reduceLE, Int.reduceEq, Int.reduceAdd, Int.reduceSub, Int.reduceMul, Int.reduceNeg, Int.reduceBEq, Int.reduceBNe, Nat.reduceBEq, St.keep, iA, hw2]; done) | (rw [hm']; simpa [*] using hp) | (simp [*] at hp; simp [← hp, iA]; done)
    · have hlt : ((k : Int) < 73) = False := by simp; omega
      have hz : 73 - k = 0 := by omega
      rw [hz, findF] at hp
      simp -implicitDefEqProofs only [go_sem, ↓reduceIte, reduceCtorEq, Nat.reduceEqDiff, Nat.reduceLT, Nat.reduceAdd, Nat.reduceLeDiff, Nat.reduceMul, Nat.reduceSub, Int.reduceToNat, Int.reduceLT, Int.reduceLE, Int.reduceEq, Int.reduceAdd, Int.reduceSub, Int.reduceMul, Int.reduceNeg, Int.reduceBEq, Int.reduceBNe, Nat.reduceBEq, iA, hlt, ← hp]
theorem refNumber_pc (s : Int) : PCon Try.prog 19 [iA s] (· = .tup [iA (RefWrittenNumberE s).1, iA (RefWrittenNumberE s).2]) := by
  refine pcon_run 1000 Try.func19 rfl Try.results19 Try.ntmps19 (Nat.le_of_ble_eq_true rfl) ?_
  simp -implicitDefEqProofs only [go_sem, ↓reduceIte, reduceCtorEq, Nat.reduceEqDiff, Nat.reduceLT, Nat.reduceAdd, Nat.reduceLeDiff, Nat.reduceMul, Nat.reduceSub, Int.reduceToNat, Int.reduceLT, Int.reduceLE, Int.reduceEq, Int.reduceAdd, Int.reduceSub, Int.reduceMul, Int.reduceNeg, Int.reduceBEq, Int.reduceBNe, Nat.reduceBEq, iA]
  refine wait_range 73 (fun k => ⟨20, 0, [(0, iA s), (2, iA 0), (3, iA 0), (4, iA k)], []⟩) (fun k => findF (wrQ s) (73 - k) k = RefWrittenNumberE s) (weak_to [0, 2, 3, 4] [] ?_ (by simp) (fun i h => by cases h)) rfl ?_
  · simp -implicitDefEqProofs only [go_sem, ↓reduceIte, reduceCtorEq, Nat.reduceEqDiff, Nat.reduceLT, Nat.reduceAdd, Nat.reduceLeDiff, Nat.reduceMul, Nat.reduceSub, Int.reduceToNat, Int.reduceLT, Int.reduceLE, Int.reduceEq, Int.reduceAdd, Int.reduceSub, Int.reduceMul, Int.reduceNeg, Int.reduceBEq, Int.reduceBNe, Nat.reduceBEq, St.keep, iA, Int.natCast_zero]
  · intro k hk hp
    refine run_sound 1000 _ _ ?_
    have hw2 : IntKind.i64.wrap ((k : Int) + 1) = ((k + 1 : Nat) : Int) := by rw [wrapI (by omega) (by omega)]; omega
    by_cases hk1 : k < 73
    · have hlt : ((k : Int) < 73) = True := by simp; omega
      obtain ⟨m, hm⟩ : ∃ m, 73 - k = m + 1 := ⟨73 - k - 1, by omega⟩
      have hm' : 73 - (k + 1) = m := by omega
      rw [hm, findF] at hp
      simp -implicitDefEqProofs only [go_sem, ↓reduceIte, reduceCtorEq, Nat.reduceEqDiff, Nat.reduceLT, Nat.reduceAdd, Nat.reduceLeDiff, Nat.reduceMul, Nat.reduceSub, Int.reduceToNat, Int.reduceLT, Int.reduceLE, Int.reduceEq, Int.reduceAdd, Int.reduceSub, Int.reduceMul, Int.reduceNeg, Int.reduceBEq, Int.reduceBNe, Nat.reduceBEq, iA, hlt]
      refine call_eq 1000 (refWritten_pc k) (by simp -implicitDefEqProofs only [go_sem, ↓reduceIte, reduceCtorEq, Nat.reduceEqDiff, Nat.reduceLT, Nat.reduceAdd, Nat.reduceLeDiff, Nat.reduceMul, Nat.reduceSub, Int.reduceToNat, Int.reduceLT, Int.reduceLE, Int.reduceEq, Int.reduceAdd, Int.reduceSub, Int.reduceMul, Int.reduceNeg, Int.reduceBEq, Int.reduceBNe, Nat.reduceBEq, iA]) ?_ rfl
      generalize hws : RefWrittenStateE k = ws at hp
      simp -implicitDefEqProofs only [go_sem, ↓reduceIte, reduceCtorEq, Nat.reduceEqDiff, Nat.reduceLT, Nat.reduceAdd, Nat.reduceLeDiff, Nat.reduceMul, Nat.reduceSub, Int.reduceToNat, Int.reduceLT, Int.reduceLE, Int.reduceEq, Int.reduceAdd, Int.reduceSub, Int.reduceMul, Int.reduceNeg, Int.reduceBEq, Int.reduceBNe, Nat.reduceBEq, iA, hlt]
      (repeat' (first | exact trivial | contradiction | refine And.intro ?_ ?_ | (refine wait_draw 1000 mixed (by decide +kernel) ?_; simp -implicitDefEqProofs only [go_sem, ↓reduceIte, reduceCtorEq, Nat.reduceEqDiff, Nat.reduceLT, Nat.reduceAdd, Nat.reduceLeDiff, Nat.reduceMul, Nat.reduceSub, Int.reduceToNat, Int.reduceLT, Int.reduceLE, Int.reduceEq, Int.reduceAdd, Int.reduceSub, Int.reduceMul, Int.reduceNeg, Int.reduceBEq, Int.reduceBNe, Nat.reduceBEq iA]) | intro _))
      all_goals simp only [wrQ, hws] at hp
      all_goals first | exact hk1 | (refine weak_to [0, 2, 3, 4] [] ?_ (by simp) (fun i h => by cases h); simp -implicitDefEqProofs only [go_sem, ↓reduceIte, reduceCtorEq, Nat.reduceEqDiff, Nat.reduceLT, Nat.reduceAdd, Nat.reduceLeDiff, Nat.reduceMul, Nat.reduceSub, Int.reduceToNat, Int.reduceLT, Int.reduceLE, Int.reduceEq, Int.reduceAdd, Int.reduceSub, Int.reduceMul, Int.reduceNeg, Int.reduceBEq, Int.reduceBNe, Nat.reduceBEq, St.keep, iA, hw2]; done) | (rw [hm']; simpa [*] using hp) | (simp [*] at hp; simp [← hp, iA]; done)
    · have hlt : ((k : Int) < 73) = False := by simp; omega
      have hz : 73 - k = 0 := by omega
      rw [hz, findF] at hp
      simp -implicitDefEqProofs only [go_sem, ↓reduceIte, reduceCtorEq, Nat.reduceEqDiff, Nat.reduceLT, Nat.reduceAdd, Nat.reduceLeDiff, Nat.reduceMul, Nat.reduceSub, Int.reduceToNat, Int.reduceLT, Int.reduceLE, Int.reduceEq, Int.reduceAdd, Int.reduceSub, Int.reduceMul, Int.reduceNeg, Int.reduceBEq, Int.reduceBNe, Nat.reduceBEq, iA, hlt, ← hp]
end Go.Proofs.Ytiipggfhjkalfaa
