import Derived.Test.YtiipggfhjkalfaaProg
import Derived.Test.YtiipggfhjkalfaaPmU
import Derived.Test.YtiipggfhjkalfaaRmO
/- What a tape means, the document's way. -/
set_option linter.unusedSimpArgs false
set_option linter.unusedVariables false
set_option maxRecDepth 20000
open Go Go.Proofs
namespace Go.Proofs.Ytiipggfhjkalfaa
open Pm
attribute [local irreducible] Wait CallT CallW NextT Le Weak
theorem rwalkR_inv : ∀ (l : List Int) (w w' : Rk) (n : Nat), RkX w n → (0 ≤ w.count ∧ w.count ≤ 255) → (∀ s ∈ l, 5 ≤ s) → rwalkR l w = (0, w') → RkX w' (n + 255 * l.length)
  | [], w, w', n, h, hc, hl, e => by
    simp only [rwalkR, Prod.mk.injEq, true_and] at e
    subst e
    exact h.le (by simp)
  | s :: l, w, w', n, h, hc, hl, e => by
    by_cases h0 : (rcmdR w s).1 = 0
    · rw [rwalkR_ok h0] at e
      have hi := rcmd_inv h hc (hl s (by simp)) (show rcmdR w s = (0, (rcmdR w s).2) by rw [← h0])
      exact (rwalkR_inv l _ w' (n + 255) hi.1 hi.2.1 (fun x hx => hl x (by simp [hx])) e).le (by simp only [List.length_cons]; omega)
    · rw [rwalkR_bad h0] at e
      rw [e] at h0
      exact absurd rfl h0
theorem refWalk_inv {t : List Int} {w : Rk} (e : refWalk t = (0, w)) : RkX w 1100000 ∧ 3 ≤ t.length ∧ t.length ≤ 4096 := by
  unfold refWalk at e
  by_cases hc : checkE t = 0
  · rw [if_pos hc] at e
    have hh : headB t = true := by
      cases h : headB t with
      | true => rfl
      | false => rw [checkE_head h] at hc; cases hc
    have hlen : 3 ≤ t.length ∧ t.length ≤ 4096 := by simp only [headB, decide_eq_true_eq] at hh; omega
    have hall : ((t.take (t.length - 2)).drop 1).all cmdB = true := by
      cases h : ((t.take (t.length - 2)).drop 1).all cmdB with
      | true => rfl
      | false => rw [checkE_bad h] at hc; cases hc
    have hx := rwalkR_inv _ _ _ 0 rBegin_x (by decide) (fun s hs => by
      have := List.all_eq_true.1 hall s hs
      simp only [cmdB, Bool.and_eq_true, decide_eq_true_eq] at this
      omega) e
    refine ⟨hx.le ?_, hlen.1, hlen.2⟩
    rw [List.length_drop, List.length_take]
    omega
  · rw [if_neg hc] at e
    cases e
def refMade (t : List Int) : Md × Int :=
  let r := refWalk t
  if r.1 = 0 then (refMd r.2 (cop t), 0) else (md0, r.1)
end Go.Proofs.Ytiipggfhjkalfaa
/- What a tape means: the law's function. -/
set_option linter.unusedSimpArgs false
set_option linter.unusedVariables false
set_option maxRecDepth 20000
open Go Go.Proofs
namespace Go.Proofs.Ytiipggfhjkalfaa
open Pm
attribute [local irreducible] Wait CallT CallW NextT Le Weak
theorem rsame_pc (l : List Ce) (hs : l.length < 1000000000000) : PCon Try.prog 52 [.fsl 3 (ceL l), .fsl 3 (ceL l)] (· = .v (.bool true)) := by
  refine pcon_run 1000 Try.func52 rfl Try.results52 Try.ntmps52 (Nat.le_of_ble_eq_true rfl) ?_
  simp (maxSteps := 1000000) -implicitDefEqProofs only [go_sem, ↓reduceIte, reduceCtorEq, Nat.reduceEqDiff, Nat.reduceLT, Nat.reduceAdd, Nat.reduceLeDiff, bne_self_eq_false]
  (repeat' (first | exact trivial | contradiction | exact ⟨_, rfl⟩ | refine And.intro ?_ ?_ | ((first | show (_ : Nat) ≤ _ | show (_ : Nat) < _ | show (_ : Int) ≤ _ | show (_ : Int) < _); omega) | (refine wait_draw 1000 mixed (by decide +kernel) ?_; simp (maxSteps := 1000000) -implicitDefEqProofs only [go_sem, ↓reduceIte, reduceCtorEq, Nat.reduceEqDiff, Nat.reduceLT, Nat.reduceAdd, Nat.reduceLeDiff , bne_self_eq_false]) | intro _))
  refine wait_range l.length (fun k => ⟨26, 0, [(0, .fsl 3 (ceL l)), (1, .fsl 3 (ceL l)), (5, .v (.int .i64 (k : Int)))], []⟩) (fun _ => True) (weak_to [0, 1, 5] [] ?_ (by simp) (fun i h => by cases h)) trivial ?_
  · simp (maxSteps := 1000000) -implicitDefEqProofs only [go_sem, ↓reduceIte, reduceCtorEq, Nat.reduceEqDiff, Nat.reduceLT, Nat.reduceAdd, Nat.reduceLeDiff, St.keep, Int.natCast_zero]
  intro k hk _
  refine run_sound 1000 _ _ ?_
  by_cases hkl : k < l.length
  · have h1 : ((k : Int) < (l.length : Int)) = True := eq_true (by omega)
    have h2 : (k < l.length) = True := eq_true hkl
    have hw1 : IntKind.i64.wrap ((k : Int) + 1) = ((k + 1 : Nat) : Int) := by rw [wrap64 (by omega) (by omega)]; omega
    have hg := ceL_get l k hkl
    generalize l.getD k default = o at hg
    simp (maxSteps := 1000000) -implicitDefEqProofs only [go_sem, ↓reduceIte, reduceCtorEq, Nat.reduceEqDiff, Nat.reduceLT, Nat.reduceAdd, Nat.reduceLeDiff, h1, h2, hg, bne_self_eq_false, beq_self_eq_true, Bool.and_self, Bool.not_true]
    (repeat' (first | exact trivial | contradiction | exact ⟨_, rfl⟩ | refine And.intro ?_ ?_ | ((first | show (_ : Nat) ≤ _ | show (_ : Nat) < _ | show (_ : Int) ≤ _ | show (_ : Int) < _); omega) | (refine wait_draw 1000 mixed (by decide +kernel) ?_; simp (maxSteps := 1000000) -implicitDefEqProofs only [go_sem, ↓reduceIte, reduceCtorEq, Nat.reduceEqDiff, Nat.reduceLT, Nat.reduceAdd, Nat.reduceLeDiff , h1, h2, hg, bne_self_eq_false, beq_self_eq_true, Bool.and_self, Bool.not_true]) | intro _))
    all_goals
      refine weak_to [0, 1, 5] [] ?_ (by simp) (fun i h => by cases h)
      simp (maxSteps := 1000000) -implicitDefEqProofs only [go_sem, ↓reduceIte, reduceCtorEq, Nat.reduceEqDiff, Nat.reduceLT, Nat.reduceAdd, Nat.reduceLeDiff, St.keep, hw1]
  · have h1 : ((k : Int) < (l.length : Int)) = False := eq_false (by omega)
    simp (maxSteps := 1000000) -implicitDefEqProofs only [go_sem, ↓reduceIte, reduceCtorEq, Nat.reduceEqDiff, Nat.reduceLT, Nat.reduceAdd, Nat.reduceLeDiff, h1]
end Go.Proofs.Ytiipggfhjkalfaa
