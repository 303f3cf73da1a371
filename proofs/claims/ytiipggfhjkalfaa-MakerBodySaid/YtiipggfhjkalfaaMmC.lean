/- What a tape means: whether a tape is one. -/
import Derived.Test.YtiipggfhjkalfaaProg
import Derived.Test.YtiipggfhjkalfaaPmU
import Derived.Test.YtiipggfhjkalfaaMmA
set_option linter.unusedSimpArgs false
set_option linter.unusedVariables false
set_option maxRecDepth 20000
open Go Go.Proofs
namespace Go.Proofs.Ytiipggfhjkalfaa
open Pm
attribute [local irreducible] Wait CallT CallW NextT Le Weak
def tA (t : List Int) : AV := .fsl 1 (t.map iA)
def cmdB (x : Int) : Bool := decide (5 ≤ x) && decide (x < 97)
theorem command_pc (x : Int) : PCon Try.prog 95 [iA x] (· = .v (.bool (cmdB x))) := by
  refine pcon_run 1000 Try.func95 rfl Try.results95 Try.ntmps95 (Nat.le_of_ble_eq_true rfl) ?_
  simp (maxSteps := 1000000) -implicitDefEqProofs only [go_sem, ↓reduceIte, reduceCtorEq, Nat.reduceEqDiff, Nat.reduceLT, Nat.reduceAdd, Nat.reduceLeDiff, Nat.reduceMul, Nat.reduceSub, Int.reduceToNat, Int.reduceLT, Int.reduceLE, Int.reduceEq, Int.reduceBNe, Nat.reduceBEq, iA]
  (repeat' (first | exact trivial | contradiction | exact ⟨_, rfl⟩ | refine And.intro ?_ ?_ | ((first | show (_ : Nat) ≤ _ | show (_ : Nat) < _ | show (_ : Int) ≤ _ | show (_ : Int) < _); omega) | (refine wait_draw 1000 mixed (by decide +kernel) ?_; simp (maxSteps := 1000000) -implicitDefEqProofs only [go_sem, ↓reduceIte, reduceCtorEq, Nat.reduceEqDiff, Nat.reduceLT, Nat.reduceAdd, Nat.reduceLeDiff, Nat.reduceMul, Nat.reduceSub, Int.reduceToNat, Int.reduceLT, Int.reduceLE, Int.reduceEq, Int.reduceBNe, Nat.reduceBEq]) | intro _))
  all_goals simp_all [cmdB]
  all_goals omega
/-! ### Whether a tape is one -/
theorem get_tA (t : List Int) (k : Nat) (h : k < t.length) : (t.map iA).getD k .junk = .v (.int .i64 (t.getD k 0)) := by simp [List.getD_eq_getElem?_getD, h, iA]
theorem renL_tA (f : Nat → Option Nat) (t : List Int) : AV.renL f (t.map iA) = t.map iA := by
  rw [AV.renL_eq, List.map_map]
  exact List.map_congr_left fun p _ => by simp [iA, AV.ren]
attribute [go_sem] renL_tA
def headB (t : List Int) : Bool := decide (3 ≤ t.length ∧ t.length ≤ 4096 ∧ t.getD 0 0 = 1 ∧ t.getD (t.length - 1) 0 = 4 ∧ (t.getD (t.length - 2) 0 = 2 ∨ t.getD (t.length - 2) 0 = 3))
def checkE (t : List Int) : Int := if headB t = true ∧ ((t.take (t.length - 2)).drop 1).all cmdB = true then 0 else 71
theorem checkE_head {t : List Int} (h : headB t = false) : checkE t = 71 := by simp [checkE, h]
theorem checkE_bad {t : List Int} (h : ((t.take (t.length - 2)).drop 1).all cmdB = false) : checkE t = 71 := by unfold checkE; rw [h]; simp
theorem checkE_ok {t : List Int} (h : headB t = true) (ha : ((t.take (t.length - 2)).drop 1).all cmdB = true) : checkE t = 0 := by unfold checkE; rw [h, ha]; simp
theorem all_step {p : Int → Bool} (l : List Int) (k : Nat) (h : k < l.length) : (l.drop k).all p = (p (l.getD k 0) && (l.drop (k + 1)).all p) := by
  rw [List.drop_eq_getElem_cons h, List.all_cons]
  simp [List.getD_eq_getElem?_getD, h]
theorem refCheck_pc (t : List Int) (hm : t.length < 9223372036854775808) : PCon Try.prog 74 [tA t] (· = iA (checkE t)) := by
  refine pcon_run 1000 Try.func74 rfl Try.results74 Try.ntmps74 (Nat.le_of_ble_eq_true rfl) ?_
  rcases Nat.lt_or_ge t.length 3 with h3 | h3
  · have h1 : ((t.length : Int) < 3) = True := by simp; omega
    simp (maxSteps := 1000000) -implicitDefEqProofs only [go_sem, ↓reduceIte, reduceCtorEq, Nat.reduceEqDiff, Nat.reduceLT, Nat.reduceAdd, Nat.reduceLeDiff, Nat.reduceMul, Nat.reduceSub, Int.reduceToNat, Int.reduceLT, Int.reduceLE, Int.reduceEq, Int.reduceBNe, Nat.reduceBEq, tA, h1]
    simp [checkE, headB, show ¬ 3 ≤ t.length by omega, iA, fz_v]
  · have h1 : ((t.length : Int) < 3) = False := by simp; omega
    have e1 : IntKind.i64.wrap ((t.length : Int) - 1) = ((t.length - 1 : Nat) : Int) := by rw [wrap64 (by omega) (by omega)]; omega
    have e2 : IntKind.i64.wrap ((t.length : Int) - 2) = ((t.length - 2 : Nat) : Int) := by rw [wrap64 (by omega) (by omega)]; omega
    have g0 := get_tA t 0 (by omega)
    have g1 := get_tA t (t.length - 1) (by omega)
    have g2 := get_tA t (t.length - 2) (by omega)
    simp (maxSteps := 1000000) -implicitDefEqProofs only [go_sem, ↓reduceIte, reduceCtorEq, Nat.reduceEqDiff, Nat.reduceLT, Nat.reduceAdd, Nat.reduceLeDiff, Nat.reduceMul, Nat.reduceSub, Int.reduceToNat, Int.reduceLT, Int.reduceLE, Int.reduceEq, Int.reduceBNe, Nat.reduceBEq, tA, h1, e1, e2, g0, g1, g2]
    have hg : ∀ k, k < t.length - 2 → (t.take (t.length - 2)).getD k 0 = t.getD k 0 := fun k hk => by rw [List.getD_eq_getElem?_getD, List.getElem?_take, if_pos hk, List.getD_eq_getElem?_getD]
    have hl2 : (t.take (t.length - 2)).length = t.length - 2 := by rw [List.length_take]; omega
    (repeat' (first | exact trivial | contradiction | exact ⟨_, rfl⟩ | refine And.intro ?_ ?_ | ((first | show (_ : Nat) ≤ _ | show (_ : Nat) < _ | show (_ : Int) ≤ _ | show (_ : Int) < _); omega) | (refine wait_draw 1000 mixed (by decide +kernel) ?_; simp (maxSteps := 1000000) -implicitDefEqProofs only [go_sem, ↓reduceIte, reduceCtorEq, Nat.reduceEqDiff, Nat.reduceLT, Nat.reduceAdd, Nat.reduceLeDiff, Nat.reduceMul, Nat.reduceSub, Int.reduceToNat, Int.reduceLT, Int.reduceLE, Int.reduceEq, Int.reduceBNe, Nat.reduceBEq tA, h1, e1, e2, g0, g1, g2]) | intro _))
    all_goals first
      | (have hh : headB t = false := by simp only [headB, decide_eq_false_iff_not]; omega
         simp [checkE, hh, iA]
         done)
      | (have hh : headB t = true := by simp only [headB, decide_eq_true_eq]; omega
         refine wait_range (t.length - 3) (fun k => ⟨55, 0, [(0, tA t), (3, .v (.int .i64 t.length)), (4, .v (.int .i64 ((k + 1 : Nat) : Int)))], []⟩)
          (fun k => ((t.take (t.length - 2)).drop (k + 1)).all cmdB = ((t.take (t.length - 2)).drop 1).all cmdB) (weak_to [0, 3, 4] [] ?_ (by simp) (fun i h => by cases h)) rfl ?_
         · simp (maxSteps := 1000000) -implicitDefEqProofs only [go_sem, ↓reduceIte, reduceCtorEq, Nat.reduceEqDiff, Nat.reduceLT, Nat.reduceAdd, Nat.reduceLeDiff, Nat.reduceMul, Nat.reduceSub, Int.reduceToNat, Int.reduceLT, Int.reduceLE, Int.reduceEq, Int.reduceBNe, Nat.reduceBEq, St.keep, Nat.zero_add, Int.natCast_one, tA]
         · intro k hk hp
           refine run_sound 1000 _ _ ?_
           have hw2 : IntKind.i64.wrap (((k + 1 : Nat) : Int) + 1) = ((k + 1 + 1 : Nat) : Int) := by rw [wrap64 (by omega) (by omega)]; omega
           by_cases hk1 : k < t.length - 3
           · have hlt : (((k + 1 : Nat) : Int) < ((t.length - 2 : Nat) : Int)) = True := by simp; omega
             have hi : (((k + 1 : Nat) : Int) < (t.length : Int)) = True := by simp; omega
             have g3 := get_tA t (k + 1) (by omega)
             rw [all_step _ _ (by rw [hl2]; omega), hg _ (by omega)] at hp
             simp (maxSteps := 1000000) -implicitDefEqProofs only [go_sem, ↓reduceIte, reduceCtorEq, Nat.reduceEqDiff, Nat.reduceLT, Nat.reduceAdd, Nat.reduceLeDiff, Nat.reduceMul, Nat.reduceSub, Int.reduceToNat, Int.reduceLT, Int.reduceLE, Int.reduceEq, Int.reduceBNe, Nat.reduceBEq, tA, e2, hlt, hi, g3]
             (repeat' (first | exact trivial | contradiction | exact ⟨_, rfl⟩ | refine And.intro ?_ ?_ | ((first | show (_ : Nat) ≤ _ | show (_ : Nat) < _ | show (_ : Int) ≤ _ | show (_ : Int) < _); omega) | (refine wait_draw 1000 mixed (by decide +kernel) ?_; simp (maxSteps := 1000000) -implicitDefEqProofs only [go_sem, ↓reduceIte, reduceCtorEq, Nat.reduceEqDiff, Nat.reduceLT, Nat.reduceAdd, Nat.reduceLeDiff, Nat.reduceMul, Nat.reduceSub, Int.reduceToNat, Int.reduceLT, Int.reduceLE, Int.reduceEq, Int.reduceBNe, Nat.reduceBEq, tA, e2, hlt, hi, g3]) | ((first | refine call_eq 1000 ((show PCon Try.prog 95 [.v (.int .i64 (t.getD (k + 1) 0))] (· = .v (.bool (cmdB (t.getD (k + 1) 0)))) from command_pc _)) ?_ ?_ rfl | refine call_draw 1000 ((show PCon Try.prog 95 [.v (.int .i64 (t.getD (k + 1) 0))] (· = .v (.bool (cmdB (t.getD (k + 1) 0)))) from command_pc _)) ?_ ?_); (focus (simp (maxSteps := 1000000) -implicitDefEqProofs only [go_sem, ↓reduceIte, reduceCtorEq, Nat.reduceEqDiff, Nat.reduceLT, Nat.reduceAdd, Nat.reduceLeDiff, Nat.reduceMul, Nat.reduceSub, Int.reduceToNat, Int.reduceLT, Int.reduceLE, Int.reduceEq, Int.reduceBNe, Nat.reduceBEq, tA, e2, hlt, hi, g3]; done)); simp (maxSteps := 1000000) -implicitDefEqProofs only [go_sem, ↓reduceIte, reduceCtorEq, Nat.reduceEqDiff, Nat.reduceLT, Nat.reduceAdd, Nat.reduceLeDiff, Nat.reduceMul, Nat.reduceSub, Int.reduceToNat, Int.reduceLT, Int.reduceLE, Int.reduceEq, Int.reduceBNe, Nat.reduceBEq, tA, e2, hlt, hi, g3]) | intro _))
             all_goals first
               | omega
               | ((refine weak_to [0, 3, 4] [] ?_ (by simp) (fun i h => by cases h); simp (maxSteps := 1000000) -implicitDefEqProofs only [go_sem, ↓reduceIte, reduceCtorEq, Nat.reduceEqDiff, Nat.reduceLT, Nat.reduceAdd, Nat.reduceLeDiff, Nat.reduceMul, Nat.reduceSub, Int.reduceToNat, Int.reduceLT, Int.reduceLE, Int.reduceEq, Int.reduceBNe, Nat.reduceBEq, St.keep, hw2, tA]; done))
               | (rw [‹cmdB _ = true›, Bool.true_and] at hp; exact hp)
               | (rw [‹cmdB _ = false›, Bool.false_and] at hp; rw [checkE_bad hp.symm]; rfl)
           · have hlt : (((k + 1 : Nat) : Int) < ((t.length - 2 : Nat) : Int)) = False := by simp; omega
             have hk2 : k = t.length - 3 := by omega
             rw [List.drop_eq_nil_of_le (by rw [hl2]; omega), List.all_nil] at hp
             simp (maxSteps := 1000000) -implicitDefEqProofs only [go_sem, ↓reduceIte, reduceCtorEq, Nat.reduceEqDiff, Nat.reduceLT, Nat.reduceAdd, Nat.reduceLeDiff, Nat.reduceMul, Nat.reduceSub, Int.reduceToNat, Int.reduceLT, Int.reduceLE, Int.reduceEq, Int.reduceBNe, Nat.reduceBEq, tA, e2, hlt]
             rw [checkE_ok hh hp.symm]; rfl)
theorem check_pc (t : List Int) (hm : t.length < 9223372036854775808) : PCon Try.prog 79 [tA t] (· = iA (checkE t)) := by
  refine pcon_run 1000 Try.func79 rfl Try.results79 Try.ntmps79 (Nat.le_of_ble_eq_true rfl) ?_
  rcases Nat.lt_or_ge t.length 3 with h3 | h3
  · have h1 : ((t.length : Int) < 3) = True := by simp; omega
    simp (maxSteps := 1000000) -implicitDefEqProofs only [go_sem, ↓reduceIte, reduceCtorEq, Nat.reduceEqDiff, Nat.reduceLT, Nat.reduceAdd, Nat.reduceLeDiff, Nat.reduceMul, Nat.reduceSub, Int.reduceToNat, Int.reduceLT, Int.reduceLE, Int.reduceEq, Int.reduceBNe, Nat.reduceBEq, tA, h1]
    simp [checkE, headB, show ¬ 3 ≤ t.length by omega, iA, fz_v]
  · have h1 : ((t.length : Int) < 3) = False := by simp; omega
    have e1 : IntKind.i64.wrap ((t.length : Int) - 1) = ((t.length - 1 : Nat) : Int) := by rw [wrap64 (by omega) (by omega)]; omega
    have e2 : IntKind.i64.wrap ((t.length : Int) - 2) = ((t.length - 2 : Nat) : Int) := by rw [wrap64 (by omega) (by omega)]; omega
    have g0 := get_tA t 0 (by omega)
    have g1 := get_tA t (t.length - 1) (by omega)
    have g2 := get_tA t (t.length - 2) (by omega)
    have hg : ∀ k, k < t.length - 2 → (t.take (t.length - 2)).getD k 0 = t.getD k 0 := fun k hk => by rw [List.getD_eq_getElem?_getD, List.getElem?_take, if_pos hk, List.getD_eq_getElem?_getD]
    have hl2 : (t.take (t.length - 2)).length = t.length - 2 := by rw [List.length_take]; omega
    have hsl : ((t.map iA).take (t.length - 2)).drop 1 = ((t.take (t.length - 2)).drop 1).map iA := by rw [List.map_drop, List.map_take]
    generalize hb : (t.take (t.length - 2)).drop 1 = b at hsl
    have hbl : b.length = t.length - 3 := by rw [← hb, List.length_drop, hl2]; omega
    simp (maxSteps := 1000000) -implicitDefEqProofs only [go_sem, ↓reduceIte, reduceCtorEq, Nat.reduceEqDiff, Nat.reduceLT, Nat.reduceAdd, Nat.reduceLeDiff, Nat.reduceMul, Nat.reduceSub, Int.reduceToNat, Int.reduceLT, Int.reduceLE, Int.reduceEq, Int.reduceBNe, Nat.reduceBEq, tA, h1, e1, e2, g0, g1, g2, hsl]
    (repeat' (first | exact trivial | contradiction | exact ⟨_, rfl⟩ | refine And.intro ?_ ?_ | ((first | show (_ : Nat) ≤ _ | show (_ : Nat) < _ | show (_ : Int) ≤ _ | show (_ : Int) < _); omega) | (refine wait_draw 1000 mixed (by decide +kernel) ?_; simp (maxSteps := 1000000) -implicitDefEqProofs only [go_sem, ↓reduceIte, reduceCtorEq, Nat.reduceEqDiff, Nat.reduceLT, Nat.reduceAdd, Nat.reduceLeDiff, Nat.reduceMul, Nat.reduceSub, Int.reduceToNat, Int.reduceLT, Int.reduceLE, Int.reduceEq, Int.reduceBNe, Nat.reduceBEq tA, h1, e1, e2, g0, g1, g2, hsl]) | intro _))
    all_goals first
      | (have hh : headB t = false := by simp only [headB, decide_eq_false_iff_not]; omega
         rw [checkE_head hh]
         rfl)
      | (have hh : headB t = true := by simp only [headB, decide_eq_true_eq]; omega
         refine wait_range b.length (fun k => ⟨60, 0, [(47, tA b), (48, .v (.int .i64 b.length)), (49, .v (.int .i64 k))], []⟩)
          (fun k => (b.drop k).all cmdB = b.all cmdB) (weak_to [47, 48, 49] [] ?_ (by simp) (fun i h => by cases h)) rfl ?_
         · simp (maxSteps := 1000000) -implicitDefEqProofs only [go_sem, ↓reduceIte, reduceCtorEq, Nat.reduceEqDiff, Nat.reduceLT, Nat.reduceAdd, Nat.reduceLeDiff, Nat.reduceMul, Nat.reduceSub, Int.reduceToNat, Int.reduceLT, Int.reduceLE, Int.reduceEq, Int.reduceBNe, Nat.reduceBEq, St.keep, Nat.zero_add, Int.natCast_one, tA, hsl]
         · intro k hk hp
           refine run_sound 1000 _ _ ?_
           have hw2 : IntKind.i64.wrap ((k : Int) + 1) = ((k + 1 : Nat) : Int) := by rw [wrap64 (by omega) (by omega)]; omega
           by_cases hk1 : k < b.length
           · have hlt : ((k : Int) < (b.length : Int)) = True := by simp; omega
             have g3 := get_tA b k (by omega)
             rw [all_step _ _ hk1] at hp
             simp (maxSteps := 1000000) -implicitDefEqProofs only [go_sem, ↓reduceIte, reduceCtorEq, Nat.reduceEqDiff, Nat.reduceLT, Nat.reduceAdd, Nat.reduceLeDiff, Nat.reduceMul, Nat.reduceSub, Int.reduceToNat, Int.reduceLT, Int.reduceLE, Int.reduceEq, Int.reduceBNe, Nat.reduceBEq, tA, hlt, g3]
             (repeat' (first | exact trivial | contradiction | exact ⟨_, rfl⟩ | refine And.intro ?_ ?_ | ((first | show (_ : Nat) ≤ _ | show (_ : Nat) < _ | show (_ : Int) ≤ _ | show (_ : Int) < _); omega) | (refine wait_draw 1000 mixed (by decide +kernel) ?_; simp (maxSteps := 1000000) -implicitDefEqProofs only [go_sem, ↓reduceIte, reduceCtorEq, Nat.reduceEqDiff, Nat.reduceLT, Nat.reduceAdd, Nat.reduceLeDiff, Nat.reduceMul, Nat.reduceSub, Int.reduceToNat, Int.reduceLT, Int.reduceLE, Int.reduceEq, Int.reduceBNe, Nat.reduceBEq tA, hlt, g3]) | intro _))
             all_goals first
               | omega
               | ((refine weak_to [47, 48, 49] [] ?_ (by simp) (fun i h => by cases h); simp (maxSteps := 1000000) -implicitDefEqProofs only [go_sem, ↓reduceIte, reduceCtorEq, Nat.reduceEqDiff, Nat.reduceLT, Nat.reduceAdd, Nat.reduceLeDiff, Nat.reduceMul, Nat.reduceSub, Int.reduceToNat, Int.reduceLT, Int.reduceLE, Int.reduceEq, Int.reduceBNe, Nat.reduceBEq, St.keep, hw2, tA]; done))
               | (have hc : cmdB (b.getD k 0) = true := by simp only [cmdB, Bool.and_eq_true, decide_eq_true_eq]; omega
                  rw [hc, Bool.true_and] at hp; exact hp)
               | (have hc : cmdB (b.getD k 0) = false := by simp only [cmdB, Bool.and_eq_false_iff, decide_eq_false_iff_not]; omega
                  rw [hc, Bool.false_and, ← hb] at hp; rw [checkE_bad hp.symm]; rfl)
           · have hlt : ((k : Int) < (b.length : Int)) = False := by simp; omega
             have hk2 : k = b.length := by omega
             rw [List.drop_eq_nil_of_le (by omega), List.all_nil, ← hb] at hp
             simp (maxSteps := 1000000) -implicitDefEqProofs only [go_sem, ↓reduceIte, reduceCtorEq, Nat.reduceEqDiff, Nat.reduceLT, Nat.reduceAdd, Nat.reduceLeDiff, Nat.reduceMul, Nat.reduceSub, Int.reduceToNat, Int.reduceLT, Int.reduceLE, Int.reduceEq, Int.reduceBNe, Nat.reduceBEq, tA, hlt]
             rw [checkE_ok hh hp.symm]; rfl)
end Go.Proofs.Ytiipggfhjkalfaa
