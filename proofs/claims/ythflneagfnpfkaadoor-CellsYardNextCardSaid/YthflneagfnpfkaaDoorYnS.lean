/- The yard's step: states that are states. -/
import Derived.Test.YthflneagfnpfkaaDoorProg
import Derived.Test.YthflneagfnpfkaaDoorPmU
import Derived.Test.YthflneagfnpfkaaDoorYnR
set_option linter.unusedSimpArgs false
set_option linter.unusedVariables false
set_option maxRecDepth 20000
open Go Go.Proofs
namespace Go.Proofs.YthflneagfnpfkaaDoor
open Pm
attribute [local irreducible] Wait CallT CallW Le Weak
def OKY (y : Y) : Prop := (YardStateE y.l).2 = 0
theorem of_l (y : Y) : Y.of y.l = y := rfl
theorem l_of (l : List Int) (h : l.length = 10) : (Y.of l).l = l := by
  obtain ⟨a0, a1, a2, a3, a4, a5, a6, a7, a8, a9, rfl⟩ := ten_of l h
  rfl
theorem yOf_l (s : Int) : (yOf s).l = (YardOfE s).1 := l_of _ (ofE_len s)
theorem ok_yOf (s : Int) : OKY (yOf s) := by
  unfold OKY
  rw [yOf_l]
  by_cases h : (YardOfE s).2 = 0
  · rw [back_eq s h]
  · have : (YardOfE s).1 = zero10 := by
      unfold YardOfE at h ⊢
      split at h
      · rename_i h1; rw [if_pos h1]
      · rename_i h1; rw [if_neg h1]
        split at h
        · simp at h
        · rename_i h2; rw [if_neg h2]
    rw [this]
    decide +kernel
structure OKF (y : Y) : Prop where
  k0 : 0 ≤ y.k
  k1 : y.k ≤ 15
  d0 : 0 ≤ y.d
  d1 : y.d ≤ 3
  i : inR y.l (kindF y.k) = true
  o : onlyL y.l (kindF y.k) = y.l
  p : properB y.l = true
theorem okf {y : Y} (h : OKY y) : OKF y := by
  unfold OKY YardStateE at h
  have hk : y.l.getD 0 0 = y.k := rfl
  have hd : y.l.getD 1 0 = y.d := rfl
  rw [hk, hd] at h
  split at h
  · simp at h
  · rename_i h1
    split at h
    · simp at h
    · rename_i h2
      split at h
      · rename_i h3
        exact ⟨by omega, by omega, by omega, by omega, by simpa using h2, h3.1, h3.2⟩
      · simp at h
theorem stM_ok {y : Y} (h : OKY y) : stM y = y.k + 16 * y.d + 64 * payF y.l (kindF y.k) := by
  have f := okf h
  unfold stM YardStateE
  have hk : y.l.getD 0 0 = y.k := rfl
  have hd : y.l.getD 1 0 = y.d := rfl
  rw [hk, hd, if_neg (by have := f.k0; have := f.k1; have := f.d0; have := f.d1; omega), if_neg (by simp [f.i]), if_pos ⟨f.o, f.p⟩]
theorem stM_no {y : Y} (h : ¬ OKY y) : stM y = 0 := by
  unfold OKY at h
  unfold stM
  unfold YardStateE at h ⊢
  split
  · rfl
  · rename_i h1
    rw [if_neg h1] at h
    split
    · rfl
    · rename_i h2
      rw [if_neg h2] at h
      split
      · rename_i h3
        rw [if_pos h3] at h
        simp at h
      · rfl
theorem trip_digs (k d s a b p q t r c : Int) (h0 : 0 ≤ k) (h15 : k ≤ 15) (hd0 : 0 ≤ d) (hd3 : d ≤ 3) (hi : inR [k, d, s, a, b, p, q, t, r, c] (kindF k) = true) (ho : onlyL [k, d, s, a, b, p, q, t, r, c] (kindF k) = [k, d, s, a, b, p, q, t, r, c]) :
    0 ≤ payF [k, d, s, a, b, p, q, t, r, c] (kindF k) ∧ digs (kindF k) [k, d, 0, 0, 0, 0, 0, 0, 0, 0] (payF [k, d, s, a, b, p, q, t, r, c] (kindF k)) = ([k, d, s, a, b, p, q, t, r, c], 0) := by
  revert hi ho
  refine kinds (Q := fun k' F => inR [k, d, s, a, b, p, q, t, r, c] F = true → onlyL [k, d, s, a, b, p, q, t, r, c] F = [k, d, s, a, b, p, q, t, r, c] →
    0 ≤ payF [k, d, s, a, b, p, q, t, r, c] F ∧ digs F [k, d, 0, 0, 0, 0, 0, 0, 0, 0] (payF [k, d, s, a, b, p, q, t, r, c] F) = ([k, d, s, a, b, p, q, t, r, c], 0)) ?_ ?_ ?_ ?_ ?_ ?_ ?_ ?_ ?_ ?_ ?_ ?_ ?_ ?_ ?_ ?_ k h0 h15
  all_goals
    simp only [digs, stepD, List.foldl_cons, List.foldl_nil, inR, onlyL, bare, payF, List.all_cons, List.all_nil, Bool.and_true, Bool.and_eq_true, decide_eq_true_eq, List.getD_cons_zero, List.getD_cons_succ, List.set_cons_zero, List.set_cons_succ, List.cons.injEq, and_true, true_and, Prod.mk.injEq, Int.mul_zero, Int.add_zero]
    intro hi ho
    refine ⟨by omega, ?_⟩
    (repeat' (first | exact trivial | exact rfl | refine And.intro ?_ ?_)) <;> omega
theorem trip {y : Y} (h : OKY y) : yOf (stM y) = y ∧ (YardOfE (stM y)).2 = 0 := by
  have f := okf h
  have e := stM_ok h
  obtain ⟨k, d, s, a, b, p, q, t, r, c⟩ := y
  obtain ⟨h1, h2⟩ := trip_digs k d s a b p q t r c f.k0 f.k1 f.d0 f.d1 f.i f.o
  have k0 := f.k0
  have k1 := f.k1
  have d0 := f.d0
  have d1 := f.d1
  simp only [Y.l] at e k0 k1 d0 d1
  have e1 : stM ⟨k, d, s, a, b, p, q, t, r, c⟩ % 16 = k := by omega
  have e2 : stM ⟨k, d, s, a, b, p, q, t, r, c⟩ / 16 % 4 = d := by omega
  have e3 : stM ⟨k, d, s, a, b, p, q, t, r, c⟩ / 64 = payF [k, d, s, a, b, p, q, t, r, c] (kindF k) := by omega
  have e4 : part0 (stM ⟨k, d, s, a, b, p, q, t, r, c⟩) = [k, d, 0, 0, 0, 0, 0, 0, 0, 0] := by unfold part0; rw [e1, e2]
  have hE : YardOfE (stM ⟨k, d, s, a, b, p, q, t, r, c⟩) = ([k, d, s, a, b, p, q, t, r, c], 0) := by
    unfold YardOfE
    rw [if_neg (by omega), e1, e3, e4, h2, if_pos ⟨rfl, f.p⟩]
  unfold yOf
  rw [hE]
  exact ⟨rfl, rfl⟩
end Go.Proofs.YthflneagfnpfkaaDoor
