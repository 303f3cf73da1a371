/- The yard's states: the plain law. -/
import Derived.Test.YtiipggfhjkalfaaProg
import Derived.Test.YtiipggfhjkalfaaPmU
import Derived.Test.YtiipggfhjkalfaaYaH
set_option linter.unusedSimpArgs false
set_option linter.unusedVariables false
set_option maxRecDepth 20000
open Go Go.Proofs
namespace Go.Proofs.Ytiipggfhjkalfaa
open Pm
attribute [local irreducible] Wait CallT CallW NextT Le Weak
/-- What any state of a kind from 0 to 15 obeys, shown kind by kind. -/
theorem kinds {Q : Int → List (Nat × Nat) → Prop} (h0 : Q 0 []) (h1 : Q 1 [(128, 3)]) (h2 : Q 2 [(128, 3)]) (h3 : Q 3 [(2, 2), (128, 3), (4, 7)]) (h4 : Q 4 [(2, 2), (128, 3), (128, 4)])
    (h5 : Q 5 [(2, 2), (3, 3), (3, 4)]) (h6 : Q 6 [(2, 2), (3, 3), (3, 4)]) (h7 : Q 7 [(2, 2), (2, 5), (128, 3)]) (h8 : Q 8 [(2, 2), (8, 5), (4, 6), (4, 7), (128, 3)])
    (h9 : Q 9 [(2, 8), (4, 6), (128, 3)]) (h10 : Q 10 [(4, 5), (128, 3), (256, 9)]) (h11 : Q 11 [(256, 9)]) (h12 : Q 12 [(128, 3), (256, 9)]) (h13 : Q 13 [(2, 5), (128, 3)]) (h14 : Q 14 []) (h15 : Q 15 [])
    (k : Int) (ha : 0 ≤ k) (hb : k ≤ 15) : Q k (kindF k) := by
  obtain ⟨n, rfl⟩ := Int.eq_ofNat_of_zero_le ha
  match n, hb with
  | 0, _ => exact h0
  | 1, _ => exact h1
  | 2, _ => exact h2
  | 3, _ => exact h3
  | 4, _ => exact h4
  | 5, _ => exact h5
  | 6, _ => exact h6
  | 7, _ => exact h7
  | 8, _ => exact h8
  | 9, _ => exact h9
  | 10, _ => exact h10
  | 11, _ => exact h11
  | 12, _ => exact h12
  | 13, _ => exact h13
  | 14, _ => exact h14
  | 15, _ => exact h15
  | n + 16, h => exfalso; omega
def okY (y : List Int) : Bool := !(decide ((y.getD 0 0 = 0 ∨ y.getD 0 0 = 14) ∧ y.getD 1 0 ≠ 0)) && rightB y
/-- The two ways to say which fields fit together. -/
theorem fit_eq (k d s s1 s2 ph as1 se ro co : Int) (h0 : 0 ≤ k) (h15 : k ≤ 15) (hr : inR [k, d, s, s1, s2, ph, as1, se, ro, co] (kindF k) = true) (ho : onlyL [k, d, s, s1, s2, ph, as1, se, ro, co] (kindF k) = [k, d, s, s1, s2, ph, as1, se, ro, co]) :
    properB [k, d, s, s1, s2, ph, as1, se, ro, co] = okY [k, d, s, s1, s2, ph, as1, se, ro, co] := by
  revert hr ho
  refine kinds (Q := fun k F => inR [k, d, s, s1, s2, ph, as1, se, ro, co] F = true → onlyL [k, d, s, s1, s2, ph, as1, se, ro, co] F = [k, d, s, s1, s2, ph, as1, se, ro, co] → properB [k, d, s, s1, s2, ph, as1, se, ro, co] = okY [k, d, s, s1, s2, ph, as1, se, ro, co])
    ?_ ?_ ?_ ?_ ?_ ?_ ?_ ?_ ?_ ?_ ?_ ?_ ?_ ?_ ?_ ?_ k h0 h15
  all_goals
    intro hr ho
    simp only [inR, onlyL, bare, List.all_cons, List.all_nil, Bool.and_true, Bool.and_eq_true, decide_eq_true_eq, List.foldl_cons, List.foldl_nil, List.getD_cons_zero, List.getD_cons_succ, List.set_cons_zero, List.set_cons_succ, List.cons.injEq, and_true, true_and] at hr ho
    refine bool_eq ?_
    simp only [properB, okY, rightB, List.getD_cons_zero, List.getD_cons_succ]
    simp
    first | omega | (split <;> split <;> omega)
theorem rev_eq (k d s s1 s2 ph as1 se ro co : Int) (h0 : 0 ≤ k) (h15 : k ≤ 15) : inR [k, d, s, s1, s2, ph, as1, se, ro, co] (kindF k).reverse = inR [k, d, s, s1, s2, ph, as1, se, ro, co] (kindF k) ∧ onlyL [k, d, s, s1, s2, ph, as1, se, ro, co] (kindF k).reverse = onlyL [k, d, s, s1, s2, ph, as1, se, ro, co] (kindF k) := by
  refine ⟨List.all_reverse, ?_⟩
  refine kinds (Q := fun k' F => onlyL [k, d, s, s1, s2, ph, as1, se, ro, co] F.reverse = onlyL [k, d, s, s1, s2, ph, as1, se, ro, co] F) ?_ ?_ ?_ ?_ ?_ ?_ ?_ ?_ ?_ ?_ ?_ ?_ ?_ ?_ ?_ ?_ k h0 h15 <;> rfl
theorem state_eq (y : List Int) (hy : y.length = 10) : YardStateE y = RefYardStateE y := by
  obtain ⟨k, d, s, s1, s2, ph, as1, se, ro, co, rfl⟩ := ten_of y hy
  unfold YardStateE RefYardStateE
  simp only [List.getD_cons_zero, List.getD_cons_succ]
  by_cases h : k < 0 ∨ 15 < k ∨ d < 0 ∨ 3 < d
  · rw [if_pos h, if_pos (by omega)]
  · rw [if_neg h]
    obtain ⟨e1, e2⟩ := rev_eq k d s s1 s2 ph as1 se ro co (by omega) (by omega)
    rw [e1, e2, payR_rev]
    by_cases hr : inR [k, d, s, s1, s2, ph, as1, se, ro, co] (kindF k) = false
    · rw [if_pos hr]
      split
      · rfl
      · rfl
    · rw [if_neg hr]
      have hr' : inR [k, d, s, s1, s2, ph, as1, se, ro, co] (kindF k) = true := by simpa using hr
      by_cases ho : onlyL [k, d, s, s1, s2, ph, as1, se, ro, co] (kindF k) = [k, d, s, s1, s2, ph, as1, se, ro, co]
      · have hf := fit_eq k d s s1 s2 ph as1 se ro co (by omega) (by omega) hr' ho
        rw [hf]
        simp only [okY, List.getD_cons_zero, List.getD_cons_succ]
        by_cases hc : (k = 0 ∨ k = 14) ∧ d ≠ 0
        · rw [if_pos (show k < 0 ∨ 15 < k ∨ d < 0 ∨ 3 < d ∨ ((k = 0 ∨ k = 14) ∧ d ≠ 0) by omega)]
          simp [hc]
        · rw [if_neg (show ¬ (k < 0 ∨ 15 < k ∨ d < 0 ∨ 3 < d ∨ ((k = 0 ∨ k = 14) ∧ d ≠ 0)) by omega), decide_eq_false hc]
          simp [hr']
      · rw [if_neg (fun h => ho h.1)]
        split
        · rfl
        · rw [if_neg (fun h => ho h.1)]
/-- The digits of a number, kind by kind: they are in range, the rest is what the bases leave. -/
theorem digs_all (s : Int) (h0 : 0 ≤ s) : let p := digs (kindF (s % 16)) (part0 s) (s / 64)
    inR p.1 (kindF (s % 16)) = true ∧ onlyL p.1 (kindF (s % 16)) = p.1 ∧ p.1.getD 0 0 = s % 16 ∧ p.1.getD 1 0 = s / 16 % 4 ∧ (8388608 ≤ s → p.2 ≠ 0) ∧ (p.2 = 0 → s % 16 + 16 * (s / 16 % 4) + 64 * payF p.1 (kindF (s % 16)) = s) := by
  have hk0 : 0 ≤ s % 16 := by omega
  have hk1 : s % 16 ≤ 15 := by omega
  generalize hk : s % 16 = k at hk0 hk1
  have hp : part0 s = [k, s / 16 % 4, 0, 0, 0, 0, 0, 0, 0, 0] := by unfold part0; rw [hk]
  rw [hp]
  generalize hr : s / 64 = r
  refine kinds (Q := fun k' F => let p := digs F [k, s / 16 % 4, 0, 0, 0, 0, 0, 0, 0, 0] r
    inR p.1 F = true ∧ onlyL p.1 F = p.1 ∧ p.1.getD 0 0 = k ∧ p.1.getD 1 0 = s / 16 % 4 ∧ (8388608 ≤ s → p.2 ≠ 0) ∧ (p.2 = 0 → k + 16 * (s / 16 % 4) + 64 * payF p.1 F = s)) ?_ ?_ ?_ ?_ ?_ ?_ ?_ ?_ ?_ ?_ ?_ ?_ ?_ ?_ ?_ ?_ k hk0 hk1
  all_goals
    simp only [digs, stepD, List.foldl_cons, List.foldl_nil, inR, onlyL, bare, payF, List.all_cons, List.all_nil, Bool.and_true, Bool.and_eq_true, decide_eq_true_eq, List.getD_cons_zero, List.getD_cons_succ, List.set_cons_zero, List.set_cons_succ]
    (repeat' (first | exact trivial | exact rfl | refine And.intro ?_ ?_)) <;> omega
theorem yard_eq (s : Int) : YardOfE s = RefYardOfE s := by
  by_cases h0 : s < 0
  · rw [YardOfE, RefYardOfE, if_pos h0, if_pos (.inl h0)]
  · obtain ⟨a1, a2, a3, a4, a5, a6⟩ := digs_all s (by omega)
    have hlen := digs_ok (kindF (s % 16)) (part0 s) (s / 64) rfl (by omega) fun p hp => (kindF_ok (s % 16) p hp).2.2.1
    rw [YardOfE, RefYardOfE, if_neg h0]
    generalize digs (kindF (s % 16)) (part0 s) (s / 64) = p at *
    obtain ⟨y, r⟩ := p
    simp only at *
    by_cases h1 : 8388608 ≤ s
    · rw [if_neg (show ¬ (r = 0 ∧ properB y = true) from fun h => a5 h1 h.1), if_pos (show s < 0 ∨ 8388608 ≤ s from .inr h1)]
    · rw [if_neg (show ¬ (s < 0 ∨ 8388608 ≤ s) by omega)]
      obtain ⟨k, d, x1, x2, x3, x4, x5, x6, x7, x8, rfl⟩ := ten_of y hlen.1
      simp only [List.getD_cons_zero, List.getD_cons_succ] at a3 a4 ⊢
      rw [← a3] at a1 a2
      have hf := fit_eq k d x1 x2 x3 x4 x5 x6 x7 x8 (by omega) (by omega) a1 a2
      rw [hf]
      simp only [okY, List.getD_cons_zero, List.getD_cons_succ, Bool.and_eq_true, Bool.not_eq_true', decide_eq_false_iff_not]
theorem back_eq (s : Int) (h : (YardOfE s).2 = 0) : YardStateE (YardOfE s).1 = (s, 0) := by
  unfold YardOfE at h ⊢
  by_cases h0 : s < 0
  · rw [if_pos h0] at h; cases h
  · rw [if_neg h0] at h ⊢
    obtain ⟨a1, a2, a3, a4, a5, a6⟩ := digs_all s (by omega)
    generalize digs (kindF (s % 16)) (part0 s) (s / 64) = p at *
    obtain ⟨y, r⟩ := p
    simp only at *
    split at h
    · rename_i hc
      rw [if_pos hc]
      show YardStateE y = (s, 0)
      unfold YardStateE
      rw [a3, a4, if_neg (by omega), a1, if_neg (by simp), if_pos ⟨a2, hc.2⟩, a6 hc.1]
    · cases h
theorem written_ok1 : ∀ n : Nat, n < 73 → (YardStateE (WrittenY n)).2 = 0 := by
  have h : ((List.range 73).all fun n => decide ((YardStateE (WrittenY n)).2 = 0)) = true := by decide +kernel
  exact fun n hn => of_decide_eq_true (List.all_eq_true.1 h n (List.mem_range.2 hn))
theorem written_zero : YardStateE (WrittenY 0) = (0, 0) := by decide +kernel
theorem written_eq (i : Int) : WrittenStateE i = RefWrittenStateE i := by
  unfold WrittenStateE RefWrittenStateE
  by_cases h : i < 0 ∨ 73 ≤ i
  · rw [if_pos h, if_pos h]
  · rw [if_neg h, if_neg h]
    obtain ⟨n, rfl⟩ := Int.eq_ofNat_of_zero_le (show 0 ≤ i by omega)
    have hw := written_ok1 n (by omega)
    rw [← state_eq _ (writtenY_len _)]
    split
    · rename_i h0; rw [h0, written_zero]
    · rw [← hw]
end Go.Proofs.Ytiipggfhjkalfaa
