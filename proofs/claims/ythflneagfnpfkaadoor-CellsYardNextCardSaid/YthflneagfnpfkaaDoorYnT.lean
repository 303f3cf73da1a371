/- The yard's step: the two steps are one: nets, readers, arms. -/
import Derived.Test.YthflneagfnpfkaaDoorProg
import Derived.Test.YthflneagfnpfkaaDoorPmU
import Derived.Test.YthflneagfnpfkaaDoorYnS
set_option linter.unusedSimpArgs false
set_option linter.unusedVariables false
set_option maxRecDepth 20000
open Go Go.Proofs
namespace Go.Proofs.YthflneagfnpfkaaDoor
open Pm
attribute [local irreducible] Wait CallT CallW Le Weak
theorem ok7 {y : Y} (f : OKF y) (hk : y.k = 7) : 0 ≤ y.p ∧ y.p ≤ 1 := by
  obtain ⟨k, d, s, a, b, p, q, t, r, c⟩ := y
  have i := f.i
  simp only at hk
  subst hk
  simp only [Y.l, kindF, inR, List.all_cons, List.all_nil, Bool.and_true, Bool.and_eq_true, decide_eq_true_eq, List.getD_cons_zero, List.getD_cons_succ, reduceIte, Int.reduceEq] at i
  simp only
  omega
theorem ok8 {y : Y} (f : OKF y) (hk : y.k = 8) : (y.a = 0 → y.t = 0) ∧ (y.p = 4 → y.a = 1 ∧ y.t = 2) ∧ y.t ≠ 3 ∧ 0 ≤ y.t ∧ y.t ≤ 3 := by
  obtain ⟨k, d, s, a, b, p, q, t, r, c⟩ := y
  have i := f.i
  have pr := f.p
  simp only at hk
  subst hk
  simp only [Y.l, kindF, inR, List.all_cons, List.all_nil, Bool.and_true, Bool.and_eq_true, decide_eq_true_eq, List.getD_cons_zero, List.getD_cons_succ, reduceIte, Int.reduceEq] at i
  simp only [Y.l, properB, List.getD_cons_zero, List.getD_cons_succ] at pr
  simp only
  split at pr
  · simp at pr
  · simp at pr
    omega
theorem ok10 {y : Y} (f : OKF y) (hk : y.k = 10) : y.s = 0 ∧ y.b = 0 ∧ y.q = 0 ∧ y.t = 0 ∧ y.r = 0 ∧ (y.p = 0 ∨ y.p = 1 → y.a = 0) ∧ (y.p ≠ 0 → y.p ≠ 1 → y.p = 2 ∧ (y.a = 5 ∨ 24 ≤ y.a)) ∧ y.a ≤ 96 := by
  obtain ⟨k, d, s, a, b, p, q, t, r, c⟩ := y
  have i := f.i
  have o := f.o
  have pr := f.p
  simp only at hk
  subst hk
  simp only [Y.l, kindF, inR, List.all_cons, List.all_nil, Bool.and_true, Bool.and_eq_true, decide_eq_true_eq, List.getD_cons_zero, List.getD_cons_succ, reduceIte, Int.reduceEq] at i
  simp only [Y.l, kindF, onlyL, bare, List.foldl_cons, List.foldl_nil, List.getD_cons_zero, List.getD_cons_succ, reduceIte, Int.reduceEq, List.set_cons_zero, List.set_cons_succ, List.cons.injEq, and_true, true_and] at o
  simp only [Y.l, properB, List.getD_cons_zero, List.getD_cons_succ] at pr
  simp only
  split at pr
  · simp at pr
  · simp at pr
    (repeat' split at pr) <;> first | omega | (simp at pr; omega) | (simp at pr; done)
theorem ready2_eq (y : Y) (hk : y.k = 1 ∨ y.k = 2 ∨ y.k = 3 ∨ y.k = 7 ∨ y.k = 8) (d : Int) : ready2M y d false = readyM y d := by
  unfold ready2M readyM
  rcases hk with h | h | h | h | h <;> simp [h]
theorem taken3 (v : Nb) (y : Y) (hk : y.k = 1 ∨ y.k = 2 ∨ y.k = 3 ∨ y.k = 7 ∨ y.k = 8) : takenL v y false TS = offeredM v y [opp y.d, lft y.d, rgt y.d] := by
  have h := ready2_eq y hk
  have e2 : (y.d + 2) % 4 = opp y.d := rfl
  have e1 : (y.d + 1) % 4 = lft y.d := rfl
  have e3 : (y.d + 3) % 4 = rgt y.d := rfl
  simp only [takenL, TS, offeredM, h, e1, e2, e3]
theorem off8 (v : Nb) (y : Y) (f : OKF y) (hk : y.k = 8) : offeredM v y [opp y.d, lft y.d, rgt y.d] = offeredM v y [opp y.d] := by
  have h0 := f.d0
  have h1 := f.d1
  have a1 : readyM y (lft y.d) = false := by
    simp only [readyM, hk, lft, opp]; simp; exact decide_eq_false (by omega)
  have a2 : readyM y (rgt y.d) = false := by
    simp only [readyM, hk, rgt, opp]; simp; exact decide_eq_false (by omega)
  simp [offeredM, a1, a2]
theorem side_or (y : Y) : sideM y = lft y.d ∨ sideM y = rgt y.d := by
  unfold sideM; split <;> simp
theorem taken4 (v : Nb) (y : Y) (f : OKF y) (hk : y.k = 4 ∨ y.k = 5 ∨ y.k = 6) : takenL v y false TS = offeredM v y [opp y.d] := by
  have h0 := f.d0
  have h1 := f.d1
  have hs := side_or y
  have e2 : (y.d + 2) % 4 = opp y.d := rfl
  have e1 : (y.d + 1) % 4 = lft y.d := rfl
  have e3 : (y.d + 3) % 4 = rgt y.d := rfl
  have n1 : lft y.d ≠ opp y.d := by simp only [lft, opp]; omega
  have n2 : rgt y.d ≠ opp y.d := by simp only [rgt, opp]; omega
  have n3 : opp y.d ≠ opp (sideM y) := by rcases hs with e | e <;> rw [e] <;> simp only [lft, rgt, opp] <;> omega
  have n4 : opp y.d ≠ sideM y := by rcases hs with e | e <;> rw [e] <;> simp only [lft, rgt, opp] <;> omega
  rcases hk with h | h | h <;> simp [takenL, TS, offeredM, ready2M, readyM, h, e1, e2, e3, n1, n2, n3, n4]
theorem taken4b (v : Nb) (y : Y) (f : OKF y) (hk : y.k = 4) : takenL v y true TS = offeredM v y [opp (sideM y)] := by
  have h0 := f.d0
  have h1 := f.d1
  have e2 : (y.d + 2) % 4 = opp y.d := rfl
  have e1 : (y.d + 1) % 4 = lft y.d := rfl
  have e3 : (y.d + 3) % 4 = rgt y.d := rfl
  have n1 : lft y.d ≠ opp y.d := by simp only [lft, opp]; omega
  have n2 : rgt y.d ≠ opp y.d := by simp only [rgt, opp]; omega
  have n3 : opp (lft y.d) = rgt y.d := by simp only [lft, rgt, opp]; omega
  have n4 : opp (rgt y.d) = lft y.d := by simp only [lft, rgt, opp]; omega
  have n5 : lft y.d ≠ rgt y.d := by simp only [lft, rgt]; omega
  rcases side_or y with e | e <;> simp [takenL, TS, offeredM, ready2M, readyM, hk, e1, e2, e3, e, n1, n2, n3, n4, n5, n1.symm, n2.symm, n5.symm]
theorem taken5b (v : Nb) (y : Y) (f : OKF y) (hk : y.k = 5 ∨ y.k = 6) : takenL v y true TS = offeredM v y [sideM y] := by
  have h0 := f.d0
  have h1 := f.d1
  have e2 : (y.d + 2) % 4 = opp y.d := rfl
  have e1 : (y.d + 1) % 4 = lft y.d := rfl
  have e3 : (y.d + 3) % 4 = rgt y.d := rfl
  have n1 : lft y.d ≠ opp y.d := by simp only [lft, opp]; omega
  have n2 : rgt y.d ≠ opp y.d := by simp only [rgt, opp]; omega
  have n5 : lft y.d ≠ rgt y.d := by simp only [lft, rgt]; omega
  rcases side_or y with e | e <;> rcases hk with h | h <;> simp [takenL, TS, offeredM, ready2M, readyM, h, e1, e2, e3, e, n1, n2, n5, n1.symm, n2.symm, n5.symm]
theorem gave_t (v : Nb) (y : Y) (f : OKF y) (hk : y.k = 3 ∨ y.k = 8) (h : gaveM v y y.d = true) : y.t % 2 = 0 := by
  have h0 := f.d0
  have h1 := f.d1
  have n : y.d ≠ sideM y := by rcases side_or y with e | e <;> rw [e] <;> simp only [lft, rgt] <;> omega
  simp only [gaveM, Bool.and_eq_true, decide_eq_true_eq] at h
  have h2 := h.1
  rcases hk with e | e <;> simp [offerM, e, n] at h2 <;> omega
theorem gave_s (v : Nb) (y : Y) (f : OKF y) (hk : y.k = 3) (h : gaveM v y (sideM y) = true) : y.t < 2 := by
  have h0 := f.d0
  have h1 := f.d1
  have n : sideM y ≠ y.d := by rcases side_or y with e | e <;> rw [e] <;> simp only [lft, rgt] <;> omega
  simp only [gaveM, Bool.and_eq_true, decide_eq_true_eq] at h
  have h2 := h.1
  simp [offerM, hk, n] at h2
  omega
theorem gave_ab (v : Nb) (y : Y) (hk : y.k = 5 ∨ y.k = 6) (h : ¬ (y.a ≠ 0 ∧ y.b ≠ 0)) : gaveM v y y.d = false := by
  have : offerM y y.d = 0 := by
    rcases hk with e | e <;> simp only [offerM, e] <;> simp <;> intro a b <;> exact absurd ⟨a, b⟩ h
  simp [gaveM, this]
theorem net_eq (v : Nb) (y : Y) (w : WF y) (f : OKF y) (hk : 1 ≤ y.k ∧ y.k ≤ 7) : netNx v y = netR v y := by
  have hk' : y.k = 1 ∨ y.k = 2 ∨ y.k = 3 ∨ y.k = 4 ∨ y.k = 5 ∨ y.k = 6 ∨ y.k = 7 := by omega
  have t0 := w.t0
  have t1 := w.t1
  rcases hk' with e | e | e | e | e | e | e
  · have h := taken3 v y (.inl e)
    unfold netNx netR
    rw [h]
    generalize offeredM v y [opp y.d, lft y.d, rgt y.d] = o
    obtain ⟨k, d, s, a, b, p, q, t, r, c⟩ := y
    simp only at e
    subst e
    simp
    by_cases ha : a = 0 <;> by_cases ho : o = 0 <;> simp [ha, ho]
  · have h := taken3 v y (.inr (.inl e))
    unfold netNx netR
    rw [h]
    generalize offeredM v y [opp y.d, lft y.d, rgt y.d] = o
    obtain ⟨k, d, s, a, b, p, q, t, r, c⟩ := y
    simp only at e
    subst e
    simp only [Int.reduceEq, true_or, or_true, reduceIte, false_and, ne_eq, true_and]
    split
    · rfl
    · rename_i h1
      split
      · rename_i h2; simp_all
      · rename_i h2; simp_all
  · have h := taken3 v y (.inr (.inr (.inl e)))
    have g1 := gave_t v y f (.inl e)
    have g2 := gave_s v y f e
    unfold netNx netR
    rw [h]
    generalize offeredM v y [opp y.d, lft y.d, rgt y.d] = o
    simp only [e, Int.reduceEq, or_self, reduceIte]
    split
    · rfl
    · split
      · rename_i h1 h3
        have h2 := g1 h3
        split
        · rename_i h4
          have h5 := g2 h4
          rw [if_pos (by omega)]
        · rw [show y.t - y.t % 2 + 1 = y.t + 1 by omega]
      · split
        · rename_i h4
          have h5 := g2 h4
          rw [show y.t % 2 + 2 = y.t + 2 by omega]
        · rfl
  · have h := taken4 v y f (.inl e)
    have h' := taken4b v y f e
    unfold netNx netR
    rw [h, h']
    simp [e]
  · have h := taken4 v y f (.inr (.inl e))
    have h' := taken5b v y f (.inl e)
    have g := gave_ab v y (.inl e)
    unfold netNx netR
    rw [h, h']
    simp only [e, Int.reduceEq, or_self, or_true, true_or, reduceIte]
    split
    · rename_i hh
      split
      · rfl
      · rw [if_neg hh.1, if_neg hh.2, ← e]
    · rename_i hh
      rw [g hh]
      simp
  · have h := taken4 v y f (.inr (.inr e))
    have h' := taken5b v y f (.inr e)
    have g := gave_ab v y (.inr e)
    unfold netNx netR
    rw [h, h']
    simp only [e, Int.reduceEq, or_self, or_true, true_or, reduceIte]
    split
    · rename_i hh
      split
      · rfl
      · rw [if_neg hh.1, if_neg hh.2, ← e]
    · rename_i hh
      rw [g hh]
      simp
  · have h := taken3 v y (.inr (.inr (.inr (.inl e))))
    have hp := ok7 f e
    unfold netNx netR
    rw [h]
    generalize offeredM v y [opp y.d, lft y.d, rgt y.d] = o
    obtain ⟨k, d, s, a, b, p, q, t, r, c⟩ := y
    simp only at e hp
    subst e
    simp only [Int.reduceEq, true_or, or_true, reduceIte, false_and, ne_eq, true_and]
    split
    · rfl
    · rename_i h1
      split
      · rename_i h2; simp_all
      · rename_i h2
        by_cases h3 : p = 0
        · simp [h3]
        · have : p = 1 := by omega
          simp [this]
structure OKN (v : Nb) : Prop where
  e : OKF v.e
  n : OKF v.n
  w : OKF v.w
  s : OKF v.s
theorem OKN.at {v : Nb} (h : OKN v) (d : Int) : OKF (v.at d) := by
  unfold Nb.at
  split
  · exact h.e
  · split
    · exact h.n
    · split
      · exact h.w
      · exact h.s
theorem gave8_p (v : Nb) (y : Y) (hk : y.k = 8) (h : gaveM v y y.d = true) : y.t % 2 = 0 := by
  simp only [gaveM, Bool.and_eq_true, decide_eq_true_eq] at h
  have h2 := h.1
  simp [offerM, hk] at h2
  omega
theorem reader_eq (v : Nb) (y : Y) (f : OKF y) (hk : y.k = 8) : readerNx v y = readerR v y := by
  obtain ⟨o1, o2, o3, o4, o5⟩ := ok8 f hk
  have ht := taken3 v y (by omega)
  rw [off8 v y f hk] at ht
  have hg := gave8_p v y hk
  have hc : y.a ≠ 0 → (copM v y = rcM v y) := fun ha => by
    unfold copM rcM copiesM
    refine bool_eq ?_
    simp only [decide_eq_true_eq, hk]
    constructor
    · rintro ⟨a1, a2, a3, a4⟩; exact ⟨⟨trivial, ha, by omega, a2⟩, a3, a4⟩
    · rintro ⟨⟨_, _, a1, a2⟩, a3, a4⟩; exact ⟨by omega, a2, a3, a4⟩
  have hct : copM v y = true → y.t < 2 := fun h => by
    simp only [copM, decide_eq_true_eq] at h; omega
  have hP : rdP v y = rrP v y := rfl
  have hMid : rdMid v y = rrMid v y := by
    unfold rdMid rrMid
    rw [ht, hP]
    by_cases ha : y.a = 0
    · have hp4 : y.p ≠ 4 := fun e => by have := (o2 e).1; omega
      simp only [ha, hp4, reduceIte, ne_eq, not_true_eq_false, o1 ha]
    · have hT1 : rdT1 v y = rrT1 v y := by
        unfold rdT1 rrT1 orA
        split
        · rename_i h; have := hg h; omega
        · rfl
      have b1 : 0 ≤ rrT1 v y ∧ rrT1 v y ≤ 3 ∧ (y.t < 2 → rrT1 v y < 2) := by
        unfold rrT1
        split
        · rename_i h; have := hg h; omega
        · omega
      have hT2 : rdT2 v y = rrT2 v y := by
        unfold rdT2 rrT2 orB
        rw [hT1, hc ha]
        split
        · rename_i h
          have h1 := b1.2.2 (hct (by rw [hc ha]; exact h))
          omega
        · rfl
      have b2 : 0 ≤ rrT2 v y ∧ rrT2 v y ≤ 3 := by
        unfold rrT2
        split
        · rename_i h
          have h1 := b1.2.2 (hct (by rw [hc ha]; exact h))
          omega
        · omega
      have hT3 : rdT3 v y = rrT3 v y := by
        unfold rdT3 rrT3 orB
        rw [hT2]
        by_cases h1 : fadeM v y = true <;> by_cases h2 : rrT2 v y < 2 <;> simp [h1, h2] <;> omega
      have hQ : rdQ v y = rrQ v y := by unfold rdQ rrQ; rw [hc ha]
      simp only [ha, reduceIte, ne_eq, not_false_eq_true, hT3, hQ]
  unfold readerNx readerR
  rw [hMid]
theorem from_eq (v : Nb) (y : Y) : fromArmM v [opp y.d, lft y.d, rgt y.d] = rfromL v y false TS4 := by
  have e2 : (y.d + 2) % 4 = opp y.d := rfl
  have e1 : (y.d + 1) % 4 = lft y.d := rfl
  have e3 : (y.d + 3) % 4 = rgt y.d := rfl
  have ap : ∀ d, ((v.at d).k = 9 ∧ pointsM v d = true ∧ (v.at d).a ≠ 0) = ((v.at d).k = 9 ∧ aimsM v d = true ∧ (v.at d).a ≠ 0) := fun d => by
    refine propext ⟨fun ⟨a, b, c⟩ => ⟨a, ?_, c⟩, fun ⟨a, b, c⟩ => ⟨a, ?_, c⟩⟩
    · simp only [pointsM, Bool.and_eq_true] at b; exact b.2
    · simp only [pointsM, hasDirM, Bool.and_eq_true, decide_eq_true_eq]; exact ⟨by omega, by simpa [aimsM] using b⟩
  simp only [fromArmM, rfromL, TS4, e1, e2, e3, ap]
  simp
theorem fromL_eq (v : Nb) (y : Y) (f : OKF y) : heardL v y = rfromL v y true TS4 := by
  have e2 : (y.d + 2) % 4 = opp y.d := rfl
  have e1 : (y.d + 1) % 4 = lft y.d := rfl
  have e3 : (y.d + 3) % 4 = rgt y.d := rfl
  have e0 : (y.d + 0) % 4 = y.d := by have := f.d0; have := f.d1; omega
  have ap : ∀ d, ((v.at d).k = 9 ∧ pointsM v d = true ∧ (v.at d).a ≠ 0) = ((v.at d).k = 9 ∧ aimsM v d = true ∧ (v.at d).a ≠ 0) := fun d => by
    refine propext ⟨fun ⟨a, b, c⟩ => ⟨a, ?_, c⟩, fun ⟨a, b, c⟩ => ⟨a, ?_, c⟩⟩
    · simp only [pointsM, Bool.and_eq_true] at b; exact b.2
    · simp only [pointsM, hasDirM, Bool.and_eq_true, decide_eq_true_eq]; exact ⟨by omega, by simpa [aimsM] using b⟩
  simp only [heardL, fromArmM, rfromL, TS4, e0, e1, e2, e3, ap]
  simp
theorem arm_eq (v : Nb) (y : Y) (w : WF y) (hv : OKN v) : armNx v y = armR v y := by
  have hQ : armQ v y = armQR v y := by
    unfold armQ armQR alongM backM
    simp
  have hA : armA v y = armAR v y := by
    unfold armA armAR
    by_cases ha : y.a = 0
    · have r0 := w.r0
      have r1 := w.r1
      rw [from_eq]
      by_cases hr : y.r = 0
      · simp [ha, hr]
      · have : y.r = 1 := by omega
        simp only [ha, this, reduceIte, ne_eq, not_true_eq_false, Int.reduceEq]
        have ho := hv.at (opp y.d)
        generalize v.at (opp y.d) = g at ho
        by_cases hk : g.k = 8
        · obtain ⟨o1, o2, o3, o4, o5⟩ := ok8 ho hk
          have : (g.k = 8 ∧ sideM g = y.d ∧ g.p ≠ 4 ∧ g.a ≠ 0 ∧ g.t - g.t % 2 = 0 ∧ g.q ≠ 0) = (copiesM g = true ∧ sideM g = y.d) := by
            refine propext ⟨fun ⟨a1, a2, a3, a4, a5, a6⟩ => ⟨?_, a2⟩, fun ⟨b1, b2⟩ => ?_⟩
            · simp only [copiesM, decide_eq_true_eq]; exact ⟨a1, a4, by omega, a6⟩
            · simp only [copiesM, decide_eq_true_eq] at b1
              exact ⟨hk, b2, fun e => by have := (o2 e).2; omega, b1.2.1, by omega, b1.2.2.2⟩
          simp only [this]
        · have : copiesM g = false := by simp [copiesM, hk]
          simp [hk, this]
    · simp only [ha, ne_eq, not_false_eq_true, reduceIte]
      have : (alongM v y = true ∧ (v.at y.d).r = 0 ∧ (v.at y.d).a = 0) = ((v.at y.d).k = 9 ∧ (v.at y.d).r = 0 ∧ (v.at y.d).a = 0 ∧ backM v y = false) := by
        unfold alongM backM
        refine propext ?_
        simp only [decide_eq_true_eq, decide_eq_false_iff_not, ne_eq]
        constructor
        · rintro ⟨⟨a, b⟩, c, d⟩; exact ⟨a, c, d, b⟩
        · rintro ⟨a, c, d, b⟩; exact ⟨⟨a, b⟩, c, d⟩
      simp only [this]
  unfold armNx armR
  rw [hA, hQ]
theorem stM_14 : stM ⟨14, 0, 0, 0, 0, 0, 0, 0, 0, 0⟩ = 14 := by decide +kernel
theorem stM_zero : stM zeroY = 0 := by decide +kernel
theorem port_eq (v : Nb) (y : Y) : portNx v y = stM (portR v y) := by
  unfold portNx portR
  rw [from_eq]
  split
  · rfl
  · split
    · rfl
    · split
      · split
        · rw [stM_14]
        · rfl
      · rfl
theorem come_eq (v : Nb) (d : Int) : comeM v d = comeR v d := by
  unfold comeM comeR pointsM aimsM hasDirM
  refine bool_eq ?_
  simp only [Bool.and_eq_true, decide_eq_true_eq]
  omega
theorem void_eq (v : Nb) : voidNx v = stM (voidR v) := by
  have hc : ∀ n, cntN v n = cntR v n := fun n => by
    induction n with
    | zero => rfl
    | succ n ih => simp only [cntN, cntR, come_eq, ih]
  have hf : ∀ n, cntR v n ≠ 0 → voidY (frmN v n) = frmR v n := fun n => by
    induction n with
    | zero => intro h; exact absurd rfl h
    | succ n ih =>
      intro h
      simp only [frmN, frmR, come_eq]
      simp only [cntR] at h
      by_cases hh : comeR v n = true
      · rw [if_pos hh, if_pos hh]
        simp only [comeR, Bool.and_eq_true, decide_eq_true_eq] at hh
        unfold voidY bornR
        rcases hh.1 with e | e <;> simp [e]
      · rw [if_neg hh] at h ⊢
        rw [if_neg hh]
        exact ih h
  unfold voidNx voidR
  rw [hc]
  split
  · rename_i h
    rw [hf 4 (by omega)]
  · rw [stM_zero]
theorem written_back (i : Int) : stM (yOf (WrittenStateE i).1) = (WrittenStateE i).1 := by
  unfold WrittenStateE
  split
  · decide +kernel
  · rename_i h
    have h1 := written_ok1 i.toNat (by omega)
    rw [show ((i.toNat : Nat) : Int) = i by omega] at h1
    have hl := writtenY_len i
    have ho : OKY (Y.of (WrittenY i)) := by unfold OKY; rw [l_of _ hl]; exact h1
    have := (trip ho).1
    unfold stM at this ⊢
    rw [l_of _ hl] at this
    rw [this, l_of _ hl]
theorem rets_eq (v : Nb) : ∀ n, retsN v n = rretsN v n
  | 0 => rfl
  | n + 1 => by
    have : retK' v n = rretK v n := by
      unfold retK' rretK pointsM aimsM hasDirM
      refine bool_eq ?_
      simp only [Bool.and_eq_true, decide_eq_true_eq]
      omega
    simp only [retsN, rretsN, rets_eq v n, this]
theorem roots_eq (v : Nb) : ∀ n, rootsN v n = rrootsN v n
  | 0 => rfl
  | n + 1 => by
    have : rootK v n = rrootK v n := by
      unfold rootK rrootK pointsM aimsM hasDirM
      refine bool_eq ?_
      simp only [Bool.and_eq_true, decide_eq_true_eq]
      omega
    simp only [rootsN, rrootsN, roots_eq v n, this]
theorem head_eq (v : Nb) (y : Y) (f : OKF y) (hk : y.k = 10) : headNx v y = stM (headR v y) := by
  obtain ⟨o1, o2, o3, o4, o5, o6, o7, o8⟩ := ok10 f hk
  have hF := fromL_eq v y f
  have hW := written_back (y.a - 24)
  obtain ⟨k, d, s, a, b, p, q, t, r, c⟩ := y
  simp only at hk o1 o2 o3 o4 o5 o6 o7 o8 hW
  subst hk o1 o2 o3 o4 o5
  unfold headNx headR
  rw [hF, rets4, roots4, rets_eq, roots_eq]
  generalize rfromL v ⟨10, d, 0, a, 0, p, 0, 0, 0, c⟩ true TS4 = s
  by_cases h0 : p = 0
  · subst h0
    have := o6 (.inl rfl)
    subst this
    simp only [reduceIte, headY]
  · by_cases h1 : p = 1
    · subst h1
      have := o6 (.inr rfl)
      subst this
      simp only [Int.reduceEq, reduceIte, headMid, midR, headY]
      by_cases a1 : s = 0
      · simp only [a1, reduceIte]
      · by_cases a2 : 8 ≤ s ∧ s < 24
        · simp only [a1, a2, and_self, reduceIte]
        · by_cases a3 : s = 6
          · subst a3; simp [a1]
          · by_cases a4 : s = 7
            · subst a4; simp [a1]
            · by_cases a5 : s = 5 ∨ 24 ≤ s
              · simp only [a1, a2, a3, a4, a5, reduceIte]
              · by_cases a6 : s = 3
                · subst a6; simp [a1]
                · by_cases a7 : s = 2
                  · subst a7; simp [a1, stM_14]
                  · simp only [a1, a2, a3, a4, a5, a6, a7, reduceIte]
    · have hp := (o7 h0 h1).1
      subst hp
      simp only [Int.reduceEq, reduceIte, headY, wrY]
      by_cases a1 : a = 5
      · simp only [a1, reduceIte]
        by_cases a2 : (v.at d).k = 0
        · simp only [a2, reduceIte]
        · simp only [a2, reduceIte, stM_14]
      · simp only [a1, reduceIte]
        by_cases a2 : rretsN v 4 = true
        · simp only [a2, reduceIte, ← written_eq, hW]
        · by_cases a3 : rrootsN v 4 = true
          · simp only [a2, a3, reduceIte, Bool.false_eq_true]
          · simp only [a2, a3, reduceIte, Bool.false_eq_true]
theorem next_eq (v : Nb) (y : Y) (w : WF y) (f : OKF y) (hv : OKN v) : nextM v y = stM (nextR v y) := by
  have k0 := f.k0
  have k1 := f.k1
  unfold nextM nextR
  by_cases e0 : y.k = 0
  · simp only [e0, reduceIte]; exact void_eq v
  · by_cases en : 1 ≤ y.k ∧ y.k ≤ 7
    · rw [if_neg e0, if_neg (by omega), if_neg (by omega), if_neg (by omega), if_neg (by omega), if_neg (by omega), if_neg (by omega), if_neg (by omega), if_neg (by omega), if_neg e0, if_pos (by omega), net_eq v y w f en]
    · by_cases e8 : y.k = 8
      · simp only [e8, Int.reduceEq, or_self, reduceIte, reader_eq v y f e8]
      · by_cases e9 : y.k = 9
        · simp only [e9, Int.reduceEq, or_self, reduceIte, arm_eq v y w hv]
        · by_cases e10 : y.k = 10
          · simp only [e10, Int.reduceEq, or_self, reduceIte, head_eq v y f e10]
          · by_cases e11 : y.k = 11
            · simp only [e11, Int.reduceEq, or_self, reduceIte]
            · by_cases e12 : y.k = 12
              · simp only [e12, Int.reduceEq, or_self, reduceIte]
              · by_cases e13 : y.k = 13
                · simp only [e13, Int.reduceEq, or_self, reduceIte, port_eq v y]
                · by_cases e14 : y.k = 14
                  · simp only [e14, Int.reduceEq, or_self, reduceIte, stM_zero]
                  · have : y.k = 15 := by omega
                    simp only [this, Int.reduceEq, or_self, reduceIte]
end Go.Proofs.YthflneagfnpfkaaDoor
