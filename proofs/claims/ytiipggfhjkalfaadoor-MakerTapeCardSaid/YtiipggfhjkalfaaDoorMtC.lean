/- Tapes: how the document spells them. -/
import Derived.Test.YtiipggfhjkalfaaDoorProg
import Derived.Test.YtiipggfhjkalfaaDoorPmU
import Derived.Test.YtiipggfhjkalfaaDoorMtB
set_option linter.unusedSimpArgs false
set_option linter.unusedVariables false
set_option maxRecDepth 20000
open Go Go.Proofs
namespace Go.Proofs.YtiipggfhjkalfaaDoor
open Pm
attribute [local irreducible] Wait CallT CallW Le Weak
open Mt
def okB (x : Int) : Bool := decide (1 ≤ x) && decide (x < 97)
def wB (x : Int) : List UInt8 := wordB x.toNat
theorem wordI_pc (x : Int) (h : okB x = true) : PCon Tryd.prog 17 [iA x] (· = sA (wB x)) := by
  simp only [okB, Bool.and_eq_true, decide_eq_true_eq] at h
  have := word_pc (x.toNat - 1) (by omega)
  rwa [show (((x.toNat - 1 + 1 : Nat)) : Int) = x by omega, show x.toNat - 1 + 1 = x.toNat by omega] at this
theorem wB_len (x : Int) (h : okB x = true) : (wB x).length ≤ 6 := by
  simp only [okB, Bool.and_eq_true, decide_eq_true_eq] at h
  have := word_len (x.toNat - 1) (by omega)
  rwa [show x.toNat - 1 + 1 = x.toNat by omega] at this
def joinB (t : List Int) : List UInt8 := Go.Lib.join (t.map wB) [32]
def spellE (t : List Int) : Option (List UInt8) := if t.length = 0 ∨ 4096 < t.length then none else if t.all okB = true then some (joinB t ++ [10]) else none
def spellA : Option (List UInt8) → AV
  | some l => .tup [sA l, iA 0]
  | none => .tup [sA [], iA 71]
theorem join_snoc (l : List (List UInt8)) (x : List UInt8) : Go.Lib.join (l ++ [x]) [32] = if l = [] then x else Go.Lib.join l [32] ++ 32 :: x := by
  cases l with
  | nil => simp [Go.Lib.join_one]
  | cons y r =>
    rw [if_neg (by simp), List.cons_append, Go.Lib.join_cons, Go.Lib.join_cons]
    simp [Go.Lib.joinTail]
theorem join_le (l : List (List UInt8)) (h : ∀ w ∈ l, w.length ≤ 6) : (Go.Lib.join l [32]).length ≤ 7 * l.length := by
  induction l with
  | nil => simp [Go.Lib.join_nil]
  | cons x r ih =>
    cases r with
    | nil =>
      rw [Go.Lib.join_one]
      have := h x (by simp)
      simp
      omega
    | cons y r =>
      rw [join_two]
      have h1 := h x (by simp)
      have h2 := ih (fun w hw => h w (by simp [hw]))
      simp only [List.length_append, List.length_cons] at h2 ⊢
      omega
theorem take_snoc (t : List Int) (k : Nat) (h : k < t.length) : t.take (k + 1) = t.take k ++ [t.getD k 0] := by
  rw [List.take_add_one, List.getElem?_eq_getElem h]
  simp [List.getD_eq_getElem?_getD, h]
theorem joinB_step (t : List Int) (k : Nat) (h : k < t.length) : joinB (t.take (k + 1)) = if k = 0 then wB (t.getD k 0) else joinB (t.take k) ++ 32 :: wB (t.getD k 0) := by
  unfold joinB
  rw [take_snoc t k h, List.map_append, List.map_cons, List.map_nil, join_snoc]
  have : ((t.take k).map wB = []) ↔ k = 0 := by
    rw [List.map_eq_nil_iff, List.take_eq_nil_iff]
    constructor
    · rintro (h1 | h1)
      · exact h1
      · subst h1; simp at h
    · intro h1; exact .inl h1
  by_cases hk : k = 0
  · rw [if_pos (this.2 hk), if_pos hk]
  · rw [if_neg (fun e => hk (this.1 e)), if_neg hk]
theorem joinB_le (t : List Int) (k : Nat) (hk : k ≤ 4096) (h : ∀ x ∈ t.take k, okB x = true) : (joinB (t.take k)).length ≤ 28672 := by
  unfold joinB
  have := join_le ((t.take k).map wB) (by
    intro w hw
    obtain ⟨x, hx, rfl⟩ := List.mem_map.1 hw
    exact wB_len x (h x hx))
  rw [List.length_map, List.length_take] at this
  omega
theorem spellE_bad {t : List Int} (h : t.all okB = false) : spellE t = none := by unfold spellE; rw [h]; simp
theorem spellE_ok {t : List Int} (h0 : ¬(t.length = 0 ∨ 4096 < t.length)) (h : t.all okB = true) : spellE t = some (joinB t ++ [10]) := by unfold spellE; rw [if_neg h0, h, if_pos rfl]
theorem joinB_nil : joinB [] = [] := rfl
theorem refSpell_pc (t : List Int) (hm : t.length < 9223372036854775808) : PCon Tryd.prog 5 [tA t] (· = spellA (spellE t)) := by
  refine pcon_run 1000 Tryd.func5 rfl Tryd.results5 Tryd.ntmps5 (Nat.le_of_ble_eq_true rfl) ?_
  by_cases h0 : t.length = 0 ∨ 4096 < t.length
  · have : spellE t = none := if_pos h0
    rcases Nat.eq_zero_or_pos t.length with h1 | h1
    · have e1 : ((t.length : Int) = 0) = True := eq_true (by omega)
      simp (maxSteps := 1000000) -implicitDefEqProofs only [go_sem, ↓reduceIte, reduceCtorEq, Nat.reduceEqDiff, Nat.reduceLT, Nat.reduceAdd, Nat.reduceLeDiff, Nat.reduceMul, Nat.reduceSub, Nat.reduceDiv, Nat.reduceMod, Int.reduceToNat, Int.reduceLT, Int.reduceLE, Int.reduceEq, Int.reduceAdd, Int.reduceSub, Int.reduceMul, Int.reduceNeg, Int.reduceTMod, Int.reduceTDiv, Int.reduceMod, Int.reduceDiv, Int.reduceBEq, Int.reduceBNe, Nat.reduceBEq, tA, e1]
      simp [this, spellA, sA, iA, fz_tup, fz_v, fzL_cons, fzL_nil]
    · have e1 : ((t.length : Int) = 0) = False := eq_false (by omega)
      have e2 : (4096 < (t.length : Int)) = True := eq_true (by omega)
      simp (maxSteps := 1000000) -implicitDefEqProofs only [go_sem, ↓reduceIte, reduceCtorEq, Nat.reduceEqDiff, Nat.reduceLT, Nat.reduceAdd, Nat.reduceLeDiff, Nat.reduceMul, Nat.reduceSub, Nat.reduceDiv, Nat.reduceMod, Int.reduceToNat, Int.reduceLT, Int.reduceLE, Int.reduceEq, Int.reduceAdd, Int.reduceSub, Int.reduceMul, Int.reduceNeg, Int.reduceTMod, Int.reduceTDiv, Int.reduceMod, Int.reduceDiv, Int.reduceBEq, Int.reduceBNe, Nat.reduceBEq, tA, e1, e2]
      simp [this, spellA, sA, iA, fz_tup, fz_v, fzL_cons, fzL_nil]
  · have e1 : ((t.length : Int) = 0) = False := eq_false (by omega)
    have e2 : (4096 < (t.length : Int)) = False := eq_false (by omega)
    simp (maxSteps := 1000000) -implicitDefEqProofs only [go_sem, ↓reduceIte, reduceCtorEq, Nat.reduceEqDiff, Nat.reduceLT, Nat.reduceAdd, Nat.reduceLeDiff, Nat.reduceMul, Nat.reduceSub, Nat.reduceDiv, Nat.reduceMod, Int.reduceToNat, Int.reduceLT, Int.reduceLE, Int.reduceEq, Int.reduceAdd, Int.reduceSub, Int.reduceMul, Int.reduceNeg, Int.reduceTMod, Int.reduceTDiv, Int.reduceMod, Int.reduceDiv, Int.reduceBEq, Int.reduceBNe, Nat.reduceBEq, tA, e1, e2]
    refine wait_range t.length (fun k => ⟨45, 0, [(0, tA t), (4, sA (joinB (t.take k))), (5, .v (.int .i64 k))], []⟩)
      (fun k => ((t.drop k).all okB = t.all okB) ∧ ∀ x ∈ t.take k, okB x = true) (weak_to [0, 4, 5] [] ?_ (by simp) (fun i h => by cases h)) ⟨rfl, by simp⟩ ?_
    · simp (maxSteps := 1000000) -implicitDefEqProofs only [go_sem, ↓reduceIte, reduceCtorEq, Nat.reduceEqDiff, Nat.reduceLT, Nat.reduceAdd, Nat.reduceLeDiff, Nat.reduceMul, Nat.reduceSub, Nat.reduceDiv, Nat.reduceMod, Int.reduceToNat, Int.reduceLT, Int.reduceLE, Int.reduceEq, Int.reduceAdd, Int.reduceSub, Int.reduceMul, Int.reduceNeg, Int.reduceTMod, Int.reduceTDiv, Int.reduceMod, Int.reduceDiv, Int.reduceBEq, Int.reduceBNe, Nat.reduceBEq, St.keep, Int.natCast_zero, tA, sA, joinB_nil]
    · intro k hk ⟨hp, hq⟩
      refine run_sound 1000 _ _ ?_
      have hjl := joinB_le t k (by omega) hq
      by_cases hk1 : k < t.length
      · have hlt : ((k : Int) < (t.length : Int)) = True := eq_true (by omega)
        have hw2 : IntKind.i64.wrap ((k : Int) + 1) = ((k + 1 : Nat) : Int) := by rw [wrap64 (by omega) (by omega)]; omega
        have g3 := get_tA t k (by omega)
        have hstep := joinB_step t k hk1
        rw [all_step _ _ hk1] at hp
        cases hx : okB (t.getD k 0) with
        | false =>
          rw [hx, Bool.false_and] at hp
          have hs := spellE_bad hp.symm
          simp only [okB, Bool.and_eq_false_iff, decide_eq_false_iff_not] at hx
          by_cases hx1 : t.getD k 0 < 1
          · have f1 : (t.getD k 0 < 1) = True := eq_true hx1
            simp (maxSteps := 1000000) -implicitDefEqProofs only [go_sem, ↓reduceIte, reduceCtorEq, Nat.reduceEqDiff, Nat.reduceLT, Nat.reduceAdd, Nat.reduceLeDiff, Nat.reduceMul, Nat.reduceSub, Nat.reduceDiv, Nat.reduceMod, Int.reduceToNat, Int.reduceLT, Int.reduceLE, Int.reduceEq, Int.reduceAdd, Int.reduceSub, Int.reduceMul, Int.reduceNeg, Int.reduceTMod, Int.reduceTDiv, Int.reduceMod, Int.reduceDiv, Int.reduceBEq, Int.reduceBNe, Nat.reduceBEq, tA, sA, hlt, g3, f1]
            rw [hs]; rfl
          · have f1 : (t.getD k 0 < 1) = False := eq_false hx1
            have f2 : (97 ≤ t.getD k 0) = True := eq_true (by omega)
            simp (maxSteps := 1000000) -implicitDefEqProofs only [go_sem, ↓reduceIte, reduceCtorEq, Nat.reduceEqDiff, Nat.reduceLT, Nat.reduceAdd, Nat.reduceLeDiff, Nat.reduceMul, Nat.reduceSub, Nat.reduceDiv, Nat.reduceMod, Int.reduceToNat, Int.reduceLT, Int.reduceLE, Int.reduceEq, Int.reduceAdd, Int.reduceSub, Int.reduceMul, Int.reduceNeg, Int.reduceTMod, Int.reduceTDiv, Int.reduceMod, Int.reduceDiv, Int.reduceBEq, Int.reduceBNe, Nat.reduceBEq, tA, sA, hlt, g3, f1, f2]
            rw [hs]; rfl
        | true =>
          rw [hx, Bool.true_and] at hp
          have hc := wordI_pc _ hx
          have hl6 := wB_len _ hx
          have hq' : ∀ x ∈ t.take (k + 1), okB x = true := by
            intro x hx'
            rw [take_snoc t k hk1, List.mem_append, List.mem_singleton] at hx'
            rcases hx' with h | rfl
            · exact hq x h
            · exact hx
          simp only [okB, Bool.and_eq_true, decide_eq_true_eq] at hx
          have f1 : (t.getD k 0 < 1) = False := eq_false (by omega)
          have f2 : (97 ≤ t.getD k 0) = False := eq_false (by omega)
          by_cases hk0 : k = 0
          · have f3 : (0 < (k : Int)) = False := eq_false (by omega)
            have j0 : joinB (t.take k) = [] := by rw [hk0]; rfl
            rw [if_pos hk0] at hstep
            have c2 := cat_ok 0 (wB (t.getD k 0)).length (by omega)
            rw [Nat.zero_add] at c2
            simp (maxSteps := 1000000) -implicitDefEqProofs only [go_sem, ↓reduceIte, reduceCtorEq, Nat.reduceEqDiff, Nat.reduceLT, Nat.reduceAdd, Nat.reduceLeDiff, Nat.reduceMul, Nat.reduceSub, Nat.reduceDiv, Nat.reduceMod, Int.reduceToNat, Int.reduceLT, Int.reduceLE, Int.reduceEq, Int.reduceAdd, Int.reduceSub, Int.reduceMul, Int.reduceNeg, Int.reduceTMod, Int.reduceTDiv, Int.reduceMod, Int.reduceDiv, Int.reduceBEq, Int.reduceBNe, Nat.reduceBEq, tA, sA, hlt, g3, f1, f2, f3, j0]
            (repeat' (first | exact trivial | contradiction | refine And.intro ?_ ?_ | (show (_ : Nat) ≤ _; omega) | (show (_ : Nat) < _; omega) | (show (_ : Int) ≤ _; omega) | (show (_ : Int) < _; omega)  | (refine wait_draw 1000 mixed (by decide +kernel) ?_; simp (maxSteps := 1000000) -implicitDefEqProofs only [go_sem, ↓reduceIte, reduceCtorEq, Nat.reduceEqDiff, Nat.reduceLT, Nat.reduceAdd, Nat.reduceLeDiff, Nat.reduceMul, Nat.reduceSub, Nat.reduceDiv, Nat.reduceMod, Int.reduceToNat, Int.reduceLT, Int.reduceLE, Int.reduceEq, Int.reduceAdd, Int.reduceSub, Int.reduceMul, Int.reduceNeg, Int.reduceTMod, Int.reduceTDiv, Int.reduceMod, Int.reduceDiv, Int.reduceBEq, Int.reduceBNe, Nat.reduceBEq, tA, sA, hlt, g3, f1, f2, f3, j0, c2]) | (refine call_eq 1000 ((show PCon Tryd.prog 17 [.v (.int .i64 (t.getD k 0))] _ from hc)) ?_ ?_ rfl; (focus (simp (maxSteps := 1000000) -implicitDefEqProofs only [go_sem, ↓reduceIte, reduceCtorEq, Nat.reduceEqDiff, Nat.reduceLT, Nat.reduceAdd, Nat.reduceLeDiff, Nat.reduceMul, Nat.reduceSub, Nat.reduceDiv, Nat.reduceMod, Int.reduceToNat, Int.reduceLT, Int.reduceLE, Int.reduceEq, Int.reduceAdd, Int.reduceSub, Int.reduceMul, Int.reduceNeg, Int.reduceTMod, Int.reduceTDiv, Int.reduceMod, Int.reduceDiv, Int.reduceBEq, Int.reduceBNe, Nat.reduceBEq, tA, sA, hlt, g3, f1, f2, f3, j0, c2]; done)); simp (maxSteps := 1000000) -implicitDefEqProofs only [go_sem, ↓reduceIte, reduceCtorEq, Nat.reduceEqDiff, Nat.reduceLT, Nat.reduceAdd, Nat.reduceLeDiff, Nat.reduceMul, Nat.reduceSub, Nat.reduceDiv, Nat.reduceMod, Int.reduceToNat, Int.reduceLT, Int.reduceLE, Int.reduceEq, Int.reduceAdd, Int.reduceSub, Int.reduceMul, Int.reduceNeg, Int.reduceTMod, Int.reduceTDiv, Int.reduceMod, Int.reduceDiv, Int.reduceBEq, Int.reduceBNe, Nat.reduceBEq, tA, sA, hlt, g3, f1, f2, f3, j0, c2]) | (refine call_draw 1000 ((show PCon Tryd.prog 17 [.v (.int .i64 (t.getD k 0))] _ from hc)) ?_ ?_; (focus (simp (maxSteps := 1000000) -implicitDefEqProofs only [go_sem, ↓reduceIte, reduceCtorEq, Nat.reduceEqDiff, Nat.reduceLT, Nat.reduceAdd, Nat.reduceLeDiff, Nat.reduceMul, Nat.reduceSub, Nat.reduceDiv, Nat.reduceMod, Int.reduceToNat, Int.reduceLT, Int.reduceLE, Int.reduceEq, Int.reduceAdd, Int.reduceSub, Int.reduceMul, Int.reduceNeg, Int.reduceTMod, Int.reduceTDiv, Int.reduceMod, Int.reduceDiv, Int.reduceBEq, Int.reduceBNe, Nat.reduceBEq, tA, sA, hlt, g3, f1, f2, f3, j0, c2]; done)); simp (maxSteps := 1000000) -implicitDefEqProofs only [go_sem, ↓reduceIte, reduceCtorEq, Nat.reduceEqDiff, Nat.reduceLT, Nat.reduceAdd, Nat.reduceLeDiff, Nat.reduceMul, Nat.reduceSub, Nat.reduceDiv, Nat.reduceMod, Int.reduceToNat, Int.reduceLT, Int.reduceLE, Int.reduceEq, Int.reduceAdd, Int.reduceSub, Int.reduceMul, Int.reduceNeg, Int.reduceTMod, Int.reduceTDiv, Int.reduceMod, Int.reduceDiv, Int.reduceBEq, Int.reduceBNe, Nat.reduceBEq, tA, sA, hlt, g3, f1, f2, f3, j0, c2]) | intro _))
            all_goals first | omega | assumption | exact hq' _ (by assumption) | ((refine weak_to [0, 4, 5] [] ?_ (by simp) (fun i h => by cases h); simp (maxSteps := 1000000) -implicitDefEqProofs only [go_sem, ↓reduceIte, reduceCtorEq, Nat.reduceEqDiff, Nat.reduceLT, Nat.reduceAdd, Nat.reduceLeDiff, Nat.reduceMul, Nat.reduceSub, Nat.reduceDiv, Nat.reduceMod, Int.reduceToNat, Int.reduceLT, Int.reduceLE, Int.reduceEq, Int.reduceAdd, Int.reduceSub, Int.reduceMul, Int.reduceNeg, Int.reduceTMod, Int.reduceTDiv, Int.reduceMod, Int.reduceDiv, Int.reduceBEq, Int.reduceBNe, Nat.reduceBEq, St.keep, hw2, tA, sA, hstep]; done))
          · have f3 : (0 < (k : Int)) = True := eq_true (by omega)
            rw [if_neg hk0] at hstep
            have c1 := cat_ok (joinB (t.take k)).length 1 (by omega)
            have c2 := cat_ok (joinB (t.take k) ++ [32]).length (wB (t.getD k 0)).length (by rw [List.length_append, List.length_singleton]; omega)
            simp (maxSteps := 1000000) -implicitDefEqProofs only [go_sem, ↓reduceIte, reduceCtorEq, Nat.reduceEqDiff, Nat.reduceLT, Nat.reduceAdd, Nat.reduceLeDiff, Nat.reduceMul, Nat.reduceSub, Nat.reduceDiv, Nat.reduceMod, Int.reduceToNat, Int.reduceLT, Int.reduceLE, Int.reduceEq, Int.reduceAdd, Int.reduceSub, Int.reduceMul, Int.reduceNeg, Int.reduceTMod, Int.reduceTDiv, Int.reduceMod, Int.reduceDiv, Int.reduceBEq, Int.reduceBNe, Nat.reduceBEq, tA, sA, hlt, g3, f1, f2, f3, c1]
            (repeat' (first | exact trivial | contradiction | refine And.intro ?_ ?_ | (show (_ : Nat) ≤ _; omega) | (show (_ : Nat) < _; omega) | (show (_ : Int) ≤ _; omega) | (show (_ : Int) < _; omega)  | (refine wait_draw 1000 mixed (by decide +kernel) ?_; simp (maxSteps := 1000000) -implicitDefEqProofs only [go_sem, ↓reduceIte, reduceCtorEq, Nat.reduceEqDiff, Nat.reduceLT, Nat.reduceAdd, Nat.reduceLeDiff, Nat.reduceMul, Nat.reduceSub, Nat.reduceDiv, Nat.reduceMod, Int.reduceToNat, Int.reduceLT, Int.reduceLE, Int.reduceEq, Int.reduceAdd, Int.reduceSub, Int.reduceMul, Int.reduceNeg, Int.reduceTMod, Int.reduceTDiv, Int.reduceMod, Int.reduceDiv, Int.reduceBEq, Int.reduceBNe, Nat.reduceBEq, tA, sA, hlt, g3, f1, f2, f3, c1, c2]) | (refine call_eq 1000 ((show PCon Tryd.prog 17 [.v (.int .i64 (t.getD k 0))] _ from hc)) ?_ ?_ rfl; (focus (simp (maxSteps := 1000000) -implicitDefEqProofs only [go_sem, ↓reduceIte, reduceCtorEq, Nat.reduceEqDiff, Nat.reduceLT, Nat.reduceAdd, Nat.reduceLeDiff, Nat.reduceMul, Nat.reduceSub, Nat.reduceDiv, Nat.reduceMod, Int.reduceToNat, Int.reduceLT, Int.reduceLE, Int.reduceEq, Int.reduceAdd, Int.reduceSub, Int.reduceMul, Int.reduceNeg, Int.reduceTMod, Int.reduceTDiv, Int.reduceMod, Int.reduceDiv, Int.reduceBEq, Int.reduceBNe, Nat.reduceBEq, tA, sA, hlt, g3, f1, f2, f3, c1, c2]; done)); simp (maxSteps := 1000000) -implicitDefEqProofs only [go_sem, ↓reduceIte, reduceCtorEq, Nat.reduceEqDiff, Nat.reduceLT, Nat.reduceAdd, Nat.reduceLeDiff, Nat.reduceMul, Nat.reduceSub, Nat.reduceDiv, Nat.reduceMod, Int.reduceToNat, Int.reduceLT, Int.reduceLE, Int.reduceEq, Int.reduceAdd, Int.reduceSub, Int.reduceMul, Int.reduceNeg, Int.reduceTMod, Int.reduceTDiv, Int.reduceMod, Int.reduceDiv, Int.reduceBEq, Int.reduceBNe, Nat.reduceBEq, tA, sA, hlt, g3, f1, f2, f3, c1, c2]) | (refine call_draw 1000 ((show PCon Tryd.prog 17 [.v (.int .i64 (t.getD k 0))] _ from hc)) ?_ ?_; (focus (simp (maxSteps := 1000000) -implicitDefEqProofs only [go_sem, ↓reduceIte, reduceCtorEq, Nat.reduceEqDiff, Nat.reduceLT, Nat.reduceAdd, Nat.reduceLeDiff, Nat.reduceMul, Nat.reduceSub, Nat.reduceDiv, Nat.reduceMod, Int.reduceToNat, Int.reduceLT, Int.reduceLE, Int.reduceEq, Int.reduceAdd, Int.reduceSub, Int.reduceMul, Int.reduceNeg, Int.reduceTMod, Int.reduceTDiv, Int.reduceMod, Int.reduceDiv, Int.reduceBEq, Int.reduceBNe, Nat.reduceBEq, tA, sA, hlt, g3, f1, f2, f3, c1, c2]; done)); simp (maxSteps := 1000000) -implicitDefEqProofs only [go_sem, ↓reduceIte, reduceCtorEq, Nat.reduceEqDiff, Nat.reduceLT, Nat.reduceAdd, Nat.reduceLeDiff, Nat.reduceMul, Nat.reduceSub, Nat.reduceDiv, Nat.reduceMod, Int.reduceToNat, Int.reduceLT, Int.reduceLE, Int.reduceEq, Int.reduceAdd, Int.reduceSub, Int.reduceMul, Int.reduceNeg, Int.reduceTMod, Int.reduceTDiv, Int.reduceMod, Int.reduceDiv, Int.reduceBEq, Int.reduceBNe, Nat.reduceBEq, tA, sA, hlt, g3, f1, f2, f3, c1, c2]) | intro _))
            all_goals first | omega | assumption | exact hq' _ (by assumption) | ((refine weak_to [0, 4, 5] [] ?_ (by simp) (fun i h => by cases h); simp (maxSteps := 1000000) -implicitDefEqProofs only [go_sem, ↓reduceIte, reduceCtorEq, Nat.reduceEqDiff, Nat.reduceLT, Nat.reduceAdd, Nat.reduceLeDiff, Nat.reduceMul, Nat.reduceSub, Nat.reduceDiv, Nat.reduceMod, Int.reduceToNat, Int.reduceLT, Int.reduceLE, Int.reduceEq, Int.reduceAdd, Int.reduceSub, Int.reduceMul, Int.reduceNeg, Int.reduceTMod, Int.reduceTDiv, Int.reduceMod, Int.reduceDiv, Int.reduceBEq, Int.reduceBNe, Nat.reduceBEq, St.keep, hw2, tA, sA, hstep, List.append_assoc]; done))
      · have hlt : ((k : Int) < (t.length : Int)) = False := eq_false (by omega)
        have hkt : t.take k = t := List.take_of_length_le (by omega)
        have c1 := cat_ok (joinB t).length 1 (by rw [hkt] at hjl; omega)
        rw [List.drop_eq_nil_of_le (by omega), List.all_nil] at hp
        simp (maxSteps := 1000000) -implicitDefEqProofs only [go_sem, ↓reduceIte, reduceCtorEq, Nat.reduceEqDiff, Nat.reduceLT, Nat.reduceAdd, Nat.reduceLeDiff, Nat.reduceMul, Nat.reduceSub, Nat.reduceDiv, Nat.reduceMod, Int.reduceToNat, Int.reduceLT, Int.reduceLE, Int.reduceEq, Int.reduceAdd, Int.reduceSub, Int.reduceMul, Int.reduceNeg, Int.reduceTMod, Int.reduceTDiv, Int.reduceMod, Int.reduceDiv, Int.reduceBEq, Int.reduceBNe, Nat.reduceBEq, tA, sA, hlt, hkt, c1]
        rw [spellE_ok h0 hp.symm]; rfl
end Go.Proofs.YtiipggfhjkalfaaDoor
