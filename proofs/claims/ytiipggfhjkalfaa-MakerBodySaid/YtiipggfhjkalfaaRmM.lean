/- What a tape means, the document's way: the whole walk, its loop. -/
import Derived.Test.YtiipggfhjkalfaaProg
import Derived.Test.YtiipggfhjkalfaaPmU
import Derived.Test.YtiipggfhjkalfaaRmL
set_option linter.unusedSimpArgs false
set_option linter.unusedVariables false
set_option maxRecDepth 20000
open Go Go.Proofs
namespace Go.Proofs.Ytiipggfhjkalfaa
open Pm
attribute [local irreducible] Wait CallT CallW NextT Le Weak
theorem PCon.lift {P : Program} {f : FuncId} {args : List AV} {Q : AV → Prop} (c : PCon P f args fun r => ∃ r', Le r r' ∧ Q r') : PCon P f args Q := by
  unfold Le at c
  intro w Z cargs hl ha hz hgl
  exact (c w Z cargs hl ha hz hgl).mono fun _ _ ⟨_, v, Z', e1, ⟨r', hle, q⟩, e2, e3⟩ => ⟨r', v, Z', e1, q, hle _ _ _ e2, e3⟩
def rkV (w : Rk) (T : List Int) : AV := .agg (.fsl 1 (T.map iA) :: .fsl 1 ((w.K.map Prod.fst).map iA) :: .fsl 1 ((w.K.map Prod.snd).map iA) :: rkR w)
def refQ (t : List Int) (r : AV) : Prop := (∃ e w T, (refWalk t).1 = e ∧ e ≠ 0 ∧ r = .tup [rkV w T, .v (.int .i64 e)]) ∨ ((refWalk t).1 = 0 ∧ ∃ T, r = .tup [rkV (refWalk t).2 T, .v (.int .i64 0)])
def zRow : Option Blk := some (.row 82 16 [.agg [nilV, nilV, nilV, nilV, nilV, nilV, nilV, nilV, .v (.int .i64 0), .v (.int .i64 0), .v (.int .i64 0), .v (.int .i64 0), .v (.int .i64 0), nilV, nilV, nilV]])
def wkA (w : Rk) (n : Nat) (a b c : AV) : Option Blk := some (.row 82 16 [.agg [.sl 2 1 0 n, .sl 3 1 0 w.K.length, .sl 4 1 0 w.K.length, .sl 5 1 0 w.S.length, .sl 6 1 0 w.A.length, .sl 7 1 0 w.R.length,
  .sl 8 1 0 w.at_.length, .sl 9 1 0 w.dir.length, .v (.int .i64 w.here), .v (.int .i64 w.look), .v (.int .i64 w.count), .v (.int .i64 w.long), .v (.int .i64 w.roads), a, b, c]])
def rwN (t : List Int) (w : Rk) (T : List Int) (k : Nat) : St := ⟨51, 0, [(0, tA t), (2, .ptr 0 16 0 0), (4, .ptr 1 16 0 0), (7, .v (.int .i64 ((k + 1 : Nat) : Int)))],
  [zRow, wkA w T.length nilV nilV nilV, intB T, longB (w.K.map Prod.fst), longB (w.K.map Prod.snd), intB w.S, boolB w.A, boolB w.R, intB w.at_, intB w.dir, none, none, none]⟩
def rwL (t : List Int) (w : Rk) (T : List Int) (k : Nat) : St := ⟨51, 0, [(0, tA t), (2, .ptr 0 16 0 0), (4, .ptr 1 16 0 0), (7, .v (.int .i64 ((k + 1 : Nat) : Int)))],
  [zRow, wkA w T.length (.sl 10 1 0 w.arms.length) (.sl 11 1 0 w.acts.length) (.sl 12 1 0 w.wr.length), intB T, longB (w.K.map Prod.fst), longB (w.K.map Prod.snd), intB w.S, boolB w.A, boolB w.R, intB w.at_, intB w.dir, intB w.arms, intB w.acts, boolB w.wr]⟩
def rwS (t : List Int) (p : Nat × Rk × List Int) : St := if p.1 = 0 then rwN t p.2.1 p.2.2 p.1 else rwL t p.2.1 p.2.2 p.1
theorem refWalk_pc (t : List Int) (hm : t.length < 9223372036854775808) : PCon Try.prog 46 [tA t] (refQ t) := by
  refine PCon.lift (pcon_run 1000 Try.func46 rfl Try.results46 Try.ntmps46 (Nat.le_of_ble_eq_true rfl) ?_)
  have hck := refCheck_pc t hm
  by_cases hc : checkE t = 0
  · have hh : headB t = true := by
      cases h : headB t with
      | true => rfl
      | false => rw [checkE_head h] at hc; cases hc
    have hlen : 3 ≤ t.length ∧ t.length ≤ 4096 := by simp only [headB, decide_eq_true_eq] at hh; omega
    have hall : ((t.take (t.length - 2)).drop 1).all cmdB = true := by
      cases h : ((t.take (t.length - 2)).drop 1).all cmdB with
      | true => rfl
      | false => rw [checkE_bad h] at hc; cases hc
    have hpw : refWalk t = rwalkR ((t.take (t.length - 2)).drop 1) rBegin := by unfold refWalk; rw [if_pos hc]
    have e2 : IntKind.i64.wrap ((t.length : Int) - 2) = ((t.length - 2 : Nat) : Int) := by rw [wrap64 (by omega) (by omega)]; omega
    have hbl : ((t.take (t.length - 2)).drop 1).length = t.length - 3 := by rw [List.length_drop, List.length_take]; omega
    have hbg : ∀ k, k < t.length - 3 → ((t.take (t.length - 2)).drop 1).getD k 0 = t.getD (k + 1) 0 := fun k hk => by
      rw [List.getD_eq_getElem?_getD, List.getElem?_drop, List.getElem?_take, if_pos (by omega), List.getD_eq_getElem?_getD, Nat.add_comm]
    generalize hb : (t.take (t.length - 2)).drop 1 = b at hpw hbl hall hbg
    rw [show checkE t = 0 from hc] at hck
    simp (maxSteps := 1000000) -implicitDefEqProofs only [go_sem, ↓reduceIte, reduceCtorEq, Nat.reduceEqDiff, Nat.reduceLT, Nat.reduceAdd, Nat.reduceLeDiff, Nat.reduceMul, Nat.reduceSub, Int.reduceToNat, Int.reduceLT, Int.reduceLE, Int.reduceEq, Int.reduceBNe, Nat.reduceBEq, tA]
    (repeat' (first | exact trivial | contradiction | exact ⟨_, rfl⟩ | refine And.intro ?_ ?_ | ((first | show (_ : Nat) ≤ _ | show (_ : Nat) < _ | show (_ : Int) ≤ _ | show (_ : Int) < _); omega) | (refine wait_draw 1000 mixed (by decide +kernel) ?_; simp (maxSteps := 1000000) -implicitDefEqProofs only [go_sem, ↓reduceIte, reduceCtorEq, Nat.reduceEqDiff, Nat.reduceLT, Nat.reduceAdd, Nat.reduceLeDiff, Nat.reduceMul, Nat.reduceSub, Int.reduceToNat, Int.reduceLT, Int.reduceLE, Int.reduceEq, Int.reduceBNe, Nat.reduceBEq, tA, wkRow, nilV, intB, longB, boolB, stM, iA, bA]) | ((first | refine call_eq 1000 (hck) ?_ ?_ rfl | refine call_draw 1000 (hck) ?_ ?_); (focus (simp (maxSteps := 1000000) -implicitDefEqProofs only [go_sem, ↓reduceIte, reduceCtorEq, Nat.reduceEqDiff, Nat.reduceLT, Nat.reduceAdd, Nat.reduceLeDiff, Nat.reduceMul, Nat.reduceSub, Int.reduceToNat, Int.reduceLT, Int.reduceLE, Int.reduceEq, Int.reduceBNe, Nat.reduceBEq, tA, wkRow, nilV, intB, longB, boolB, stM, iA, bA]; done)); simp (maxSteps := 1000000) -implicitDefEqProofs only [go_sem, ↓reduceIte, reduceCtorEq, Nat.reduceEqDiff, Nat.reduceLT, Nat.reduceAdd, Nat.reduceLeDiff, Nat.reduceMul, Nat.reduceSub, Int.reduceToNat, Int.reduceLT, Int.reduceLE, Int.reduceEq, Int.reduceBNe, Nat.reduceBEq, tA, wkRow, nilV, intB, longB, boolB, stM, iA, bA]) | ((first | refine call_con_eq 1000 [1] (spotA_con) ?_ ?_ ?_ (by simp) (by simp) rfl (by first | (simp; done) | exact Nat.le_of_ble_eq_true rfl) | refine call_draw_con 1000 [1] (spotA_con) (by decide +kernel) ?_ ?_ ?_ (by simp) (by simp) rfl (by first | (simp; done) | exact Nat.le_of_ble_eq_true rfl)); (focus (simp (maxSteps := 1000000) -implicitDefEqProofs only [go_sem, ↓reduceIte, reduceCtorEq, Nat.reduceEqDiff, Nat.reduceLT, Nat.reduceAdd, Nat.reduceLeDiff, Nat.reduceMul, Nat.reduceSub, Int.reduceToNat, Int.reduceLT, Int.reduceLE, Int.reduceEq, Int.reduceBNe, Nat.reduceBEq, tA, wkRow, nilV, intB, longB, boolB, stM, iA, bA]; done)); (focus (simp (maxSteps := 1000000) -implicitDefEqProofs only [go_sem, ↓reduceIte, reduceCtorEq, Nat.reduceEqDiff, Nat.reduceLT, Nat.reduceAdd, Nat.reduceLeDiff, Nat.reduceMul, Nat.reduceSub, Int.reduceToNat, Int.reduceLT, Int.reduceLE, Int.reduceEq, Int.reduceBNe, Nat.reduceBEq, tA, wkRow, nilV, intB, longB, boolB, stM, iA, bA]; done)); simp (maxSteps := 1000000) -implicitDefEqProofs only [go_sem, ↓reduceIte, reduceCtorEq, Nat.reduceEqDiff, Nat.reduceLT, Nat.reduceAdd, Nat.reduceLeDiff, Nat.reduceMul, Nat.reduceSub, Int.reduceToNat, Int.reduceLT, Int.reduceLE, Int.reduceEq, Int.reduceBNe, Nat.reduceBEq, tA, wkRow, nilV, intB, longB, boolB, stM, iA, bA]) | ((first | refine call_con_eq 1000 [1, 2, 4, 6, 8, 10, 12] (mark0_con) ?_ ?_ ?_ (by simp) (by simp) rfl (by first | (simp; done) | exact Nat.le_of_ble_eq_true rfl) | refine call_draw_con 1000 [1, 2, 4, 6, 8, 10, 12] (mark0_con) (by decide +kernel) ?_ ?_ ?_ (by simp) (by simp) rfl (by first | (simp; done) | exact Nat.le_of_ble_eq_true rfl)); (focus (simp (maxSteps := 1000000) -implicitDefEqProofs only [go_sem, ↓reduceIte, reduceCtorEq, Nat.reduceEqDiff, Nat.reduceLT, Nat.reduceAdd, Nat.reduceLeDiff, Nat.reduceMul, Nat.reduceSub, Int.reduceToNat, Int.reduceLT, Int.reduceLE, Int.reduceEq, Int.reduceBNe, Nat.reduceBEq, tA, wkRow, nilV, intB, longB, boolB, stM, iA, bA]; done)); (focus (simp (maxSteps := 1000000) -implicitDefEqProofs only [go_sem, ↓reduceIte, reduceCtorEq, Nat.reduceEqDiff, Nat.reduceLT, Nat.reduceAdd, Nat.reduceLeDiff, Nat.reduceMul, Nat.reduceSub, Int.reduceToNat, Int.reduceLT, Int.reduceLE, Int.reduceEq, Int.reduceBNe, Nat.reduceBEq, tA, wkRow, nilV, intB, longB, boolB, stM, iA, bA]; done)); simp (maxSteps := 1000000) -implicitDefEqProofs only [go_sem, ↓reduceIte, reduceCtorEq, Nat.reduceEqDiff, Nat.reduceLT, Nat.reduceAdd, Nat.reduceLeDiff, Nat.reduceMul, Nat.reduceSub, Int.reduceToNat, Int.reduceLT, Int.reduceLE, Int.reduceEq, Int.reduceBNe, Nat.reduceBEq, tA, wkRow, nilV, intB, longB, boolB, stM, iA, bA]) | ((first | refine call_con_eq 1000 [1, 2, 4, 6, 8, 10, 12] (spotB_con) ?_ ?_ ?_ (by simp) (by simp) rfl (by first | (simp; done) | exact Nat.le_of_ble_eq_true rfl) | refine call_draw_con 1000 [1, 2, 4, 6, 8, 10, 12] (spotB_con) (by decide +kernel) ?_ ?_ ?_ (by simp) (by simp) rfl (by first | (simp; done) | exact Nat.le_of_ble_eq_true rfl)); (focus (simp (maxSteps := 1000000) -implicitDefEqProofs only [go_sem, ↓reduceIte, reduceCtorEq, Nat.reduceEqDiff, Nat.reduceLT, Nat.reduceAdd, Nat.reduceLeDiff, Nat.reduceMul, Nat.reduceSub, Int.reduceToNat, Int.reduceLT, Int.reduceLE, Int.reduceEq, Int.reduceBNe, Nat.reduceBEq, tA, wkRow, nilV, intB, longB, boolB, stM, iA, bA]; done)); (focus (simp (maxSteps := 1000000) -implicitDefEqProofs only [go_sem, ↓reduceIte, reduceCtorEq, Nat.reduceEqDiff, Nat.reduceLT, Nat.reduceAdd, Nat.reduceLeDiff, Nat.reduceMul, Nat.reduceSub, Int.reduceToNat, Int.reduceLT, Int.reduceLE, Int.reduceEq, Int.reduceBNe, Nat.reduceBEq, tA, wkRow, nilV, intB, longB, boolB, stM, iA, bA]; done)); simp (maxSteps := 1000000) -implicitDefEqProofs only [go_sem, ↓reduceIte, reduceCtorEq, Nat.reduceEqDiff, Nat.reduceLT, Nat.reduceAdd, Nat.reduceLeDiff, Nat.reduceMul, Nat.reduceSub, Int.reduceToNat, Int.reduceLT, Int.reduceLE, Int.reduceEq, Int.reduceBNe, Nat.reduceBEq, tA, wkRow, nilV, intB, longB, boolB, stM, iA, bA]) | intro _))
    refine wait_data (rwS t) (fun p => p.1 ≤ b.length ∧ RkX p.2.1 (255 * p.1) ∧ TabOk p.2.2 p.2.1.K ∧ (0 ≤ p.2.1.count ∧ p.2.1.count ≤ 255) ∧ p.2.1.arms.length = p.1 ∧ p.2.1.acts.length = p.1 ∧ p.2.1.wr.length = p.1 ∧ rwalkR (b.drop p.1) p.2.1 = rwalkR b rBegin) (fun p => b.length - p.1) (0, rBegin, T2)
      (weak_to [0, 2, 4, 7] [0, 1, 2, 14, 16, 18, 20, 22, 23, 24, 100, 101, 102] ?_ (by decide) (fun i h => by cases h)) ⟨Nat.zero_le _, rBegin_x, tab2_ok, by decide, rfl, rfl, rfl, rfl⟩ ?_
    · rw [show rwS t (0, rBegin, T2) = rwN t rBegin T2 0 from if_pos rfl]
      simp (maxSteps := 1000000) -implicitDefEqProofs only [go_sem, ↓reduceIte, reduceCtorEq, Nat.reduceEqDiff, Nat.reduceLT, Nat.reduceAdd, Nat.reduceLeDiff, Nat.reduceMul, Nat.reduceSub, Int.reduceToNat, Int.reduceLT, Int.reduceLE, Int.reduceEq, Int.reduceBNe, Nat.reduceBEq, St.keep, tA, rwN, rkS, rkS0, rkE, rkB, rkB0, intB, longB, boolB, zRow, wkA, nilV, rBegin, iA, bA]
      rfl
    rintro ⟨k, w, T⟩ ⟨hk, hx, hT, hcn, ha, hac, hwr, hG⟩
    simp only at hk hx hT hcn ha hac hwr hG
    refine run_sound 1000 _ _ ?_
    by_cases hkb : k < b.length
    · have hlt : (((k + 1 : Nat) : Int) < ((t.length - 2 : Nat) : Int)) = True := eq_true (by omega)
      obtain ⟨s, hs⟩ : ∃ s, s = b.getD k 0 := ⟨_, rfl⟩
      have hg := get_tA t (k + 1) (by omega)
      rw [← hbg k (by omega), ← hs] at hg
      have hi1 : (((k + 1 : Nat) : Int) < (t.length : Int)) = True := eq_true (by omega)
      have hi2 : (k + 1 < t.length) = True := eq_true (by omega)
      have hdrop : b.drop k = s :: b.drop (k + 1) := by
        rw [List.drop_eq_getElem_cons hkb, hs, List.getD_eq_getElem?_getD, List.getElem?_eq_getElem hkb]
        rfl
      have hcm : cmdB s = true := by
        rw [hs, List.getD_eq_getElem?_getD, List.getElem?_eq_getElem hkb]
        exact List.all_eq_true.1 hall _ (List.getElem_mem hkb)
      simp only [cmdB, Bool.and_eq_true, decide_eq_true_eq] at hcm
      have hw1 : IntKind.i64.wrap (((k + 1 : Nat) : Int) + 1) = ((k + 1 + 1 : Nat) : Int) := by rw [wrap64 (by omega) (by omega)]; omega
      by_cases hk0 : k = 0
      · rw [show rwS t (k, w, T) = rwN t w T k from if_pos hk0]
        simp (maxSteps := 1000000) -implicitDefEqProofs only [go_sem, ↓reduceIte, reduceCtorEq, Nat.reduceEqDiff, Nat.reduceLT, Nat.reduceAdd, Nat.reduceLeDiff, Nat.reduceMul, Nat.reduceSub, Int.reduceToNat, Int.reduceLT, Int.reduceLE, Int.reduceEq, Int.reduceBNe, Nat.reduceBEq, tA, rwN, rkS, rkS0, rkE, rkB, rkB0, intB, longB, boolB, zRow, wkA, nilV, e2, hlt, hg, hi1, hi2]
        refine call_con 1000 [1, 2, 3, 4, 5, 6, 7, 8, 9, 10, 11, 12] (do0_con w T (255 * k) s hT hx (by omega) hcn (by omega) hcm.2 (List.length_eq_zero_iff.1 (ha.trans hk0)) (List.length_eq_zero_iff.1 (hac.trans hk0)) (List.length_eq_zero_iff.1 (hwr.trans hk0)) (by omega) (by omega) (by omega)) ?_ ?_ (by simp) (by simp) rfl ?_
        · simp (maxSteps := 1000000) -implicitDefEqProofs only [go_sem, ↓reduceIte, reduceCtorEq, Nat.reduceEqDiff, Nat.reduceLT, Nat.reduceAdd, Nat.reduceLeDiff, Nat.reduceMul, Nat.reduceSub, Int.reduceToNat, Int.reduceLT, Int.reduceLE, Int.reduceEq, Int.reduceBNe, Nat.reduceBEq]
        · simp (maxSteps := 1000000) -implicitDefEqProofs only [go_sem, ↓reduceIte, reduceCtorEq, Nat.reduceEqDiff, Nat.reduceLT, Nat.reduceAdd, Nat.reduceLeDiff, Nat.reduceMul, Nat.reduceSub, Int.reduceToNat, Int.reduceLT, Int.reduceLE, Int.reduceEq, Int.reduceBNe, Nat.reduceBEq, rkS, rkS0, rkE, rkB, rkB0, intB, longB, boolB, zRow, wkA, nilV]
        rintro r hcal ⟨e, w', T', hf, rfl, rfl, hT'⟩
        refine ⟨by simp [rkE], ?_⟩
        by_cases he : e = 0
        · subst he
          obtain ⟨i1, i2, i3, i4, i5⟩ := rcmd_inv hx hcn (by omega) hf
          simp (maxSteps := 1000000) -implicitDefEqProofs only [go_sem, ↓reduceIte, reduceCtorEq, Nat.reduceEqDiff, Nat.reduceLT, Nat.reduceAdd, Nat.reduceLeDiff, Nat.reduceMul, Nat.reduceSub, Int.reduceToNat, Int.reduceLT, Int.reduceLE, Int.reduceEq, Int.reduceBNe, Nat.reduceBEq, rkS, rkS0, rkE, rkB, rkB0, intB, longB, boolB, zRow, wkA, nilV]
          refine ⟨(k + 1, w', T'), ?_, ⟨?_, i1.le (by simp only; omega), hT' rfl, i2, by simp only; omega, by simp only; omega, by simp only; omega, ?_⟩, ?_⟩
          · show b.length - (k + 1) < b.length - k; omega
          · show k + 1 ≤ b.length; omega
          · show rwalkR (b.drop (k + 1)) w' = rwalkR b rBegin
            rw [← hG, hdrop, rwalkR_ok (by rw [hf]), hf]
          · rw [show rwS t (k + 1, w', T') = rwL t w' T' (k + 1) from if_neg (by simp)]
            refine weak_to [0, 2, 4, 7] [0, 1, 13, 14, 15, 16, 17, 18, 19, 20, 21, 22, 23] ?_ (by decide) (fun i h => by cases h)
            simp (maxSteps := 1000000) -implicitDefEqProofs only [go_sem, ↓reduceIte, reduceCtorEq, Nat.reduceEqDiff, Nat.reduceLT, Nat.reduceAdd, Nat.reduceLeDiff, Nat.reduceMul, Nat.reduceSub, Int.reduceToNat, Int.reduceLT, Int.reduceLE, Int.reduceEq, Int.reduceBNe, Nat.reduceBEq, St.keep, tA, rwL, rkS, rkS0, rkE, rkB, rkB0, intB, longB, boolB, zRow, wkA, nilV, hw1]
        · have hne : (e = 0) = False := eq_false he
          simp (maxSteps := 1000000) -implicitDefEqProofs only [go_sem, ↓reduceIte, reduceCtorEq, Nat.reduceEqDiff, Nat.reduceLT, Nat.reduceAdd, Nat.reduceLeDiff, Nat.reduceMul, Nat.reduceSub, Int.reduceToNat, Int.reduceLT, Int.reduceLE, Int.reduceEq, Int.reduceBNe, Nat.reduceBEq, rkS, rkS0, rkE, rkB, rkB0, intB, longB, boolB, zRow, wkA, nilV, hne]
          refine ⟨_, Le.refl _, .inl ⟨e, w', T', ?_, he, rfl⟩⟩
          rw [hpw, ← hG, hdrop, rwalkR_bad (by rw [hf]; exact he), hf]
      · rw [show rwS t (k, w, T) = rwL t w T k from if_neg hk0]
        simp (maxSteps := 1000000) -implicitDefEqProofs only [go_sem, ↓reduceIte, reduceCtorEq, Nat.reduceEqDiff, Nat.reduceLT, Nat.reduceAdd, Nat.reduceLeDiff, Nat.reduceMul, Nat.reduceSub, Int.reduceToNat, Int.reduceLT, Int.reduceLE, Int.reduceEq, Int.reduceBNe, Nat.reduceBEq, tA, rwL, rkS, rkS0, rkE, rkB, rkB0, intB, longB, boolB, zRow, wkA, nilV, e2, hlt, hg, hi1, hi2]
        refine call_con 1000 [1, 2, 3, 4, 5, 6, 7, 8, 9, 10, 11, 12] (do_con w T (255 * k) s hT hx (by omega) hcn (by omega) hcm.2 (by omega) (by omega) (by omega)) ?_ ?_ (by simp) (by simp) rfl ?_
        · simp (maxSteps := 1000000) -implicitDefEqProofs only [go_sem, ↓reduceIte, reduceCtorEq, Nat.reduceEqDiff, Nat.reduceLT, Nat.reduceAdd, Nat.reduceLeDiff, Nat.reduceMul, Nat.reduceSub, Int.reduceToNat, Int.reduceLT, Int.reduceLE, Int.reduceEq, Int.reduceBNe, Nat.reduceBEq]
        · simp (maxSteps := 1000000) -implicitDefEqProofs only [go_sem, ↓reduceIte, reduceCtorEq, Nat.reduceEqDiff, Nat.reduceLT, Nat.reduceAdd, Nat.reduceLeDiff, Nat.reduceMul, Nat.reduceSub, Int.reduceToNat, Int.reduceLT, Int.reduceLE, Int.reduceEq, Int.reduceBNe, Nat.reduceBEq, rkS, rkS0, rkE, rkB, rkB0, intB, longB, boolB, zRow, wkA, nilV]
        rintro r hcal ⟨e, w', T', hf, rfl, rfl, hT'⟩
        refine ⟨by simp [rkE], ?_⟩
        by_cases he : e = 0
        · subst he
          obtain ⟨i1, i2, i3, i4, i5⟩ := rcmd_inv hx hcn (by omega) hf
          simp (maxSteps := 1000000) -implicitDefEqProofs only [go_sem, ↓reduceIte, reduceCtorEq, Nat.reduceEqDiff, Nat.reduceLT, Nat.reduceAdd, Nat.reduceLeDiff, Nat.reduceMul, Nat.reduceSub, Int.reduceToNat, Int.reduceLT, Int.reduceLE, Int.reduceEq, Int.reduceBNe, Nat.reduceBEq, rkS, rkS0, rkE, rkB, rkB0, intB, longB, boolB, zRow, wkA, nilV]
          refine ⟨(k + 1, w', T'), ?_, ⟨?_, i1.le (by simp only; omega), hT' rfl, i2, by simp only; omega, by simp only; omega, by simp only; omega, ?_⟩, ?_⟩
          · show b.length - (k + 1) < b.length - k; omega
          · show k + 1 ≤ b.length; omega
          · show rwalkR (b.drop (k + 1)) w' = rwalkR b rBegin
            rw [← hG, hdrop, rwalkR_ok (by rw [hf]), hf]
          · rw [show rwS t (k + 1, w', T') = rwL t w' T' (k + 1) from if_neg (by simp)]
            refine weak_to [0, 2, 4, 7] [0, 1, 13, 14, 15, 16, 17, 18, 19, 20, 21, 22, 23] ?_ (by decide) (fun i h => by cases h)
            simp (maxSteps := 1000000) -implicitDefEqProofs only [go_sem, ↓reduceIte, reduceCtorEq, Nat.reduceEqDiff, Nat.reduceLT, Nat.reduceAdd, Nat.reduceLeDiff, Nat.reduceMul, Nat.reduceSub, Int.reduceToNat, Int.reduceLT, Int.reduceLE, Int.reduceEq, Int.reduceBNe, Nat.reduceBEq, St.keep, tA, rwL, rkS, rkS0, rkE, rkB, rkB0, intB, longB, boolB, zRow, wkA, nilV, hw1]
        · have hne : (e = 0) = False := eq_false he
          simp (maxSteps := 1000000) -implicitDefEqProofs only [go_sem, ↓reduceIte, reduceCtorEq, Nat.reduceEqDiff, Nat.reduceLT, Nat.reduceAdd, Nat.reduceLeDiff, Nat.reduceMul, Nat.reduceSub, Int.reduceToNat, Int.reduceLT, Int.reduceLE, Int.reduceEq, Int.reduceBNe, Nat.reduceBEq, rkS, rkS0, rkE, rkB, rkB0, intB, longB, boolB, zRow, wkA, nilV, hne]
          refine ⟨_, Le.refl _, .inl ⟨e, w', T', ?_, he, rfl⟩⟩
          rw [hpw, ← hG, hdrop, rwalkR_bad (by rw [hf]; exact he), hf]
    · have hlt : (((k + 1 : Nat) : Int) < ((t.length - 2 : Nat) : Int)) = False := eq_false (by omega)
      have hG' : rwalkR b rBegin = (0, w) := by
        rw [← hG, List.drop_eq_nil_of_le (by omega)]; rfl
      rw [hG'] at hpw
      by_cases hk0 : k = 0
      · rw [show rwS t (k, w, T) = rwN t w T k from if_pos hk0]
        simp (maxSteps := 1000000) -implicitDefEqProofs only [go_sem, ↓reduceIte, reduceCtorEq, Nat.reduceEqDiff, Nat.reduceLT, Nat.reduceAdd, Nat.reduceLeDiff, Nat.reduceMul, Nat.reduceSub, Int.reduceToNat, Int.reduceLT, Int.reduceLE, Int.reduceEq, Int.reduceBNe, Nat.reduceBEq, tA, rwN, rkS, rkS0, rkE, rkB, rkB0, intB, longB, boolB, zRow, wkA, nilV, e2, hlt]
        refine ⟨.tup [rkV w T, .v (.int .i64 0)], ?_, .inr ⟨by rw [hpw], T, by rw [hpw]⟩⟩
        refine Le.tup (.cons (Le.agg ?_) (LeL.refl _))
        rw [rkR, List.length_eq_zero_iff.1 (ha.trans hk0), List.length_eq_zero_iff.1 (hac.trans hk0), List.length_eq_zero_iff.1 (hwr.trans hk0)]
        refine .cons (Le.refl _) ?_
        refine .cons (Le.refl _) ?_
        refine .cons (Le.refl _) ?_
        refine .cons (Le.refl _) ?_
        refine .cons (Le.refl _) ?_
        refine .cons (Le.refl _) ?_
        refine .cons (Le.refl _) ?_
        refine .cons (Le.refl _) ?_
        refine .cons (Le.refl _) ?_
        refine .cons (Le.refl _) ?_
        refine .cons (Le.refl _) ?_
        refine .cons (Le.refl _) ?_
        refine .cons (Le.refl _) ?_
        
        exact .cons (Le.nil 1) (.cons (Le.nil 1) (.cons (Le.nil 1) .nil))
      · rw [show rwS t (k, w, T) = rwL t w T k from if_neg hk0]
        simp (maxSteps := 1000000) -implicitDefEqProofs only [go_sem, ↓reduceIte, reduceCtorEq, Nat.reduceEqDiff, Nat.reduceLT, Nat.reduceAdd, Nat.reduceLeDiff, Nat.reduceMul, Nat.reduceSub, Int.reduceToNat, Int.reduceLT, Int.reduceLE, Int.reduceEq, Int.reduceBNe, Nat.reduceBEq, tA, rwL, rkS, rkS0, rkE, rkB, rkB0, intB, longB, boolB, zRow, wkA, nilV, e2, hlt]
        exact ⟨_, Le.refl _, .inr ⟨by rw [hpw], T, by rw [hpw]; rfl⟩⟩
  · have h71 : checkE t = 71 := by unfold checkE at hc ⊢; split at hc <;> rename_i h <;> first | exact absurd rfl hc | rw [if_neg h]
    have hpw : refWalk t = (71, rBegin) := by unfold refWalk; rw [if_neg hc]
    rw [h71] at hck
    simp (maxSteps := 1000000) -implicitDefEqProofs only [go_sem, ↓reduceIte, reduceCtorEq, Nat.reduceEqDiff, Nat.reduceLT, Nat.reduceAdd, Nat.reduceLeDiff, Nat.reduceMul, Nat.reduceSub, Int.reduceToNat, Int.reduceLT, Int.reduceLE, Int.reduceEq, Int.reduceBNe, Nat.reduceBEq, tA, iA]
    (repeat' (first | exact trivial | contradiction | exact ⟨_, rfl⟩ | refine And.intro ?_ ?_ | ((first | show (_ : Nat) ≤ _ | show (_ : Nat) < _ | show (_ : Int) ≤ _ | show (_ : Int) < _); omega) | (refine wait_draw 1000 mixed (by decide +kernel) ?_; simp (maxSteps := 1000000) -implicitDefEqProofs only [go_sem, ↓reduceIte, reduceCtorEq, Nat.reduceEqDiff, Nat.reduceLT, Nat.reduceAdd, Nat.reduceLeDiff, Nat.reduceMul, Nat.reduceSub, Int.reduceToNat, Int.reduceLT, Int.reduceLE, Int.reduceEq, Int.reduceBNe, Nat.reduceBEq, tA, iA]) | ((first | refine call_eq 1000 (hck) ?_ ?_ rfl | refine call_draw 1000 (hck) ?_ ?_); (focus (simp (maxSteps := 1000000) -implicitDefEqProofs only [go_sem, ↓reduceIte, reduceCtorEq, Nat.reduceEqDiff, Nat.reduceLT, Nat.reduceAdd, Nat.reduceLeDiff, Nat.reduceMul, Nat.reduceSub, Int.reduceToNat, Int.reduceLT, Int.reduceLE, Int.reduceEq, Int.reduceBNe, Nat.reduceBEq, tA, iA]; done)); simp (maxSteps := 1000000) -implicitDefEqProofs only [go_sem, ↓reduceIte, reduceCtorEq, Nat.reduceEqDiff, Nat.reduceLT, Nat.reduceAdd, Nat.reduceLeDiff, Nat.reduceMul, Nat.reduceSub, Int.reduceToNat, Int.reduceLT, Int.reduceLE, Int.reduceEq, Int.reduceBNe, Nat.reduceBEq, tA, iA]) | intro _))
    refine ⟨.tup [rkV ⟨[], [], [], [], [], [], 0, 1, 0, 1, 0, [], [], []⟩ [], .v (.int .i64 71)], ?_, .inl ⟨71, _, _, by rw [hpw], by decide, rfl⟩⟩
    refine Le.tup (.cons (Le.agg ?_) (LeL.refl _))
    refine .cons (Le.nil 1) ?_
    refine .cons (Le.nil 1) ?_
    refine .cons (Le.nil 1) ?_
    refine .cons (Le.nil 1) ?_
    refine .cons (Le.nil 1) ?_
    refine .cons (Le.nil 1) ?_
    refine .cons (Le.nil 1) ?_
    refine .cons (Le.nil 1) ?_
    
    refine .cons (Le.refl _) ?_
    refine .cons (Le.refl _) ?_
    refine .cons (Le.refl _) ?_
    refine .cons (Le.refl _) ?_
    refine .cons (Le.refl _) ?_
    
    exact .cons (Le.nil 1) (.cons (Le.nil 1) (.cons (Le.nil 1) .nil))
end Go.Proofs.Ytiipggfhjkalfaa
