/- What a tape means: the program's walk, its loop. -/
import Derived.Test.YtiipggfhjkalfaaProg
import Derived.Test.YtiipggfhjkalfaaPmU
import Derived.Test.YtiipggfhjkalfaaMmJ
set_option linter.unusedSimpArgs false
set_option linter.unusedVariables false
set_option maxRecDepth 20000
open Go Go.Proofs
namespace Go.Proofs.Ytiipggfhjkalfaa
open Pm
attribute [local irreducible] Wait CallT CallW NextT Le Weak
def wlS (t : List Int) (b : List Int) (p : Nat × Wk) : St := ⟨55, 0, [(0, tA t), (5, .ptr 0 11 0 0), (20, tA b), (21, .v (.int .i64 b.length)), (22, .v (.int .i64 (p.1 : Int)))], wkS p.2⟩
theorem begin_in : WkIn beginW (1 + 255 * 0) := ⟨⟨by decide, by decide, ⟨by decide, by decide, by decide⟩, by simp only [beginW, List.mem_singleton, forall_eq]; exact ⟨by decide, by decide, by decide⟩⟩, by decide⟩
theorem walk_con (t : List Int) (hm : t.length < 9223372036854775808) : Con Try.prog 48 [tA t] []
    fun r h' => (∃ e, (progWalk t).1 = e ∧ e ≠ 0 ∧ r = .tup [.v (.pointer none), .v (.int .i64 e)]) ∨ ((progWalk t).1 = 0 ∧ r = .tup [.ptr 0 11 0 0, .v (.int .i64 0)] ∧ h' = wkS (progWalk t).2) := by
  refine con_run 1000 Try.func48 rfl Try.results48 Try.ntmps48 (Nat.le_of_ble_eq_true rfl) ?_
  have hck := check_pc t hm
  by_cases hc : checkE t = 0
  · have hh : headB t = true := by
      cases h : headB t with
      | true => rfl
      | false => rw [checkE_head h] at hc; cases hc
    have hlen : 3 ≤ t.length ∧ t.length ≤ 4096 := by simp only [headB, decide_eq_true_eq] at hh; omega
    have hall : ((t.take (t.length - 2)).drop 1).all cmdB = true := by
      cases h : ((t.take (t.length - 2)).drop 1).all cmdB with
      | true => rfl
      | false => rw [checkE_bad h] at hc; cases hc
    have hpw : progWalk t = walkP ((t.take (t.length - 2)).drop 1) beginW := by unfold progWalk; rw [if_pos hc]
    rw [hpw]
    have e2 : IntKind.i64.wrap ((t.length : Int) - 2) = ((t.length - 2 : Nat) : Int) := by rw [wrap64 (by omega) (by omega)]; omega
    have hsl : ((t.map iA).take (t.length - 2)).drop 1 = ((t.take (t.length - 2)).drop 1).map iA := by rw [List.map_drop, List.map_take]
    have hbl : ((t.take (t.length - 2)).drop 1).length = t.length - 3 := by rw [List.length_drop, List.length_take]; omega
    generalize hb : (t.take (t.length - 2)).drop 1 = b at hsl hbl hall
    simp (maxSteps := 1000000) -implicitDefEqProofs only [go_sem, ↓reduceIte, reduceCtorEq, Nat.reduceEqDiff, Nat.reduceLT, Nat.reduceAdd, Nat.reduceLeDiff, Nat.reduceMul, Nat.reduceSub, Int.reduceToNat, Int.reduceLT, Int.reduceLE, Int.reduceEq, Int.reduceBNe, Nat.reduceBEq, tA, iA]
    (repeat' (first | exact trivial | contradiction | exact ⟨_, rfl⟩ | refine And.intro ?_ ?_ | ((first | show (_ : Nat) ≤ _ | show (_ : Nat) < _ | show (_ : Int) ≤ _ | show (_ : Int) < _); omega) | (refine wait_draw 1000 mixed (by decide +kernel) ?_; simp (maxSteps := 1000000) -implicitDefEqProofs only [go_sem, ↓reduceIte, reduceCtorEq, Nat.reduceEqDiff, Nat.reduceLT, Nat.reduceAdd, Nat.reduceLeDiff, Nat.reduceMul, Nat.reduceSub, Int.reduceToNat, Int.reduceLT, Int.reduceLE, Int.reduceEq, Int.reduceBNe, Nat.reduceBEq, tA, iA, hc, hsl, e2]) | ((first | refine call_eq 1000 (hck) ?_ ?_ rfl | refine call_draw 1000 (hck) ?_ ?_); (focus (simp (maxSteps := 1000000) -implicitDefEqProofs only [go_sem, ↓reduceIte, reduceCtorEq, Nat.reduceEqDiff, Nat.reduceLT, Nat.reduceAdd, Nat.reduceLeDiff, Nat.reduceMul, Nat.reduceSub, Int.reduceToNat, Int.reduceLT, Int.reduceLE, Int.reduceEq, Int.reduceBNe, Nat.reduceBEq, tA, iA, hc, hsl, e2]; done)); simp (maxSteps := 1000000) -implicitDefEqProofs only [go_sem, ↓reduceIte, reduceCtorEq, Nat.reduceEqDiff, Nat.reduceLT, Nat.reduceAdd, Nat.reduceLeDiff, Nat.reduceMul, Nat.reduceSub, Int.reduceToNat, Int.reduceLT, Int.reduceLE, Int.reduceEq, Int.reduceBNe, Nat.reduceBEq, tA, iA, hc, hsl, e2]) | ((first | refine call_con_eq 1000 [] (new_con) ?_ ?_ ?_ (by simp) (by simp) rfl (by first | (simp; done) | exact Nat.le_of_ble_eq_true rfl) | refine call_draw_con 1000 [] (new_con) (by decide +kernel) ?_ ?_ ?_ (by simp) (by simp) rfl (by first | (simp; done) | exact Nat.le_of_ble_eq_true rfl)); (focus (simp (maxSteps := 1000000) -implicitDefEqProofs only [go_sem, ↓reduceIte, reduceCtorEq, Nat.reduceEqDiff, Nat.reduceLT, Nat.reduceAdd, Nat.reduceLeDiff, Nat.reduceMul, Nat.reduceSub, Int.reduceToNat, Int.reduceLT, Int.reduceLE, Int.reduceEq, Int.reduceBNe, Nat.reduceBEq, tA, iA, hc, hsl, e2]; done)); (focus (simp (maxSteps := 1000000) -implicitDefEqProofs only [go_sem, ↓reduceIte, reduceCtorEq, Nat.reduceEqDiff, Nat.reduceLT, Nat.reduceAdd, Nat.reduceLeDiff, Nat.reduceMul, Nat.reduceSub, Int.reduceToNat, Int.reduceLT, Int.reduceLE, Int.reduceEq, Int.reduceBNe, Nat.reduceBEq, tA, iA, hc, hsl, e2]; done)); simp (maxSteps := 1000000) -implicitDefEqProofs only [go_sem, ↓reduceIte, reduceCtorEq, Nat.reduceEqDiff, Nat.reduceLT, Nat.reduceAdd, Nat.reduceLeDiff, Nat.reduceMul, Nat.reduceSub, Int.reduceToNat, Int.reduceLT, Int.reduceLE, Int.reduceEq, Int.reduceBNe, Nat.reduceBEq, tA, iA, hc, hsl, e2]) | intro _))
    refine wait_data (wlS t b) (fun p => p.1 ≤ b.length ∧ WkIn p.2 (1 + 255 * p.1) ∧ walkP (b.drop p.1) p.2 = walkP b beginW) (fun p => b.length - p.1) (0, beginW) (weak_to [0, 5, 20, 21, 22] [0, 1, 2, 3, 4, 5] ?_ (by decide) (fun i h => by cases h)) ⟨Nat.zero_le _, begin_in, rfl⟩ ?_
    · simp (maxSteps := 1000000) -implicitDefEqProofs only [go_sem, ↓reduceIte, reduceCtorEq, Nat.reduceEqDiff, Nat.reduceLT, Nat.reduceAdd, Nat.reduceLeDiff, Nat.reduceMul, Nat.reduceSub, Int.reduceToNat, Int.reduceLT, Int.reduceLE, Int.reduceEq, Int.reduceBNe, Nat.reduceBEq, St.keep, wlS, wkS, wkB, trB, tA, beginW, Int.natCast_zero]
    rintro ⟨k, v⟩ ⟨hk, hv, hG⟩
    simp only at hk hv hG
    refine run_sound 1000 _ _ ?_
    by_cases hkb : k < b.length
    · have hlt : ((k : Int) < (b.length : Int)) = True := eq_true (by omega)
      obtain ⟨s, hs⟩ : ∃ s, s = b.getD k 0 := ⟨_, rfl⟩
      have hg := get_tA b k hkb
      rw [← hs] at hg
      have hdrop : b.drop k = s :: b.drop (k + 1) := by
        rw [List.drop_eq_getElem_cons hkb, hs, List.getD_eq_getElem?_getD, List.getElem?_eq_getElem hkb]
        rfl
      rw [hdrop] at hG
      have hcmd : cmdB s = true := by
        rw [hs, List.getD_eq_getElem?_getD, List.getElem?_eq_getElem hkb]
        exact List.all_eq_true.1 hall _ (List.getElem_mem hkb)
      simp only [cmdB, Bool.and_eq_true, decide_eq_true_eq] at hcmd
      have hw1 : IntKind.i64.wrap ((k : Int) + 1) = ((k + 1 : Nat) : Int) := by rw [wrap64 (by omega) (by omega)]; omega
      have htl : v.trail.length < 1000000000000 := by have := hv.ok.tl; omega
      have hnext : ∀ (w' : Wk), cmdP v s = (0, w') → WkIn w' (1 + 255 * k + 255) → walkP (b.drop (k + 1)) w' = walkP b beginW ∧ WkIn w' (1 + 255 * (k + 1)) := fun w' h1 h2 => by
        refine ⟨?_, by rw [show 1 + 255 * (k + 1) = 1 + 255 * k + 255 by omega]; exact h2⟩
        rw [← hG, walkP_ok (by rw [h1]), h1]
      rcases (show s = 5 ∨ s = 6 ∨ s = 7 ∨ (8 ≤ s ∧ s < 24) ∨ 24 ≤ s by omega) with h5 | h6 | h7 | h8 | h24
      · have hc5 : cmdP v s = forthP v := by unfold cmdP; rw [if_pos h5]
        subst h5
        simp (maxSteps := 1000000) -implicitDefEqProofs only [go_sem, ↓reduceIte, reduceCtorEq, Nat.reduceEqDiff, Nat.reduceLT, Nat.reduceAdd, Nat.reduceLeDiff, Nat.reduceMul, Nat.reduceSub, Int.reduceToNat, Int.reduceLT, Int.reduceLE, Int.reduceEq, Int.reduceBNe, Nat.reduceBEq, wlS, wkS, wkB, trB, tA, hlt, hg]
        refine call_con 1000 [0, 1, 2, 3, 4, 5] (forth_con v 5 (1 + 255 * k) hv.ok (by omega) hv.c.1 hv.c.2) ?_ ?_ (by simp) (by simp) rfl ?_
        · simp (maxSteps := 1000000) -implicitDefEqProofs only [go_sem, ↓reduceIte, reduceCtorEq, Nat.reduceEqDiff, Nat.reduceLT, Nat.reduceAdd, Nat.reduceLeDiff, Nat.reduceMul, Nat.reduceSub, Int.reduceToNat, Int.reduceLT, Int.reduceLE, Int.reduceEq, Int.reduceBNe, Nat.reduceBEq]
        · simp (maxSteps := 1000000) -implicitDefEqProofs only [go_sem, ↓reduceIte, reduceCtorEq, Nat.reduceEqDiff, Nat.reduceLT, Nat.reduceAdd, Nat.reduceLeDiff, Nat.reduceMul, Nat.reduceSub, Int.reduceToNat, Int.reduceLT, Int.reduceLE, Int.reduceEq, Int.reduceBNe, Nat.reduceBEq, wkS, wkB, trB]
        rintro r hcal ⟨e, w', hf, rfl, hlen2, hh'⟩
        refine ⟨hlen2, ?_⟩
        have hfp : forthP v = (e, w') := hf
        by_cases he : e = 0
        · subst he
          rw [hh' rfl]
          obtain ⟨h1, h2⟩ := hnext w' (by rw [hc5, hfp]) (forthP_inv hv hfp)
          simp (maxSteps := 1000000) -implicitDefEqProofs only [go_sem, ↓reduceIte, reduceCtorEq, Nat.reduceEqDiff, Nat.reduceLT, Nat.reduceAdd, Nat.reduceLeDiff, Nat.reduceMul, Nat.reduceSub, Int.reduceToNat, Int.reduceLT, Int.reduceLE, Int.reduceEq, Int.reduceBNe, Nat.reduceBEq, wkE, wkB, trB]
          refine ⟨(k + 1, w'), ?_, ⟨?_, h2, h1⟩, ?_⟩
          · show b.length - (k + 1) < b.length - k; omega
          · show k + 1 ≤ b.length; omega
          · refine weak_to [0, 5, 20, 21, 22] [0, 1, 2, 3, 4, 6] ?_ (by decide) (fun i h => by cases h)
            simp (maxSteps := 1000000) -implicitDefEqProofs only [go_sem, ↓reduceIte, reduceCtorEq, Nat.reduceEqDiff, Nat.reduceLT, Nat.reduceAdd, Nat.reduceLeDiff, Nat.reduceMul, Nat.reduceSub, Int.reduceToNat, Int.reduceLT, Int.reduceLE, Int.reduceEq, Int.reduceBNe, Nat.reduceBEq, St.keep, wkB, trB, hw1]
        · have hne : (e = 0) = False := eq_false he
          simp (maxSteps := 1000000) -implicitDefEqProofs only [go_sem, ↓reduceIte, reduceCtorEq, Nat.reduceEqDiff, Nat.reduceLT, Nat.reduceAdd, Nat.reduceLeDiff, Nat.reduceMul, Nat.reduceSub, Int.reduceToNat, Int.reduceLT, Int.reduceLE, Int.reduceEq, Int.reduceBNe, Nat.reduceBEq, hne]
          refine .inl ⟨e, ?_, he, rfl⟩
          rw [← hG, walkP_bad (by rw [hc5, hfp]; exact he), hc5, hfp]
      · have hc6 : cmdP v s = (0, turnW v s) := by unfold cmdP; rw [if_neg (by omega), if_pos (by omega)]
        subst h6
        simp (maxSteps := 1000000) -implicitDefEqProofs only [go_sem, ↓reduceIte, reduceCtorEq, Nat.reduceEqDiff, Nat.reduceLT, Nat.reduceAdd, Nat.reduceLeDiff, Nat.reduceMul, Nat.reduceSub, Int.reduceToNat, Int.reduceLT, Int.reduceLE, Int.reduceEq, Int.reduceBNe, Nat.reduceBEq, wlS, wkS, wkB, trB, tA, hlt, hg]
        (repeat' (first | exact trivial | contradiction | exact ⟨_, rfl⟩ | refine And.intro ?_ ?_ | ((first | show (_ : Nat) ≤ _ | show (_ : Nat) < _ | show (_ : Int) ≤ _ | show (_ : Int) < _); omega) | (refine wait_draw 1000 mixed (by decide +kernel) ?_; simp (maxSteps := 1000000) -implicitDefEqProofs only [go_sem, ↓reduceIte, reduceCtorEq, Nat.reduceEqDiff, Nat.reduceLT, Nat.reduceAdd, Nat.reduceLeDiff, Nat.reduceMul, Nat.reduceSub, Int.reduceToNat, Int.reduceLT, Int.reduceLE, Int.reduceEq, Int.reduceBNe, Nat.reduceBEq, tA, hlt, hg, wkS, wkB, trB]) | ((first | refine call_con_eq 1000 [0,1,2,3,4,5] (turn_con v 6 htl hv.ok.s.d.1 hv.ok.s.d.2 (by omega) (by omega)) ?_ ?_ ?_ (by simp) (by simp) rfl (by first | (simp; done) | exact Nat.le_of_ble_eq_true rfl) | refine call_draw_con 1000 [0,1,2,3,4,5] (turn_con v 6 htl hv.ok.s.d.1 hv.ok.s.d.2 (by omega) (by omega)) (by decide +kernel) ?_ ?_ ?_ (by simp) (by simp) rfl (by first | (simp; done) | exact Nat.le_of_ble_eq_true rfl)); (focus (simp (maxSteps := 1000000) -implicitDefEqProofs only [go_sem, ↓reduceIte, reduceCtorEq, Nat.reduceEqDiff, Nat.reduceLT, Nat.reduceAdd, Nat.reduceLeDiff, Nat.reduceMul, Nat.reduceSub, Int.reduceToNat, Int.reduceLT, Int.reduceLE, Int.reduceEq, Int.reduceBNe, Nat.reduceBEq, tA, hlt, hg, wkS, wkB, trB]; done)); (focus (simp (maxSteps := 1000000) -implicitDefEqProofs only [go_sem, ↓reduceIte, reduceCtorEq, Nat.reduceEqDiff, Nat.reduceLT, Nat.reduceAdd, Nat.reduceLeDiff, Nat.reduceMul, Nat.reduceSub, Int.reduceToNat, Int.reduceLT, Int.reduceLE, Int.reduceEq, Int.reduceBNe, Nat.reduceBEq, tA, hlt, hg, wkS, wkB, trB]; done)); simp (maxSteps := 1000000) -implicitDefEqProofs only [go_sem, ↓reduceIte, reduceCtorEq, Nat.reduceEqDiff, Nat.reduceLT, Nat.reduceAdd, Nat.reduceLeDiff, Nat.reduceMul, Nat.reduceSub, Int.reduceToNat, Int.reduceLT, Int.reduceLE, Int.reduceEq, Int.reduceBNe, Nat.reduceBEq, tA, hlt, hg, wkS, wkB, trB]) | intro _))
        obtain ⟨h1, h2⟩ := hnext _ hc6 (turn_in hv (by omega) (by omega))
        refine ⟨(k + 1, turnW v 6), ?_, ⟨?_, h2, h1⟩, ?_⟩
        · show b.length - (k + 1) < b.length - k; omega
        · show k + 1 ≤ b.length; omega
        · refine weak_to [0, 5, 20, 21, 22] [0, 1, 2, 3, 4, 5] ?_ (by decide) (fun i h => by cases h)
          simp (maxSteps := 1000000) -implicitDefEqProofs only [go_sem, ↓reduceIte, reduceCtorEq, Nat.reduceEqDiff, Nat.reduceLT, Nat.reduceAdd, Nat.reduceLeDiff, Nat.reduceMul, Nat.reduceSub, Int.reduceToNat, Int.reduceLT, Int.reduceLE, Int.reduceEq, Int.reduceBNe, Nat.reduceBEq, St.keep, wkS, wkB, trB, hw1]
      · have hc6 : cmdP v s = (0, turnW v s) := by unfold cmdP; rw [if_neg (by omega), if_pos (by omega)]
        subst h7
        simp (maxSteps := 1000000) -implicitDefEqProofs only [go_sem, ↓reduceIte, reduceCtorEq, Nat.reduceEqDiff, Nat.reduceLT, Nat.reduceAdd, Nat.reduceLeDiff, Nat.reduceMul, Nat.reduceSub, Int.reduceToNat, Int.reduceLT, Int.reduceLE, Int.reduceEq, Int.reduceBNe, Nat.reduceBEq, wlS, wkS, wkB, trB, tA, hlt, hg]
        (repeat' (first | exact trivial | contradiction | exact ⟨_, rfl⟩ | refine And.intro ?_ ?_ | ((first | show (_ : Nat) ≤ _ | show (_ : Nat) < _ | show (_ : Int) ≤ _ | show (_ : Int) < _); omega) | (refine wait_draw 1000 mixed (by decide +kernel) ?_; simp (maxSteps := 1000000) -implicitDefEqProofs only [go_sem, ↓reduceIte, reduceCtorEq, Nat.reduceEqDiff, Nat.reduceLT, Nat.reduceAdd, Nat.reduceLeDiff, Nat.reduceMul, Nat.reduceSub, Int.reduceToNat, Int.reduceLT, Int.reduceLE, Int.reduceEq, Int.reduceBNe, Nat.reduceBEq, tA, hlt, hg, wkS, wkB, trB]) | ((first | refine call_con_eq 1000 [0,1,2,3,4,5] (turn_con v 7 htl hv.ok.s.d.1 hv.ok.s.d.2 (by omega) (by omega)) ?_ ?_ ?_ (by simp) (by simp) rfl (by first | (simp; done) | exact Nat.le_of_ble_eq_true rfl) | refine call_draw_con 1000 [0,1,2,3,4,5] (turn_con v 7 htl hv.ok.s.d.1 hv.ok.s.d.2 (by omega) (by omega)) (by decide +kernel) ?_ ?_ ?_ (by simp) (by simp) rfl (by first | (simp; done) | exact Nat.le_of_ble_eq_true rfl)); (focus (simp (maxSteps := 1000000) -implicitDefEqProofs only [go_sem, ↓reduceIte, reduceCtorEq, Nat.reduceEqDiff, Nat.reduceLT, Nat.reduceAdd, Nat.reduceLeDiff, Nat.reduceMul, Nat.reduceSub, Int.reduceToNat, Int.reduceLT, Int.reduceLE, Int.reduceEq, Int.reduceBNe, Nat.reduceBEq, tA, hlt, hg, wkS, wkB, trB]; done)); (focus (simp (maxSteps := 1000000) -implicitDefEqProofs only [go_sem, ↓reduceIte, reduceCtorEq, Nat.reduceEqDiff, Nat.reduceLT, Nat.reduceAdd, Nat.reduceLeDiff, Nat.reduceMul, Nat.reduceSub, Int.reduceToNat, Int.reduceLT, Int.reduceLE, Int.reduceEq, Int.reduceBNe, Nat.reduceBEq, tA, hlt, hg, wkS, wkB, trB]; done)); simp (maxSteps := 1000000) -implicitDefEqProofs only [go_sem, ↓reduceIte, reduceCtorEq, Nat.reduceEqDiff, Nat.reduceLT, Nat.reduceAdd, Nat.reduceLeDiff, Nat.reduceMul, Nat.reduceSub, Int.reduceToNat, Int.reduceLT, Int.reduceLE, Int.reduceEq, Int.reduceBNe, Nat.reduceBEq, tA, hlt, hg, wkS, wkB, trB]) | intro _))
        obtain ⟨h1, h2⟩ := hnext _ hc6 (turn_in hv (by omega) (by omega))
        refine ⟨(k + 1, turnW v 7), ?_, ⟨?_, h2, h1⟩, ?_⟩
        · show b.length - (k + 1) < b.length - k; omega
        · show k + 1 ≤ b.length; omega
        · refine weak_to [0, 5, 20, 21, 22] [0, 1, 2, 3, 4, 5] ?_ (by decide) (fun i h => by cases h)
          simp (maxSteps := 1000000) -implicitDefEqProofs only [go_sem, ↓reduceIte, reduceCtorEq, Nat.reduceEqDiff, Nat.reduceLT, Nat.reduceAdd, Nat.reduceLeDiff, Nat.reduceMul, Nat.reduceSub, Int.reduceToNat, Int.reduceLT, Int.reduceLE, Int.reduceEq, Int.reduceBNe, Nat.reduceBEq, St.keep, wkS, wkB, trB, hw1]
      · have hne5 : (s = 5) = False := eq_false (by omega)
        have hne6 : (s = 6) = False := eq_false (by omega)
        have hne7 : (s = 7) = False := eq_false (by omega)
        have hlt24 : (s < 24) = True := eq_true (by omega)
        have hc8 : cmdP v s = (0, digitW v s) := by unfold cmdP; rw [if_neg (by omega), if_neg (by omega), if_pos (by omega)]
        simp (maxSteps := 1000000) -implicitDefEqProofs only [go_sem, ↓reduceIte, reduceCtorEq, Nat.reduceEqDiff, Nat.reduceLT, Nat.reduceAdd, Nat.reduceLeDiff, Nat.reduceMul, Nat.reduceSub, Int.reduceToNat, Int.reduceLT, Int.reduceLE, Int.reduceEq, Int.reduceBNe, Nat.reduceBEq, wlS, wkS, wkB, trB, tA, hlt, hg, hne5, hne6, hne7, hlt24]
        (repeat' (first | exact trivial | contradiction | exact ⟨_, rfl⟩ | refine And.intro ?_ ?_ | ((first | show (_ : Nat) ≤ _ | show (_ : Nat) < _ | show (_ : Int) ≤ _ | show (_ : Int) < _); omega) | (refine wait_draw 1000 mixed (by decide +kernel) ?_; simp (maxSteps := 1000000) -implicitDefEqProofs only [go_sem, ↓reduceIte, reduceCtorEq, Nat.reduceEqDiff, Nat.reduceLT, Nat.reduceAdd, Nat.reduceLeDiff, Nat.reduceMul, Nat.reduceSub, Int.reduceToNat, Int.reduceLT, Int.reduceLE, Int.reduceEq, Int.reduceBNe, Nat.reduceBEq, tA, hlt, hg, hne5, hne6, hne7, hlt24, wkS, wkB, trB]) | ((first | refine call_con_eq 1000 [0,1,2,3,4,5] (digit_con v s htl hv.c.1 hv.c.2 (by omega) (by omega)) ?_ ?_ ?_ (by simp) (by simp) rfl (by first | (simp; done) | exact Nat.le_of_ble_eq_true rfl) | refine call_draw_con 1000 [0,1,2,3,4,5] (digit_con v s htl hv.c.1 hv.c.2 (by omega) (by omega)) (by decide +kernel) ?_ ?_ ?_ (by simp) (by simp) rfl (by first | (simp; done) | exact Nat.le_of_ble_eq_true rfl)); (focus (simp (maxSteps := 1000000) -implicitDefEqProofs only [go_sem, ↓reduceIte, reduceCtorEq, Nat.reduceEqDiff, Nat.reduceLT, Nat.reduceAdd, Nat.reduceLeDiff, Nat.reduceMul, Nat.reduceSub, Int.reduceToNat, Int.reduceLT, Int.reduceLE, Int.reduceEq, Int.reduceBNe, Nat.reduceBEq, tA, hlt, hg, hne5, hne6, hne7, hlt24, wkS, wkB, trB]; done)); (focus (simp (maxSteps := 1000000) -implicitDefEqProofs only [go_sem, ↓reduceIte, reduceCtorEq, Nat.reduceEqDiff, Nat.reduceLT, Nat.reduceAdd, Nat.reduceLeDiff, Nat.reduceMul, Nat.reduceSub, Int.reduceToNat, Int.reduceLT, Int.reduceLE, Int.reduceEq, Int.reduceBNe, Nat.reduceBEq, tA, hlt, hg, hne5, hne6, hne7, hlt24, wkS, wkB, trB]; done)); simp (maxSteps := 1000000) -implicitDefEqProofs only [go_sem, ↓reduceIte, reduceCtorEq, Nat.reduceEqDiff, Nat.reduceLT, Nat.reduceAdd, Nat.reduceLeDiff, Nat.reduceMul, Nat.reduceSub, Int.reduceToNat, Int.reduceLT, Int.reduceLE, Int.reduceEq, Int.reduceBNe, Nat.reduceBEq, tA, hlt, hg, hne5, hne6, hne7, hlt24, wkS, wkB, trB]) | intro _))
        obtain ⟨h1, h2⟩ := hnext _ hc8 (digit_in hv (by omega))
        refine ⟨(k + 1, digitW v s), ?_, ⟨?_, h2, h1⟩, ?_⟩
        · show b.length - (k + 1) < b.length - k; omega
        · show k + 1 ≤ b.length; omega
        · refine weak_to [0, 5, 20, 21, 22] [0, 1, 2, 3, 4, 5] ?_ (by decide) (fun i h => by cases h)
          simp (maxSteps := 1000000) -implicitDefEqProofs only [go_sem, ↓reduceIte, reduceCtorEq, Nat.reduceEqDiff, Nat.reduceLT, Nat.reduceAdd, Nat.reduceLeDiff, Nat.reduceMul, Nat.reduceSub, Int.reduceToNat, Int.reduceLT, Int.reduceLE, Int.reduceEq, Int.reduceBNe, Nat.reduceBEq, St.keep, wkS, wkB, trB, hw1]
      · have hne5 : (s = 5) = False := eq_false (by omega)
        have hne6 : (s = 6) = False := eq_false (by omega)
        have hne7 : (s = 7) = False := eq_false (by omega)
        have hlt24 : (s < 24) = False := eq_false (by omega)
        have hc24 : cmdP v s = writeP v s := by unfold cmdP; rw [if_neg (by omega), if_neg (by omega), if_neg (by omega)]
        simp (maxSteps := 1000000) -implicitDefEqProofs only [go_sem, ↓reduceIte, reduceCtorEq, Nat.reduceEqDiff, Nat.reduceLT, Nat.reduceAdd, Nat.reduceLeDiff, Nat.reduceMul, Nat.reduceSub, Int.reduceToNat, Int.reduceLT, Int.reduceLE, Int.reduceEq, Int.reduceBNe, Nat.reduceBEq, wlS, wkS, wkB, trB, tA, hlt, hg, hne5, hne6, hne7, hlt24]
        repeat' (first | refine And.intro ?_ ?_ | (intro _))
        refine call_con 1000 [0, 1, 2, 3, 4, 5] (write_con v s (1 + 255 * k) hv.ok (by omega) hv.c.1 hv.c.2 h24 hcmd.2) ?_ ?_ (by simp) (by simp) rfl ?_
        · simp (maxSteps := 1000000) -implicitDefEqProofs only [go_sem, ↓reduceIte, reduceCtorEq, Nat.reduceEqDiff, Nat.reduceLT, Nat.reduceAdd, Nat.reduceLeDiff, Nat.reduceMul, Nat.reduceSub, Int.reduceToNat, Int.reduceLT, Int.reduceLE, Int.reduceEq, Int.reduceBNe, Nat.reduceBEq]
        · simp (maxSteps := 1000000) -implicitDefEqProofs only [go_sem, ↓reduceIte, reduceCtorEq, Nat.reduceEqDiff, Nat.reduceLT, Nat.reduceAdd, Nat.reduceLeDiff, Nat.reduceMul, Nat.reduceSub, Int.reduceToNat, Int.reduceLT, Int.reduceLE, Int.reduceEq, Int.reduceBNe, Nat.reduceBEq, wkS, wkB, trB]
        rintro r hcal ⟨e, w', hf, rfl, hlen2, hh'⟩
        refine ⟨hlen2, ?_⟩
        have hfp : writeP v s = (e, w') := hf
        by_cases he : e = 0
        · subst he
          rw [hh' rfl]
          obtain ⟨h1, h2⟩ := hnext w' (by rw [hc24, hfp]) (writeP_inv hv hfp)
          simp (maxSteps := 1000000) -implicitDefEqProofs only [go_sem, ↓reduceIte, reduceCtorEq, Nat.reduceEqDiff, Nat.reduceLT, Nat.reduceAdd, Nat.reduceLeDiff, Nat.reduceMul, Nat.reduceSub, Int.reduceToNat, Int.reduceLT, Int.reduceLE, Int.reduceEq, Int.reduceBNe, Nat.reduceBEq, wkE, wkB, trB]
          refine ⟨(k + 1, w'), ?_, ⟨?_, h2, h1⟩, ?_⟩
          · show b.length - (k + 1) < b.length - k; omega
          · show k + 1 ≤ b.length; omega
          · refine weak_to [0, 5, 20, 21, 22] [0, 1, 2, 3, 4, 6] ?_ (by decide) (fun i h => by cases h)
            simp (maxSteps := 1000000) -implicitDefEqProofs only [go_sem, ↓reduceIte, reduceCtorEq, Nat.reduceEqDiff, Nat.reduceLT, Nat.reduceAdd, Nat.reduceLeDiff, Nat.reduceMul, Nat.reduceSub, Int.reduceToNat, Int.reduceLT, Int.reduceLE, Int.reduceEq, Int.reduceBNe, Nat.reduceBEq, St.keep, wkB, trB, hw1]
        · have hne : (e = 0) = False := eq_false he
          simp (maxSteps := 1000000) -implicitDefEqProofs only [go_sem, ↓reduceIte, reduceCtorEq, Nat.reduceEqDiff, Nat.reduceLT, Nat.reduceAdd, Nat.reduceLeDiff, Nat.reduceMul, Nat.reduceSub, Int.reduceToNat, Int.reduceLT, Int.reduceLE, Int.reduceEq, Int.reduceBNe, Nat.reduceBEq, hne]
          refine .inl ⟨e, ?_, he, rfl⟩
          rw [← hG, walkP_bad (by rw [hc24, hfp]; exact he), hc24, hfp]
    · have hlt : ((k : Int) < (b.length : Int)) = False := eq_false (by omega)
      rw [List.drop_eq_nil_of_le (by omega)] at hG
      have hG' : walkP b beginW = (0, v) := hG.symm
      rw [hG']
      simp (maxSteps := 1000000) -implicitDefEqProofs only [go_sem, ↓reduceIte, reduceCtorEq, Nat.reduceEqDiff, Nat.reduceLT, Nat.reduceAdd, Nat.reduceLeDiff, Nat.reduceMul, Nat.reduceSub, Int.reduceToNat, Int.reduceLT, Int.reduceLE, Int.reduceEq, Int.reduceBNe, Nat.reduceBEq, wlS, wkS, wkB, trB, tA, hlt]
  · have h71 : checkE t = 71 := by unfold checkE at hc ⊢; split at hc <;> rename_i h <;> first | exact absurd rfl hc | rw [if_neg h]
    have hpw : progWalk t = (71, beginW) := by unfold progWalk; rw [if_neg hc]
    rw [hpw]
    rw [h71] at hck
    simp (maxSteps := 1000000) -implicitDefEqProofs only [go_sem, ↓reduceIte, reduceCtorEq, Nat.reduceEqDiff, Nat.reduceLT, Nat.reduceAdd, Nat.reduceLeDiff, Nat.reduceMul, Nat.reduceSub, Int.reduceToNat, Int.reduceLT, Int.reduceLE, Int.reduceEq, Int.reduceBNe, Nat.reduceBEq, tA, iA]
    (repeat' (first | exact trivial | contradiction | exact ⟨_, rfl⟩ | refine And.intro ?_ ?_ | ((first | show (_ : Nat) ≤ _ | show (_ : Nat) < _ | show (_ : Int) ≤ _ | show (_ : Int) < _); omega) | (refine wait_draw 1000 mixed (by decide +kernel) ?_; simp (maxSteps := 1000000) -implicitDefEqProofs only [go_sem, ↓reduceIte, reduceCtorEq, Nat.reduceEqDiff, Nat.reduceLT, Nat.reduceAdd, Nat.reduceLeDiff, Nat.reduceMul, Nat.reduceSub, Int.reduceToNat, Int.reduceLT, Int.reduceLE, Int.reduceEq, Int.reduceBNe, Nat.reduceBEq, tA, iA]) | ((first | refine call_eq 1000 (hck) ?_ ?_ rfl | refine call_draw 1000 (hck) ?_ ?_); (focus (simp (maxSteps := 1000000) -implicitDefEqProofs only [go_sem, ↓reduceIte, reduceCtorEq, Nat.reduceEqDiff, Nat.reduceLT, Nat.reduceAdd, Nat.reduceLeDiff, Nat.reduceMul, Nat.reduceSub, Int.reduceToNat, Int.reduceLT, Int.reduceLE, Int.reduceEq, Int.reduceBNe, Nat.reduceBEq, tA, iA]; done)); simp (maxSteps := 1000000) -implicitDefEqProofs only [go_sem, ↓reduceIte, reduceCtorEq, Nat.reduceEqDiff, Nat.reduceLT, Nat.reduceAdd, Nat.reduceLeDiff, Nat.reduceMul, Nat.reduceSub, Int.reduceToNat, Int.reduceLT, Int.reduceLE, Int.reduceEq, Int.reduceBNe, Nat.reduceBEq, tA, iA]) | intro _))
    all_goals exact .inl ⟨71, rfl, by decide, rfl⟩
end Go.Proofs.Ytiipggfhjkalfaa
