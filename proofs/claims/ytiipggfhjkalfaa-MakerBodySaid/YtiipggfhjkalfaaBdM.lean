import Derived.Test.YtiipggfhjkalfaaProg
import Derived.Test.YtiipggfhjkalfaaPmU
import Derived.Test.YtiipggfhjkalfaaBdI
import Derived.Test.YtiipggfhjkalfaaBdD
/- The constructor: a state changed by a function value. -/
set_option linter.unusedSimpArgs false
set_option linter.unusedVariables false
set_option maxRecDepth 20000
open Go Go.Proofs
namespace Go.Proofs.Ytiipggfhjkalfaa
open Pm
attribute [local irreducible] Wait CallT CallW NextT Le Weak
def ydB (y : List Int) : Option Blk := some (.row 37 10 [yA y])
theorem ph_con (z0 z1 z2 z3 z4 z5 z6 z7 z8 z9 : Int) : Con Try.prog 61 [.ptr 0 10 0 0] [ydB [z0, z1, z2, z3, z4, z5, z6, z7, z8, z9]] fun r h' => r = .tup [] ∧ h' = [ydB [z0, z1, z2, z3, z4, 1, z6, z7, z8, z9]] := by
  refine con_run 1000 Try.func61 rfl Try.results61 Try.ntmps61 (Nat.le_of_ble_eq_true rfl) ?_
  simp (maxSteps := 1000000) -implicitDefEqProofs only [go_sem, ↓reduceIte, reduceCtorEq, Nat.reduceEqDiff, Nat.reduceLT, Nat.reduceAdd, Nat.reduceLeDiff, ydB, yA, iA, List.map_cons, List.map_nil]
theorem jn_con (z0 z1 z2 z3 z4 z5 z6 z7 z8 z9 : Int) : Con Try.prog 92 [.ptr 0 10 0 0] [ydB [z0, z1, z2, z3, z4, z5, z6, z7, z8, z9]] fun r h' => r = .tup [] ∧ h' = [ydB [z0, z1, z2, z3, z4, 1, z6, z7, z8, z9]] := by
  refine con_run 1000 Try.func92 rfl Try.results92 Try.ntmps92 (Nat.le_of_ble_eq_true rfl) ?_
  simp (maxSteps := 1000000) -implicitDefEqProofs only [go_sem, ↓reduceIte, reduceCtorEq, Nat.reduceEqDiff, Nat.reduceLT, Nat.reduceAdd, Nat.reduceLeDiff, ydB, yA, iA, List.map_cons, List.map_nil]
theorem sy_con (s z0 z1 z2 z3 z4 z5 z6 z7 z8 z9 : Int) : Con Try.prog 93 [.ptr 0 10 0 0, .fptr [.v (.int .i64 s)]] [ydB [z0, z1, z2, z3, z4, z5, z6, z7, z8, z9]] fun r h' => r = .tup [] ∧ h' = [ydB [z0, z1, z2, s, z4, z5, z6, z7, z8, z9]] := by
  refine con_run 1000 Try.func93 rfl Try.results93 Try.ntmps93 (Nat.le_of_ble_eq_true rfl) ?_
  simp (maxSteps := 1000000) -implicitDefEqProofs only [go_sem, ↓reduceIte, reduceCtorEq, Nat.reduceEqDiff, Nat.reduceLT, Nat.reduceAdd, Nat.reduceLeDiff, ydB, yA, iA, List.map_cons, List.map_nil]
/-- A state of the yard with one part set. -/
def setS (s : Int) (i : Nat) (v : Int) : Int := yS ((YardOfE s).1.set i v)
theorem with_ph (s : Int) (hs : s ≤ 9223372036854775807) : PCon Try.prog 91 [.v (.int .i64 s), .v (.func (.func 61) #[] #[])] (· = .v (.int .i64 (setS s 5 1))) := by
  have c := yardOf_pc s hs
  have hl := yardOf_len s
  unfold setS
  generalize YardOfE s = q at c hl ⊢
  obtain ⟨y, e⟩ := q
  simp only at hl ⊢
  obtain ⟨z0, z1, z2, z3, z4, z5, z6, z7, z8, z9, rfl⟩ := ten_of y hl
  have d := ph_con z0 z1 z2 z3 z4 z5 z6 z7 z8 z9
  have f := yardState_pc [z0, z1, z2, z3, z4, 1, z6, z7, z8, z9] rfl
  rw [show yS (List.set [z0, z1, z2, z3, z4, z5, z6, z7, z8, z9] 5 1) = (YardStateE [z0, z1, z2, z3, z4, 1, z6, z7, z8, z9]).1 from rfl]
  generalize YardStateE [z0, z1, z2, z3, z4, 1, z6, z7, z8, z9] = u at f ⊢
  simp only [ydB, yA, iA, List.map_cons, List.map_nil] at c d f
  refine pcon_run 1000 Try.func91 rfl Try.results91 Try.ntmps91 (Nat.le_of_ble_eq_true rfl) ?_
  simp (maxSteps := 1000000) -implicitDefEqProofs only [go_sem, ↓reduceIte, reduceCtorEq, Nat.reduceEqDiff, Nat.reduceLT, Nat.reduceAdd, Nat.reduceLeDiff]
  (repeat' (first | exact trivial | contradiction | exact ⟨_, rfl⟩ | refine And.intro ?_ ?_ | ((first | show (_ : Nat) ≤ _ | show (_ : Nat) < _ | show (_ : Int) ≤ _ | show (_ : Int) < _); omega) | (refine wait_draw 1000 mixed (by decide +kernel) ?_; simp (maxSteps := 1000000) -implicitDefEqProofs only [go_sem, ↓reduceIte, reduceCtorEq, Nat.reduceEqDiff, Nat.reduceLT, Nat.reduceAdd, Nat.reduceLeDiff]) | ((first | refine call_eq 1000 (c) ?_ ?_ rfl | refine call_draw 1000 (c) ?_ ?_ | refine call_eq 1000 (f) ?_ ?_ rfl | refine call_draw 1000 (f) ?_ ?_); (focus (simp (maxSteps := 1000000) -implicitDefEqProofs only [go_sem, ↓reduceIte, reduceCtorEq, Nat.reduceEqDiff, Nat.reduceLT, Nat.reduceAdd, Nat.reduceLeDiff]; done)); simp (maxSteps := 1000000) -implicitDefEqProofs only [go_sem, ↓reduceIte, reduceCtorEq, Nat.reduceEqDiff, Nat.reduceLT, Nat.reduceAdd, Nat.reduceLeDiff]) | ((first | refine call_con_eq 1000 [0] (d) ?_ ?_ ?_ (by simp) (by simp) rfl (by first | (simp; done) | exact Nat.le_of_ble_eq_true rfl) | refine call_draw_con 1000 [0] (d) (by decide +kernel) ?_ ?_ ?_ (by simp) (by simp) rfl (by first | (simp; done) | exact Nat.le_of_ble_eq_true rfl)); (focus (simp (maxSteps := 1000000) -implicitDefEqProofs only [go_sem, ↓reduceIte, reduceCtorEq, Nat.reduceEqDiff, Nat.reduceLT, Nat.reduceAdd, Nat.reduceLeDiff]; done)); (focus (simp (maxSteps := 1000000) -implicitDefEqProofs only [go_sem, ↓reduceIte, reduceCtorEq, Nat.reduceEqDiff, Nat.reduceLT, Nat.reduceAdd, Nat.reduceLeDiff]; done)); simp (maxSteps := 1000000) -implicitDefEqProofs only [go_sem, ↓reduceIte, reduceCtorEq, Nat.reduceEqDiff, Nat.reduceLT, Nat.reduceAdd, Nat.reduceLeDiff]) | intro _))
theorem with_jn (s : Int) (hs : s ≤ 9223372036854775807) : PCon Try.prog 91 [.v (.int .i64 s), .v (.func (.func 92) #[] #[])] (· = .v (.int .i64 (setS s 5 1))) := by
  have c := yardOf_pc s hs
  have hl := yardOf_len s
  unfold setS
  generalize YardOfE s = q at c hl ⊢
  obtain ⟨y, e⟩ := q
  simp only at hl ⊢
  obtain ⟨z0, z1, z2, z3, z4, z5, z6, z7, z8, z9, rfl⟩ := ten_of y hl
  have d := jn_con z0 z1 z2 z3 z4 z5 z6 z7 z8 z9
  have f := yardState_pc [z0, z1, z2, z3, z4, 1, z6, z7, z8, z9] rfl
  rw [show yS (List.set [z0, z1, z2, z3, z4, z5, z6, z7, z8, z9] 5 1) = (YardStateE [z0, z1, z2, z3, z4, 1, z6, z7, z8, z9]).1 from rfl]
  generalize YardStateE [z0, z1, z2, z3, z4, 1, z6, z7, z8, z9] = u at f ⊢
  simp only [ydB, yA, iA, List.map_cons, List.map_nil] at c d f
  refine pcon_run 1000 Try.func91 rfl Try.results91 Try.ntmps91 (Nat.le_of_ble_eq_true rfl) ?_
  simp (maxSteps := 1000000) -implicitDefEqProofs only [go_sem, ↓reduceIte, reduceCtorEq, Nat.reduceEqDiff, Nat.reduceLT, Nat.reduceAdd, Nat.reduceLeDiff]
  (repeat' (first | exact trivial | contradiction | exact ⟨_, rfl⟩ | refine And.intro ?_ ?_ | ((first | show (_ : Nat) ≤ _ | show (_ : Nat) < _ | show (_ : Int) ≤ _ | show (_ : Int) < _); omega) | (refine wait_draw 1000 mixed (by decide +kernel) ?_; simp (maxSteps := 1000000) -implicitDefEqProofs only [go_sem, ↓reduceIte, reduceCtorEq, Nat.reduceEqDiff, Nat.reduceLT, Nat.reduceAdd, Nat.reduceLeDiff]) | ((first | refine call_eq 1000 (c) ?_ ?_ rfl | refine call_draw 1000 (c) ?_ ?_ | refine call_eq 1000 (f) ?_ ?_ rfl | refine call_draw 1000 (f) ?_ ?_); (focus (simp (maxSteps := 1000000) -implicitDefEqProofs only [go_sem, ↓reduceIte, reduceCtorEq, Nat.reduceEqDiff, Nat.reduceLT, Nat.reduceAdd, Nat.reduceLeDiff]; done)); simp (maxSteps := 1000000) -implicitDefEqProofs only [go_sem, ↓reduceIte, reduceCtorEq, Nat.reduceEqDiff, Nat.reduceLT, Nat.reduceAdd, Nat.reduceLeDiff]) | ((first | refine call_con_eq 1000 [0] (d) ?_ ?_ ?_ (by simp) (by simp) rfl (by first | (simp; done) | exact Nat.le_of_ble_eq_true rfl) | refine call_draw_con 1000 [0] (d) (by decide +kernel) ?_ ?_ ?_ (by simp) (by simp) rfl (by first | (simp; done) | exact Nat.le_of_ble_eq_true rfl)); (focus (simp (maxSteps := 1000000) -implicitDefEqProofs only [go_sem, ↓reduceIte, reduceCtorEq, Nat.reduceEqDiff, Nat.reduceLT, Nat.reduceAdd, Nat.reduceLeDiff]; done)); (focus (simp (maxSteps := 1000000) -implicitDefEqProofs only [go_sem, ↓reduceIte, reduceCtorEq, Nat.reduceEqDiff, Nat.reduceLT, Nat.reduceAdd, Nat.reduceLeDiff]; done)); simp (maxSteps := 1000000) -implicitDefEqProofs only [go_sem, ↓reduceIte, reduceCtorEq, Nat.reduceEqDiff, Nat.reduceLT, Nat.reduceAdd, Nat.reduceLeDiff]) | intro _))
theorem with_sy (v s : Int) (hs : s ≤ 9223372036854775807) : PCon Try.prog 91 [.v (.int .i64 s), .clo (.func 93) [] [.fptr [.v (.int .i64 v)]]] (· = .v (.int .i64 (setS s 3 v))) := by
  have c := yardOf_pc s hs
  have hl := yardOf_len s
  unfold setS
  generalize YardOfE s = q at c hl ⊢
  obtain ⟨y, e⟩ := q
  simp only at hl ⊢
  obtain ⟨z0, z1, z2, z3, z4, z5, z6, z7, z8, z9, rfl⟩ := ten_of y hl
  have d := sy_con v z0 z1 z2 z3 z4 z5 z6 z7 z8 z9
  have f := yardState_pc [z0, z1, z2, v, z4, z5, z6, z7, z8, z9] rfl
  rw [show yS (List.set [z0, z1, z2, z3, z4, z5, z6, z7, z8, z9] 3 v) = (YardStateE [z0, z1, z2, v, z4, z5, z6, z7, z8, z9]).1 from rfl]
  generalize YardStateE [z0, z1, z2, v, z4, z5, z6, z7, z8, z9] = u at f ⊢
  simp only [ydB, yA, iA, List.map_cons, List.map_nil] at c d f
  refine pcon_run 1000 Try.func91 rfl Try.results91 Try.ntmps91 (Nat.le_of_ble_eq_true rfl) ?_
  simp (maxSteps := 1000000) -implicitDefEqProofs only [go_sem, ↓reduceIte, reduceCtorEq, Nat.reduceEqDiff, Nat.reduceLT, Nat.reduceAdd, Nat.reduceLeDiff]
  (repeat' (first | exact trivial | contradiction | exact ⟨_, rfl⟩ | refine And.intro ?_ ?_ | ((first | show (_ : Nat) ≤ _ | show (_ : Nat) < _ | show (_ : Int) ≤ _ | show (_ : Int) < _); omega) | (refine wait_draw 1000 mixed (by decide +kernel) ?_; simp (maxSteps := 1000000) -implicitDefEqProofs only [go_sem, ↓reduceIte, reduceCtorEq, Nat.reduceEqDiff, Nat.reduceLT, Nat.reduceAdd, Nat.reduceLeDiff]) | ((first | refine call_eq 1000 (c) ?_ ?_ rfl | refine call_draw 1000 (c) ?_ ?_ | refine call_eq 1000 (f) ?_ ?_ rfl | refine call_draw 1000 (f) ?_ ?_); (focus (simp (maxSteps := 1000000) -implicitDefEqProofs only [go_sem, ↓reduceIte, reduceCtorEq, Nat.reduceEqDiff, Nat.reduceLT, Nat.reduceAdd, Nat.reduceLeDiff]; done)); simp (maxSteps := 1000000) -implicitDefEqProofs only [go_sem, ↓reduceIte, reduceCtorEq, Nat.reduceEqDiff, Nat.reduceLT, Nat.reduceAdd, Nat.reduceLeDiff]) | ((first | refine call_con_eq 1000 [0] (d) ?_ ?_ ?_ (by simp) (by simp) rfl (by first | (simp; done) | exact Nat.le_of_ble_eq_true rfl) | refine call_draw_con 1000 [0] (d) (by decide +kernel) ?_ ?_ ?_ (by simp) (by simp) rfl (by first | (simp; done) | exact Nat.le_of_ble_eq_true rfl)); (focus (simp (maxSteps := 1000000) -implicitDefEqProofs only [go_sem, ↓reduceIte, reduceCtorEq, Nat.reduceEqDiff, Nat.reduceLT, Nat.reduceAdd, Nat.reduceLeDiff]; done)); (focus (simp (maxSteps := 1000000) -implicitDefEqProofs only [go_sem, ↓reduceIte, reduceCtorEq, Nat.reduceEqDiff, Nat.reduceLT, Nat.reduceAdd, Nat.reduceLeDiff]; done)); simp (maxSteps := 1000000) -implicitDefEqProofs only [go_sem, ↓reduceIte, reduceCtorEq, Nat.reduceEqDiff, Nat.reduceLT, Nat.reduceAdd, Nat.reduceLeDiff]) | intro _))
end Go.Proofs.Ytiipggfhjkalfaa
/- The constructor: a tape is looked through. -/
set_option linter.unusedSimpArgs false
set_option linter.unusedVariables false
set_option maxRecDepth 20000
open Go Go.Proofs
namespace Go.Proofs.Ytiipggfhjkalfaa
open Pm
attribute [local irreducible] Wait CallT CallW NextT Le Weak
/-- All that is told of a tape. -/
def abA (w : Wk) (t : List Int) (N : Int) : AV := .agg [wkF w, tA t, .v (.int .i64 (t.length : Int)), .v (.int .i64 N)]
theorem trA_fz (h : List (Option Blk)) (l : List Sd) : fzL h (trA l) = trA l := by rw [fzL_eq]; simp [trA, sdA, fz_agg, fzL_cons, fzL_nil, fz_v]
attribute [go_sem] trA_fz
def ab0 : AV := .agg [.v (.pointer none), .v (.slice none 0 0), .v (.int .i64 0), .v (.int .i64 0)]
def tellE (t : List Int) : Int := if checkE t ≠ 0 then checkE t else if 4093 < t.length then 73 else (progWalk t).1
def abO (w : Wk) (t : List Int) (N : Int) : St := ⟨39, 0, [(29, .tup [wkF w, .v (.int .i64 0)]), (5, .ptr 1 4 0 0), (2, .ptr 0 4 0 0), (3, .v (.int .i64 0))],
          [some (.row 108 4 [.agg [.v (.pointer none), .v (.slice none 0 0), .v (.int .i64 0), .v (.int .i64 0)]]), some (.row 108 4 [.agg [.v (.pointer none), tA t, .v (.int .i64 (t.length : Int)), .v (.int .i64 N)]])]⟩
theorem tell_pc (t : List Int) (N : Int) (hN : N = 2 * (t.length : Int) + 6) (hm : t.length < 9223372036854775808) : PCon Try.prog 58 [tA t] fun r => (tellE t ≠ 0 ∧ r = .tup [ab0, .v (.int .i64 (tellE t))]) ∨ (tellE t = 0 ∧ r = .tup [abA (progWalk t).2 t N, .v (.int .i64 0)]) := by
  refine pcon_run 1000 Try.func58 rfl Try.results58 Try.ntmps58 (Nat.le_of_ble_eq_true rfl) ?_
  have ck := check_pc t hm
  by_cases hc : checkE t = 0
  · have hh : headB t = true := by
      cases h : headB t with
      | true => rfl
      | false => rw [checkE_head h] at hc; cases hc
    have hlen : 3 ≤ t.length ∧ t.length ≤ 4096 := by simp only [headB, decide_eq_true_eq] at hh; omega
    have e1 : IntKind.i64.wrap (2 * (t.length : Int)) = N - 6 := by rw [wrap64 (by omega) (by omega)]; omega
    have e2 : IntKind.i64.wrap (N - 6 + 6) = N := by rw [wrap64 (by omega) (by omega)]; omega
    have hbg : 4093 < t.length ↔ 8192 < N := by omega
    rw [hc] at ck
    have wc := walk_con t hm
    obtain ⟨q, hq⟩ : ∃ q, q = progWalk t := ⟨_, rfl⟩
    rw [← hq] at wc ⊢
    by_cases hbig : 4093 < t.length
    · have h1 : (8192 < N) = True := eq_true (hbg.1 hbig)
      have hE : tellE t = 73 := by unfold tellE; rw [if_neg (by rw [hc]; decide), if_pos hbig]
      rw [hE]
      clear hN hbg
      simp (maxSteps := 1000000) -implicitDefEqProofs only [go_sem, ↓reduceIte, reduceCtorEq, Nat.reduceEqDiff, Nat.reduceLT, Nat.reduceAdd, Nat.reduceLeDiff, Nat.reduceMul, Nat.reduceSub, Int.reduceToNat, Int.reduceLT, Int.reduceLE, Int.reduceEq, Int.reduceBNe, Nat.reduceBEq, tA, iA]
      refine call_eq 1000 ck ?_ ?_ rfl
      · simp (maxSteps := 1000000) -implicitDefEqProofs only [go_sem, ↓reduceIte, reduceCtorEq, Nat.reduceEqDiff, Nat.reduceLT, Nat.reduceAdd, Nat.reduceLeDiff, Nat.reduceMul, Nat.reduceSub, Int.reduceToNat, Int.reduceLT, Int.reduceLE, Int.reduceEq, Int.reduceBNe, Nat.reduceBEq, tA, iA]
      simp (maxSteps := 1000000) -implicitDefEqProofs only [go_sem, ↓reduceIte, reduceCtorEq, Nat.reduceEqDiff, Nat.reduceLT, Nat.reduceAdd, Nat.reduceLeDiff, Nat.reduceMul, Nat.reduceSub, Int.reduceToNat, Int.reduceLT, Int.reduceLE, Int.reduceEq, Int.reduceBNe, Nat.reduceBEq, tA, iA, e1, e2, h1]
      exact .inl rfl
    · have h1 : (8192 < N) = False := eq_false (fun h => hbig (hbg.2 h))
      have hE : tellE t = q.1 := by unfold tellE; rw [if_neg (by rw [hc]; decide), if_neg hbig, hq]
      rw [hE]
      clear hN hbg hE
      simp (maxSteps := 1000000) -implicitDefEqProofs only [go_sem, ↓reduceIte, reduceCtorEq, Nat.reduceEqDiff, Nat.reduceLT, Nat.reduceAdd, Nat.reduceLeDiff, Nat.reduceMul, Nat.reduceSub, Int.reduceToNat, Int.reduceLT, Int.reduceLE, Int.reduceEq, Int.reduceBNe, Nat.reduceBEq, tA, iA]
      refine call_eq 1000 ck ?_ ?_ rfl
      · simp (maxSteps := 1000000) -implicitDefEqProofs only [go_sem, ↓reduceIte, reduceCtorEq, Nat.reduceEqDiff, Nat.reduceLT, Nat.reduceAdd, Nat.reduceLeDiff, Nat.reduceMul, Nat.reduceSub, Int.reduceToNat, Int.reduceLT, Int.reduceLE, Int.reduceEq, Int.reduceBNe, Nat.reduceBEq, tA, iA]
      simp (maxSteps := 1000000) -implicitDefEqProofs only [go_sem, ↓reduceIte, reduceCtorEq, Nat.reduceEqDiff, Nat.reduceLT, Nat.reduceAdd, Nat.reduceLeDiff, Nat.reduceMul, Nat.reduceSub, Int.reduceToNat, Int.reduceLT, Int.reduceLE, Int.reduceEq, Int.reduceBNe, Nat.reduceBEq, tA, iA, e1, e2, h1]
      refine call_con 0 [] wc ?_ ?_ (by simp) (by simp) rfl ?_
      · simp (maxSteps := 1000000) -implicitDefEqProofs only [go_sem, ↓reduceIte, reduceCtorEq, Nat.reduceEqDiff, Nat.reduceLT, Nat.reduceAdd, Nat.reduceLeDiff, Nat.reduceMul, Nat.reduceSub, Int.reduceToNat, Int.reduceLT, Int.reduceLE, Int.reduceEq, Int.reduceBNe, Nat.reduceBEq, tA, iA]
      · simp (maxSteps := 1000000) -implicitDefEqProofs only [go_sem, ↓reduceIte, reduceCtorEq, Nat.reduceEqDiff, Nat.reduceLT, Nat.reduceAdd, Nat.reduceLeDiff, Nat.reduceMul, Nat.reduceSub, Int.reduceToNat, Int.reduceLT, Int.reduceLE, Int.reduceEq, Int.reduceBNe, Nat.reduceBEq]
      rintro r hcal (⟨e, he, hne, rfl⟩ | ⟨he, rfl, rfl⟩)
      · refine ⟨by simp, ?_⟩
        have hf : (e = 0) = False := eq_false hne
        rw [he]
        refine run_again 1000 ?_
        simp (maxSteps := 1000000) -implicitDefEqProofs only [go_sem, ↓reduceIte, reduceCtorEq, Nat.reduceEqDiff, Nat.reduceLT, Nat.reduceAdd, Nat.reduceLeDiff, Nat.reduceMul, Nat.reduceSub, Int.reduceToNat, Int.reduceLT, Int.reduceLE, Int.reduceEq, Int.reduceBNe, Nat.reduceBEq, tA, iA, hf]
        exact .inl rfl
      · refine ⟨by simp, ?_⟩
        rw [he]
        obtain ⟨q1, w⟩ := q
        simp only
        refine run_weak 1000 (st' := abO w t N) ?_ ?_
        · simp (maxSteps := 1000000) -implicitDefEqProofs only [go_sem, ↓reduceIte, reduceCtorEq, Nat.reduceEqDiff, Nat.reduceLT, Nat.reduceAdd, Nat.reduceLeDiff, Nat.reduceMul, Nat.reduceSub, Int.reduceToNat, Int.reduceLT, Int.reduceLE, Int.reduceEq, Int.reduceBNe, Nat.reduceBEq, wkS, wkB, trB, tA, iA]
          refine (weak_frzB 3 rfl rfl (fun f => by simp (maxSteps := 1000000) -implicitDefEqProofs only [go_sem, ↓reduceIte, reduceCtorEq, Nat.reduceEqDiff, Nat.reduceLT, Nat.reduceAdd, Nat.reduceLeDiff, Nat.reduceMul, Nat.reduceSub, Int.reduceToNat, Int.reduceLT, Int.reduceLE, Int.reduceEq, Int.reduceBNe, Nat.reduceBEq]) rfl).trans ?_
          simp (maxSteps := 1000000) -implicitDefEqProofs only [go_sem, ↓reduceIte, reduceCtorEq, Nat.reduceEqDiff, Nat.reduceLT, Nat.reduceAdd, Nat.reduceLeDiff, Nat.reduceMul, Nat.reduceSub, Int.reduceToNat, Int.reduceLT, Int.reduceLE, Int.reduceEq, Int.reduceBNe, Nat.reduceBEq, Nat.add_zero, Nat.zero_add]
          refine (weak_frzB 4 rfl rfl (fun f => by simp (maxSteps := 1000000) -implicitDefEqProofs only [go_sem, ↓reduceIte, reduceCtorEq, Nat.reduceEqDiff, Nat.reduceLT, Nat.reduceAdd, Nat.reduceLeDiff, Nat.reduceMul, Nat.reduceSub, Int.reduceToNat, Int.reduceLT, Int.reduceLE, Int.reduceEq, Int.reduceBNe, Nat.reduceBEq]) rfl).trans ?_
          simp (maxSteps := 1000000) -implicitDefEqProofs only [go_sem, ↓reduceIte, reduceCtorEq, Nat.reduceEqDiff, Nat.reduceLT, Nat.reduceAdd, Nat.reduceLeDiff, Nat.reduceMul, Nat.reduceSub, Int.reduceToNat, Int.reduceLT, Int.reduceLE, Int.reduceEq, Int.reduceBNe, Nat.reduceBEq, Nat.add_zero, Nat.zero_add]
          refine (weak_frzB 5 rfl rfl (fun f => by simp (maxSteps := 1000000) -implicitDefEqProofs only [go_sem, ↓reduceIte, reduceCtorEq, Nat.reduceEqDiff, Nat.reduceLT, Nat.reduceAdd, Nat.reduceLeDiff, Nat.reduceMul, Nat.reduceSub, Int.reduceToNat, Int.reduceLT, Int.reduceLE, Int.reduceEq, Int.reduceBNe, Nat.reduceBEq]) rfl).trans ?_
          simp (maxSteps := 1000000) -implicitDefEqProofs only [go_sem, ↓reduceIte, reduceCtorEq, Nat.reduceEqDiff, Nat.reduceLT, Nat.reduceAdd, Nat.reduceLeDiff, Nat.reduceMul, Nat.reduceSub, Int.reduceToNat, Int.reduceLT, Int.reduceLE, Int.reduceEq, Int.reduceBNe, Nat.reduceBEq, Nat.add_zero, Nat.zero_add]
          refine (weak_frzB 6 rfl rfl (fun f => by simp (maxSteps := 1000000) -implicitDefEqProofs only [go_sem, ↓reduceIte, reduceCtorEq, Nat.reduceEqDiff, Nat.reduceLT, Nat.reduceAdd, Nat.reduceLeDiff, Nat.reduceMul, Nat.reduceSub, Int.reduceToNat, Int.reduceLT, Int.reduceLE, Int.reduceEq, Int.reduceBNe, Nat.reduceBEq]) rfl).trans ?_
          simp (maxSteps := 1000000) -implicitDefEqProofs only [go_sem, ↓reduceIte, reduceCtorEq, Nat.reduceEqDiff, Nat.reduceLT, Nat.reduceAdd, Nat.reduceLeDiff, Nat.reduceMul, Nat.reduceSub, Int.reduceToNat, Int.reduceLT, Int.reduceLE, Int.reduceEq, Int.reduceBNe, Nat.reduceBEq, Nat.add_zero, Nat.zero_add]
          refine (weak_frzB 7 rfl rfl (fun f => by simp (maxSteps := 1000000) -implicitDefEqProofs only [go_sem, ↓reduceIte, reduceCtorEq, Nat.reduceEqDiff, Nat.reduceLT, Nat.reduceAdd, Nat.reduceLeDiff, Nat.reduceMul, Nat.reduceSub, Int.reduceToNat, Int.reduceLT, Int.reduceLE, Int.reduceEq, Int.reduceBNe, Nat.reduceBEq]) rfl).trans ?_
          simp (maxSteps := 1000000) -implicitDefEqProofs only [go_sem, ↓reduceIte, reduceCtorEq, Nat.reduceEqDiff, Nat.reduceLT, Nat.reduceAdd, Nat.reduceLeDiff, Nat.reduceMul, Nat.reduceSub, Int.reduceToNat, Int.reduceLT, Int.reduceLE, Int.reduceEq, Int.reduceBNe, Nat.reduceBEq, Nat.add_zero, Nat.zero_add]
          refine (weak_frzB 2 rfl rfl (fun f => by simp (maxSteps := 1000000) -implicitDefEqProofs only [go_sem, ↓reduceIte, reduceCtorEq, Nat.reduceEqDiff, Nat.reduceLT, Nat.reduceAdd, Nat.reduceLeDiff, Nat.reduceMul, Nat.reduceSub, Int.reduceToNat, Int.reduceLT, Int.reduceLE, Int.reduceEq, Int.reduceBNe, Nat.reduceBEq]) rfl).trans ?_
          simp (maxSteps := 1000000) -implicitDefEqProofs only [go_sem, ↓reduceIte, reduceCtorEq, Nat.reduceEqDiff, Nat.reduceLT, Nat.reduceAdd, Nat.reduceLeDiff, Nat.reduceMul, Nat.reduceSub, Int.reduceToNat, Int.reduceLT, Int.reduceLE, Int.reduceEq, Int.reduceBNe, Nat.reduceBEq, Nat.add_zero, Nat.zero_add]
          
          refine weak_to [29, 5, 2, 3] [0, 1] ?_ (by simp) (fun i h => by cases h)
          simp (maxSteps := 1000000) -implicitDefEqProofs only [go_sem, ↓reduceIte, reduceCtorEq, Nat.reduceEqDiff, Nat.reduceLT, Nat.reduceAdd, Nat.reduceLeDiff, Nat.reduceMul, Nat.reduceSub, Int.reduceToNat, Int.reduceLT, Int.reduceLE, Int.reduceEq, Int.reduceBNe, Nat.reduceBEq, St.keep, abO, wkF, tA, iA]
        · simp (maxSteps := 1000000) -implicitDefEqProofs only [go_sem, ↓reduceIte, reduceCtorEq, Nat.reduceEqDiff, Nat.reduceLT, Nat.reduceAdd, Nat.reduceLeDiff, Nat.reduceMul, Nat.reduceSub, Int.reduceToNat, Int.reduceLT, Int.reduceLE, Int.reduceEq, Int.reduceBNe, Nat.reduceBEq, abO, tA, iA, wkF]
          exact .inr (by unfold abA wkF tA; rfl)
  · have hf : (checkE t = 0) = False := eq_false hc
    have hE : tellE t = checkE t := by unfold tellE; rw [if_pos hc]
    rw [hE]
    generalize checkE t = e at ck hc hf
    simp (maxSteps := 1000000) -implicitDefEqProofs only [go_sem, ↓reduceIte, reduceCtorEq, Nat.reduceEqDiff, Nat.reduceLT, Nat.reduceAdd, Nat.reduceLeDiff, Nat.reduceMul, Nat.reduceSub, Int.reduceToNat, Int.reduceLT, Int.reduceLE, Int.reduceEq, Int.reduceBNe, Nat.reduceBEq, tA, iA]
    refine call_eq 1000 ck ?_ ?_ rfl
    · simp (maxSteps := 1000000) -implicitDefEqProofs only [go_sem, ↓reduceIte, reduceCtorEq, Nat.reduceEqDiff, Nat.reduceLT, Nat.reduceAdd, Nat.reduceLeDiff, Nat.reduceMul, Nat.reduceSub, Int.reduceToNat, Int.reduceLT, Int.reduceLE, Int.reduceEq, Int.reduceBNe, Nat.reduceBEq, tA, iA]
    simp (maxSteps := 1000000) -implicitDefEqProofs only [go_sem, ↓reduceIte, reduceCtorEq, Nat.reduceEqDiff, Nat.reduceLT, Nat.reduceAdd, Nat.reduceLeDiff, Nat.reduceMul, Nat.reduceSub, Int.reduceToNat, Int.reduceLT, Int.reduceLE, Int.reduceEq, Int.reduceBNe, Nat.reduceBEq, tA, iA, hf]
    exact .inl rfl
theorem tell_ok {t : List Int} (h : tellE t = 0) : checkE t = 0 ∧ t.length ≤ 4093 ∧ (progWalk t).1 = 0 ∧ 3 ≤ t.length := by
  unfold tellE at h
  by_cases hc : checkE t = 0
  · rw [if_neg (by rw [hc]; simp)] at h
    by_cases hl : 4093 < t.length
    · rw [if_pos hl] at h; cases h
    · rw [if_neg hl] at h
      have hh : headB t = true := by
        cases h : headB t with
        | true => rfl
        | false => rw [checkE_head h] at hc; cases hc
      have hlen : 3 ≤ t.length ∧ t.length ≤ 4096 := by simp only [headB, decide_eq_true_eq] at hh; omega
      exact ⟨hc, by omega, h, hlen.1⟩
  · rw [if_pos hc] at h
    exact absurd h hc
end Go.Proofs.Ytiipggfhjkalfaa
/- The constructor with a tape: the program's map of places, filled. -/
set_option linter.unusedSimpArgs false
set_option linter.unusedVariables false
set_option maxRecDepth 20000
open Go Go.Proofs
namespace Go.Proofs.Ytiipggfhjkalfaa
open Pm
attribute [local irreducible] Wait CallT CallW NextT Le Weak
/-- A walker's cells. -/
def wkC (w : Wk) : List AV := [.v (.int .i64 w.s.x), .v (.int .i64 w.s.y), .v (.int .i64 w.s.d), .fsl 3 (trA w.trail), .v (.int .i64 w.count), .fmap (mK w.onto) (mV bA w.onto), .fmap (mK w.wrote) (mV iA w.wrote), .fmap (mK w.fronts) (mV bA w.fronts), .fmap (mK w.road) (mV bA w.road), .v (.int .i64 w.long), .v (.int .i64 w.give)]
theorem wkF_eq (w : Wk) : wkF w = .fptr (wkC w) := rfl
theorem wkC_ren (f : Nat → Option Nat) (w : Wk) : AV.renL f (wkC w) = wkC w := by unfold wkC; simp (maxSteps := 1000000) -implicitDefEqProofs only [go_sem, ↓reduceIte, reduceCtorEq, Nat.reduceEqDiff, Nat.reduceLT, Nat.reduceAdd, Nat.reduceLeDiff]
theorem wkC_fz (h : List (Option Blk)) (w : Wk) : fzL h (wkC w) = wkC w := by unfold wkC; simp (maxSteps := 1000000) -implicitDefEqProofs only [go_sem, ↓reduceIte, reduceCtorEq, Nat.reduceEqDiff, Nat.reduceLT, Nat.reduceAdd, Nat.reduceLeDiff]
theorem wkC_fy (h : List (Option Blk)) (w : Wk) : fyL h (wkC w) = wkC w := by unfold wkC; simp (maxSteps := 1000000) -implicitDefEqProofs only [go_sem, ↓reduceIte, reduceCtorEq, Nat.reduceEqDiff, Nat.reduceLT, Nat.reduceAdd, Nat.reduceLeDiff]
theorem wkC_frz (id : Nat) (b : Blk) (w : Wk) : AV.frzL id b (wkC w) = wkC w := by unfold wkC; simp (maxSteps := 1000000) -implicitDefEqProofs only [go_sem, ↓reduceIte, reduceCtorEq, Nat.reduceEqDiff, Nat.reduceLT, Nat.reduceAdd, Nat.reduceLeDiff, trA_frz]
attribute [go_sem] wkC_ren wkC_fz wkC_fy wkC_frz
/-- All that is told of a tape, its cells. -/
def abC (w : Wk) (t : List Int) (N : Int) : List AV := [.fptr (wkC w), tA t, .v (.int .i64 (t.length : Int)), .v (.int .i64 N)]
theorem abA_eq (w : Wk) (t : List Int) (N : Int) : abA w t N = .agg (abC w t N) := rfl
def atA (w : Wk) (t : List Int) (N : Int) : AV := .clo (.func 60) [] [.fptr (abC w t N)]
theorem at_pc (w : Wk) (t : List Int) (N i : Int) (h1 : IntKind.i64.wrap (N - 1) = N - 1) (h2 : IntKind.i64.wrap (N - 1 - i) = N - 1 - i) : PCon Try.prog 60 [.v (.int .i64 i), .fptr (abC w t N)] (· = .v (.int .i64 (N - 1 - i))) := by
  refine pcon_run 1000 Try.func60 rfl Try.results60 Try.ntmps60 (Nat.le_of_ble_eq_true rfl) ?_
  unfold abC
  simp (maxSteps := 1000000) -implicitDefEqProofs only [go_sem, ↓reduceIte, reduceCtorEq, Nat.reduceEqDiff, Nat.reduceLT, Nat.reduceAdd, Nat.reduceLeDiff, tA, h1, h2]
theorem ringL_len (w : Nat) (h : 6 ≤ w) : (ringL w).length = 2 * w := by
  unfold ringL
  rw [List.length_append, List.length_append, ring1_len, ring2_len, ring3_len]
  omega
theorem ringL_get (w k : Nat) (h : 6 ≤ w) (hk : k < 2 * w) : (ringL w).getD k (0, 0) = ringP w k := by
  obtain ⟨a, b, ha, hb, hc⟩ := ringP_cases h hk
  unfold ringL
  rw [← ha, List.getD_eq_getElem?_getD]
  rcases hc with ⟨h1, e⟩ | ⟨h1, h1', e⟩ | ⟨h1, e⟩
  · rw [e, List.getElem?_append_left (by rw [List.length_append, ring1_len, ring2_len]; omega), List.getElem?_append_left (by rw [ring1_len]; omega)]
    unfold ring1
    rw [List.getElem?_map, List.getElem?_range (by omega)]
    rfl
  · rw [e, List.getElem?_append_left (by rw [List.length_append, ring1_len, ring2_len]; omega), List.getElem?_append_right (by rw [ring1_len]; omega), ring1_len]
    unfold ring2
    rw [List.getElem?_map, List.getElem?_range (by omega)]
    simp only [Option.map_some, Option.getD_some, Prod.mk.injEq, and_true]
    omega
  · rw [e, List.getElem?_append_right (by rw [List.length_append, ring1_len, ring2_len]; omega), List.length_append, ring1_len, ring2_len]
    unfold ring3
    rw [List.getElem?_map, List.getElem?_range (by omega)]
    simp only [Option.map_some, Option.getD_some, Prod.mk.injEq, and_true]
    omega
theorem plL_get (l : List Pl) (k : Nat) (h : k < l.length) : (plL l).getD k .junk = .agg [.v (.int .i64 (l.getD k (0, 0)).1), .v (.int .i64 (l.getD k (0, 0)).2)] := by simp [plL, List.getD_eq_getElem?_getD, h]
/-- The constructor's map with a part of the tape. -/
def tpL (w : Nat) (t : List Int) : Nat → List Ce
  | 0 => let a : Int := (((w - 1) / 2 : Nat) : Int)
    let M := aput (ringP w 0) (setS (aget 0 (ringP w 0) (bodyL w)) 5 1) (bodyL w)
    aput (a, 3) (setS (aget 0 (a, 3) M) 5 1) M
  | k + 1 => aput (ringP w (2 * w - 1 - k)) (setS (aget 0 (ringP w (2 * w - 1 - k)) (tpL w t k)) 3 (t.getD k 0)) (tpL w t k)
end Go.Proofs.Ytiipggfhjkalfaa
/- The constructor with a tape: filled. -/
set_option linter.unusedSimpArgs false
set_option linter.unusedVariables false
set_option maxRecDepth 20000
open Go Go.Proofs
namespace Go.Proofs.Ytiipggfhjkalfaa
open Pm
attribute [local irreducible] Wait CallT CallW NextT Le Weak
def flS (w : Nat) (v : Wk) (t : List Int) (N : Int) (k : Nat) : St := ⟨69, 0, [(47, .v (.int .i64 (k : Int))), (46, .v (.int .i64 (t.length : Int))), (45, tA t), (1, .v (.int .i64 0)), (2, atA v t N), (9, .map 0), (10, .fsl 2 (plL (ringL w)))], [some (.mp (mE iA (tpL w t k)))]⟩
theorem filled_pc (w : Nat) (v : Wk) (t : List Int) (h : 6 ≤ w) (h' : w ≤ 4096) (hw : w = t.length + 3) (hb : ∀ p, aget 0 p (bodyL w) ≤ 9223372036854775807) (hj : aget 0 ((((w - 1) / 2 : Nat) : Int), 3) (aput (ringP w 0) (setS (aget 0 (ringP w 0) (bodyL w)) 5 1) (bodyL w)) ≤ 9223372036854775807) (ht : ∀ k, k < t.length → aget 0 (ringP w (2 * w - 1 - k)) (tpL w t k) ≤ 9223372036854775807) :
    PCon Try.prog 59 [abA v t ((2 * w : Nat) : Int), .v (.int .i64 0), atA v t ((2 * w : Nat) : Int), .v (.func (.func 61) #[] #[])] (· = .fmap (mK (tpL w t t.length)) (mV iA (tpL w t t.length))) := by
  refine pcon_run 1000 Try.func59 rfl Try.results59 Try.ntmps59 (Nat.le_of_ble_eq_true rfl) ?_
  have bc := body_con w h h'
  have rc := ring_pc w h h'
  have rt := root_pc w h h'
  have hrl := ringL_len w h
  have hrg := fun k hk => ringL_get w k h hk
  obtain ⟨N, hN⟩ : ∃ N : Int, N = ((2 * w : Nat) : Int) := ⟨_, rfl⟩
  simp only [rgA, ← hN] at bc rc rt ⊢
  obtain ⟨a, ha⟩ : ∃ a, a = (w - 1) / 2 := ⟨_, rfl⟩
  rw [← ha] at rt hj
  have q0 := with_ph (aget 0 (ringP w 0) (bodyL w)) (hb _)
  have q1 := with_jn _ hj
  have g0 : (plL (ringL w)).getD 0 .junk = .agg [.v (.int .i64 (ringP w 0).1), .v (.int .i64 (ringP w 0).2)] := by rw [plL_get _ _ (by omega), hrg 0 (by omega)]
  have n0 : (0 < (plL (ringL w)).length) = True := eq_true (by rw [plL_len]; omega)
  have n1 : ((0 : Int) < ((plL (ringL w)).length : Int)) = True := eq_true (by rw [plL_len]; omega)
  have n2 : (0 < (ringL w).length) = True := eq_true (by omega)
  have n3 : ((0 : Int) < ((ringL w).length : Int)) = True := eq_true (by omega)
  have htp0 : tpL w t 0 = aput ((a : Int), 3) (setS (aget 0 ((a : Int), 3) (aput (ringP w 0) (setS (aget 0 (ringP w 0) (bodyL w)) 5 1) (bodyL w))) 5 1) (aput (ringP w 0) (setS (aget 0 (ringP w 0) (bodyL w)) 5 1) (bodyL w)) := by rw [ha]; rfl
  obtain ⟨P, hP⟩ : ∃ P, P = ringP w 0 := ⟨_, rfl⟩
  rw [← hP] at q0 q1 g0 htp0
  obtain ⟨px, py⟩ := P
  simp only at g0
  simp (maxSteps := 1000000) -implicitDefEqProofs only [go_sem, ↓reduceIte, reduceCtorEq, Nat.reduceEqDiff, Nat.reduceLT, Nat.reduceAdd, Nat.reduceLeDiff, abA_eq, abC, atA, tA]
  (repeat' (first | exact trivial | contradiction | exact ⟨_, rfl⟩ | refine And.intro ?_ ?_ | ((first | show (_ : Nat) ≤ _ | show (_ : Nat) < _ | show (_ : Int) ≤ _ | show (_ : Int) < _); omega) | (refine wait_drawH [0, 1, 3, 4, 2, 5, 6, 7] (fun id => id == 2 + hardK) 1000 mixed (by decide +kernel) ?_; simp (maxSteps := 1000000) -implicitDefEqProofs only [go_sem, ↓reduceIte, reduceCtorEq, Nat.reduceEqDiff, Nat.reduceLT, Nat.reduceAdd, Nat.reduceLeDiff]) | ((first | refine call_draw_new 1000 (bc) (by decide +kernel) ?_ rfl ?_ | refine call_eq 1000 (rc) ?_ ?_ rfl | refine call_draw 1000 (rc) ?_ ?_); (focus (simp (maxSteps := 1000000) -implicitDefEqProofs only [go_sem, ↓reduceIte, reduceCtorEq, Nat.reduceEqDiff, Nat.reduceLT, Nat.reduceAdd, Nat.reduceLeDiff]; done)); simp (maxSteps := 1000000) -implicitDefEqProofs only [go_sem, ↓reduceIte, reduceCtorEq, Nat.reduceEqDiff, Nat.reduceLT, Nat.reduceAdd, Nat.reduceLeDiff]) | intro _))
  (repeat' (first | exact trivial | contradiction | exact ⟨_, rfl⟩ | refine And.intro ?_ ?_ | ((first | show (_ : Nat) ≤ _ | show (_ : Nat) < _ | show (_ : Int) ≤ _ | show (_ : Int) < _); omega) | (refine wait_draw 1000 mixed (by decide +kernel) ?_; simp (maxSteps := 1000000) -implicitDefEqProofs only [go_sem, ↓reduceIte, reduceCtorEq, Nat.reduceEqDiff, Nat.reduceLT, Nat.reduceAdd, Nat.reduceLeDiff, g0, n0, n1, n2, n3]) | (refine call_eq 1000 (q0) ?_ ?_ rfl; (focus (simp (maxSteps := 1000000) -implicitDefEqProofs only [go_sem, ↓reduceIte, reduceCtorEq, Nat.reduceEqDiff, Nat.reduceLT, Nat.reduceAdd, Nat.reduceLeDiff, g0, n0, n1, n2, n3]; done)); simp (maxSteps := 1000000) -implicitDefEqProofs only [go_sem, ↓reduceIte, reduceCtorEq, Nat.reduceEqDiff, Nat.reduceLT, Nat.reduceAdd, Nat.reduceLeDiff, g0, n0, n1, n2, n3]) | (refine call_draw 1000 (q0) ?_ ?_; (focus (simp (maxSteps := 1000000) -implicitDefEqProofs only [go_sem, ↓reduceIte, reduceCtorEq, Nat.reduceEqDiff, Nat.reduceLT, Nat.reduceAdd, Nat.reduceLeDiff, g0, n0, n1, n2, n3]; done)); simp (maxSteps := 1000000) -implicitDefEqProofs only [go_sem, ↓reduceIte, reduceCtorEq, Nat.reduceEqDiff, Nat.reduceLT, Nat.reduceAdd, Nat.reduceLeDiff, g0, n0, n1, n2, n3]) | (refine call_eq 1000 (rt) ?_ ?_ rfl; (focus (simp (maxSteps := 1000000) -implicitDefEqProofs only [go_sem, ↓reduceIte, reduceCtorEq, Nat.reduceEqDiff, Nat.reduceLT, Nat.reduceAdd, Nat.reduceLeDiff, g0, n0, n1, n2, n3]; done)); simp (maxSteps := 1000000) -implicitDefEqProofs only [go_sem, ↓reduceIte, reduceCtorEq, Nat.reduceEqDiff, Nat.reduceLT, Nat.reduceAdd, Nat.reduceLeDiff, g0, n0, n1, n2, n3]) | (refine call_draw 1000 (rt) ?_ ?_; (focus (simp (maxSteps := 1000000) -implicitDefEqProofs only [go_sem, ↓reduceIte, reduceCtorEq, Nat.reduceEqDiff, Nat.reduceLT, Nat.reduceAdd, Nat.reduceLeDiff, g0, n0, n1, n2, n3]; done)); simp (maxSteps := 1000000) -implicitDefEqProofs only [go_sem, ↓reduceIte, reduceCtorEq, Nat.reduceEqDiff, Nat.reduceLT, Nat.reduceAdd, Nat.reduceLeDiff, g0, n0, n1, n2, n3]) | (refine call_eq 1000 (q1) ?_ ?_ rfl; (focus (simp (maxSteps := 1000000) -implicitDefEqProofs only [go_sem, ↓reduceIte, reduceCtorEq, Nat.reduceEqDiff, Nat.reduceLT, Nat.reduceAdd, Nat.reduceLeDiff, g0, n0, n1, n2, n3]; done)); simp (maxSteps := 1000000) -implicitDefEqProofs only [go_sem, ↓reduceIte, reduceCtorEq, Nat.reduceEqDiff, Nat.reduceLT, Nat.reduceAdd, Nat.reduceLeDiff, g0, n0, n1, n2, n3]) | (refine call_draw 1000 (q1) ?_ ?_; (focus (simp (maxSteps := 1000000) -implicitDefEqProofs only [go_sem, ↓reduceIte, reduceCtorEq, Nat.reduceEqDiff, Nat.reduceLT, Nat.reduceAdd, Nat.reduceLeDiff, g0, n0, n1, n2, n3]; done)); simp (maxSteps := 1000000) -implicitDefEqProofs only [go_sem, ↓reduceIte, reduceCtorEq, Nat.reduceEqDiff, Nat.reduceLT, Nat.reduceAdd, Nat.reduceLeDiff, g0, n0, n1, n2, n3]) | intro _))
  rw [← htp0]
  refine wait_range t.length (flS w v t N) (fun _ => True) (weak_to [47, 46, 45, 1, 2, 9, 10] [1] ?_ (by decide) (fun i h => by cases h)) trivial ?_
  · simp (maxSteps := 1000000) -implicitDefEqProofs only [go_sem, ↓reduceIte, reduceCtorEq, Nat.reduceEqDiff, Nat.reduceLT, Nat.reduceAdd, Nat.reduceLeDiff, St.keep, flS, atA, abC, tA, Int.natCast_zero]
  intro k hk _
  clear n0 n1 n2 n3 g0 htp0 q0 q1 bc rc rt hP
  by_cases hkt : k < t.length
  · refine run_sound 1000 _ _ ?_
    have h1 : ((k : Int) < (t.length : Int)) = True := eq_true (by omega)
    have h2 : (k < t.length) = True := eq_true hkt
    have e0 : IntKind.i64.wrap ((k : Int) + 0) = (k : Int) := by rw [wrap64 (by omega) (by omega)]; omega
    have hw1 : IntKind.i64.wrap ((k : Int) + 1) = ((k + 1 : Nat) : Int) := by rw [wrap64 (by omega) (by omega)]; omega
    have gs := get_tA t k hkt
    have ap := at_pc v t N (k : Int) (wrap64 (by omega) (by omega)) (wrap64 (by omega) (by omega))
    rw [show N - 1 - (k : Int) = ((2 * w - 1 - k : Nat) : Int) by omega] at ap
    obtain ⟨j, hj2⟩ : ∃ j, j = 2 * w - 1 - k := ⟨_, rfl⟩
    have gk : (plL (ringL w)).getD j .junk = .agg [.v (.int .i64 (ringP w j).1), .v (.int .i64 (ringP w j).2)] := by rw [plL_get _ _ (by omega), hrg j (by omega)]
    have m1 : (j < (ringL w).length) = True := eq_true (by omega)
    have m2 : ((j : Int) < ((ringL w).length : Int)) = True := eq_true (by omega)
    have hq := with_sy (t.getD k 0) _ (ht k hkt)
    have hs : tpL w t (k + 1) = aput (ringP w j) (setS (aget 0 (ringP w j) (tpL w t k)) 3 (t.getD k 0)) (tpL w t k) := by rw [hj2]; rfl
    rw [← hj2] at ap hq
    generalize ringP w j = P at gk hq hs
    obtain ⟨px, py⟩ := P
    simp only at gk
    simp only [abC, tA] at ap
    unfold flS
    rw [hs]
    generalize tpL w t k = M at hq ⊢
    generalize t.getD k 0 = s at gs hq ⊢
    simp (maxSteps := 1000000) -implicitDefEqProofs only [go_sem, ↓reduceIte, reduceCtorEq, Nat.reduceEqDiff, Nat.reduceLT, Nat.reduceAdd, Nat.reduceLeDiff, abC, atA, tA, h1, h2, gs, e0]
    (repeat' (first | exact trivial | contradiction | exact ⟨_, rfl⟩ | refine And.intro ?_ ?_ | ((first | show (_ : Nat) ≤ _ | show (_ : Nat) < _ | show (_ : Int) ≤ _ | show (_ : Int) < _); omega) | (refine wait_draw 1000 mixed (by decide +kernel) ?_; simp (maxSteps := 1000000) -implicitDefEqProofs only [go_sem, ↓reduceIte, reduceCtorEq, Nat.reduceEqDiff, Nat.reduceLT, Nat.reduceAdd, Nat.reduceLeDiff, abC, atA, tA, h1, h2, gs, e0, gk, m1, m2]) | ((first | refine call_eq 1000 (ap) ?_ ?_ rfl | refine call_draw 1000 (ap) ?_ ?_); (focus (simp (maxSteps := 1000000) -implicitDefEqProofs only [go_sem, ↓reduceIte, reduceCtorEq, Nat.reduceEqDiff, Nat.reduceLT, Nat.reduceAdd, Nat.reduceLeDiff, abC, atA, tA, h1, h2, gs, e0, gk, m1, m2]; done)); simp (maxSteps := 1000000) -implicitDefEqProofs only [go_sem, ↓reduceIte, reduceCtorEq, Nat.reduceEqDiff, Nat.reduceLT, Nat.reduceAdd, Nat.reduceLeDiff, abC, atA, tA, h1, h2, gs, e0, gk, m1, m2]) | ((first | refine call_eq_read 1000 (hq) ?_ ?_ ?_ rfl | refine call_draw_read 1000 (hq) ?_ ?_ ?_); (focus (simp (maxSteps := 1000000) -implicitDefEqProofs only [go_sem, ↓reduceIte, reduceCtorEq, Nat.reduceEqDiff, Nat.reduceLT, Nat.reduceAdd, Nat.reduceLeDiff, abC, atA, tA, h1, h2, gs, e0, gk, m1, m2]; done)); (focus ((first | intro ext | skip); simp (maxSteps := 1000000) -implicitDefEqProofs only [go_sem, ↓reduceIte, reduceCtorEq, Nat.reduceEqDiff, Nat.reduceLT, Nat.reduceAdd, Nat.reduceLeDiff, abC, atA, tA, h1, h2, gs, e0, gk, m1, m2]; done)); simp (maxSteps := 1000000) -implicitDefEqProofs only [go_sem, ↓reduceIte, reduceCtorEq, Nat.reduceEqDiff, Nat.reduceLT, Nat.reduceAdd, Nat.reduceLeDiff, abC, atA, tA, h1, h2, gs, e0, gk, m1, m2]) | intro _))
    all_goals
      refine weak_to [47, 46, 45, 1, 2, 9, 10] [0] ?_ (by decide) (fun i h => by cases h)
      simp (maxSteps := 1000000) -implicitDefEqProofs only [go_sem, ↓reduceIte, reduceCtorEq, Nat.reduceEqDiff, Nat.reduceLT, Nat.reduceAdd, Nat.reduceLeDiff, St.keep, hw1]
  · obtain rfl : k = t.length := by omega
    have h1 : ((t.length : Int) < (t.length : Int)) = False := eq_false (by omega)
    refine run_sound 1000 _ _ ?_
    unfold flS
    generalize tpL w t t.length = M
    simp (maxSteps := 1000000) -implicitDefEqProofs only [go_sem, ↓reduceIte, reduceCtorEq, Nat.reduceEqDiff, Nat.reduceLT, Nat.reduceAdd, Nat.reduceLeDiff, tA, atA, abC, h1]
end Go.Proofs.Ytiipggfhjkalfaa
