/- What a tape means, the document's way: a place is remembered, the walk. -/
import Derived.Test.YtiipggfhjkalfaaProg
import Derived.Test.YtiipggfhjkalfaaPmU
import Derived.Test.YtiipggfhjkalfaaRmE
set_option linter.unusedSimpArgs false
set_option linter.unusedVariables false
set_option maxRecDepth 20000
open Go Go.Proofs
namespace Go.Proofs.Ytiipggfhjkalfaa
open Pm
attribute [local irreducible] Wait CallT CallW NextT Le Weak
def spotQ (w : Rk) (p : Pl) (r : AV) (h' : List (Option Blk)) : Prop := ∃ T, TabOk T (spotW w p).K ∧ r = .v (.int .i64 (kI (spotW w p).K p)) ∧ h' = rkE (spotW w p) T
theorem spot_old {w : Rk} {p : Pl} (h : p ∈ w.K) : spotW w p = w := if_pos h
theorem spot_new {w : Rk} {p : Pl} (h : p ∉ w.K) : spotW w p = { w with K := w.K ++ [p], S := w.S ++ [0], A := w.A ++ [false], R := w.R ++ [false] } := if_neg h
theorem kI_new {K : List Pl} {p : Pl} (hn : K.Nodup) (h : p ∉ K) : kI (K ++ [p]) p = K.length := by
  refine kI_at (List.nodup_append.2 ⟨hn, by simp, fun a ha b hb => ?_⟩) (by simp)
  simp only [List.mem_singleton] at hb
  subst hb
  exact fun e => h (e ▸ ha)
theorem mfa (K : List Pl) (x y : Int) : (K ++ [(x, y)]).map Prod.fst = K.map Prod.fst ++ [x] := by simp
theorem msa (K : List Pl) (x y : Int) : (K ++ [(x, y)]).map Prod.snd = K.map Prod.snd ++ [y] := by simp
theorem spot_con (w : Rk) (T : List Int) (hT : TabOk T w.K) (hw : RkOk w) (x y : Int) (hx : -90000 ≤ x ∧ x ≤ 90000) (hy : -90000 ≤ y ∧ y ≤ 90000) (hsz : w.at_.length < 1000000000) :
    Con Try.prog 75 [.ptr 0 16 0 0, .v (.int .i64 x), .v (.int .i64 y)] (rkS w T) (spotQ w (x, y)) := by
  have hlo := hT.lo
  have hpos := hT.tab.pos
  have hup := hT.up
  have hsm := hw.sm
  refine Con.move (con_run 1000 Try.func75 rfl Try.results75 Try.ntmps75 (Nat.le_of_ble_eq_true rfl) ?_)
  have e1 : IntKind.i64.wrap (2 * (w.K.length : Int)) = 2 * (w.K.length : Int) := wrap64 (by omega) (by omega)
  have hwS := hw.s
  have hwA := hw.a
  have hwR := hw.r
  by_cases hbig : T.length ≤ 2 * w.K.length
  · have hb1 : ((T.length : Int) ≤ 2 * (w.K.length : Int)) = True := eq_true (by omega)
    have e2 : IntKind.i64.wrap (2 * (T.length : Int)) = 2 * (T.length : Int) := wrap64 (by omega) (by omega)
    have e3 : IntKind.i64.wrap (2 * (T.length : Int) + 64) = ((2 * T.length + 64 : Nat) : Int) := by rw [wrap64 (by omega) (by omega)]; omega
    simp (maxSteps := 1000000) -implicitDefEqProofs only [go_sem, ↓reduceIte, reduceCtorEq, Nat.reduceEqDiff, Nat.reduceLT, Nat.reduceAdd, Nat.reduceLeDiff, Nat.reduceMul, Nat.reduceSub, Int.reduceToNat, Int.reduceLT, Int.reduceLE, Int.reduceEq, Int.reduceBNe, Nat.reduceBEq, rkS, rkB, intB, longB, boolB, e1]
    (repeat' (first | exact trivial | contradiction | exact ⟨_, rfl⟩ | refine And.intro ?_ ?_ | ((first | show (_ : Nat) ≤ _ | show (_ : Nat) < _ | show (_ : Int) ≤ _ | show (_ : Int) < _); omega) | (refine wait_draw 1000 mixed (by decide +kernel) ?_; simp (maxSteps := 1000000) -implicitDefEqProofs only [go_sem, ↓reduceIte, reduceCtorEq, Nat.reduceEqDiff, Nat.reduceLT, Nat.reduceAdd, Nat.reduceLeDiff, Nat.reduceMul, Nat.reduceSub, Int.reduceToNat, Int.reduceLT, Int.reduceLE, Int.reduceEq, Int.reduceBNe, Nat.reduceBEq , rkS, rkB, intB, longB, boolB, e1, e2, e3, hb1]) | intro _))
    refine call_con 0 [0, 1, 2, 3, 4, 5, 6, 7, 8, 9, 10, 11] (wide_con w T (2 * T.length + 64) (by omega) (by omega) hw.nd hw.b) ?_ ?_ (by simp) (by simp) rfl ?_
    · simp (maxSteps := 1000000) -implicitDefEqProofs only [go_sem, ↓reduceIte, reduceCtorEq, Nat.reduceEqDiff, Nat.reduceLT, Nat.reduceAdd, Nat.reduceLeDiff, Nat.reduceMul, Nat.reduceSub, Int.reduceToNat, Int.reduceLT, Int.reduceLE, Int.reduceEq, Int.reduceBNe, Nat.reduceBEq]
    · simp (maxSteps := 1000000) -implicitDefEqProofs only [go_sem, ↓reduceIte, reduceCtorEq, Nat.reduceEqDiff, Nat.reduceLT, Nat.reduceAdd, Nat.reduceLeDiff, Nat.reduceMul, Nat.reduceSub, Int.reduceToNat, Int.reduceLT, Int.reduceLE, Int.reduceEq, Int.reduceBNe, Nat.reduceBEq, rkS, rkB, intB, longB, boolB]
    rintro r hcal ⟨T1, hT1, hl1, hn1, rfl, rfl⟩
    refine ⟨by simp [rkN], ?_⟩
    have hTo : TabOk T1 w.K := ⟨hT1, fun h hh => hn1 h (by omega), by omega, by omega⟩
    obtain ⟨z, hz, hs, hold, hnew⟩ := slot_ok w T1 hTo hw x y hx hy
    simp only [rkR] at hs
    have hlt1 : (z < T1.length) = True := eq_true hz
    have hlt2 : ((z : Int) < (T1.length : Int)) = True := eq_true (by omega)
    have hlt3 : (z < (T1.set z (w.K.length : Int)).length) = True := by rw [List.length_set]; exact hlt1
    have hlt4 : ((z : Int) < ((T1.set z (w.K.length : Int)).length : Int)) = True := by rw [List.length_set]; exact hlt2
    have g0 := get_tA T1 z hz
    by_cases hm : (x, y) ∈ w.K
    · rw [hold hm] at g0
      obtain ⟨i, hi, hi2, -⟩ := kI_mem hm
      have hneg : (kI w.K (x, y) < 0) = False := eq_false (by omega)
      refine run_again 1000 ?_
      simp (maxSteps := 1000000) -implicitDefEqProofs only [go_sem, ↓reduceIte, reduceCtorEq, Nat.reduceEqDiff, Nat.reduceLT, Nat.reduceAdd, Nat.reduceLeDiff, Nat.reduceMul, Nat.reduceSub, Int.reduceToNat, Int.reduceLT, Int.reduceLE, Int.reduceEq, Int.reduceBNe, Nat.reduceBEq, rkS, rkN, rkB, intB, longB, boolB, e1]
      (repeat' (first | exact trivial | contradiction | exact ⟨_, rfl⟩ | refine And.intro ?_ ?_ | ((first | show (_ : Nat) ≤ _ | show (_ : Nat) < _ | show (_ : Int) ≤ _ | show (_ : Int) < _); omega) | (refine wait_draw 1000 mixed (by decide +kernel) ?_; simp (maxSteps := 1000000) -implicitDefEqProofs only [go_sem, ↓reduceIte, reduceCtorEq, Nat.reduceEqDiff, Nat.reduceLT, Nat.reduceAdd, Nat.reduceLeDiff, Nat.reduceMul, Nat.reduceSub, Int.reduceToNat, Int.reduceLT, Int.reduceLE, Int.reduceEq, Int.reduceBNe, Nat.reduceBEq, rkS, rkN, rkB, intB, longB, boolB, e1, hb1, hlt1, hlt2, g0, hneg]) | ((first | refine call_eq_read 1000 (hs) ?_ ?_ ?_ rfl | refine call_draw_read 1000 (hs) ?_ ?_ ?_); (focus (simp (maxSteps := 1000000) -implicitDefEqProofs only [go_sem, ↓reduceIte, reduceCtorEq, Nat.reduceEqDiff, Nat.reduceLT, Nat.reduceAdd, Nat.reduceLeDiff, Nat.reduceMul, Nat.reduceSub, Int.reduceToNat, Int.reduceLT, Int.reduceLE, Int.reduceEq, Int.reduceBNe, Nat.reduceBEq, rkS, rkN, rkB, intB, longB, boolB, e1, hb1, hlt1, hlt2, g0, hneg]; done)); (focus ((first | intro ext | skip); simp (maxSteps := 1000000) -implicitDefEqProofs only [go_sem, ↓reduceIte, reduceCtorEq, Nat.reduceEqDiff, Nat.reduceLT, Nat.reduceAdd, Nat.reduceLeDiff, Nat.reduceMul, Nat.reduceSub, Int.reduceToNat, Int.reduceLT, Int.reduceLE, Int.reduceEq, Int.reduceBNe, Nat.reduceBEq, rkS, rkN, rkB, intB, longB, boolB, e1, hb1, hlt1, hlt2, g0, hneg]; done)); simp (maxSteps := 1000000) -implicitDefEqProofs only [go_sem, ↓reduceIte, reduceCtorEq, Nat.reduceEqDiff, Nat.reduceLT, Nat.reduceAdd, Nat.reduceLeDiff, Nat.reduceMul, Nat.reduceSub, Int.reduceToNat, Int.reduceLT, Int.reduceLE, Int.reduceEq, Int.reduceBNe, Nat.reduceBEq, rkS, rkN, rkB, intB, longB, boolB, e1, hb1, hlt1, hlt2, g0, hneg]) | intro _))
      refine ⟨[0, 100, 101, 102, 103, 104, 105, 106, 107, 108, 109, 110, 12, 2, 3, 4, 5, 6, 7, 8, 9, 10, 11], by decide, rfl, T1, by rw [spot_old hm]; exact hTo, by rw [spot_old hm], ?_⟩
      rw [spot_old hm]
      simp (maxSteps := 1000000) -implicitDefEqProofs only [go_sem, ↓reduceIte, reduceCtorEq, Nat.reduceEqDiff, Nat.reduceLT, Nat.reduceAdd, Nat.reduceLeDiff, Nat.reduceMul, Nat.reduceSub, Int.reduceToNat, Int.reduceLT, Int.reduceLE, Int.reduceEq, Int.reduceBNe, Nat.reduceBEq, rkE, rkB, intB, longB, boolB]
    · obtain ⟨hz1, hT2⟩ := hnew hm
      have hT2 := hT2 (by omega)
      rw [hz1] at g0
      have g1 : ((T1.set z (w.K.length : Int)).map iA).getD z .junk = .v (.int .i64 (w.K.length : Int)) := by
        rw [get_tA _ _ (by rw [List.length_set]; exact hz)]; simp [List.getD_eq_getElem?_getD, hz]
      refine run_again 1000 ?_
      simp (maxSteps := 1000000) -implicitDefEqProofs only [go_sem, ↓reduceIte, reduceCtorEq, Nat.reduceEqDiff, Nat.reduceLT, Nat.reduceAdd, Nat.reduceLeDiff, Nat.reduceMul, Nat.reduceSub, Int.reduceToNat, Int.reduceLT, Int.reduceLE, Int.reduceEq, Int.reduceBNe, Nat.reduceBEq, rkS, rkN, rkB, intB, longB, boolB, e1]
      (repeat' (first | exact trivial | contradiction | exact ⟨_, rfl⟩ | refine And.intro ?_ ?_ | ((first | show (_ : Nat) ≤ _ | show (_ : Nat) < _ | show (_ : Int) ≤ _ | show (_ : Int) < _); omega) | (refine wait_draw 1000 mixed (by decide +kernel) ?_; simp (maxSteps := 1000000) -implicitDefEqProofs only [go_sem, ↓reduceIte, reduceCtorEq, Nat.reduceEqDiff, Nat.reduceLT, Nat.reduceAdd, Nat.reduceLeDiff, Nat.reduceMul, Nat.reduceSub, Int.reduceToNat, Int.reduceLT, Int.reduceLE, Int.reduceEq, Int.reduceBNe, Nat.reduceBEq, rkS, rkN, rkB, intB, longB, boolB, e1, hb1, hlt1, hlt2, hlt3, hlt4, g0, g1]) | ((first | refine call_eq_read 1000 (hs) ?_ ?_ ?_ rfl | refine call_draw_read 1000 (hs) ?_ ?_ ?_); (focus (simp (maxSteps := 1000000) -implicitDefEqProofs only [go_sem, ↓reduceIte, reduceCtorEq, Nat.reduceEqDiff, Nat.reduceLT, Nat.reduceAdd, Nat.reduceLeDiff, Nat.reduceMul, Nat.reduceSub, Int.reduceToNat, Int.reduceLT, Int.reduceLE, Int.reduceEq, Int.reduceBNe, Nat.reduceBEq, rkS, rkN, rkB, intB, longB, boolB, e1, hb1, hlt1, hlt2, hlt3, hlt4, g0, g1]; done)); (focus ((first | intro ext | skip); simp (maxSteps := 1000000) -implicitDefEqProofs only [go_sem, ↓reduceIte, reduceCtorEq, Nat.reduceEqDiff, Nat.reduceLT, Nat.reduceAdd, Nat.reduceLeDiff, Nat.reduceMul, Nat.reduceSub, Int.reduceToNat, Int.reduceLT, Int.reduceLE, Int.reduceEq, Int.reduceBNe, Nat.reduceBEq, rkS, rkN, rkB, intB, longB, boolB, e1, hb1, hlt1, hlt2, hlt3, hlt4, g0, g1]; done)); simp (maxSteps := 1000000) -implicitDefEqProofs only [go_sem, ↓reduceIte, reduceCtorEq, Nat.reduceEqDiff, Nat.reduceLT, Nat.reduceAdd, Nat.reduceLeDiff, Nat.reduceMul, Nat.reduceSub, Int.reduceToNat, Int.reduceLT, Int.reduceLE, Int.reduceEq, Int.reduceBNe, Nat.reduceBEq, rkS, rkN, rkB, intB, longB, boolB, e1, hb1, hlt1, hlt2, hlt3, hlt4, g0, g1]) | intro _))
      all_goals (try exact hlt3.mpr trivial)
      all_goals (try omega)
      refine ⟨[0, 100, 101, 102, 103, 104, 105, 106, 107, 108, 109, 110, 12, 14, 16, 18, 20, 22, 7, 8, 9, 10, 11], by decide, rfl, T1.set z (w.K.length : Int), by rw [spot_new hm]; exact hT2, by rw [spot_new hm]; simp only [kI_new hw.nd hm], ?_⟩
      rw [spot_new hm]
      simp (maxSteps := 1000000) -implicitDefEqProofs only [go_sem, ↓reduceIte, reduceCtorEq, Nat.reduceEqDiff, Nat.reduceLT, Nat.reduceAdd, Nat.reduceLeDiff, Nat.reduceMul, Nat.reduceSub, Int.reduceToNat, Int.reduceLT, Int.reduceLE, Int.reduceEq, Int.reduceBNe, Nat.reduceBEq, rkE, rkB, intB, longB, boolB, List.length_set, List.length_append, mfa, msa]
  · have hb1 : ((T.length : Int) ≤ 2 * (w.K.length : Int)) = False := eq_false (by omega)
    obtain ⟨z, hz, hs, hold, hnew⟩ := slot_ok w T hT hw x y hx hy
    simp only [rkR] at hs
    have hlt1 : (z < T.length) = True := eq_true hz
    have hlt2 : ((z : Int) < (T.length : Int)) = True := eq_true (by omega)
    have hlt3 : (z < (T.set z (w.K.length : Int)).length) = True := by rw [List.length_set]; exact hlt1
    have hlt4 : ((z : Int) < ((T.set z (w.K.length : Int)).length : Int)) = True := by rw [List.length_set]; exact hlt2
    have g0 := get_tA T z hz
    by_cases hm : (x, y) ∈ w.K
    · rw [hold hm] at g0
      obtain ⟨i, hi, hi2, -⟩ := kI_mem hm
      have hneg : (kI w.K (x, y) < 0) = False := eq_false (by omega)
      skip
      simp (maxSteps := 1000000) -implicitDefEqProofs only [go_sem, ↓reduceIte, reduceCtorEq, Nat.reduceEqDiff, Nat.reduceLT, Nat.reduceAdd, Nat.reduceLeDiff, Nat.reduceMul, Nat.reduceSub, Int.reduceToNat, Int.reduceLT, Int.reduceLE, Int.reduceEq, Int.reduceBNe, Nat.reduceBEq, rkS, rkN, rkB, intB, longB, boolB, e1]
      (repeat' (first | exact trivial | contradiction | exact ⟨_, rfl⟩ | refine And.intro ?_ ?_ | ((first | show (_ : Nat) ≤ _ | show (_ : Nat) < _ | show (_ : Int) ≤ _ | show (_ : Int) < _); omega) | (refine wait_draw 1000 mixed (by decide +kernel) ?_; simp (maxSteps := 1000000) -implicitDefEqProofs only [go_sem, ↓reduceIte, reduceCtorEq, Nat.reduceEqDiff, Nat.reduceLT, Nat.reduceAdd, Nat.reduceLeDiff, Nat.reduceMul, Nat.reduceSub, Int.reduceToNat, Int.reduceLT, Int.reduceLE, Int.reduceEq, Int.reduceBNe, Nat.reduceBEq, rkS, rkN, rkB, intB, longB, boolB, e1, hb1, hlt1, hlt2, g0, hneg]) | ((first | refine call_eq_read 1000 (hs) ?_ ?_ ?_ rfl | refine call_draw_read 1000 (hs) ?_ ?_ ?_); (focus (simp (maxSteps := 1000000) -implicitDefEqProofs only [go_sem, ↓reduceIte, reduceCtorEq, Nat.reduceEqDiff, Nat.reduceLT, Nat.reduceAdd, Nat.reduceLeDiff, Nat.reduceMul, Nat.reduceSub, Int.reduceToNat, Int.reduceLT, Int.reduceLE, Int.reduceEq, Int.reduceBNe, Nat.reduceBEq, rkS, rkN, rkB, intB, longB, boolB, e1, hb1, hlt1, hlt2, g0, hneg]; done)); (focus ((first | intro ext | skip); simp (maxSteps := 1000000) -implicitDefEqProofs only [go_sem, ↓reduceIte, reduceCtorEq, Nat.reduceEqDiff, Nat.reduceLT, Nat.reduceAdd, Nat.reduceLeDiff, Nat.reduceMul, Nat.reduceSub, Int.reduceToNat, Int.reduceLT, Int.reduceLE, Int.reduceEq, Int.reduceBNe, Nat.reduceBEq, rkS, rkN, rkB, intB, longB, boolB, e1, hb1, hlt1, hlt2, g0, hneg]; done)); simp (maxSteps := 1000000) -implicitDefEqProofs only [go_sem, ↓reduceIte, reduceCtorEq, Nat.reduceEqDiff, Nat.reduceLT, Nat.reduceAdd, Nat.reduceLeDiff, Nat.reduceMul, Nat.reduceSub, Int.reduceToNat, Int.reduceLT, Int.reduceLE, Int.reduceEq, Int.reduceBNe, Nat.reduceBEq, rkS, rkN, rkB, intB, longB, boolB, e1, hb1, hlt1, hlt2, g0, hneg]) | intro _))
      refine ⟨[0, 100, 101, 102, 103, 104, 105, 106, 107, 108, 109, 110, 1, 2, 3, 4, 5, 6, 7, 8, 9, 10, 11], by decide, rfl, T, by rw [spot_old hm]; exact hT, by rw [spot_old hm], ?_⟩
      rw [spot_old hm]
      simp (maxSteps := 1000000) -implicitDefEqProofs only [go_sem, ↓reduceIte, reduceCtorEq, Nat.reduceEqDiff, Nat.reduceLT, Nat.reduceAdd, Nat.reduceLeDiff, Nat.reduceMul, Nat.reduceSub, Int.reduceToNat, Int.reduceLT, Int.reduceLE, Int.reduceEq, Int.reduceBNe, Nat.reduceBEq, rkE, rkB, intB, longB, boolB]
    · obtain ⟨hz1, hT2⟩ := hnew hm
      have hT2 := hT2 (by omega)
      rw [hz1] at g0
      have g1 : ((T.set z (w.K.length : Int)).map iA).getD z .junk = .v (.int .i64 (w.K.length : Int)) := by
        rw [get_tA _ _ (by rw [List.length_set]; exact hz)]; simp [List.getD_eq_getElem?_getD, hz]
      skip
      simp (maxSteps := 1000000) -implicitDefEqProofs only [go_sem, ↓reduceIte, reduceCtorEq, Nat.reduceEqDiff, Nat.reduceLT, Nat.reduceAdd, Nat.reduceLeDiff, Nat.reduceMul, Nat.reduceSub, Int.reduceToNat, Int.reduceLT, Int.reduceLE, Int.reduceEq, Int.reduceBNe, Nat.reduceBEq, rkS, rkN, rkB, intB, longB, boolB, e1]
      (repeat' (first | exact trivial | contradiction | exact ⟨_, rfl⟩ | refine And.intro ?_ ?_ | ((first | show (_ : Nat) ≤ _ | show (_ : Nat) < _ | show (_ : Int) ≤ _ | show (_ : Int) < _); omega) | (refine wait_draw 1000 mixed (by decide +kernel) ?_; simp (maxSteps := 1000000) -implicitDefEqProofs only [go_sem, ↓reduceIte, reduceCtorEq, Nat.reduceEqDiff, Nat.reduceLT, Nat.reduceAdd, Nat.reduceLeDiff, Nat.reduceMul, Nat.reduceSub, Int.reduceToNat, Int.reduceLT, Int.reduceLE, Int.reduceEq, Int.reduceBNe, Nat.reduceBEq, rkS, rkN, rkB, intB, longB, boolB, e1, hb1, hlt1, hlt2, hlt3, hlt4, g0, g1]) | ((first | refine call_eq_read 1000 (hs) ?_ ?_ ?_ rfl | refine call_draw_read 1000 (hs) ?_ ?_ ?_); (focus (simp (maxSteps := 1000000) -implicitDefEqProofs only [go_sem, ↓reduceIte, reduceCtorEq, Nat.reduceEqDiff, Nat.reduceLT, Nat.reduceAdd, Nat.reduceLeDiff, Nat.reduceMul, Nat.reduceSub, Int.reduceToNat, Int.reduceLT, Int.reduceLE, Int.reduceEq, Int.reduceBNe, Nat.reduceBEq, rkS, rkN, rkB, intB, longB, boolB, e1, hb1, hlt1, hlt2, hlt3, hlt4, g0, g1]; done)); (focus ((first | intro ext | skip); simp (maxSteps := 1000000) -implicitDefEqProofs only [go_sem, ↓reduceIte, reduceCtorEq, Nat.reduceEqDiff, Nat.reduceLT, Nat.reduceAdd, Nat.reduceLeDiff, Nat.reduceMul, Nat.reduceSub, Int.reduceToNat, Int.reduceLT, Int.reduceLE, Int.reduceEq, Int.reduceBNe, Nat.reduceBEq, rkS, rkN, rkB, intB, longB, boolB, e1, hb1, hlt1, hlt2, hlt3, hlt4, g0, g1]; done)); simp (maxSteps := 1000000) -implicitDefEqProofs only [go_sem, ↓reduceIte, reduceCtorEq, Nat.reduceEqDiff, Nat.reduceLT, Nat.reduceAdd, Nat.reduceLeDiff, Nat.reduceMul, Nat.reduceSub, Int.reduceToNat, Int.reduceLT, Int.reduceLE, Int.reduceEq, Int.reduceBNe, Nat.reduceBEq, rkS, rkN, rkB, intB, longB, boolB, e1, hb1, hlt1, hlt2, hlt3, hlt4, g0, g1]) | intro _))
      all_goals (try exact hlt3.mpr trivial)
      all_goals (try omega)
      refine ⟨[0, 100, 101, 102, 103, 104, 105, 106, 107, 108, 109, 110, 1, 13, 15, 17, 19, 21, 7, 8, 9, 10, 11], by decide, rfl, T.set z (w.K.length : Int), by rw [spot_new hm]; exact hT2, by rw [spot_new hm]; simp only [kI_new hw.nd hm], ?_⟩
      rw [spot_new hm]
      simp (maxSteps := 1000000) -implicitDefEqProofs only [go_sem, ↓reduceIte, reduceCtorEq, Nat.reduceEqDiff, Nat.reduceLT, Nat.reduceAdd, Nat.reduceLeDiff, Nat.reduceMul, Nat.reduceSub, Int.reduceToNat, Int.reduceLT, Int.reduceLE, Int.reduceEq, Int.reduceBNe, Nat.reduceBEq, rkE, rkB, intB, longB, boolB, List.length_set, List.length_append, mfa, msa]
end Go.Proofs.Ytiipggfhjkalfaa
