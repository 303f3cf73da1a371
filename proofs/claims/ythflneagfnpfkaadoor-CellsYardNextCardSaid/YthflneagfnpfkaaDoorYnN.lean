/- The yard's step: the reference's void. -/
import Derived.Test.YthflneagfnpfkaaDoorProg
import Derived.Test.YthflneagfnpfkaaDoorPmU
import Derived.Test.YthflneagfnpfkaaDoorYnM
set_option linter.unusedSimpArgs false
set_option linter.unusedVariables false
set_option maxRecDepth 20000
open Go Go.Proofs
namespace Go.Proofs.YthflneagfnpfkaaDoor
open Pm
attribute [local irreducible] Wait CallT CallW Le Weak
def comeR (v : Nb) (d : Int) : Bool := decide ((v.at d).k = 11 ∨ (v.at d).k = 15) && aimsM v d
def bornR (f : Y) : Y := if f.k = 11 then (if 1 < f.c then { headY f.d with p := 2, a := 5, c := f.c - 1 } else headY f.d) else { headY f.d with p := 1 }
def cntR (v : Nb) : Nat → Int
  | 0 => 0
  | n + 1 => if comeR v n = true then cntR v n + 1 else cntR v n
def frmR (v : Nb) : Nat → Y
  | 0 => zeroY
  | n + 1 => if comeR v n = true then bornR (v.at n) else frmR v n
theorem cntR_bd (v : Nb) : ∀ n, 0 ≤ cntR v n ∧ cntR v n ≤ n
  | 0 => by simp [cntR]
  | n + 1 => by
    have := cntR_bd v n
    unfold cntR
    split <;> omega
def voidR (v : Nb) : Y := if cntR v 4 = 1 then frmR v 4 else zeroY
set_option maxHeartbeats 2000000 in
theorem rvoid_pc (c : Y) (v : Nb) (hv : WN v) : PCon Tryd.prog 11 [NearA c v] (· = YA (voidR v)) := by
  refine pcon_run 1000 Tryd.func11 rfl Tryd.results11 Tryd.ntmps11 (Nat.le_of_ble_eq_true rfl) ?_
  simp (maxSteps := 1000000) -implicitDefEqProofs only [go_sem, ↓reduceIte, reduceCtorEq, Nat.reduceEqDiff, Nat.reduceLT, Nat.reduceAdd, Nat.reduceLeDiff, Nat.reduceMul, Nat.reduceSub, Nat.reduceDiv, Nat.reduceMod, Int.reduceToNat, Int.reduceLT, Int.reduceLE, Int.reduceEq, Int.reduceAdd, Int.reduceSub, Int.reduceMul, Int.reduceNeg, Int.reduceTMod, Int.reduceTDiv, Int.reduceMod, Int.reduceDiv, Int.reduceBEq, Int.reduceBNe, Nat.reduceBEq, NearA, cells10, iA, cellsN_len, onesN]
  refine wait_range 4 (fun k => ⟨52, 0, [(1, .ptr 0 50 0 0), (2, .ptr 1 10 0 0), (3, iA (cntR v k)), (4, .ptr 2 10 0 0), (5, iA k)], [some (.row 44 50 [NearA c v]), some (.row 29 10 [YA zeroY]), some (.row 29 10 [YA (frmR v k)])]⟩) (fun k => True) (weak_to [1, 2, 3, 4, 5] [0, 1, 2] ?_ (by simp) (fun i h => by cases h)) trivial ?_
  · simp (maxSteps := 1000000) -implicitDefEqProofs only [go_sem, ↓reduceIte, reduceCtorEq, Nat.reduceEqDiff, Nat.reduceLT, Nat.reduceAdd, Nat.reduceLeDiff, Nat.reduceMul, Nat.reduceSub, Nat.reduceDiv, Nat.reduceMod, Int.reduceToNat, Int.reduceLT, Int.reduceLE, Int.reduceEq, Int.reduceAdd, Int.reduceSub, Int.reduceMul, Int.reduceNeg, Int.reduceTMod, Int.reduceTDiv, Int.reduceMod, Int.reduceDiv, Int.reduceBEq, Int.reduceBNe, Nat.reduceBEq, St.keep, NearA, cells10, iA, YA, zeroY, cntR, frmR, renL_cellsN, cellsN_len, Int.natCast_zero]
  · intro k hk hp
    refine run_sound 1000 _ _ ?_
    have hc := cntR_bd v k
    by_cases hk1 : k < 4
    · have hlt : ((k : Int) < 4) = True := eq_true (by omega)
      have hw2 : IntKind.i64.wrap ((k : Int) + 1) = ((k + 1 : Nat) : Int) := by rw [wrapI (by omega) (by omega)]; omega
      have hw3 : IntKind.i64.wrap (cntR v k + 1) = cntR v k + 1 := wrapI (by omega) (by omega)
      have c1 := aims_pc c v k (by omega) (by omega)
      have gd := cellsN_dropN v k hk1
      have hf := hv.at k
      have hcm : comeR v k = (decide ((v.at k).k = 11 ∨ (v.at k).k = 15) && aimsM v k) := rfl
      simp only [cntR, frmR]
      generalize aimsM v k = am at c1 hcm
      generalize v.at k = f at gd hf hcm
      have qc0 := hf.c0
      have qc1 := hf.c1
      have w1 : IntKind.i64.wrap (f.c - 1) = f.c - 1 := wrapI (by omega) (by omega)
      generalize comeR v k = cm at hcm
      generalize cntR v k = n at hw3
      generalize frmR v k = fr
      simp (maxSteps := 1000000) -implicitDefEqProofs only [go_sem, ↓reduceIte, reduceCtorEq, Nat.reduceEqDiff, Nat.reduceLT, Nat.reduceAdd, Nat.reduceLeDiff, Nat.reduceMul, Nat.reduceSub, Nat.reduceDiv, Nat.reduceMod, Int.reduceToNat, Int.reduceLT, Int.reduceLE, Int.reduceEq, Int.reduceAdd, Int.reduceSub, Int.reduceMul, Int.reduceNeg, Int.reduceTMod, Int.reduceTDiv, Int.reduceMod, Int.reduceDiv, Int.reduceBEq, Int.reduceBNe, Nat.reduceBEq, NearA, cells10, YA, iA, zeroY, hk1, hlt, drop10c, gd, cellsN_len, take_cellsN, w1]
      (repeat' (first | exact trivial | contradiction | refine And.intro ?_ ?_ | (show (_ : Nat) ≤ _; omega) | (show (_ : Nat) < _; omega) | (show (_ : Int) ≤ _; omega) | (show (_ : Int) < _; omega)  | (refine wait_draw 1000 mixed (by decide +kernel) ?_; simp (maxSteps := 1000000) -implicitDefEqProofs only [go_sem, ↓reduceIte, reduceCtorEq, Nat.reduceEqDiff, Nat.reduceLT, Nat.reduceAdd, Nat.reduceLeDiff, Nat.reduceMul, Nat.reduceSub, Nat.reduceDiv, Nat.reduceMod, Int.reduceToNat, Int.reduceLT, Int.reduceLE, Int.reduceEq, Int.reduceAdd, Int.reduceSub, Int.reduceMul, Int.reduceNeg, Int.reduceTMod, Int.reduceTDiv, Int.reduceMod, Int.reduceDiv, Int.reduceBEq, Int.reduceBNe, Nat.reduceBEq, NearA, cells10, renL_cellsN, fzL_cellsN, YA, iA, zeroY, hk1, hlt, drop10c, gd, cellsN_len, take_cellsN, w1]) | (refine wait_drawW (fun id => id == 2) 1000 mixed (by decide +kernel) ?_; simp (maxSteps := 1000000) -implicitDefEqProofs only [go_sem, ↓reduceIte, reduceCtorEq, Nat.reduceEqDiff, Nat.reduceLT, Nat.reduceAdd, Nat.reduceLeDiff, Nat.reduceMul, Nat.reduceSub, Nat.reduceDiv, Nat.reduceMod, Int.reduceToNat, Int.reduceLT, Int.reduceLE, Int.reduceEq, Int.reduceAdd, Int.reduceSub, Int.reduceMul, Int.reduceNeg, Int.reduceTMod, Int.reduceTDiv, Int.reduceMod, Int.reduceDiv, Int.reduceBEq, Int.reduceBNe, Nat.reduceBEq, NearA, cells10, renL_cellsN, fzL_cellsN, YA, iA, zeroY, hk1, hlt, drop10c, gd, cellsN_len, take_cellsN, w1]) | (refine call_eq 1000 (c1) ?_ ?_ rfl; (focus (simp (maxSteps := 1000000) -implicitDefEqProofs only [go_sem, ↓reduceIte, reduceCtorEq, Nat.reduceEqDiff, Nat.reduceLT, Nat.reduceAdd, Nat.reduceLeDiff, Nat.reduceMul, Nat.reduceSub, Nat.reduceDiv, Nat.reduceMod, Int.reduceToNat, Int.reduceLT, Int.reduceLE, Int.reduceEq, Int.reduceAdd, Int.reduceSub, Int.reduceMul, Int.reduceNeg, Int.reduceTMod, Int.reduceTDiv, Int.reduceMod, Int.reduceDiv, Int.reduceBEq, Int.reduceBNe, Nat.reduceBEq, NearA, cells10, renL_cellsN, fzL_cellsN, YA, iA, zeroY, hk1, hlt, drop10c, gd, cellsN_len, take_cellsN, w1]; done)); simp (maxSteps := 1000000) -implicitDefEqProofs only [go_sem, ↓reduceIte, reduceCtorEq, Nat.reduceEqDiff, Nat.reduceLT, Nat.reduceAdd, Nat.reduceLeDiff, Nat.reduceMul, Nat.reduceSub, Nat.reduceDiv, Nat.reduceMod, Int.reduceToNat, Int.reduceLT, Int.reduceLE, Int.reduceEq, Int.reduceAdd, Int.reduceSub, Int.reduceMul, Int.reduceNeg, Int.reduceTMod, Int.reduceTDiv, Int.reduceMod, Int.reduceDiv, Int.reduceBEq, Int.reduceBNe, Nat.reduceBEq, NearA, cells10, renL_cellsN, fzL_cellsN, YA, iA, zeroY, hk1, hlt, drop10c, gd, cellsN_len, take_cellsN, w1]) | (refine call_draw 1000 (c1) ?_ ?_; (focus (simp (maxSteps := 1000000) -implicitDefEqProofs only [go_sem, ↓reduceIte, reduceCtorEq, Nat.reduceEqDiff, Nat.reduceLT, Nat.reduceAdd, Nat.reduceLeDiff, Nat.reduceMul, Nat.reduceSub, Nat.reduceDiv, Nat.reduceMod, Int.reduceToNat, Int.reduceLT, Int.reduceLE, Int.reduceEq, Int.reduceAdd, Int.reduceSub, Int.reduceMul, Int.reduceNeg, Int.reduceTMod, Int.reduceTDiv, Int.reduceMod, Int.reduceDiv, Int.reduceBEq, Int.reduceBNe, Nat.reduceBEq, NearA, cells10, renL_cellsN, fzL_cellsN, YA, iA, zeroY, hk1, hlt, drop10c, gd, cellsN_len, take_cellsN, w1]; done)); simp (maxSteps := 1000000) -implicitDefEqProofs only [go_sem, ↓reduceIte, reduceCtorEq, Nat.reduceEqDiff, Nat.reduceLT, Nat.reduceAdd, Nat.reduceLeDiff, Nat.reduceMul, Nat.reduceSub, Nat.reduceDiv, Nat.reduceMod, Int.reduceToNat, Int.reduceLT, Int.reduceLE, Int.reduceEq, Int.reduceAdd, Int.reduceSub, Int.reduceMul, Int.reduceNeg, Int.reduceTMod, Int.reduceTDiv, Int.reduceMod, Int.reduceDiv, Int.reduceBEq, Int.reduceBNe, Nat.reduceBEq, NearA, cells10, renL_cellsN, fzL_cellsN, YA, iA, zeroY, hk1, hlt, drop10c, gd, cellsN_len, take_cellsN, w1]) | intro _))
      all_goals (clear c1 gd)
      all_goals first
        | exact hk1
        | (refine weak_to [1, 2, 3, 4, 5] [0, 1, 2] ?_ (by simp) (fun i h => by cases h); simp (maxSteps := 1000000) -implicitDefEqProofs only [go_sem, ↓reduceIte, reduceCtorEq, Nat.reduceEqDiff, Nat.reduceLT, Nat.reduceAdd, Nat.reduceLeDiff, Nat.reduceMul, Nat.reduceSub, Nat.reduceDiv, Nat.reduceMod, Int.reduceToNat, Int.reduceLT, Int.reduceLE, Int.reduceEq, Int.reduceAdd, Int.reduceSub, Int.reduceMul, Int.reduceNeg, Int.reduceTMod, Int.reduceTDiv, Int.reduceMod, Int.reduceDiv, Int.reduceBEq, Int.reduceBNe, Nat.reduceBEq, St.keep, NearA, cells10, iA, YA, zeroY, renL_cellsN, cellsN_len, hw2, hw3]; first | done | (simp [bornR, headY, *]; done) | (simp_all [bornR, headY]; done))
        | trace_state
    · have hk2 : k = 4 := by omega
      subst hk2
      have hE : voidR v = if cntR v 4 = 1 then frmR v 4 else zeroY := rfl
      generalize frmR v 4 = f at hE
      generalize cntR v 4 = n at hE
      simp (maxSteps := 1000000) -implicitDefEqProofs only [go_sem, ↓reduceIte, reduceCtorEq, Nat.reduceEqDiff, Nat.reduceLT, Nat.reduceAdd, Nat.reduceLeDiff, Nat.reduceMul, Nat.reduceSub, Nat.reduceDiv, Nat.reduceMod, Int.reduceToNat, Int.reduceLT, Int.reduceLE, Int.reduceEq, Int.reduceAdd, Int.reduceSub, Int.reduceMul, Int.reduceNeg, Int.reduceTMod, Int.reduceTDiv, Int.reduceMod, Int.reduceDiv, Int.reduceBEq, Int.reduceBNe, Nat.reduceBEq, NearA, cells10, YA, iA, zeroY, Int.reduceLT, cellsN_len]
      (repeat' (first | exact trivial | contradiction | refine And.intro ?_ ?_ | (show (_ : Nat) ≤ _; omega) | (show (_ : Nat) < _; omega) | (show (_ : Int) ≤ _; omega) | (show (_ : Int) < _; omega)  | (refine wait_draw 1000 mixed (by decide +kernel) ?_; simp (maxSteps := 1000000) -implicitDefEqProofs only [go_sem, ↓reduceIte, reduceCtorEq, Nat.reduceEqDiff, Nat.reduceLT, Nat.reduceAdd, Nat.reduceLeDiff, Nat.reduceMul, Nat.reduceSub, Nat.reduceDiv, Nat.reduceMod, Int.reduceToNat, Int.reduceLT, Int.reduceLE, Int.reduceEq, Int.reduceAdd, Int.reduceSub, Int.reduceMul, Int.reduceNeg, Int.reduceTMod, Int.reduceTDiv, Int.reduceMod, Int.reduceDiv, Int.reduceBEq, Int.reduceBNe, Nat.reduceBEq NearA, cells10, YA, iA, zeroY, Int.reduceLT, cellsN_len]) | intro _))
      all_goals (simp_all [zeroY]; done)
end Go.Proofs.YthflneagfnpfkaaDoor
