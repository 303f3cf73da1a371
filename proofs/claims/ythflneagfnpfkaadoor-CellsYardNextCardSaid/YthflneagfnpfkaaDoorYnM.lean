/- The yard's step: the reference's arms heard, and its void. -/
import Derived.Test.YthflneagfnpfkaaDoorProg
import Derived.Test.YthflneagfnpfkaaDoorPmU
import Derived.Test.YthflneagfnpfkaaDoorYnL
import Derived.Test.YthflneagfnpfkaaDoorYnE
set_option linter.unusedSimpArgs false
set_option linter.unusedVariables false
set_option maxRecDepth 20000
open Go Go.Proofs
namespace Go.Proofs.YthflneagfnpfkaaDoor
open Pm
attribute [local irreducible] Wait CallT CallW Le Weak
theorem get10c (a0 a1 a2 a3 a4 a5 a6 a7 a8 a9 : AV) (l : List AV) (x f : Nat) : List.getD (a0 :: a1 :: a2 :: a3 :: a4 :: a5 :: a6 :: a7 :: a8 :: a9 :: l) (10 + x + f) .junk = l.getD (x + f) .junk := by
  rw [Nat.add_assoc, Nat.add_comm]; rfl
theorem get10z (a0 a1 a2 a3 a4 a5 a6 a7 a8 a9 : AV) (l : List AV) (x : Nat) : List.getD (a0 :: a1 :: a2 :: a3 :: a4 :: a5 :: a6 :: a7 :: a8 :: a9 :: l) (10 + x) .junk = l.getD x .junk := by
  rw [Nat.add_comm]; rfl
theorem cellsN_get (v : Nb) (d : Int) (h0 : 0 ≤ d) (h1 : d ≤ 3) (f : Nat) (hf : f < 10) : (cellsN v).getD (d.toNat * 10 + f) .junk = (cells10 (v.at d)).getD f .junk := by
  have e := cellsN_drop v d h0 h1
  have : (cellsN v).getD (d.toNat * 10 + f) .junk = ((cellsN v).drop (d.toNat * 10)).getD f .junk := by simp [List.getD_eq_getElem?_getD]
  rw [this, e, List.getD_eq_getElem?_getD, List.getD_eq_getElem?_getD, List.getElem?_append_left (by simpa [cells10] using hf)]
theorem cellsN_getz (v : Nb) (d : Int) (h0 : 0 ≤ d) (h1 : d ≤ 3) : (cellsN v).getD (d.toNat * 10) .junk = (cells10 (v.at d)).getD 0 .junk := cellsN_get v d h0 h1 0 (by omega)
theorem take_cellsN (v : Nb) : (cellsN v).take 40 = cellsN v := rfl
set_option maxHeartbeats 2000000 in
theorem rfrom_pc (c : Y) (hc : WF c) (v : Nb) (hv : WN v) (last : Bool) : PCon Tryd.prog 19 [NearA c v, .v (.bool last)] (· = iA (rfromL v c last TS4)) := by
  refine pcon_run 1000 Tryd.func19 rfl Tryd.results19 Tryd.ntmps19 (Nat.le_of_ble_eq_true rfl) ?_
  simp (maxSteps := 1000000) -implicitDefEqProofs only [go_sem, ↓reduceIte, reduceCtorEq, Nat.reduceEqDiff, Nat.reduceLT, Nat.reduceAdd, Nat.reduceLeDiff, Nat.reduceMul, Nat.reduceSub, Nat.reduceDiv, Nat.reduceMod, Int.reduceToNat, Int.reduceLT, Int.reduceLE, Int.reduceEq, Int.reduceAdd, Int.reduceSub, Int.reduceMul, Int.reduceNeg, Int.reduceTMod, Int.reduceTDiv, Int.reduceMod, Int.reduceDiv, Int.reduceBEq, Int.reduceBNe, Nat.reduceBEq, NearA, cells10, iA, cellsN_len, onesN]
  refine wait_range 4 (fun k => ⟨51, 0, [(1, .v (.bool last)), (2, .ptr 0 50 0 0), (4, iA 0), (8, .sl 1 1 0 4), (9, iA 4), (10, iA k)], [some (.row 44 50 [NearA c v]), some (.row 3 1 (TS4.map iA))]⟩) (fun k => rfromL v c last (TS4.drop k) = rfromL v c last TS4) (weak_to [1, 2, 4, 8, 9, 10] [0, 1] ?_ (by simp) (fun i h => by cases h)) rfl ?_
  · simp (maxSteps := 1000000) -implicitDefEqProofs only [go_sem, ↓reduceIte, reduceCtorEq, Nat.reduceEqDiff, Nat.reduceLT, Nat.reduceAdd, Nat.reduceLeDiff, Nat.reduceMul, Nat.reduceSub, Nat.reduceDiv, Nat.reduceMod, Int.reduceToNat, Int.reduceLT, Int.reduceLE, Int.reduceEq, Int.reduceAdd, Int.reduceSub, Int.reduceMul, Int.reduceNeg, Int.reduceTMod, Int.reduceTDiv, Int.reduceMod, Int.reduceDiv, Int.reduceBEq, Int.reduceBNe, Nat.reduceBEq, St.keep, NearA, cells10, iA, renL_cellsN, cellsN_len, TS4, Int.natCast_zero]
  · intro k hk hp
    refine run_sound 1000 _ _ ?_
    have hTl : TS4.length = 4 := rfl
    by_cases hk1 : k < 4
    · have hlt : ((k : Int) < 4) = True := eq_true (by omega)
      have hw2 : IntKind.i64.wrap ((k : Int) + 1) = ((k + 1 : Nat) : Int) := by rw [wrapI (by omega) (by omega)]; omega
      have hdk : 0 ≤ TS4.getD k 0 ∧ TS4.getD k 0 ≤ 3 := by
        match k, hk1 with
        | 0, _ => decide
        | 1, _ => decide
        | 2, _ => decide
        | 3, _ => decide
      have g1 := getD_iA TS4 k hk1
      rw [drop_step TS4 k hk1] at hp
      simp only [rfromL] at hp
      change (if TS4.getD k 0 = 0 ∧ last = false then rfromL v c last (TS4.drop (k + 1)) else if (v.at ((c.d + TS4.getD k 0) % 4)).k = 9 ∧ aimsM v ((c.d + TS4.getD k 0) % 4) = true ∧ (v.at ((c.d + TS4.getD k 0) % 4)).a ≠ 0 then (v.at ((c.d + TS4.getD k 0) % 4)).a else rfromL v c last (TS4.drop (k + 1))) = rfromL v c last TS4 at hp
      generalize TS4.getD k 0 = t at hdk g1 hp
      have q0 := hc.d0
      have q1 := hc.d1
      have w1 := w4 c.d t q0 (by omega) hdk.1 (by omega)
      have t1 := tm4 (c.d + t) (by omega)
      have hd0 : 0 ≤ (c.d + t) % 4 := by omega
      have hd3 : (c.d + t) % 4 ≤ 3 := by omega
      have hd4 : (c.d + t) % 4 < 4 := by omega
      generalize (c.d + t) % 4 = d at hp t1 hd0 hd3 hd4
      have hlen : (List.map iA TS4).length = 4 := rfl
      have c1 := aims_pc c v d hd0 hd3
      have gz := cellsN_getz v d hd0 hd3
      have gf := cellsN_get v d hd0 hd3
      generalize v.at d = f at gz gf hp
      generalize aimsM v d = am at c1 hp
      simp (maxSteps := 1000000) -implicitDefEqProofs only [go_sem, ↓reduceIte, reduceCtorEq, Nat.reduceEqDiff, Nat.reduceLT, Nat.reduceAdd, Nat.reduceLeDiff, Nat.reduceMul, Nat.reduceSub, Nat.reduceDiv, Nat.reduceMod, Int.reduceToNat, Int.reduceLT, Int.reduceLE, Int.reduceEq, Int.reduceAdd, Int.reduceSub, Int.reduceMul, Int.reduceNeg, Int.reduceTMod, Int.reduceTDiv, Int.reduceMod, Int.reduceDiv, Int.reduceBEq, Int.reduceBNe, Nat.reduceBEq, NearA, cells10, iA, hk1, hlt, g1, w1, t1, hlen, hd0, hd4, get10c, get10z, gz, gf, cellsN_len, take_cellsN]
      (repeat' (first | exact trivial | contradiction | refine And.intro ?_ ?_ | (show (_ : Nat) ≤ _; omega) | (show (_ : Nat) < _; omega) | (show (_ : Int) ≤ _; omega) | (show (_ : Int) < _; omega)  | (refine wait_draw 1000 mixed (by decide +kernel) ?_; simp (maxSteps := 1000000) -implicitDefEqProofs only [go_sem, ↓reduceIte, reduceCtorEq, Nat.reduceEqDiff, Nat.reduceLT, Nat.reduceAdd, Nat.reduceLeDiff, Nat.reduceMul, Nat.reduceSub, Nat.reduceDiv, Nat.reduceMod, Int.reduceToNat, Int.reduceLT, Int.reduceLE, Int.reduceEq, Int.reduceAdd, Int.reduceSub, Int.reduceMul, Int.reduceNeg, Int.reduceTMod, Int.reduceTDiv, Int.reduceMod, Int.reduceDiv, Int.reduceBEq, Int.reduceBNe, Nat.reduceBEq, NearA, cells10, renL_cellsN, fzL_cellsN, YA, iA, hk1, hlt, g1, w1, t1, hlen, hd0, hd4, get10c, get10z, gz, gf, cellsN_len, take_cellsN]) | (refine call_eq 1000 (c1) ?_ ?_ rfl; (focus (simp (maxSteps := 1000000) -implicitDefEqProofs only [go_sem, ↓reduceIte, reduceCtorEq, Nat.reduceEqDiff, Nat.reduceLT, Nat.reduceAdd, Nat.reduceLeDiff, Nat.reduceMul, Nat.reduceSub, Nat.reduceDiv, Nat.reduceMod, Int.reduceToNat, Int.reduceLT, Int.reduceLE, Int.reduceEq, Int.reduceAdd, Int.reduceSub, Int.reduceMul, Int.reduceNeg, Int.reduceTMod, Int.reduceTDiv, Int.reduceMod, Int.reduceDiv, Int.reduceBEq, Int.reduceBNe, Nat.reduceBEq, NearA, cells10, renL_cellsN, fzL_cellsN, YA, iA, hk1, hlt, g1, w1, t1, hlen, hd0, hd4, get10c, get10z, gz, gf, cellsN_len, take_cellsN]; done)); simp (maxSteps := 1000000) -implicitDefEqProofs only [go_sem, ↓reduceIte, reduceCtorEq, Nat.reduceEqDiff, Nat.reduceLT, Nat.reduceAdd, Nat.reduceLeDiff, Nat.reduceMul, Nat.reduceSub, Nat.reduceDiv, Nat.reduceMod, Int.reduceToNat, Int.reduceLT, Int.reduceLE, Int.reduceEq, Int.reduceAdd, Int.reduceSub, Int.reduceMul, Int.reduceNeg, Int.reduceTMod, Int.reduceTDiv, Int.reduceMod, Int.reduceDiv, Int.reduceBEq, Int.reduceBNe, Nat.reduceBEq, NearA, cells10, renL_cellsN, fzL_cellsN, YA, iA, hk1, hlt, g1, w1, t1, hlen, hd0, hd4, get10c, get10z, gz, gf, cellsN_len, take_cellsN]) | (refine call_draw 1000 (c1) ?_ ?_; (focus (simp (maxSteps := 1000000) -implicitDefEqProofs only [go_sem, ↓reduceIte, reduceCtorEq, Nat.reduceEqDiff, Nat.reduceLT, Nat.reduceAdd, Nat.reduceLeDiff, Nat.reduceMul, Nat.reduceSub, Nat.reduceDiv, Nat.reduceMod, Int.reduceToNat, Int.reduceLT, Int.reduceLE, Int.reduceEq, Int.reduceAdd, Int.reduceSub, Int.reduceMul, Int.reduceNeg, Int.reduceTMod, Int.reduceTDiv, Int.reduceMod, Int.reduceDiv, Int.reduceBEq, Int.reduceBNe, Nat.reduceBEq, NearA, cells10, renL_cellsN, fzL_cellsN, YA, iA, hk1, hlt, g1, w1, t1, hlen, hd0, hd4, get10c, get10z, gz, gf, cellsN_len, take_cellsN]; done)); simp (maxSteps := 1000000) -implicitDefEqProofs only [go_sem, ↓reduceIte, reduceCtorEq, Nat.reduceEqDiff, Nat.reduceLT, Nat.reduceAdd, Nat.reduceLeDiff, Nat.reduceMul, Nat.reduceSub, Nat.reduceDiv, Nat.reduceMod, Int.reduceToNat, Int.reduceLT, Int.reduceLE, Int.reduceEq, Int.reduceAdd, Int.reduceSub, Int.reduceMul, Int.reduceNeg, Int.reduceTMod, Int.reduceTDiv, Int.reduceMod, Int.reduceDiv, Int.reduceBEq, Int.reduceBNe, Nat.reduceBEq, NearA, cells10, renL_cellsN, fzL_cellsN, YA, iA, hk1, hlt, g1, w1, t1, hlen, hd0, hd4, get10c, get10z, gz, gf, cellsN_len, take_cellsN]) | intro _))
      all_goals (clear c1 gz gf)
      all_goals first
        | exact hk1
        | (refine weak_to [1, 2, 4, 8, 9, 10] [0, 1] ?_ (by simp) (fun i h => by cases h); simp (maxSteps := 1000000) -implicitDefEqProofs only [go_sem, ↓reduceIte, reduceCtorEq, Nat.reduceEqDiff, Nat.reduceLT, Nat.reduceAdd, Nat.reduceLeDiff, Nat.reduceMul, Nat.reduceSub, Nat.reduceDiv, Nat.reduceMod, Int.reduceToNat, Int.reduceLT, Int.reduceLE, Int.reduceEq, Int.reduceAdd, Int.reduceSub, Int.reduceMul, Int.reduceNeg, Int.reduceTMod, Int.reduceTDiv, Int.reduceMod, Int.reduceDiv, Int.reduceBEq, Int.reduceBNe, Nat.reduceBEq, St.keep, NearA, cells10, iA, renL_cellsN, cellsN_len, hw2, renL_iA]; done)
        | (simp [*] at hp; simp [← hp]; done)
        | (simp_all; done)
        | trace_state
    · have hk2 : k = 4 := by omega
      subst hk2
      have hz : rfromL v c last (TS4.drop 4) = 0 := rfl
      rw [hz] at hp
      simp (maxSteps := 1000000) -implicitDefEqProofs only [go_sem, ↓reduceIte, reduceCtorEq, Nat.reduceEqDiff, Nat.reduceLT, Nat.reduceAdd, Nat.reduceLeDiff, Nat.reduceMul, Nat.reduceSub, Nat.reduceDiv, Nat.reduceMod, Int.reduceToNat, Int.reduceLT, Int.reduceLE, Int.reduceEq, Int.reduceAdd, Int.reduceSub, Int.reduceMul, Int.reduceNeg, Int.reduceTMod, Int.reduceTDiv, Int.reduceMod, Int.reduceDiv, Int.reduceBEq, Int.reduceBNe, Nat.reduceBEq, NearA, iA, Int.reduceLT, ← hp]
end Go.Proofs.YthflneagfnpfkaaDoor
