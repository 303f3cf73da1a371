/- The yard's step: the reference's heads. -/
import Derived.Test.YthflneagfnpfkaaDoorProg
import Derived.Test.YthflneagfnpfkaaDoorPmU
import Derived.Test.YthflneagfnpfkaaDoorYnP
set_option linter.unusedSimpArgs false
set_option linter.unusedVariables false
set_option maxRecDepth 20000
open Go Go.Proofs
namespace Go.Proofs.YthflneagfnpfkaaDoor
open Pm
attribute [local irreducible] Wait CallT CallW Le Weak
theorem ryof_pc (s : Int) : PCon Tryd.prog 6 [iA s] (· = .tup [YA (yOf s), iA (YardOfE s).2]) := by
  have h := refYardOf_pc s
  rw [← yard_eq, yA_of _ (ofE_len s)] at h
  exact h
def wrY (y : Y) : Y := yOf (RefWrittenStateE (y.a - 24)).1
def midR (y : Y) (s : Int) : Y :=
  if s = 0 then y
  else if 8 ≤ s ∧ s < 24 then { y with p := 0, c := if 255 < 16 * y.c + s - 8 then 255 else 16 * y.c + s - 8 }
  else if s = 5 ∨ 24 ≤ s then { y with p := 2, a := s, c := if y.c < 1 then 1 else y.c }
  else if s = 3 then ⟨13, y.d, 0, 0, 0, 0, 0, 0, 0, 0⟩
  else if s = 2 then ⟨14, 0, 0, 0, 0, 0, 0, 0, 0, 0⟩
  else if s = 6 then { y with d := lft y.d, p := 0, c := 0 }
  else if s = 7 then { y with d := rgt y.d, p := 0, c := 0 }
  else { y with p := 0, c := 0 }
def rretK (v : Nb) (d : Int) : Bool := decide ((v.at d).k = 12) && aimsM v d
def rrootK (v : Nb) (d : Int) : Bool := decide ((v.at d).k = 9 ∧ (v.at d).r = 1) && aimsM v d
def rretsN (v : Nb) : Nat → Bool
  | 0 => false
  | n + 1 => rretsN v n || rretK v n
def rrootsN (v : Nb) : Nat → Bool
  | 0 => false
  | n + 1 => rrootsN v n || rrootK v n
theorem rrets_mono (v : Nb) (k : Nat) : ∀ n, k < n → rretsN v (k + 1) = true → rretsN v n = true
  | 0, h, _ => by omega
  | n + 1, h, hr => by
    by_cases e : k = n
    · subst e; exact hr
    · have := rrets_mono v k n (by omega) hr
      simp [rretsN, this]
def headR (v : Nb) (y : Y) : Y :=
  if y.p = 0 then { y with p := 1 }
  else if y.p = 1 then midR y (rfromL v y true TS4)
  else if y.a = 5 then if (v.at y.d).k = 0 then ⟨11, y.d, 0, 0, 0, 0, 0, 0, 0, y.c⟩ else ⟨14, 0, 0, 0, 0, 0, 0, 0, 0, 0⟩
  else if rretsN v 4 = true then wrY y
  else if rrootsN v 4 = true then { y with p := 0, a := 0, c := 0 }
  else y
theorem rfrom_bd (v : Nb) (hv : WN v) (c : Y) (last : Bool) : ∀ ts : List Int, 0 ≤ rfromL v c last ts ∧ rfromL v c last ts ≤ 127
  | [] => by simp [rfromL]
  | t :: ts => by
    unfold rfromL
    split
    · exact rfrom_bd v hv c last ts
    · split
      · exact ⟨(hv.at _).a0, (hv.at _).a1⟩
      · exact rfrom_bd v hv c last ts
set_option maxHeartbeats 4000000 in
theorem rhead_pc (y : Y) (h : WF y) (v : Nb) (hv : WN v) : PCon Tryd.prog 18 [NearA y v] (· = YA (headR v y)) := by
  have r1 := rfrom_pc y h v hv true
  have hbd := rfrom_bd v hv y true TS4
  have hMid : y.p = 1 → headR v y = midR y (rfromL v y true TS4) := fun e => by unfold headR; rw [if_neg (by omega), if_pos e]
  have gz := cellsN_getz v y.d h.d0 h.d1
  have q0 := h.d0
  have q1 : y.d < 4 := by have := h.d1; omega
  have q5 : (10 + y.d.toNat * 10 ≤ 40) = True := eq_true (by omega)
  have qc0 := h.c0
  have qc1 := h.c1
  have qa0 := h.a0
  have qa1 := h.a1
  generalize rfromL v y true TS4 = s at r1 hbd hMid
  have w1 : IntKind.i64.wrap (16 * y.c) = 16 * y.c := wrapI (by omega) (by omega)
  have w2 : IntKind.i64.wrap (16 * y.c + s) = 16 * y.c + s := wrapI (by omega) (by omega)
  have w3 : IntKind.i64.wrap (16 * y.c + s - 8) = 16 * y.c + s - 8 := wrapI (by omega) (by omega)
  have w4' : IntKind.i64.wrap (y.a - 24) = y.a - 24 := wrapI (by omega) (by omega)
  have w5 : IntKind.i64.wrap (y.d + 1) = y.d + 1 := wrapI (by omega) (by omega)
  have w6 : IntKind.i64.wrap (y.d + 3) = y.d + 3 := wrapI (by omega) (by omega)
  have t1 : (y.d + 1).tmod 4 = lft y.d := tm4 _ (by omega)
  have t2 : (y.d + 3).tmod 4 = rgt y.d := tm4 _ (by omega)
  have wr := refWritten_pc (y.a - 24)
  have yo := ryof_pc (RefWrittenStateE (y.a - 24)).1
  have hW : wrY y = yOf (RefWrittenStateE (y.a - 24)).1 := rfl
  refine pcon_run 1000 Tryd.func18 rfl Tryd.results18 Tryd.ntmps18 (Nat.le_of_ble_eq_true rfl) ?_
  simp (maxSteps := 1000000) -implicitDefEqProofs only [go_sem, ↓reduceIte, reduceCtorEq, Nat.reduceEqDiff, Nat.reduceLT, Nat.reduceAdd, Nat.reduceLeDiff, Nat.reduceMul, Nat.reduceSub, Nat.reduceDiv, Nat.reduceMod, Int.reduceToNat, Int.reduceLT, Int.reduceLE, Int.reduceEq, Int.reduceAdd, Int.reduceSub, Int.reduceMul, Int.reduceNeg, Int.reduceTMod, Int.reduceTDiv, Int.reduceMod, Int.reduceDiv, Int.reduceBEq, Int.reduceBNe, Nat.reduceBEq, NearA, cells10, YA, iA, cellsN_len, onesN, take_cellsN, renL_cellsN, fzL_cellsN, get10z, gz, q0, q1, q5, w1, w2, w3, w5, w6, t1, t2, zeroY, mnmx]
  (repeat' (first | exact trivial | contradiction | refine And.intro ?_ ?_ | (show (_ : Nat) ≤ _; omega) | (show (_ : Nat) < _; omega) | (show (_ : Int) ≤ _; omega) | (show (_ : Int) < _; omega)  | (refine wait_draw 1000 mixed (by decide +kernel) ?_; simp (maxSteps := 1000000) -implicitDefEqProofs only [go_sem, ↓reduceIte, reduceCtorEq, Nat.reduceEqDiff, Nat.reduceLT, Nat.reduceAdd, Nat.reduceLeDiff, Nat.reduceMul, Nat.reduceSub, Nat.reduceDiv, Nat.reduceMod, Int.reduceToNat, Int.reduceLT, Int.reduceLE, Int.reduceEq, Int.reduceAdd, Int.reduceSub, Int.reduceMul, Int.reduceNeg, Int.reduceTMod, Int.reduceTDiv, Int.reduceMod, Int.reduceDiv, Int.reduceBEq, Int.reduceBNe, Nat.reduceBEq, NearA, cells10, YA, iA, cellsN_len, onesN, take_cellsN, renL_cellsN, fzL_cellsN, get10z, gz, q0, q1, q5, w1, w2, w3, w5, w6, t1, t2, zeroY, mnmx]) | (refine call_eq 1000 (r1) ?_ ?_ rfl; (focus (simp (maxSteps := 1000000) -implicitDefEqProofs only [go_sem, ↓reduceIte, reduceCtorEq, Nat.reduceEqDiff, Nat.reduceLT, Nat.reduceAdd, Nat.reduceLeDiff, Nat.reduceMul, Nat.reduceSub, Nat.reduceDiv, Nat.reduceMod, Int.reduceToNat, Int.reduceLT, Int.reduceLE, Int.reduceEq, Int.reduceAdd, Int.reduceSub, Int.reduceMul, Int.reduceNeg, Int.reduceTMod, Int.reduceTDiv, Int.reduceMod, Int.reduceDiv, Int.reduceBEq, Int.reduceBNe, Nat.reduceBEq, NearA, cells10, YA, iA, cellsN_len, onesN, take_cellsN, renL_cellsN, fzL_cellsN, get10z, gz, q0, q1, q5, w1, w2, w3, w5, w6, t1, t2, zeroY, mnmx]; done)); simp (maxSteps := 1000000) -implicitDefEqProofs only [go_sem, ↓reduceIte, reduceCtorEq, Nat.reduceEqDiff, Nat.reduceLT, Nat.reduceAdd, Nat.reduceLeDiff, Nat.reduceMul, Nat.reduceSub, Nat.reduceDiv, Nat.reduceMod, Int.reduceToNat, Int.reduceLT, Int.reduceLE, Int.reduceEq, Int.reduceAdd, Int.reduceSub, Int.reduceMul, Int.reduceNeg, Int.reduceTMod, Int.reduceTDiv, Int.reduceMod, Int.reduceDiv, Int.reduceBEq, Int.reduceBNe, Nat.reduceBEq, NearA, cells10, YA, iA, cellsN_len, onesN, take_cellsN, renL_cellsN, fzL_cellsN, get10z, gz, q0, q1, q5, w1, w2, w3, w5, w6, t1, t2, zeroY, mnmx]) | (refine call_draw 1000 (r1) ?_ ?_; (focus (simp (maxSteps := 1000000) -implicitDefEqProofs only [go_sem, ↓reduceIte, reduceCtorEq, Nat.reduceEqDiff, Nat.reduceLT, Nat.reduceAdd, Nat.reduceLeDiff, Nat.reduceMul, Nat.reduceSub, Nat.reduceDiv, Nat.reduceMod, Int.reduceToNat, Int.reduceLT, Int.reduceLE, Int.reduceEq, Int.reduceAdd, Int.reduceSub, Int.reduceMul, Int.reduceNeg, Int.reduceTMod, Int.reduceTDiv, Int.reduceMod, Int.reduceDiv, Int.reduceBEq, Int.reduceBNe, Nat.reduceBEq, NearA, cells10, YA, iA, cellsN_len, onesN, take_cellsN, renL_cellsN, fzL_cellsN, get10z, gz, q0, q1, q5, w1, w2, w3, w5, w6, t1, t2, zeroY, mnmx]; done)); simp (maxSteps := 1000000) -implicitDefEqProofs only [go_sem, ↓reduceIte, reduceCtorEq, Nat.reduceEqDiff, Nat.reduceLT, Nat.reduceAdd, Nat.reduceLeDiff, Nat.reduceMul, Nat.reduceSub, Nat.reduceDiv, Nat.reduceMod, Int.reduceToNat, Int.reduceLT, Int.reduceLE, Int.reduceEq, Int.reduceAdd, Int.reduceSub, Int.reduceMul, Int.reduceNeg, Int.reduceTMod, Int.reduceTDiv, Int.reduceMod, Int.reduceDiv, Int.reduceBEq, Int.reduceBNe, Nat.reduceBEq, NearA, cells10, YA, iA, cellsN_len, onesN, take_cellsN, renL_cellsN, fzL_cellsN, get10z, gz, q0, q1, q5, w1, w2, w3, w5, w6, t1, t2, zeroY, mnmx]) | intro _))
  all_goals (clear r1)
  all_goals try (clear wr yo; simp_all [midR, headR]; done)
  refine wait_range 4 (fun k => ⟨159, 0, [(1, .ptr 0 50 0 0), (2, .ptr 1 10 0 0), (3, .ptr 2 10 0 0), (5, .v (.bool (rrootsN v k))), (6, iA k)], [some (.row 44 50 [NearA y v]), some (.row 29 10 [YA zeroY]), some (.row 29 10 [YA y])]⟩) (fun k => rretsN v k = false) (weak_to [1, 2, 3, 5, 6] [0, 1, 2] ?_ (by simp) (fun i h => by cases h)) rfl ?_
  · simp (maxSteps := 1000000) -implicitDefEqProofs only [go_sem, ↓reduceIte, reduceCtorEq, Nat.reduceEqDiff, Nat.reduceLT, Nat.reduceAdd, Nat.reduceLeDiff, Nat.reduceMul, Nat.reduceSub, Nat.reduceDiv, Nat.reduceMod, Int.reduceToNat, Int.reduceLT, Int.reduceLE, Int.reduceEq, Int.reduceAdd, Int.reduceSub, Int.reduceMul, Int.reduceNeg, Int.reduceTMod, Int.reduceTDiv, Int.reduceMod, Int.reduceDiv, Int.reduceBEq, Int.reduceBNe, Nat.reduceBEq, St.keep, NearA, cells10, YA, iA, renL_cellsN, cellsN_len, zeroY, rrootsN, Int.natCast_zero]
  · intro k hk hp
    refine run_sound 1000 _ _ ?_
    have hY : headR v y = if rretsN v 4 = true then wrY y else if rrootsN v 4 = true then { y with p := 0, a := 0, c := 0 } else y := by
      unfold headR
      rw [if_neg (by assumption), if_neg (by assumption), if_neg (by assumption)]
    by_cases hk1 : k < 4
    · have hlt : ((k : Int) < 4) = True := eq_true (by omega)
      have hw2 : IntKind.i64.wrap ((k : Int) + 1) = ((k + 1 : Nat) : Int) := by rw [wrapI (by omega) (by omega)]; omega
      have c1 := aims_pc y v k (by omega) (by omega)
      have gz' := cellsN_getz v k (by omega) (by omega)
      have gf' := cellsN_get v k (by omega) (by omega)
      simp only [Int.toNat_natCast] at gz' gf'
      have hret : rretK v k = true → headR v y = wrY y := fun hr => by
        rw [hY, if_pos (rrets_mono v k 4 (by omega) (by simp [rretsN, hr]))]
      have hrk : rretK v k = (decide ((v.at k).k = 12) && aimsM v k) := rfl
      have hro : rrootK v k = (decide ((v.at k).k = 9 ∧ (v.at k).r = 1) && aimsM v k) := rfl
      simp only [rrootsN, rretsN, hp, Bool.false_or]
      generalize rretK v k = rk at hret hrk
      generalize rrootK v k = ro at hro
      generalize rrootsN v k = roN
      generalize aimsM v k = am at c1 hrk hro
      generalize v.at k = f at gz' gf' hrk hro
      rw [hW] at hret
      generalize headR v y = res at hret
      generalize (RefWrittenStateE (y.a - 24)).1 = sw at wr yo hret
      generalize (RefWrittenStateE (y.a - 24)).2 = sw2 at wr
      generalize yOf sw = yw at yo hret
      generalize (YardOfE sw).2 = ew at yo
      clear hY hW gz hMid
      simp (maxSteps := 1000000) -implicitDefEqProofs only [go_sem, ↓reduceIte, reduceCtorEq, Nat.reduceEqDiff, Nat.reduceLT, Nat.reduceAdd, Nat.reduceLeDiff, Nat.reduceMul, Nat.reduceSub, Nat.reduceDiv, Nat.reduceMod, Int.reduceToNat, Int.reduceLT, Int.reduceLE, Int.reduceEq, Int.reduceAdd, Int.reduceSub, Int.reduceMul, Int.reduceNeg, Int.reduceTMod, Int.reduceTDiv, Int.reduceMod, Int.reduceDiv, Int.reduceBEq, Int.reduceBNe, Nat.reduceBEq, NearA, cells10, YA, iA, cellsN_len, onesN, take_cellsN, renL_cellsN, fzL_cellsN, get10c, get10z, gz', gf', hk1, hlt, w4', zeroY]
      (repeat' (first | exact trivial | contradiction | refine And.intro ?_ ?_ | (show (_ : Nat) ≤ _; omega) | (show (_ : Nat) < _; omega) | (show (_ : Int) ≤ _; omega) | (show (_ : Int) < _; omega)  | (refine wait_draw 1000 mixed (by decide +kernel) ?_; simp (maxSteps := 1000000) -implicitDefEqProofs only [go_sem, ↓reduceIte, reduceCtorEq, Nat.reduceEqDiff, Nat.reduceLT, Nat.reduceAdd, Nat.reduceLeDiff, Nat.reduceMul, Nat.reduceSub, Nat.reduceDiv, Nat.reduceMod, Int.reduceToNat, Int.reduceLT, Int.reduceLE, Int.reduceEq, Int.reduceAdd, Int.reduceSub, Int.reduceMul, Int.reduceNeg, Int.reduceTMod, Int.reduceTDiv, Int.reduceMod, Int.reduceDiv, Int.reduceBEq, Int.reduceBNe, Nat.reduceBEq, NearA, cells10, YA, iA, cellsN_len, onesN, take_cellsN, renL_cellsN, fzL_cellsN, get10c, get10z, gz', gf', hk1, hlt, w4', zeroY]) | (refine call_eq 1000 (c1) ?_ ?_ rfl; (focus (simp (maxSteps := 1000000) -implicitDefEqProofs only [go_sem, ↓reduceIte, reduceCtorEq, Nat.reduceEqDiff, Nat.reduceLT, Nat.reduceAdd, Nat.reduceLeDiff, Nat.reduceMul, Nat.reduceSub, Nat.reduceDiv, Nat.reduceMod, Int.reduceToNat, Int.reduceLT, Int.reduceLE, Int.reduceEq, Int.reduceAdd, Int.reduceSub, Int.reduceMul, Int.reduceNeg, Int.reduceTMod, Int.reduceTDiv, Int.reduceMod, Int.reduceDiv, Int.reduceBEq, Int.reduceBNe, Nat.reduceBEq, NearA, cells10, YA, iA, cellsN_len, onesN, take_cellsN, renL_cellsN, fzL_cellsN, get10c, get10z, gz', gf', hk1, hlt, w4', zeroY]; done)); simp (maxSteps := 1000000) -implicitDefEqProofs only [go_sem, ↓reduceIte, reduceCtorEq, Nat.reduceEqDiff, Nat.reduceLT, Nat.reduceAdd, Nat.reduceLeDiff, Nat.reduceMul, Nat.reduceSub, Nat.reduceDiv, Nat.reduceMod, Int.reduceToNat, Int.reduceLT, Int.reduceLE, Int.reduceEq, Int.reduceAdd, Int.reduceSub, Int.reduceMul, Int.reduceNeg, Int.reduceTMod, Int.reduceTDiv, Int.reduceMod, Int.reduceDiv, Int.reduceBEq, Int.reduceBNe, Nat.reduceBEq, NearA, cells10, YA, iA, cellsN_len, onesN, take_cellsN, renL_cellsN, fzL_cellsN, get10c, get10z, gz', gf', hk1, hlt, w4', zeroY]) | (refine call_draw 1000 (c1) ?_ ?_; (focus (simp (maxSteps := 1000000) -implicitDefEqProofs only [go_sem, ↓reduceIte, reduceCtorEq, Nat.reduceEqDiff, Nat.reduceLT, Nat.reduceAdd, Nat.reduceLeDiff, Nat.reduceMul, Nat.reduceSub, Nat.reduceDiv, Nat.reduceMod, Int.reduceToNat, Int.reduceLT, Int.reduceLE, Int.reduceEq, Int.reduceAdd, Int.reduceSub, Int.reduceMul, Int.reduceNeg, Int.reduceTMod, Int.reduceTDiv, Int.reduceMod, Int.reduceDiv, Int.reduceBEq, Int.reduceBNe, Nat.reduceBEq, NearA, cells10, YA, iA, cellsN_len, onesN, take_cellsN, renL_cellsN, fzL_cellsN, get10c, get10z, gz', gf', hk1, hlt, w4', zeroY]; done)); simp (maxSteps := 1000000) -implicitDefEqProofs only [go_sem, ↓reduceIte, reduceCtorEq, Nat.reduceEqDiff, Nat.reduceLT, Nat.reduceAdd, Nat.reduceLeDiff, Nat.reduceMul, Nat.reduceSub, Nat.reduceDiv, Nat.reduceMod, Int.reduceToNat, Int.reduceLT, Int.reduceLE, Int.reduceEq, Int.reduceAdd, Int.reduceSub, Int.reduceMul, Int.reduceNeg, Int.reduceTMod, Int.reduceTDiv, Int.reduceMod, Int.reduceDiv, Int.reduceBEq, Int.reduceBNe, Nat.reduceBEq, NearA, cells10, YA, iA, cellsN_len, onesN, take_cellsN, renL_cellsN, fzL_cellsN, get10c, get10z, gz', gf', hk1, hlt, w4', zeroY]) | (refine call_eq 1000 (wr) ?_ ?_ rfl; (focus (simp (maxSteps := 1000000) -implicitDefEqProofs only [go_sem, ↓reduceIte, reduceCtorEq, Nat.reduceEqDiff, Nat.reduceLT, Nat.reduceAdd, Nat.reduceLeDiff, Nat.reduceMul, Nat.reduceSub, Nat.reduceDiv, Nat.reduceMod, Int.reduceToNat, Int.reduceLT, Int.reduceLE, Int.reduceEq, Int.reduceAdd, Int.reduceSub, Int.reduceMul, Int.reduceNeg, Int.reduceTMod, Int.reduceTDiv, Int.reduceMod, Int.reduceDiv, Int.reduceBEq, Int.reduceBNe, Nat.reduceBEq, NearA, cells10, YA, iA, cellsN_len, onesN, take_cellsN, renL_cellsN, fzL_cellsN, get10c, get10z, gz', gf', hk1, hlt, w4', zeroY]; done)); simp (maxSteps := 1000000) -implicitDefEqProofs only [go_sem, ↓reduceIte, reduceCtorEq, Nat.reduceEqDiff, Nat.reduceLT, Nat.reduceAdd, Nat.reduceLeDiff, Nat.reduceMul, Nat.reduceSub, Nat.reduceDiv, Nat.reduceMod, Int.reduceToNat, Int.reduceLT, Int.reduceLE, Int.reduceEq, Int.reduceAdd, Int.reduceSub, Int.reduceMul, Int.reduceNeg, Int.reduceTMod, Int.reduceTDiv, Int.reduceMod, Int.reduceDiv, Int.reduceBEq, Int.reduceBNe, Nat.reduceBEq, NearA, cells10, YA, iA, cellsN_len, onesN, take_cellsN, renL_cellsN, fzL_cellsN, get10c, get10z, gz', gf', hk1, hlt, w4', zeroY]) | (refine call_draw 1000 (wr) ?_ ?_; (focus (simp (maxSteps := 1000000) -implicitDefEqProofs only [go_sem, ↓reduceIte, reduceCtorEq, Nat.reduceEqDiff, Nat.reduceLT, Nat.reduceAdd, Nat.reduceLeDiff, Nat.reduceMul, Nat.reduceSub, Nat.reduceDiv, Nat.reduceMod, Int.reduceToNat, Int.reduceLT, Int.reduceLE, Int.reduceEq, Int.reduceAdd, Int.reduceSub, Int.reduceMul, Int.reduceNeg, Int.reduceTMod, Int.reduceTDiv, Int.reduceMod, Int.reduceDiv, Int.reduceBEq, Int.reduceBNe, Nat.reduceBEq, NearA, cells10, YA, iA, cellsN_len, onesN, take_cellsN, renL_cellsN, fzL_cellsN, get10c, get10z, gz', gf', hk1, hlt, w4', zeroY]; done)); simp (maxSteps := 1000000) -implicitDefEqProofs only [go_sem, ↓reduceIte, reduceCtorEq, Nat.reduceEqDiff, Nat.reduceLT, Nat.reduceAdd, Nat.reduceLeDiff, Nat.reduceMul, Nat.reduceSub, Nat.reduceDiv, Nat.reduceMod, Int.reduceToNat, Int.reduceLT, Int.reduceLE, Int.reduceEq, Int.reduceAdd, Int.reduceSub, Int.reduceMul, Int.reduceNeg, Int.reduceTMod, Int.reduceTDiv, Int.reduceMod, Int.reduceDiv, Int.reduceBEq, Int.reduceBNe, Nat.reduceBEq, NearA, cells10, YA, iA, cellsN_len, onesN, take_cellsN, renL_cellsN, fzL_cellsN, get10c, get10z, gz', gf', hk1, hlt, w4', zeroY]) | (refine call_eq 1000 (yo) ?_ ?_ rfl; (focus (simp (maxSteps := 1000000) -implicitDefEqProofs only [go_sem, ↓reduceIte, reduceCtorEq, Nat.reduceEqDiff, Nat.reduceLT, Nat.reduceAdd, Nat.reduceLeDiff, Nat.reduceMul, Nat.reduceSub, Nat.reduceDiv, Nat.reduceMod, Int.reduceToNat, Int.reduceLT, Int.reduceLE, Int.reduceEq, Int.reduceAdd, Int.reduceSub, Int.reduceMul, Int.reduceNeg, Int.reduceTMod, Int.reduceTDiv, Int.reduceMod, Int.reduceDiv, Int.reduceBEq, Int.reduceBNe, Nat.reduceBEq, NearA, cells10, YA, iA, cellsN_len, onesN, take_cellsN, renL_cellsN, fzL_cellsN, get10c, get10z, gz', gf', hk1, hlt, w4', zeroY]; done)); simp (maxSteps := 1000000) -implicitDefEqProofs only [go_sem, ↓reduceIte, reduceCtorEq, Nat.reduceEqDiff, Nat.reduceLT, Nat.reduceAdd, Nat.reduceLeDiff, Nat.reduceMul, Nat.reduceSub, Nat.reduceDiv, Nat.reduceMod, Int.reduceToNat, Int.reduceLT, Int.reduceLE, Int.reduceEq, Int.reduceAdd, Int.reduceSub, Int.reduceMul, Int.reduceNeg, Int.reduceTMod, Int.reduceTDiv, Int.reduceMod, Int.reduceDiv, Int.reduceBEq, Int.reduceBNe, Nat.reduceBEq, NearA, cells10, YA, iA, cellsN_len, onesN, take_cellsN, renL_cellsN, fzL_cellsN, get10c, get10z, gz', gf', hk1, hlt, w4', zeroY]) | (refine call_draw 1000 (yo) ?_ ?_; (focus (simp (maxSteps := 1000000) -implicitDefEqProofs only [go_sem, ↓reduceIte, reduceCtorEq, Nat.reduceEqDiff, Nat.reduceLT, Nat.reduceAdd, Nat.reduceLeDiff, Nat.reduceMul, Nat.reduceSub, Nat.reduceDiv, Nat.reduceMod, Int.reduceToNat, Int.reduceLT, Int.reduceLE, Int.reduceEq, Int.reduceAdd, Int.reduceSub, Int.reduceMul, Int.reduceNeg, Int.reduceTMod, Int.reduceTDiv, Int.reduceMod, Int.reduceDiv, Int.reduceBEq, Int.reduceBNe, Nat.reduceBEq, NearA, cells10, YA, iA, cellsN_len, onesN, take_cellsN, renL_cellsN, fzL_cellsN, get10c, get10z, gz', gf', hk1, hlt, w4', zeroY]; done)); simp (maxSteps := 1000000) -implicitDefEqProofs only [go_sem, ↓reduceIte, reduceCtorEq, Nat.reduceEqDiff, Nat.reduceLT, Nat.reduceAdd, Nat.reduceLeDiff, Nat.reduceMul, Nat.reduceSub, Nat.reduceDiv, Nat.reduceMod, Int.reduceToNat, Int.reduceLT, Int.reduceLE, Int.reduceEq, Int.reduceAdd, Int.reduceSub, Int.reduceMul, Int.reduceNeg, Int.reduceTMod, Int.reduceTDiv, Int.reduceMod, Int.reduceDiv, Int.reduceBEq, Int.reduceBNe, Nat.reduceBEq, NearA, cells10, YA, iA, cellsN_len, onesN, take_cellsN, renL_cellsN, fzL_cellsN, get10c, get10z, gz', gf', hk1, hlt, w4', zeroY]) | intro _))
      all_goals (clear c1 gz' gf' wr yo)
      all_goals first
        | exact hk1
        | (refine weak_to [1, 2, 3, 5, 6] [0, 1, 2] ?_ (by simp) (fun i h => by cases h); simp (maxSteps := 1000000) -implicitDefEqProofs only [go_sem, ↓reduceIte, reduceCtorEq, Nat.reduceEqDiff, Nat.reduceLT, Nat.reduceAdd, Nat.reduceLeDiff, Nat.reduceMul, Nat.reduceSub, Nat.reduceDiv, Nat.reduceMod, Int.reduceToNat, Int.reduceLT, Int.reduceLE, Int.reduceEq, Int.reduceAdd, Int.reduceSub, Int.reduceMul, Int.reduceNeg, Int.reduceTMod, Int.reduceTDiv, Int.reduceMod, Int.reduceDiv, Int.reduceBEq, Int.reduceBNe, Nat.reduceBEq, St.keep, NearA, cells10, YA, iA, renL_cellsN, cellsN_len, zeroY, hw2]; first | done | (simp_all; done) | (simp_all; (first | omega | exact Bool.beq_eq_decide_eq _ _ | (refine bool_eq ?_; simp only [Bool.and_eq_true, Bool.or_eq_true, Bool.not_eq_true', decide_eq_true_eq, beq_iff_eq, bne_iff_ne, decide_eq_false_iff_not, ne_eq, Bool.true_eq, Bool.false_eq, iff_self]; done) | (refine bool_eq ?_; simp only [Bool.and_eq_true, Bool.or_eq_true, Bool.not_eq_true', decide_eq_true_eq, beq_iff_eq, bne_iff_ne, decide_eq_false_iff_not, ne_eq, Bool.true_eq, Bool.false_eq, iff_self]; omega))))
        | (simp_all; done)
        | trace_state
    · have hk2 : k = 4 := by omega
      subst hk2
      rw [hp] at hY
      simp (maxSteps := 1000000) -implicitDefEqProofs only [go_sem, ↓reduceIte, reduceCtorEq, Nat.reduceEqDiff, Nat.reduceLT, Nat.reduceAdd, Nat.reduceLeDiff, Nat.reduceMul, Nat.reduceSub, Nat.reduceDiv, Nat.reduceMod, Int.reduceToNat, Int.reduceLT, Int.reduceLE, Int.reduceEq, Int.reduceAdd, Int.reduceSub, Int.reduceMul, Int.reduceNeg, Int.reduceTMod, Int.reduceTDiv, Int.reduceMod, Int.reduceDiv, Int.reduceBEq, Int.reduceBNe, Nat.reduceBEq, NearA, cells10, YA, iA, zeroY, Int.reduceLT, cellsN_len]
      (repeat' (first | exact trivial | contradiction | refine And.intro ?_ ?_ | (show (_ : Nat) ≤ _; omega) | (show (_ : Nat) < _; omega) | (show (_ : Int) ≤ _; omega) | (show (_ : Int) < _; omega)  | (refine wait_draw 1000 mixed (by decide +kernel) ?_; simp (maxSteps := 1000000) -implicitDefEqProofs only [go_sem, ↓reduceIte, reduceCtorEq, Nat.reduceEqDiff, Nat.reduceLT, Nat.reduceAdd, Nat.reduceLeDiff, Nat.reduceMul, Nat.reduceSub, Nat.reduceDiv, Nat.reduceMod, Int.reduceToNat, Int.reduceLT, Int.reduceLE, Int.reduceEq, Int.reduceAdd, Int.reduceSub, Int.reduceMul, Int.reduceNeg, Int.reduceTMod, Int.reduceTDiv, Int.reduceMod, Int.reduceDiv, Int.reduceBEq, Int.reduceBNe, Nat.reduceBEq NearA, cells10, YA, iA, zeroY, Int.reduceLT, cellsN_len]) | intro _))
      all_goals (clear wr yo; simp_all; done)
end Go.Proofs.YthflneagfnpfkaaDoor
