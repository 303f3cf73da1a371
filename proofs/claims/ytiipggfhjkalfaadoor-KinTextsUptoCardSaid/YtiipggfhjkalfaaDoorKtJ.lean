/- Books as texts: how the document cuts a text. -/
import Derived.Test.YtiipggfhjkalfaaDoorProg
import Derived.Test.YtiipggfhjkalfaaDoorPmU
import Derived.Test.YtiipggfhjkalfaaDoorKtI
set_option linter.unusedSimpArgs false
set_option linter.unusedVariables false
set_option maxRecDepth 20000
open Go Go.Proofs
namespace Go.Proofs.YtiipggfhjkalfaaDoor
open Pm
attribute [local irreducible] Wait CallT CallW Le Weak
open Kt
structure Pc where
  i : Nat
  f : Nat
  done : List (List UInt8)
def pcS (s : List UInt8) (c : UInt8) (b : Pc) : St := ⟨35, 0, [(0, sA s), (1, .v (.int .u8 c.toNat)), (5, .sl 0 1 0 b.done.length), (6, .v (.int .i64 b.f)), (7, .v (.int .i64 b.i))], [some (.row 9 1 (b.done.map sA))]⟩
theorem pieces_pc (c : UInt8) (s : List UInt8) (hs : s.length ≤ 1048576) : PCon Tryd.prog 33 [sA s, .v (.int .u8 c.toNat)] (· = .fsl 1 ((spl c [] s).map sA)) := by
  refine pcon_run 1000 Tryd.func33 rfl Tryd.results33 Tryd.ntmps33 (Nat.le_of_ble_eq_true rfl) ?_
  simp (maxSteps := 1000000) -implicitDefEqProofs only [go_sem, ↓reduceIte, reduceCtorEq, Nat.reduceEqDiff, Nat.reduceLT, Nat.reduceAdd, Nat.reduceLeDiff, Nat.reduceMul, Nat.reduceSub, Nat.reduceDiv, Nat.reduceMod, Int.reduceToNat, Int.reduceLT, Int.reduceLE, Int.reduceEq, Int.reduceAdd, Int.reduceSub, Int.reduceMul, Int.reduceNeg, Int.reduceTMod, Int.reduceTDiv, Int.reduceMod, Int.reduceDiv, Int.reduceBEq, Int.reduceBNe, Nat.reduceBEq, sA, iA]
  refine wait_data (pcS s c) (fun b => b.f ≤ b.i ∧ b.i ≤ s.length ∧ b.done.length ≤ b.i ∧ b.done ++ spl c ((s.take b.i).drop b.f) (s.drop b.i) = spl c [] s) (fun b => s.length - b.i) ⟨0, 0, []⟩ (weak_to [0, 1, 5, 6, 7] [0] ?_ (by simp) (fun i h => by cases h)) ⟨by simp, by simp, by simp, by simp⟩ ?_
  · simp (maxSteps := 1000000) -implicitDefEqProofs only [go_sem, ↓reduceIte, reduceCtorEq, Nat.reduceEqDiff, Nat.reduceLT, Nat.reduceAdd, Nat.reduceLeDiff, Nat.reduceMul, Nat.reduceSub, Nat.reduceDiv, Nat.reduceMod, Int.reduceToNat, Int.reduceLT, Int.reduceLE, Int.reduceEq, Int.reduceAdd, Int.reduceSub, Int.reduceMul, Int.reduceNeg, Int.reduceTMod, Int.reduceTDiv, Int.reduceMod, Int.reduceDiv, Int.reduceBEq, Int.reduceBNe, Nat.reduceBEq, St.keep, pcS, sA, iA, Int.natCast_zero, List.map_nil, List.length_nil]
  · rintro ⟨i, f, done⟩ ⟨h1, h2, h3, h4⟩
    simp only at h1 h2 h3 h4
    have hwi : IntKind.i64.wrap ((i : Int) + 1) = ((i + 1 : Nat) : Int) := by rw [wrap64 (by omega) (by omega)]; omega
    have hdl : (done.map sA).length = done.length := by simp
    refine run_sound 1000 _ _ ?_
    by_cases hi : i < s.length
    · have hlt : ((i : Int) < (s.length : Int)) = True := eq_true (by omega)
      rw [drop_at 0 s i hi] at h4
      obtain ⟨x, hx⟩ : ∃ x, s.getD i 0 = x := ⟨_, rfl⟩
      rw [hx] at h4
      by_cases hc : x = c
      · have he : ((x.toNat : Int) = (c.toNat : Int)) = True := eq_true (by rw [hc])
        rw [spl, if_pos hc] at h4
        simp (maxSteps := 1000000) -implicitDefEqProofs only [go_sem, ↓reduceIte, reduceCtorEq, Nat.reduceEqDiff, Nat.reduceLT, Nat.reduceAdd, Nat.reduceLeDiff, Nat.reduceMul, Nat.reduceSub, Nat.reduceDiv, Nat.reduceMod, Int.reduceToNat, Int.reduceLT, Int.reduceLE, Int.reduceEq, Int.reduceAdd, Int.reduceSub, Int.reduceMul, Int.reduceNeg, Int.reduceTMod, Int.reduceTDiv, Int.reduceMod, Int.reduceDiv, Int.reduceBEq, Int.reduceBNe, Nat.reduceBEq, pcS, sA, iA, hlt, hx, he]
        (repeat' (first | exact trivial | contradiction | refine And.intro ?_ ?_ | (show (_ : Nat) ≤ _; omega) | (show (_ : Nat) < _; omega) | (show (_ : Int) ≤ _; omega) | (show (_ : Int) < _; omega)  | (refine wait_draw 1000 mixed (by decide +kernel) ?_; simp (maxSteps := 1000000) -implicitDefEqProofs only [go_sem, ↓reduceIte, reduceCtorEq, Nat.reduceEqDiff, Nat.reduceLT, Nat.reduceAdd, Nat.reduceLeDiff, Nat.reduceMul, Nat.reduceSub, Nat.reduceDiv, Nat.reduceMod, Int.reduceToNat, Int.reduceLT, Int.reduceLE, Int.reduceEq, Int.reduceAdd, Int.reduceSub, Int.reduceMul, Int.reduceNeg, Int.reduceTMod, Int.reduceTDiv, Int.reduceMod, Int.reduceDiv, Int.reduceBEq, Int.reduceBNe, Nat.reduceBEq , sA, iA, hwi, hdl]) | intro _))
        all_goals (try omega)
        refine ⟨⟨i + 1, i + 1, done ++ [(s.take i).drop f]⟩, ?_, ⟨?_, ?_, ?_, ?_⟩, ?_⟩
        · show s.length - (i + 1) < s.length - i; omega
        · show i + 1 ≤ i + 1; omega
        · show i + 1 ≤ s.length; omega
        · simp; omega
        · show (done ++ [_]) ++ spl c ((s.take (i + 1)).drop (i + 1)) (s.drop (i + 1)) = _
          rw [← h4, show (s.take (i + 1)).drop (i + 1) = [] by simp]
          simp
        · ((refine weak_to [0, 1, 5, 6, 7] [2] ?_ (by simp) (fun i h => by cases h); simp (maxSteps := 1000000) -implicitDefEqProofs only [go_sem, ↓reduceIte, reduceCtorEq, Nat.reduceEqDiff, Nat.reduceLT, Nat.reduceAdd, Nat.reduceLeDiff, Nat.reduceMul, Nat.reduceSub, Nat.reduceDiv, Nat.reduceMod, Int.reduceToNat, Int.reduceLT, Int.reduceLE, Int.reduceEq, Int.reduceAdd, Int.reduceSub, Int.reduceMul, Int.reduceNeg, Int.reduceTMod, Int.reduceTDiv, Int.reduceMod, Int.reduceDiv, Int.reduceBEq, Int.reduceBNe, Nat.reduceBEq, St.keep, pcS, hwi, sA, iA, List.length_append, List.length_cons, List.length_nil, List.map_append, List.map_cons, List.map_nil]; done))
      · have he : ((x.toNat : Int) = (c.toNat : Int)) = False := eq_false (fun e => hc (UInt8.toNat_inj.1 (by omega)))
        rw [spl, if_neg hc] at h4
        simp (maxSteps := 1000000) -implicitDefEqProofs only [go_sem, ↓reduceIte, reduceCtorEq, Nat.reduceEqDiff, Nat.reduceLT, Nat.reduceAdd, Nat.reduceLeDiff, Nat.reduceMul, Nat.reduceSub, Nat.reduceDiv, Nat.reduceMod, Int.reduceToNat, Int.reduceLT, Int.reduceLE, Int.reduceEq, Int.reduceAdd, Int.reduceSub, Int.reduceMul, Int.reduceNeg, Int.reduceTMod, Int.reduceTDiv, Int.reduceMod, Int.reduceDiv, Int.reduceBEq, Int.reduceBNe, Nat.reduceBEq, pcS, sA, iA, hlt, hx, he]
        (repeat' (first | exact trivial | contradiction | refine And.intro ?_ ?_ | (show (_ : Nat) ≤ _; omega) | (show (_ : Nat) < _; omega) | (show (_ : Int) ≤ _; omega) | (show (_ : Int) < _; omega)  | (refine wait_draw 1000 mixed (by decide +kernel) ?_; simp (maxSteps := 1000000) -implicitDefEqProofs only [go_sem, ↓reduceIte, reduceCtorEq, Nat.reduceEqDiff, Nat.reduceLT, Nat.reduceAdd, Nat.reduceLeDiff, Nat.reduceMul, Nat.reduceSub, Nat.reduceDiv, Nat.reduceMod, Int.reduceToNat, Int.reduceLT, Int.reduceLE, Int.reduceEq, Int.reduceAdd, Int.reduceSub, Int.reduceMul, Int.reduceNeg, Int.reduceTMod, Int.reduceTDiv, Int.reduceMod, Int.reduceDiv, Int.reduceBEq, Int.reduceBNe, Nat.reduceBEq , sA, iA, hwi, hdl]) | intro _))
        all_goals (try omega)
        refine ⟨⟨i + 1, f, done⟩, ?_, ⟨?_, ?_, ?_, ?_⟩, ?_⟩
        · show s.length - (i + 1) < s.length - i; omega
        · show f ≤ i + 1; omega
        · show i + 1 ≤ s.length; omega
        · show done.length ≤ i + 1; omega
        · show done ++ spl c ((s.take (i + 1)).drop f) (s.drop (i + 1)) = _
          rw [← h4, take_at 0 s i hi, hx, List.drop_append_of_le_length (by simp; omega)]
        · ((refine weak_to [0, 1, 5, 6, 7] [0] ?_ (by simp) (fun i h => by cases h); simp (maxSteps := 1000000) -implicitDefEqProofs only [go_sem, ↓reduceIte, reduceCtorEq, Nat.reduceEqDiff, Nat.reduceLT, Nat.reduceAdd, Nat.reduceLeDiff, Nat.reduceMul, Nat.reduceSub, Nat.reduceDiv, Nat.reduceMod, Int.reduceToNat, Int.reduceLT, Int.reduceLE, Int.reduceEq, Int.reduceAdd, Int.reduceSub, Int.reduceMul, Int.reduceNeg, Int.reduceTMod, Int.reduceTDiv, Int.reduceMod, Int.reduceDiv, Int.reduceBEq, Int.reduceBNe, Nat.reduceBEq, St.keep, pcS, hwi, sA, iA]; done))
    · have hlt : ((i : Int) < (s.length : Int)) = False := eq_false (by omega)
      have e1 : s.take i = s := List.take_of_length_le (by omega)
      rw [show s.drop i = [] from List.drop_eq_nil_of_le (by omega), e1, spl] at h4
      simp (maxSteps := 1000000) -implicitDefEqProofs only [go_sem, ↓reduceIte, reduceCtorEq, Nat.reduceEqDiff, Nat.reduceLT, Nat.reduceAdd, Nat.reduceLeDiff, Nat.reduceMul, Nat.reduceSub, Nat.reduceDiv, Nat.reduceMod, Int.reduceToNat, Int.reduceLT, Int.reduceLE, Int.reduceEq, Int.reduceAdd, Int.reduceSub, Int.reduceMul, Int.reduceNeg, Int.reduceTMod, Int.reduceTDiv, Int.reduceMod, Int.reduceDiv, Int.reduceBEq, Int.reduceBNe, Nat.reduceBEq, pcS, sA, iA, hlt]
      (repeat' (first | exact trivial | contradiction | refine And.intro ?_ ?_ | (show (_ : Nat) ≤ _; omega) | (show (_ : Nat) < _; omega) | (show (_ : Int) ≤ _; omega) | (show (_ : Int) < _; omega)  | (refine wait_draw 1000 mixed (by decide +kernel) ?_; simp (maxSteps := 1000000) -implicitDefEqProofs only [go_sem, ↓reduceIte, reduceCtorEq, Nat.reduceEqDiff, Nat.reduceLT, Nat.reduceAdd, Nat.reduceLeDiff, Nat.reduceMul, Nat.reduceSub, Nat.reduceDiv, Nat.reduceMod, Int.reduceToNat, Int.reduceLT, Int.reduceLE, Int.reduceEq, Int.reduceAdd, Int.reduceSub, Int.reduceMul, Int.reduceNeg, Int.reduceTMod, Int.reduceTDiv, Int.reduceMod, Int.reduceDiv, Int.reduceBEq, Int.reduceBNe, Nat.reduceBEq , sA, iA, hdl]) | intro _))
      have hl := congrArg List.length h4
      simp only [List.length_append, List.length_cons, List.length_nil] at hl
      rw [show done.map sA ++ [AV.v (.string (bs (List.drop f s)))] = (spl c [] s).map sA by rw [← h4]; simp [sA], List.length_map, if_pos (by omega), List.take_of_length_le (by simp; omega), renL_sA]
theorem wrap8 {x : Int} (h0 : 0 ≤ x) (h1 : x < 256) : IntKind.u8.wrap x = x := by
  simp only [IntKind.wrap, IntKind.bits, IntKind.signed]
  simp
  omega
/-- What reading a number answers. -/
def NumQ (w : List UInt8) (r : AV) : Prop := ∃ v ok, r = .tup [iA v, .v (.bool ok)] ∧ match numR w with
  | some n => v = n ∧ ok = true
  | none => ok = false
theorem NumQ.no {w : List UInt8} (h : numR w = none) : NumQ w (.tup [.v (.int .i64 0), .v (.bool false)]) := ⟨0, false, rfl, by rw [h]⟩
structure Nr where
  i : Nat
  n : Nat
def nrS (d : List UInt8) (mb : Bool) (b : Nr) : St := ⟨75, 0, [(4, sA d), (5, .v (.bool mb)), (6, .v (.int .u64 b.n)), (7, .v (.int .i64 b.i))], []⟩
theorem numR_neg (d : List UInt8) : numR (45 :: d) = if d.length = 0 ∨ 19 < d.length ∨ d.getD 0 0 = 48 then none else match valF d 0 with
  | none => none
  | some n => if n ≤ 9223372036854775808 then some (-(n : Int)) else none := by
  unfold numR
  simp
  rfl
theorem numR_plus (d : List UInt8) (h : d.getD 0 0 ≠ 45) : numR d = if d.length = 0 ∨ 19 < d.length ∨ (d.getD 0 0 = 48 ∧ 1 < d.length) then none else match valF d 0 with
  | none => none
  | some n => if n ≤ 9223372036854775807 then some (n : Int) else none := by
  unfold numR
  simp only [h, if_false, false_or]
  rfl
theorem nr_step {x : UInt8} (h1 : 48 ≤ x.toNat) (h2 : x.toNat ≤ 57) {n i : Nat} (hn : n < 10 ^ i) (hi : i < 19) :
    IntKind.u64.wrap (IntKind.u64.wrap (10 * (n : Int)) + IntKind.u64.wrap (IntKind.u8.wrap ((x.toNat : Int) - 48))) = ((10 * n + (x.toNat - 48) : Nat) : Int) ∧ 10 * n + (x.toNat - 48) < 10 ^ (i + 1) := by
  have h3 : 10 ^ i ≤ 10 ^ 18 := Nat.pow_le_pow_right (by omega) (by omega)
  have h4 : 10 ^ (i + 1) = 10 * 10 ^ i := by rw [Nat.pow_succ]; omega
  have e1 : IntKind.u64.wrap (10 * (n : Int)) = 10 * (n : Int) := wrapU (by omega) (by omega)
  have e2 : IntKind.u8.wrap ((x.toNat : Int) - 48) = ((x.toNat - 48 : Nat) : Int) := by rw [wrap8 (by omega) (by omega)]; omega
  have e3 : IntKind.u64.wrap ((x.toNat - 48 : Nat) : Int) = ((x.toNat - 48 : Nat) : Int) := wrapU (by omega) (by omega)
  rw [e1, e2, e3, wrapU (by omega) (by omega)]
  constructor
  · omega
  · omega
theorem wrap_neg {n : Nat} (h : n ≤ 9223372036854775808) : IntKind.i64.wrap (IntKind.u64.wrap (0 - (n : Int))) = -(n : Int) := by
  simp only [IntKind.wrap, IntKind.bits, IntKind.signed]
  simp
  split <;> omega
theorem wrap_pos {n : Nat} (h : n ≤ 9223372036854775807) : IntKind.i64.wrap (n : Int) = (n : Int) := by rw [wrap64 (by omega) (by omega)]
theorem number_pc (s : List UInt8) (hs : s.length ≤ 1048576) : PCon Tryd.prog 50 [sA s] (NumQ s) := by
  refine pcon_run 1000 Tryd.func50 rfl Tryd.results50 Tryd.ntmps50 (Nat.le_of_ble_eq_true rfl) ?_
  by_cases hm : s.getD 0 0 = 45
  · obtain ⟨d, rfl⟩ : ∃ d, s = 45 :: d := by
      cases s with
      | nil => simp at hm
      | cons a l => exact ⟨l, by rw [List.getD_cons_zero] at hm; rw [hm]⟩
    have hN := numR_neg d
    rw [List.length_cons] at hs
    have hs0 : (0 < ((d.length + 1 : Nat) : Int)) = True := eq_true (by omega)
    have hb : (((45 : UInt8).toNat : Nat) : Int) = 45 := rfl
    have hb45 : ((((45 :: d).getD 0 0).toNat : Nat) : Int) = 45 := rfl
    have hsl : ((45 :: d).take (d.length + 1)).drop 1 = d := by simp
    by_cases z0 : d.length = 0
    · have f1 : ((d.length : Int) = 0) = True := eq_true (by omega)
      simp (maxSteps := 1000000) -implicitDefEqProofs only [go_sem, ↓reduceIte, reduceCtorEq, Nat.reduceEqDiff, Nat.reduceLT, Nat.reduceAdd, Nat.reduceLeDiff, Nat.reduceMul, Nat.reduceSub, Nat.reduceDiv, Nat.reduceMod, Int.reduceToNat, Int.reduceLT, Int.reduceLE, Int.reduceEq, Int.reduceAdd, Int.reduceSub, Int.reduceMul, Int.reduceNeg, Int.reduceTMod, Int.reduceTDiv, Int.reduceMod, Int.reduceDiv, Int.reduceBEq, Int.reduceBNe, Nat.reduceBEq, sA, iA, f1, hs0, hb, hb45, hsl, List.getD_cons_zero]
      refine ⟨by omega, ?_⟩
      exact NumQ.no (by rw [hN, if_pos (.inl z0)])
    have f1 : ((d.length : Int) = 0) = False := eq_false (by omega)
    by_cases z1 : 19 < d.length
    · have f2 : (19 < (d.length : Int)) = True := eq_true (by omega)
      simp (maxSteps := 1000000) -implicitDefEqProofs only [go_sem, ↓reduceIte, reduceCtorEq, Nat.reduceEqDiff, Nat.reduceLT, Nat.reduceAdd, Nat.reduceLeDiff, Nat.reduceMul, Nat.reduceSub, Nat.reduceDiv, Nat.reduceMod, Int.reduceToNat, Int.reduceLT, Int.reduceLE, Int.reduceEq, Int.reduceAdd, Int.reduceSub, Int.reduceMul, Int.reduceNeg, Int.reduceTMod, Int.reduceTDiv, Int.reduceMod, Int.reduceDiv, Int.reduceBEq, Int.reduceBNe, Nat.reduceBEq, sA, iA, f1, f2, hs0, hb, hb45, hsl, List.getD_cons_zero]
      refine ⟨by omega, ?_⟩
      exact NumQ.no (by rw [hN, if_pos (.inr (.inl z1))])
    have f2 : (19 < (d.length : Int)) = False := eq_false (by omega)
    have f3 : (0 < (d.length : Int)) = True := eq_true (by omega)
    by_cases z2 : d.getD 0 0 = 48
    · have f4 : (((d.getD 0 0).toNat : Int) = 48) = True := eq_true (by rw [z2]; rfl)
      simp (maxSteps := 1000000) -implicitDefEqProofs only [go_sem, ↓reduceIte, reduceCtorEq, Nat.reduceEqDiff, Nat.reduceLT, Nat.reduceAdd, Nat.reduceLeDiff, Nat.reduceMul, Nat.reduceSub, Nat.reduceDiv, Nat.reduceMod, Int.reduceToNat, Int.reduceLT, Int.reduceLE, Int.reduceEq, Int.reduceAdd, Int.reduceSub, Int.reduceMul, Int.reduceNeg, Int.reduceTMod, Int.reduceTDiv, Int.reduceMod, Int.reduceDiv, Int.reduceBEq, Int.reduceBNe, Nat.reduceBEq, sA, iA, f1, f2, f3, hs0, hb, hb45, hsl, List.getD_cons_zero, f4]
      refine ⟨by omega, ?_⟩
      exact NumQ.no (by rw [hN, if_pos (.inr (.inr z2))])
    have hN2 := hN
    rw [if_neg (by simp only [z0, z1, z2, or_self, not_false_eq_true])] at hN2
    have f4 : (((d.getD 0 0).toNat : Int) = 48) = False := eq_false (fun e => z2 (UInt8.toNat_inj.1 (show _ = 48 by omega)))
    simp (maxSteps := 1000000) -implicitDefEqProofs only [go_sem, ↓reduceIte, reduceCtorEq, Nat.reduceEqDiff, Nat.reduceLT, Nat.reduceAdd, Nat.reduceLeDiff, Nat.reduceMul, Nat.reduceSub, Nat.reduceDiv, Nat.reduceMod, Int.reduceToNat, Int.reduceLT, Int.reduceLE, Int.reduceEq, Int.reduceAdd, Int.reduceSub, Int.reduceMul, Int.reduceNeg, Int.reduceTMod, Int.reduceTDiv, Int.reduceMod, Int.reduceDiv, Int.reduceBEq, Int.reduceBNe, Nat.reduceBEq, sA, iA, f1, f2, f3, f4, hs0, hb, hb45, hsl, List.getD_cons_zero]
    refine ⟨by omega, ?_⟩
    refine wait_data (nrS d true) (fun b => b.i ≤ d.length ∧ b.n < 10 ^ b.i ∧ valF d 0 = valF (d.drop b.i) b.n) (fun b => d.length - b.i) ⟨0, 0⟩ (weak_to [4, 5, 6, 7] [] ?_ (by simp) (fun i h => by cases h)) ⟨by simp, by simp, by simp⟩ ?_
    · simp (maxSteps := 1000000) -implicitDefEqProofs only [go_sem, ↓reduceIte, reduceCtorEq, Nat.reduceEqDiff, Nat.reduceLT, Nat.reduceAdd, Nat.reduceLeDiff, Nat.reduceMul, Nat.reduceSub, Nat.reduceDiv, Nat.reduceMod, Int.reduceToNat, Int.reduceLT, Int.reduceLE, Int.reduceEq, Int.reduceAdd, Int.reduceSub, Int.reduceMul, Int.reduceNeg, Int.reduceTMod, Int.reduceTDiv, Int.reduceMod, Int.reduceDiv, Int.reduceBEq, Int.reduceBNe, Nat.reduceBEq, St.keep, nrS, sA, iA, Int.natCast_zero]
    · rintro ⟨i, n⟩ ⟨h1, h2, h3⟩
      simp only at h1 h2 h3
      refine run_sound 1000 _ _ ?_
      by_cases hi : i < d.length
      · have hlt : ((i : Int) < (d.length : Int)) = True := eq_true (by omega)
        have hwi : IntKind.i64.wrap ((i : Int) + 1) = ((i + 1 : Nat) : Int) := by rw [wrap64 (by omega) (by omega)]; omega
        rw [drop_at 0 d i hi] at h3
        obtain ⟨x, hx⟩ : ∃ x, d.getD i 0 = x := ⟨_, rfl⟩
        rw [hx, valF] at h3
        by_cases x1 : x.toNat < 48
        · have g1 : ((x.toNat : Int) < 48) = True := eq_true (by omega)
          rw [if_neg (by omega)] at h3
          simp (maxSteps := 1000000) -implicitDefEqProofs only [go_sem, ↓reduceIte, reduceCtorEq, Nat.reduceEqDiff, Nat.reduceLT, Nat.reduceAdd, Nat.reduceLeDiff, Nat.reduceMul, Nat.reduceSub, Nat.reduceDiv, Nat.reduceMod, Int.reduceToNat, Int.reduceLT, Int.reduceLE, Int.reduceEq, Int.reduceAdd, Int.reduceSub, Int.reduceMul, Int.reduceNeg, Int.reduceTMod, Int.reduceTDiv, Int.reduceMod, Int.reduceDiv, Int.reduceBEq, Int.reduceBNe, Nat.reduceBEq, nrS, sA, iA, hlt, hx, g1]
          (repeat' (first | exact trivial | contradiction | refine And.intro ?_ ?_ | (show (_ : Nat) ≤ _; omega) | (show (_ : Nat) < _; omega) | (show (_ : Int) ≤ _; omega) | (show (_ : Int) < _; omega)  | (refine wait_draw 1000 mixed (by decide +kernel) ?_; simp (maxSteps := 1000000) -implicitDefEqProofs only [go_sem, ↓reduceIte, reduceCtorEq, Nat.reduceEqDiff, Nat.reduceLT, Nat.reduceAdd, Nat.reduceLeDiff, Nat.reduceMul, Nat.reduceSub, Nat.reduceDiv, Nat.reduceMod, Int.reduceToNat, Int.reduceLT, Int.reduceLE, Int.reduceEq, Int.reduceAdd, Int.reduceSub, Int.reduceMul, Int.reduceNeg, Int.reduceTMod, Int.reduceTDiv, Int.reduceMod, Int.reduceDiv, Int.reduceBEq, Int.reduceBNe, Nat.reduceBEq , sA, iA]) | intro _))
          all_goals (try omega)
          exact NumQ.no (by rw [hN2, h3])
        have g1 : ((x.toNat : Int) < 48) = False := eq_false (by omega)
        by_cases x2 : 57 < x.toNat
        · have g2 : (57 < (x.toNat : Int)) = True := eq_true (by omega)
          rw [if_neg (by omega)] at h3
          simp (maxSteps := 1000000) -implicitDefEqProofs only [go_sem, ↓reduceIte, reduceCtorEq, Nat.reduceEqDiff, Nat.reduceLT, Nat.reduceAdd, Nat.reduceLeDiff, Nat.reduceMul, Nat.reduceSub, Nat.reduceDiv, Nat.reduceMod, Int.reduceToNat, Int.reduceLT, Int.reduceLE, Int.reduceEq, Int.reduceAdd, Int.reduceSub, Int.reduceMul, Int.reduceNeg, Int.reduceTMod, Int.reduceTDiv, Int.reduceMod, Int.reduceDiv, Int.reduceBEq, Int.reduceBNe, Nat.reduceBEq, nrS, sA, iA, hlt, hx, g1, g2]
          (repeat' (first | exact trivial | contradiction | refine And.intro ?_ ?_ | (show (_ : Nat) ≤ _; omega) | (show (_ : Nat) < _; omega) | (show (_ : Int) ≤ _; omega) | (show (_ : Int) < _; omega)  | (refine wait_draw 1000 mixed (by decide +kernel) ?_; simp (maxSteps := 1000000) -implicitDefEqProofs only [go_sem, ↓reduceIte, reduceCtorEq, Nat.reduceEqDiff, Nat.reduceLT, Nat.reduceAdd, Nat.reduceLeDiff, Nat.reduceMul, Nat.reduceSub, Nat.reduceDiv, Nat.reduceMod, Int.reduceToNat, Int.reduceLT, Int.reduceLE, Int.reduceEq, Int.reduceAdd, Int.reduceSub, Int.reduceMul, Int.reduceNeg, Int.reduceTMod, Int.reduceTDiv, Int.reduceMod, Int.reduceDiv, Int.reduceBEq, Int.reduceBNe, Nat.reduceBEq , sA, iA]) | intro _))
          all_goals (try omega)
          exact NumQ.no (by rw [hN2, h3])
        have g2 : (57 < (x.toNat : Int)) = False := eq_false (by omega)
        rw [if_pos (by omega)] at h3
        obtain ⟨k1, k2⟩ := nr_step (x := x) (by omega) (by omega) h2 (by omega)
        simp (maxSteps := 1000000) -implicitDefEqProofs only [go_sem, ↓reduceIte, reduceCtorEq, Nat.reduceEqDiff, Nat.reduceLT, Nat.reduceAdd, Nat.reduceLeDiff, Nat.reduceMul, Nat.reduceSub, Nat.reduceDiv, Nat.reduceMod, Int.reduceToNat, Int.reduceLT, Int.reduceLE, Int.reduceEq, Int.reduceAdd, Int.reduceSub, Int.reduceMul, Int.reduceNeg, Int.reduceTMod, Int.reduceTDiv, Int.reduceMod, Int.reduceDiv, Int.reduceBEq, Int.reduceBNe, Nat.reduceBEq, nrS, sA, iA, hlt, hx, g1, g2, k1]
        (repeat' (first | exact trivial | contradiction | refine And.intro ?_ ?_ | (show (_ : Nat) ≤ _; omega) | (show (_ : Nat) < _; omega) | (show (_ : Int) ≤ _; omega) | (show (_ : Int) < _; omega)  | (refine wait_draw 1000 mixed (by decide +kernel) ?_; simp (maxSteps := 1000000) -implicitDefEqProofs only [go_sem, ↓reduceIte, reduceCtorEq, Nat.reduceEqDiff, Nat.reduceLT, Nat.reduceAdd, Nat.reduceLeDiff, Nat.reduceMul, Nat.reduceSub, Nat.reduceDiv, Nat.reduceMod, Int.reduceToNat, Int.reduceLT, Int.reduceLE, Int.reduceEq, Int.reduceAdd, Int.reduceSub, Int.reduceMul, Int.reduceNeg, Int.reduceTMod, Int.reduceTDiv, Int.reduceMod, Int.reduceDiv, Int.reduceBEq, Int.reduceBNe, Nat.reduceBEq , sA, iA]) | intro _))
        all_goals (try omega)
        refine ⟨⟨i + 1, 10 * n + (x.toNat - 48)⟩, ?_, ⟨?_, k2, h3⟩, ?_⟩
        · show d.length - (i + 1) < d.length - i; omega
        · show i + 1 ≤ d.length; omega
        · ((refine weak_to [4, 5, 6, 7] [] ?_ (by simp) (fun i h => by cases h); simp (maxSteps := 1000000) -implicitDefEqProofs only [go_sem, ↓reduceIte, reduceCtorEq, Nat.reduceEqDiff, Nat.reduceLT, Nat.reduceAdd, Nat.reduceLeDiff, Nat.reduceMul, Nat.reduceSub, Nat.reduceDiv, Nat.reduceMod, Int.reduceToNat, Int.reduceLT, Int.reduceLE, Int.reduceEq, Int.reduceAdd, Int.reduceSub, Int.reduceMul, Int.reduceNeg, Int.reduceTMod, Int.reduceTDiv, Int.reduceMod, Int.reduceDiv, Int.reduceBEq, Int.reduceBNe, Nat.reduceBEq, St.keep, nrS, hwi, sA, iA]; done))
      · have hlt : ((i : Int) < (d.length : Int)) = False := eq_false (by omega)
        have hn : n < 10 ^ 19 := Nat.lt_of_lt_of_le h2 (Nat.pow_le_pow_right (by omega) (by omega))
        rw [show d.drop i = [] from List.drop_eq_nil_of_le (by omega), valF] at h3
        rw [h3] at hN2
        simp only at hN2
        by_cases hb : n ≤ 9223372036854775808
        · have g1 : ((n : Int) ≤ 9223372036854775808) = True := eq_true (by omega)
          rw [if_pos hb] at hN2
          simp (maxSteps := 1000000) -implicitDefEqProofs only [go_sem, ↓reduceIte, reduceCtorEq, Nat.reduceEqDiff, Nat.reduceLT, Nat.reduceAdd, Nat.reduceLeDiff, Nat.reduceMul, Nat.reduceSub, Nat.reduceDiv, Nat.reduceMod, Int.reduceToNat, Int.reduceLT, Int.reduceLE, Int.reduceEq, Int.reduceAdd, Int.reduceSub, Int.reduceMul, Int.reduceNeg, Int.reduceTMod, Int.reduceTDiv, Int.reduceMod, Int.reduceDiv, Int.reduceBEq, Int.reduceBNe, Nat.reduceBEq, nrS, sA, iA, hlt, g1, wrap_neg hb]
          exact ⟨_, _, rfl, by rw [hN2]; exact ⟨rfl, rfl⟩⟩
        · have g1 : ((n : Int) ≤ 9223372036854775808) = False := eq_false (by omega)
          rw [if_neg hb] at hN2
          simp (maxSteps := 1000000) -implicitDefEqProofs only [go_sem, ↓reduceIte, reduceCtorEq, Nat.reduceEqDiff, Nat.reduceLT, Nat.reduceAdd, Nat.reduceLeDiff, Nat.reduceMul, Nat.reduceSub, Nat.reduceDiv, Nat.reduceMod, Int.reduceToNat, Int.reduceLT, Int.reduceLE, Int.reduceEq, Int.reduceAdd, Int.reduceSub, Int.reduceMul, Int.reduceNeg, Int.reduceTMod, Int.reduceTDiv, Int.reduceMod, Int.reduceDiv, Int.reduceBEq, Int.reduceBNe, Nat.reduceBEq, nrS, sA, iA, hlt, g1]
          exact ⟨_, _, rfl, by rw [hN2]⟩
  · have hN := numR_plus s hm
    by_cases z0 : s.length = 0
    · have f1 : ((s.length : Int) = 0) = True := eq_true (by omega)
      have f0 : (0 < (s.length : Int)) = False := eq_false (by omega)
      simp (maxSteps := 1000000) -implicitDefEqProofs only [go_sem, ↓reduceIte, reduceCtorEq, Nat.reduceEqDiff, Nat.reduceLT, Nat.reduceAdd, Nat.reduceLeDiff, Nat.reduceMul, Nat.reduceSub, Nat.reduceDiv, Nat.reduceMod, Int.reduceToNat, Int.reduceLT, Int.reduceLE, Int.reduceEq, Int.reduceAdd, Int.reduceSub, Int.reduceMul, Int.reduceNeg, Int.reduceTMod, Int.reduceTDiv, Int.reduceMod, Int.reduceDiv, Int.reduceBEq, Int.reduceBNe, Nat.reduceBEq, sA, iA, f1, f0]
      exact NumQ.no (by rw [hN, if_pos (.inl z0)])
    have f1 : ((s.length : Int) = 0) = False := eq_false (by omega)
    have f0 : (0 < (s.length : Int)) = True := eq_true (by omega)
    have f9 : (((s.getD 0 0).toNat : Int) = 45) = False := eq_false (fun e => hm (UInt8.toNat_inj.1 (show _ = 45 by omega)))
    have f10 : ((((s.getD 0 0).toNat : Nat) : Int) == 45) = false := by rw [beq_eq_false_iff_ne]; exact fun e => by rw [f9] at e; exact e
    by_cases z1 : 19 < s.length
    · have f2 : (19 < (s.length : Int)) = True := eq_true (by omega)
      simp (maxSteps := 1000000) -implicitDefEqProofs only [go_sem, ↓reduceIte, reduceCtorEq, Nat.reduceEqDiff, Nat.reduceLT, Nat.reduceAdd, Nat.reduceLeDiff, Nat.reduceMul, Nat.reduceSub, Nat.reduceDiv, Nat.reduceMod, Int.reduceToNat, Int.reduceLT, Int.reduceLE, Int.reduceEq, Int.reduceAdd, Int.reduceSub, Int.reduceMul, Int.reduceNeg, Int.reduceTMod, Int.reduceTDiv, Int.reduceMod, Int.reduceDiv, Int.reduceBEq, Int.reduceBNe, Nat.reduceBEq, sA, iA, f1, f2, f0, f9]
      exact NumQ.no (by rw [hN, if_pos (.inr (.inl z1))])
    have f2 : (19 < (s.length : Int)) = False := eq_false (by omega)
    by_cases z2 : s.getD 0 0 = 48 ∧ 1 < s.length
    · have f4 : (((s.getD 0 0).toNat : Int) = 48) = True := eq_true (by rw [z2.1]; rfl)
      have f5 : (1 < (s.length : Int)) = True := eq_true (by omega)
      simp (maxSteps := 1000000) -implicitDefEqProofs only [go_sem, ↓reduceIte, reduceCtorEq, Nat.reduceEqDiff, Nat.reduceLT, Nat.reduceAdd, Nat.reduceLeDiff, Nat.reduceMul, Nat.reduceSub, Nat.reduceDiv, Nat.reduceMod, Int.reduceToNat, Int.reduceLT, Int.reduceLE, Int.reduceEq, Int.reduceAdd, Int.reduceSub, Int.reduceMul, Int.reduceNeg, Int.reduceTMod, Int.reduceTDiv, Int.reduceMod, Int.reduceDiv, Int.reduceBEq, Int.reduceBNe, Nat.reduceBEq, sA, iA, f1, f2, f0, f9, f4, f5]
      exact NumQ.no (by rw [hN, if_pos (.inr (.inr z2))])
    have hN2 := hN
    rw [if_neg (by simp only [z0, z1, z2, or_self, not_false_eq_true])] at hN2
    have z3 : s.getD 0 0 ≠ 48 ∨ (s.getD 0 0 = 48 ∧ ¬ 1 < s.length) := by
      by_cases z4 : s.getD 0 0 = 48
      · exact .inr ⟨z4, fun h => z2 ⟨z4, h⟩⟩
      · exact .inl z4
    rcases z3 with z3 | ⟨z3, z4⟩
    case' inl => (
      have f4 : (((s.getD 0 0).toNat : Int) = 48) = False := eq_false (fun e => z3 (UInt8.toNat_inj.1 (show _ = 48 by omega)))
      simp (maxSteps := 1000000) -implicitDefEqProofs only [go_sem, ↓reduceIte, reduceCtorEq, Nat.reduceEqDiff, Nat.reduceLT, Nat.reduceAdd, Nat.reduceLeDiff, Nat.reduceMul, Nat.reduceSub, Nat.reduceDiv, Nat.reduceMod, Int.reduceToNat, Int.reduceLT, Int.reduceLE, Int.reduceEq, Int.reduceAdd, Int.reduceSub, Int.reduceMul, Int.reduceNeg, Int.reduceTMod, Int.reduceTDiv, Int.reduceMod, Int.reduceDiv, Int.reduceBEq, Int.reduceBNe, Nat.reduceBEq, sA, iA, f1, f2, f0, f4, f9])
    case' inr => (
      have f4 : (((s.getD 0 0).toNat : Int) = 48) = True := eq_true (by rw [z3]; rfl)
      have f5 : (1 < (s.length : Int)) = False := eq_false (by omega)
      simp (maxSteps := 1000000) -implicitDefEqProofs only [go_sem, ↓reduceIte, reduceCtorEq, Nat.reduceEqDiff, Nat.reduceLT, Nat.reduceAdd, Nat.reduceLeDiff, Nat.reduceMul, Nat.reduceSub, Nat.reduceDiv, Nat.reduceMod, Int.reduceToNat, Int.reduceLT, Int.reduceLE, Int.reduceEq, Int.reduceAdd, Int.reduceSub, Int.reduceMul, Int.reduceNeg, Int.reduceTMod, Int.reduceTDiv, Int.reduceMod, Int.reduceDiv, Int.reduceBEq, Int.reduceBNe, Nat.reduceBEq, sA, iA, f1, f2, f0, f4, f5, f9])
    all_goals (
      refine wait_data (nrS s false) (fun b => b.i ≤ s.length ∧ b.n < 10 ^ b.i ∧ valF s 0 = valF (s.drop b.i) b.n) (fun b => s.length - b.i) ⟨0, 0⟩ (weak_to [4, 5, 6, 7] [] ?_ (by simp) (fun i h => by cases h)) ⟨by simp, by simp, by simp⟩ ?_
      · simp (maxSteps := 1000000) -implicitDefEqProofs only [go_sem, ↓reduceIte, reduceCtorEq, Nat.reduceEqDiff, Nat.reduceLT, Nat.reduceAdd, Nat.reduceLeDiff, Nat.reduceMul, Nat.reduceSub, Nat.reduceDiv, Nat.reduceMod, Int.reduceToNat, Int.reduceLT, Int.reduceLE, Int.reduceEq, Int.reduceAdd, Int.reduceSub, Int.reduceMul, Int.reduceNeg, Int.reduceTMod, Int.reduceTDiv, Int.reduceMod, Int.reduceDiv, Int.reduceBEq, Int.reduceBNe, Nat.reduceBEq, St.keep, nrS, sA, iA, Int.natCast_zero, f10]
      · rintro ⟨i, n⟩ ⟨h1, h2, h3⟩
        simp only at h1 h2 h3
        refine run_sound 1000 _ _ ?_
        by_cases hi : i < s.length
        · have hlt : ((i : Int) < (s.length : Int)) = True := eq_true (by omega)
          have hwi : IntKind.i64.wrap ((i : Int) + 1) = ((i + 1 : Nat) : Int) := by rw [wrap64 (by omega) (by omega)]; omega
          rw [drop_at 0 s i hi] at h3
          obtain ⟨x, hx⟩ : ∃ x, s.getD i 0 = x := ⟨_, rfl⟩
          rw [hx, valF] at h3
          by_cases x1 : x.toNat < 48
          · have g1 : ((x.toNat : Int) < 48) = True := eq_true (by omega)
            rw [if_neg (by omega)] at h3
            simp (maxSteps := 1000000) -implicitDefEqProofs only [go_sem, ↓reduceIte, reduceCtorEq, Nat.reduceEqDiff, Nat.reduceLT, Nat.reduceAdd, Nat.reduceLeDiff, Nat.reduceMul, Nat.reduceSub, Nat.reduceDiv, Nat.reduceMod, Int.reduceToNat, Int.reduceLT, Int.reduceLE, Int.reduceEq, Int.reduceAdd, Int.reduceSub, Int.reduceMul, Int.reduceNeg, Int.reduceTMod, Int.reduceTDiv, Int.reduceMod, Int.reduceDiv, Int.reduceBEq, Int.reduceBNe, Nat.reduceBEq, nrS, sA, iA, hlt, hx, g1]
            (repeat' (first | exact trivial | contradiction | refine And.intro ?_ ?_ | (show (_ : Nat) ≤ _; omega) | (show (_ : Nat) < _; omega) | (show (_ : Int) ≤ _; omega) | (show (_ : Int) < _; omega)  | (refine wait_draw 1000 mixed (by decide +kernel) ?_; simp (maxSteps := 1000000) -implicitDefEqProofs only [go_sem, ↓reduceIte, reduceCtorEq, Nat.reduceEqDiff, Nat.reduceLT, Nat.reduceAdd, Nat.reduceLeDiff, Nat.reduceMul, Nat.reduceSub, Nat.reduceDiv, Nat.reduceMod, Int.reduceToNat, Int.reduceLT, Int.reduceLE, Int.reduceEq, Int.reduceAdd, Int.reduceSub, Int.reduceMul, Int.reduceNeg, Int.reduceTMod, Int.reduceTDiv, Int.reduceMod, Int.reduceDiv, Int.reduceBEq, Int.reduceBNe, Nat.reduceBEq , sA, iA]) | intro _))
            all_goals (try omega)
            exact NumQ.no (by rw [hN2, h3])
          have g1 : ((x.toNat : Int) < 48) = False := eq_false (by omega)
          by_cases x2 : 57 < x.toNat
          · have g2 : (57 < (x.toNat : Int)) = True := eq_true (by omega)
            rw [if_neg (by omega)] at h3
            simp (maxSteps := 1000000) -implicitDefEqProofs only [go_sem, ↓reduceIte, reduceCtorEq, Nat.reduceEqDiff, Nat.reduceLT, Nat.reduceAdd, Nat.reduceLeDiff, Nat.reduceMul, Nat.reduceSub, Nat.reduceDiv, Nat.reduceMod, Int.reduceToNat, Int.reduceLT, Int.reduceLE, Int.reduceEq, Int.reduceAdd, Int.reduceSub, Int.reduceMul, Int.reduceNeg, Int.reduceTMod, Int.reduceTDiv, Int.reduceMod, Int.reduceDiv, Int.reduceBEq, Int.reduceBNe, Nat.reduceBEq, nrS, sA, iA, hlt, hx, g1, g2]
            (repeat' (first | exact trivial | contradiction | refine And.intro ?_ ?_ | (show (_ : Nat) ≤ _; omega) | (show (_ : Nat) < _; omega) | (show (_ : Int) ≤ _; omega) | (show (_ : Int) < _; omega)  | (refine wait_draw 1000 mixed (by decide +kernel) ?_; simp (maxSteps := 1000000) -implicitDefEqProofs only [go_sem, ↓reduceIte, reduceCtorEq, Nat.reduceEqDiff, Nat.reduceLT, Nat.reduceAdd, Nat.reduceLeDiff, Nat.reduceMul, Nat.reduceSub, Nat.reduceDiv, Nat.reduceMod, Int.reduceToNat, Int.reduceLT, Int.reduceLE, Int.reduceEq, Int.reduceAdd, Int.reduceSub, Int.reduceMul, Int.reduceNeg, Int.reduceTMod, Int.reduceTDiv, Int.reduceMod, Int.reduceDiv, Int.reduceBEq, Int.reduceBNe, Nat.reduceBEq , sA, iA]) | intro _))
            all_goals (try omega)
            exact NumQ.no (by rw [hN2, h3])
          have g2 : (57 < (x.toNat : Int)) = False := eq_false (by omega)
          rw [if_pos (by omega)] at h3
          obtain ⟨k1, k2⟩ := nr_step (x := x) (by omega) (by omega) h2 (by omega)
          simp (maxSteps := 1000000) -implicitDefEqProofs only [go_sem, ↓reduceIte, reduceCtorEq, Nat.reduceEqDiff, Nat.reduceLT, Nat.reduceAdd, Nat.reduceLeDiff, Nat.reduceMul, Nat.reduceSub, Nat.reduceDiv, Nat.reduceMod, Int.reduceToNat, Int.reduceLT, Int.reduceLE, Int.reduceEq, Int.reduceAdd, Int.reduceSub, Int.reduceMul, Int.reduceNeg, Int.reduceTMod, Int.reduceTDiv, Int.reduceMod, Int.reduceDiv, Int.reduceBEq, Int.reduceBNe, Nat.reduceBEq, nrS, sA, iA, hlt, hx, g1, g2, k1]
          (repeat' (first | exact trivial | contradiction | refine And.intro ?_ ?_ | (show (_ : Nat) ≤ _; omega) | (show (_ : Nat) < _; omega) | (show (_ : Int) ≤ _; omega) | (show (_ : Int) < _; omega)  | (refine wait_draw 1000 mixed (by decide +kernel) ?_; simp (maxSteps := 1000000) -implicitDefEqProofs only [go_sem, ↓reduceIte, reduceCtorEq, Nat.reduceEqDiff, Nat.reduceLT, Nat.reduceAdd, Nat.reduceLeDiff, Nat.reduceMul, Nat.reduceSub, Nat.reduceDiv, Nat.reduceMod, Int.reduceToNat, Int.reduceLT, Int.reduceLE, Int.reduceEq, Int.reduceAdd, Int.reduceSub, Int.reduceMul, Int.reduceNeg, Int.reduceTMod, Int.reduceTDiv, Int.reduceMod, Int.reduceDiv, Int.reduceBEq, Int.reduceBNe, Nat.reduceBEq , sA, iA]) | intro _))
          all_goals (try omega)
          refine ⟨⟨i + 1, 10 * n + (x.toNat - 48)⟩, ?_, ⟨?_, k2, h3⟩, ?_⟩
          · show s.length - (i + 1) < s.length - i; omega
          · show i + 1 ≤ s.length; omega
          · ((refine weak_to [4, 5, 6, 7] [] ?_ (by simp) (fun i h => by cases h); simp (maxSteps := 1000000) -implicitDefEqProofs only [go_sem, ↓reduceIte, reduceCtorEq, Nat.reduceEqDiff, Nat.reduceLT, Nat.reduceAdd, Nat.reduceLeDiff, Nat.reduceMul, Nat.reduceSub, Nat.reduceDiv, Nat.reduceMod, Int.reduceToNat, Int.reduceLT, Int.reduceLE, Int.reduceEq, Int.reduceAdd, Int.reduceSub, Int.reduceMul, Int.reduceNeg, Int.reduceTMod, Int.reduceTDiv, Int.reduceMod, Int.reduceDiv, Int.reduceBEq, Int.reduceBNe, Nat.reduceBEq, St.keep, nrS, hwi, sA, iA]; done))
        · have hlt : ((i : Int) < (s.length : Int)) = False := eq_false (by omega)
          have hn : n < 10 ^ 19 := Nat.lt_of_lt_of_le h2 (Nat.pow_le_pow_right (by omega) (by omega))
          rw [show s.drop i = [] from List.drop_eq_nil_of_le (by omega), valF] at h3
          rw [h3] at hN2
          simp only at hN2
          by_cases hb : n ≤ 9223372036854775807
          · have g1 : ((n : Int) ≤ 9223372036854775807) = True := eq_true (by omega)
            rw [if_pos hb] at hN2
            simp (maxSteps := 1000000) -implicitDefEqProofs only [go_sem, ↓reduceIte, reduceCtorEq, Nat.reduceEqDiff, Nat.reduceLT, Nat.reduceAdd, Nat.reduceLeDiff, Nat.reduceMul, Nat.reduceSub, Nat.reduceDiv, Nat.reduceMod, Int.reduceToNat, Int.reduceLT, Int.reduceLE, Int.reduceEq, Int.reduceAdd, Int.reduceSub, Int.reduceMul, Int.reduceNeg, Int.reduceTMod, Int.reduceTDiv, Int.reduceMod, Int.reduceDiv, Int.reduceBEq, Int.reduceBNe, Nat.reduceBEq, nrS, sA, iA, hlt, g1, wrap_pos hb]
            exact ⟨_, _, rfl, by rw [hN2]; exact ⟨rfl, rfl⟩⟩
          · have g1 : ((n : Int) ≤ 9223372036854775807) = False := eq_false (by omega)
            rw [if_neg hb] at hN2
            simp (maxSteps := 1000000) -implicitDefEqProofs only [go_sem, ↓reduceIte, reduceCtorEq, Nat.reduceEqDiff, Nat.reduceLT, Nat.reduceAdd, Nat.reduceLeDiff, Nat.reduceMul, Nat.reduceSub, Nat.reduceDiv, Nat.reduceMod, Int.reduceToNat, Int.reduceLT, Int.reduceLE, Int.reduceEq, Int.reduceAdd, Int.reduceSub, Int.reduceMul, Int.reduceNeg, Int.reduceTMod, Int.reduceTDiv, Int.reduceMod, Int.reduceDiv, Int.reduceBEq, Int.reduceBNe, Nat.reduceBEq, nrS, sA, iA, hlt, g1]
            exact ⟨_, _, rfl, by rw [hN2]⟩)
end Go.Proofs.YtiipggfhjkalfaaDoor
