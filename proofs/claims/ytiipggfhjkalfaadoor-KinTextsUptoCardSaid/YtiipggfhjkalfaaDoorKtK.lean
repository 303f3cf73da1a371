/- Books as texts: how the document reads a machine. -/
import Derived.Test.YtiipggfhjkalfaaDoorProg
import Derived.Test.YtiipggfhjkalfaaDoorPmU
import Derived.Test.YtiipggfhjkalfaaDoorKtJ
set_option linter.unusedSimpArgs false
set_option linter.unusedVariables false
set_option maxRecDepth 20000
open Go Go.Proofs
namespace Go.Proofs.YtiipggfhjkalfaaDoor
open Pm
attribute [local irreducible] Wait CallT CallW Le Weak
open Kt
theorem spl_mem_le (c : UInt8) (l : List UInt8) : ∀ cur, ∀ w ∈ spl c cur l, w.length ≤ cur.length + l.length := by
  induction l with
  | nil => intro cur w hw; simp [spl] at hw; subst hw; simp
  | cons x l ih =>
    intro cur w hw
    unfold spl at hw
    split at hw
    · rcases List.mem_cons.1 hw with rfl | hw
      · simp
      · have := ih [] w hw; simp at this ⊢; omega
    · have := ih _ w hw; simp at this ⊢; omega
theorem getD_mem {α : Type} (l : List α) (j : Nat) (d : α) (h : j < l.length) : l.getD j d ∈ l := by
  rw [List.getD_eq_getElem?_getD, List.getElem?_eq_getElem h]
  exact List.getElem_mem h
def zeroK : Kin := ⟨0, 0, 0, 0, 0, none, 0, 0, 0⟩
def machA : Option Kin → AV
  | some k => .tup [kinA k, .v (.bool true)]
  | none => .tup [kinA zeroK, .v (.bool false)]
/-- The tape as it grows. -/
def tpA (id : Nat) (l : List Int) : AV := if l = [] then nilA else .sl id 1 0 l.length
def tpH (l : List Int) : List (Option Blk) := if l = [] then [] else [some (.row 3 1 (l.map iA))]
structure Mr where
  j : Nat
  ns : List Int
def zeroRow : Option Blk := some (.row 58 9 [.agg [.v (.int .i64 0), .v (.int .i64 0), .v (.int .i64 0), .v (.int .i64 0), .v (.int .i64 0), .v (.slice none 0 0), .v (.int .i64 0), .v (.int .i64 0), .v (.int .i64 0)]])
def mkS (ns : List Int) (b : Nat × List Int) : St := ⟨80, 0, [(2, .ptr 0 9 0 0), (5, .sl 1 1 0 ns.length), (9, .ptr 2 9 0 0), (10, .v (.int .i64 b.1))],
  [zeroRow, some (.row 2 1 (ns.map iA)), some (.row 58 9 [.agg [iA (ns.getD 0 0), iA (ns.getD 1 0), iA (ns.getD 2 0), iA (ns.getD 3 0), iA (ns.getD 4 0), tpA 3 b.2, iA (ns.getD 5 0), iA (ns.getD 6 0), iA (ns.getD 7 0)]])] ++ tpH b.2⟩
theorem tpA_nil (id : Nat) : tpA id [] = nilA := rfl
theorem tpA_ne (id : Nat) {l : List Int} (h : l ≠ []) : tpA id l = .sl id 1 0 l.length := if_neg h
theorem tpH_nil : tpH [] = [] := rfl
theorem tpH_ne {l : List Int} (h : l ≠ []) : tpH l = [some (.row 3 1 (l.map iA))] := if_neg h
theorem mkK_A (ns l : List Int) (h : ns.drop 8 = l) : kinA (mkK ns) = .agg [iA (ns.getD 0 0), iA (ns.getD 1 0), iA (ns.getD 2 0), iA (ns.getD 3 0), iA (ns.getD 4 0), if l = [] then nilA else .fsl 1 (l.map iA), iA (ns.getD 5 0), iA (ns.getD 6 0), iA (ns.getD 7 0)] := by
  subst h
  unfold kinA kinL mkK
  simp only
  split <;> rfl
def mrS (ws : List (List UInt8)) (b : Mr) : St := ⟨80, 0, [(2, .ptr 0 9 0 0), (4, .fsl 1 (ws.map sA)), (5, .sl 1 1 0 b.ns.length), (6, .v (.int .i64 b.j))], [zeroRow, some (.row 2 1 (b.ns.map iA))]⟩
theorem machine_pc (s : List UInt8) (hs : s.length ≤ 1048576) : PCon Tryd.prog 34 [sA s] (· = machA (machB numR s)) := by
  refine pcon_run 1000 Tryd.func34 rfl Tryd.results34 Tryd.ntmps34 (Nat.le_of_ble_eq_true rfl) ?_
  have hp := pieces_pc 32 s hs
  obtain ⟨ws, hws⟩ : ∃ ws, spl 32 [] s = ws := ⟨_, rfl⟩
  have hM : machB numR s = if ws.length < 8 then none else (readW numR ws).map mkK := by unfold machB; rw [hws]
  have hwl : ws.length ≤ 1048577 := by
    have := spl_len 32 s []
    have h2 := List.count_le_length (a := (32 : UInt8)) (l := s)
    rw [hws] at this
    omega
  have hwm : ∀ w ∈ ws, w.length ≤ 1048576 := fun w hw => by
    have := spl_mem_le 32 s [] w (by rw [hws]; exact hw)
    simp at this
    omega
  rw [hws] at hp
  simp only [sA] at hp
  by_cases h8 : ws.length < 8
  · have f1 : ((ws.length : Int) < 8) = True := eq_true (by omega)
    rw [if_pos h8] at hM
    simp (maxSteps := 1000000) -implicitDefEqProofs only [go_sem, ↓reduceIte, reduceCtorEq, Nat.reduceEqDiff, Nat.reduceLT, Nat.reduceAdd, Nat.reduceLeDiff, Nat.reduceMul, Nat.reduceSub, Nat.reduceDiv, Nat.reduceMod, Int.reduceToNat, Int.reduceLT, Int.reduceLE, Int.reduceEq, Int.reduceAdd, Int.reduceSub, Int.reduceMul, Int.reduceNeg, Int.reduceTMod, Int.reduceTDiv, Int.reduceMod, Int.reduceDiv, Int.reduceBEq, Int.reduceBNe, Nat.reduceBEq, sA, iA]
    (repeat' (first | exact trivial | contradiction | refine And.intro ?_ ?_ | (show (_ : Nat) ≤ _; omega) | (show (_ : Nat) < _; omega) | (show (_ : Int) ≤ _; omega) | (show (_ : Int) < _; omega)  | (refine wait_draw 1000 mixed (by decide +kernel) ?_; simp (maxSteps := 1000000) -implicitDefEqProofs only [go_sem, ↓reduceIte, reduceCtorEq, Nat.reduceEqDiff, Nat.reduceLT, Nat.reduceAdd, Nat.reduceLeDiff, Nat.reduceMul, Nat.reduceSub, Nat.reduceDiv, Nat.reduceMod, Int.reduceToNat, Int.reduceLT, Int.reduceLE, Int.reduceEq, Int.reduceAdd, Int.reduceSub, Int.reduceMul, Int.reduceNeg, Int.reduceTMod, Int.reduceTDiv, Int.reduceMod, Int.reduceDiv, Int.reduceBEq, Int.reduceBNe, Nat.reduceBEq, sA, iA, f1, List.length_map]) | (refine call_eq 1000 ((show PCon Tryd.prog 33 [.v (.string (bs s)), .v (.int .u8 32)] _ from hp)) ?_ ?_ rfl; (focus (simp (maxSteps := 1000000) -implicitDefEqProofs only [go_sem, ↓reduceIte, reduceCtorEq, Nat.reduceEqDiff, Nat.reduceLT, Nat.reduceAdd, Nat.reduceLeDiff, Nat.reduceMul, Nat.reduceSub, Nat.reduceDiv, Nat.reduceMod, Int.reduceToNat, Int.reduceLT, Int.reduceLE, Int.reduceEq, Int.reduceAdd, Int.reduceSub, Int.reduceMul, Int.reduceNeg, Int.reduceTMod, Int.reduceTDiv, Int.reduceMod, Int.reduceDiv, Int.reduceBEq, Int.reduceBNe, Nat.reduceBEq, sA, iA, f1, List.length_map]; done)); simp (maxSteps := 1000000) -implicitDefEqProofs only [go_sem, ↓reduceIte, reduceCtorEq, Nat.reduceEqDiff, Nat.reduceLT, Nat.reduceAdd, Nat.reduceLeDiff, Nat.reduceMul, Nat.reduceSub, Nat.reduceDiv, Nat.reduceMod, Int.reduceToNat, Int.reduceLT, Int.reduceLE, Int.reduceEq, Int.reduceAdd, Int.reduceSub, Int.reduceMul, Int.reduceNeg, Int.reduceTMod, Int.reduceTDiv, Int.reduceMod, Int.reduceDiv, Int.reduceBEq, Int.reduceBNe, Nat.reduceBEq, sA, iA, f1, List.length_map]) | (refine call_draw 1000 ((show PCon Tryd.prog 33 [.v (.string (bs s)), .v (.int .u8 32)] _ from hp)) ?_ ?_; (focus (simp (maxSteps := 1000000) -implicitDefEqProofs only [go_sem, ↓reduceIte, reduceCtorEq, Nat.reduceEqDiff, Nat.reduceLT, Nat.reduceAdd, Nat.reduceLeDiff, Nat.reduceMul, Nat.reduceSub, Nat.reduceDiv, Nat.reduceMod, Int.reduceToNat, Int.reduceLT, Int.reduceLE, Int.reduceEq, Int.reduceAdd, Int.reduceSub, Int.reduceMul, Int.reduceNeg, Int.reduceTMod, Int.reduceTDiv, Int.reduceMod, Int.reduceDiv, Int.reduceBEq, Int.reduceBNe, Nat.reduceBEq, sA, iA, f1, List.length_map]; done)); simp (maxSteps := 1000000) -implicitDefEqProofs only [go_sem, ↓reduceIte, reduceCtorEq, Nat.reduceEqDiff, Nat.reduceLT, Nat.reduceAdd, Nat.reduceLeDiff, Nat.reduceMul, Nat.reduceSub, Nat.reduceDiv, Nat.reduceMod, Int.reduceToNat, Int.reduceLT, Int.reduceLE, Int.reduceEq, Int.reduceAdd, Int.reduceSub, Int.reduceMul, Int.reduceNeg, Int.reduceTMod, Int.reduceTDiv, Int.reduceMod, Int.reduceDiv, Int.reduceBEq, Int.reduceBNe, Nat.reduceBEq, sA, iA, f1, List.length_map]) | intro _))
    all_goals (rw [hM]; rfl)
  · have f1 : ((ws.length : Int) < 8) = False := eq_false (by omega)
    rw [if_neg h8] at hM
    simp (maxSteps := 1000000) -implicitDefEqProofs only [go_sem, ↓reduceIte, reduceCtorEq, Nat.reduceEqDiff, Nat.reduceLT, Nat.reduceAdd, Nat.reduceLeDiff, Nat.reduceMul, Nat.reduceSub, Nat.reduceDiv, Nat.reduceMod, Int.reduceToNat, Int.reduceLT, Int.reduceLE, Int.reduceEq, Int.reduceAdd, Int.reduceSub, Int.reduceMul, Int.reduceNeg, Int.reduceTMod, Int.reduceTDiv, Int.reduceMod, Int.reduceDiv, Int.reduceBEq, Int.reduceBNe, Nat.reduceBEq, sA, iA]
    (repeat' (first | exact trivial | contradiction | refine And.intro ?_ ?_ | (show (_ : Nat) ≤ _; omega) | (show (_ : Nat) < _; omega) | (show (_ : Int) ≤ _; omega) | (show (_ : Int) < _; omega)  | (refine wait_draw 1000 mixed (by decide +kernel) ?_; simp (maxSteps := 1000000) -implicitDefEqProofs only [go_sem, ↓reduceIte, reduceCtorEq, Nat.reduceEqDiff, Nat.reduceLT, Nat.reduceAdd, Nat.reduceLeDiff, Nat.reduceMul, Nat.reduceSub, Nat.reduceDiv, Nat.reduceMod, Int.reduceToNat, Int.reduceLT, Int.reduceLE, Int.reduceEq, Int.reduceAdd, Int.reduceSub, Int.reduceMul, Int.reduceNeg, Int.reduceTMod, Int.reduceTDiv, Int.reduceMod, Int.reduceDiv, Int.reduceBEq, Int.reduceBNe, Nat.reduceBEq, sA, iA, f1, List.length_map]) | (refine call_eq 1000 ((show PCon Tryd.prog 33 [.v (.string (bs s)), .v (.int .u8 32)] _ from hp)) ?_ ?_ rfl; (focus (simp (maxSteps := 1000000) -implicitDefEqProofs only [go_sem, ↓reduceIte, reduceCtorEq, Nat.reduceEqDiff, Nat.reduceLT, Nat.reduceAdd, Nat.reduceLeDiff, Nat.reduceMul, Nat.reduceSub, Nat.reduceDiv, Nat.reduceMod, Int.reduceToNat, Int.reduceLT, Int.reduceLE, Int.reduceEq, Int.reduceAdd, Int.reduceSub, Int.reduceMul, Int.reduceNeg, Int.reduceTMod, Int.reduceTDiv, Int.reduceMod, Int.reduceDiv, Int.reduceBEq, Int.reduceBNe, Nat.reduceBEq, sA, iA, f1, List.length_map]; done)); simp (maxSteps := 1000000) -implicitDefEqProofs only [go_sem, ↓reduceIte, reduceCtorEq, Nat.reduceEqDiff, Nat.reduceLT, Nat.reduceAdd, Nat.reduceLeDiff, Nat.reduceMul, Nat.reduceSub, Nat.reduceDiv, Nat.reduceMod, Int.reduceToNat, Int.reduceLT, Int.reduceLE, Int.reduceEq, Int.reduceAdd, Int.reduceSub, Int.reduceMul, Int.reduceNeg, Int.reduceTMod, Int.reduceTDiv, Int.reduceMod, Int.reduceDiv, Int.reduceBEq, Int.reduceBNe, Nat.reduceBEq, sA, iA, f1, List.length_map]) | (refine call_draw 1000 ((show PCon Tryd.prog 33 [.v (.string (bs s)), .v (.int .u8 32)] _ from hp)) ?_ ?_; (focus (simp (maxSteps := 1000000) -implicitDefEqProofs only [go_sem, ↓reduceIte, reduceCtorEq, Nat.reduceEqDiff, Nat.reduceLT, Nat.reduceAdd, Nat.reduceLeDiff, Nat.reduceMul, Nat.reduceSub, Nat.reduceDiv, Nat.reduceMod, Int.reduceToNat, Int.reduceLT, Int.reduceLE, Int.reduceEq, Int.reduceAdd, Int.reduceSub, Int.reduceMul, Int.reduceNeg, Int.reduceTMod, Int.reduceTDiv, Int.reduceMod, Int.reduceDiv, Int.reduceBEq, Int.reduceBNe, Nat.reduceBEq, sA, iA, f1, List.length_map]; done)); simp (maxSteps := 1000000) -implicitDefEqProofs only [go_sem, ↓reduceIte, reduceCtorEq, Nat.reduceEqDiff, Nat.reduceLT, Nat.reduceAdd, Nat.reduceLeDiff, Nat.reduceMul, Nat.reduceSub, Nat.reduceDiv, Nat.reduceMod, Int.reduceToNat, Int.reduceLT, Int.reduceLE, Int.reduceEq, Int.reduceAdd, Int.reduceSub, Int.reduceMul, Int.reduceNeg, Int.reduceTMod, Int.reduceTDiv, Int.reduceMod, Int.reduceDiv, Int.reduceBEq, Int.reduceBNe, Nat.reduceBEq, sA, iA, f1, List.length_map]) | intro _))
    refine wait_data (mrS ws) (fun b => b.j ≤ ws.length ∧ b.ns.length = b.j ∧ readW numR ws = (readW numR (ws.drop b.j)).map (b.ns ++ ·)) (fun b => ws.length - b.j) ⟨0, []⟩ (weak_to [2, 4, 5, 6] [0, 1] ?_ (by simp) (fun i h => by cases h)) ⟨by simp, rfl, by simp⟩ ?_
    · simp (maxSteps := 1000000) -implicitDefEqProofs only [go_sem, ↓reduceIte, reduceCtorEq, Nat.reduceEqDiff, Nat.reduceLT, Nat.reduceAdd, Nat.reduceLeDiff, Nat.reduceMul, Nat.reduceSub, Nat.reduceDiv, Nat.reduceMod, Int.reduceToNat, Int.reduceLT, Int.reduceLE, Int.reduceEq, Int.reduceAdd, Int.reduceSub, Int.reduceMul, Int.reduceNeg, Int.reduceTMod, Int.reduceTDiv, Int.reduceMod, Int.reduceDiv, Int.reduceBEq, Int.reduceBNe, Nat.reduceBEq, St.keep, mrS, sA, iA, Int.natCast_zero, zeroRow, List.map_nil, List.length_nil]
    · rintro ⟨j, ns⟩ ⟨h1, h2, h3⟩
      simp only at h1 h2 h3
      have hnl : (ns.map iA).length = ns.length := by simp
      refine run_sound 1000 _ _ ?_
      by_cases hj : j < ws.length
      · have hlt : ((j : Int) < (ws.length : Int)) = True := eq_true (by omega)
        have hwj : IntKind.i64.wrap ((j : Int) + 1) = ((j + 1 : Nat) : Int) := by rw [wrap64 (by omega) (by omega)]; omega
        have g1 := get_sA ws j hj
        rw [drop_at [] ws j hj] at h3
        have hmem := getD_mem ws j [] hj
        obtain ⟨w, hw⟩ : ∃ w, ws.getD j [] = w := ⟨_, rfl⟩
        rw [hw] at g1 h3 hmem
        have hn := number_pc w (hwm w hmem)
        simp only [sA] at hn
        simp (maxSteps := 1000000) -implicitDefEqProofs only [go_sem, ↓reduceIte, reduceCtorEq, Nat.reduceEqDiff, Nat.reduceLT, Nat.reduceAdd, Nat.reduceLeDiff, Nat.reduceMul, Nat.reduceSub, Nat.reduceDiv, Nat.reduceMod, Int.reduceToNat, Int.reduceLT, Int.reduceLE, Int.reduceEq, Int.reduceAdd, Int.reduceSub, Int.reduceMul, Int.reduceNeg, Int.reduceTMod, Int.reduceTDiv, Int.reduceMod, Int.reduceDiv, Int.reduceBEq, Int.reduceBNe, Nat.reduceBEq, mrS, sA, iA, hlt, g1, List.length_map]
        (repeat' (first | exact trivial | contradiction | refine And.intro ?_ ?_ | (show (_ : Nat) ≤ _; omega) | (show (_ : Nat) < _; omega) | (show (_ : Int) ≤ _; omega) | (show (_ : Int) < _; omega)  | (refine wait_draw 1000 mixed (by decide +kernel) ?_; simp (maxSteps := 1000000) -implicitDefEqProofs only [go_sem, ↓reduceIte, reduceCtorEq, Nat.reduceEqDiff, Nat.reduceLT, Nat.reduceAdd, Nat.reduceLeDiff, Nat.reduceMul, Nat.reduceSub, Nat.reduceDiv, Nat.reduceMod, Int.reduceToNat, Int.reduceLT, Int.reduceLE, Int.reduceEq, Int.reduceAdd, Int.reduceSub, Int.reduceMul, Int.reduceNeg, Int.reduceTMod, Int.reduceTDiv, Int.reduceMod, Int.reduceDiv, Int.reduceBEq, Int.reduceBNe, Nat.reduceBEq , sA]) | intro _))
        all_goals (try omega)
        refine call_pure 1000 hn ?_ rfl ?_
        · simp (maxSteps := 1000000) -implicitDefEqProofs only [go_sem, ↓reduceIte, reduceCtorEq, Nat.reduceEqDiff, Nat.reduceLT, Nat.reduceAdd, Nat.reduceLeDiff, Nat.reduceMul, Nat.reduceSub, Nat.reduceDiv, Nat.reduceMod, Int.reduceToNat, Int.reduceLT, Int.reduceLE, Int.reduceEq, Int.reduceAdd, Int.reduceSub, Int.reduceMul, Int.reduceNeg, Int.reduceTMod, Int.reduceTDiv, Int.reduceMod, Int.reduceDiv, Int.reduceBEq, Int.reduceBNe, Nat.reduceBEq]
        · rintro r ⟨v, ok, rfl, hq⟩
          cases hr : numR w with
          | none =>
            rw [hr] at hq
            have hno : readW numR ws = none := by rw [h3, readW, hr]; rfl
            rw [hno] at hM
            simp only at hq
            simp (maxSteps := 1000000) -implicitDefEqProofs only [go_sem, ↓reduceIte, reduceCtorEq, Nat.reduceEqDiff, Nat.reduceLT, Nat.reduceAdd, Nat.reduceLeDiff, Nat.reduceMul, Nat.reduceSub, Nat.reduceDiv, Nat.reduceMod, Int.reduceToNat, Int.reduceLT, Int.reduceLE, Int.reduceEq, Int.reduceAdd, Int.reduceSub, Int.reduceMul, Int.reduceNeg, Int.reduceTMod, Int.reduceTDiv, Int.reduceMod, Int.reduceDiv, Int.reduceBEq, Int.reduceBNe, Nat.reduceBEq, hq, zeroRow, iA]
            (repeat' (first | exact trivial | contradiction | refine And.intro ?_ ?_ | (show (_ : Nat) ≤ _; omega) | (show (_ : Nat) < _; omega) | (show (_ : Int) ≤ _; omega) | (show (_ : Int) < _; omega)  | (refine wait_draw 1000 mixed (by decide +kernel) ?_; simp (maxSteps := 1000000) -implicitDefEqProofs only [go_sem, ↓reduceIte, reduceCtorEq, Nat.reduceEqDiff, Nat.reduceLT, Nat.reduceAdd, Nat.reduceLeDiff, Nat.reduceMul, Nat.reduceSub, Nat.reduceDiv, Nat.reduceMod, Int.reduceToNat, Int.reduceLT, Int.reduceLE, Int.reduceEq, Int.reduceAdd, Int.reduceSub, Int.reduceMul, Int.reduceNeg, Int.reduceTMod, Int.reduceTDiv, Int.reduceMod, Int.reduceDiv, Int.reduceBEq, Int.reduceBNe, Nat.reduceBEq , sA]) | intro _))
            all_goals (rw [hM]; rfl)
          | some n =>
            rw [hr] at hq
            obtain ⟨rfl, rfl⟩ := hq
            have hst : readW numR ws = (readW numR (ws.drop (j + 1))).map ((ns ++ [v]) ++ ·) := by
              rw [h3, readW, hr]
              simp only
              cases readW numR (ws.drop (j + 1)) with
              | none => rfl
              | some l => simp
            simp (maxSteps := 1000000) -implicitDefEqProofs only [go_sem, ↓reduceIte, reduceCtorEq, Nat.reduceEqDiff, Nat.reduceLT, Nat.reduceAdd, Nat.reduceLeDiff, Nat.reduceMul, Nat.reduceSub, Nat.reduceDiv, Nat.reduceMod, Int.reduceToNat, Int.reduceLT, Int.reduceLE, Int.reduceEq, Int.reduceAdd, Int.reduceSub, Int.reduceMul, Int.reduceNeg, Int.reduceTMod, Int.reduceTDiv, Int.reduceMod, Int.reduceDiv, Int.reduceBEq, Int.reduceBNe, Nat.reduceBEq, zeroRow, iA]
            (repeat' (first | exact trivial | contradiction | refine And.intro ?_ ?_ | (show (_ : Nat) ≤ _; omega) | (show (_ : Nat) < _; omega) | (show (_ : Int) ≤ _; omega) | (show (_ : Int) < _; omega)  | (refine wait_draw 1000 mixed (by decide +kernel) ?_; simp (maxSteps := 1000000) -implicitDefEqProofs only [go_sem, ↓reduceIte, reduceCtorEq, Nat.reduceEqDiff, Nat.reduceLT, Nat.reduceAdd, Nat.reduceLeDiff, Nat.reduceMul, Nat.reduceSub, Nat.reduceDiv, Nat.reduceMod, Int.reduceToNat, Int.reduceLT, Int.reduceLE, Int.reduceEq, Int.reduceAdd, Int.reduceSub, Int.reduceMul, Int.reduceNeg, Int.reduceTMod, Int.reduceTDiv, Int.reduceMod, Int.reduceDiv, Int.reduceBEq, Int.reduceBNe, Nat.reduceBEq , sA]) | intro _))
            all_goals (try omega)
            refine ⟨⟨j + 1, ns ++ [v]⟩, ?_, ⟨?_, ?_, hst⟩, ?_⟩
            · show ws.length - (j + 1) < ws.length - j; omega
            · show j + 1 ≤ ws.length; omega
            · show (ns ++ [v]).length = j + 1; simp; omega
            · ((refine weak_to [2, 4, 5, 6] [0, 3] ?_ (by simp) (fun i h => by cases h); simp (maxSteps := 1000000) -implicitDefEqProofs only [go_sem, ↓reduceIte, reduceCtorEq, Nat.reduceEqDiff, Nat.reduceLT, Nat.reduceAdd, Nat.reduceLeDiff, Nat.reduceMul, Nat.reduceSub, Nat.reduceDiv, Nat.reduceMod, Int.reduceToNat, Int.reduceLT, Int.reduceLE, Int.reduceEq, Int.reduceAdd, Int.reduceSub, Int.reduceMul, Int.reduceNeg, Int.reduceTMod, Int.reduceTDiv, Int.reduceMod, Int.reduceDiv, Int.reduceBEq, Int.reduceBNe, Nat.reduceBEq, St.keep, mrS, hwj, zeroRow, iA, List.length_append, List.length_cons, List.length_nil, List.map_append, List.map_cons, List.map_nil]; done))
      · have hlt : ((j : Int) < (ws.length : Int)) = False := eq_false (by omega)
        rw [show ws.drop j = [] from List.drop_eq_nil_of_le (by omega), readW] at h3
        simp only [Option.map_some, List.append_nil] at h3
        rw [h3] at hM
        have hns8 : 8 ≤ ns.length := by omega
        have hnl2 : ns.length ≤ 1048577 := by omega
        
        have k0 := get_iA ns 0 (by omega)
        have i0 : ((0 : Int) < (ns.length : Int)) = True := eq_true (by omega)
        have k1 := get_iA ns 1 (by omega)
        have i1 : ((1 : Int) < (ns.length : Int)) = True := eq_true (by omega)
        have k2 := get_iA ns 2 (by omega)
        have i2 : ((2 : Int) < (ns.length : Int)) = True := eq_true (by omega)
        have k3 := get_iA ns 3 (by omega)
        have i3 : ((3 : Int) < (ns.length : Int)) = True := eq_true (by omega)
        have k4 := get_iA ns 4 (by omega)
        have i4 : ((4 : Int) < (ns.length : Int)) = True := eq_true (by omega)
        have k5 := get_iA ns 5 (by omega)
        have i5 : ((5 : Int) < (ns.length : Int)) = True := eq_true (by omega)
        have k6 := get_iA ns 6 (by omega)
        have i6 : ((6 : Int) < (ns.length : Int)) = True := eq_true (by omega)
        have k7 := get_iA ns 7 (by omega)
        have i7 : ((7 : Int) < (ns.length : Int)) = True := eq_true (by omega)
        simp (maxSteps := 1000000) -implicitDefEqProofs only [go_sem, ↓reduceIte, reduceCtorEq, Nat.reduceEqDiff, Nat.reduceLT, Nat.reduceAdd, Nat.reduceLeDiff, Nat.reduceMul, Nat.reduceSub, Nat.reduceDiv, Nat.reduceMod, Int.reduceToNat, Int.reduceLT, Int.reduceLE, Int.reduceEq, Int.reduceAdd, Int.reduceSub, Int.reduceMul, Int.reduceNeg, Int.reduceTMod, Int.reduceTDiv, Int.reduceMod, Int.reduceDiv, Int.reduceBEq, Int.reduceBNe, Nat.reduceBEq, mrS, sA, iA, hlt, List.length_map]
        (repeat' (first | exact trivial | contradiction | refine And.intro ?_ ?_ | (show (_ : Nat) ≤ _; omega) | (show (_ : Nat) < _; omega) | (show (_ : Int) ≤ _; omega) | (show (_ : Int) < _; omega)  | (refine wait_draw 1000 mixed (by decide +kernel) ?_; simp (maxSteps := 1000000) -implicitDefEqProofs only [go_sem, ↓reduceIte, reduceCtorEq, Nat.reduceEqDiff, Nat.reduceLT, Nat.reduceAdd, Nat.reduceLeDiff, Nat.reduceMul, Nat.reduceSub, Nat.reduceDiv, Nat.reduceMod, Int.reduceToNat, Int.reduceLT, Int.reduceLE, Int.reduceEq, Int.reduceAdd, Int.reduceSub, Int.reduceMul, Int.reduceNeg, Int.reduceTMod, Int.reduceTDiv, Int.reduceMod, Int.reduceDiv, Int.reduceBEq, Int.reduceBNe, Nat.reduceBEq , k0, k1, k2, k3, k4, k5, k6, k7, i0, i1, i2, i3, i4, i5, i6, i7, zeroRow]) | intro _))
        all_goals first | (exact ⟨_, rfl⟩) | omega | skip
        refine wait_data (mkS ns) (fun b => 8 ≤ b.1 ∧ b.1 ≤ ns.length ∧ b.2.length = b.1 - 8 ∧ b.2 = (ns.drop 8).take (b.1 - 8)) (fun b => ns.length - b.1) (8, []) (weak_to [2, 5, 9, 10] [0, 1, 2] ?_ (by simp) (fun i h => by cases h)) ⟨by simp, hns8, by simp, by simp⟩ ?_
        · simp (maxSteps := 1000000) -implicitDefEqProofs only [go_sem, ↓reduceIte, reduceCtorEq, Nat.reduceEqDiff, Nat.reduceLT, Nat.reduceAdd, Nat.reduceLeDiff, Nat.reduceMul, Nat.reduceSub, Nat.reduceDiv, Nat.reduceMod, Int.reduceToNat, Int.reduceLT, Int.reduceLE, Int.reduceEq, Int.reduceAdd, Int.reduceSub, Int.reduceMul, Int.reduceNeg, Int.reduceTMod, Int.reduceTDiv, Int.reduceMod, Int.reduceDiv, Int.reduceBEq, Int.reduceBNe, Nat.reduceBEq, St.keep, mkS, tpA_nil, tpH_nil, zeroRow, List.append_nil, nilA, iA]
        · rintro ⟨i, l⟩ ⟨h5, h6, h7, h9⟩
          simp only at h5 h6 h7 h9
          have hwi : IntKind.i64.wrap ((i : Int) + 1) = ((i + 1 : Nat) : Int) := by rw [wrap64 (by omega) (by omega)]; omega
          have hlm : (l.map iA).length = l.length := by simp
          refine run_sound 1000 _ _ ?_
          by_cases hi : i < ns.length
          · have hlt : ((i : Int) < (ns.length : Int)) = True := eq_true (by omega)
            have ki := get_iA ns i hi
            have hl2 : l ++ [ns.getD i 0] = (ns.drop 8).take (i + 1 - 8) := by
              rw [show i + 1 - 8 = (i - 8) + 1 by omega, take_at 0 (ns.drop 8) (i - 8) (by simp; omega), ← h9]
              congr 2
              simp [List.getD_eq_getElem?_getD]
              congr 2
              omega
            have hne2 : l ++ [ns.getD i 0] ≠ [] := by simp
            by_cases hl : l = []
            · subst hl
              simp (maxSteps := 1000000) -implicitDefEqProofs only [go_sem, ↓reduceIte, reduceCtorEq, Nat.reduceEqDiff, Nat.reduceLT, Nat.reduceAdd, Nat.reduceLeDiff, Nat.reduceMul, Nat.reduceSub, Nat.reduceDiv, Nat.reduceMod, Int.reduceToNat, Int.reduceLT, Int.reduceLE, Int.reduceEq, Int.reduceAdd, Int.reduceSub, Int.reduceMul, Int.reduceNeg, Int.reduceTMod, Int.reduceTDiv, Int.reduceMod, Int.reduceDiv, Int.reduceBEq, Int.reduceBNe, Nat.reduceBEq, mkS, tpA_nil, tpH_nil, zeroRow, List.append_nil, nilA, iA, hlt, ki, List.length_map]
              (repeat' (first | exact trivial | contradiction | refine And.intro ?_ ?_ | (show (_ : Nat) ≤ _; omega) | (show (_ : Nat) < _; omega) | (show (_ : Int) ≤ _; omega) | (show (_ : Int) < _; omega)  | (refine wait_draw 1000 mixed (by decide +kernel) ?_; simp (maxSteps := 1000000) -implicitDefEqProofs only [go_sem, ↓reduceIte, reduceCtorEq, Nat.reduceEqDiff, Nat.reduceLT, Nat.reduceAdd, Nat.reduceLeDiff, Nat.reduceMul, Nat.reduceSub, Nat.reduceDiv, Nat.reduceMod, Int.reduceToNat, Int.reduceLT, Int.reduceLE, Int.reduceEq, Int.reduceAdd, Int.reduceSub, Int.reduceMul, Int.reduceNeg, Int.reduceTMod, Int.reduceTDiv, Int.reduceMod, Int.reduceDiv, Int.reduceBEq, Int.reduceBNe, Nat.reduceBEq , ki, hlt]) | intro _))
              all_goals first | (exact ⟨_, rfl⟩) | omega | skip
              have hne3 : [ns.getD i 0] ≠ [] := by simp
              refine ⟨(i + 1, [ns.getD i 0]), ?_, ⟨?_, ?_, ?_, hl2⟩, ?_⟩
              · show ns.length - (i + 1) < ns.length - i; omega
              · show 8 ≤ i + 1; omega
              · show i + 1 ≤ ns.length; omega
              · show 1 = i + 1 - 8; simp at h7; omega
              · ((refine weak_to [2, 5, 9, 10] [0, 1, 2, 4] ?_ (by simp) (fun i h => by cases h); simp (maxSteps := 1000000) -implicitDefEqProofs only [go_sem, ↓reduceIte, reduceCtorEq, Nat.reduceEqDiff, Nat.reduceLT, Nat.reduceAdd, Nat.reduceLeDiff, Nat.reduceMul, Nat.reduceSub, Nat.reduceDiv, Nat.reduceMod, Int.reduceToNat, Int.reduceLT, Int.reduceLE, Int.reduceEq, Int.reduceAdd, Int.reduceSub, Int.reduceMul, Int.reduceNeg, Int.reduceTMod, Int.reduceTDiv, Int.reduceMod, Int.reduceDiv, Int.reduceBEq, Int.reduceBNe, Nat.reduceBEq, St.keep, mkS, tpA_ne _ hne3, tpH_ne hne3, zeroRow, hwi, iA, List.map_cons, List.map_nil, List.length_cons, List.length_nil]; done))
            · simp (maxSteps := 1000000) -implicitDefEqProofs only [go_sem, ↓reduceIte, reduceCtorEq, Nat.reduceEqDiff, Nat.reduceLT, Nat.reduceAdd, Nat.reduceLeDiff, Nat.reduceMul, Nat.reduceSub, Nat.reduceDiv, Nat.reduceMod, Int.reduceToNat, Int.reduceLT, Int.reduceLE, Int.reduceEq, Int.reduceAdd, Int.reduceSub, Int.reduceMul, Int.reduceNeg, Int.reduceTMod, Int.reduceTDiv, Int.reduceMod, Int.reduceDiv, Int.reduceBEq, Int.reduceBNe, Nat.reduceBEq, mkS, tpA_ne _ hl, tpH_ne hl, zeroRow, nilA, iA, hlt, ki, List.length_map, hlm]
              (repeat' (first | exact trivial | contradiction | refine And.intro ?_ ?_ | (show (_ : Nat) ≤ _; omega) | (show (_ : Nat) < _; omega) | (show (_ : Int) ≤ _; omega) | (show (_ : Int) < _; omega)  | (refine wait_draw 1000 mixed (by decide +kernel) ?_; simp (maxSteps := 1000000) -implicitDefEqProofs only [go_sem, ↓reduceIte, reduceCtorEq, Nat.reduceEqDiff, Nat.reduceLT, Nat.reduceAdd, Nat.reduceLeDiff, Nat.reduceMul, Nat.reduceSub, Nat.reduceDiv, Nat.reduceMod, Int.reduceToNat, Int.reduceLT, Int.reduceLE, Int.reduceEq, Int.reduceAdd, Int.reduceSub, Int.reduceMul, Int.reduceNeg, Int.reduceTMod, Int.reduceTDiv, Int.reduceMod, Int.reduceDiv, Int.reduceBEq, Int.reduceBNe, Nat.reduceBEq , ki, hlt, hlm]) | intro _))
              all_goals first | (exact ⟨_, rfl⟩) | omega | skip
              refine ⟨(i + 1, l ++ [ns.getD i 0]), ?_, ⟨?_, ?_, ?_, hl2⟩, ?_⟩
              · show ns.length - (i + 1) < ns.length - i; omega
              · show 8 ≤ i + 1; omega
              · show i + 1 ≤ ns.length; omega
              · show (l ++ [_]).length = i + 1 - 8; simp; omega
              · ((refine weak_to [2, 5, 9, 10] [0, 1, 2, 5] ?_ (by simp) (fun i h => by cases h); simp (maxSteps := 1000000) -implicitDefEqProofs only [go_sem, ↓reduceIte, reduceCtorEq, Nat.reduceEqDiff, Nat.reduceLT, Nat.reduceAdd, Nat.reduceLeDiff, Nat.reduceMul, Nat.reduceSub, Nat.reduceDiv, Nat.reduceMod, Int.reduceToNat, Int.reduceLT, Int.reduceLE, Int.reduceEq, Int.reduceAdd, Int.reduceSub, Int.reduceMul, Int.reduceNeg, Int.reduceTMod, Int.reduceTDiv, Int.reduceMod, Int.reduceDiv, Int.reduceBEq, Int.reduceBNe, Nat.reduceBEq, St.keep, mkS, tpA_ne _ hne2, tpH_ne hne2, zeroRow, hwi, iA, List.map_append, List.map_cons, List.map_nil, List.length_append, List.length_cons, List.length_nil]; done))
          · have hlt : ((i : Int) < (ns.length : Int)) = False := eq_false (by omega)
            have hdr : ns.drop 8 = l := by rw [h9, List.take_of_length_le (by simp; omega)]
            have hK := mkK_A ns l hdr
            have hR : machA (machB numR s) = .tup [kinA (mkK ns), .v (.bool true)] := by rw [hM]; rfl
            rw [hK] at hR
            by_cases hl : l = []
            · subst hl
              simp (maxSteps := 1000000) -implicitDefEqProofs only [go_sem, ↓reduceIte, reduceCtorEq, Nat.reduceEqDiff, Nat.reduceLT, Nat.reduceAdd, Nat.reduceLeDiff, Nat.reduceMul, Nat.reduceSub, Nat.reduceDiv, Nat.reduceMod, Int.reduceToNat, Int.reduceLT, Int.reduceLE, Int.reduceEq, Int.reduceAdd, Int.reduceSub, Int.reduceMul, Int.reduceNeg, Int.reduceTMod, Int.reduceTDiv, Int.reduceMod, Int.reduceDiv, Int.reduceBEq, Int.reduceBNe, Nat.reduceBEq, mkS, tpA_nil, tpH_nil, zeroRow, List.append_nil, nilA, iA, hlt, List.length_map, hR]
            · rw [if_neg hl] at hR
              have htl : (l.map iA).take l.length = l.map iA := List.take_of_length_le (by simp)
              simp (maxSteps := 1000000) -implicitDefEqProofs only [go_sem, ↓reduceIte, reduceCtorEq, Nat.reduceEqDiff, Nat.reduceLT, Nat.reduceAdd, Nat.reduceLeDiff, Nat.reduceMul, Nat.reduceSub, Nat.reduceDiv, Nat.reduceMod, Int.reduceToNat, Int.reduceLT, Int.reduceLE, Int.reduceEq, Int.reduceAdd, Int.reduceSub, Int.reduceMul, Int.reduceNeg, Int.reduceTMod, Int.reduceTDiv, Int.reduceMod, Int.reduceDiv, Int.reduceBEq, Int.reduceBNe, Nat.reduceBEq, mkS, tpA_ne _ hl, tpH_ne hl, zeroRow, nilA, iA, hlt, List.length_map, hlm, hR]
              simp only [htl, renL_iA]
end Go.Proofs.YtiipggfhjkalfaaDoor
