/- Books as texts: how the program reads a book. -/
import Derived.Test.YtiipggfhjkalfaaDoorProg
import Derived.Test.YtiipggfhjkalfaaDoorPmU
import Derived.Test.YtiipggfhjkalfaaDoorKtL
set_option linter.unusedSimpArgs false
set_option linter.unusedVariables false
set_option maxRecDepth 20000
open Go Go.Proofs
namespace Go.Proofs.YtiipggfhjkalfaaDoor
open Pm
attribute [local irreducible] Wait CallT CallW Le Weak
open Kt
theorem pcon_nil {P : Program} {f : FuncId} {sz : Nat} {Q : AV → Prop} (c : PCon P f [.fsl sz []] Q) : PCon P f [.v (.slice none 0 0)] Q := by
  intro w Z cargs hl ha hz hgl
  refine c w Z cargs hl (fun i hi => ?_) hz hgl
  have : i = 0 := by simp at hi; omega
  subst this
  have h0 := (ha 0 (by simp)).v_inv
  simp only [List.getD_cons_zero]
  rw [h0]
  exact .fsl (fun _ _ => undef) (Nat.le_refl 0) (by unfold maxLen; omega) (fun i hi => by simp at hi) (fun i j hi => by simp at hi) (fun i j hi => by simp at hi) (fun i j hi => by simp at hi)
def ansP : Ans → AV
  | .long => .tup [nilA, iA 17]
  | .bad => .tup [nilA, iA 90]
  | .book b => .tup [if b = [] then nilA else bookA b, iA 0]
/-- The book as it grows. -/
def outA (b : List Kin) : AV := if b = [] then nilA else .sl 0 9 0 b.length
def outB (b : List Kin) : Option Blk := if b = [] then none else some (.row 58 9 (b.map kinA))
def tpB (l : List Int) : Option Blk := if l = [] then none else some (.row 3 1 (l.map iA))
def nsB (l : List Int) : Option Blk := if l = [] then none else some (.row 2 1 (l.map iA))
def p1S (text : List UInt8) (bd : List (List UInt8)) (p : Nat × List Kin) : St := ⟨101, 0, [(0, sA text), (4, outA p.2), (23, .fsl 1 (bd.map sA)), (24, .v (.int .i64 bd.length)), (25, .v (.int .i64 p.1))], [outB p.2]⟩
def p2S (text : List UInt8) (bd : List (List UInt8)) (k : Nat) (b : List Kin) (ws : List (List UInt8)) (p : Nat × List Int) : St :=
  ⟨101, 0, [(0, sA text), (4, outA b), (23, .fsl 1 (bd.map sA)), (24, .v (.int .i64 bd.length)), (25, .v (.int .i64 k)), (9, tpA 1 p.2), (34, .fsl 1 (ws.map sA)), (35, .v (.int .i64 ws.length)), (36, .v (.int .i64 p.1))], [outB b, nsB p.2]⟩
def p3S (text : List UInt8) (bd : List (List UInt8)) (k : Nat) (b : List Kin) (ns : List Int) (X : AV) (p : Nat × List Int) : St :=
  ⟨101, 0, [(0, sA text), (4, outA b), (23, .fsl 1 (bd.map sA)), (24, .v (.int .i64 bd.length)), (25, .v (.int .i64 k)), (14, .ptr 2 9 0 0), (78, X), (79, .v (.int .i64 (ns.length - 8 : Nat))), (80, .v (.int .i64 p.1))],
    [outB b, some (.row 2 1 (ns.map iA)), some (.row 58 9 [.agg [iA (ns.getD 0 0), iA (ns.getD 1 0), iA (ns.getD 2 0), iA (ns.getD 3 0), iA (ns.getD 4 0), tpA 3 p.2, iA (ns.getD 5 0), iA (ns.getD 6 0), iA (ns.getD 7 0)]]), tpB p.2]⟩
theorem outA_nil : outA [] = nilA := rfl
theorem outB_nil : outB [] = none := rfl
theorem outA_snoc (b : List Kin) (k : Kin) : outA (b ++ [k]) = .sl 0 9 0 (b.length + 1) := by unfold outA; rw [if_neg (by simp)]; simp
theorem outB_snoc (b : List Kin) (k : Kin) : outB (b ++ [k]) = some (.row 58 9 (b.map kinA ++ [kinA k])) := by unfold outB; rw [if_neg (by simp)]; simp
theorem tpA_snoc (id : Nat) (l : List Int) (n : Int) : tpA id (l ++ [n]) = .sl id 1 0 (l.length + 1) := by rw [tpA_ne _ (by simp)]; simp
theorem tpB_nil : tpB [] = none := rfl
theorem tpB_snoc (l : List Int) (n : Int) : tpB (l ++ [n]) = some (.row 3 1 (l.map iA ++ [iA n])) := by unfold tpB; rw [if_neg (by simp)]; simp
theorem nsB_nil : nsB [] = none := rfl
theorem nsB_snoc (l : List Int) (n : Int) : nsB (l ++ [n]) = some (.row 2 1 (l.map iA ++ [iA n])) := by unfold nsB; rw [if_neg (by simp)]; simp
theorem outA_one (k : Kin) : outA [k] = .sl 0 9 0 1 := outA_snoc [] k
theorem outB_one (k : Kin) : outB [k] = some (.row 58 9 [kinA k]) := outB_snoc [] k
theorem tpA_one (id : Nat) (n : Int) : tpA id [n] = .sl id 1 0 1 := tpA_snoc id [] n
theorem tpB_one (n : Int) : tpB [n] = some (.row 3 1 [iA n]) := tpB_snoc [] n
theorem nsB_one (n : Int) : nsB [n] = some (.row 2 1 [iA n]) := nsB_snoc [] n
theorem frzL_sA (id sz0 : Nat) (es : List AV) (t : List (List UInt8)) : AV.frzL id sz0 es (t.map sA) = t.map sA := by
  rw [frzL_eq, List.map_map]
  exact List.map_congr_left fun p _ => frz_v ..
theorem frz_kinA (id sz0 : Nat) (es : List AV) (k : Kin) : (kinA k).frz id sz0 es = kinA k := by
  have ht : ∀ o, (tapeA o).frz id sz0 es = tapeA o := fun o => by
    cases o with
    | none => exact frz_v ..
    | some l => simp only [tapeA, frz_fsl, frzL_iA]
  have hi : ∀ n, (iA n).frz id sz0 es = iA n := fun n => frz_v ..
  simp only [kinA, kinL, frz_agg, frzL_cons, frzL_nil, ht, hi]
theorem frzL_kinA (id sz0 : Nat) (es : List AV) (b : List Kin) : AV.frzL id sz0 es (b.map kinA) = b.map kinA := by
  rw [frzL_eq, List.map_map]
  exact List.map_congr_left fun p _ => frz_kinA id sz0 es p
set_option maxHeartbeats 8000000 in
theorem parse_pc (text : List UInt8) (ht : text.length < 9223372036854775807) : PCon Tryd.prog 14 [sA text] (· = ansP (proA text)) := by
  refine pcon_run 1000 Tryd.func14 rfl Tryd.results14 Tryd.ntmps14 (Nat.le_of_ble_eq_true rfl) ?_
  by_cases hl : 1048576 < text.length
  · have f1 : (1048576 < (text.length : Int)) = True := eq_true (by omega)
    have hA : proA text = .long := if_pos hl
    simp (maxSteps := 1000000) -implicitDefEqProofs only [go_sem, ↓reduceIte, reduceCtorEq, Nat.reduceEqDiff, Nat.reduceLT, Nat.reduceAdd, Nat.reduceLeDiff, Nat.reduceMul, Nat.reduceSub, Nat.reduceDiv, Nat.reduceMod, Int.reduceToNat, Int.reduceLT, Int.reduceLE, Int.reduceEq, Int.reduceAdd, Int.reduceSub, Int.reduceMul, Int.reduceNeg, Int.reduceTMod, Int.reduceTDiv, Int.reduceMod, Int.reduceDiv, Int.reduceBEq, Int.reduceBNe, Nat.reduceBEq, sA, iA, f1, hA]
    simp only [ansP, nilA, iA]
  · have f1 : (1048576 < (text.length : Int)) = False := eq_false (by omega)
    have hcc := List.count_le_length (a := (10 : UInt8)) (l := text)
    have hp := split_pc 10 text (by omega) (by omega)
    obtain ⟨ls, hls⟩ : ∃ ls, spl 10 [] text = ls := ⟨_, rfl⟩
    have hl1 : ls.length = text.count 10 + 1 := by rw [← hls, spl_len]
    have hwm : ∀ w ∈ ls, w.length ≤ 1048576 := fun w hw => by
      have := spl_mem_le 10 text [] w (by rw [hls]; exact hw)
      simp at this
      omega
    obtain ⟨bd, hbd⟩ : ∃ bd, ls.drop 1 = bd := ⟨_, rfl⟩
    have hbl : bd.length = ls.length - 1 := by rw [← hbd]; simp
    have hdm : (ls.map sA).drop 1 = bd.map sA := by rw [← hbd, List.map_drop]
    have htm : (ls.map sA).take ls.length = ls.map sA := List.take_of_length_le (by simp)
    have hwm2 : ∀ w ∈ bd, w.length ≤ 1048576 := fun w hw => hwm w (by rw [← hbd] at hw; exact List.mem_of_mem_drop hw)
    have hA : proA text = if printB (bd.filterMap (machB pintB)) = text then .book (bd.filterMap (machB pintB)) else .bad := by
      unfold proA proB
      rw [if_neg hl, hls, hbd]
    have hcnt : cntB (bd.filterMap (machB pintB)) ≤ 1048577 ∧ ∀ k ∈ bd.filterMap (machB pintB), k.ok := by
      have h1 := pro_cnt text
      have h2 := pro_ok text
      unfold proB at h1 h2
      rw [hls, hbd] at h1 h2
      exact ⟨by omega, fun k hk => (h2 k hk).1⟩
    rw [hls] at hp
    simp only [sA] at hp
    simp (maxSteps := 1000000) -implicitDefEqProofs only [go_sem, ↓reduceIte, reduceCtorEq, Nat.reduceEqDiff, Nat.reduceLT, Nat.reduceAdd, Nat.reduceLeDiff, Nat.reduceMul, Nat.reduceSub, Nat.reduceDiv, Nat.reduceMod, Int.reduceToNat, Int.reduceLT, Int.reduceLE, Int.reduceEq, Int.reduceAdd, Int.reduceSub, Int.reduceMul, Int.reduceNeg, Int.reduceTMod, Int.reduceTDiv, Int.reduceMod, Int.reduceDiv, Int.reduceBEq, Int.reduceBNe, Nat.reduceBEq, sA, iA, f1]
    have g0 : 1 ≤ (ls.length : Int) := by omega
    (repeat' (first | exact trivial | contradiction | refine And.intro ?_ ?_ | (show (_ : Nat) ≤ _; omega) | (show (_ : Nat) < _; omega) | (show (_ : Int) ≤ _; omega) | (show (_ : Int) < _; omega)  | (refine wait_draw 1000 mixed (by decide +kernel) ?_; simp (maxSteps := 1000000) -implicitDefEqProofs only [go_sem, ↓reduceIte, reduceCtorEq, Nat.reduceEqDiff, Nat.reduceLT, Nat.reduceAdd, Nat.reduceLeDiff, Nat.reduceMul, Nat.reduceSub, Nat.reduceDiv, Nat.reduceMod, Int.reduceToNat, Int.reduceLT, Int.reduceLE, Int.reduceEq, Int.reduceAdd, Int.reduceSub, Int.reduceMul, Int.reduceNeg, Int.reduceTMod, Int.reduceTDiv, Int.reduceMod, Int.reduceDiv, Int.reduceBEq, Int.reduceBNe, Nat.reduceBEq, sA, iA, List.length_map, hdm, htm]) | (refine call_eq 1000 ((show PCon Tryd.prog 23 [.v (.string (bs text)), .v (.string (bs [10]))] _ from hp)) ?_ ?_ rfl; (focus (simp (maxSteps := 1000000) -implicitDefEqProofs only [go_sem, ↓reduceIte, reduceCtorEq, Nat.reduceEqDiff, Nat.reduceLT, Nat.reduceAdd, Nat.reduceLeDiff, Nat.reduceMul, Nat.reduceSub, Nat.reduceDiv, Nat.reduceMod, Int.reduceToNat, Int.reduceLT, Int.reduceLE, Int.reduceEq, Int.reduceAdd, Int.reduceSub, Int.reduceMul, Int.reduceNeg, Int.reduceTMod, Int.reduceTDiv, Int.reduceMod, Int.reduceDiv, Int.reduceBEq, Int.reduceBNe, Nat.reduceBEq, sA, iA, List.length_map, hdm, htm]; done)); simp (maxSteps := 1000000) -implicitDefEqProofs only [go_sem, ↓reduceIte, reduceCtorEq, Nat.reduceEqDiff, Nat.reduceLT, Nat.reduceAdd, Nat.reduceLeDiff, Nat.reduceMul, Nat.reduceSub, Nat.reduceDiv, Nat.reduceMod, Int.reduceToNat, Int.reduceLT, Int.reduceLE, Int.reduceEq, Int.reduceAdd, Int.reduceSub, Int.reduceMul, Int.reduceNeg, Int.reduceTMod, Int.reduceTDiv, Int.reduceMod, Int.reduceDiv, Int.reduceBEq, Int.reduceBNe, Nat.reduceBEq, sA, iA, List.length_map, hdm, htm]) | (refine call_draw 1000 ((show PCon Tryd.prog 23 [.v (.string (bs text)), .v (.string (bs [10]))] _ from hp)) ?_ ?_; (focus (simp (maxSteps := 1000000) -implicitDefEqProofs only [go_sem, ↓reduceIte, reduceCtorEq, Nat.reduceEqDiff, Nat.reduceLT, Nat.reduceAdd, Nat.reduceLeDiff, Nat.reduceMul, Nat.reduceSub, Nat.reduceDiv, Nat.reduceMod, Int.reduceToNat, Int.reduceLT, Int.reduceLE, Int.reduceEq, Int.reduceAdd, Int.reduceSub, Int.reduceMul, Int.reduceNeg, Int.reduceTMod, Int.reduceTDiv, Int.reduceMod, Int.reduceDiv, Int.reduceBEq, Int.reduceBNe, Nat.reduceBEq, sA, iA, List.length_map, hdm, htm]; done)); simp (maxSteps := 1000000) -implicitDefEqProofs only [go_sem, ↓reduceIte, reduceCtorEq, Nat.reduceEqDiff, Nat.reduceLT, Nat.reduceAdd, Nat.reduceLeDiff, Nat.reduceMul, Nat.reduceSub, Nat.reduceDiv, Nat.reduceMod, Int.reduceToNat, Int.reduceLT, Int.reduceLE, Int.reduceEq, Int.reduceAdd, Int.reduceSub, Int.reduceMul, Int.reduceNeg, Int.reduceTMod, Int.reduceTDiv, Int.reduceMod, Int.reduceDiv, Int.reduceBEq, Int.reduceBNe, Nat.reduceBEq, sA, iA, List.length_map, hdm, htm]) | intro _))
    refine wait_data (p1S text bd) (fun p => p.1 ≤ bd.length ∧ p.2.length ≤ p.1 ∧ bd.filterMap (machB pintB) = p.2 ++ (bd.drop p.1).filterMap (machB pintB)) (fun p => bd.length - p.1) (0, []) (weak_to [0, 4, 23, 24, 25] [0] ?_ (by simp) (fun i h => by cases h)) ⟨by simp, by simp, by simp⟩ ?_
    · simp (maxSteps := 1000000) -implicitDefEqProofs only [go_sem, ↓reduceIte, reduceCtorEq, Nat.reduceEqDiff, Nat.reduceLT, Nat.reduceAdd, Nat.reduceLeDiff, Nat.reduceMul, Nat.reduceSub, Nat.reduceDiv, Nat.reduceMod, Int.reduceToNat, Int.reduceLT, Int.reduceLE, Int.reduceEq, Int.reduceAdd, Int.reduceSub, Int.reduceMul, Int.reduceNeg, Int.reduceTMod, Int.reduceTDiv, Int.reduceMod, Int.reduceDiv, Int.reduceBEq, Int.reduceBNe, Nat.reduceBEq, St.keep, p1S, sA, iA, outA_nil, outB_nil, nilA, Int.natCast_zero]
    · rintro ⟨k, b⟩ ⟨h1, h2, h3⟩
      simp only at h1 h2 h3
      refine run_sound 1000 _ _ ?_
      by_cases hk : k < bd.length
      · have hlt : ((k : Int) < (bd.length : Int)) = True := eq_true (by omega)
        have hwk : IntKind.i64.wrap ((k : Int) + 1) = ((k + 1 : Nat) : Int) := by rw [wrap64 (by omega) (by omega)]; omega
        have gk := get_sA bd k hk
        have hmem := getD_mem bd k [] hk
        rw [drop_at [] bd k hk, List.filterMap_cons] at h3
        obtain ⟨w, hw⟩ : ∃ w, bd.getD k [] = w := ⟨_, rfl⟩
        rw [hw] at gk h3 hmem
        have hwl := hwm2 w hmem
        have hc2 := List.count_le_length (a := (32 : UInt8)) (l := w)
        have hs := split_pc 32 w (by omega) (by omega)
        obtain ⟨ws, hws⟩ : ∃ ws, spl 32 [] w = ws := ⟨_, rfl⟩
        have hwsl : ws.length = w.count 32 + 1 := by rw [← hws, spl_len]
        have hM : machB pintB w = if ws.length < 8 then none else (readW pintB ws).map mkK := by unfold machB; rw [hws]
        have hwm3 : ∀ x ∈ ws, x.length ≤ 1048576 := fun x hx => by
          have := spl_mem_le 32 w [] x (by rw [hws]; exact hx)
          simp at this
          omega
        rw [hws] at hs
        simp only [sA] at hs
        have hOB : (outA b = nilA ∧ outB b = none ∧ b = []) ∨ (outA b = .sl 0 9 0 b.length ∧ outB b = some (.row 58 9 (b.map kinA)) ∧ b ≠ []) := by
          by_cases hb : b = []
          · exact .inl ⟨if_pos hb, if_pos hb, hb⟩
          · exact .inr ⟨if_neg hb, if_neg hb, hb⟩
        have hskip : machB pintB w = none → bd.filterMap (machB pintB) = b ++ (bd.drop (k + 1)).filterMap (machB pintB) := fun e => by rw [e] at h3; exact h3
        have hnb : (b.map kinA).length = b.length := by simp
        rcases hOB with ⟨hO, hB, hE⟩ | ⟨hO, hB, hE⟩
        all_goals (
          by_cases h8 : ws.length < 8
          · have f2 : ((ws.length : Int) < 8) = True := eq_true (by omega)
            rw [if_pos h8] at hM
            simp (maxSteps := 1000000) -implicitDefEqProofs only [go_sem, ↓reduceIte, reduceCtorEq, Nat.reduceEqDiff, Nat.reduceLT, Nat.reduceAdd, Nat.reduceLeDiff, Nat.reduceMul, Nat.reduceSub, Nat.reduceDiv, Nat.reduceMod, Int.reduceToNat, Int.reduceLT, Int.reduceLE, Int.reduceEq, Int.reduceAdd, Int.reduceSub, Int.reduceMul, Int.reduceNeg, Int.reduceTMod, Int.reduceTDiv, Int.reduceMod, Int.reduceDiv, Int.reduceBEq, Int.reduceBNe, Nat.reduceBEq, p1S, hO, hB, nilA, sA, iA, hlt, gk, List.length_map]
            (repeat' (first | exact trivial | contradiction | refine And.intro ?_ ?_ | (show (_ : Nat) ≤ _; omega) | (show (_ : Nat) < _; omega) | (show (_ : Int) ≤ _; omega) | (show (_ : Int) < _; omega)  | (refine wait_draw 1000 mixed (by decide +kernel) ?_; simp (maxSteps := 1000000) -implicitDefEqProofs only [go_sem, ↓reduceIte, reduceCtorEq, Nat.reduceEqDiff, Nat.reduceLT, Nat.reduceAdd, Nat.reduceLeDiff, Nat.reduceMul, Nat.reduceSub, Nat.reduceDiv, Nat.reduceMod, Int.reduceToNat, Int.reduceLT, Int.reduceLE, Int.reduceEq, Int.reduceAdd, Int.reduceSub, Int.reduceMul, Int.reduceNeg, Int.reduceTMod, Int.reduceTDiv, Int.reduceMod, Int.reduceDiv, Int.reduceBEq, Int.reduceBNe, Nat.reduceBEq, sA, iA, List.length_map, f2]) | (refine call_eq 1000 ((show PCon Tryd.prog 23 [.v (.string (bs w)), .v (.string (bs [32]))] _ from hs)) ?_ ?_ rfl; (focus (simp (maxSteps := 1000000) -implicitDefEqProofs only [go_sem, ↓reduceIte, reduceCtorEq, Nat.reduceEqDiff, Nat.reduceLT, Nat.reduceAdd, Nat.reduceLeDiff, Nat.reduceMul, Nat.reduceSub, Nat.reduceDiv, Nat.reduceMod, Int.reduceToNat, Int.reduceLT, Int.reduceLE, Int.reduceEq, Int.reduceAdd, Int.reduceSub, Int.reduceMul, Int.reduceNeg, Int.reduceTMod, Int.reduceTDiv, Int.reduceMod, Int.reduceDiv, Int.reduceBEq, Int.reduceBNe, Nat.reduceBEq, sA, iA, List.length_map, f2]; done)); simp (maxSteps := 1000000) -implicitDefEqProofs only [go_sem, ↓reduceIte, reduceCtorEq, Nat.reduceEqDiff, Nat.reduceLT, Nat.reduceAdd, Nat.reduceLeDiff, Nat.reduceMul, Nat.reduceSub, Nat.reduceDiv, Nat.reduceMod, Int.reduceToNat, Int.reduceLT, Int.reduceLE, Int.reduceEq, Int.reduceAdd, Int.reduceSub, Int.reduceMul, Int.reduceNeg, Int.reduceTMod, Int.reduceTDiv, Int.reduceMod, Int.reduceDiv, Int.reduceBEq, Int.reduceBNe, Nat.reduceBEq, sA, iA, List.length_map, f2]) | (refine call_draw 1000 ((show PCon Tryd.prog 23 [.v (.string (bs w)), .v (.string (bs [32]))] _ from hs)) ?_ ?_; (focus (simp (maxSteps := 1000000) -implicitDefEqProofs only [go_sem, ↓reduceIte, reduceCtorEq, Nat.reduceEqDiff, Nat.reduceLT, Nat.reduceAdd, Nat.reduceLeDiff, Nat.reduceMul, Nat.reduceSub, Nat.reduceDiv, Nat.reduceMod, Int.reduceToNat, Int.reduceLT, Int.reduceLE, Int.reduceEq, Int.reduceAdd, Int.reduceSub, Int.reduceMul, Int.reduceNeg, Int.reduceTMod, Int.reduceTDiv, Int.reduceMod, Int.reduceDiv, Int.reduceBEq, Int.reduceBNe, Nat.reduceBEq, sA, iA, List.length_map, f2]; done)); simp (maxSteps := 1000000) -implicitDefEqProofs only [go_sem, ↓reduceIte, reduceCtorEq, Nat.reduceEqDiff, Nat.reduceLT, Nat.reduceAdd, Nat.reduceLeDiff, Nat.reduceMul, Nat.reduceSub, Nat.reduceDiv, Nat.reduceMod, Int.reduceToNat, Int.reduceLT, Int.reduceLE, Int.reduceEq, Int.reduceAdd, Int.reduceSub, Int.reduceMul, Int.reduceNeg, Int.reduceTMod, Int.reduceTDiv, Int.reduceMod, Int.reduceDiv, Int.reduceBEq, Int.reduceBNe, Nat.reduceBEq, sA, iA, List.length_map, f2]) | intro _))
            refine ⟨(k + 1, b), ?_, ⟨?_, ?_, hskip hM⟩, ?_⟩
            · show bd.length - (k + 1) < bd.length - k; omega
            · show k + 1 ≤ bd.length; omega
            · show b.length ≤ k + 1; omega
            · ((refine weak_to [0, 4, 23, 24, 25] [0] ?_ (by simp) (fun i h => by cases h); simp (maxSteps := 1000000) -implicitDefEqProofs only [go_sem, ↓reduceIte, reduceCtorEq, Nat.reduceEqDiff, Nat.reduceLT, Nat.reduceAdd, Nat.reduceLeDiff, Nat.reduceMul, Nat.reduceSub, Nat.reduceDiv, Nat.reduceMod, Int.reduceToNat, Int.reduceLT, Int.reduceLE, Int.reduceEq, Int.reduceAdd, Int.reduceSub, Int.reduceMul, Int.reduceNeg, Int.reduceTMod, Int.reduceTDiv, Int.reduceMod, Int.reduceDiv, Int.reduceBEq, Int.reduceBNe, Nat.reduceBEq, St.keep, p1S, sA, hwk, hO, hB, nilA]; done))
          · have f2 : ((ws.length : Int) < 8) = False := eq_false (by omega)
            rw [if_neg h8] at hM
            simp (maxSteps := 1000000) -implicitDefEqProofs only [go_sem, ↓reduceIte, reduceCtorEq, Nat.reduceEqDiff, Nat.reduceLT, Nat.reduceAdd, Nat.reduceLeDiff, Nat.reduceMul, Nat.reduceSub, Nat.reduceDiv, Nat.reduceMod, Int.reduceToNat, Int.reduceLT, Int.reduceLE, Int.reduceEq, Int.reduceAdd, Int.reduceSub, Int.reduceMul, Int.reduceNeg, Int.reduceTMod, Int.reduceTDiv, Int.reduceMod, Int.reduceDiv, Int.reduceBEq, Int.reduceBNe, Nat.reduceBEq, p1S, hO, hB, nilA, sA, iA, hlt, gk, List.length_map]
            (repeat' (first | exact trivial | contradiction | refine And.intro ?_ ?_ | (show (_ : Nat) ≤ _; omega) | (show (_ : Nat) < _; omega) | (show (_ : Int) ≤ _; omega) | (show (_ : Int) < _; omega)  | (refine wait_draw 1000 mixed (by decide +kernel) ?_; simp (maxSteps := 1000000) -implicitDefEqProofs only [go_sem, ↓reduceIte, reduceCtorEq, Nat.reduceEqDiff, Nat.reduceLT, Nat.reduceAdd, Nat.reduceLeDiff, Nat.reduceMul, Nat.reduceSub, Nat.reduceDiv, Nat.reduceMod, Int.reduceToNat, Int.reduceLT, Int.reduceLE, Int.reduceEq, Int.reduceAdd, Int.reduceSub, Int.reduceMul, Int.reduceNeg, Int.reduceTMod, Int.reduceTDiv, Int.reduceMod, Int.reduceDiv, Int.reduceBEq, Int.reduceBNe, Nat.reduceBEq, sA, iA, List.length_map, f2]) | (refine call_eq 1000 ((show PCon Tryd.prog 23 [.v (.string (bs w)), .v (.string (bs [32]))] _ from hs)) ?_ ?_ rfl; (focus (simp (maxSteps := 1000000) -implicitDefEqProofs only [go_sem, ↓reduceIte, reduceCtorEq, Nat.reduceEqDiff, Nat.reduceLT, Nat.reduceAdd, Nat.reduceLeDiff, Nat.reduceMul, Nat.reduceSub, Nat.reduceDiv, Nat.reduceMod, Int.reduceToNat, Int.reduceLT, Int.reduceLE, Int.reduceEq, Int.reduceAdd, Int.reduceSub, Int.reduceMul, Int.reduceNeg, Int.reduceTMod, Int.reduceTDiv, Int.reduceMod, Int.reduceDiv, Int.reduceBEq, Int.reduceBNe, Nat.reduceBEq, sA, iA, List.length_map, f2]; done)); simp (maxSteps := 1000000) -implicitDefEqProofs only [go_sem, ↓reduceIte, reduceCtorEq, Nat.reduceEqDiff, Nat.reduceLT, Nat.reduceAdd, Nat.reduceLeDiff, Nat.reduceMul, Nat.reduceSub, Nat.reduceDiv, Nat.reduceMod, Int.reduceToNat, Int.reduceLT, Int.reduceLE, Int.reduceEq, Int.reduceAdd, Int.reduceSub, Int.reduceMul, Int.reduceNeg, Int.reduceTMod, Int.reduceTDiv, Int.reduceMod, Int.reduceDiv, Int.reduceBEq, Int.reduceBNe, Nat.reduceBEq, sA, iA, List.length_map, f2]) | (refine call_draw 1000 ((show PCon Tryd.prog 23 [.v (.string (bs w)), .v (.string (bs [32]))] _ from hs)) ?_ ?_; (focus (simp (maxSteps := 1000000) -implicitDefEqProofs only [go_sem, ↓reduceIte, reduceCtorEq, Nat.reduceEqDiff, Nat.reduceLT, Nat.reduceAdd, Nat.reduceLeDiff, Nat.reduceMul, Nat.reduceSub, Nat.reduceDiv, Nat.reduceMod, Int.reduceToNat, Int.reduceLT, Int.reduceLE, Int.reduceEq, Int.reduceAdd, Int.reduceSub, Int.reduceMul, Int.reduceNeg, Int.reduceTMod, Int.reduceTDiv, Int.reduceMod, Int.reduceDiv, Int.reduceBEq, Int.reduceBNe, Nat.reduceBEq, sA, iA, List.length_map, f2]; done)); simp (maxSteps := 1000000) -implicitDefEqProofs only [go_sem, ↓reduceIte, reduceCtorEq, Nat.reduceEqDiff, Nat.reduceLT, Nat.reduceAdd, Nat.reduceLeDiff, Nat.reduceMul, Nat.reduceSub, Nat.reduceDiv, Nat.reduceMod, Int.reduceToNat, Int.reduceLT, Int.reduceLE, Int.reduceEq, Int.reduceAdd, Int.reduceSub, Int.reduceMul, Int.reduceNeg, Int.reduceTMod, Int.reduceTDiv, Int.reduceMod, Int.reduceDiv, Int.reduceBEq, Int.reduceBNe, Nat.reduceBEq, sA, iA, List.length_map, f2]) | intro _))
            refine wait_data (p2S text bd k b ws) (fun p => p.1 ≤ ws.length ∧ p.2.length = p.1 ∧ readW pintB ws = (readW pintB (ws.drop p.1)).map (p.2 ++ ·)) (fun p => ws.length - p.1) (0, []) (weak_to [0, 4, 23, 24, 25, 9, 34, 35, 36] [0, 1] ?_ (by simp) (fun i h => by cases h)) ⟨by simp, by simp, by simp⟩ ?_
            · simp (maxSteps := 1000000) -implicitDefEqProofs only [go_sem, ↓reduceIte, reduceCtorEq, Nat.reduceEqDiff, Nat.reduceLT, Nat.reduceAdd, Nat.reduceLeDiff, Nat.reduceMul, Nat.reduceSub, Nat.reduceDiv, Nat.reduceMod, Int.reduceToNat, Int.reduceLT, Int.reduceLE, Int.reduceEq, Int.reduceAdd, Int.reduceSub, Int.reduceMul, Int.reduceNeg, Int.reduceTMod, Int.reduceTDiv, Int.reduceMod, Int.reduceDiv, Int.reduceBEq, Int.reduceBNe, Nat.reduceBEq, St.keep, p2S, sA, iA, hO, hB, tpA_nil, nsB_nil, nilA, Int.natCast_zero]
            · rintro ⟨j, ns⟩ ⟨h5, h6, h7⟩
              simp only at h5 h6 h7
              refine run_sound 1000 _ _ ?_
              have hnl : (ns.map iA).length = ns.length := by simp
              by_cases hj : j < ws.length
              · have hlt : ((j : Int) < (ws.length : Int)) = True := eq_true (by omega)
                have hwj : IntKind.i64.wrap ((j : Int) + 1) = ((j + 1 : Nat) : Int) := by rw [wrap64 (by omega) (by omega)]; omega
                have gj := get_sA ws j hj
                rw [drop_at [] ws j hj] at h7
                have hmemx := getD_mem ws j [] hj
                obtain ⟨x, hx⟩ : ∃ x, ws.getD j [] = x := ⟨_, rfl⟩
                rw [hx] at gj h7 hmemx
                have hP := parseInt_pc x (by have := hwm3 x hmemx; omega)
                simp only [sA, iA] at hP
                have hN : (tpA 1 ns = nilA ∧ nsB ns = none ∧ ns = []) ∨ (tpA 1 ns = .sl 1 1 0 ns.length ∧ nsB ns = some (.row 2 1 (ns.map iA)) ∧ ns ≠ []) := by
                  by_cases hn : ns = []
                  · exact .inl ⟨if_pos hn, if_pos hn, hn⟩
                  · exact .inr ⟨if_neg hn, if_neg hn, hn⟩
                rcases hN with ⟨hN1, hN2, hN3⟩ | ⟨hN1, hN2, hN3⟩
                all_goals (
                  simp (maxSteps := 1000000) -implicitDefEqProofs only [go_sem, ↓reduceIte, reduceCtorEq, Nat.reduceEqDiff, Nat.reduceLT, Nat.reduceAdd, Nat.reduceLeDiff, Nat.reduceMul, Nat.reduceSub, Nat.reduceDiv, Nat.reduceMod, Int.reduceToNat, Int.reduceLT, Int.reduceLE, Int.reduceEq, Int.reduceAdd, Int.reduceSub, Int.reduceMul, Int.reduceNeg, Int.reduceTMod, Int.reduceTDiv, Int.reduceMod, Int.reduceDiv, Int.reduceBEq, Int.reduceBNe, Nat.reduceBEq, p2S, hO, hB, hN1, hN2, nilA, sA, iA, hlt, gj, List.length_map]
                  (repeat' (first | exact trivial | contradiction | refine And.intro ?_ ?_ | (show (_ : Nat) ≤ _; omega) | (show (_ : Nat) < _; omega) | (show (_ : Int) ≤ _; omega) | (show (_ : Int) < _; omega)  | (refine wait_draw 1000 mixed (by decide +kernel) ?_; simp (maxSteps := 1000000) -implicitDefEqProofs only [go_sem, ↓reduceIte, reduceCtorEq, Nat.reduceEqDiff, Nat.reduceLT, Nat.reduceAdd, Nat.reduceLeDiff, Nat.reduceMul, Nat.reduceSub, Nat.reduceDiv, Nat.reduceMod, Int.reduceToNat, Int.reduceLT, Int.reduceLE, Int.reduceEq, Int.reduceAdd, Int.reduceSub, Int.reduceMul, Int.reduceNeg, Int.reduceTMod, Int.reduceTDiv, Int.reduceMod, Int.reduceDiv, Int.reduceBEq, Int.reduceBNe, Nat.reduceBEq , sA]) | intro _))
                  all_goals (try omega)
                  refine call_pure 1000 hP ?_ rfl ?_
                  · simp (maxSteps := 1000000) -implicitDefEqProofs only [go_sem, ↓reduceIte, reduceCtorEq, Nat.reduceEqDiff, Nat.reduceLT, Nat.reduceAdd, Nat.reduceLeDiff, Nat.reduceMul, Nat.reduceSub, Nat.reduceDiv, Nat.reduceMod, Int.reduceToNat, Int.reduceLT, Int.reduceLE, Int.reduceEq, Int.reduceAdd, Int.reduceSub, Int.reduceMul, Int.reduceNeg, Int.reduceTMod, Int.reduceTDiv, Int.reduceMod, Int.reduceDiv, Int.reduceBEq, Int.reduceBNe, Nat.reduceBEq]
                  · rintro r ⟨v, e, rfl, hq⟩
                    cases hr : pintB x with
                    | none =>
                      rw [hr] at hq
                      obtain ⟨tt, pp, rfl⟩ := hq
                      have hno : readW pintB ws = none := by rw [h7, readW, hr]; rfl
                      rw [hno] at hM
                      simp (maxSteps := 1000000) -implicitDefEqProofs only [go_sem, ↓reduceIte, reduceCtorEq, Nat.reduceEqDiff, Nat.reduceLT, Nat.reduceAdd, Nat.reduceLeDiff, Nat.reduceMul, Nat.reduceSub, Nat.reduceDiv, Nat.reduceMod, Int.reduceToNat, Int.reduceLT, Int.reduceLE, Int.reduceEq, Int.reduceAdd, Int.reduceSub, Int.reduceMul, Int.reduceNeg, Int.reduceTMod, Int.reduceTDiv, Int.reduceMod, Int.reduceDiv, Int.reduceBEq, Int.reduceBNe, Nat.reduceBEq, iA]
                      (repeat' (first | exact trivial | contradiction | refine And.intro ?_ ?_ | (show (_ : Nat) ≤ _; omega) | (show (_ : Nat) < _; omega) | (show (_ : Int) ≤ _; omega) | (show (_ : Int) < _; omega)  | (refine wait_draw 1000 mixed (by decide +kernel) ?_; simp (maxSteps := 1000000) -implicitDefEqProofs only [go_sem, ↓reduceIte, reduceCtorEq, Nat.reduceEqDiff, Nat.reduceLT, Nat.reduceAdd, Nat.reduceLeDiff, Nat.reduceMul, Nat.reduceSub, Nat.reduceDiv, Nat.reduceMod, Int.reduceToNat, Int.reduceLT, Int.reduceLE, Int.reduceEq, Int.reduceAdd, Int.reduceSub, Int.reduceMul, Int.reduceNeg, Int.reduceTMod, Int.reduceTDiv, Int.reduceMod, Int.reduceDiv, Int.reduceBEq, Int.reduceBNe, Nat.reduceBEq , sA]) | intro _))
                      all_goals (try omega)
                      refine ⟨(k + 1, b), ?_, ⟨?_, ?_, hskip hM⟩, ?_⟩
                      · show bd.length - (k + 1) < bd.length - k; omega
                      · show k + 1 ≤ bd.length; omega
                      · show b.length ≤ k + 1; omega
                      · ((refine weak_to [0, 4, 23, 24, 25] [0] ?_ (by simp) (fun i h => by cases h); simp (maxSteps := 1000000) -implicitDefEqProofs only [go_sem, ↓reduceIte, reduceCtorEq, Nat.reduceEqDiff, Nat.reduceLT, Nat.reduceAdd, Nat.reduceLeDiff, Nat.reduceMul, Nat.reduceSub, Nat.reduceDiv, Nat.reduceMod, Int.reduceToNat, Int.reduceLT, Int.reduceLE, Int.reduceEq, Int.reduceAdd, Int.reduceSub, Int.reduceMul, Int.reduceNeg, Int.reduceTMod, Int.reduceTDiv, Int.reduceMod, Int.reduceDiv, Int.reduceBEq, Int.reduceBNe, Nat.reduceBEq, St.keep, p1S, sA, hwk, hO, hB, nilA]; done))
                    | some n =>
                      rw [hr] at hq
                      obtain ⟨rfl, rfl⟩ := hq
                      have hst : readW pintB ws = (readW pintB (ws.drop (j + 1))).map ((ns ++ [v]) ++ ·) := by
                        rw [h7, readW, hr]
                        simp only
                        cases readW pintB (ws.drop (j + 1)) with
                        | none => rfl
                        | some l => simp
                      simp (maxSteps := 1000000) -implicitDefEqProofs only [go_sem, ↓reduceIte, reduceCtorEq, Nat.reduceEqDiff, Nat.reduceLT, Nat.reduceAdd, Nat.reduceLeDiff, Nat.reduceMul, Nat.reduceSub, Nat.reduceDiv, Nat.reduceMod, Int.reduceToNat, Int.reduceLT, Int.reduceLE, Int.reduceEq, Int.reduceAdd, Int.reduceSub, Int.reduceMul, Int.reduceNeg, Int.reduceTMod, Int.reduceTDiv, Int.reduceMod, Int.reduceDiv, Int.reduceBEq, Int.reduceBNe, Nat.reduceBEq, iA]
                      (repeat' (first | exact trivial | contradiction | refine And.intro ?_ ?_ | (show (_ : Nat) ≤ _; omega) | (show (_ : Nat) < _; omega) | (show (_ : Int) ≤ _; omega) | (show (_ : Int) < _; omega)  | (refine wait_draw 1000 mixed (by decide +kernel) ?_; simp (maxSteps := 1000000) -implicitDefEqProofs only [go_sem, ↓reduceIte, reduceCtorEq, Nat.reduceEqDiff, Nat.reduceLT, Nat.reduceAdd, Nat.reduceLeDiff, Nat.reduceMul, Nat.reduceSub, Nat.reduceDiv, Nat.reduceMod, Int.reduceToNat, Int.reduceLT, Int.reduceLE, Int.reduceEq, Int.reduceAdd, Int.reduceSub, Int.reduceMul, Int.reduceNeg, Int.reduceTMod, Int.reduceTDiv, Int.reduceMod, Int.reduceDiv, Int.reduceBEq, Int.reduceBNe, Nat.reduceBEq , sA]) | intro _))
                      all_goals (try omega)
                      refine ⟨(j + 1, ns ++ [v]), ?_, ⟨?_, ?_, hst⟩, ?_⟩
                      · show ws.length - (j + 1) < ws.length - j; omega
                      · show j + 1 ≤ ws.length; omega
                      · show (ns ++ [v]).length = j + 1; simp; omega
                      · ((refine weak_to [0, 4, 23, 24, 25, 9, 34, 35, 36] [0, 3] ?_ (by simp) (fun i h => by cases h); simp (maxSteps := 1000000) -implicitDefEqProofs only [go_sem, ↓reduceIte, reduceCtorEq, Nat.reduceEqDiff, Nat.reduceLT, Nat.reduceAdd, Nat.reduceLeDiff, Nat.reduceMul, Nat.reduceSub, Nat.reduceDiv, Nat.reduceMod, Int.reduceToNat, Int.reduceLT, Int.reduceLE, Int.reduceEq, Int.reduceAdd, Int.reduceSub, Int.reduceMul, Int.reduceNeg, Int.reduceTMod, Int.reduceTDiv, Int.reduceMod, Int.reduceDiv, Int.reduceBEq, Int.reduceBNe, Nat.reduceBEq, St.keep, p2S, sA, iA, hwj, hO, hB, nilA, tpA_snoc, nsB_snoc, tpA_one, nsB_one, hN3]; done)))
              · have hlt : ((j : Int) < (ws.length : Int)) = False := eq_false (by omega)
                rw [show ws.drop j = [] from List.drop_eq_nil_of_le (by omega), readW] at h7
                simp only [Option.map_some, List.append_nil] at h7
                rw [h7, Option.map_some] at hM
                rw [hM] at h3
                simp only at h3
                have hns8 : 8 ≤ ns.length := by omega
                have hnl2 : ns.length ≤ 1048577 := by omega
                have hne : ns ≠ [] := fun e => by rw [e] at hns8; simp at hns8
                have hN1 : tpA 1 ns = .sl 1 1 0 ns.length := if_neg hne
                have hN2 : nsB ns = some (.row 2 1 (ns.map iA)) := if_neg hne
                
                have k0 := get_iA ns 0 (by omega)
                have i0 : ((0 : Int) < (ns.length : Int)) = True := eq_true (by omega)
                have k1 := get_iA ns 1 (by omega)
                have i1 : ((1 : Int) < (ns.length : Int)) = True := eq_true (by omega)
                have k2 := get_iA ns 2 (by omega)
                have i2 : ((2 : Int) < (ns.length : Int)) = True := eq_true (by omega)
                have k3 := get_iA ns 3 (by omega)
                have i3 : ((3 : Int) < (ns.length : Int)) = True := eq_true (by omega)
                have k4 := get_iA ns 4 (by omega)
                have i4 : ((4 : Int) < (ns.length : Int)) = True := eq_true (by omega)
                have k5 := get_iA ns 5 (by omega)
                have i5 : ((5 : Int) < (ns.length : Int)) = True := eq_true (by omega)
                have k6 := get_iA ns 6 (by omega)
                have i6 : ((6 : Int) < (ns.length : Int)) = True := eq_true (by omega)
                have k7 := get_iA ns 7 (by omega)
                have i7 : ((7 : Int) < (ns.length : Int)) = True := eq_true (by omega)
                have i8 : (8 ≤ (ns.length : Int)) = True := eq_true (by omega)
                have hX : ∃ X : AV, (X = .fsl 1 [] ∧ ns.length = 8 ∧ (8 < (ns.length : Int)) = False) ∨ (X = .sl 1 1 8 (ns.length - 8) ∧ 8 < ns.length ∧ (8 < (ns.length : Int)) = True) := by
                  by_cases h9 : 8 < ns.length
                  · exact ⟨_, .inr ⟨rfl, h9, eq_true (by omega)⟩⟩
                  · exact ⟨_, .inl ⟨rfl, by omega, eq_false (by omega)⟩⟩
                obtain ⟨X, ⟨hX, h9, h10⟩ | ⟨hX, h9, h10⟩⟩ := hX
                all_goals (
                  simp (maxSteps := 1000000) -implicitDefEqProofs only [go_sem, ↓reduceIte, reduceCtorEq, Nat.reduceEqDiff, Nat.reduceLT, Nat.reduceAdd, Nat.reduceLeDiff, Nat.reduceMul, Nat.reduceSub, Nat.reduceDiv, Nat.reduceMod, Int.reduceToNat, Int.reduceLT, Int.reduceLE, Int.reduceEq, Int.reduceAdd, Int.reduceSub, Int.reduceMul, Int.reduceNeg, Int.reduceTMod, Int.reduceTDiv, Int.reduceMod, Int.reduceDiv, Int.reduceBEq, Int.reduceBNe, Nat.reduceBEq, p2S, hO, hB, hN1, hN2, nilA, sA, iA, hlt, List.length_map]
                  (repeat' (first | exact trivial | contradiction | refine And.intro ?_ ?_ | (show (_ : Nat) ≤ _; omega) | (show (_ : Nat) < _; omega) | (show (_ : Int) ≤ _; omega) | (show (_ : Int) < _; omega)  | (refine wait_draw 1000 mixed (by decide +kernel) ?_; simp (maxSteps := 1000000) -implicitDefEqProofs only [go_sem, ↓reduceIte, reduceCtorEq, Nat.reduceEqDiff, Nat.reduceLT, Nat.reduceAdd, Nat.reduceLeDiff, Nat.reduceMul, Nat.reduceSub, Nat.reduceDiv, Nat.reduceMod, Int.reduceToNat, Int.reduceLT, Int.reduceLE, Int.reduceEq, Int.reduceAdd, Int.reduceSub, Int.reduceMul, Int.reduceNeg, Int.reduceTMod, Int.reduceTDiv, Int.reduceMod, Int.reduceDiv, Int.reduceBEq, Int.reduceBNe, Nat.reduceBEq , k0, k1, k2, k3, k4, k5, k6, k7, i0, i1, i2, i3, i4, i5, i6, i7, i8, hnl, h10]) | intro _))
                  all_goals first | (exact ⟨_, rfl⟩) | omega | skip
                  refine wait_data (p3S text bd k b ns X) (fun p => p.1 ≤ ns.length - 8 ∧ p.2.length = p.1 ∧ p.2 = (ns.drop 8).take p.1) (fun p => ns.length - 8 - p.1) (0, []) (weak_to [0, 4, 23, 24, 25, 14, 78, 79, 80] [0, 1, 2, 3] ?_ (by simp) (fun i h => by cases h)) ⟨by simp, by simp, by simp⟩ ?_
                  · simp (maxSteps := 1000000) -implicitDefEqProofs only [go_sem, ↓reduceIte, reduceCtorEq, Nat.reduceEqDiff, Nat.reduceLT, Nat.reduceAdd, Nat.reduceLeDiff, Nat.reduceMul, Nat.reduceSub, Nat.reduceDiv, Nat.reduceMod, Int.reduceToNat, Int.reduceLT, Int.reduceLE, Int.reduceEq, Int.reduceAdd, Int.reduceSub, Int.reduceMul, Int.reduceNeg, Int.reduceTMod, Int.reduceTDiv, Int.reduceMod, Int.reduceDiv, Int.reduceBEq, Int.reduceBNe, Nat.reduceBEq, St.keep, p3S, hO, hB, hX, h9, sA, iA, tpA_nil, tpB_nil, nilA, Int.natCast_zero]
                  · rintro ⟨i, l⟩ ⟨h11, h12, h13⟩
                    simp only at h11 h12 h13
                    refine run_sound 1000 _ _ ?_
                    have hlm : (l.map iA).length = l.length := by simp
                    by_cases hi : i < ns.length - 8
                    · first | (exfalso; omega) | (
                      have hlt : ((i : Int) < ((ns.length - 8 : Nat) : Int)) = True := eq_true (by omega)
                      have hwi : IntKind.i64.wrap ((i : Int) + 1) = ((i + 1 : Nat) : Int) := by rw [wrap64 (by omega) (by omega)]; omega
                      have ki := get_iA ns (8 + i) (by omega)
                      have hl2 : l ++ [ns.getD (8 + i) 0] = (ns.drop 8).take (i + 1) := by
                        rw [take_at 0 (ns.drop 8) i (by simp; omega), ← h13]
                        congr 2
                        simp [List.getD_eq_getElem?_getD]
                      have hL : (tpA 3 l = nilA ∧ tpB l = none ∧ l = []) ∨ (tpA 3 l = .sl 3 1 0 l.length ∧ tpB l = some (.row 3 1 (l.map iA)) ∧ l ≠ []) := by
                        by_cases hn : l = []
                        · exact .inl ⟨if_pos hn, if_pos hn, hn⟩
                        · exact .inr ⟨if_neg hn, if_neg hn, hn⟩
                      rcases hL with ⟨hL1, hL2, hL3⟩ | ⟨hL1, hL2, hL3⟩
                      all_goals (
                        simp (maxSteps := 1000000) -implicitDefEqProofs only [go_sem, ↓reduceIte, reduceCtorEq, Nat.reduceEqDiff, Nat.reduceLT, Nat.reduceAdd, Nat.reduceLeDiff, Nat.reduceMul, Nat.reduceSub, Nat.reduceDiv, Nat.reduceMod, Int.reduceToNat, Int.reduceLT, Int.reduceLE, Int.reduceEq, Int.reduceAdd, Int.reduceSub, Int.reduceMul, Int.reduceNeg, Int.reduceTMod, Int.reduceTDiv, Int.reduceMod, Int.reduceDiv, Int.reduceBEq, Int.reduceBNe, Nat.reduceBEq, p3S, hO, hB, hX, hL1, hL2, nilA, sA, iA, hlt, ki, List.length_map, hlm]
                        (repeat' (first | exact trivial | contradiction | refine And.intro ?_ ?_ | (show (_ : Nat) ≤ _; omega) | (show (_ : Nat) < _; omega) | (show (_ : Int) ≤ _; omega) | (show (_ : Int) < _; omega)  | (refine wait_draw 1000 mixed (by decide +kernel) ?_; simp (maxSteps := 1000000) -implicitDefEqProofs only [go_sem, ↓reduceIte, reduceCtorEq, Nat.reduceEqDiff, Nat.reduceLT, Nat.reduceAdd, Nat.reduceLeDiff, Nat.reduceMul, Nat.reduceSub, Nat.reduceDiv, Nat.reduceMod, Int.reduceToNat, Int.reduceLT, Int.reduceLE, Int.reduceEq, Int.reduceAdd, Int.reduceSub, Int.reduceMul, Int.reduceNeg, Int.reduceTMod, Int.reduceTDiv, Int.reduceMod, Int.reduceDiv, Int.reduceBEq, Int.reduceBNe, Nat.reduceBEq , ki, hlm]) | intro _))
                        all_goals first | (exact ⟨_, rfl⟩) | omega | skip
                        refine ⟨(i + 1, l ++ [ns.getD (8 + i) 0]), ?_, ⟨?_, ?_, hl2⟩, ?_⟩
                        · show ns.length - 8 - (i + 1) < ns.length - 8 - i; omega
                        · show i + 1 ≤ ns.length - 8; omega
                        · show (l ++ [_]).length = i + 1; simp; omega
                        · ((refine weak_to [0, 4, 23, 24, 25, 14, 78, 79, 80] [0, 1, 2, 5] ?_ (by simp) (fun i h => by cases h); simp (maxSteps := 1000000) -implicitDefEqProofs only [go_sem, ↓reduceIte, reduceCtorEq, Nat.reduceEqDiff, Nat.reduceLT, Nat.reduceAdd, Nat.reduceLeDiff, Nat.reduceMul, Nat.reduceSub, Nat.reduceDiv, Nat.reduceMod, Int.reduceToNat, Int.reduceLT, Int.reduceLE, Int.reduceEq, Int.reduceAdd, Int.reduceSub, Int.reduceMul, Int.reduceNeg, Int.reduceTMod, Int.reduceTDiv, Int.reduceMod, Int.reduceDiv, Int.reduceBEq, Int.reduceBNe, Nat.reduceBEq, St.keep, p3S, sA, iA, hwi, hO, hB, nilA, hX, tpA_snoc, tpB_snoc, tpA_one, tpB_one, hL3]; done))))
                    · have hlt : ((i : Int) < ((ns.length - 8 : Nat) : Int)) = False := eq_false (by omega)
                      have hdr : ns.drop 8 = l := by rw [h13, List.take_of_length_le (by simp; omega)]
                      have hK := mkK_A ns l hdr
                      have hnx : bd.filterMap (machB pintB) = (b ++ [mkK ns]) ++ (bd.drop (k + 1)).filterMap (machB pintB) := by rw [h3]; simp
                      have htl : (l.map iA).take l.length = l.map iA := List.take_of_length_le (by simp)
                      have hL : (tpA 3 l = nilA ∧ tpB l = none ∧ l = []) ∨ (tpA 3 l = .sl 3 1 0 l.length ∧ tpB l = some (.row 3 1 (l.map iA)) ∧ l ≠ []) := by
                        by_cases hn : l = []
                        · exact .inl ⟨if_pos hn, if_pos hn, hn⟩
                        · exact .inr ⟨if_neg hn, if_neg hn, hn⟩
                      rcases hL with ⟨hL1, hL2, hL3⟩ | ⟨hL1, hL2, hL3⟩
                      · rw [if_pos hL3] at hK
                        simp only [iA, nilA] at hK
                        simp (maxSteps := 1000000) -implicitDefEqProofs only [go_sem, ↓reduceIte, reduceCtorEq, Nat.reduceEqDiff, Nat.reduceLT, Nat.reduceAdd, Nat.reduceLeDiff, Nat.reduceMul, Nat.reduceSub, Nat.reduceDiv, Nat.reduceMod, Int.reduceToNat, Int.reduceLT, Int.reduceLE, Int.reduceEq, Int.reduceAdd, Int.reduceSub, Int.reduceMul, Int.reduceNeg, Int.reduceTMod, Int.reduceTDiv, Int.reduceMod, Int.reduceDiv, Int.reduceBEq, Int.reduceBNe, Nat.reduceBEq, p3S, hO, hB, hX, hL1, hL2, nilA, sA, iA, hlt, List.length_map, hnb]
                        (repeat' (first | exact trivial | contradiction | refine And.intro ?_ ?_ | (show (_ : Nat) ≤ _; omega) | (show (_ : Nat) < _; omega) | (show (_ : Int) ≤ _; omega) | (show (_ : Int) < _; omega)  | (refine wait_draw 1000 mixed (by decide +kernel) ?_; simp (maxSteps := 1000000) -implicitDefEqProofs only [go_sem, ↓reduceIte, reduceCtorEq, Nat.reduceEqDiff, Nat.reduceLT, Nat.reduceAdd, Nat.reduceLeDiff, Nat.reduceMul, Nat.reduceSub, Nat.reduceDiv, Nat.reduceMod, Int.reduceToNat, Int.reduceLT, Int.reduceLE, Int.reduceEq, Int.reduceAdd, Int.reduceSub, Int.reduceMul, Int.reduceNeg, Int.reduceTMod, Int.reduceTDiv, Int.reduceMod, Int.reduceDiv, Int.reduceBEq, Int.reduceBNe, Nat.reduceBEq , hnb]) | intro _))
                        all_goals first | (exact ⟨_, rfl⟩) | omega | skip
                        refine ⟨(k + 1, b ++ [mkK ns]), ?_, ⟨?_, ?_, hnx⟩, ?_⟩
                        · show bd.length - (k + 1) < bd.length - k; omega
                        · show k + 1 ≤ bd.length; omega
                        · show (b ++ [_]).length ≤ k + 1; simp; omega
                        · ((refine weak_to [0, 4, 23, 24, 25] [5] ?_ (by simp) (fun i h => by cases h); simp (maxSteps := 1000000) -implicitDefEqProofs only [go_sem, ↓reduceIte, reduceCtorEq, Nat.reduceEqDiff, Nat.reduceLT, Nat.reduceAdd, Nat.reduceLeDiff, Nat.reduceMul, Nat.reduceSub, Nat.reduceDiv, Nat.reduceMod, Int.reduceToNat, Int.reduceLT, Int.reduceLE, Int.reduceEq, Int.reduceAdd, Int.reduceSub, Int.reduceMul, Int.reduceNeg, Int.reduceTMod, Int.reduceTDiv, Int.reduceMod, Int.reduceDiv, Int.reduceBEq, Int.reduceBNe, Nat.reduceBEq, St.keep, p1S, sA, hwk, outA_snoc, outB_snoc, outA_one, outB_one, hK, hE]; done))
                      · rw [if_neg hL3] at hK
                        simp only [iA] at hK
                        simp (maxSteps := 1000000) -implicitDefEqProofs only [go_sem, ↓reduceIte, reduceCtorEq, Nat.reduceEqDiff, Nat.reduceLT, Nat.reduceAdd, Nat.reduceLeDiff, Nat.reduceMul, Nat.reduceSub, Nat.reduceDiv, Nat.reduceMod, Int.reduceToNat, Int.reduceLT, Int.reduceLE, Int.reduceEq, Int.reduceAdd, Int.reduceSub, Int.reduceMul, Int.reduceNeg, Int.reduceTMod, Int.reduceTDiv, Int.reduceMod, Int.reduceDiv, Int.reduceBEq, Int.reduceBNe, Nat.reduceBEq, p3S, hO, hB, hX, hL1, hL2, nilA, sA, iA, hlt, List.length_map, hnb]
                        (repeat' (first | exact trivial | contradiction | refine And.intro ?_ ?_ | (show (_ : Nat) ≤ _; omega) | (show (_ : Nat) < _; omega) | (show (_ : Int) ≤ _; omega) | (show (_ : Int) < _; omega)  | (refine wait_draw 1000 mixed (by decide +kernel) ?_; simp (maxSteps := 1000000) -implicitDefEqProofs only [go_sem, ↓reduceIte, reduceCtorEq, Nat.reduceEqDiff, Nat.reduceLT, Nat.reduceAdd, Nat.reduceLeDiff, Nat.reduceMul, Nat.reduceSub, Nat.reduceDiv, Nat.reduceMod, Int.reduceToNat, Int.reduceLT, Int.reduceLE, Int.reduceEq, Int.reduceAdd, Int.reduceSub, Int.reduceMul, Int.reduceNeg, Int.reduceTMod, Int.reduceTDiv, Int.reduceMod, Int.reduceDiv, Int.reduceBEq, Int.reduceBNe, Nat.reduceBEq , hnb]) | intro _))
                        all_goals first | (exact ⟨_, rfl⟩) | omega | skip
                        refine ⟨(k + 1, b ++ [mkK ns]), ?_, ⟨?_, ?_, hnx⟩, ?_⟩
                        · show bd.length - (k + 1) < bd.length - k; omega
                        · show k + 1 ≤ bd.length; omega
                        · show (b ++ [_]).length ≤ k + 1; simp; omega
                        · refine Weak.trans (weak_to [0, 4, 23, 24, 25] [5, 3] (st' := ⟨101, 0, [(0, .v (.string (bs text))), (4, .sl 0 9 0 (b.length + 1)), (23, .fsl 1 (bd.map sA)), (24, .v (.int .i64 bd.length)), (25, .v (.int .i64 (k + 1 : Nat)))],
                            [some (.row 58 9 (b.map kinA ++ [.agg [.v (.int .i64 (ns.getD 0 0)), .v (.int .i64 (ns.getD 1 0)), .v (.int .i64 (ns.getD 2 0)), .v (.int .i64 (ns.getD 3 0)), .v (.int .i64 (ns.getD 4 0)), .sl 1 1 0 l.length, .v (.int .i64 (ns.getD 5 0)), .v (.int .i64 (ns.getD 6 0)), .v (.int .i64 (ns.getD 7 0))]])),
                              some (.row 3 1 (l.map iA))]⟩) ?_ (by simp) (fun i h => by cases h)) ?_
                          · simp (maxSteps := 1000000) -implicitDefEqProofs only [go_sem, ↓reduceIte, reduceCtorEq, Nat.reduceEqDiff, Nat.reduceLT, Nat.reduceAdd, Nat.reduceLeDiff, Nat.reduceMul, Nat.reduceSub, Nat.reduceDiv, Nat.reduceMod, Int.reduceToNat, Int.reduceLT, Int.reduceLE, Int.reduceEq, Int.reduceAdd, Int.reduceSub, Int.reduceMul, Int.reduceNeg, Int.reduceTMod, Int.reduceTDiv, Int.reduceMod, Int.reduceDiv, Int.reduceBEq, Int.reduceBNe, Nat.reduceBEq, St.keep, hwk, hE]
                          · refine Weak.trans (weak_frz 1 (e := 3) (sz0 := 1) (es := l.map iA) rfl rfl (fun f => renL_iA f l) rfl) ?_
                            ((refine weak_to [0, 4, 23, 24, 25] [0] ?_ (by simp) (fun i h => by cases h); simp (maxSteps := 1000000) -implicitDefEqProofs only [go_sem, ↓reduceIte, reduceCtorEq, Nat.reduceEqDiff, Nat.reduceLT, Nat.reduceAdd, Nat.reduceLeDiff, Nat.reduceMul, Nat.reduceSub, Nat.reduceDiv, Nat.reduceMod, Int.reduceToNat, Int.reduceLT, Int.reduceLE, Int.reduceEq, Int.reduceAdd, Int.reduceSub, Int.reduceMul, Int.reduceNeg, Int.reduceTMod, Int.reduceTDiv, Int.reduceMod, Int.reduceDiv, Int.reduceBEq, Int.reduceBNe, Nat.reduceBEq, St.keep, p1S, sA, outA_snoc, outB_snoc, outA_one, outB_one, hK, hE, frzL_kinA, frzL_sA, hlm, htl]; done))))
      · have hlt : ((k : Int) < (bd.length : Int)) = False := eq_false (by omega)
        rw [show bd.drop k = [] from List.drop_eq_nil_of_le (by omega), List.filterMap_nil, List.append_nil] at h3
        rw [h3] at hA hcnt
        have hbl2 := cnt_len b
        have hpl := print_le b hcnt.2 (by omega)
        have hpr := print_pc b hcnt.2 (by omega) (by omega)
        have hnb : (b.map kinA).length = b.length := by simp
        have htk : (b.map kinA).take b.length = b.map kinA := List.take_of_length_le (by simp)
        simp only [sA, bookA] at hpr
        by_cases hE : b = []
        · have hO : outA b = nilA := if_pos hE
          have hB : outB b = none := if_pos hE
          have hpn := hpr
          rw [hE, List.map_nil] at hpn
          have hpn := pcon_nil hpn
          rw [← hE] at hpn
          simp (maxSteps := 1000000) -implicitDefEqProofs only [go_sem, ↓reduceIte, reduceCtorEq, Nat.reduceEqDiff, Nat.reduceLT, Nat.reduceAdd, Nat.reduceLeDiff, Nat.reduceMul, Nat.reduceSub, Nat.reduceDiv, Nat.reduceMod, Int.reduceToNat, Int.reduceLT, Int.reduceLE, Int.reduceEq, Int.reduceAdd, Int.reduceSub, Int.reduceMul, Int.reduceNeg, Int.reduceTMod, Int.reduceTDiv, Int.reduceMod, Int.reduceDiv, Int.reduceBEq, Int.reduceBNe, Nat.reduceBEq, p1S, hO, hB, nilA, sA, iA, hlt]
          (repeat' (first | exact trivial | contradiction | refine And.intro ?_ ?_ | (show (_ : Nat) ≤ _; omega) | (show (_ : Nat) < _; omega) | (show (_ : Int) ≤ _; omega) | (show (_ : Int) < _; omega)  | (refine wait_draw 1000 mixed (by decide +kernel) ?_; simp (maxSteps := 1000000) -implicitDefEqProofs only [go_sem, ↓reduceIte, reduceCtorEq, Nat.reduceEqDiff, Nat.reduceLT, Nat.reduceAdd, Nat.reduceLeDiff, Nat.reduceMul, Nat.reduceSub, Nat.reduceDiv, Nat.reduceMod, Int.reduceToNat, Int.reduceLT, Int.reduceLE, Int.reduceEq, Int.reduceAdd, Int.reduceSub, Int.reduceMul, Int.reduceNeg, Int.reduceTMod, Int.reduceTDiv, Int.reduceMod, Int.reduceDiv, Int.reduceBEq, Int.reduceBNe, Nat.reduceBEq, sA]) | (refine call_eq 1000 (hpn) ?_ ?_ rfl; (focus (simp (maxSteps := 1000000) -implicitDefEqProofs only [go_sem, ↓reduceIte, reduceCtorEq, Nat.reduceEqDiff, Nat.reduceLT, Nat.reduceAdd, Nat.reduceLeDiff, Nat.reduceMul, Nat.reduceSub, Nat.reduceDiv, Nat.reduceMod, Int.reduceToNat, Int.reduceLT, Int.reduceLE, Int.reduceEq, Int.reduceAdd, Int.reduceSub, Int.reduceMul, Int.reduceNeg, Int.reduceTMod, Int.reduceTDiv, Int.reduceMod, Int.reduceDiv, Int.reduceBEq, Int.reduceBNe, Nat.reduceBEq, sA]; done)); simp (maxSteps := 1000000) -implicitDefEqProofs only [go_sem, ↓reduceIte, reduceCtorEq, Nat.reduceEqDiff, Nat.reduceLT, Nat.reduceAdd, Nat.reduceLeDiff, Nat.reduceMul, Nat.reduceSub, Nat.reduceDiv, Nat.reduceMod, Int.reduceToNat, Int.reduceLT, Int.reduceLE, Int.reduceEq, Int.reduceAdd, Int.reduceSub, Int.reduceMul, Int.reduceNeg, Int.reduceTMod, Int.reduceTDiv, Int.reduceMod, Int.reduceDiv, Int.reduceBEq, Int.reduceBNe, Nat.reduceBEq, sA]) | (refine call_draw 1000 (hpn) ?_ ?_; (focus (simp (maxSteps := 1000000) -implicitDefEqProofs only [go_sem, ↓reduceIte, reduceCtorEq, Nat.reduceEqDiff, Nat.reduceLT, Nat.reduceAdd, Nat.reduceLeDiff, Nat.reduceMul, Nat.reduceSub, Nat.reduceDiv, Nat.reduceMod, Int.reduceToNat, Int.reduceLT, Int.reduceLE, Int.reduceEq, Int.reduceAdd, Int.reduceSub, Int.reduceMul, Int.reduceNeg, Int.reduceTMod, Int.reduceTDiv, Int.reduceMod, Int.reduceDiv, Int.reduceBEq, Int.reduceBNe, Nat.reduceBEq, sA]; done)); simp (maxSteps := 1000000) -implicitDefEqProofs only [go_sem, ↓reduceIte, reduceCtorEq, Nat.reduceEqDiff, Nat.reduceLT, Nat.reduceAdd, Nat.reduceLeDiff, Nat.reduceMul, Nat.reduceSub, Nat.reduceDiv, Nat.reduceMod, Int.reduceToNat, Int.reduceLT, Int.reduceLE, Int.reduceEq, Int.reduceAdd, Int.reduceSub, Int.reduceMul, Int.reduceNeg, Int.reduceTMod, Int.reduceTDiv, Int.reduceMod, Int.reduceDiv, Int.reduceBEq, Int.reduceBNe, Nat.reduceBEq, sA]) | intro _))
          · rename_i hne
            rw [hA, if_neg hne]
            rfl
          · rename_i he
            rw [hA, if_pos he]
            unfold ansP
            simp only
            rw [if_pos hE]
            rfl
        · have hO : outA b = .sl 0 9 0 b.length := if_neg hE
          have hB : outB b = some (.row 58 9 (b.map kinA)) := if_neg hE
          simp (maxSteps := 1000000) -implicitDefEqProofs only [go_sem, ↓reduceIte, reduceCtorEq, Nat.reduceEqDiff, Nat.reduceLT, Nat.reduceAdd, Nat.reduceLeDiff, Nat.reduceMul, Nat.reduceSub, Nat.reduceDiv, Nat.reduceMod, Int.reduceToNat, Int.reduceLT, Int.reduceLE, Int.reduceEq, Int.reduceAdd, Int.reduceSub, Int.reduceMul, Int.reduceNeg, Int.reduceTMod, Int.reduceTDiv, Int.reduceMod, Int.reduceDiv, Int.reduceBEq, Int.reduceBNe, Nat.reduceBEq, p1S, hO, hB, nilA, sA, iA, hlt]
          (repeat' (first | exact trivial | contradiction | refine And.intro ?_ ?_ | (show (_ : Nat) ≤ _; omega) | (show (_ : Nat) < _; omega) | (show (_ : Int) ≤ _; omega) | (show (_ : Int) < _; omega)  | (refine wait_draw 1000 mixed (by decide +kernel) ?_; simp (maxSteps := 1000000) -implicitDefEqProofs only [go_sem, ↓reduceIte, reduceCtorEq, Nat.reduceEqDiff, Nat.reduceLT, Nat.reduceAdd, Nat.reduceLeDiff, Nat.reduceMul, Nat.reduceSub, Nat.reduceDiv, Nat.reduceMod, Int.reduceToNat, Int.reduceLT, Int.reduceLE, Int.reduceEq, Int.reduceAdd, Int.reduceSub, Int.reduceMul, Int.reduceNeg, Int.reduceTMod, Int.reduceTDiv, Int.reduceMod, Int.reduceDiv, Int.reduceBEq, Int.reduceBNe, Nat.reduceBEq, sA, hnb, htk]) | (refine call_eq_read 1000 (hpr) ?_ ?_ ?_ rfl; (focus (simp (maxSteps := 1000000) -implicitDefEqProofs only [go_sem, ↓reduceIte, reduceCtorEq, Nat.reduceEqDiff, Nat.reduceLT, Nat.reduceAdd, Nat.reduceLeDiff, Nat.reduceMul, Nat.reduceSub, Nat.reduceDiv, Nat.reduceMod, Int.reduceToNat, Int.reduceLT, Int.reduceLE, Int.reduceEq, Int.reduceAdd, Int.reduceSub, Int.reduceMul, Int.reduceNeg, Int.reduceTMod, Int.reduceTDiv, Int.reduceMod, Int.reduceDiv, Int.reduceBEq, Int.reduceBNe, Nat.reduceBEq, sA, hnb, htk]; done)); (focus (simp (maxSteps := 1000000) -implicitDefEqProofs only [go_sem, ↓reduceIte, reduceCtorEq, Nat.reduceEqDiff, Nat.reduceLT, Nat.reduceAdd, Nat.reduceLeDiff, Nat.reduceMul, Nat.reduceSub, Nat.reduceDiv, Nat.reduceMod, Int.reduceToNat, Int.reduceLT, Int.reduceLE, Int.reduceEq, Int.reduceAdd, Int.reduceSub, Int.reduceMul, Int.reduceNeg, Int.reduceTMod, Int.reduceTDiv, Int.reduceMod, Int.reduceDiv, Int.reduceBEq, Int.reduceBNe, Nat.reduceBEq, sA, hnb, htk]; done)); simp (maxSteps := 1000000) -implicitDefEqProofs only [go_sem, ↓reduceIte, reduceCtorEq, Nat.reduceEqDiff, Nat.reduceLT, Nat.reduceAdd, Nat.reduceLeDiff, Nat.reduceMul, Nat.reduceSub, Nat.reduceDiv, Nat.reduceMod, Int.reduceToNat, Int.reduceLT, Int.reduceLE, Int.reduceEq, Int.reduceAdd, Int.reduceSub, Int.reduceMul, Int.reduceNeg, Int.reduceTMod, Int.reduceTDiv, Int.reduceMod, Int.reduceDiv, Int.reduceBEq, Int.reduceBNe, Nat.reduceBEq, sA, hnb, htk]) | (refine call_draw_read 1000 (hpr) ?_ ?_ ?_; (focus (simp (maxSteps := 1000000) -implicitDefEqProofs only [go_sem, ↓reduceIte, reduceCtorEq, Nat.reduceEqDiff, Nat.reduceLT, Nat.reduceAdd, Nat.reduceLeDiff, Nat.reduceMul, Nat.reduceSub, Nat.reduceDiv, Nat.reduceMod, Int.reduceToNat, Int.reduceLT, Int.reduceLE, Int.reduceEq, Int.reduceAdd, Int.reduceSub, Int.reduceMul, Int.reduceNeg, Int.reduceTMod, Int.reduceTDiv, Int.reduceMod, Int.reduceDiv, Int.reduceBEq, Int.reduceBNe, Nat.reduceBEq, sA, hnb, htk]; done)); (focus (intro ext; simp (maxSteps := 1000000) -implicitDefEqProofs only [go_sem, ↓reduceIte, reduceCtorEq, Nat.reduceEqDiff, Nat.reduceLT, Nat.reduceAdd, Nat.reduceLeDiff, Nat.reduceMul, Nat.reduceSub, Nat.reduceDiv, Nat.reduceMod, Int.reduceToNat, Int.reduceLT, Int.reduceLE, Int.reduceEq, Int.reduceAdd, Int.reduceSub, Int.reduceMul, Int.reduceNeg, Int.reduceTMod, Int.reduceTDiv, Int.reduceMod, Int.reduceDiv, Int.reduceBEq, Int.reduceBNe, Nat.reduceBEq, sA, hnb, htk]; done)); simp (maxSteps := 1000000) -implicitDefEqProofs only [go_sem, ↓reduceIte, reduceCtorEq, Nat.reduceEqDiff, Nat.reduceLT, Nat.reduceAdd, Nat.reduceLeDiff, Nat.reduceMul, Nat.reduceSub, Nat.reduceDiv, Nat.reduceMod, Int.reduceToNat, Int.reduceLT, Int.reduceLE, Int.reduceEq, Int.reduceAdd, Int.reduceSub, Int.reduceMul, Int.reduceNeg, Int.reduceTMod, Int.reduceTDiv, Int.reduceMod, Int.reduceDiv, Int.reduceBEq, Int.reduceBNe, Nat.reduceBEq, sA, hnb, htk]) | intro _))
          · rename_i hne
            rw [hA, if_neg hne]
            rfl
          · rename_i he
            rw [hA, if_pos he]
            unfold ansP
            simp only
            rw [if_neg hE]
            rfl
end Go.Proofs.YtiipggfhjkalfaaDoor
