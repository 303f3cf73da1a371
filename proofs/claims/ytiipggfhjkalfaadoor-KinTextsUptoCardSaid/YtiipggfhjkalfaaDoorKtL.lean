/- Books as texts: how the document reads a book. -/
import Derived.Test.YtiipggfhjkalfaaDoorProg
import Derived.Test.YtiipggfhjkalfaaDoorPmU
import Derived.Test.YtiipggfhjkalfaaDoorKtK
set_option linter.unusedSimpArgs false
set_option linter.unusedVariables false
set_option maxRecDepth 20000
open Go Go.Proofs
namespace Go.Proofs.YtiipggfhjkalfaaDoor
open Pm
attribute [local irreducible] Wait CallT CallW Le Weak
open Kt
def ansA : Ans → AV
  | .long => .tup [nilA, iA 17]
  | .bad => .tup [nilA, iA 90]
  | .book b => .tup [bookA b, iA 0]
theorem bs_inj {a b : List UInt8} (h : bs a = bs b) : a = b := by rw [← bs_data a, h, bs_data]
theorem fz_iA (h : List (Option Blk)) (n : Int) : fz h (iA n) = iA n := fz_v h _
theorem fz_tapeA (h : List (Option Blk)) (o : Option (List Int)) : fz h (tapeA o) = tapeA o := by
  cases o with
  | none => exact fz_v h _
  | some l => simp only [tapeA, fz_fsl, fzL_iA]
theorem fz_kinA (h : List (Option Blk)) (k : Kin) : fz h (kinA k) = kinA k := by
  simp only [kinA, kinL, fz_agg, fzL_cons, fzL_nil, fz_iA, fz_tapeA]
theorem fzL_kinA (h : List (Option Blk)) (b : List Kin) : fzL h (b.map kinA) = b.map kinA := by
  rw [fzL_eq, List.map_map]
  exact List.map_congr_left fun p _ => fz_kinA h p
attribute [go_sem] fzL_kinA
theorem sum_drop (n : Nat) : ∀ l : List (List UInt8), ((l.drop n).map fun x => x.length + 1).sum ≤ (l.map fun x => x.length + 1).sum := by
  induction n with
  | zero => intro l; simp
  | succ n ih =>
    intro l
    cases l with
    | nil => simp
    | cons x l => have := ih l; simp at this ⊢; omega
theorem sum_dropLast : ∀ l : List (List UInt8), ((l.dropLast).map fun x => x.length + 1).sum ≤ (l.map fun x => x.length + 1).sum
  | [] => by simp
  | [x] => by simp
  | x :: y :: l => by have := sum_dropLast (y :: l); simp at this ⊢; omega
theorem ref_cnt {text : List UInt8} {b : List Kin} (h : refB text = some b) : cntB b ≤ text.length + 1 := by
  have h1 := readL_cnt h
  have h2 := sum_dropLast ((spl 10 [] text).drop 1)
  have h3 := sum_drop 1 (spl 10 [] text)
  have h4 := spl_sum 10 text []
  simp only [List.length_nil] at h4
  omega
structure Rr where
  i : Nat
  b : List Kin
def rrS (text : List UInt8) (ls : List (List UInt8)) (r : Rr) : St := ⟨41, 0, [(0, sA text), (4, .fsl 1 (ls.map sA)), (5, .sl 0 9 0 r.b.length), (6, .v (.int .i64 r.i))], [some (.row 58 9 (r.b.map kinA))]⟩
theorem rparse_pc (text : List UInt8) (ht : text.length < 9223372036854775807) : PCon Tryd.prog 16 [sA text] (· = ansA (refA text)) := by
  refine pcon_run 1000 Tryd.func16 rfl Tryd.results16 Tryd.ntmps16 (Nat.le_of_ble_eq_true rfl) ?_
  by_cases hl : 1048576 < text.length
  · have f1 : (1048576 < (text.length : Int)) = True := eq_true (by omega)
    have hA : refA text = .long := if_pos hl
    simp (maxSteps := 1000000) -implicitDefEqProofs only [go_sem, ↓reduceIte, reduceCtorEq, Nat.reduceEqDiff, Nat.reduceLT, Nat.reduceAdd, Nat.reduceLeDiff, Nat.reduceMul, Nat.reduceSub, Nat.reduceDiv, Nat.reduceMod, Int.reduceToNat, Int.reduceLT, Int.reduceLE, Int.reduceEq, Int.reduceAdd, Int.reduceSub, Int.reduceMul, Int.reduceNeg, Int.reduceTMod, Int.reduceTDiv, Int.reduceMod, Int.reduceDiv, Int.reduceBEq, Int.reduceBNe, Nat.reduceBEq, sA, iA, f1, hA]
    simp only [ansA, nilA, iA]
  · have f1 : (1048576 < (text.length : Int)) = False := eq_false (by omega)
    have hp := pieces_pc 10 text (by omega)
    obtain ⟨ls, hls⟩ : ∃ ls, spl 10 [] text = ls := ⟨_, rfl⟩
    have hll : ls.length ≤ 1048577 := by
      have := spl_len 10 text []
      have h2 := List.count_le_length (a := (10 : UInt8)) (l := text)
      rw [hls] at this
      omega
    have hl1 : 1 ≤ ls.length := by
      have := spl_len 10 text []
      rw [hls] at this
      omega
    have hwm : ∀ w ∈ ls, w.length ≤ 1048576 := fun w hw => by
      have := spl_mem_le 10 text [] w (by rw [hls]; exact hw)
      simp at this
      omega
    have hA : refA text = match readL (machB numR) (ls.drop 1).dropLast with
      | none => .bad
      | some b => if printB b = text then .book b else .bad := by
      unfold refA
      rw [if_neg hl]
      unfold refB
      rw [hls]
      generalize readL (machB numR) (ls.drop 1).dropLast = o
      cases o <;> rfl
    have hcnt : ∀ b, readL (machB numR) (ls.drop 1).dropLast = some b → cntB b ≤ 1048577 ∧ ∀ k ∈ b, k.ok := fun b hb => by
      have h1 : refB text = some b := by unfold refB; rw [hls]; exact hb
      have := ref_cnt h1
      exact ⟨by omega, fun k hk => (readL_ok hb k hk).1⟩
    obtain ⟨bd, hbd⟩ : ∃ bd, (ls.drop 1).dropLast = bd := ⟨_, rfl⟩
    have hbl : bd.length = ls.length - 2 := by rw [← hbd]; simp; omega
    rw [hls] at hp
    rw [hbd] at hA hcnt
    simp only [sA] at hp
    have ew1 : IntKind.i64.wrap ((ls.length : Int) - 1) = ((ls.length - 1 : Nat) : Int) := by rw [wrap64 (by omega) (by omega)]; omega
    simp (maxSteps := 1000000) -implicitDefEqProofs only [go_sem, ↓reduceIte, reduceCtorEq, Nat.reduceEqDiff, Nat.reduceLT, Nat.reduceAdd, Nat.reduceLeDiff, Nat.reduceMul, Nat.reduceSub, Nat.reduceDiv, Nat.reduceMod, Int.reduceToNat, Int.reduceLT, Int.reduceLE, Int.reduceEq, Int.reduceAdd, Int.reduceSub, Int.reduceMul, Int.reduceNeg, Int.reduceTMod, Int.reduceTDiv, Int.reduceMod, Int.reduceDiv, Int.reduceBEq, Int.reduceBNe, Nat.reduceBEq, sA, iA, f1]
    (repeat' (first | exact trivial | contradiction | refine And.intro ?_ ?_ | (show (_ : Nat) ≤ _; omega) | (show (_ : Nat) < _; omega) | (show (_ : Int) ≤ _; omega) | (show (_ : Int) < _; omega)  | (refine wait_draw 1000 mixed (by decide +kernel) ?_; simp (maxSteps := 1000000) -implicitDefEqProofs only [go_sem, ↓reduceIte, reduceCtorEq, Nat.reduceEqDiff, Nat.reduceLT, Nat.reduceAdd, Nat.reduceLeDiff, Nat.reduceMul, Nat.reduceSub, Nat.reduceDiv, Nat.reduceMod, Int.reduceToNat, Int.reduceLT, Int.reduceLE, Int.reduceEq, Int.reduceAdd, Int.reduceSub, Int.reduceMul, Int.reduceNeg, Int.reduceTMod, Int.reduceTDiv, Int.reduceMod, Int.reduceDiv, Int.reduceBEq, Int.reduceBNe, Nat.reduceBEq, sA, iA, List.length_map]) | (refine call_eq 1000 ((show PCon Tryd.prog 33 [.v (.string (bs text)), .v (.int .u8 10)] _ from hp)) ?_ ?_ rfl; (focus (simp (maxSteps := 1000000) -implicitDefEqProofs only [go_sem, ↓reduceIte, reduceCtorEq, Nat.reduceEqDiff, Nat.reduceLT, Nat.reduceAdd, Nat.reduceLeDiff, Nat.reduceMul, Nat.reduceSub, Nat.reduceDiv, Nat.reduceMod, Int.reduceToNat, Int.reduceLT, Int.reduceLE, Int.reduceEq, Int.reduceAdd, Int.reduceSub, Int.reduceMul, Int.reduceNeg, Int.reduceTMod, Int.reduceTDiv, Int.reduceMod, Int.reduceDiv, Int.reduceBEq, Int.reduceBNe, Nat.reduceBEq, sA, iA, List.length_map]; done)); simp (maxSteps := 1000000) -implicitDefEqProofs only [go_sem, ↓reduceIte, reduceCtorEq, Nat.reduceEqDiff, Nat.reduceLT, Nat.reduceAdd, Nat.reduceLeDiff, Nat.reduceMul, Nat.reduceSub, Nat.reduceDiv, Nat.reduceMod, Int.reduceToNat, Int.reduceLT, Int.reduceLE, Int.reduceEq, Int.reduceAdd, Int.reduceSub, Int.reduceMul, Int.reduceNeg, Int.reduceTMod, Int.reduceTDiv, Int.reduceMod, Int.reduceDiv, Int.reduceBEq, Int.reduceBNe, Nat.reduceBEq, sA, iA, List.length_map]) | (refine call_draw 1000 ((show PCon Tryd.prog 33 [.v (.string (bs text)), .v (.int .u8 10)] _ from hp)) ?_ ?_; (focus (simp (maxSteps := 1000000) -implicitDefEqProofs only [go_sem, ↓reduceIte, reduceCtorEq, Nat.reduceEqDiff, Nat.reduceLT, Nat.reduceAdd, Nat.reduceLeDiff, Nat.reduceMul, Nat.reduceSub, Nat.reduceDiv, Nat.reduceMod, Int.reduceToNat, Int.reduceLT, Int.reduceLE, Int.reduceEq, Int.reduceAdd, Int.reduceSub, Int.reduceMul, Int.reduceNeg, Int.reduceTMod, Int.reduceTDiv, Int.reduceMod, Int.reduceDiv, Int.reduceBEq, Int.reduceBNe, Nat.reduceBEq, sA, iA, List.length_map]; done)); simp (maxSteps := 1000000) -implicitDefEqProofs only [go_sem, ↓reduceIte, reduceCtorEq, Nat.reduceEqDiff, Nat.reduceLT, Nat.reduceAdd, Nat.reduceLeDiff, Nat.reduceMul, Nat.reduceSub, Nat.reduceDiv, Nat.reduceMod, Int.reduceToNat, Int.reduceLT, Int.reduceLE, Int.reduceEq, Int.reduceAdd, Int.reduceSub, Int.reduceMul, Int.reduceNeg, Int.reduceTMod, Int.reduceTDiv, Int.reduceMod, Int.reduceDiv, Int.reduceBEq, Int.reduceBNe, Nat.reduceBEq, sA, iA, List.length_map]) | intro _))
    refine wait_data (rrS text ls) (fun r => 1 ≤ r.i ∧ r.i ≤ ls.length ∧ r.b.length ≤ r.i ∧ readL (machB numR) bd = (readL (machB numR) (bd.drop (r.i - 1))).map (r.b ++ ·)) (fun r => ls.length - r.i) ⟨1, []⟩ (weak_to [0, 4, 5, 6] [0] ?_ (by simp) (fun i h => by cases h)) ⟨by simp, hl1, by simp, by simp⟩ ?_
    · simp (maxSteps := 1000000) -implicitDefEqProofs only [go_sem, ↓reduceIte, reduceCtorEq, Nat.reduceEqDiff, Nat.reduceLT, Nat.reduceAdd, Nat.reduceLeDiff, Nat.reduceMul, Nat.reduceSub, Nat.reduceDiv, Nat.reduceMod, Int.reduceToNat, Int.reduceLT, Int.reduceLE, Int.reduceEq, Int.reduceAdd, Int.reduceSub, Int.reduceMul, Int.reduceNeg, Int.reduceTMod, Int.reduceTDiv, Int.reduceMod, Int.reduceDiv, Int.reduceBEq, Int.reduceBNe, Nat.reduceBEq, St.keep, rrS, sA, iA, List.map_nil, List.length_nil, Int.natCast_one]
    · rintro ⟨i, b⟩ ⟨h1, h2, h3, h4⟩
      simp only at h1 h2 h3 h4
      have hnl : (b.map kinA).length = b.length := by simp
      refine run_sound 1000 _ _ ?_
      by_cases hi : i < ls.length - 1
      · have hlt : ((i : Int) < ((ls.length - 1 : Nat) : Int)) = True := eq_true (by omega)
        have hwi : IntKind.i64.wrap ((i : Int) + 1) = ((i + 1 : Nat) : Int) := by rw [wrap64 (by omega) (by omega)]; omega
        have g1 := get_sA ls i (by omega)
        have hmem := getD_mem ls i [] (by omega)
        rw [drop_at [] bd (i - 1) (by omega)] at h4
        have hbi : bd.getD (i - 1) [] = ls.getD i [] := by
          rw [← hbd]
          simp [List.getD_eq_getElem?_getD, List.getElem?_dropLast]
          rw [if_pos (by omega), show i - 1 + 1 = i by omega]
        rw [hbi] at h4
        obtain ⟨w, hw⟩ : ∃ w, ls.getD i [] = w := ⟨_, rfl⟩
        rw [hw] at g1 h4 hmem
        have hm := machine_pc w (hwm w hmem)
        simp only [sA] at hm
        simp (maxSteps := 1000000) -implicitDefEqProofs only [go_sem, ↓reduceIte, reduceCtorEq, Nat.reduceEqDiff, Nat.reduceLT, Nat.reduceAdd, Nat.reduceLeDiff, Nat.reduceMul, Nat.reduceSub, Nat.reduceDiv, Nat.reduceMod, Int.reduceToNat, Int.reduceLT, Int.reduceLE, Int.reduceEq, Int.reduceAdd, Int.reduceSub, Int.reduceMul, Int.reduceNeg, Int.reduceTMod, Int.reduceTDiv, Int.reduceMod, Int.reduceDiv, Int.reduceBEq, Int.reduceBNe, Nat.reduceBEq, rrS, sA, iA, ew1, hlt, g1, List.length_map]
        cases hr : machB numR w with
        | none =>
          rw [hr] at hm
          simp only [machA, kinA, kinL, zeroK, tapeA, nilA, iA] at hm
          have hno : readL (machB numR) bd = none := by rw [h4, readL, hr]; rfl
          rw [hno] at hA
          (repeat' (first | exact trivial | contradiction | refine And.intro ?_ ?_ | (show (_ : Nat) ≤ _; omega) | (show (_ : Nat) < _; omega) | (show (_ : Int) ≤ _; omega) | (show (_ : Int) < _; omega)  | (refine wait_draw 1000 mixed (by decide +kernel) ?_; simp (maxSteps := 1000000) -implicitDefEqProofs only [go_sem, ↓reduceIte, reduceCtorEq, Nat.reduceEqDiff, Nat.reduceLT, Nat.reduceAdd, Nat.reduceLeDiff, Nat.reduceMul, Nat.reduceSub, Nat.reduceDiv, Nat.reduceMod, Int.reduceToNat, Int.reduceLT, Int.reduceLE, Int.reduceEq, Int.reduceAdd, Int.reduceSub, Int.reduceMul, Int.reduceNeg, Int.reduceTMod, Int.reduceTDiv, Int.reduceMod, Int.reduceDiv, Int.reduceBEq, Int.reduceBNe, Nat.reduceBEq, sA, hnl]) | (refine call_eq 1000 (hm) ?_ ?_ rfl; (focus (simp (maxSteps := 1000000) -implicitDefEqProofs only [go_sem, ↓reduceIte, reduceCtorEq, Nat.reduceEqDiff, Nat.reduceLT, Nat.reduceAdd, Nat.reduceLeDiff, Nat.reduceMul, Nat.reduceSub, Nat.reduceDiv, Nat.reduceMod, Int.reduceToNat, Int.reduceLT, Int.reduceLE, Int.reduceEq, Int.reduceAdd, Int.reduceSub, Int.reduceMul, Int.reduceNeg, Int.reduceTMod, Int.reduceTDiv, Int.reduceMod, Int.reduceDiv, Int.reduceBEq, Int.reduceBNe, Nat.reduceBEq, sA, hnl]; done)); simp (maxSteps := 1000000) -implicitDefEqProofs only [go_sem, ↓reduceIte, reduceCtorEq, Nat.reduceEqDiff, Nat.reduceLT, Nat.reduceAdd, Nat.reduceLeDiff, Nat.reduceMul, Nat.reduceSub, Nat.reduceDiv, Nat.reduceMod, Int.reduceToNat, Int.reduceLT, Int.reduceLE, Int.reduceEq, Int.reduceAdd, Int.reduceSub, Int.reduceMul, Int.reduceNeg, Int.reduceTMod, Int.reduceTDiv, Int.reduceMod, Int.reduceDiv, Int.reduceBEq, Int.reduceBNe, Nat.reduceBEq, sA, hnl]) | (refine call_draw 1000 (hm) ?_ ?_; (focus (simp (maxSteps := 1000000) -implicitDefEqProofs only [go_sem, ↓reduceIte, reduceCtorEq, Nat.reduceEqDiff, Nat.reduceLT, Nat.reduceAdd, Nat.reduceLeDiff, Nat.reduceMul, Nat.reduceSub, Nat.reduceDiv, Nat.reduceMod, Int.reduceToNat, Int.reduceLT, Int.reduceLE, Int.reduceEq, Int.reduceAdd, Int.reduceSub, Int.reduceMul, Int.reduceNeg, Int.reduceTMod, Int.reduceTDiv, Int.reduceMod, Int.reduceDiv, Int.reduceBEq, Int.reduceBNe, Nat.reduceBEq, sA, hnl]; done)); simp (maxSteps := 1000000) -implicitDefEqProofs only [go_sem, ↓reduceIte, reduceCtorEq, Nat.reduceEqDiff, Nat.reduceLT, Nat.reduceAdd, Nat.reduceLeDiff, Nat.reduceMul, Nat.reduceSub, Nat.reduceDiv, Nat.reduceMod, Int.reduceToNat, Int.reduceLT, Int.reduceLE, Int.reduceEq, Int.reduceAdd, Int.reduceSub, Int.reduceMul, Int.reduceNeg, Int.reduceTMod, Int.reduceTDiv, Int.reduceMod, Int.reduceDiv, Int.reduceBEq, Int.reduceBNe, Nat.reduceBEq, sA, hnl]) | intro _))
          all_goals (rw [hA]; rfl)
        | some k =>
          rw [hr] at hm
          have hst : readL (machB numR) bd = (readL (machB numR) (bd.drop (i + 1 - 1))).map ((b ++ [k]) ++ ·) := by
            rw [h4, readL, hr]
            simp only
            rw [show i - 1 + 1 = i + 1 - 1 by omega]
            cases readL (machB numR) (bd.drop (i + 1 - 1)) with
            | none => rfl
            | some l => simp
          have hkA : ((b ++ [k]).map kinA) = b.map kinA ++ [.agg (kinL k)] := by simp [kinA]
          unfold kinL at hkA
          cases htp : k.tape
          all_goals (
            simp only [htp, tapeA, nilA, iA] at hkA
            simp only [machA, kinA, kinL, iA, htp, tapeA, nilA] at hm
            (repeat' (first | exact trivial | contradiction | refine And.intro ?_ ?_ | (show (_ : Nat) ≤ _; omega) | (show (_ : Nat) < _; omega) | (show (_ : Int) ≤ _; omega) | (show (_ : Int) < _; omega)  | (refine wait_draw 1000 mixed (by decide +kernel) ?_; simp (maxSteps := 1000000) -implicitDefEqProofs only [go_sem, ↓reduceIte, reduceCtorEq, Nat.reduceEqDiff, Nat.reduceLT, Nat.reduceAdd, Nat.reduceLeDiff, Nat.reduceMul, Nat.reduceSub, Nat.reduceDiv, Nat.reduceMod, Int.reduceToNat, Int.reduceLT, Int.reduceLE, Int.reduceEq, Int.reduceAdd, Int.reduceSub, Int.reduceMul, Int.reduceNeg, Int.reduceTMod, Int.reduceTDiv, Int.reduceMod, Int.reduceDiv, Int.reduceBEq, Int.reduceBNe, Nat.reduceBEq, sA, hnl, iA]) | (refine call_eq 1000 (hm) ?_ ?_ rfl; (focus (simp (maxSteps := 1000000) -implicitDefEqProofs only [go_sem, ↓reduceIte, reduceCtorEq, Nat.reduceEqDiff, Nat.reduceLT, Nat.reduceAdd, Nat.reduceLeDiff, Nat.reduceMul, Nat.reduceSub, Nat.reduceDiv, Nat.reduceMod, Int.reduceToNat, Int.reduceLT, Int.reduceLE, Int.reduceEq, Int.reduceAdd, Int.reduceSub, Int.reduceMul, Int.reduceNeg, Int.reduceTMod, Int.reduceTDiv, Int.reduceMod, Int.reduceDiv, Int.reduceBEq, Int.reduceBNe, Nat.reduceBEq, sA, hnl, iA]; done)); simp (maxSteps := 1000000) -implicitDefEqProofs only [go_sem, ↓reduceIte, reduceCtorEq, Nat.reduceEqDiff, Nat.reduceLT, Nat.reduceAdd, Nat.reduceLeDiff, Nat.reduceMul, Nat.reduceSub, Nat.reduceDiv, Nat.reduceMod, Int.reduceToNat, Int.reduceLT, Int.reduceLE, Int.reduceEq, Int.reduceAdd, Int.reduceSub, Int.reduceMul, Int.reduceNeg, Int.reduceTMod, Int.reduceTDiv, Int.reduceMod, Int.reduceDiv, Int.reduceBEq, Int.reduceBNe, Nat.reduceBEq, sA, hnl, iA]) | (refine call_draw 1000 (hm) ?_ ?_; (focus (simp (maxSteps := 1000000) -implicitDefEqProofs only [go_sem, ↓reduceIte, reduceCtorEq, Nat.reduceEqDiff, Nat.reduceLT, Nat.reduceAdd, Nat.reduceLeDiff, Nat.reduceMul, Nat.reduceSub, Nat.reduceDiv, Nat.reduceMod, Int.reduceToNat, Int.reduceLT, Int.reduceLE, Int.reduceEq, Int.reduceAdd, Int.reduceSub, Int.reduceMul, Int.reduceNeg, Int.reduceTMod, Int.reduceTDiv, Int.reduceMod, Int.reduceDiv, Int.reduceBEq, Int.reduceBNe, Nat.reduceBEq, sA, hnl, iA]; done)); simp (maxSteps := 1000000) -implicitDefEqProofs only [go_sem, ↓reduceIte, reduceCtorEq, Nat.reduceEqDiff, Nat.reduceLT, Nat.reduceAdd, Nat.reduceLeDiff, Nat.reduceMul, Nat.reduceSub, Nat.reduceDiv, Nat.reduceMod, Int.reduceToNat, Int.reduceLT, Int.reduceLE, Int.reduceEq, Int.reduceAdd, Int.reduceSub, Int.reduceMul, Int.reduceNeg, Int.reduceTMod, Int.reduceTDiv, Int.reduceMod, Int.reduceDiv, Int.reduceBEq, Int.reduceBNe, Nat.reduceBEq, sA, hnl, iA]) | intro _))
            all_goals first | omega | skip
            refine ⟨⟨i + 1, b ++ [k]⟩, ?_, ⟨?_, ?_, ?_, hst⟩, ?_⟩
            · show ls.length - (i + 1) < ls.length - i; omega
            · show 1 ≤ i + 1; omega
            · show i + 1 ≤ ls.length; omega
            · show (b ++ [k]).length ≤ i + 1; simp; omega
            · ((refine weak_to [0, 4, 5, 6] [3] ?_ (by simp) (fun i h => by cases h); simp (maxSteps := 1000000) -implicitDefEqProofs only [go_sem, ↓reduceIte, reduceCtorEq, Nat.reduceEqDiff, Nat.reduceLT, Nat.reduceAdd, Nat.reduceLeDiff, Nat.reduceMul, Nat.reduceSub, Nat.reduceDiv, Nat.reduceMod, Int.reduceToNat, Int.reduceLT, Int.reduceLE, Int.reduceEq, Int.reduceAdd, Int.reduceSub, Int.reduceMul, Int.reduceNeg, Int.reduceTMod, Int.reduceTDiv, Int.reduceMod, Int.reduceDiv, Int.reduceBEq, Int.reduceBNe, Nat.reduceBEq, St.keep, rrS, sA, hwi, hkA, List.length_append, List.length_cons, List.length_nil]; done)))
      · have hlt : ((i : Int) < ((ls.length - 1 : Nat) : Int)) = False := eq_false (by omega)
        rw [show bd.drop (i - 1) = [] from List.drop_eq_nil_of_le (by omega), readL] at h4
        simp only [Option.map_some, List.append_nil] at h4
        obtain ⟨hc1, hc2⟩ := hcnt b h4
        have hbl2 := cnt_len b
        have hpl := print_le b hc2 (by omega)
        have hpr := rprint_pc b hc2 (by omega) (by omega)
        rw [h4] at hA
        simp only at hA
        simp only [sA, bookA] at hpr
        simp (maxSteps := 1000000) -implicitDefEqProofs only [go_sem, ↓reduceIte, reduceCtorEq, Nat.reduceEqDiff, Nat.reduceLT, Nat.reduceAdd, Nat.reduceLeDiff, Nat.reduceMul, Nat.reduceSub, Nat.reduceDiv, Nat.reduceMod, Int.reduceToNat, Int.reduceLT, Int.reduceLE, Int.reduceEq, Int.reduceAdd, Int.reduceSub, Int.reduceMul, Int.reduceNeg, Int.reduceTMod, Int.reduceTDiv, Int.reduceMod, Int.reduceDiv, Int.reduceBEq, Int.reduceBNe, Nat.reduceBEq, rrS, sA, iA, ew1, hlt, List.length_map]
        have htk : (b.map kinA).take b.length = b.map kinA := List.take_of_length_le (by simp)
        (repeat' (first | exact trivial | contradiction | refine And.intro ?_ ?_ | (show (_ : Nat) ≤ _; omega) | (show (_ : Nat) < _; omega) | (show (_ : Int) ≤ _; omega) | (show (_ : Int) < _; omega)  | (refine wait_draw 1000 mixed (by decide +kernel) ?_; simp (maxSteps := 1000000) -implicitDefEqProofs only [go_sem, ↓reduceIte, reduceCtorEq, Nat.reduceEqDiff, Nat.reduceLT, Nat.reduceAdd, Nat.reduceLeDiff, Nat.reduceMul, Nat.reduceSub, Nat.reduceDiv, Nat.reduceMod, Int.reduceToNat, Int.reduceLT, Int.reduceLE, Int.reduceEq, Int.reduceAdd, Int.reduceSub, Int.reduceMul, Int.reduceNeg, Int.reduceTMod, Int.reduceTDiv, Int.reduceMod, Int.reduceDiv, Int.reduceBEq, Int.reduceBNe, Nat.reduceBEq, sA, hnl, htk]) | (refine call_eq_read 1000 (hpr) ?_ ?_ ?_ rfl; (focus (simp (maxSteps := 1000000) -implicitDefEqProofs only [go_sem, ↓reduceIte, reduceCtorEq, Nat.reduceEqDiff, Nat.reduceLT, Nat.reduceAdd, Nat.reduceLeDiff, Nat.reduceMul, Nat.reduceSub, Nat.reduceDiv, Nat.reduceMod, Int.reduceToNat, Int.reduceLT, Int.reduceLE, Int.reduceEq, Int.reduceAdd, Int.reduceSub, Int.reduceMul, Int.reduceNeg, Int.reduceTMod, Int.reduceTDiv, Int.reduceMod, Int.reduceDiv, Int.reduceBEq, Int.reduceBNe, Nat.reduceBEq, sA, hnl, htk]; done)); (focus (simp (maxSteps := 1000000) -implicitDefEqProofs only [go_sem, ↓reduceIte, reduceCtorEq, Nat.reduceEqDiff, Nat.reduceLT, Nat.reduceAdd, Nat.reduceLeDiff, Nat.reduceMul, Nat.reduceSub, Nat.reduceDiv, Nat.reduceMod, Int.reduceToNat, Int.reduceLT, Int.reduceLE, Int.reduceEq, Int.reduceAdd, Int.reduceSub, Int.reduceMul, Int.reduceNeg, Int.reduceTMod, Int.reduceTDiv, Int.reduceMod, Int.reduceDiv, Int.reduceBEq, Int.reduceBNe, Nat.reduceBEq, sA, hnl, htk]; done)); simp (maxSteps := 1000000) -implicitDefEqProofs only [go_sem, ↓reduceIte, reduceCtorEq, Nat.reduceEqDiff, Nat.reduceLT, Nat.reduceAdd, Nat.reduceLeDiff, Nat.reduceMul, Nat.reduceSub, Nat.reduceDiv, Nat.reduceMod, Int.reduceToNat, Int.reduceLT, Int.reduceLE, Int.reduceEq, Int.reduceAdd, Int.reduceSub, Int.reduceMul, Int.reduceNeg, Int.reduceTMod, Int.reduceTDiv, Int.reduceMod, Int.reduceDiv, Int.reduceBEq, Int.reduceBNe, Nat.reduceBEq, sA, hnl, htk]) | (refine call_draw_read 1000 (hpr) ?_ ?_ ?_; (focus (simp (maxSteps := 1000000) -implicitDefEqProofs only [go_sem, ↓reduceIte, reduceCtorEq, Nat.reduceEqDiff, Nat.reduceLT, Nat.reduceAdd, Nat.reduceLeDiff, Nat.reduceMul, Nat.reduceSub, Nat.reduceDiv, Nat.reduceMod, Int.reduceToNat, Int.reduceLT, Int.reduceLE, Int.reduceEq, Int.reduceAdd, Int.reduceSub, Int.reduceMul, Int.reduceNeg, Int.reduceTMod, Int.reduceTDiv, Int.reduceMod, Int.reduceDiv, Int.reduceBEq, Int.reduceBNe, Nat.reduceBEq, sA, hnl, htk]; done)); (focus (intro ext; simp (maxSteps := 1000000) -implicitDefEqProofs only [go_sem, ↓reduceIte, reduceCtorEq, Nat.reduceEqDiff, Nat.reduceLT, Nat.reduceAdd, Nat.reduceLeDiff, Nat.reduceMul, Nat.reduceSub, Nat.reduceDiv, Nat.reduceMod, Int.reduceToNat, Int.reduceLT, Int.reduceLE, Int.reduceEq, Int.reduceAdd, Int.reduceSub, Int.reduceMul, Int.reduceNeg, Int.reduceTMod, Int.reduceTDiv, Int.reduceMod, Int.reduceDiv, Int.reduceBEq, Int.reduceBNe, Nat.reduceBEq, sA, hnl, htk]; done)); simp (maxSteps := 1000000) -implicitDefEqProofs only [go_sem, ↓reduceIte, reduceCtorEq, Nat.reduceEqDiff, Nat.reduceLT, Nat.reduceAdd, Nat.reduceLeDiff, Nat.reduceMul, Nat.reduceSub, Nat.reduceDiv, Nat.reduceMod, Int.reduceToNat, Int.reduceLT, Int.reduceLE, Int.reduceEq, Int.reduceAdd, Int.reduceSub, Int.reduceMul, Int.reduceNeg, Int.reduceTMod, Int.reduceTDiv, Int.reduceMod, Int.reduceDiv, Int.reduceBEq, Int.reduceBNe, Nat.reduceBEq, sA, hnl, htk]) | intro _))
        · rename_i hne
          rw [hA, if_neg hne]
          rfl
        · rename_i he
          rw [hA, if_pos he]
          rfl
end Go.Proofs.YtiipggfhjkalfaaDoor
