/- Tapes: how the document reads them. -/
import Derived.Test.YtiipggfhjkalfaaDoorProg
import Derived.Test.YtiipggfhjkalfaaDoorPmU
import Derived.Test.YtiipggfhjkalfaaDoorMtC
set_option linter.unusedSimpArgs false
set_option linter.unusedVariables false
set_option maxRecDepth 20000
open Go Go.Proofs
namespace Go.Proofs.YtiipggfhjkalfaaDoor
open Pm
attribute [local irreducible] Wait CallT CallW Le Weak
open Mt
section
variable {P : Program} {st : St} {K : Exit → St → Prop}
/-- A loop whose states are told by data. -/
theorem wait_data {β : Type} (S : β → St) (G : β → Prop) (μ : β → Nat) (b0 : β) {c : Code} {t : List It} (h0 : Weak st (S b0)) (g0 : G b0)
    (round : ∀ b, G b → TriT P (.code c :: .goal (fun st2 => ∃ b', μ b' < μ b ∧ G b' ∧ Weak st2 (S b')) :: t) (S b) K) : Wait P (.loop c) t st K := by
  unfold Wait
  simp only [TriT]
  refine tri_loopN (fun m st' => ∃ b, m = μ b ∧ G b ∧ st' = S b) (μ b0) ⟨S b0, h0, b0, rfl, g0, rfl⟩ ?_
  rintro m st' ⟨b, rfl, hg, rfl⟩
  have := round b hg
  simp only [TriT] at this
  refine this.mono fun e st2 q => ?_
  cases e with
  | exit id => simp only [TriX] at q; exact q
  | normal => obtain ⟨b', h1, h2, h3⟩ := q; exact ⟨μ b', S b', h3, ⟨b', rfl, h2, rfl⟩, h1⟩
  | _ => exact q
end
def nA (n : Nat) : AV := .v (.int .i64 n)
theorem renL_nA (f : Nat → Option Nat) (t : List Nat) : AV.renL f (t.map nA) = t.map nA := by
  rw [AV.renL_eq, List.map_map]
  exact List.map_congr_left fun p _ => by simp [nA, AV.ren]
theorem fzL_nA (h : List (Option Blk)) (t : List Nat) : fzL h (t.map nA) = t.map nA := by
  rw [fzL_eq, List.map_map]
  exact List.map_congr_left fun p _ => by simp [nA, fz_v]
theorem renL_app (f : Nat → Option Nat) (l m : List AV) : AV.renL f (l ++ m) = AV.renL f l ++ AV.renL f m := by rw [AV.renL_eq, AV.renL_eq, AV.renL_eq, List.map_append]
attribute [go_sem] renL_nA fzL_nA renL_app
def outA (out : List Nat) : AV := if out = [] then nilA else .sl 0 1 0 out.length
def outH (out : List Nat) : List (Option Blk) := if out = [] then [] else [some (.row 3 1 (out.map nA))]
def unA : Option (List Nat) → AV
  | some out => .tup [.fsl 1 (out.map nA), iA 0]
  | none => .tup [nilA, iA 71]
def lastB (text : List UInt8) (k : Nat) : UInt8 := if k = 0 then 0 else text.getD (k - 1) 0
/-- Where the reader is: the letter, where the word began, the symbols so far. -/
structure At where
  k : Nat
  from_ : Nat
  out : List Nat
def atS (text : List UInt8) (b : At) : St := ⟨78, 0, [(0, sA text), (4, outA b.out), (5, .v (.int .i64 b.from_)), (6, .v (.int .i64 b.k))], outH b.out⟩
def atG (text : List UInt8) (R : Option (List Nat)) (b : At) : Prop := b.from_ ≤ b.k ∧ b.k ≤ text.length ∧ b.out.length ≤ b.k ∧ b.out.length ≤ 4096 ∧ goU (text.drop b.k) (lastB text b.k) ((text.take b.k).drop b.from_) b.out = R
theorem u8_eq (c : UInt8) (n : Nat) (hn : n < 256) : ((c.toNat : Int) = (n : Int)) = (c = UInt8.ofNat n) := by
  apply propext
  constructor
  · intro h
    apply UInt8.toNat_inj.1
    rw [UInt8.toNat_ofNat']
    omega
  · intro h
    subst h
    rw [UInt8.toNat_ofNat']
    omega
theorem u10 (c : UInt8) : ((c.toNat : Int) = 10) = (c = 10) := u8_eq c 10 (by omega)
theorem u32 (c : UInt8) : ((c.toNat : Int) = 32) = (c = 32) := u8_eq c 32 (by omega)
theorem drop_at (text : List UInt8) (k : Nat) (h : k < text.length) : text.drop k = text.getD k 0 :: text.drop (k + 1) := by
  rw [List.drop_eq_getElem_cons h]
  simp [List.getD_eq_getElem?_getD, h]
theorem cur_step (text : List UInt8) (k f : Nat) (h : k < text.length) (hf : f ≤ k) : (text.take (k + 1)).drop f = (text.take k).drop f ++ [text.getD k 0] := by
  rw [List.take_add_one, List.getElem?_eq_getElem h, List.drop_append_of_le_length (by rw [List.length_take]; omega)]
  simp [List.getD_eq_getElem?_getD, h]
theorem refUn_pc (text : List UInt8) (hn : text.length < 9223372036854775808) (R : Option (List Nat)) (hR : goU text 0 [] [] = R) : PCon Tryd.prog 7 [sA text] (· = unA R) := by
  refine pcon_run 1000 Tryd.func7 rfl Tryd.results7 Tryd.ntmps7 (Nat.le_of_ble_eq_true rfl) ?_
  simp (maxSteps := 1000000) -implicitDefEqProofs only [go_sem, ↓reduceIte, reduceCtorEq, Nat.reduceEqDiff, Nat.reduceLT, Nat.reduceAdd, Nat.reduceLeDiff, Nat.reduceMul, Nat.reduceSub, Nat.reduceDiv, Nat.reduceMod, Int.reduceToNat, Int.reduceLT, Int.reduceLE, Int.reduceEq, Int.reduceAdd, Int.reduceSub, Int.reduceMul, Int.reduceNeg, Int.reduceTMod, Int.reduceTDiv, Int.reduceMod, Int.reduceDiv, Int.reduceBEq, Int.reduceBNe, Nat.reduceBEq, sA]
  refine wait_data (atS text) (atG text R) (fun b => text.length - b.k) ⟨0, 0, []⟩ (weak_to [0, 4, 5, 6] [] ?_ (by simp) (fun i h => by cases h)) ⟨Nat.le_refl _, Nat.zero_le _, Nat.le_refl _, Nat.zero_le _, hR⟩ ?_
  · simp (maxSteps := 1000000) -implicitDefEqProofs only [go_sem, ↓reduceIte, reduceCtorEq, Nat.reduceEqDiff, Nat.reduceLT, Nat.reduceAdd, Nat.reduceLeDiff, Nat.reduceMul, Nat.reduceSub, Nat.reduceDiv, Nat.reduceMod, Int.reduceToNat, Int.reduceLT, Int.reduceLE, Int.reduceEq, Int.reduceAdd, Int.reduceSub, Int.reduceMul, Int.reduceNeg, Int.reduceTMod, Int.reduceTDiv, Int.reduceMod, Int.reduceDiv, Int.reduceBEq, Int.reduceBNe, Nat.reduceBEq, St.keep, Int.natCast_zero, atS, outA, outH, sA, nilA]
  · rintro ⟨k, f, out⟩ ⟨h1, h2, h3, h4, h5⟩
    simp only at h1 h2 h3 h4 h5
    refine run_sound 1000 _ _ ?_
    by_cases hk1 : k < text.length
    · have hlt : ((k : Int) < (text.length : Int)) = True := eq_true (by omega)
      have hw2 : IntKind.i64.wrap ((k : Int) + 1) = ((k + 1 : Nat) : Int) := by rw [wrap64 (by omega) (by omega)]; omega
      rw [drop_at text k hk1] at h5
      unfold goU at h5
      by_cases hsep : text.getD k 0 ≠ 32 ∧ text.getD k 0 ≠ 10
      · rw [if_pos hsep] at h5
        have f1 : (((text.getD k 0).toNat : Int) = 32) = False := by rw [u32]; exact eq_false hsep.1
        have f2 : (((text.getD k 0).toNat : Int) = 10) = False := by rw [u10]; exact eq_false hsep.2
        have hG : atG text R ⟨k + 1, f, out⟩ := ⟨by show f ≤ k + 1; omega, by show k + 1 ≤ _; omega, by show out.length ≤ k + 1; omega, h4, by
          show goU (text.drop (k + 1)) (lastB text (k + 1)) ((text.take (k + 1)).drop f) out = R
          rw [cur_step text k f hk1 h1, show lastB text (k + 1) = text.getD k 0 by simp [lastB]]
          exact h5⟩
        have hμ : text.length - (k + 1) < text.length - k := by omega
        by_cases ho : out = []
        · simp (maxSteps := 1000000) -implicitDefEqProofs only [go_sem, ↓reduceIte, reduceCtorEq, Nat.reduceEqDiff, Nat.reduceLT, Nat.reduceAdd, Nat.reduceLeDiff, Nat.reduceMul, Nat.reduceSub, Nat.reduceDiv, Nat.reduceMod, Int.reduceToNat, Int.reduceLT, Int.reduceLE, Int.reduceEq, Int.reduceAdd, Int.reduceSub, Int.reduceMul, Int.reduceNeg, Int.reduceTMod, Int.reduceTDiv, Int.reduceMod, Int.reduceDiv, Int.reduceBEq, Int.reduceBNe, Nat.reduceBEq, atS, outA, outH, sA, nilA, hlt, ho, f1, f2]
          (repeat' (first | exact trivial | contradiction | refine And.intro ?_ ?_ | (show (_ : Nat) ≤ _; omega) | (show (_ : Nat) < _; omega) | (show (_ : Int) ≤ _; omega) | (show (_ : Int) < _; omega)  | (refine wait_draw 1000 mixed (by decide +kernel) ?_; simp (maxSteps := 1000000) -implicitDefEqProofs only [go_sem, ↓reduceIte, reduceCtorEq, Nat.reduceEqDiff, Nat.reduceLT, Nat.reduceAdd, Nat.reduceLeDiff, Nat.reduceMul, Nat.reduceSub, Nat.reduceDiv, Nat.reduceMod, Int.reduceToNat, Int.reduceLT, Int.reduceLE, Int.reduceEq, Int.reduceAdd, Int.reduceSub, Int.reduceMul, Int.reduceNeg, Int.reduceTMod, Int.reduceTDiv, Int.reduceMod, Int.reduceDiv, Int.reduceBEq, Int.reduceBNe, Nat.reduceBEq atS, outA, outH, sA, nilA, hlt, ho, f1, f2]) | intro _))
          all_goals first | omega | (refine ⟨⟨k + 1, f, out⟩, hμ, hG, ?_⟩; simp only [atS, outA, outH, sA, nilA, ho, if_true]; ((refine weak_to [0, 4, 5, 6] [] ?_ (by simp) (fun i h => by cases h); simp (maxSteps := 1000000) -implicitDefEqProofs only [go_sem, ↓reduceIte, reduceCtorEq, Nat.reduceEqDiff, Nat.reduceLT, Nat.reduceAdd, Nat.reduceLeDiff, Nat.reduceMul, Nat.reduceSub, Nat.reduceDiv, Nat.reduceMod, Int.reduceToNat, Int.reduceLT, Int.reduceLE, Int.reduceEq, Int.reduceAdd, Int.reduceSub, Int.reduceMul, Int.reduceNeg, Int.reduceTMod, Int.reduceTDiv, Int.reduceMod, Int.reduceDiv, Int.reduceBEq, Int.reduceBNe, Nat.reduceBEq, St.keep, hw2]; done)))
        · simp (maxSteps := 1000000) -implicitDefEqProofs only [go_sem, ↓reduceIte, reduceCtorEq, Nat.reduceEqDiff, Nat.reduceLT, Nat.reduceAdd, Nat.reduceLeDiff, Nat.reduceMul, Nat.reduceSub, Nat.reduceDiv, Nat.reduceMod, Int.reduceToNat, Int.reduceLT, Int.reduceLE, Int.reduceEq, Int.reduceAdd, Int.reduceSub, Int.reduceMul, Int.reduceNeg, Int.reduceTMod, Int.reduceTDiv, Int.reduceMod, Int.reduceDiv, Int.reduceBEq, Int.reduceBNe, Nat.reduceBEq, atS, outA, outH, sA, nilA, hlt, ho, f1, f2]
          (repeat' (first | exact trivial | contradiction | refine And.intro ?_ ?_ | (show (_ : Nat) ≤ _; omega) | (show (_ : Nat) < _; omega) | (show (_ : Int) ≤ _; omega) | (show (_ : Int) < _; omega)  | (refine wait_draw 1000 mixed (by decide +kernel) ?_; simp (maxSteps := 1000000) -implicitDefEqProofs only [go_sem, ↓reduceIte, reduceCtorEq, Nat.reduceEqDiff, Nat.reduceLT, Nat.reduceAdd, Nat.reduceLeDiff, Nat.reduceMul, Nat.reduceSub, Nat.reduceDiv, Nat.reduceMod, Int.reduceToNat, Int.reduceLT, Int.reduceLE, Int.reduceEq, Int.reduceAdd, Int.reduceSub, Int.reduceMul, Int.reduceNeg, Int.reduceTMod, Int.reduceTDiv, Int.reduceMod, Int.reduceDiv, Int.reduceBEq, Int.reduceBNe, Nat.reduceBEq atS, outA, outH, sA, nilA, hlt, ho, f1, f2]) | intro _))
          all_goals first | omega | (refine ⟨⟨k + 1, f, out⟩, hμ, hG, ?_⟩; simp only [atS, outA, outH, sA, nilA, ho, if_false]; ((refine weak_to [0, 4, 5, 6] [0] ?_ (by simp) (fun i h => by cases h); simp (maxSteps := 1000000) -implicitDefEqProofs only [go_sem, ↓reduceIte, reduceCtorEq, Nat.reduceEqDiff, Nat.reduceLT, Nat.reduceAdd, Nat.reduceLeDiff, Nat.reduceMul, Nat.reduceSub, Nat.reduceDiv, Nat.reduceMod, Int.reduceToNat, Int.reduceLT, Int.reduceLE, Int.reduceEq, Int.reduceAdd, Int.reduceSub, Int.reduceMul, Int.reduceNeg, Int.reduceTMod, Int.reduceTDiv, Int.reduceMod, Int.reduceDiv, Int.reduceBEq, Int.reduceBNe, Nat.reduceBEq, St.keep, hw2]; done)))
      · rw [if_neg hsep] at h5
        have hcs : text.getD k 0 = 32 ∨ text.getD k 0 = 10 := by
          by_cases e : text.getD k 0 = 32
          · exact .inl e
          · exact .inr (Classical.byContradiction fun h => hsep ⟨e, h⟩)
        obtain ⟨b1, b2, f1, f2, hb⟩ : ∃ b1 b2 : Prop, (((text.getD k 0).toNat : Int) = 32) = b1 ∧ (((text.getD k 0).toNat : Int) = 10) = b2 ∧ ((b1 = True ∧ b2 = False) ∨ (b1 = False ∧ b2 = True)) := by
          refine ⟨_, _, rfl, rfl, ?_⟩
          rw [u32, u10]
          rcases hcs with e | e
          · exact .inl ⟨eq_true e, eq_false (by rw [e]; decide)⟩
          · exact .inr ⟨eq_false (by rw [e]; decide), eq_true e⟩
        generalize hcur : (text.take k).drop f = cur at h5
        have hle0 : (0 ≤ (k : Int)) = True := eq_true (by omega)
        have hfk : ((f : Int) ≤ (k : Int)) = True := eq_true (by omega)
        have hkn : ((k : Int) ≤ (text.length : Int)) = True := eq_true (by omega)
        have ew : IntKind.i64.wrap ((text.length : Int) - 1) = ((text.length - 1 : Nat) : Int) := by rw [wrap64 (by omega) (by omega)]; omega
        have hμ : text.length - (k + 1) < text.length - k := by omega
        have hz0 : out = [] → out.length = 0 := fun e => by rw [e]; rfl
        have hne : (out ++ [symOf cur] = []) = False := eq_false (by simp)
        have hne' : (out ++ [symN cur 96] = []) = False := hne
        rcases hb with ⟨rfl, rfl⟩ | ⟨rfl, rfl⟩
        · have g10 : (((text.getD k 0).toNat : Int) == 10) = false := by simpa using f2
          have c10 : (text.getD k 0 = 10) = False := by rw [← u10]; exact f2
          by_cases ho : out = []
          · have hz1 := hz0 ho
            simp (maxSteps := 1000000) -implicitDefEqProofs only [go_sem, ↓reduceIte, reduceCtorEq, Nat.reduceEqDiff, Nat.reduceLT, Nat.reduceAdd, Nat.reduceLeDiff, Nat.reduceMul, Nat.reduceSub, Nat.reduceDiv, Nat.reduceMod, Int.reduceToNat, Int.reduceLT, Int.reduceLE, Int.reduceEq, Int.reduceAdd, Int.reduceSub, Int.reduceMul, Int.reduceNeg, Int.reduceTMod, Int.reduceTDiv, Int.reduceMod, Int.reduceDiv, Int.reduceBEq, Int.reduceBNe, Nat.reduceBEq, atS, outA, outH, sA, nilA, hlt, ho, f1, f2]
            refine wait_range 96 (fun j => ⟨78, 0, [(0, sA text), (4, outA out), (5, .v (.int .i64 f)), (6, .v (.int .i64 k)), (7, nA (symN cur j)), (8, .v (.int .i64 ((j + 1 : Nat) : Int)))], outH out⟩)
              (fun j => True) (weak_to [0, 4, 5, 6, 7, 8] [] ?_ (by simp) (fun i h => by cases h)) trivial ?_
            · simp (maxSteps := 1000000) -implicitDefEqProofs only [go_sem, ↓reduceIte, reduceCtorEq, Nat.reduceEqDiff, Nat.reduceLT, Nat.reduceAdd, Nat.reduceLeDiff, Nat.reduceMul, Nat.reduceSub, Nat.reduceDiv, Nat.reduceMod, Int.reduceToNat, Int.reduceLT, Int.reduceLE, Int.reduceEq, Int.reduceAdd, Int.reduceSub, Int.reduceMul, Int.reduceNeg, Int.reduceTMod, Int.reduceTDiv, Int.reduceMod, Int.reduceDiv, Int.reduceBEq, Int.reduceBNe, Nat.reduceBEq, St.keep, outA, outH, sA, nA, nilA, ho, symN, Int.natCast_zero, Int.natCast_one]
            · intro j hj _
              refine run_sound 1000 _ _ ?_
              by_cases hj1 : j < 96
              · have hjl : (((j + 1 : Nat) : Int) < 97) = True := eq_true (by omega)
                have hw3 : IntKind.i64.wrap (((j + 1 : Nat) : Int) + 1) = ((j + 1 + 1 : Nat) : Int) := by rw [wrap64 (by omega) (by omega)]; omega
                have hjw : symN cur (j + 1) = if wordB (j + 1) = cur then j + 1 else symN cur j := rfl
                simp (maxSteps := 1000000) -implicitDefEqProofs only [go_sem, ↓reduceIte, reduceCtorEq, Nat.reduceEqDiff, Nat.reduceLT, Nat.reduceAdd, Nat.reduceLeDiff, Nat.reduceMul, Nat.reduceSub, Nat.reduceDiv, Nat.reduceMod, Int.reduceToNat, Int.reduceLT, Int.reduceLE, Int.reduceEq, Int.reduceAdd, Int.reduceSub, Int.reduceMul, Int.reduceNeg, Int.reduceTMod, Int.reduceTDiv, Int.reduceMod, Int.reduceDiv, Int.reduceBEq, Int.reduceBNe, Nat.reduceBEq, outA, outH, sA, nA, nilA, ho, hjl]
                (repeat' (first | exact trivial | contradiction | refine And.intro ?_ ?_ | (show (_ : Nat) ≤ _; omega) | (show (_ : Nat) < _; omega) | (show (_ : Int) ≤ _; omega) | (show (_ : Int) < _; omega)  | (refine wait_draw 1000 mixed (by decide +kernel) ?_; simp (maxSteps := 1000000) -implicitDefEqProofs only [go_sem, ↓reduceIte, reduceCtorEq, Nat.reduceEqDiff, Nat.reduceLT, Nat.reduceAdd, Nat.reduceLeDiff, Nat.reduceMul, Nat.reduceSub, Nat.reduceDiv, Nat.reduceMod, Int.reduceToNat, Int.reduceLT, Int.reduceLE, Int.reduceEq, Int.reduceAdd, Int.reduceSub, Int.reduceMul, Int.reduceNeg, Int.reduceTMod, Int.reduceTDiv, Int.reduceMod, Int.reduceDiv, Int.reduceBEq, Int.reduceBNe, Nat.reduceBEq, outA, outH, sA, nA, nilA, ho, hjl, hle0, hfk, hkn, hcur]) | (refine call_eq 1000 ((show PCon Tryd.prog 17 [.v (.int .i64 ((j + 1 : Nat) : Int))] _ from word_pc j hj1)) ?_ ?_ rfl; (focus (simp (maxSteps := 1000000) -implicitDefEqProofs only [go_sem, ↓reduceIte, reduceCtorEq, Nat.reduceEqDiff, Nat.reduceLT, Nat.reduceAdd, Nat.reduceLeDiff, Nat.reduceMul, Nat.reduceSub, Nat.reduceDiv, Nat.reduceMod, Int.reduceToNat, Int.reduceLT, Int.reduceLE, Int.reduceEq, Int.reduceAdd, Int.reduceSub, Int.reduceMul, Int.reduceNeg, Int.reduceTMod, Int.reduceTDiv, Int.reduceMod, Int.reduceDiv, Int.reduceBEq, Int.reduceBNe, Nat.reduceBEq, outA, outH, sA, nA, nilA, ho, hjl, hle0, hfk, hkn, hcur]; done)); simp (maxSteps := 1000000) -implicitDefEqProofs only [go_sem, ↓reduceIte, reduceCtorEq, Nat.reduceEqDiff, Nat.reduceLT, Nat.reduceAdd, Nat.reduceLeDiff, Nat.reduceMul, Nat.reduceSub, Nat.reduceDiv, Nat.reduceMod, Int.reduceToNat, Int.reduceLT, Int.reduceLE, Int.reduceEq, Int.reduceAdd, Int.reduceSub, Int.reduceMul, Int.reduceNeg, Int.reduceTMod, Int.reduceTDiv, Int.reduceMod, Int.reduceDiv, Int.reduceBEq, Int.reduceBNe, Nat.reduceBEq, outA, outH, sA, nA, nilA, ho, hjl, hle0, hfk, hkn, hcur]) | (refine call_draw 1000 ((show PCon Tryd.prog 17 [.v (.int .i64 ((j + 1 : Nat) : Int))] _ from word_pc j hj1)) ?_ ?_; (focus (simp (maxSteps := 1000000) -implicitDefEqProofs only [go_sem, ↓reduceIte, reduceCtorEq, Nat.reduceEqDiff, Nat.reduceLT, Nat.reduceAdd, Nat.reduceLeDiff, Nat.reduceMul, Nat.reduceSub, Nat.reduceDiv, Nat.reduceMod, Int.reduceToNat, Int.reduceLT, Int.reduceLE, Int.reduceEq, Int.reduceAdd, Int.reduceSub, Int.reduceMul, Int.reduceNeg, Int.reduceTMod, Int.reduceTDiv, Int.reduceMod, Int.reduceDiv, Int.reduceBEq, Int.reduceBNe, Nat.reduceBEq, outA, outH, sA, nA, nilA, ho, hjl, hle0, hfk, hkn, hcur]; done)); simp (maxSteps := 1000000) -implicitDefEqProofs only [go_sem, ↓reduceIte, reduceCtorEq, Nat.reduceEqDiff, Nat.reduceLT, Nat.reduceAdd, Nat.reduceLeDiff, Nat.reduceMul, Nat.reduceSub, Nat.reduceDiv, Nat.reduceMod, Int.reduceToNat, Int.reduceLT, Int.reduceLE, Int.reduceEq, Int.reduceAdd, Int.reduceSub, Int.reduceMul, Int.reduceNeg, Int.reduceTMod, Int.reduceTDiv, Int.reduceMod, Int.reduceDiv, Int.reduceBEq, Int.reduceBNe, Nat.reduceBEq, outA, outH, sA, nA, nilA, ho, hjl, hle0, hfk, hkn, hcur]) | intro _))
                all_goals first
                  | omega
                  | (have hjs : symN cur (j + 1) = j + 1 := by rw [hjw, if_pos (by assumption)]
                     ((refine weak_to [0, 4, 5, 6, 7, 8] [] ?_ (by simp) (fun i h => by cases h); simp (maxSteps := 1000000) -implicitDefEqProofs only [go_sem, ↓reduceIte, reduceCtorEq, Nat.reduceEqDiff, Nat.reduceLT, Nat.reduceAdd, Nat.reduceLeDiff, Nat.reduceMul, Nat.reduceSub, Nat.reduceDiv, Nat.reduceMod, Int.reduceToNat, Int.reduceLT, Int.reduceLE, Int.reduceEq, Int.reduceAdd, Int.reduceSub, Int.reduceMul, Int.reduceNeg, Int.reduceTMod, Int.reduceTDiv, Int.reduceMod, Int.reduceDiv, Int.reduceBEq, Int.reduceBNe, Nat.reduceBEq, St.keep, hw3, hjs]; done)))
                  | (have hjs : symN cur (j + 1) = symN cur j := by rw [hjw, if_neg (by assumption)]
                     ((refine weak_to [0, 4, 5, 6, 7, 8] [] ?_ (by simp) (fun i h => by cases h); simp (maxSteps := 1000000) -implicitDefEqProofs only [go_sem, ↓reduceIte, reduceCtorEq, Nat.reduceEqDiff, Nat.reduceLT, Nat.reduceAdd, Nat.reduceLeDiff, Nat.reduceMul, Nat.reduceSub, Nat.reduceDiv, Nat.reduceMod, Int.reduceToNat, Int.reduceLT, Int.reduceLE, Int.reduceEq, Int.reduceAdd, Int.reduceSub, Int.reduceMul, Int.reduceNeg, Int.reduceTMod, Int.reduceTDiv, Int.reduceMod, Int.reduceDiv, Int.reduceBEq, Int.reduceBNe, Nat.reduceBEq, St.keep, hw3, hjs]; done)))
              · have hjl : (((j + 1 : Nat) : Int) < 97) = False := eq_false (by omega)
                have hj6 : j = 96 := by omega
                subst hj6
                by_cases hs : symOf cur = 0
                · have hs0 : (((symN cur 96 : Nat) : Int) = 0) = True := eq_true (by unfold symOf at hs; omega)
                  rw [if_pos (.inl hs)] at h5
                  simp (maxSteps := 1000000) -implicitDefEqProofs only [go_sem, ↓reduceIte, reduceCtorEq, Nat.reduceEqDiff, Nat.reduceLT, Nat.reduceAdd, Nat.reduceLeDiff, Nat.reduceMul, Nat.reduceSub, Nat.reduceDiv, Nat.reduceMod, Int.reduceToNat, Int.reduceLT, Int.reduceLE, Int.reduceEq, Int.reduceAdd, Int.reduceSub, Int.reduceMul, Int.reduceNeg, Int.reduceTMod, Int.reduceTDiv, Int.reduceMod, Int.reduceDiv, Int.reduceBEq, Int.reduceBNe, Nat.reduceBEq, outA, outH, sA, nA, nilA, ho, hjl, hs0]
                  rw [← h5]; rfl
                · have hs0 : (((symN cur 96 : Nat) : Int) = 0) = False := eq_false (by unfold symOf at hs; omega)
                  by_cases he : k + 1 = text.length
                  · have gk : ((k : Int) == ((text.length - 1 : Nat) : Int)) = true := by rw [beq_iff_eq]; omega
                    have hd : (text.drop (k + 1) = []) = True := eq_true (by rw [List.drop_eq_nil_iff]; omega)
                    simp (maxSteps := 1000000) -implicitDefEqProofs only [go_sem, ↓reduceIte, reduceCtorEq, Nat.reduceEqDiff, Nat.reduceLT, Nat.reduceAdd, Nat.reduceLeDiff, Nat.reduceMul, Nat.reduceSub, Nat.reduceDiv, Nat.reduceMod, Int.reduceToNat, Int.reduceLT, Int.reduceLE, Int.reduceEq, Int.reduceAdd, Int.reduceSub, Int.reduceMul, Int.reduceNeg, Int.reduceTMod, Int.reduceTDiv, Int.reduceMod, Int.reduceDiv, Int.reduceBEq, Int.reduceBNe, Nat.reduceBEq, outA, outH, sA, nA, nilA, ho, hjl, hs0, g10, gk, ew]
                    first
                      | (rw [if_pos (.inr (by rw [c10, hd]; simp))] at h5
                         exact ⟨hk1, by rw [← h5]; rfl⟩)
                      | (rw [if_neg (by rw [c10, hd]; simp [hs])] at h5
                         (repeat' (first | exact trivial | contradiction | refine And.intro ?_ ?_ | (show (_ : Nat) ≤ _; omega) | (show (_ : Nat) < _; omega) | (show (_ : Int) ≤ _; omega) | (show (_ : Int) < _; omega)  | (refine wait_draw 1000 mixed (by decide +kernel) ?_; simp (maxSteps := 1000000) -implicitDefEqProofs only [go_sem, ↓reduceIte, reduceCtorEq, Nat.reduceEqDiff, Nat.reduceLT, Nat.reduceAdd, Nat.reduceLeDiff, Nat.reduceMul, Nat.reduceSub, Nat.reduceDiv, Nat.reduceMod, Int.reduceToNat, Int.reduceLT, Int.reduceLE, Int.reduceEq, Int.reduceAdd, Int.reduceSub, Int.reduceMul, Int.reduceNeg, Int.reduceTMod, Int.reduceTDiv, Int.reduceMod, Int.reduceDiv, Int.reduceBEq, Int.reduceBNe, Nat.reduceBEq]) | intro _))
                         all_goals first
                           | omega
                           | (rw [if_pos (by omega)] at h5; rw [← h5]; rfl)
                           | (rw [if_neg (by omega)] at h5
                              refine ⟨⟨k + 1, k + 1, out ++ [symOf cur]⟩, hμ, ⟨Nat.le_refl _, by show k + 1 ≤ _; omega, by show (out ++ [symOf cur]).length ≤ k + 1; simp; omega, by show (out ++ [symOf cur]).length ≤ 4096; simp; omega, ?_⟩, ?_⟩
                              · show goU (text.drop (k + 1)) (lastB text (k + 1)) ((text.take (k + 1)).drop (k + 1)) (out ++ [symOf cur]) = R
                                rw [show lastB text (k + 1) = text.getD k 0 by simp [lastB], show (text.take (k + 1)).drop (k + 1) = [] from List.drop_eq_nil_of_le (by rw [List.length_take]; omega)]
                                exact h5
                              · ((refine weak_to [0, 4, 5, 6] [1] ?_ (by simp) (fun i h => by cases h); simp (maxSteps := 1000000) -implicitDefEqProofs only [go_sem, ↓reduceIte, reduceCtorEq, Nat.reduceEqDiff, Nat.reduceLT, Nat.reduceAdd, Nat.reduceLeDiff, Nat.reduceMul, Nat.reduceSub, Nat.reduceDiv, Nat.reduceMod, Int.reduceToNat, Int.reduceLT, Int.reduceLE, Int.reduceEq, Int.reduceAdd, Int.reduceSub, Int.reduceMul, Int.reduceNeg, Int.reduceTMod, Int.reduceTDiv, Int.reduceMod, Int.reduceDiv, Int.reduceBEq, Int.reduceBNe, Nat.reduceBEq, St.keep, hw2, atS, outA, outH, sA, nilA, hne, hne', List.length_append, List.map_append, nA, symOf, ho]; done))))
                  · have gk : ((k : Int) == ((text.length - 1 : Nat) : Int)) = false := by rw [beq_eq_false_iff_ne]; omega
                    have hd : (text.drop (k + 1) = []) = False := eq_false (by rw [List.drop_eq_nil_iff]; omega)
                    simp (maxSteps := 1000000) -implicitDefEqProofs only [go_sem, ↓reduceIte, reduceCtorEq, Nat.reduceEqDiff, Nat.reduceLT, Nat.reduceAdd, Nat.reduceLeDiff, Nat.reduceMul, Nat.reduceSub, Nat.reduceDiv, Nat.reduceMod, Int.reduceToNat, Int.reduceLT, Int.reduceLE, Int.reduceEq, Int.reduceAdd, Int.reduceSub, Int.reduceMul, Int.reduceNeg, Int.reduceTMod, Int.reduceTDiv, Int.reduceMod, Int.reduceDiv, Int.reduceBEq, Int.reduceBNe, Nat.reduceBEq, outA, outH, sA, nA, nilA, ho, hjl, hs0, g10, gk, ew]
                    first
                      | (rw [if_pos (.inr (by rw [c10, hd]; simp))] at h5
                         exact ⟨hk1, by rw [← h5]; rfl⟩)
                      | (rw [if_neg (by rw [c10, hd]; simp [hs])] at h5
                         (repeat' (first | exact trivial | contradiction | refine And.intro ?_ ?_ | (show (_ : Nat) ≤ _; omega) | (show (_ : Nat) < _; omega) | (show (_ : Int) ≤ _; omega) | (show (_ : Int) < _; omega)  | (refine wait_draw 1000 mixed (by decide +kernel) ?_; simp (maxSteps := 1000000) -implicitDefEqProofs only [go_sem, ↓reduceIte, reduceCtorEq, Nat.reduceEqDiff, Nat.reduceLT, Nat.reduceAdd, Nat.reduceLeDiff, Nat.reduceMul, Nat.reduceSub, Nat.reduceDiv, Nat.reduceMod, Int.reduceToNat, Int.reduceLT, Int.reduceLE, Int.reduceEq, Int.reduceAdd, Int.reduceSub, Int.reduceMul, Int.reduceNeg, Int.reduceTMod, Int.reduceTDiv, Int.reduceMod, Int.reduceDiv, Int.reduceBEq, Int.reduceBNe, Nat.reduceBEq]) | intro _))
                         all_goals first
                           | omega
                           | (rw [if_pos (by omega)] at h5; rw [← h5]; rfl)
                           | (rw [if_neg (by omega)] at h5
                              refine ⟨⟨k + 1, k + 1, out ++ [symOf cur]⟩, hμ, ⟨Nat.le_refl _, by show k + 1 ≤ _; omega, by show (out ++ [symOf cur]).length ≤ k + 1; simp; omega, by show (out ++ [symOf cur]).length ≤ 4096; simp; omega, ?_⟩, ?_⟩
                              · show goU (text.drop (k + 1)) (lastB text (k + 1)) ((text.take (k + 1)).drop (k + 1)) (out ++ [symOf cur]) = R
                                rw [show lastB text (k + 1) = text.getD k 0 by simp [lastB], show (text.take (k + 1)).drop (k + 1) = [] from List.drop_eq_nil_of_le (by rw [List.length_take]; omega)]
                                exact h5
                              · ((refine weak_to [0, 4, 5, 6] [1] ?_ (by simp) (fun i h => by cases h); simp (maxSteps := 1000000) -implicitDefEqProofs only [go_sem, ↓reduceIte, reduceCtorEq, Nat.reduceEqDiff, Nat.reduceLT, Nat.reduceAdd, Nat.reduceLeDiff, Nat.reduceMul, Nat.reduceSub, Nat.reduceDiv, Nat.reduceMod, Int.reduceToNat, Int.reduceLT, Int.reduceLE, Int.reduceEq, Int.reduceAdd, Int.reduceSub, Int.reduceMul, Int.reduceNeg, Int.reduceTMod, Int.reduceTDiv, Int.reduceMod, Int.reduceDiv, Int.reduceBEq, Int.reduceBNe, Nat.reduceBEq, St.keep, hw2, atS, outA, outH, sA, nilA, hne, hne', List.length_append, List.map_append, nA, symOf, ho]; done))))
          · have hz1 := trivial
            simp (maxSteps := 1000000) -implicitDefEqProofs only [go_sem, ↓reduceIte, reduceCtorEq, Nat.reduceEqDiff, Nat.reduceLT, Nat.reduceAdd, Nat.reduceLeDiff, Nat.reduceMul, Nat.reduceSub, Nat.reduceDiv, Nat.reduceMod, Int.reduceToNat, Int.reduceLT, Int.reduceLE, Int.reduceEq, Int.reduceAdd, Int.reduceSub, Int.reduceMul, Int.reduceNeg, Int.reduceTMod, Int.reduceTDiv, Int.reduceMod, Int.reduceDiv, Int.reduceBEq, Int.reduceBNe, Nat.reduceBEq, atS, outA, outH, sA, nilA, hlt, ho, f1, f2]
            refine wait_range 96 (fun j => ⟨78, 0, [(0, sA text), (4, outA out), (5, .v (.int .i64 f)), (6, .v (.int .i64 k)), (7, nA (symN cur j)), (8, .v (.int .i64 ((j + 1 : Nat) : Int)))], outH out⟩)
              (fun j => True) (weak_to [0, 4, 5, 6, 7, 8] [0] ?_ (by simp) (fun i h => by cases h)) trivial ?_
            · simp (maxSteps := 1000000) -implicitDefEqProofs only [go_sem, ↓reduceIte, reduceCtorEq, Nat.reduceEqDiff, Nat.reduceLT, Nat.reduceAdd, Nat.reduceLeDiff, Nat.reduceMul, Nat.reduceSub, Nat.reduceDiv, Nat.reduceMod, Int.reduceToNat, Int.reduceLT, Int.reduceLE, Int.reduceEq, Int.reduceAdd, Int.reduceSub, Int.reduceMul, Int.reduceNeg, Int.reduceTMod, Int.reduceTDiv, Int.reduceMod, Int.reduceDiv, Int.reduceBEq, Int.reduceBNe, Nat.reduceBEq, St.keep, outA, outH, sA, nA, nilA, ho, symN, Int.natCast_zero, Int.natCast_one]
            · intro j hj _
              refine run_sound 1000 _ _ ?_
              by_cases hj1 : j < 96
              · have hjl : (((j + 1 : Nat) : Int) < 97) = True := eq_true (by omega)
                have hw3 : IntKind.i64.wrap (((j + 1 : Nat) : Int) + 1) = ((j + 1 + 1 : Nat) : Int) := by rw [wrap64 (by omega) (by omega)]; omega
                have hjw : symN cur (j + 1) = if wordB (j + 1) = cur then j + 1 else symN cur j := rfl
                simp (maxSteps := 1000000) -implicitDefEqProofs only [go_sem, ↓reduceIte, reduceCtorEq, Nat.reduceEqDiff, Nat.reduceLT, Nat.reduceAdd, Nat.reduceLeDiff, Nat.reduceMul, Nat.reduceSub, Nat.reduceDiv, Nat.reduceMod, Int.reduceToNat, Int.reduceLT, Int.reduceLE, Int.reduceEq, Int.reduceAdd, Int.reduceSub, Int.reduceMul, Int.reduceNeg, Int.reduceTMod, Int.reduceTDiv, Int.reduceMod, Int.reduceDiv, Int.reduceBEq, Int.reduceBNe, Nat.reduceBEq, outA, outH, sA, nA, nilA, ho, hjl]
                (repeat' (first | exact trivial | contradiction | refine And.intro ?_ ?_ | (show (_ : Nat) ≤ _; omega) | (show (_ : Nat) < _; omega) | (show (_ : Int) ≤ _; omega) | (show (_ : Int) < _; omega)  | (refine wait_draw 1000 mixed (by decide +kernel) ?_; simp (maxSteps := 1000000) -implicitDefEqProofs only [go_sem, ↓reduceIte, reduceCtorEq, Nat.reduceEqDiff, Nat.reduceLT, Nat.reduceAdd, Nat.reduceLeDiff, Nat.reduceMul, Nat.reduceSub, Nat.reduceDiv, Nat.reduceMod, Int.reduceToNat, Int.reduceLT, Int.reduceLE, Int.reduceEq, Int.reduceAdd, Int.reduceSub, Int.reduceMul, Int.reduceNeg, Int.reduceTMod, Int.reduceTDiv, Int.reduceMod, Int.reduceDiv, Int.reduceBEq, Int.reduceBNe, Nat.reduceBEq, outA, outH, sA, nA, nilA, ho, hjl, hle0, hfk, hkn, hcur]) | (refine call_eq 1000 ((show PCon Tryd.prog 17 [.v (.int .i64 ((j + 1 : Nat) : Int))] _ from word_pc j hj1)) ?_ ?_ rfl; (focus (simp (maxSteps := 1000000) -implicitDefEqProofs only [go_sem, ↓reduceIte, reduceCtorEq, Nat.reduceEqDiff, Nat.reduceLT, Nat.reduceAdd, Nat.reduceLeDiff, Nat.reduceMul, Nat.reduceSub, Nat.reduceDiv, Nat.reduceMod, Int.reduceToNat, Int.reduceLT, Int.reduceLE, Int.reduceEq, Int.reduceAdd, Int.reduceSub, Int.reduceMul, Int.reduceNeg, Int.reduceTMod, Int.reduceTDiv, Int.reduceMod, Int.reduceDiv, Int.reduceBEq, Int.reduceBNe, Nat.reduceBEq, outA, outH, sA, nA, nilA, ho, hjl, hle0, hfk, hkn, hcur]; done)); simp (maxSteps := 1000000) -implicitDefEqProofs only [go_sem, ↓reduceIte, reduceCtorEq, Nat.reduceEqDiff, Nat.reduceLT, Nat.reduceAdd, Nat.reduceLeDiff, Nat.reduceMul, Nat.reduceSub, Nat.reduceDiv, Nat.reduceMod, Int.reduceToNat, Int.reduceLT, Int.reduceLE, Int.reduceEq, Int.reduceAdd, Int.reduceSub, Int.reduceMul, Int.reduceNeg, Int.reduceTMod, Int.reduceTDiv, Int.reduceMod, Int.reduceDiv, Int.reduceBEq, Int.reduceBNe, Nat.reduceBEq, outA, outH, sA, nA, nilA, ho, hjl, hle0, hfk, hkn, hcur]) | (refine call_draw 1000 ((show PCon Tryd.prog 17 [.v (.int .i64 ((j + 1 : Nat) : Int))] _ from word_pc j hj1)) ?_ ?_; (focus (simp (maxSteps := 1000000) -implicitDefEqProofs only [go_sem, ↓reduceIte, reduceCtorEq, Nat.reduceEqDiff, Nat.reduceLT, Nat.reduceAdd, Nat.reduceLeDiff, Nat.reduceMul, Nat.reduceSub, Nat.reduceDiv, Nat.reduceMod, Int.reduceToNat, Int.reduceLT, Int.reduceLE, Int.reduceEq, Int.reduceAdd, Int.reduceSub, Int.reduceMul, Int.reduceNeg, Int.reduceTMod, Int.reduceTDiv, Int.reduceMod, Int.reduceDiv, Int.reduceBEq, Int.reduceBNe, Nat.reduceBEq, outA, outH, sA, nA, nilA, ho, hjl, hle0, hfk, hkn, hcur]; done)); simp (maxSteps := 1000000) -implicitDefEqProofs only [go_sem, ↓reduceIte, reduceCtorEq, Nat.reduceEqDiff, Nat.reduceLT, Nat.reduceAdd, Nat.reduceLeDiff, Nat.reduceMul, Nat.reduceSub, Nat.reduceDiv, Nat.reduceMod, Int.reduceToNat, Int.reduceLT, Int.reduceLE, Int.reduceEq, Int.reduceAdd, Int.reduceSub, Int.reduceMul, Int.reduceNeg, Int.reduceTMod, Int.reduceTDiv, Int.reduceMod, Int.reduceDiv, Int.reduceBEq, Int.reduceBNe, Nat.reduceBEq, outA, outH, sA, nA, nilA, ho, hjl, hle0, hfk, hkn, hcur]) | intro _))
                all_goals first
                  | omega
                  | (have hjs : symN cur (j + 1) = j + 1 := by rw [hjw, if_pos (by assumption)]
                     ((refine weak_to [0, 4, 5, 6, 7, 8] [0] ?_ (by simp) (fun i h => by cases h); simp (maxSteps := 1000000) -implicitDefEqProofs only [go_sem, ↓reduceIte, reduceCtorEq, Nat.reduceEqDiff, Nat.reduceLT, Nat.reduceAdd, Nat.reduceLeDiff, Nat.reduceMul, Nat.reduceSub, Nat.reduceDiv, Nat.reduceMod, Int.reduceToNat, Int.reduceLT, Int.reduceLE, Int.reduceEq, Int.reduceAdd, Int.reduceSub, Int.reduceMul, Int.reduceNeg, Int.reduceTMod, Int.reduceTDiv, Int.reduceMod, Int.reduceDiv, Int.reduceBEq, Int.reduceBNe, Nat.reduceBEq, St.keep, hw3, hjs]; done)))
                  | (have hjs : symN cur (j + 1) = symN cur j := by rw [hjw, if_neg (by assumption)]
                     ((refine weak_to [0, 4, 5, 6, 7, 8] [0] ?_ (by simp) (fun i h => by cases h); simp (maxSteps := 1000000) -implicitDefEqProofs only [go_sem, ↓reduceIte, reduceCtorEq, Nat.reduceEqDiff, Nat.reduceLT, Nat.reduceAdd, Nat.reduceLeDiff, Nat.reduceMul, Nat.reduceSub, Nat.reduceDiv, Nat.reduceMod, Int.reduceToNat, Int.reduceLT, Int.reduceLE, Int.reduceEq, Int.reduceAdd, Int.reduceSub, Int.reduceMul, Int.reduceNeg, Int.reduceTMod, Int.reduceTDiv, Int.reduceMod, Int.reduceDiv, Int.reduceBEq, Int.reduceBNe, Nat.reduceBEq, St.keep, hw3, hjs]; done)))
              · have hjl : (((j + 1 : Nat) : Int) < 97) = False := eq_false (by omega)
                have hj6 : j = 96 := by omega
                subst hj6
                by_cases hs : symOf cur = 0
                · have hs0 : (((symN cur 96 : Nat) : Int) = 0) = True := eq_true (by unfold symOf at hs; omega)
                  rw [if_pos (.inl hs)] at h5
                  simp (maxSteps := 1000000) -implicitDefEqProofs only [go_sem, ↓reduceIte, reduceCtorEq, Nat.reduceEqDiff, Nat.reduceLT, Nat.reduceAdd, Nat.reduceLeDiff, Nat.reduceMul, Nat.reduceSub, Nat.reduceDiv, Nat.reduceMod, Int.reduceToNat, Int.reduceLT, Int.reduceLE, Int.reduceEq, Int.reduceAdd, Int.reduceSub, Int.reduceMul, Int.reduceNeg, Int.reduceTMod, Int.reduceTDiv, Int.reduceMod, Int.reduceDiv, Int.reduceBEq, Int.reduceBNe, Nat.reduceBEq, outA, outH, sA, nA, nilA, ho, hjl, hs0]
                  rw [← h5]; rfl
                · have hs0 : (((symN cur 96 : Nat) : Int) = 0) = False := eq_false (by unfold symOf at hs; omega)
                  by_cases he : k + 1 = text.length
                  · have gk : ((k : Int) == ((text.length - 1 : Nat) : Int)) = true := by rw [beq_iff_eq]; omega
                    have hd : (text.drop (k + 1) = []) = True := eq_true (by rw [List.drop_eq_nil_iff]; omega)
                    simp (maxSteps := 1000000) -implicitDefEqProofs only [go_sem, ↓reduceIte, reduceCtorEq, Nat.reduceEqDiff, Nat.reduceLT, Nat.reduceAdd, Nat.reduceLeDiff, Nat.reduceMul, Nat.reduceSub, Nat.reduceDiv, Nat.reduceMod, Int.reduceToNat, Int.reduceLT, Int.reduceLE, Int.reduceEq, Int.reduceAdd, Int.reduceSub, Int.reduceMul, Int.reduceNeg, Int.reduceTMod, Int.reduceTDiv, Int.reduceMod, Int.reduceDiv, Int.reduceBEq, Int.reduceBNe, Nat.reduceBEq, outA, outH, sA, nA, nilA, ho, hjl, hs0, g10, gk, ew]
                    first
                      | (rw [if_pos (.inr (by rw [c10, hd]; simp))] at h5
                         exact ⟨hk1, by rw [← h5]; rfl⟩)
                      | (rw [if_neg (by rw [c10, hd]; simp [hs])] at h5
                         (repeat' (first | exact trivial | contradiction | refine And.intro ?_ ?_ | (show (_ : Nat) ≤ _; omega) | (show (_ : Nat) < _; omega) | (show (_ : Int) ≤ _; omega) | (show (_ : Int) < _; omega)  | (refine wait_draw 1000 mixed (by decide +kernel) ?_; simp (maxSteps := 1000000) -implicitDefEqProofs only [go_sem, ↓reduceIte, reduceCtorEq, Nat.reduceEqDiff, Nat.reduceLT, Nat.reduceAdd, Nat.reduceLeDiff, Nat.reduceMul, Nat.reduceSub, Nat.reduceDiv, Nat.reduceMod, Int.reduceToNat, Int.reduceLT, Int.reduceLE, Int.reduceEq, Int.reduceAdd, Int.reduceSub, Int.reduceMul, Int.reduceNeg, Int.reduceTMod, Int.reduceTDiv, Int.reduceMod, Int.reduceDiv, Int.reduceBEq, Int.reduceBNe, Nat.reduceBEq]) | intro _))
                         all_goals first
                           | omega
                           | (rw [if_pos (by omega)] at h5; rw [← h5]; rfl)
                           | (rw [if_neg (by omega)] at h5
                              refine ⟨⟨k + 1, k + 1, out ++ [symOf cur]⟩, hμ, ⟨Nat.le_refl _, by show k + 1 ≤ _; omega, by show (out ++ [symOf cur]).length ≤ k + 1; simp; omega, by show (out ++ [symOf cur]).length ≤ 4096; simp; omega, ?_⟩, ?_⟩
                              · show goU (text.drop (k + 1)) (lastB text (k + 1)) ((text.take (k + 1)).drop (k + 1)) (out ++ [symOf cur]) = R
                                rw [show lastB text (k + 1) = text.getD k 0 by simp [lastB], show (text.take (k + 1)).drop (k + 1) = [] from List.drop_eq_nil_of_le (by rw [List.length_take]; omega)]
                                exact h5
                              · ((refine weak_to [0, 4, 5, 6] [2] ?_ (by simp) (fun i h => by cases h); simp (maxSteps := 1000000) -implicitDefEqProofs only [go_sem, ↓reduceIte, reduceCtorEq, Nat.reduceEqDiff, Nat.reduceLT, Nat.reduceAdd, Nat.reduceLeDiff, Nat.reduceMul, Nat.reduceSub, Nat.reduceDiv, Nat.reduceMod, Int.reduceToNat, Int.reduceLT, Int.reduceLE, Int.reduceEq, Int.reduceAdd, Int.reduceSub, Int.reduceMul, Int.reduceNeg, Int.reduceTMod, Int.reduceTDiv, Int.reduceMod, Int.reduceDiv, Int.reduceBEq, Int.reduceBNe, Nat.reduceBEq, St.keep, hw2, atS, outA, outH, sA, nilA, hne, hne', List.length_append, List.map_append, nA, symOf, ho]; done))))
                  · have gk : ((k : Int) == ((text.length - 1 : Nat) : Int)) = false := by rw [beq_eq_false_iff_ne]; omega
                    have hd : (text.drop (k + 1) = []) = False := eq_false (by rw [List.drop_eq_nil_iff]; omega)
                    simp (maxSteps := 1000000) -implicitDefEqProofs only [go_sem, ↓reduceIte, reduceCtorEq, Nat.reduceEqDiff, Nat.reduceLT, Nat.reduceAdd, Nat.reduceLeDiff, Nat.reduceMul, Nat.reduceSub, Nat.reduceDiv, Nat.reduceMod, Int.reduceToNat, Int.reduceLT, Int.reduceLE, Int.reduceEq, Int.reduceAdd, Int.reduceSub, Int.reduceMul, Int.reduceNeg, Int.reduceTMod, Int.reduceTDiv, Int.reduceMod, Int.reduceDiv, Int.reduceBEq, Int.reduceBNe, Nat.reduceBEq, outA, outH, sA, nA, nilA, ho, hjl, hs0, g10, gk, ew]
                    first
                      | (rw [if_pos (.inr (by rw [c10, hd]; simp))] at h5
                         exact ⟨hk1, by rw [← h5]; rfl⟩)
                      | (rw [if_neg (by rw [c10, hd]; simp [hs])] at h5
                         (repeat' (first | exact trivial | contradiction | refine And.intro ?_ ?_ | (show (_ : Nat) ≤ _; omega) | (show (_ : Nat) < _; omega) | (show (_ : Int) ≤ _; omega) | (show (_ : Int) < _; omega)  | (refine wait_draw 1000 mixed (by decide +kernel) ?_; simp (maxSteps := 1000000) -implicitDefEqProofs only [go_sem, ↓reduceIte, reduceCtorEq, Nat.reduceEqDiff, Nat.reduceLT, Nat.reduceAdd, Nat.reduceLeDiff, Nat.reduceMul, Nat.reduceSub, Nat.reduceDiv, Nat.reduceMod, Int.reduceToNat, Int.reduceLT, Int.reduceLE, Int.reduceEq, Int.reduceAdd, Int.reduceSub, Int.reduceMul, Int.reduceNeg, Int.reduceTMod, Int.reduceTDiv, Int.reduceMod, Int.reduceDiv, Int.reduceBEq, Int.reduceBNe, Nat.reduceBEq]) | intro _))
                         all_goals first
                           | omega
                           | (rw [if_pos (by omega)] at h5; rw [← h5]; rfl)
                           | (rw [if_neg (by omega)] at h5
                              refine ⟨⟨k + 1, k + 1, out ++ [symOf cur]⟩, hμ, ⟨Nat.le_refl _, by show k + 1 ≤ _; omega, by show (out ++ [symOf cur]).length ≤ k + 1; simp; omega, by show (out ++ [symOf cur]).length ≤ 4096; simp; omega, ?_⟩, ?_⟩
                              · show goU (text.drop (k + 1)) (lastB text (k + 1)) ((text.take (k + 1)).drop (k + 1)) (out ++ [symOf cur]) = R
                                rw [show lastB text (k + 1) = text.getD k 0 by simp [lastB], show (text.take (k + 1)).drop (k + 1) = [] from List.drop_eq_nil_of_le (by rw [List.length_take]; omega)]
                                exact h5
                              · ((refine weak_to [0, 4, 5, 6] [2] ?_ (by simp) (fun i h => by cases h); simp (maxSteps := 1000000) -implicitDefEqProofs only [go_sem, ↓reduceIte, reduceCtorEq, Nat.reduceEqDiff, Nat.reduceLT, Nat.reduceAdd, Nat.reduceLeDiff, Nat.reduceMul, Nat.reduceSub, Nat.reduceDiv, Nat.reduceMod, Int.reduceToNat, Int.reduceLT, Int.reduceLE, Int.reduceEq, Int.reduceAdd, Int.reduceSub, Int.reduceMul, Int.reduceNeg, Int.reduceTMod, Int.reduceTDiv, Int.reduceMod, Int.reduceDiv, Int.reduceBEq, Int.reduceBNe, Nat.reduceBEq, St.keep, hw2, atS, outA, outH, sA, nilA, hne, hne', List.length_append, List.map_append, nA, symOf, ho]; done))))
          
        · have g10 : (((text.getD k 0).toNat : Int) == 10) = true := by simpa using f2
          have c10 : (text.getD k 0 = 10) = True := by rw [← u10]; exact f2
          by_cases ho : out = []
          · have hz1 := hz0 ho
            simp (maxSteps := 1000000) -implicitDefEqProofs only [go_sem, ↓reduceIte, reduceCtorEq, Nat.reduceEqDiff, Nat.reduceLT, Nat.reduceAdd, Nat.reduceLeDiff, Nat.reduceMul, Nat.reduceSub, Nat.reduceDiv, Nat.reduceMod, Int.reduceToNat, Int.reduceLT, Int.reduceLE, Int.reduceEq, Int.reduceAdd, Int.reduceSub, Int.reduceMul, Int.reduceNeg, Int.reduceTMod, Int.reduceTDiv, Int.reduceMod, Int.reduceDiv, Int.reduceBEq, Int.reduceBNe, Nat.reduceBEq, atS, outA, outH, sA, nilA, hlt, ho, f1, f2]
            refine wait_range 96 (fun j => ⟨78, 0, [(0, sA text), (4, outA out), (5, .v (.int .i64 f)), (6, .v (.int .i64 k)), (7, nA (symN cur j)), (8, .v (.int .i64 ((j + 1 : Nat) : Int)))], outH out⟩)
              (fun j => True) (weak_to [0, 4, 5, 6, 7, 8] [] ?_ (by simp) (fun i h => by cases h)) trivial ?_
            · simp (maxSteps := 1000000) -implicitDefEqProofs only [go_sem, ↓reduceIte, reduceCtorEq, Nat.reduceEqDiff, Nat.reduceLT, Nat.reduceAdd, Nat.reduceLeDiff, Nat.reduceMul, Nat.reduceSub, Nat.reduceDiv, Nat.reduceMod, Int.reduceToNat, Int.reduceLT, Int.reduceLE, Int.reduceEq, Int.reduceAdd, Int.reduceSub, Int.reduceMul, Int.reduceNeg, Int.reduceTMod, Int.reduceTDiv, Int.reduceMod, Int.reduceDiv, Int.reduceBEq, Int.reduceBNe, Nat.reduceBEq, St.keep, outA, outH, sA, nA, nilA, ho, symN, Int.natCast_zero, Int.natCast_one]
            · intro j hj _
              refine run_sound 1000 _ _ ?_
              by_cases hj1 : j < 96
              · have hjl : (((j + 1 : Nat) : Int) < 97) = True := eq_true (by omega)
                have hw3 : IntKind.i64.wrap (((j + 1 : Nat) : Int) + 1) = ((j + 1 + 1 : Nat) : Int) := by rw [wrap64 (by omega) (by omega)]; omega
                have hjw : symN cur (j + 1) = if wordB (j + 1) = cur then j + 1 else symN cur j := rfl
                simp (maxSteps := 1000000) -implicitDefEqProofs only [go_sem, ↓reduceIte, reduceCtorEq, Nat.reduceEqDiff, Nat.reduceLT, Nat.reduceAdd, Nat.reduceLeDiff, Nat.reduceMul, Nat.reduceSub, Nat.reduceDiv, Nat.reduceMod, Int.reduceToNat, Int.reduceLT, Int.reduceLE, Int.reduceEq, Int.reduceAdd, Int.reduceSub, Int.reduceMul, Int.reduceNeg, Int.reduceTMod, Int.reduceTDiv, Int.reduceMod, Int.reduceDiv, Int.reduceBEq, Int.reduceBNe, Nat.reduceBEq, outA, outH, sA, nA, nilA, ho, hjl]
                (repeat' (first | exact trivial | contradiction | refine And.intro ?_ ?_ | (show (_ : Nat) ≤ _; omega) | (show (_ : Nat) < _; omega) | (show (_ : Int) ≤ _; omega) | (show (_ : Int) < _; omega)  | (refine wait_draw 1000 mixed (by decide +kernel) ?_; simp (maxSteps := 1000000) -implicitDefEqProofs only [go_sem, ↓reduceIte, reduceCtorEq, Nat.reduceEqDiff, Nat.reduceLT, Nat.reduceAdd, Nat.reduceLeDiff, Nat.reduceMul, Nat.reduceSub, Nat.reduceDiv, Nat.reduceMod, Int.reduceToNat, Int.reduceLT, Int.reduceLE, Int.reduceEq, Int.reduceAdd, Int.reduceSub, Int.reduceMul, Int.reduceNeg, Int.reduceTMod, Int.reduceTDiv, Int.reduceMod, Int.reduceDiv, Int.reduceBEq, Int.reduceBNe, Nat.reduceBEq, outA, outH, sA, nA, nilA, ho, hjl, hle0, hfk, hkn, hcur]) | (refine call_eq 1000 ((show PCon Tryd.prog 17 [.v (.int .i64 ((j + 1 : Nat) : Int))] _ from word_pc j hj1)) ?_ ?_ rfl; (focus (simp (maxSteps := 1000000) -implicitDefEqProofs only [go_sem, ↓reduceIte, reduceCtorEq, Nat.reduceEqDiff, Nat.reduceLT, Nat.reduceAdd, Nat.reduceLeDiff, Nat.reduceMul, Nat.reduceSub, Nat.reduceDiv, Nat.reduceMod, Int.reduceToNat, Int.reduceLT, Int.reduceLE, Int.reduceEq, Int.reduceAdd, Int.reduceSub, Int.reduceMul, Int.reduceNeg, Int.reduceTMod, Int.reduceTDiv, Int.reduceMod, Int.reduceDiv, Int.reduceBEq, Int.reduceBNe, Nat.reduceBEq, outA, outH, sA, nA, nilA, ho, hjl, hle0, hfk, hkn, hcur]; done)); simp (maxSteps := 1000000) -implicitDefEqProofs only [go_sem, ↓reduceIte, reduceCtorEq, Nat.reduceEqDiff, Nat.reduceLT, Nat.reduceAdd, Nat.reduceLeDiff, Nat.reduceMul, Nat.reduceSub, Nat.reduceDiv, Nat.reduceMod, Int.reduceToNat, Int.reduceLT, Int.reduceLE, Int.reduceEq, Int.reduceAdd, Int.reduceSub, Int.reduceMul, Int.reduceNeg, Int.reduceTMod, Int.reduceTDiv, Int.reduceMod, Int.reduceDiv, Int.reduceBEq, Int.reduceBNe, Nat.reduceBEq, outA, outH, sA, nA, nilA, ho, hjl, hle0, hfk, hkn, hcur]) | (refine call_draw 1000 ((show PCon Tryd.prog 17 [.v (.int .i64 ((j + 1 : Nat) : Int))] _ from word_pc j hj1)) ?_ ?_; (focus (simp (maxSteps := 1000000) -implicitDefEqProofs only [go_sem, ↓reduceIte, reduceCtorEq, Nat.reduceEqDiff, Nat.reduceLT, Nat.reduceAdd, Nat.reduceLeDiff, Nat.reduceMul, Nat.reduceSub, Nat.reduceDiv, Nat.reduceMod, Int.reduceToNat, Int.reduceLT, Int.reduceLE, Int.reduceEq, Int.reduceAdd, Int.reduceSub, Int.reduceMul, Int.reduceNeg, Int.reduceTMod, Int.reduceTDiv, Int.reduceMod, Int.reduceDiv, Int.reduceBEq, Int.reduceBNe, Nat.reduceBEq, outA, outH, sA, nA, nilA, ho, hjl, hle0, hfk, hkn, hcur]; done)); simp (maxSteps := 1000000) -implicitDefEqProofs only [go_sem, ↓reduceIte, reduceCtorEq, Nat.reduceEqDiff, Nat.reduceLT, Nat.reduceAdd, Nat.reduceLeDiff, Nat.reduceMul, Nat.reduceSub, Nat.reduceDiv, Nat.reduceMod, Int.reduceToNat, Int.reduceLT, Int.reduceLE, Int.reduceEq, Int.reduceAdd, Int.reduceSub, Int.reduceMul, Int.reduceNeg, Int.reduceTMod, Int.reduceTDiv, Int.reduceMod, Int.reduceDiv, Int.reduceBEq, Int.reduceBNe, Nat.reduceBEq, outA, outH, sA, nA, nilA, ho, hjl, hle0, hfk, hkn, hcur]) | intro _))
                all_goals first
                  | omega
                  | (have hjs : symN cur (j + 1) = j + 1 := by rw [hjw, if_pos (by assumption)]
                     ((refine weak_to [0, 4, 5, 6, 7, 8] [] ?_ (by simp) (fun i h => by cases h); simp (maxSteps := 1000000) -implicitDefEqProofs only [go_sem, ↓reduceIte, reduceCtorEq, Nat.reduceEqDiff, Nat.reduceLT, Nat.reduceAdd, Nat.reduceLeDiff, Nat.reduceMul, Nat.reduceSub, Nat.reduceDiv, Nat.reduceMod, Int.reduceToNat, Int.reduceLT, Int.reduceLE, Int.reduceEq, Int.reduceAdd, Int.reduceSub, Int.reduceMul, Int.reduceNeg, Int.reduceTMod, Int.reduceTDiv, Int.reduceMod, Int.reduceDiv, Int.reduceBEq, Int.reduceBNe, Nat.reduceBEq, St.keep, hw3, hjs]; done)))
                  | (have hjs : symN cur (j + 1) = symN cur j := by rw [hjw, if_neg (by assumption)]
                     ((refine weak_to [0, 4, 5, 6, 7, 8] [] ?_ (by simp) (fun i h => by cases h); simp (maxSteps := 1000000) -implicitDefEqProofs only [go_sem, ↓reduceIte, reduceCtorEq, Nat.reduceEqDiff, Nat.reduceLT, Nat.reduceAdd, Nat.reduceLeDiff, Nat.reduceMul, Nat.reduceSub, Nat.reduceDiv, Nat.reduceMod, Int.reduceToNat, Int.reduceLT, Int.reduceLE, Int.reduceEq, Int.reduceAdd, Int.reduceSub, Int.reduceMul, Int.reduceNeg, Int.reduceTMod, Int.reduceTDiv, Int.reduceMod, Int.reduceDiv, Int.reduceBEq, Int.reduceBNe, Nat.reduceBEq, St.keep, hw3, hjs]; done)))
              · have hjl : (((j + 1 : Nat) : Int) < 97) = False := eq_false (by omega)
                have hj6 : j = 96 := by omega
                subst hj6
                by_cases hs : symOf cur = 0
                · have hs0 : (((symN cur 96 : Nat) : Int) = 0) = True := eq_true (by unfold symOf at hs; omega)
                  rw [if_pos (.inl hs)] at h5
                  simp (maxSteps := 1000000) -implicitDefEqProofs only [go_sem, ↓reduceIte, reduceCtorEq, Nat.reduceEqDiff, Nat.reduceLT, Nat.reduceAdd, Nat.reduceLeDiff, Nat.reduceMul, Nat.reduceSub, Nat.reduceDiv, Nat.reduceMod, Int.reduceToNat, Int.reduceLT, Int.reduceLE, Int.reduceEq, Int.reduceAdd, Int.reduceSub, Int.reduceMul, Int.reduceNeg, Int.reduceTMod, Int.reduceTDiv, Int.reduceMod, Int.reduceDiv, Int.reduceBEq, Int.reduceBNe, Nat.reduceBEq, outA, outH, sA, nA, nilA, ho, hjl, hs0]
                  rw [← h5]; rfl
                · have hs0 : (((symN cur 96 : Nat) : Int) = 0) = False := eq_false (by unfold symOf at hs; omega)
                  by_cases he : k + 1 = text.length
                  · have gk : ((k : Int) == ((text.length - 1 : Nat) : Int)) = true := by rw [beq_iff_eq]; omega
                    have hd : (text.drop (k + 1) = []) = True := eq_true (by rw [List.drop_eq_nil_iff]; omega)
                    simp (maxSteps := 1000000) -implicitDefEqProofs only [go_sem, ↓reduceIte, reduceCtorEq, Nat.reduceEqDiff, Nat.reduceLT, Nat.reduceAdd, Nat.reduceLeDiff, Nat.reduceMul, Nat.reduceSub, Nat.reduceDiv, Nat.reduceMod, Int.reduceToNat, Int.reduceLT, Int.reduceLE, Int.reduceEq, Int.reduceAdd, Int.reduceSub, Int.reduceMul, Int.reduceNeg, Int.reduceTMod, Int.reduceTDiv, Int.reduceMod, Int.reduceDiv, Int.reduceBEq, Int.reduceBNe, Nat.reduceBEq, outA, outH, sA, nA, nilA, ho, hjl, hs0, g10, gk, ew]
                    first
                      | (rw [if_pos (.inr (by rw [c10, hd]; simp))] at h5
                         exact ⟨hk1, by rw [← h5]; rfl⟩)
                      | (rw [if_neg (by rw [c10, hd]; simp [hs])] at h5
                         (repeat' (first | exact trivial | contradiction | refine And.intro ?_ ?_ | (show (_ : Nat) ≤ _; omega) | (show (_ : Nat) < _; omega) | (show (_ : Int) ≤ _; omega) | (show (_ : Int) < _; omega)  | (refine wait_draw 1000 mixed (by decide +kernel) ?_; simp (maxSteps := 1000000) -implicitDefEqProofs only [go_sem, ↓reduceIte, reduceCtorEq, Nat.reduceEqDiff, Nat.reduceLT, Nat.reduceAdd, Nat.reduceLeDiff, Nat.reduceMul, Nat.reduceSub, Nat.reduceDiv, Nat.reduceMod, Int.reduceToNat, Int.reduceLT, Int.reduceLE, Int.reduceEq, Int.reduceAdd, Int.reduceSub, Int.reduceMul, Int.reduceNeg, Int.reduceTMod, Int.reduceTDiv, Int.reduceMod, Int.reduceDiv, Int.reduceBEq, Int.reduceBNe, Nat.reduceBEq]) | intro _))
                         all_goals first
                           | omega
                           | (rw [if_pos (by omega)] at h5; rw [← h5]; rfl)
                           | (rw [if_neg (by omega)] at h5
                              refine ⟨⟨k + 1, k + 1, out ++ [symOf cur]⟩, hμ, ⟨Nat.le_refl _, by show k + 1 ≤ _; omega, by show (out ++ [symOf cur]).length ≤ k + 1; simp; omega, by show (out ++ [symOf cur]).length ≤ 4096; simp; omega, ?_⟩, ?_⟩
                              · show goU (text.drop (k + 1)) (lastB text (k + 1)) ((text.take (k + 1)).drop (k + 1)) (out ++ [symOf cur]) = R
                                rw [show lastB text (k + 1) = text.getD k 0 by simp [lastB], show (text.take (k + 1)).drop (k + 1) = [] from List.drop_eq_nil_of_le (by rw [List.length_take]; omega)]
                                exact h5
                              · ((refine weak_to [0, 4, 5, 6] [1] ?_ (by simp) (fun i h => by cases h); simp (maxSteps := 1000000) -implicitDefEqProofs only [go_sem, ↓reduceIte, reduceCtorEq, Nat.reduceEqDiff, Nat.reduceLT, Nat.reduceAdd, Nat.reduceLeDiff, Nat.reduceMul, Nat.reduceSub, Nat.reduceDiv, Nat.reduceMod, Int.reduceToNat, Int.reduceLT, Int.reduceLE, Int.reduceEq, Int.reduceAdd, Int.reduceSub, Int.reduceMul, Int.reduceNeg, Int.reduceTMod, Int.reduceTDiv, Int.reduceMod, Int.reduceDiv, Int.reduceBEq, Int.reduceBNe, Nat.reduceBEq, St.keep, hw2, atS, outA, outH, sA, nilA, hne, hne', List.length_append, List.map_append, nA, symOf, ho]; done))))
                  · have gk : ((k : Int) == ((text.length - 1 : Nat) : Int)) = false := by rw [beq_eq_false_iff_ne]; omega
                    have hd : (text.drop (k + 1) = []) = False := eq_false (by rw [List.drop_eq_nil_iff]; omega)
                    simp (maxSteps := 1000000) -implicitDefEqProofs only [go_sem, ↓reduceIte, reduceCtorEq, Nat.reduceEqDiff, Nat.reduceLT, Nat.reduceAdd, Nat.reduceLeDiff, Nat.reduceMul, Nat.reduceSub, Nat.reduceDiv, Nat.reduceMod, Int.reduceToNat, Int.reduceLT, Int.reduceLE, Int.reduceEq, Int.reduceAdd, Int.reduceSub, Int.reduceMul, Int.reduceNeg, Int.reduceTMod, Int.reduceTDiv, Int.reduceMod, Int.reduceDiv, Int.reduceBEq, Int.reduceBNe, Nat.reduceBEq, outA, outH, sA, nA, nilA, ho, hjl, hs0, g10, gk, ew]
                    first
                      | (rw [if_pos (.inr (by rw [c10, hd]; simp))] at h5
                         exact ⟨hk1, by rw [← h5]; rfl⟩)
                      | (rw [if_neg (by rw [c10, hd]; simp [hs])] at h5
                         (repeat' (first | exact trivial | contradiction | refine And.intro ?_ ?_ | (show (_ : Nat) ≤ _; omega) | (show (_ : Nat) < _; omega) | (show (_ : Int) ≤ _; omega) | (show (_ : Int) < _; omega)  | (refine wait_draw 1000 mixed (by decide +kernel) ?_; simp (maxSteps := 1000000) -implicitDefEqProofs only [go_sem, ↓reduceIte, reduceCtorEq, Nat.reduceEqDiff, Nat.reduceLT, Nat.reduceAdd, Nat.reduceLeDiff, Nat.reduceMul, Nat.reduceSub, Nat.reduceDiv, Nat.reduceMod, Int.reduceToNat, Int.reduceLT, Int.reduceLE, Int.reduceEq, Int.reduceAdd, Int.reduceSub, Int.reduceMul, Int.reduceNeg, Int.reduceTMod, Int.reduceTDiv, Int.reduceMod, Int.reduceDiv, Int.reduceBEq, Int.reduceBNe, Nat.reduceBEq]) | intro _))
                         all_goals first
                           | omega
                           | (rw [if_pos (by omega)] at h5; rw [← h5]; rfl)
                           | (rw [if_neg (by omega)] at h5
                              refine ⟨⟨k + 1, k + 1, out ++ [symOf cur]⟩, hμ, ⟨Nat.le_refl _, by show k + 1 ≤ _; omega, by show (out ++ [symOf cur]).length ≤ k + 1; simp; omega, by show (out ++ [symOf cur]).length ≤ 4096; simp; omega, ?_⟩, ?_⟩
                              · show goU (text.drop (k + 1)) (lastB text (k + 1)) ((text.take (k + 1)).drop (k + 1)) (out ++ [symOf cur]) = R
                                rw [show lastB text (k + 1) = text.getD k 0 by simp [lastB], show (text.take (k + 1)).drop (k + 1) = [] from List.drop_eq_nil_of_le (by rw [List.length_take]; omega)]
                                exact h5
                              · ((refine weak_to [0, 4, 5, 6] [1] ?_ (by simp) (fun i h => by cases h); simp (maxSteps := 1000000) -implicitDefEqProofs only [go_sem, ↓reduceIte, reduceCtorEq, Nat.reduceEqDiff, Nat.reduceLT, Nat.reduceAdd, Nat.reduceLeDiff, Nat.reduceMul, Nat.reduceSub, Nat.reduceDiv, Nat.reduceMod, Int.reduceToNat, Int.reduceLT, Int.reduceLE, Int.reduceEq, Int.reduceAdd, Int.reduceSub, Int.reduceMul, Int.reduceNeg, Int.reduceTMod, Int.reduceTDiv, Int.reduceMod, Int.reduceDiv, Int.reduceBEq, Int.reduceBNe, Nat.reduceBEq, St.keep, hw2, atS, outA, outH, sA, nilA, hne, hne', List.length_append, List.map_append, nA, symOf, ho]; done))))
          · have hz1 := trivial
            simp (maxSteps := 1000000) -implicitDefEqProofs only [go_sem, ↓reduceIte, reduceCtorEq, Nat.reduceEqDiff, Nat.reduceLT, Nat.reduceAdd, Nat.reduceLeDiff, Nat.reduceMul, Nat.reduceSub, Nat.reduceDiv, Nat.reduceMod, Int.reduceToNat, Int.reduceLT, Int.reduceLE, Int.reduceEq, Int.reduceAdd, Int.reduceSub, Int.reduceMul, Int.reduceNeg, Int.reduceTMod, Int.reduceTDiv, Int.reduceMod, Int.reduceDiv, Int.reduceBEq, Int.reduceBNe, Nat.reduceBEq, atS, outA, outH, sA, nilA, hlt, ho, f1, f2]
            refine wait_range 96 (fun j => ⟨78, 0, [(0, sA text), (4, outA out), (5, .v (.int .i64 f)), (6, .v (.int .i64 k)), (7, nA (symN cur j)), (8, .v (.int .i64 ((j + 1 : Nat) : Int)))], outH out⟩)
              (fun j => True) (weak_to [0, 4, 5, 6, 7, 8] [0] ?_ (by simp) (fun i h => by cases h)) trivial ?_
            · simp (maxSteps := 1000000) -implicitDefEqProofs only [go_sem, ↓reduceIte, reduceCtorEq, Nat.reduceEqDiff, Nat.reduceLT, Nat.reduceAdd, Nat.reduceLeDiff, Nat.reduceMul, Nat.reduceSub, Nat.reduceDiv, Nat.reduceMod, Int.reduceToNat, Int.reduceLT, Int.reduceLE, Int.reduceEq, Int.reduceAdd, Int.reduceSub, Int.reduceMul, Int.reduceNeg, Int.reduceTMod, Int.reduceTDiv, Int.reduceMod, Int.reduceDiv, Int.reduceBEq, Int.reduceBNe, Nat.reduceBEq, St.keep, outA, outH, sA, nA, nilA, ho, symN, Int.natCast_zero, Int.natCast_one]
            · intro j hj _
              refine run_sound 1000 _ _ ?_
              by_cases hj1 : j < 96
              · have hjl : (((j + 1 : Nat) : Int) < 97) = True := eq_true (by omega)
                have hw3 : IntKind.i64.wrap (((j + 1 : Nat) : Int) + 1) = ((j + 1 + 1 : Nat) : Int) := by rw [wrap64 (by omega) (by omega)]; omega
                have hjw : symN cur (j + 1) = if wordB (j + 1) = cur then j + 1 else symN cur j := rfl
                simp (maxSteps := 1000000) -implicitDefEqProofs only [go_sem, ↓reduceIte, reduceCtorEq, Nat.reduceEqDiff, Nat.reduceLT, Nat.reduceAdd, Nat.reduceLeDiff, Nat.reduceMul, Nat.reduceSub, Nat.reduceDiv, Nat.reduceMod, Int.reduceToNat, Int.reduceLT, Int.reduceLE, Int.reduceEq, Int.reduceAdd, Int.reduceSub, Int.reduceMul, Int.reduceNeg, Int.reduceTMod, Int.reduceTDiv, Int.reduceMod, Int.reduceDiv, Int.reduceBEq, Int.reduceBNe, Nat.reduceBEq, outA, outH, sA, nA, nilA, ho, hjl]
                (repeat' (first | exact trivial | contradiction | refine And.intro ?_ ?_ | (show (_ : Nat) ≤ _; omega) | (show (_ : Nat) < _; omega) | (show (_ : Int) ≤ _; omega) | (show (_ : Int) < _; omega)  | (refine wait_draw 1000 mixed (by decide +kernel) ?_; simp (maxSteps := 1000000) -implicitDefEqProofs only [go_sem, ↓reduceIte, reduceCtorEq, Nat.reduceEqDiff, Nat.reduceLT, Nat.reduceAdd, Nat.reduceLeDiff, Nat.reduceMul, Nat.reduceSub, Nat.reduceDiv, Nat.reduceMod, Int.reduceToNat, Int.reduceLT, Int.reduceLE, Int.reduceEq, Int.reduceAdd, Int.reduceSub, Int.reduceMul, Int.reduceNeg, Int.reduceTMod, Int.reduceTDiv, Int.reduceMod, Int.reduceDiv, Int.reduceBEq, Int.reduceBNe, Nat.reduceBEq, outA, outH, sA, nA, nilA, ho, hjl, hle0, hfk, hkn, hcur]) | (refine call_eq 1000 ((show PCon Tryd.prog 17 [.v (.int .i64 ((j + 1 : Nat) : Int))] _ from word_pc j hj1)) ?_ ?_ rfl; (focus (simp (maxSteps := 1000000) -implicitDefEqProofs only [go_sem, ↓reduceIte, reduceCtorEq, Nat.reduceEqDiff, Nat.reduceLT, Nat.reduceAdd, Nat.reduceLeDiff, Nat.reduceMul, Nat.reduceSub, Nat.reduceDiv, Nat.reduceMod, Int.reduceToNat, Int.reduceLT, Int.reduceLE, Int.reduceEq, Int.reduceAdd, Int.reduceSub, Int.reduceMul, Int.reduceNeg, Int.reduceTMod, Int.reduceTDiv, Int.reduceMod, Int.reduceDiv, Int.reduceBEq, Int.reduceBNe, Nat.reduceBEq, outA, outH, sA, nA, nilA, ho, hjl, hle0, hfk, hkn, hcur]; done)); simp (maxSteps := 1000000) -implicitDefEqProofs only [go_sem, ↓reduceIte, reduceCtorEq, Nat.reduceEqDiff, Nat.reduceLT, Nat.reduceAdd, Nat.reduceLeDiff, Nat.reduceMul, Nat.reduceSub, Nat.reduceDiv, Nat.reduceMod, Int.reduceToNat, Int.reduceLT, Int.reduceLE, Int.reduceEq, Int.reduceAdd, Int.reduceSub, Int.reduceMul, Int.reduceNeg, Int.reduceTMod, Int.reduceTDiv, Int.reduceMod, Int.reduceDiv, Int.reduceBEq, Int.reduceBNe, Nat.reduceBEq, outA, outH, sA, nA, nilA, ho, hjl, hle0, hfk, hkn, hcur]) | (refine call_draw 1000 ((show PCon Tryd.prog 17 [.v (.int .i64 ((j + 1 : Nat) : Int))] _ from word_pc j hj1)) ?_ ?_; (focus (simp (maxSteps := 1000000) -implicitDefEqProofs only [go_sem, ↓reduceIte, reduceCtorEq, Nat.reduceEqDiff, Nat.reduceLT, Nat.reduceAdd, Nat.reduceLeDiff, Nat.reduceMul, Nat.reduceSub, Nat.reduceDiv, Nat.reduceMod, Int.reduceToNat, Int.reduceLT, Int.reduceLE, Int.reduceEq, Int.reduceAdd, Int.reduceSub, Int.reduceMul, Int.reduceNeg, Int.reduceTMod, Int.reduceTDiv, Int.reduceMod, Int.reduceDiv, Int.reduceBEq, Int.reduceBNe, Nat.reduceBEq, outA, outH, sA, nA, nilA, ho, hjl, hle0, hfk, hkn, hcur]; done)); simp (maxSteps := 1000000) -implicitDefEqProofs only [go_sem, ↓reduceIte, reduceCtorEq, Nat.reduceEqDiff, Nat.reduceLT, Nat.reduceAdd, Nat.reduceLeDiff, Nat.reduceMul, Nat.reduceSub, Nat.reduceDiv, Nat.reduceMod, Int.reduceToNat, Int.reduceLT, Int.reduceLE, Int.reduceEq, Int.reduceAdd, Int.reduceSub, Int.reduceMul, Int.reduceNeg, Int.reduceTMod, Int.reduceTDiv, Int.reduceMod, Int.reduceDiv, Int.reduceBEq, Int.reduceBNe, Nat.reduceBEq, outA, outH, sA, nA, nilA, ho, hjl, hle0, hfk, hkn, hcur]) | intro _))
                all_goals first
                  | omega
                  | (have hjs : symN cur (j + 1) = j + 1 := by rw [hjw, if_pos (by assumption)]
                     ((refine weak_to [0, 4, 5, 6, 7, 8] [0] ?_ (by simp) (fun i h => by cases h); simp (maxSteps := 1000000) -implicitDefEqProofs only [go_sem, ↓reduceIte, reduceCtorEq, Nat.reduceEqDiff, Nat.reduceLT, Nat.reduceAdd, Nat.reduceLeDiff, Nat.reduceMul, Nat.reduceSub, Nat.reduceDiv, Nat.reduceMod, Int.reduceToNat, Int.reduceLT, Int.reduceLE, Int.reduceEq, Int.reduceAdd, Int.reduceSub, Int.reduceMul, Int.reduceNeg, Int.reduceTMod, Int.reduceTDiv, Int.reduceMod, Int.reduceDiv, Int.reduceBEq, Int.reduceBNe, Nat.reduceBEq, St.keep, hw3, hjs]; done)))
                  | (have hjs : symN cur (j + 1) = symN cur j := by rw [hjw, if_neg (by assumption)]
                     ((refine weak_to [0, 4, 5, 6, 7, 8] [0] ?_ (by simp) (fun i h => by cases h); simp (maxSteps := 1000000) -implicitDefEqProofs only [go_sem, ↓reduceIte, reduceCtorEq, Nat.reduceEqDiff, Nat.reduceLT, Nat.reduceAdd, Nat.reduceLeDiff, Nat.reduceMul, Nat.reduceSub, Nat.reduceDiv, Nat.reduceMod, Int.reduceToNat, Int.reduceLT, Int.reduceLE, Int.reduceEq, Int.reduceAdd, Int.reduceSub, Int.reduceMul, Int.reduceNeg, Int.reduceTMod, Int.reduceTDiv, Int.reduceMod, Int.reduceDiv, Int.reduceBEq, Int.reduceBNe, Nat.reduceBEq, St.keep, hw3, hjs]; done)))
              · have hjl : (((j + 1 : Nat) : Int) < 97) = False := eq_false (by omega)
                have hj6 : j = 96 := by omega
                subst hj6
                by_cases hs : symOf cur = 0
                · have hs0 : (((symN cur 96 : Nat) : Int) = 0) = True := eq_true (by unfold symOf at hs; omega)
                  rw [if_pos (.inl hs)] at h5
                  simp (maxSteps := 1000000) -implicitDefEqProofs only [go_sem, ↓reduceIte, reduceCtorEq, Nat.reduceEqDiff, Nat.reduceLT, Nat.reduceAdd, Nat.reduceLeDiff, Nat.reduceMul, Nat.reduceSub, Nat.reduceDiv, Nat.reduceMod, Int.reduceToNat, Int.reduceLT, Int.reduceLE, Int.reduceEq, Int.reduceAdd, Int.reduceSub, Int.reduceMul, Int.reduceNeg, Int.reduceTMod, Int.reduceTDiv, Int.reduceMod, Int.reduceDiv, Int.reduceBEq, Int.reduceBNe, Nat.reduceBEq, outA, outH, sA, nA, nilA, ho, hjl, hs0]
                  rw [← h5]; rfl
                · have hs0 : (((symN cur 96 : Nat) : Int) = 0) = False := eq_false (by unfold symOf at hs; omega)
                  by_cases he : k + 1 = text.length
                  · have gk : ((k : Int) == ((text.length - 1 : Nat) : Int)) = true := by rw [beq_iff_eq]; omega
                    have hd : (text.drop (k + 1) = []) = True := eq_true (by rw [List.drop_eq_nil_iff]; omega)
                    simp (maxSteps := 1000000) -implicitDefEqProofs only [go_sem, ↓reduceIte, reduceCtorEq, Nat.reduceEqDiff, Nat.reduceLT, Nat.reduceAdd, Nat.reduceLeDiff, Nat.reduceMul, Nat.reduceSub, Nat.reduceDiv, Nat.reduceMod, Int.reduceToNat, Int.reduceLT, Int.reduceLE, Int.reduceEq, Int.reduceAdd, Int.reduceSub, Int.reduceMul, Int.reduceNeg, Int.reduceTMod, Int.reduceTDiv, Int.reduceMod, Int.reduceDiv, Int.reduceBEq, Int.reduceBNe, Nat.reduceBEq, outA, outH, sA, nA, nilA, ho, hjl, hs0, g10, gk, ew]
                    first
                      | (rw [if_pos (.inr (by rw [c10, hd]; simp))] at h5
                         exact ⟨hk1, by rw [← h5]; rfl⟩)
                      | (rw [if_neg (by rw [c10, hd]; simp [hs])] at h5
                         (repeat' (first | exact trivial | contradiction | refine And.intro ?_ ?_ | (show (_ : Nat) ≤ _; omega) | (show (_ : Nat) < _; omega) | (show (_ : Int) ≤ _; omega) | (show (_ : Int) < _; omega)  | (refine wait_draw 1000 mixed (by decide +kernel) ?_; simp (maxSteps := 1000000) -implicitDefEqProofs only [go_sem, ↓reduceIte, reduceCtorEq, Nat.reduceEqDiff, Nat.reduceLT, Nat.reduceAdd, Nat.reduceLeDiff, Nat.reduceMul, Nat.reduceSub, Nat.reduceDiv, Nat.reduceMod, Int.reduceToNat, Int.reduceLT, Int.reduceLE, Int.reduceEq, Int.reduceAdd, Int.reduceSub, Int.reduceMul, Int.reduceNeg, Int.reduceTMod, Int.reduceTDiv, Int.reduceMod, Int.reduceDiv, Int.reduceBEq, Int.reduceBNe, Nat.reduceBEq]) | intro _))
                         all_goals first
                           | omega
                           | (rw [if_pos (by omega)] at h5; rw [← h5]; rfl)
                           | (rw [if_neg (by omega)] at h5
                              refine ⟨⟨k + 1, k + 1, out ++ [symOf cur]⟩, hμ, ⟨Nat.le_refl _, by show k + 1 ≤ _; omega, by show (out ++ [symOf cur]).length ≤ k + 1; simp; omega, by show (out ++ [symOf cur]).length ≤ 4096; simp; omega, ?_⟩, ?_⟩
                              · show goU (text.drop (k + 1)) (lastB text (k + 1)) ((text.take (k + 1)).drop (k + 1)) (out ++ [symOf cur]) = R
                                rw [show lastB text (k + 1) = text.getD k 0 by simp [lastB], show (text.take (k + 1)).drop (k + 1) = [] from List.drop_eq_nil_of_le (by rw [List.length_take]; omega)]
                                exact h5
                              · ((refine weak_to [0, 4, 5, 6] [2] ?_ (by simp) (fun i h => by cases h); simp (maxSteps := 1000000) -implicitDefEqProofs only [go_sem, ↓reduceIte, reduceCtorEq, Nat.reduceEqDiff, Nat.reduceLT, Nat.reduceAdd, Nat.reduceLeDiff, Nat.reduceMul, Nat.reduceSub, Nat.reduceDiv, Nat.reduceMod, Int.reduceToNat, Int.reduceLT, Int.reduceLE, Int.reduceEq, Int.reduceAdd, Int.reduceSub, Int.reduceMul, Int.reduceNeg, Int.reduceTMod, Int.reduceTDiv, Int.reduceMod, Int.reduceDiv, Int.reduceBEq, Int.reduceBNe, Nat.reduceBEq, St.keep, hw2, atS, outA, outH, sA, nilA, hne, hne', List.length_append, List.map_append, nA, symOf, ho]; done))))
                  · have gk : ((k : Int) == ((text.length - 1 : Nat) : Int)) = false := by rw [beq_eq_false_iff_ne]; omega
                    have hd : (text.drop (k + 1) = []) = False := eq_false (by rw [List.drop_eq_nil_iff]; omega)
                    simp (maxSteps := 1000000) -implicitDefEqProofs only [go_sem, ↓reduceIte, reduceCtorEq, Nat.reduceEqDiff, Nat.reduceLT, Nat.reduceAdd, Nat.reduceLeDiff, Nat.reduceMul, Nat.reduceSub, Nat.reduceDiv, Nat.reduceMod, Int.reduceToNat, Int.reduceLT, Int.reduceLE, Int.reduceEq, Int.reduceAdd, Int.reduceSub, Int.reduceMul, Int.reduceNeg, Int.reduceTMod, Int.reduceTDiv, Int.reduceMod, Int.reduceDiv, Int.reduceBEq, Int.reduceBNe, Nat.reduceBEq, outA, outH, sA, nA, nilA, ho, hjl, hs0, g10, gk, ew]
                    first
                      | (rw [if_pos (.inr (by rw [c10, hd]; simp))] at h5
                         exact ⟨hk1, by rw [← h5]; rfl⟩)
                      | (rw [if_neg (by rw [c10, hd]; simp [hs])] at h5
                         (repeat' (first | exact trivial | contradiction | refine And.intro ?_ ?_ | (show (_ : Nat) ≤ _; omega) | (show (_ : Nat) < _; omega) | (show (_ : Int) ≤ _; omega) | (show (_ : Int) < _; omega)  | (refine wait_draw 1000 mixed (by decide +kernel) ?_; simp (maxSteps := 1000000) -implicitDefEqProofs only [go_sem, ↓reduceIte, reduceCtorEq, Nat.reduceEqDiff, Nat.reduceLT, Nat.reduceAdd, Nat.reduceLeDiff, Nat.reduceMul, Nat.reduceSub, Nat.reduceDiv, Nat.reduceMod, Int.reduceToNat, Int.reduceLT, Int.reduceLE, Int.reduceEq, Int.reduceAdd, Int.reduceSub, Int.reduceMul, Int.reduceNeg, Int.reduceTMod, Int.reduceTDiv, Int.reduceMod, Int.reduceDiv, Int.reduceBEq, Int.reduceBNe, Nat.reduceBEq]) | intro _))
                         all_goals first
                           | omega
                           | (rw [if_pos (by omega)] at h5; rw [← h5]; rfl)
                           | (rw [if_neg (by omega)] at h5
                              refine ⟨⟨k + 1, k + 1, out ++ [symOf cur]⟩, hμ, ⟨Nat.le_refl _, by show k + 1 ≤ _; omega, by show (out ++ [symOf cur]).length ≤ k + 1; simp; omega, by show (out ++ [symOf cur]).length ≤ 4096; simp; omega, ?_⟩, ?_⟩
                              · show goU (text.drop (k + 1)) (lastB text (k + 1)) ((text.take (k + 1)).drop (k + 1)) (out ++ [symOf cur]) = R
                                rw [show lastB text (k + 1) = text.getD k 0 by simp [lastB], show (text.take (k + 1)).drop (k + 1) = [] from List.drop_eq_nil_of_le (by rw [List.length_take]; omega)]
                                exact h5
                              · ((refine weak_to [0, 4, 5, 6] [2] ?_ (by simp) (fun i h => by cases h); simp (maxSteps := 1000000) -implicitDefEqProofs only [go_sem, ↓reduceIte, reduceCtorEq, Nat.reduceEqDiff, Nat.reduceLT, Nat.reduceAdd, Nat.reduceLeDiff, Nat.reduceMul, Nat.reduceSub, Nat.reduceDiv, Nat.reduceMod, Int.reduceToNat, Int.reduceLT, Int.reduceLE, Int.reduceEq, Int.reduceAdd, Int.reduceSub, Int.reduceMul, Int.reduceNeg, Int.reduceTMod, Int.reduceTDiv, Int.reduceMod, Int.reduceDiv, Int.reduceBEq, Int.reduceBNe, Nat.reduceBEq, St.keep, hw2, atS, outA, outH, sA, nilA, hne, hne', List.length_append, List.map_append, nA, symOf, ho]; done))))
          
        
    · have hlt : ((k : Int) < (text.length : Int)) = False := eq_false (by omega)
      have hkn : k = text.length := by omega
      subst hkn
      rw [List.drop_length, List.take_length] at h5
      unfold goU at h5
      by_cases ho : out = []
      · subst ho
        simp (maxSteps := 1000000) -implicitDefEqProofs only [go_sem, ↓reduceIte, reduceCtorEq, Nat.reduceEqDiff, Nat.reduceLT, Nat.reduceAdd, Nat.reduceLeDiff, Nat.reduceMul, Nat.reduceSub, Nat.reduceDiv, Nat.reduceMod, Int.reduceToNat, Int.reduceLT, Int.reduceLE, Int.reduceEq, Int.reduceAdd, Int.reduceSub, Int.reduceMul, Int.reduceNeg, Int.reduceTMod, Int.reduceTDiv, Int.reduceMod, Int.reduceDiv, Int.reduceBEq, Int.reduceBNe, Nat.reduceBEq, atS, outA, outH, sA, nilA, hlt]
        rw [← h5]
        simp [unA, nilA, iA]
      · have hol : ((out.length : Int) = 0) = False := eq_false (by have := List.length_pos_iff.2 ho; omega)
        have hop := List.length_pos_iff.2 ho
        have ew : IntKind.i64.wrap ((text.length : Int) - 1) = ((text.length - 1 : Nat) : Int) := by rw [wrap64 (by omega) (by omega)]; omega
        have hz : (0 ≤ ((text.length - 1 : Nat) : Int)) = True := eq_true (by omega)
        have hz' : (((text.length - 1 : Nat) : Int) < (text.length : Int)) = True := eq_true (by omega)
        have hlast : lastB text text.length = text.getD (text.length - 1) 0 := by unfold lastB; rw [if_neg (by omega)]
        have htk : (out.map nA).take out.length = out.map nA := List.take_of_length_le (by simp)
        rw [hlast] at h5
        by_cases hf : f = text.length
        · have ff : ((f : Int) = (text.length : Int)) = True := eq_true (by omega)
          by_cases hc : text.getD (text.length - 1) 0 = 10
          · have f2 : (((text.getD (text.length - 1) 0).toNat : Int) = 10) = True := by rw [u10]; exact eq_true hc
            rw [if_neg (by rw [hf, List.drop_length]; simp [ho]; exact hc)] at h5
            simp (maxSteps := 1000000) -implicitDefEqProofs only [go_sem, ↓reduceIte, reduceCtorEq, Nat.reduceEqDiff, Nat.reduceLT, Nat.reduceAdd, Nat.reduceLeDiff, Nat.reduceMul, Nat.reduceSub, Nat.reduceDiv, Nat.reduceMod, Int.reduceToNat, Int.reduceLT, Int.reduceLE, Int.reduceEq, Int.reduceAdd, Int.reduceSub, Int.reduceMul, Int.reduceNeg, Int.reduceTMod, Int.reduceTDiv, Int.reduceMod, Int.reduceDiv, Int.reduceBEq, Int.reduceBNe, Nat.reduceBEq, atS, outA, outH, sA, nilA, hlt, ho, hol, ew, hz, hz', ff, f2, htk]
            rw [← h5]; rfl
          · have f2 : (((text.getD (text.length - 1) 0).toNat : Int) = 10) = False := by rw [u10]; exact eq_false hc
            rw [if_pos (.inr (.inr hc))] at h5
            simp (maxSteps := 1000000) -implicitDefEqProofs only [go_sem, ↓reduceIte, reduceCtorEq, Nat.reduceEqDiff, Nat.reduceLT, Nat.reduceAdd, Nat.reduceLeDiff, Nat.reduceMul, Nat.reduceSub, Nat.reduceDiv, Nat.reduceMod, Int.reduceToNat, Int.reduceLT, Int.reduceLE, Int.reduceEq, Int.reduceAdd, Int.reduceSub, Int.reduceMul, Int.reduceNeg, Int.reduceTMod, Int.reduceTDiv, Int.reduceMod, Int.reduceDiv, Int.reduceBEq, Int.reduceBNe, Nat.reduceBEq, atS, outA, outH, sA, nilA, hlt, ho, hol, ew, hz, hz', ff, f2]
            rw [← h5]; rfl
        · have ff : ((f : Int) = (text.length : Int)) = False := eq_false (by omega)
          rw [if_pos (.inr (.inl (by intro e; rw [List.drop_eq_nil_iff] at e; omega)))] at h5
          simp (maxSteps := 1000000) -implicitDefEqProofs only [go_sem, ↓reduceIte, reduceCtorEq, Nat.reduceEqDiff, Nat.reduceLT, Nat.reduceAdd, Nat.reduceLeDiff, Nat.reduceMul, Nat.reduceSub, Nat.reduceDiv, Nat.reduceMod, Int.reduceToNat, Int.reduceLT, Int.reduceLE, Int.reduceEq, Int.reduceAdd, Int.reduceSub, Int.reduceMul, Int.reduceNeg, Int.reduceTMod, Int.reduceTDiv, Int.reduceMod, Int.reduceDiv, Int.reduceBEq, Int.reduceBNe, Nat.reduceBEq, atS, outA, outH, sA, nilA, hlt, ho, hol, ew, hz, hz', ff]
          rw [← h5]; rfl
end Go.Proofs.YtiipggfhjkalfaaDoor
