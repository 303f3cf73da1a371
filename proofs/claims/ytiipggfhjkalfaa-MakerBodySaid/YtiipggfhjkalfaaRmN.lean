/- What a tape means, the document's way: places in order. -/
import Derived.Test.YtiipggfhjkalfaaProg
import Derived.Test.YtiipggfhjkalfaaPmU
import Derived.Test.YtiipggfhjkalfaaRmM
set_option linter.unusedSimpArgs false
set_option linter.unusedVariables false
set_option maxRecDepth 20000
open Go Go.Proofs
namespace Go.Proofs.Ytiipggfhjkalfaa
open Pm
attribute [local irreducible] Wait CallT CallW NextT Le Weak
/-- Two lists put together, one behind the other. -/
structure MInv (l A B O : List Ce) : Prop where
  sa : A.Pairwise (fun a b => leC a b = true)
  sb : B.Pairwise (fun a b => leC a b = true)
  so : O.Pairwise (fun a b => leC a b = true)
  le : ∀ o ∈ O, ∀ x ∈ A ++ B, leC o x = true
  pm : (O ++ (A ++ B)).Perm l
theorem MInv.takeA {l A B O : List Ce} {a : Ce} (h : MInv l (a :: A) B O) (hb : ∀ x ∈ B, leC a x = true) : MInv l A B (O ++ [a]) := by
  refine ⟨(List.pairwise_cons.1 h.sa).2, h.sb, List.pairwise_append.2 ⟨h.so, by simp, fun o ho x hx => ?_⟩, fun o ho x hx => ?_, ?_⟩
  · rw [List.mem_singleton.1 hx]; exact h.le o ho a (by simp)
  · rcases List.mem_append.1 ho with ho | ho
    · refine h.le o ho x ?_
      rcases List.mem_append.1 hx with hx | hx
      · simp [hx]
      · simp [hx]
    · rw [List.mem_singleton.1 ho]
      rcases List.mem_append.1 hx with hx | hx
      · exact (List.pairwise_cons.1 h.sa).1 x hx
      · exact hb x hx
  · refine List.Perm.trans ?_ h.pm
    simp
theorem MInv.takeB {l A B O : List Ce} {b : Ce} (h : MInv l A (b :: B) O) (ha : ∀ x ∈ A, leC b x = true) : MInv l A B (O ++ [b]) := by
  refine ⟨h.sa, (List.pairwise_cons.1 h.sb).2, List.pairwise_append.2 ⟨h.so, by simp, fun o ho x hx => ?_⟩, fun o ho x hx => ?_, ?_⟩
  · rw [List.mem_singleton.1 hx]; exact h.le o ho b (by simp)
  · rcases List.mem_append.1 ho with ho | ho
    · refine h.le o ho x ?_
      rcases List.mem_append.1 hx with hx | hx
      · simp [hx]
      · simp [hx]
    · rw [List.mem_singleton.1 ho]
      rcases List.mem_append.1 hx with hx | hx
      · exact ha x hx
      · exact (List.pairwise_cons.1 h.sb).1 x hx
  · refine List.Perm.trans ?_ h.pm
    rw [List.append_assoc]
    refine List.Perm.append_left O ?_
    simpa using (List.perm_middle (a := b) (l₁ := A) (l₂ := B)).symm
theorem MInv.other {l A B O : List Ce} (h : MInv l A B O) (hn : (l.map Prod.fst).Nodup) {o c : Ce} (ho : o ∈ O) (hc : c ∈ A ++ B) : o.1 ≠ c.1 := by
  have h1 : ((O ++ (A ++ B)).map Prod.fst).Nodup := (h.pm.map _).nodup_iff.2 hn
  rw [List.map_append] at h1
  exact (List.nodup_append.1 h1).2.2 _ (List.mem_map_of_mem ho) _ (List.mem_map_of_mem hc)
theorem MInv.done {l O : List Ce} (h : MInv l [] [] O) (hn : (l.map Prod.fst).Nodup) : O = sortC l := sortC_uniq (by simpa using h.pm) h.so hn
theorem sortC_small {l : List Ce} (h : l.length < 2) : sortC l = l := by
  match l, h with
  | [], _ => simp [sortC]
  | [a], _ => simp [sortC]
theorem ceL_takeN (l : List Ce) (n : Nat) : (ceL l).take n = ceL (l.take n) := by simp [ceL, List.map_take]
theorem ceL_dropN (l : List Ce) (n : Nat) : (ceL l).drop n = ceL (l.drop n) := by simp [ceL, List.map_drop]
theorem ceL_get (l : List Ce) (k : Nat) (h : k < l.length) : (ceL l).getD k .junk = .agg [.v (.int .i64 (l.getD k default).1.1), .v (.int .i64 (l.getD k default).1.2), .v (.int .i64 (l.getD k default).2)] := by
  simp [ceL, ceA, List.getD_eq_getElem?_getD, h]
theorem ceL_cons (a : Ce) (l : List Ce) : ceL (a :: l) = .agg [.v (.int .i64 a.1.1), .v (.int .i64 a.1.2), .v (.int .i64 a.2)] :: ceL l := rfl
theorem ceL_nil : ceL [] = [] := rfl
def msS (p : List Ce × List Ce × List Ce) : St := if p.2.2 = [] then ⟨114, 0, [(3, .fsl 3 (ceL p.1)), (4, .fsl 3 (ceL p.2.1)), (5, .v (.slice none 0 0))], []⟩
  else ⟨114, 0, [(3, .fsl 3 (ceL p.1)), (4, .fsl 3 (ceL p.2.1)), (5, .sl 0 3 0 p.2.2.length)], [some (.row 33 3 (ceL p.2.2))]⟩
theorem msS_ne (A B Q : List Ce) (h : Q ≠ []) : msS (A, B, Q) = ⟨114, 0, [(3, .fsl 3 (ceL A)), (4, .fsl 3 (ceL B)), (5, .sl 0 3 0 Q.length)], [some (.row 33 3 (ceL Q))]⟩ := if_neg h
theorem ce_eta (a : Ce) : (((a.1.1, a.1.2), a.2) : Ce) = a := rfl
set_option maxHeartbeats 4000000 in
theorem rsorted_pc : ∀ (n : Nat) (l : List Ce), l.length ≤ n → (l.map Prod.fst).Nodup → l.length < 1000000000000 → PCon Try.prog 78 [.fsl 3 (ceL l)] (· = .fsl 3 (ceL (sortC l)))
  | n, l, hl, hn, hs => by
    refine PCon.upto (pcon_run 1000 Try.func78 rfl Try.results78 Try.ntmps78 (Nat.le_of_ble_eq_true rfl) ?_)
    by_cases h2 : l.length < 2
    · have c1 : ((l.length : Int) < 2) = True := eq_true (by omega)
      simp (maxSteps := 1000000) -implicitDefEqProofs only [go_sem, ↓reduceIte, reduceCtorEq, Nat.reduceEqDiff, Nat.reduceLT, Nat.reduceAdd, Nat.reduceLeDiff, Nat.reduceMul, Nat.reduceSub, Int.reduceToNat, Int.reduceLT, Int.reduceLE, Int.reduceEq, Int.reduceBNe, Nat.reduceBEq, c1]
      rw [sortC_small h2]
      exact Le.refl _
    · have c1 : ((l.length : Int) < 2) = False := eq_false (by omega)
      obtain ⟨m, hm⟩ : ∃ m, m = l.length / 2 := ⟨_, rfl⟩
      have e1 : (l.length : Int).tdiv 2 = (m : Int) := by rw [Int.tdiv_eq_ediv_of_nonneg (by omega)]; omega
      have e2 : IntKind.i64.wrap (m : Int) = (m : Int) := wrap64 (by omega) (by omega)
      have c2 : (m ≤ l.length) = True := eq_true (by omega)
      have c3 : ((m : Int) ≤ (l.length : Int)) = True := eq_true (by omega)
      match n, hl with
      | 0, hl => omega
      | n + 1, hl =>
        have hA := rsorted_pc n (l.take m) (by rw [List.length_take]; omega) (hn.sublist ((List.take_sublist _ _).map _)) (by rw [List.length_take]; omega)
        have hB := rsorted_pc n (l.drop m) (by rw [List.length_drop]; omega) (hn.sublist ((List.drop_sublist _ _).map _)) (by rw [List.length_drop]; omega)
        simp (maxSteps := 1000000) -implicitDefEqProofs only [go_sem, ↓reduceIte, reduceCtorEq, Nat.reduceEqDiff, Nat.reduceLT, Nat.reduceAdd, Nat.reduceLeDiff, Nat.reduceMul, Nat.reduceSub, Int.reduceToNat, Int.reduceLT, Int.reduceLE, Int.reduceEq, Int.reduceBNe, Nat.reduceBEq, c1, e1, e2, c2, c3, ceL_takeN, ceL_dropN, List.length_drop]
        (repeat' (first | exact trivial | contradiction | exact ⟨_, rfl⟩ | refine And.intro ?_ ?_ | ((first | show (_ : Nat) ≤ _ | show (_ : Nat) < _ | show (_ : Int) ≤ _ | show (_ : Int) < _); omega) | (refine wait_draw 1000 mixed (by decide +kernel) ?_; simp (maxSteps := 1000000) -implicitDefEqProofs only [go_sem, ↓reduceIte, reduceCtorEq, Nat.reduceEqDiff, Nat.reduceLT, Nat.reduceAdd, Nat.reduceLeDiff, Nat.reduceMul, Nat.reduceSub, Int.reduceToNat, Int.reduceLT, Int.reduceLE, Int.reduceEq, Int.reduceBNe, Nat.reduceBEq, c1, e1, e2, c2, c3, ceL_takeN, ceL_dropN, List.length_drop]) | (refine call_eq 1000 (hA) ?_ ?_ rfl; (focus (simp (maxSteps := 1000000) -implicitDefEqProofs only [go_sem, ↓reduceIte, reduceCtorEq, Nat.reduceEqDiff, Nat.reduceLT, Nat.reduceAdd, Nat.reduceLeDiff, Nat.reduceMul, Nat.reduceSub, Int.reduceToNat, Int.reduceLT, Int.reduceLE, Int.reduceEq, Int.reduceBNe, Nat.reduceBEq, c1, e1, e2, c2, c3, ceL_takeN, ceL_dropN, List.length_drop]; done)); simp (maxSteps := 1000000) -implicitDefEqProofs only [go_sem, ↓reduceIte, reduceCtorEq, Nat.reduceEqDiff, Nat.reduceLT, Nat.reduceAdd, Nat.reduceLeDiff, Nat.reduceMul, Nat.reduceSub, Int.reduceToNat, Int.reduceLT, Int.reduceLE, Int.reduceEq, Int.reduceBNe, Nat.reduceBEq, c1, e1, e2, c2, c3, ceL_takeN, ceL_dropN, List.length_drop]) | (refine call_draw 1000 (hA) ?_ ?_; (focus (simp (maxSteps := 1000000) -implicitDefEqProofs only [go_sem, ↓reduceIte, reduceCtorEq, Nat.reduceEqDiff, Nat.reduceLT, Nat.reduceAdd, Nat.reduceLeDiff, Nat.reduceMul, Nat.reduceSub, Int.reduceToNat, Int.reduceLT, Int.reduceLE, Int.reduceEq, Int.reduceBNe, Nat.reduceBEq, c1, e1, e2, c2, c3, ceL_takeN, ceL_dropN, List.length_drop]; done)); simp (maxSteps := 1000000) -implicitDefEqProofs only [go_sem, ↓reduceIte, reduceCtorEq, Nat.reduceEqDiff, Nat.reduceLT, Nat.reduceAdd, Nat.reduceLeDiff, Nat.reduceMul, Nat.reduceSub, Int.reduceToNat, Int.reduceLT, Int.reduceLE, Int.reduceEq, Int.reduceBNe, Nat.reduceBEq, c1, e1, e2, c2, c3, ceL_takeN, ceL_dropN, List.length_drop]) | (refine call_eq 1000 (hB) ?_ ?_ rfl; (focus (simp (maxSteps := 1000000) -implicitDefEqProofs only [go_sem, ↓reduceIte, reduceCtorEq, Nat.reduceEqDiff, Nat.reduceLT, Nat.reduceAdd, Nat.reduceLeDiff, Nat.reduceMul, Nat.reduceSub, Int.reduceToNat, Int.reduceLT, Int.reduceLE, Int.reduceEq, Int.reduceBNe, Nat.reduceBEq, c1, e1, e2, c2, c3, ceL_takeN, ceL_dropN, List.length_drop]; done)); simp (maxSteps := 1000000) -implicitDefEqProofs only [go_sem, ↓reduceIte, reduceCtorEq, Nat.reduceEqDiff, Nat.reduceLT, Nat.reduceAdd, Nat.reduceLeDiff, Nat.reduceMul, Nat.reduceSub, Int.reduceToNat, Int.reduceLT, Int.reduceLE, Int.reduceEq, Int.reduceBNe, Nat.reduceBEq, c1, e1, e2, c2, c3, ceL_takeN, ceL_dropN, List.length_drop]) | (refine call_draw 1000 (hB) ?_ ?_; (focus (simp (maxSteps := 1000000) -implicitDefEqProofs only [go_sem, ↓reduceIte, reduceCtorEq, Nat.reduceEqDiff, Nat.reduceLT, Nat.reduceAdd, Nat.reduceLeDiff, Nat.reduceMul, Nat.reduceSub, Int.reduceToNat, Int.reduceLT, Int.reduceLE, Int.reduceEq, Int.reduceBNe, Nat.reduceBEq, c1, e1, e2, c2, c3, ceL_takeN, ceL_dropN, List.length_drop]; done)); simp (maxSteps := 1000000) -implicitDefEqProofs only [go_sem, ↓reduceIte, reduceCtorEq, Nat.reduceEqDiff, Nat.reduceLT, Nat.reduceAdd, Nat.reduceLeDiff, Nat.reduceMul, Nat.reduceSub, Int.reduceToNat, Int.reduceLT, Int.reduceLE, Int.reduceEq, Int.reduceBNe, Nat.reduceBEq, c1, e1, e2, c2, c3, ceL_takeN, ceL_dropN, List.length_drop]) | intro _))
        refine wait_data msS (fun p => MInv l p.1 p.2.1 p.2.2) (fun p => p.1.length + p.2.1.length) (sortC (l.take m), sortC (l.drop m), []) (weak_to [3, 4, 5] [] ?_ (by simp) (fun i h => by cases h)) ?_ ?_
        · rw [show msS (sortC (l.take m), sortC (l.drop m), []) = _ from if_pos rfl]
          simp (maxSteps := 1000000) -implicitDefEqProofs only [go_sem, ↓reduceIte, reduceCtorEq, Nat.reduceEqDiff, Nat.reduceLT, Nat.reduceAdd, Nat.reduceLeDiff, Nat.reduceMul, Nat.reduceSub, Int.reduceToNat, Int.reduceLT, Int.reduceLE, Int.reduceEq, Int.reduceBNe, Nat.reduceBEq, St.keep]
        · refine ⟨sortC_sorted _, sortC_sorted _, .nil, fun o ho => by simp at ho, ?_⟩
          rw [List.nil_append]
          exact ((sortC_perm _).append (sortC_perm _)).trans (by rw [List.take_append_drop])
        · rintro ⟨A, B, O⟩ hI
          simp only at hI
          have hlen := hI.pm.length_eq
          simp only [List.length_append] at hlen
          refine run_sound 1000 _ _ ?_
          by_cases hO0 : O = []
          · subst hO0
            rw [show msS (A, B, []) = ⟨114, 0, [(3, .fsl 3 (ceL A)), (4, .fsl 3 (ceL B)), (5, .v (.slice none 0 0))], []⟩ from if_pos rfl]
            cases A with
            | nil =>
              cases B with
              | nil =>
                simp (maxSteps := 1000000) -implicitDefEqProofs only [go_sem, ↓reduceIte, reduceCtorEq, Nat.reduceEqDiff, Nat.reduceLT, Nat.reduceAdd, Nat.reduceLeDiff, Nat.reduceMul, Nat.reduceSub, Int.reduceToNat, Int.reduceLT, Int.reduceLE, Int.reduceEq, Int.reduceBNe, Nat.reduceBEq, ceL_nil]
                rw [← hI.done hn]
                exact Le.nil 3
              | cons b B =>
                have r1 : (0 < ((B.length + 1 : Nat) : Int)) = True := eq_true (by omega)
                have r2 : (((B.length + 1 : Nat) : Int) = 0) = False := eq_false (by omega)
                simp (maxSteps := 1000000) -implicitDefEqProofs only [go_sem, ↓reduceIte, reduceCtorEq, Nat.reduceEqDiff, Nat.reduceLT, Nat.reduceAdd, Nat.reduceLeDiff, Nat.reduceMul, Nat.reduceSub, Int.reduceToNat, Int.reduceLT, Int.reduceLE, Int.reduceEq, Int.reduceBNe, Nat.reduceBEq, ceL_cons, ceL_nil, r1, r2]
                (repeat' (first | exact trivial | contradiction | exact ⟨_, rfl⟩ | refine And.intro ?_ ?_ | ((first | show (_ : Nat) ≤ _ | show (_ : Nat) < _ | show (_ : Int) ≤ _ | show (_ : Int) < _); omega) | (refine wait_draw 1000 mixed (by decide +kernel) ?_; simp (maxSteps := 1000000) -implicitDefEqProofs only [go_sem, ↓reduceIte, reduceCtorEq, Nat.reduceEqDiff, Nat.reduceLT, Nat.reduceAdd, Nat.reduceLeDiff, Nat.reduceMul, Nat.reduceSub, Int.reduceToNat, Int.reduceLT, Int.reduceLE, Int.reduceEq, Int.reduceBNe, Nat.reduceBEq , ceL_cons, ceL_nil, r1, r2]) | intro _))
                all_goals first
                | (have hI2 := hI.takeB (fun x hx => by cases hx)
                   refine ⟨([], B, [] ++ [b]), ?_, hI2, ?_⟩
                   · simp only [List.length_cons, List.length_nil]; omega
                   · rw [msS_ne _ _ _ (by simp)]
                     refine weak_to [3, 4, 5] [2] ?_ (by simp) (fun i h => by cases h)
                     simp (maxSteps := 1000000) -implicitDefEqProofs only [go_sem, ↓reduceIte, reduceCtorEq, Nat.reduceEqDiff, Nat.reduceLT, Nat.reduceAdd, Nat.reduceLeDiff, Nat.reduceMul, Nat.reduceSub, Int.reduceToNat, Int.reduceLT, Int.reduceLE, Int.reduceEq, Int.reduceBNe, Nat.reduceBEq, St.keep, ceL_cons, ceL_nil, ce_eta, List.length_append])
            | cons a A =>
              cases B with
              | nil =>
                have r1 : (0 < ((A.length + 1 : Nat) : Int)) = True := eq_true (by omega)
                simp (maxSteps := 1000000) -implicitDefEqProofs only [go_sem, ↓reduceIte, reduceCtorEq, Nat.reduceEqDiff, Nat.reduceLT, Nat.reduceAdd, Nat.reduceLeDiff, Nat.reduceMul, Nat.reduceSub, Int.reduceToNat, Int.reduceLT, Int.reduceLE, Int.reduceEq, Int.reduceBNe, Nat.reduceBEq, ceL_cons, ceL_nil, r1]
                (repeat' (first | exact trivial | contradiction | exact ⟨_, rfl⟩ | refine And.intro ?_ ?_ | ((first | show (_ : Nat) ≤ _ | show (_ : Nat) < _ | show (_ : Int) ≤ _ | show (_ : Int) < _); omega) | (refine wait_draw 1000 mixed (by decide +kernel) ?_; simp (maxSteps := 1000000) -implicitDefEqProofs only [go_sem, ↓reduceIte, reduceCtorEq, Nat.reduceEqDiff, Nat.reduceLT, Nat.reduceAdd, Nat.reduceLeDiff, Nat.reduceMul, Nat.reduceSub, Int.reduceToNat, Int.reduceLT, Int.reduceLE, Int.reduceEq, Int.reduceBNe, Nat.reduceBEq , ceL_cons, ceL_nil, r1]) | intro _))
                all_goals first
                | (have hI2 := hI.takeA (fun x hx => by cases hx)
                   refine ⟨(A, [], [] ++ [a]), ?_, hI2, ?_⟩
                   · simp only [List.length_cons, List.length_nil]; omega
                   · rw [msS_ne _ _ _ (by simp)]
                     refine weak_to [3, 4, 5] [2] ?_ (by simp) (fun i h => by cases h)
                     simp (maxSteps := 1000000) -implicitDefEqProofs only [go_sem, ↓reduceIte, reduceCtorEq, Nat.reduceEqDiff, Nat.reduceLT, Nat.reduceAdd, Nat.reduceLeDiff, Nat.reduceMul, Nat.reduceSub, Int.reduceToNat, Int.reduceLT, Int.reduceLE, Int.reduceEq, Int.reduceBNe, Nat.reduceBEq, St.keep, ceL_cons, ceL_nil, ce_eta, List.length_append])
              | cons b B =>
                have r1 : (0 < ((A.length + 1 : Nat) : Int)) = True := eq_true (by omega)
                have r2 : (((B.length + 1 : Nat) : Int) = 0) = False := eq_false (by omega)
                simp (maxSteps := 1000000) -implicitDefEqProofs only [go_sem, ↓reduceIte, reduceCtorEq, Nat.reduceEqDiff, Nat.reduceLT, Nat.reduceAdd, Nat.reduceLeDiff, Nat.reduceMul, Nat.reduceSub, Int.reduceToNat, Int.reduceLT, Int.reduceLE, Int.reduceEq, Int.reduceBNe, Nat.reduceBEq, ceL_cons, ceL_nil, r1, r2]
                (repeat' (first | exact trivial | contradiction | exact ⟨_, rfl⟩ | refine And.intro ?_ ?_ | ((first | show (_ : Nat) ≤ _ | show (_ : Nat) < _ | show (_ : Int) ≤ _ | show (_ : Int) < _); omega) | (refine wait_draw 1000 mixed (by decide +kernel) ?_; simp (maxSteps := 1000000) -implicitDefEqProofs only [go_sem, ↓reduceIte, reduceCtorEq, Nat.reduceEqDiff, Nat.reduceLT, Nat.reduceAdd, Nat.reduceLeDiff, Nat.reduceMul, Nat.reduceSub, Int.reduceToNat, Int.reduceLT, Int.reduceLE, Int.reduceEq, Int.reduceBNe, Nat.reduceBEq , ceL_cons, ceL_nil, r1, r2]) | intro _))
                all_goals first
                | (have hab : leC a b = true := by simp only [leC, decide_eq_true_eq]; omega
                   have hle : ∀ x ∈ b :: B, leC a x = true := fun x hx => by
                     rcases List.mem_cons.1 hx with e | hx
                     · rw [e]; exact hab
                     · exact leC_trans _ _ _ hab ((List.pairwise_cons.1 hI.sb).1 x hx)
                   have hI2 := hI.takeA hle
                   refine ⟨(A, b :: B, [] ++ [a]), ?_, hI2, ?_⟩
                   · simp only [List.length_cons, List.length_nil]; omega
                   · rw [msS_ne _ _ _ (by simp)]
                     refine weak_to [3, 4, 5] [2] ?_ (by simp) (fun i h => by cases h)
                     simp (maxSteps := 1000000) -implicitDefEqProofs only [go_sem, ↓reduceIte, reduceCtorEq, Nat.reduceEqDiff, Nat.reduceLT, Nat.reduceAdd, Nat.reduceLeDiff, Nat.reduceMul, Nat.reduceSub, Int.reduceToNat, Int.reduceLT, Int.reduceLE, Int.reduceEq, Int.reduceBNe, Nat.reduceBEq, St.keep, ceL_cons, ceL_nil, ce_eta, List.length_append])
                | (have hab : leC b a = true := by simp only [leC, decide_eq_true_eq]; omega
                   have hle : ∀ x ∈ a :: A, leC b x = true := fun x hx => by
                     rcases List.mem_cons.1 hx with e | hx
                     · rw [e]; exact hab
                     · exact leC_trans _ _ _ hab ((List.pairwise_cons.1 hI.sa).1 x hx)
                   have hI2 := hI.takeB hle
                   refine ⟨(a :: A, B, [] ++ [b]), ?_, hI2, ?_⟩
                   · simp only [List.length_cons, List.length_nil]; omega
                   · rw [msS_ne _ _ _ (by simp)]
                     refine weak_to [3, 4, 5] [2] ?_ (by simp) (fun i h => by cases h)
                     simp (maxSteps := 1000000) -implicitDefEqProofs only [go_sem, ↓reduceIte, reduceCtorEq, Nat.reduceEqDiff, Nat.reduceLT, Nat.reduceAdd, Nat.reduceLeDiff, Nat.reduceMul, Nat.reduceSub, Int.reduceToNat, Int.reduceLT, Int.reduceLE, Int.reduceEq, Int.reduceBNe, Nat.reduceBEq, St.keep, ceL_cons, ceL_nil, ce_eta, List.length_append])
          · rw [show msS (A, B, O) = ⟨114, 0, [(3, .fsl 3 (ceL A)), (4, .fsl 3 (ceL B)), (5, .sl 0 3 0 O.length)], [some (.row 33 3 (ceL O))]⟩ from if_neg hO0]
            obtain ⟨j, hj⟩ : ∃ j, O.length = j + 1 := ⟨O.length - 1, by have := List.length_pos_iff.2 hO0; omega⟩
            have hjl := ceL_get O j (by omega)
            have hjm : O.getD j default ∈ O := by rw [List.getD_eq_getElem?_getD, List.getElem?_eq_getElem (by omega)]; exact List.getElem_mem _
            have hjo : ∀ c ∈ A ++ B, (O.getD j default).1 ≠ c.1 := fun c hc => hI.other hn hjm hc
            generalize O.getD j default = o at hjl hjm hjo
            have q1 : (((j + 1 : Nat) : Int) = 0) = False := eq_false (by omega)
            have q2 : IntKind.i64.wrap (((j + 1 : Nat) : Int) - 1) = (j : Int) := by rw [wrap64 (by omega) (by omega)]; omega
            have q3 : (j < j + 1) = True := eq_true (by omega)
            have q4 : ((j : Int) < ((j + 1 : Nat) : Int)) = True := eq_true (by omega)
            have hst : (ceL O).take (j + 1) = ceL O := by rw [← hj]; exact ceL_take _
            rw [hj]
            cases A with
            | nil =>
              cases B with
              | nil =>
                simp (maxSteps := 1000000) -implicitDefEqProofs only [go_sem, ↓reduceIte, reduceCtorEq, Nat.reduceEqDiff, Nat.reduceLT, Nat.reduceAdd, Nat.reduceLeDiff, Nat.reduceMul, Nat.reduceSub, Int.reduceToNat, Int.reduceLT, Int.reduceLE, Int.reduceEq, Int.reduceBNe, Nat.reduceBEq, ceL_nil, hj, hjl, q1, q2, q3, q4, hst]
                rw [← hI.done hn]
                exact Le.refl _
              | cons b B =>
                have r1 : (0 < ((B.length + 1 : Nat) : Int)) = True := eq_true (by omega)
                have r2 : (((B.length + 1 : Nat) : Int) = 0) = False := eq_false (by omega)
                simp (maxSteps := 1000000) -implicitDefEqProofs only [go_sem, ↓reduceIte, reduceCtorEq, Nat.reduceEqDiff, Nat.reduceLT, Nat.reduceAdd, Nat.reduceLeDiff, Nat.reduceMul, Nat.reduceSub, Int.reduceToNat, Int.reduceLT, Int.reduceLE, Int.reduceEq, Int.reduceBNe, Nat.reduceBEq, ceL_cons, ceL_nil, r1, r2, hj, hjl, q1, q2, q3, q4]
                (repeat' (first | exact trivial | contradiction | exact ⟨_, rfl⟩ | refine And.intro ?_ ?_ | ((first | show (_ : Nat) ≤ _ | show (_ : Nat) < _ | show (_ : Int) ≤ _ | show (_ : Int) < _); omega) | (refine wait_draw 1000 mixed (by decide +kernel) ?_; simp (maxSteps := 1000000) -implicitDefEqProofs only [go_sem, ↓reduceIte, reduceCtorEq, Nat.reduceEqDiff, Nat.reduceLT, Nat.reduceAdd, Nat.reduceLeDiff, Nat.reduceMul, Nat.reduceSub, Int.reduceToNat, Int.reduceLT, Int.reduceLE, Int.reduceEq, Int.reduceBNe, Nat.reduceBEq , ceL_cons, ceL_nil, r1, r2, hj, hjl, q1, q2, q3, q4]) | intro _))
                all_goals first
                | exact absurd (Prod.ext ‹_› ‹_›) (hjo b (by simp))
                | (have hI2 := hI.takeB (fun x hx => by cases hx)
                   refine ⟨([], B, O ++ [b]), ?_, hI2, ?_⟩
                   · simp only [List.length_cons, List.length_nil]; omega
                   · rw [msS_ne _ _ _ (by simp)]
                     refine weak_to [3, 4, 5] [3] ?_ (by simp) (fun i h => by cases h)
                     simp (maxSteps := 1000000) -implicitDefEqProofs only [go_sem, ↓reduceIte, reduceCtorEq, Nat.reduceEqDiff, Nat.reduceLT, Nat.reduceAdd, Nat.reduceLeDiff, Nat.reduceMul, Nat.reduceSub, Int.reduceToNat, Int.reduceLT, Int.reduceLE, Int.reduceEq, Int.reduceBNe, Nat.reduceBEq, St.keep, ceL_cons, ceL_nil, ce_eta, List.length_append, hj])
            | cons a A =>
              cases B with
              | nil =>
                have r1 : (0 < ((A.length + 1 : Nat) : Int)) = True := eq_true (by omega)
                simp (maxSteps := 1000000) -implicitDefEqProofs only [go_sem, ↓reduceIte, reduceCtorEq, Nat.reduceEqDiff, Nat.reduceLT, Nat.reduceAdd, Nat.reduceLeDiff, Nat.reduceMul, Nat.reduceSub, Int.reduceToNat, Int.reduceLT, Int.reduceLE, Int.reduceEq, Int.reduceBNe, Nat.reduceBEq, ceL_cons, ceL_nil, r1, hj, hjl, q1, q2, q3, q4]
                (repeat' (first | exact trivial | contradiction | exact ⟨_, rfl⟩ | refine And.intro ?_ ?_ | ((first | show (_ : Nat) ≤ _ | show (_ : Nat) < _ | show (_ : Int) ≤ _ | show (_ : Int) < _); omega) | (refine wait_draw 1000 mixed (by decide +kernel) ?_; simp (maxSteps := 1000000) -implicitDefEqProofs only [go_sem, ↓reduceIte, reduceCtorEq, Nat.reduceEqDiff, Nat.reduceLT, Nat.reduceAdd, Nat.reduceLeDiff, Nat.reduceMul, Nat.reduceSub, Int.reduceToNat, Int.reduceLT, Int.reduceLE, Int.reduceEq, Int.reduceBNe, Nat.reduceBEq , ceL_cons, ceL_nil, r1, hj, hjl, q1, q2, q3, q4]) | intro _))
                all_goals first
                | exact absurd (Prod.ext ‹_› ‹_›) (hjo a (by simp))
                | (have hI2 := hI.takeA (fun x hx => by cases hx)
                   refine ⟨(A, [], O ++ [a]), ?_, hI2, ?_⟩
                   · simp only [List.length_cons, List.length_nil]; omega
                   · rw [msS_ne _ _ _ (by simp)]
                     refine weak_to [3, 4, 5] [3] ?_ (by simp) (fun i h => by cases h)
                     simp (maxSteps := 1000000) -implicitDefEqProofs only [go_sem, ↓reduceIte, reduceCtorEq, Nat.reduceEqDiff, Nat.reduceLT, Nat.reduceAdd, Nat.reduceLeDiff, Nat.reduceMul, Nat.reduceSub, Int.reduceToNat, Int.reduceLT, Int.reduceLE, Int.reduceEq, Int.reduceBNe, Nat.reduceBEq, St.keep, ceL_cons, ceL_nil, ce_eta, List.length_append, hj])
              | cons b B =>
                have r1 : (0 < ((A.length + 1 : Nat) : Int)) = True := eq_true (by omega)
                have r2 : (((B.length + 1 : Nat) : Int) = 0) = False := eq_false (by omega)
                simp (maxSteps := 1000000) -implicitDefEqProofs only [go_sem, ↓reduceIte, reduceCtorEq, Nat.reduceEqDiff, Nat.reduceLT, Nat.reduceAdd, Nat.reduceLeDiff, Nat.reduceMul, Nat.reduceSub, Int.reduceToNat, Int.reduceLT, Int.reduceLE, Int.reduceEq, Int.reduceBNe, Nat.reduceBEq, ceL_cons, ceL_nil, r1, r2, hj, hjl, q1, q2, q3, q4]
                (repeat' (first | exact trivial | contradiction | exact ⟨_, rfl⟩ | refine And.intro ?_ ?_ | ((first | show (_ : Nat) ≤ _ | show (_ : Nat) < _ | show (_ : Int) ≤ _ | show (_ : Int) < _); omega) | (refine wait_draw 1000 mixed (by decide +kernel) ?_; simp (maxSteps := 1000000) -implicitDefEqProofs only [go_sem, ↓reduceIte, reduceCtorEq, Nat.reduceEqDiff, Nat.reduceLT, Nat.reduceAdd, Nat.reduceLeDiff, Nat.reduceMul, Nat.reduceSub, Int.reduceToNat, Int.reduceLT, Int.reduceLE, Int.reduceEq, Int.reduceBNe, Nat.reduceBEq , ceL_cons, ceL_nil, r1, r2, hj, hjl, q1, q2, q3, q4]) | intro _))
                all_goals first
                | exact absurd (Prod.ext ‹_› ‹_›) (hjo a (by simp))
                | exact absurd (Prod.ext ‹_› ‹_›) (hjo b (by simp))
                | (have hab : leC a b = true := by simp only [leC, decide_eq_true_eq]; omega
                   have hle : ∀ x ∈ b :: B, leC a x = true := fun x hx => by
                     rcases List.mem_cons.1 hx with e | hx
                     · rw [e]; exact hab
                     · exact leC_trans _ _ _ hab ((List.pairwise_cons.1 hI.sb).1 x hx)
                   have hI2 := hI.takeA hle
                   refine ⟨(A, b :: B, O ++ [a]), ?_, hI2, ?_⟩
                   · simp only [List.length_cons, List.length_nil]; omega
                   · rw [msS_ne _ _ _ (by simp)]
                     refine weak_to [3, 4, 5] [3] ?_ (by simp) (fun i h => by cases h)
                     simp (maxSteps := 1000000) -implicitDefEqProofs only [go_sem, ↓reduceIte, reduceCtorEq, Nat.reduceEqDiff, Nat.reduceLT, Nat.reduceAdd, Nat.reduceLeDiff, Nat.reduceMul, Nat.reduceSub, Int.reduceToNat, Int.reduceLT, Int.reduceLE, Int.reduceEq, Int.reduceBNe, Nat.reduceBEq, St.keep, ceL_cons, ceL_nil, ce_eta, List.length_append, hj])
                | (have hab : leC b a = true := by simp only [leC, decide_eq_true_eq]; omega
                   have hle : ∀ x ∈ a :: A, leC b x = true := fun x hx => by
                     rcases List.mem_cons.1 hx with e | hx
                     · rw [e]; exact hab
                     · exact leC_trans _ _ _ hab ((List.pairwise_cons.1 hI.sa).1 x hx)
                   have hI2 := hI.takeB hle
                   refine ⟨(a :: A, B, O ++ [b]), ?_, hI2, ?_⟩
                   · simp only [List.length_cons, List.length_nil]; omega
                   · rw [msS_ne _ _ _ (by simp)]
                     refine weak_to [3, 4, 5] [3] ?_ (by simp) (fun i h => by cases h)
                     simp (maxSteps := 1000000) -implicitDefEqProofs only [go_sem, ↓reduceIte, reduceCtorEq, Nat.reduceEqDiff, Nat.reduceLT, Nat.reduceAdd, Nat.reduceLeDiff, Nat.reduceMul, Nat.reduceSub, Int.reduceToNat, Int.reduceLT, Int.reduceLE, Int.reduceEq, Int.reduceBNe, Nat.reduceBEq, St.keep, ceL_cons, ceL_nil, ce_eta, List.length_append, hj])
end Go.Proofs.Ytiipggfhjkalfaa
