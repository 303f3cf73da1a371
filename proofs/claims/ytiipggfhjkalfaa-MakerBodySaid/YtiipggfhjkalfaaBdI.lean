import Derived.Test.YtiipggfhjkalfaaProg
import Derived.Test.YtiipggfhjkalfaaPmU
import Derived.Test.YtiipggfhjkalfaaBdD
/- The constructor: the program's map of places. -/
set_option linter.unusedSimpArgs false
set_option linter.unusedVariables false
set_option maxRecDepth 20000
open Go Go.Proofs
namespace Go.Proofs.Ytiipggfhjkalfaa
open Pm
attribute [local irreducible] Wait CallT CallW NextT Le Weak
def wS (i : Int) : Int := (WrittenStateE i).1
/-- The two rows of a ring, west of a column. -/
def bodyK : Nat → List Ce
  | 0 => []
  | k + 1 => aput ((k : Int), 3) (wS 3) (aput ((k : Int), 2) (wS 1) (bodyK k))
def bodyL (w : Nat) : List Ce :=
  let a : Int := (((w - 1) / 2 : Nat) : Int)
  aput (a, 1) (wS 66) (aput (a, 0) (wS 70) (aput (a, 3) (wS 53) (aput (a, 2) (wS 57) (aput (0, 3) (wS 2) (aput ((w : Int) - 1, 2) (wS 4) (bodyK w))))))
theorem run_ent (n : Nat) {st : St} {ops : Array Oper} {rest : List Oper} {tt : List It} {K : Exit → St → Prop} {m k v : Operand} {id : Nat} {L : List Ce} {d1 d2 : Tmp} {y1 y2 y3 : TypeId} {p1 p2 p3 : String} {f1 f2 f3 : Array Edge} {x y s : Int}
    (hm : st.get m = .map id) (hb : st.h[id]? = some (some (.mp (mE iA L)))) (hk : st.get k = .agg [.v (.int .i64 x), .v (.int .i64 y)]) (hv : st.get v = .v (.int .i64 s)) (hd : (decide (d1 < st.n) && decide (d2 < st.n) && notT m d1 && notT m d2 && notT v d1 && notT v d2) = true)
    (h : run Try.prog n (.ops ops rest :: tt) (({ st with h := st.h.set id (some (.mp (mE iA (aput (x, y) s L)))) }.put (some d1) .junk).put (some d2) .junk) K) :
    run Try.prog 0 (.ops ops (⟨some d1, .mapEntry 98 m k, y1, p1, f1, none⟩ :: ⟨some d2, .extract (.tmp d1) 1, y2, p2, f2, none⟩ :: ⟨none, .entryStore 98 m (.tmp d2) v, y3, p3, f3, none⟩ :: rest) :: tt) st K := by
  refine run_entry n hm hb mp_98 hk (mget_pl iA x y L) rfl rfl (of_eq_true (same_mE iA x y L)) zv_3 hd ?_
  rw [hv, put_i]
  exact h
def bdC (w a k : Nat) : St := ⟨58, 0, [(3, .v (.int .i64 (w : Int))), (4, .v (.int .i64 (a : Int))), (5, .map 0), (12, .v (.int .i64 (w : Int))), (13, .v (.int .i64 (k : Int)))], [some (.mp (mE iA (bodyK k)))]⟩
theorem body_con (w : Nat) (h : 6 ≤ w) (h' : w ≤ 4096) : Con Try.prog 55 [rgA w] [] fun r h1 => r = .map 0 ∧ h1 = [some (.mp (mE iA (bodyL w)))] := by
  refine con_run 1000 Try.func55 rfl Try.results55 Try.ntmps55 (Nat.le_of_ble_eq_true rfl) ?_
  have e1 := half_nat w
  have e2 : IntKind.i64.wrap (w : Int) = (w : Int) := wrap64 (by omega) (by omega)
  have e3 : IntKind.i64.wrap ((w : Int) - 1) = (w : Int) - 1 := wrap64 (by omega) (by omega)
  have cr := root_pc w h h'
  unfold bodyL
  obtain ⟨a, ha⟩ : ∃ a, a = (w - 1) / 2 := ⟨_, rfl⟩
  rw [← ha] at cr ⊢
  simp only [rgA] at cr
  have c1 := wstate_pc 1
  have c3 := wstate_pc 3
  rw [show (WrittenStateE 1).1 = wS 1 from rfl] at c1
  rw [show (WrittenStateE 3).1 = wS 3 from rfl] at c3
  simp (maxSteps := 1000000) -implicitDefEqProofs only [go_sem, ↓reduceIte, reduceCtorEq, Nat.reduceEqDiff, Nat.reduceLT, Nat.reduceAdd, Nat.reduceLeDiff, Nat.reduceMul, Nat.reduceSub, Int.reduceToNat, Int.reduceLT, Int.reduceLE, Int.reduceEq, Int.reduceBNe, Nat.reduceBEq, rgA, e1, e2, e3]
  (repeat' (first | exact trivial | contradiction | exact ⟨_, rfl⟩ | refine And.intro ?_ ?_ | ((first | show (_ : Nat) ≤ _ | show (_ : Nat) < _ | show (_ : Int) ≤ _ | show (_ : Int) < _); omega) | (refine wait_draw 1000 mixed (by decide +kernel) ?_; simp (maxSteps := 1000000) -implicitDefEqProofs only [go_sem, ↓reduceIte, reduceCtorEq, Nat.reduceEqDiff, Nat.reduceLT, Nat.reduceAdd, Nat.reduceLeDiff, Nat.reduceMul, Nat.reduceSub, Int.reduceToNat, Int.reduceLT, Int.reduceLE, Int.reduceEq, Int.reduceBNe, Nat.reduceBEq, rgA, e1, e2, e3]) | ((first | refine call_eq 1000 (cr) ?_ ?_ rfl | refine call_draw 1000 (cr) ?_ ?_); (focus (simp (maxSteps := 1000000) -implicitDefEqProofs only [go_sem, ↓reduceIte, reduceCtorEq, Nat.reduceEqDiff, Nat.reduceLT, Nat.reduceAdd, Nat.reduceLeDiff, Nat.reduceMul, Nat.reduceSub, Int.reduceToNat, Int.reduceLT, Int.reduceLE, Int.reduceEq, Int.reduceBNe, Nat.reduceBEq, rgA, e1, e2, e3]; done)); simp (maxSteps := 1000000) -implicitDefEqProofs only [go_sem, ↓reduceIte, reduceCtorEq, Nat.reduceEqDiff, Nat.reduceLT, Nat.reduceAdd, Nat.reduceLeDiff, Nat.reduceMul, Nat.reduceSub, Int.reduceToNat, Int.reduceLT, Int.reduceLE, Int.reduceEq, Int.reduceBNe, Nat.reduceBEq, rgA, e1, e2, e3]) | intro _))
  refine wait_range w (fun k => bdC w a k) (fun _ => True) (weak_to [3, 4, 5, 12, 13] [0] ?_ (by decide) (fun i h => by cases h)) trivial ?_
  · simp (maxSteps := 1000000) -implicitDefEqProofs only [go_sem, ↓reduceIte, reduceCtorEq, Nat.reduceEqDiff, Nat.reduceLT, Nat.reduceAdd, Nat.reduceLeDiff, Nat.reduceMul, Nat.reduceSub, Int.reduceToNat, Int.reduceLT, Int.reduceLE, Int.reduceEq, Int.reduceBNe, Nat.reduceBEq, St.keep, bdC, bodyK, Int.natCast_zero]
    rfl
  intro k hk _
  by_cases hkw : k < w
  · refine run_sound 1000 _ _ ?_
    have hw1 : IntKind.i64.wrap ((k : Int) + 1) = ((k + 1 : Nat) : Int) := by rw [wrap64 (by omega) (by omega)]; omega
    have h1 : ((k : Int) < (w : Int)) = True := eq_true (by omega)
    simp only [bdC]
    rw [show bodyK (k + 1) = aput ((k : Int), 3) (wS 3) (aput ((k : Int), 2) (wS 1) (bodyK k)) from rfl]
    generalize bodyK k = L
    generalize wS 1 = s1 at c1 ⊢
    generalize wS 3 = s3 at c3 ⊢
    simp (maxSteps := 1000000) -implicitDefEqProofs only [go_sem, ↓reduceIte, reduceCtorEq, Nat.reduceEqDiff, Nat.reduceLT, Nat.reduceAdd, Nat.reduceLeDiff, Nat.reduceMul, Nat.reduceSub, Int.reduceToNat, Int.reduceLT, Int.reduceLE, Int.reduceEq, Int.reduceBNe, Nat.reduceBEq, h1]
    refine call_eq 1000 c1 ?_ ?_ rfl
    · simp (maxSteps := 1000000) -implicitDefEqProofs only [go_sem, ↓reduceIte, reduceCtorEq, Nat.reduceEqDiff, Nat.reduceLT, Nat.reduceAdd, Nat.reduceLeDiff, Nat.reduceMul, Nat.reduceSub, Int.reduceToNat, Int.reduceLT, Int.reduceLE, Int.reduceEq, Int.reduceBNe, Nat.reduceBEq]
    simp (maxSteps := 1000000) -implicitDefEqProofs only [go_sem, ↓reduceIte, reduceCtorEq, Nat.reduceEqDiff, Nat.reduceLT, Nat.reduceAdd, Nat.reduceLeDiff, Nat.reduceMul, Nat.reduceSub, Int.reduceToNat, Int.reduceLT, Int.reduceLE, Int.reduceEq, Int.reduceBNe, Nat.reduceBEq]
    refine call_eq 0 c3 ?_ ?_ rfl
    · simp (maxSteps := 1000000) -implicitDefEqProofs only [go_sem, ↓reduceIte, reduceCtorEq, Nat.reduceEqDiff, Nat.reduceLT, Nat.reduceAdd, Nat.reduceLeDiff, Nat.reduceMul, Nat.reduceSub, Int.reduceToNat, Int.reduceLT, Int.reduceLE, Int.reduceEq, Int.reduceBNe, Nat.reduceBEq]
    refine run_ent 1000 (L := L) (x := (k : Int)) (y := 2) (s := s1) rfl rfl rfl rfl rfl ?_
    simp (maxSteps := 1000000) -implicitDefEqProofs only [go_sem, ↓reduceIte, reduceCtorEq, Nat.reduceEqDiff, Nat.reduceLT, Nat.reduceAdd, Nat.reduceLeDiff, Nat.reduceMul, Nat.reduceSub, Int.reduceToNat, Int.reduceLT, Int.reduceLE, Int.reduceEq, Int.reduceBNe, Nat.reduceBEq]
    refine ⟨hkw, ?_⟩
    refine weak_to [3, 4, 5, 12, 13] [0] ?_ (by decide) (fun i h => by cases h)
    simp (maxSteps := 1000000) -implicitDefEqProofs only [go_sem, ↓reduceIte, reduceCtorEq, Nat.reduceEqDiff, Nat.reduceLT, Nat.reduceAdd, Nat.reduceLeDiff, Nat.reduceMul, Nat.reduceSub, Int.reduceToNat, Int.reduceLT, Int.reduceLE, Int.reduceEq, Int.reduceBNe, Nat.reduceBEq, St.keep, hw1]
  · obtain rfl : k = w := by omega
    have h1 : ((k : Int) < (k : Int)) = False := eq_false (by omega)
    refine run_sound 1000 _ _ ?_
    simp only [bdC]
    generalize bodyK k = L
    have c4 := wstate_pc 4
    have c2 := wstate_pc 2
    have c57 := wstate_pc 57
    have c53 := wstate_pc 53
    have c70 := wstate_pc 70
    have c66 := wstate_pc 66
    simp only [show ∀ i, (WrittenStateE i).1 = wS i from fun _ => rfl] at c4 c2 c57 c53 c70 c66
    generalize wS 4 = s4 at c4 ⊢
    generalize wS 2 = s2 at c2 ⊢
    generalize wS 57 = s57 at c57 ⊢
    generalize wS 53 = s53 at c53 ⊢
    generalize wS 70 = s70 at c70 ⊢
    generalize wS 66 = s66 at c66 ⊢
    simp (maxSteps := 1000000) -implicitDefEqProofs only [go_sem, ↓reduceIte, reduceCtorEq, Nat.reduceEqDiff, Nat.reduceLT, Nat.reduceAdd, Nat.reduceLeDiff, Nat.reduceMul, Nat.reduceSub, Int.reduceToNat, Int.reduceLT, Int.reduceLE, Int.reduceEq, Int.reduceBNe, Nat.reduceBEq, h1, e3]
    refine call_eq 1000 c4 ?_ ?_ rfl
    · simp (maxSteps := 1000000) -implicitDefEqProofs only [go_sem, ↓reduceIte, reduceCtorEq, Nat.reduceEqDiff, Nat.reduceLT, Nat.reduceAdd, Nat.reduceLeDiff, Nat.reduceMul, Nat.reduceSub, Int.reduceToNat, Int.reduceLT, Int.reduceLE, Int.reduceEq, Int.reduceBNe, Nat.reduceBEq]
    simp (maxSteps := 1000000) -implicitDefEqProofs only [go_sem, ↓reduceIte, reduceCtorEq, Nat.reduceEqDiff, Nat.reduceLT, Nat.reduceAdd, Nat.reduceLeDiff, Nat.reduceMul, Nat.reduceSub, Int.reduceToNat, Int.reduceLT, Int.reduceLE, Int.reduceEq, Int.reduceBNe, Nat.reduceBEq, e3]
    refine call_eq 0 c2 ?_ ?_ rfl
    · simp (maxSteps := 1000000) -implicitDefEqProofs only [go_sem, ↓reduceIte, reduceCtorEq, Nat.reduceEqDiff, Nat.reduceLT, Nat.reduceAdd, Nat.reduceLeDiff, Nat.reduceMul, Nat.reduceSub, Int.reduceToNat, Int.reduceLT, Int.reduceLE, Int.reduceEq, Int.reduceBNe, Nat.reduceBEq]
    refine run_ent 1000 (x := ((k : Int) - 1)) (y := 2) (s := s4) rfl rfl rfl rfl rfl ?_
    simp (maxSteps := 1000000) -implicitDefEqProofs only [go_sem, ↓reduceIte, reduceCtorEq, Nat.reduceEqDiff, Nat.reduceLT, Nat.reduceAdd, Nat.reduceLeDiff, Nat.reduceMul, Nat.reduceSub, Int.reduceToNat, Int.reduceLT, Int.reduceLE, Int.reduceEq, Int.reduceBNe, Nat.reduceBEq, e3]
    refine call_eq 1000 c57 ?_ ?_ rfl
    · simp (maxSteps := 1000000) -implicitDefEqProofs only [go_sem, ↓reduceIte, reduceCtorEq, Nat.reduceEqDiff, Nat.reduceLT, Nat.reduceAdd, Nat.reduceLeDiff, Nat.reduceMul, Nat.reduceSub, Int.reduceToNat, Int.reduceLT, Int.reduceLE, Int.reduceEq, Int.reduceBNe, Nat.reduceBEq]
    simp (maxSteps := 1000000) -implicitDefEqProofs only [go_sem, ↓reduceIte, reduceCtorEq, Nat.reduceEqDiff, Nat.reduceLT, Nat.reduceAdd, Nat.reduceLeDiff, Nat.reduceMul, Nat.reduceSub, Int.reduceToNat, Int.reduceLT, Int.reduceLE, Int.reduceEq, Int.reduceBNe, Nat.reduceBEq, e3]
    refine call_eq 0 c53 ?_ ?_ rfl
    · simp (maxSteps := 1000000) -implicitDefEqProofs only [go_sem, ↓reduceIte, reduceCtorEq, Nat.reduceEqDiff, Nat.reduceLT, Nat.reduceAdd, Nat.reduceLeDiff, Nat.reduceMul, Nat.reduceSub, Int.reduceToNat, Int.reduceLT, Int.reduceLE, Int.reduceEq, Int.reduceBNe, Nat.reduceBEq]
    refine run_ent 1000 (x := (a : Int)) (y := 2) (s := s57) rfl rfl rfl rfl rfl ?_
    simp (maxSteps := 1000000) -implicitDefEqProofs only [go_sem, ↓reduceIte, reduceCtorEq, Nat.reduceEqDiff, Nat.reduceLT, Nat.reduceAdd, Nat.reduceLeDiff, Nat.reduceMul, Nat.reduceSub, Int.reduceToNat, Int.reduceLT, Int.reduceLE, Int.reduceEq, Int.reduceBNe, Nat.reduceBEq, e3]
    refine call_eq 1000 c70 ?_ ?_ rfl
    · simp (maxSteps := 1000000) -implicitDefEqProofs only [go_sem, ↓reduceIte, reduceCtorEq, Nat.reduceEqDiff, Nat.reduceLT, Nat.reduceAdd, Nat.reduceLeDiff, Nat.reduceMul, Nat.reduceSub, Int.reduceToNat, Int.reduceLT, Int.reduceLE, Int.reduceEq, Int.reduceBNe, Nat.reduceBEq]
    simp (maxSteps := 1000000) -implicitDefEqProofs only [go_sem, ↓reduceIte, reduceCtorEq, Nat.reduceEqDiff, Nat.reduceLT, Nat.reduceAdd, Nat.reduceLeDiff, Nat.reduceMul, Nat.reduceSub, Int.reduceToNat, Int.reduceLT, Int.reduceLE, Int.reduceEq, Int.reduceBNe, Nat.reduceBEq, e3]
    refine call_eq 0 c66 ?_ ?_ rfl
    · simp (maxSteps := 1000000) -implicitDefEqProofs only [go_sem, ↓reduceIte, reduceCtorEq, Nat.reduceEqDiff, Nat.reduceLT, Nat.reduceAdd, Nat.reduceLeDiff, Nat.reduceMul, Nat.reduceSub, Int.reduceToNat, Int.reduceLT, Int.reduceLE, Int.reduceEq, Int.reduceBNe, Nat.reduceBEq]
    refine run_ent 1000 (x := (a : Int)) (y := 0) (s := s70) rfl rfl rfl rfl rfl ?_
    simp (maxSteps := 1000000) -implicitDefEqProofs only [go_sem, ↓reduceIte, reduceCtorEq, Nat.reduceEqDiff, Nat.reduceLT, Nat.reduceAdd, Nat.reduceLeDiff, Nat.reduceMul, Nat.reduceSub, Int.reduceToNat, Int.reduceLT, Int.reduceLE, Int.reduceEq, Int.reduceBNe, Nat.reduceBEq, e3]
theorem body_pc (w : Nat) (h : 6 ≤ w) (h' : w ≤ 4096) : PCon Try.prog 55 [rgA w] (· = .fmap (mK (bodyL w)) (mV iA (bodyL w))) :=
  pcon_of_con (body_con w h h') (by
    rintro r h1 ⟨rfl, rfl⟩
    simp (maxSteps := 1000000) -implicitDefEqProofs only [go_sem, ↓reduceIte, reduceCtorEq, Nat.reduceEqDiff, Nat.reduceLT, Nat.reduceAdd, Nat.reduceLeDiff, Nat.reduceMul, Nat.reduceSub, Int.reduceToNat, Int.reduceLT, Int.reduceLE, Int.reduceEq, Int.reduceBNe, Nat.reduceBEq])
end Go.Proofs.Ytiipggfhjkalfaa
/- The constructor, empty: both texts. -/
set_option linter.unusedSimpArgs false
set_option linter.unusedVariables false
set_option maxRecDepth 20000
open Go Go.Proofs
namespace Go.Proofs.Ytiipggfhjkalfaa
open Pm
attribute [local irreducible] Wait CallT CallW NextT Le Weak
theorem bodyK_far : ∀ (k : Nat), k ≤ 4096 → ∀ c ∈ bodyK k, (0 ≤ c.1.1 ∧ c.1.1 < k) ∧ (0 ≤ c.1.2 ∧ c.1.2 ≤ 3)
  | 0, _, c, h => by simp [bodyK] at h
  | k + 1, hk, c, h => by
    simp only [bodyK] at h
    rcases mem_put h with rfl | h
    · simp only; omega
    · rcases mem_put h with rfl | h
      · simp only; omega
      · have := bodyK_far k (by omega) c h
        omega
theorem bodyL_far {w : Nat} (h : 6 ≤ w) (h' : w ≤ 4096) : ∀ c ∈ bodyL w, (0 ≤ c.1.1 ∧ c.1.1 < w) ∧ (0 ≤ c.1.2 ∧ c.1.2 ≤ 3) := fun c hc => by
  simp only [bodyL] at hc
  rcases mem_put hc with rfl | hc
  · simp only; omega
  rcases mem_put hc with rfl | hc
  · simp only; omega
  rcases mem_put hc with rfl | hc
  · simp only; omega
  rcases mem_put hc with rfl | hc
  · simp only; omega
  rcases mem_put hc with rfl | hc
  · simp only; omega
  rcases mem_put hc with rfl | hc
  · simp only; omega
  exact bodyK_far w h' c hc
theorem bodyK_nodup : ∀ k : Nat, ((bodyK k).map Prod.fst).Nodup
  | 0 => by simp [bodyK]
  | k + 1 => nodup_put (nodup_put (bodyK_nodup k))
theorem bodyL_nodup (w : Nat) : ((bodyL w).map Prod.fst).Nodup := nodup_put (nodup_put (nodup_put (nodup_put (nodup_put (nodup_put (bodyK_nodup w))))))
theorem bodyK_len : ∀ k : Nat, (bodyK k).length ≤ 2 * k
  | 0 => by simp [bodyK]
  | k + 1 => by
    have h0 := bodyK_len k
    have h1 := (len_put (p := ((k : Int), 2)) (v := wS 1) (bodyK k)).1
    have h2 := (len_put (p := ((k : Int), 3)) (v := wS 3) (aput ((k : Int), 2) (wS 1) (bodyK k))).1
    simp only [bodyK]
    omega
theorem bodyL_len (w : Nat) : (bodyL w).length ≤ 2 * w + 6 := by
  have h0 := bodyK_len w
  simp only [bodyL]
  refine Nat.le_trans (len_put _).1 ?_
  refine Nat.le_trans (Nat.add_le_add_right (len_put _).1 1) ?_
  refine Nat.le_trans (Nat.add_le_add_right (Nat.add_le_add_right (len_put _).1 1) 1) ?_
  refine Nat.le_trans (Nat.add_le_add_right (Nat.add_le_add_right (Nat.add_le_add_right (len_put _).1 1) 1) 1) ?_
  refine Nat.le_trans (Nat.add_le_add_right (Nat.add_le_add_right (Nat.add_le_add_right (Nat.add_le_add_right (len_put _).1 1) 1) 1) 1) ?_
  refine Nat.le_trans (Nat.add_le_add_right (Nat.add_le_add_right (Nat.add_le_add_right (Nat.add_le_add_right (Nat.add_le_add_right (len_put _).1 1) 1) 1) 1) 1) ?_
  omega
theorem bodyS_pc (w : Nat) (h : 6 ≤ w) (h' : w ≤ 4096) : PCon Try.prog 50 [.fmap (mK (bodyL w)) (mV iA (bodyL w))] (· = .fsl 3 (ceL (sortC (bodyL w)))) :=
  sorted_pc _ (fun c hc => by have := bodyL_far h h' c hc; unfold far; omega) (bodyL_nodup w) (by have := bodyL_len w; omega)
def ringOk (n : Int) : Bool := decide (12 ≤ n ∧ n ≤ 8192 ∧ n.tmod 2 = 0)
theorem ring_two {n : Int} (h : ringOk n = true) : ∃ w : Nat, n = ((2 * w : Nat) : Int) ∧ 6 ≤ w ∧ w ≤ 4096 := by
  simp only [ringOk, decide_eq_true_eq] at h
  rw [Int.tmod_eq_emod_of_nonneg (by omega)] at h
  exact ⟨(n / 2).toNat, by omega, by omega, by omega⟩
def bodyE (n : Int) : List Ce × Int := if ringOk n = true then (sortC (bodyL (n / 2).toNat), 0) else ([], 73)
theorem pBody_pc (n : Int) : PCon Try.prog 24 [.v (.int .i64 n)] (· = .tup [.fsl 3 (ceL (bodyE n).1), .v (.int .i64 (bodyE n).2)]) := by
  refine PCon.upto (pcon_run 1000 Try.func24 rfl Try.results24 Try.ntmps24 (Nat.le_of_ble_eq_true rfl) ?_)
  by_cases hr : ringOk n = true
  · obtain ⟨w, hn, h, h'⟩ := ring_two hr
    have e : bodyE n = (sortC (bodyL w), 0) := by
      unfold bodyE
      rw [if_pos hr, show (n / 2).toNat = w by omega]
    rw [e]
    simp only [ringOk, decide_eq_true_eq] at hr
    subst hn
    have c1 := body_pc w h h'
    have c2 := bodyS_pc w h h'
    simp only [rgA] at c1
    have h1 : (((2 * w : Nat) : Int) < 12) = False := eq_false (by omega)
    have h2 : (8192 < ((2 * w : Nat) : Int)) = False := eq_false (by omega)
    have h3 : ((2 * w : Nat) : Int).tmod 2 = 0 := hr.2.2
    simp (maxSteps := 1000000) -implicitDefEqProofs only [go_sem, ↓reduceIte, reduceCtorEq, Nat.reduceEqDiff, Nat.reduceLT, Nat.reduceAdd, Nat.reduceLeDiff, Nat.reduceMul, Nat.reduceSub, Int.reduceToNat, Int.reduceLT, Int.reduceLE, Int.reduceEq, Int.reduceBNe, Nat.reduceBEq, Int.reduceAdd, h1, h2, h3]
    (repeat' (first | exact trivial | contradiction | exact ⟨_, rfl⟩ | refine And.intro ?_ ?_ | ((first | show (_ : Nat) ≤ _ | show (_ : Nat) < _ | show (_ : Int) ≤ _ | show (_ : Int) < _); omega) | (refine wait_draw 1000 mixed (by decide +kernel) ?_; simp (maxSteps := 1000000) -implicitDefEqProofs only [go_sem, ↓reduceIte, reduceCtorEq, Nat.reduceEqDiff, Nat.reduceLT, Nat.reduceAdd, Nat.reduceLeDiff, Nat.reduceMul, Nat.reduceSub, Int.reduceToNat, Int.reduceLT, Int.reduceLE, Int.reduceEq, Int.reduceBNe, Nat.reduceBEq, Int.reduceAdd, h1, h2, h3]) | ((first | refine call_eq 1000 (c1) ?_ ?_ rfl | refine call_draw 1000 (c1) ?_ ?_ | refine call_eq 1000 (c2) ?_ ?_ rfl | refine call_draw 1000 (c2) ?_ ?_); (focus (simp (maxSteps := 1000000) -implicitDefEqProofs only [go_sem, ↓reduceIte, reduceCtorEq, Nat.reduceEqDiff, Nat.reduceLT, Nat.reduceAdd, Nat.reduceLeDiff, Nat.reduceMul, Nat.reduceSub, Int.reduceToNat, Int.reduceLT, Int.reduceLE, Int.reduceEq, Int.reduceBNe, Nat.reduceBEq, Int.reduceAdd, h1, h2, h3]; done)); simp (maxSteps := 1000000) -implicitDefEqProofs only [go_sem, ↓reduceIte, reduceCtorEq, Nat.reduceEqDiff, Nat.reduceLT, Nat.reduceAdd, Nat.reduceLeDiff, Nat.reduceMul, Nat.reduceSub, Int.reduceToNat, Int.reduceLT, Int.reduceLE, Int.reduceEq, Int.reduceBNe, Nat.reduceBEq, Int.reduceAdd, h1, h2, h3]) | intro _))
    all_goals first | exact Le.refl _ | exact Le.tup (.cons (Le.nil 3) (LeL.refl _)) | exact absurd ⟨by omega, by omega, by assumption⟩ hr
  · have e : bodyE n = ([], 73) := by unfold bodyE; rw [if_neg hr]
    rw [e]
    simp only [ringOk, decide_eq_true_eq] at hr
    simp (maxSteps := 1000000) -implicitDefEqProofs only [go_sem, ↓reduceIte, reduceCtorEq, Nat.reduceEqDiff, Nat.reduceLT, Nat.reduceAdd, Nat.reduceLeDiff, Nat.reduceMul, Nat.reduceSub, Int.reduceToNat, Int.reduceLT, Int.reduceLE, Int.reduceEq, Int.reduceBNe, Nat.reduceBEq, Int.reduceAdd]
    (repeat' (first | exact trivial | contradiction | exact ⟨_, rfl⟩ | refine And.intro ?_ ?_ | ((first | show (_ : Nat) ≤ _ | show (_ : Nat) < _ | show (_ : Int) ≤ _ | show (_ : Int) < _); omega) | (refine wait_draw 1000 mixed (by decide +kernel) ?_; simp (maxSteps := 1000000) -implicitDefEqProofs only [go_sem, ↓reduceIte, reduceCtorEq, Nat.reduceEqDiff, Nat.reduceLT, Nat.reduceAdd, Nat.reduceLeDiff, Nat.reduceMul, Nat.reduceSub, Int.reduceToNat, Int.reduceLT, Int.reduceLE, Int.reduceEq, Int.reduceBNe, Nat.reduceBEq, Int.reduceAdd]) | intro _))
    all_goals first | exact Le.refl _ | exact Le.tup (.cons (Le.nil 3) (LeL.refl _)) | exact absurd ⟨by omega, by omega, by assumption⟩ hr
end Go.Proofs.Ytiipggfhjkalfaa
/- The constructor, empty: the document's way. -/
set_option linter.unusedSimpArgs false
set_option linter.unusedVariables false
set_option maxRecDepth 20000
open Go Go.Proofs
namespace Go.Proofs.Ytiipggfhjkalfaa
open Pm
attribute [local irreducible] Wait CallT CallW NextT Le Weak
def zerosL (n : Nat) : List Int := List.replicate n 0
def rbodyE (n : Int) : List Ce × Int := if ringOk n = true then (sortC (wholeL (n / 2).toNat (zerosL (2 * (n / 2).toNat)) (ringY (n / 2).toNat 0) 0), 0) else ([], 73)
theorem ringY_len (w k : Nat) : (ringY w k).length = 10 := by
  unfold ringY
  repeat' split
  all_goals rfl
theorem zeros_tA (n : Nat) : List.replicate n (.v (.int .i64 0)) = (zerosL n).map iA := by simp [zerosL, iA]
theorem rBody_pc (n : Int) (hn : ∀ w : Nat, 6 ≤ w → w ≤ 4096 → ((wholeL w (zerosL (2 * w)) (ringY w 0) 0).map Prod.fst).Nodup) : PCon Try.prog 23 [.v (.int .i64 n)] (· = .tup [.fsl 3 (ceL (rbodyE n).1), .v (.int .i64 (rbodyE n).2)]) := by
  refine PCon.upto (pcon_run 1000 Try.func23 rfl Try.results23 Try.ntmps23 (Nat.le_of_ble_eq_true rfl) ?_)
  by_cases hr : ringOk n = true
  · obtain ⟨w, hnw, h, h'⟩ := ring_two hr
    have e : rbodyE n = (sortC (wholeL w (zerosL (2 * w)) (ringY w 0) 0), 0) := by
      unfold rbodyE
      rw [if_pos hr, show (n / 2).toNat = w by omega]
    rw [e]
    simp only [ringOk, decide_eq_true_eq] at hr
    subst hnw
    have c1 := ringState_pc w 0 h h' (by omega)
    have c2 := whole_pc w (zerosL (2 * w)) (ringY w 0) 0 h h' (by simp [zerosL]) (ringY_len w 0) (hn w h h')
    obtain ⟨y0, y1, y2, y3, y4, y5, y6, y7, y8, y9, hy⟩ := ten_of (ringY w 0) (ringY_len w 0)
    have hyz : yA (ringY w 0) = .agg [.v (.int .i64 y0), .v (.int .i64 y1), .v (.int .i64 y2), .v (.int .i64 y3), .v (.int .i64 y4), .v (.int .i64 y5), .v (.int .i64 y6), .v (.int .i64 y7), .v (.int .i64 y8), .v (.int .i64 y9)] := by rw [hy]; rfl
    rw [hyz] at c1 c2
    simp only [rgA, Int.natCast_zero, tA] at c1 c2
    generalize wholeL w (zerosL (2 * w)) (ringY w 0) 0 = L at c2 ⊢
    have hz := zeros_tA (2 * w)
    generalize zerosL (2 * w) = Z at c2 hz
    have h1 : (((2 * w : Nat) : Int) < 12) = False := eq_false (by omega)
    have h2 : (8192 < ((2 * w : Nat) : Int)) = False := eq_false (by omega)
    have h3 : ((2 * w : Nat) : Int).tmod 2 = 0 := hr.2.2
    have h4 : (0 ≤ ((2 * w : Nat) : Int)) = True := eq_true (by omega)
    have h5 : (8 * ((2 * w : Nat) : Int) ≤ 140737488355328) = True := eq_true (by omega)
    have h6 : (((2 * w : Nat) : Int) ≤ 9223372036854775807) = True := eq_true (by omega)
    have h7 : ((2 * w : Nat) : Int).toNat = 2 * w := Int.toNat_natCast _
    generalize ((2 * w : Nat) : Int) = N at *
    simp (maxSteps := 1000000) -implicitDefEqProofs only [go_sem, ↓reduceIte, reduceCtorEq, Nat.reduceEqDiff, Nat.reduceLT, Nat.reduceAdd, Nat.reduceLeDiff, Nat.reduceMul, Nat.reduceSub, Int.reduceToNat, Int.reduceLT, Int.reduceLE, Int.reduceEq, Int.reduceBNe, Nat.reduceBEq, h1, h2, h3, h4, bne_self_eq_false]
    (repeat' (first | exact trivial | contradiction | exact ⟨_, rfl⟩ | refine And.intro ?_ ?_ | ((first | show (_ : Nat) ≤ _ | show (_ : Nat) < _ | show (_ : Int) ≤ _ | show (_ : Int) < _); omega) | (refine wait_drawH [0, 1, 3, 4, 2, 5, 6, 7] (fun id => id == hardK * 2) 1000 mixed (by decide +kernel) ?_; simp (maxSteps := 1000000) -implicitDefEqProofs only [go_sem, ↓reduceIte, reduceCtorEq, Nat.reduceEqDiff, Nat.reduceLT, Nat.reduceAdd, Nat.reduceLeDiff, Nat.reduceMul, Nat.reduceSub, Int.reduceToNat, Int.reduceLT, Int.reduceLE, Int.reduceEq, Int.reduceBNe, Nat.reduceBEq, h1, h2, h3, h4, h5, h6, h7, hz, bne_self_eq_false, List.all_cons, List.all_nil]) | ((first | refine call_eq 1000 (c1) ?_ ?_ rfl | refine call_draw 1000 (c1) ?_ ?_ | refine call_eq 1000 (c2) ?_ ?_ rfl | refine call_draw 1000 (c2) ?_ ?_); (focus (simp (maxSteps := 1000000) -implicitDefEqProofs only [go_sem, ↓reduceIte, reduceCtorEq, Nat.reduceEqDiff, Nat.reduceLT, Nat.reduceAdd, Nat.reduceLeDiff, Nat.reduceMul, Nat.reduceSub, Int.reduceToNat, Int.reduceLT, Int.reduceLE, Int.reduceEq, Int.reduceBNe, Nat.reduceBEq, h1, h2, h3, h4, h5, h6, h7, hz, bne_self_eq_false, List.all_cons, List.all_nil]; done)); simp (maxSteps := 1000000) -implicitDefEqProofs only [go_sem, ↓reduceIte, reduceCtorEq, Nat.reduceEqDiff, Nat.reduceLT, Nat.reduceAdd, Nat.reduceLeDiff, Nat.reduceMul, Nat.reduceSub, Int.reduceToNat, Int.reduceLT, Int.reduceLE, Int.reduceEq, Int.reduceBNe, Nat.reduceBEq, h1, h2, h3, h4, h5, h6, h7, hz, bne_self_eq_false, List.all_cons, List.all_nil]) | intro _))
    all_goals exact Le.refl _
  · have e : rbodyE n = ([], 73) := by unfold rbodyE; rw [if_neg hr]
    rw [e]
    simp only [ringOk, decide_eq_true_eq] at hr
    simp (maxSteps := 1000000) -implicitDefEqProofs only [go_sem, ↓reduceIte, reduceCtorEq, Nat.reduceEqDiff, Nat.reduceLT, Nat.reduceAdd, Nat.reduceLeDiff, Nat.reduceMul, Nat.reduceSub, Int.reduceToNat, Int.reduceLT, Int.reduceLE, Int.reduceEq, Int.reduceBNe, Nat.reduceBEq]
    (repeat' (first | exact trivial | contradiction | exact ⟨_, rfl⟩ | refine And.intro ?_ ?_ | ((first | show (_ : Nat) ≤ _ | show (_ : Nat) < _ | show (_ : Int) ≤ _ | show (_ : Int) < _); omega) | (refine wait_draw 1000 mixed (by decide +kernel) ?_; simp (maxSteps := 1000000) -implicitDefEqProofs only [go_sem, ↓reduceIte, reduceCtorEq, Nat.reduceEqDiff, Nat.reduceLT, Nat.reduceAdd, Nat.reduceLeDiff, Nat.reduceMul, Nat.reduceSub, Int.reduceToNat, Int.reduceLT, Int.reduceLE, Int.reduceEq, Int.reduceBNe, Nat.reduceBEq]) | intro _))
    all_goals first | exact Le.refl _ | exact Le.tup (.cons (Le.nil 3) (LeL.refl _)) | exact absurd ⟨by omega, by omega, by assumption⟩ hr
end Go.Proofs.Ytiipggfhjkalfaa
/- The constructor, empty: both texts have the same cells. -/
set_option linter.unusedSimpArgs false
set_option linter.unusedVariables false
set_option maxRecDepth 20000
open Go Go.Proofs
namespace Go.Proofs.Ytiipggfhjkalfaa
open Pm
attribute [local irreducible] Wait CallT CallW NextT Le Weak
def yS (y : List Int) : Int := (YardStateE y).1
theorem agK : ∀ (k : Nat) (x y : Int), aget 0 (x, y) (bodyK k) = if (0 ≤ x ∧ x < k) ∧ y = 2 then wS 1 else if (0 ≤ x ∧ x < k) ∧ y = 3 then wS 3 else 0
  | 0, x, y => by rw [if_neg (by omega), if_neg (by omega)]; rfl
  | k + 1, x, y => by
    simp only [bodyK]
    rw [aget_put, aget_put, agK k x y]
    simp only [Prod.mk.injEq]
    by_cases h3 : x = (k : Int) ∧ y = 3
    · rw [if_pos h3, if_neg (by omega), if_pos (by omega)]
    rw [if_neg h3]
    by_cases h2 : x = (k : Int) ∧ y = 2
    · rw [if_pos h2, if_pos (by omega)]
    rw [if_neg h2]
    by_cases h4 : (0 ≤ x ∧ x < (k : Int)) ∧ y = 2
    · rw [if_pos h4, if_pos (by omega)]
    rw [if_neg h4]
    by_cases h5 : (0 ≤ x ∧ x < (k : Int)) ∧ y = 3
    · rw [if_pos h5, if_neg (by omega), if_pos (by omega)]
    rw [if_neg h5, if_neg (by omega), if_neg (by omega)]
theorem states_same : wS 1 = yS [1, 0, 0, 0, 0, 0, 0, 0, 0, 0] ∧ wS 3 = yS [1, 2, 0, 0, 0, 0, 0, 0, 0, 0] ∧ wS 4 = yS [1, 3, 0, 0, 0, 0, 0, 0, 0, 0] ∧ wS 2 = yS [1, 1, 0, 0, 0, 0, 0, 0, 0, 0] ∧
    wS 57 = yS [8, 0, 0, 0, 0, 0, 1, 0, 0, 0] ∧ wS 53 = yS [7, 2, 0, 0, 0, 0, 0, 0, 0, 0] ∧ wS 70 = yS [10, 1, 0, 0, 0, 1, 0, 0, 0, 0] ∧ wS 66 = yS [9, 1, 0, 0, 0, 0, 0, 0, 1, 0] := by decide +kernel
theorem ringP_cases {w k : Nat} (h : 6 ≤ w) (hk : k < 2 * w) : ∃ a b : Nat, a = (w - 1) / 2 ∧ b = w - 1 - a ∧ ((k ≤ b ∧ ringP w k = (((a + k : Nat) : Int), 2)) ∨ (b < k ∧ k ≤ b + w ∧ ringP w k = (((w - 1 - (k - b - 1) : Nat) : Int), 3)) ∨ (b + w < k ∧ ringP w k = (((k - b - w - 1 : Nat) : Int), 2))) := by
  refine ⟨_, _, rfl, rfl, ?_⟩
  unfold ringP
  simp only
  split
  · exact .inl ⟨by assumption, rfl⟩
  · split
    · exact .inr (.inl ⟨by omega, by assumption, rfl⟩)
    · exact .inr (.inr ⟨by omega, rfl⟩)
theorem ringP_inj {w i j : Nat} (h : 6 ≤ w) (hi : i < 2 * w) (hj : j < 2 * w) (e : ringP w i = ringP w j) : i = j := by
  obtain ⟨a, b, ha, hb, h1⟩ := ringP_cases h hi
  obtain ⟨a', b', ha', hb', h2⟩ := ringP_cases h hj
  rcases h1 with ⟨h1, e1⟩ | ⟨h1, h1', e1⟩ | ⟨h1, e1⟩ <;> rcases h2 with ⟨h2, e2⟩ | ⟨h2, h2', e2⟩ | ⟨h2, e2⟩ <;> rw [e1, e2] at e <;> simp only [Prod.mk.injEq] at e <;> omega
theorem ringP_y {w k : Nat} (h : 6 ≤ w) (hk : k < 2 * w) : (0 ≤ (ringP w k).1 ∧ (ringP w k).1 < w) ∧ ((ringP w k).2 = 2 ∨ (ringP w k).2 = 3) := by
  obtain ⟨a, b, ha, hb, h1⟩ := ringP_cases h hk
  rcases h1 with ⟨h1, e1⟩ | ⟨h1, h1', e1⟩ | ⟨h1, e1⟩ <;> rw [e1] <;> exact ⟨⟨by simp only; omega, by simp only; omega⟩, by simp⟩
theorem ringP_onto {w : Nat} (h : 6 ≤ w) {x y : Int} (hx : 0 ≤ x ∧ x < w) (hy : y = 2 ∨ y = 3) : ∃ k, k < 2 * w ∧ ringP w k = (x, y) := by
  obtain ⟨a, ha⟩ : ∃ a, a = (w - 1) / 2 := ⟨_, rfl⟩
  rcases hy with rfl | rfl
  · by_cases hxa : x < (a : Int)
    · refine ⟨x.toNat + (w - 1 - a) + w + 1, by omega, ?_⟩
      simp only [ringP, ← ha]
      rw [if_neg (by omega), if_neg (by omega)]
      simp only [Prod.mk.injEq, and_true]; omega
    · refine ⟨x.toNat - a, by omega, ?_⟩
      simp only [ringP, ← ha]
      rw [if_pos (by omega)]
      simp only [Prod.mk.injEq, and_true]; omega
  · refine ⟨w - 1 - x.toNat + (w - 1 - a) + 1, by omega, ?_⟩
    simp only [ringP, ← ha]
    rw [if_neg (by omega), if_pos (by omega)]
    simp only [Prod.mk.injEq, and_true]; omega
theorem wholeL_nodup {w : Nat} (h : 6 ≤ w) (sy rd : List Int) (jn : Int) : ((wholeL w sy rd jn).map Prod.fst).Nodup := by
  unfold wholeL wholeR
  simp only [List.map_append, List.map_map, List.map_cons, List.map_nil]
  have hr : ∀ p, p ∈ (List.range (2 * w)).map (Prod.fst ∘ fun i => (ringP w i, wholeS w sy rd jn i)) → p.2 = 2 ∨ p.2 = 3 := fun p hp => by
    obtain ⟨k, hk, rfl⟩ := List.mem_map.1 hp
    exact (ringP_y h (List.mem_range.1 hk)).2
  rw [List.nodup_append]
  refine ⟨?_, by simp, fun p hp q hq => ?_⟩
  · rw [List.nodup_append]
    refine ⟨?_, by simp, fun p hp q hq => ?_⟩
    · rw [List.nodup_iff_pairwise_ne, List.pairwise_map]
      refine List.Pairwise.imp_of_mem ?_ List.nodup_range
      intro i j hi hj hne e
      exact hne (ringP_inj h (List.mem_range.1 hi) (List.mem_range.1 hj) e)
    · simp only [List.mem_singleton] at hq
      subst hq
      intro e
      have := hr p hp
      rw [e] at this
      simp at this
  · simp only [List.mem_singleton] at hq
    subst hq
    intro e
    rcases List.mem_append.1 hp with hp | hp
    · have := hr p hp
      rw [e] at this
      simp at this
    · simp only [List.mem_singleton] at hp
      rw [hp] at e
      simp at e
theorem key_put {α : Type} (v : α) (q p : Pl) (l : List (Pl × α)) : p ∈ (aput q v l).map Prod.fst ↔ p = q ∨ p ∈ l.map Prod.fst := by
  rw [keys_put]
  split
  · rename_i hq
    exact ⟨.inr, fun h => h.elim (fun e => e ▸ hq) id⟩
  · simp [or_comm]
/-- What stands at a place of the program's constructor. -/
theorem agL {w : Nat} (h : 6 ≤ w) (x y : Int) : aget 0 (x, y) (bodyL w) =
    if x = (((w - 1) / 2 : Nat) : Int) ∧ y = 1 then wS 66 else if x = (((w - 1) / 2 : Nat) : Int) ∧ y = 0 then wS 70 else if x = (((w - 1) / 2 : Nat) : Int) ∧ y = 3 then wS 53 else if x = (((w - 1) / 2 : Nat) : Int) ∧ y = 2 then wS 57
    else if x = 0 ∧ y = 3 then wS 2 else if x = (w : Int) - 1 ∧ y = 2 then wS 4 else if (0 ≤ x ∧ x < w) ∧ y = 2 then wS 1 else if (0 ≤ x ∧ x < w) ∧ y = 3 then wS 3 else 0 := by
  simp only [bodyL]
  rw [aget_put, aget_put, aget_put, aget_put, aget_put, aget_put, agK]
  simp only [Prod.mk.injEq]
theorem ring_states {w k : Nat} (h : 6 ≤ w) (hk : k < 2 * w) : yS (ringY w k) = aget 0 (ringP w k) (bodyL w) := by
  obtain ⟨e1, e3, e4, e2, e57, e53, e70, e66⟩ := states_same
  obtain ⟨⟨hx1, hx2⟩, hy⟩ := ringP_y h hk
  obtain ⟨a, b, ha, hb, hc⟩ := ringP_cases h hk
  unfold ringY
  rw [← ha]
  have hk0 : k = 0 ↔ (ringP w k).1 = (a : Int) ∧ (ringP w k).2 = 2 := by
    rcases hc with ⟨h1, e⟩ | ⟨h1, h1', e⟩ | ⟨h1, e⟩
    · rw [e]
      exact ⟨fun q => ⟨by simp only; omega, rfl⟩, fun q => by have := q.1; simp only at this; omega⟩
    · rw [e]
      exact ⟨fun q => by omega, fun q => by have := q.2; simp at this⟩
    · rw [e]
      exact ⟨fun q => by omega, fun q => by have := q.1; simp only at this; omega⟩
  generalize ringP w k = p at *
  obtain ⟨x, y⟩ := p
  simp only at *
  rw [agL h x y, ← ha]
  by_cases q0 : k = 0
  · have := hk0.1 q0
    rw [if_pos q0, if_neg (by omega), if_neg (by omega), if_neg (by omega), if_pos this, e57]
  rw [if_neg q0]
  have q0' : ¬ (x = (a : Int) ∧ y = 2) := fun q => q0 (hk0.2 q)
  by_cases q1 : y = 3 ∧ x = (a : Int)
  · rw [if_pos q1, if_neg (by omega), if_neg (by omega), if_pos ⟨q1.2, q1.1⟩, e53]
  rw [if_neg q1]
  by_cases q2 : y = 3 ∧ x = 0
  · rw [if_pos q2, if_neg (by omega), if_neg (by omega), if_neg (by omega), if_neg (by omega), if_pos ⟨q2.2, q2.1⟩, e2]
  rw [if_neg q2]
  by_cases q3 : y = 3
  · rw [if_pos q3, if_neg (by omega), if_neg (by omega), if_neg (by omega), if_neg (by omega), if_neg (by omega), if_neg (by omega), if_neg (by omega), if_pos (by omega), e3]
  rw [if_neg q3]
  by_cases q4 : x = (w : Int) - 1
  · rw [if_pos q4, if_neg (by omega), if_neg (by omega), if_neg (by omega), if_neg (by omega), if_neg (by omega), if_pos (by omega), e4]
  · rw [if_neg q4, if_neg (by omega), if_neg (by omega), if_neg (by omega), if_neg (by omega), if_neg (by omega), if_neg (by omega), if_pos (by omega), e1]
theorem agL_key {w : Nat} (h : 6 ≤ w) (p : Pl) : p ∈ (bodyL w).map Prod.fst ↔ (p = ((((w - 1) / 2 : Nat) : Int), 1) ∨ p = ((((w - 1) / 2 : Nat) : Int), 0)) ∨ ((0 ≤ p.1 ∧ p.1 < w) ∧ (p.2 = 2 ∨ p.2 = 3)) := by
  have hK : ∀ (k : Nat) (q : Pl), q ∈ (bodyK k).map Prod.fst ↔ (0 ≤ q.1 ∧ q.1 < k) ∧ (q.2 = 2 ∨ q.2 = 3) := by
    intro k
    induction k with
    | zero => intro q; simp only [bodyK, List.map_nil, List.not_mem_nil, false_iff]; omega
    | succ k ih =>
      rintro ⟨x, y⟩
      simp only [bodyK, key_put, ih, Prod.mk.injEq]
      omega
  obtain ⟨x, y⟩ := p
  simp only [bodyL, key_put, hK, Prod.mk.injEq]
  omega
end Go.Proofs.Ytiipggfhjkalfaa
/- The constructor, empty: the same cells in the same order. -/
set_option linter.unusedSimpArgs false
set_option linter.unusedVariables false
set_option maxRecDepth 20000
open Go Go.Proofs
namespace Go.Proofs.Ytiipggfhjkalfaa
open Pm
attribute [local irreducible] Wait CallT CallW NextT Le Weak
theorem mem_key {α : Type} {d : α} {l : List (Pl × α)} (h : (l.map Prod.fst).Nodup) {p : Pl} {a : α} : (p, a) ∈ l ↔ p ∈ l.map Prod.fst ∧ aget d p l = a := by
  induction l with
  | nil => simp
  | cons e l ih =>
    obtain ⟨q, b⟩ := e
    rw [List.map_cons, List.nodup_cons] at h
    simp only [List.mem_cons, Prod.mk.injEq, List.map_cons, aget]
    by_cases hq : p = q
    · rw [if_pos hq]
      constructor
      · rintro (⟨-, h1⟩ | h1)
        · exact ⟨.inl hq, h1.symm⟩
        · refine absurd ?_ h.1
          rw [← hq]
          exact List.mem_map_of_mem (f := Prod.fst) (a := (p, a)) h1
      · exact fun h1 => .inl ⟨hq, h1.2.symm⟩
    · rw [if_neg hq, ih h.2]
      simp [hq]
theorem wholeS_zero {w k : Nat} (hk : k < 2 * w) : wholeS w (zerosL (2 * w)) (ringY w 0) 0 k = yS (ringY w k) := by
  have hz : (zerosL (2 * w)).getD k 0 = 0 := by
    simp [zerosL, List.getD_eq_getElem?_getD, hk]
  have h0 : ringY w 0 = [8, 0, 0, 0, 0, 0, 1, 0, 0, 0] := by unfold ringY; rw [if_pos rfl]
  unfold wholeS yS wholeY
  rw [hz]
  rcases ringY_kinds w k with hy | hy | ⟨d, hy⟩
  · rw [hy, h0]; rfl
  · rw [hy]; rfl
  · rw [hy]; rfl
theorem body_same {w : Nat} (h : 6 ≤ w) : sortC (bodyL w) = sortC (wholeL w (zerosL (2 * w)) (ringY w 0) 0) := by
  obtain ⟨e1, e3, e4, e2, e57, e53, e70, e66⟩ := states_same
  have hn := wholeL_nodup h (zerosL (2 * w)) (ringY w 0) 0
  refine sortC_congr (perm_mem (nodup_of Prod.fst (bodyL_nodup w)) (nodup_of Prod.fst hn) fun c => ?_) hn
  obtain ⟨a, ha⟩ : ∃ a, a = (w - 1) / 2 := ⟨_, rfl⟩
  have g1 : aget 0 ((a : Int), 1) (bodyL w) = yS [9, 1, 0, 0, 0, 0, 0, 0, 1, 0] := by
    rw [agL h, ← ha, if_pos ⟨rfl, rfl⟩, e66]
  have g0 : aget 0 ((a : Int), 0) (bodyL w) = yS [10, 1, 0, 0, 0, 1, 0, 0, 0, 0] := by
    rw [agL h, ← ha, if_neg (by omega), if_pos ⟨rfl, rfl⟩, e70]
  obtain ⟨p, s⟩ := c
  rw [mem_key (d := 0) (bodyL_nodup w), agL_key h, ← ha]
  simp only [wholeL, wholeR, List.mem_append, List.mem_map, List.mem_range, List.mem_singleton, ← ha]
  constructor
  · rintro ⟨hp, rfl⟩
    rcases hp with (rfl | rfl) | ⟨hx, hy⟩
    · exact .inr (by rw [g1]; rfl)
    · exact .inl (.inr (by rw [g0]; rfl))
    · obtain ⟨x, y⟩ := p
      obtain ⟨k, hk, e⟩ := ringP_onto h hx hy
      exact .inl (.inl ⟨k, hk, by rw [wholeS_zero hk, ring_states h hk, e]⟩)
  · rintro ((⟨k, hk, e⟩ | e) | e)
    · obtain ⟨e5, e6⟩ := Prod.mk.inj e
      rw [wholeS_zero hk, ring_states h hk] at e6
      rw [← e5, ← e6]
      exact ⟨.inr (ringP_y h hk), rfl⟩
    · obtain ⟨e5, e6⟩ := Prod.mk.inj e
      rw [e5, e6]
      exact ⟨.inl (.inr rfl), g0⟩
    · obtain ⟨e5, e6⟩ := Prod.mk.inj e
      rw [e5, e6]
      exact ⟨.inl (.inl rfl), g1⟩
end Go.Proofs.Ytiipggfhjkalfaa
