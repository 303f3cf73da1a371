/- What a tape means: writing. -/
import Derived.Test.YtiipggfhjkalfaaProg
import Derived.Test.YtiipggfhjkalfaaPmU
import Derived.Test.YtiipggfhjkalfaaMmG
set_option linter.unusedSimpArgs false
set_option linter.unusedVariables false
set_option maxRecDepth 20000
open Go Go.Proofs
namespace Go.Proofs.Ytiipggfhjkalfaa
open Pm
attribute [local irreducible] Wait CallT CallW NextT Le Weak
def kindOf (s : Int) : Int := (YardOfE s).1.getD 0 0
def dirOf (s : Int) : Int := (YardOfE s).1.getD 1 0
theorem digs_keep : ∀ (F : List (Nat × Nat)) (y : List Int) (r : Int), (∀ p ∈ F, 2 ≤ p.2) → (digs F y r).1.getD 1 0 = y.getD 1 0
  | [], _, _, _ => rfl
  | f :: F, y, r, h => by
    have h1 := digs_keep F (y.set f.2 (r % f.1)) (r / f.1) (fun p hp => h p (List.mem_cons_of_mem _ hp))
    have h2 : digs (f :: F) y r = digs F (y.set f.2 (r % f.1)) (r / f.1) := rfl
    rw [h2, h1]
    have := h f (by simp)
    rw [List.getD_eq_getElem?_getD, List.getElem?_set_ne (by omega), List.getD_eq_getElem?_getD]
theorem yardOf_len (s : Int) : (YardOfE s).1.length = 10 := by
  unfold YardOfE
  split
  · rfl
  · rename_i h
    split
    · exact (digs_ok _ _ _ (by rfl) (by omega) fun p hp => (kindF_ok _ p hp).2.2.1).1
    · rfl
theorem dir_ok (s : Int) : 0 ≤ dirOf s ∧ dirOf s < 4 := by
  unfold dirOf YardOfE
  split
  · simp [zero10]
  · split
    · simp only
      rw [digs_keep _ _ _ fun p hp => (kindF_ok _ p hp).2.1]
      simp only [part0, List.getD_cons_succ, List.getD_cons_zero]
      omega
    · simp [zero10]
theorem yard10 (s : Int) : ∃ a2 a3 a4 a5 a6 a7 a8 a9, (YardOfE s).1 = [kindOf s, dirOf s, a2, a3, a4, a5, a6, a7, a8, a9] := by
  have h := yardOf_len s
  unfold kindOf dirOf
  generalize (YardOfE s).1 = l at h ⊢
  match l, h with
  | [a0, a1, a2, a3, a4, a5, a6, a7, a8, a9], _ => exact ⟨a2, a3, a4, a5, a6, a7, a8, a9, rfl⟩
theorem wState_nat : ∀ n : Nat, n < 73 → 0 ≤ (YardStateE (WrittenY n)).1 ∧ (YardStateE (WrittenY n)).1 ≤ 1000000 := by decide +kernel
theorem wState_bd (i : Int) : 0 ≤ (WrittenStateE i).1 ∧ (WrittenStateE i).1 ≤ 1000000 := by
  unfold WrittenStateE
  split
  · simp
  · rename_i h
    obtain ⟨n, rfl⟩ : ∃ n : Nat, i = n := ⟨i.toNat, by omega⟩
    exact wState_nat n (by omega)
/-- One state written. -/
def wrR (w : Wk) (s : Int) : Int × Wk :=
  let f := onP (w.s.x, w.s.y) (dirOf s)
  if w.trail.length = 1 ∨ kindOf s = 9 ∧ aget false f w.onto = true then (70, w)
  else
    let t := w.trail.getD (w.trail.length - 1) default
    (0, { w with fronts := if kindOf s = 9 then aput f true w.fronts else w.fronts, wrote := aput (w.s.x, w.s.y) s w.wrote, s := t, trail := w.trail.take (w.trail.length - 1), onto := adel (t.x, t.y) w.onto })
def wrN (s : Int) : Nat → Wk → Int × Wk
  | 0, w => (0, w)
  | k + 1, w => let r := wrR w s; if r.1 = 0 then wrN s k r.2 else r
theorem wrN_bad {s : Int} {k : Nat} {w : Wk} (h : (wrR w s).1 ≠ 0) : wrN s (k + 1) w = wrR w s := by simp only [wrN, if_neg h]
theorem wrN_ok {s : Int} {k : Nat} {w : Wk} (h : (wrR w s).1 = 0) : wrN s (k + 1) w = wrN s k (wrR w s).2 := by simp only [wrN, if_pos h]
def wrW (v : Wk) (s : Int) (t : Sd) (n : Nat) (f : List (Pl × Bool)) : Wk := { v with fronts := f, wrote := aput (v.s.x, v.s.y) s v.wrote, s := t, trail := v.trail.take n, onto := adel (t.x, t.y) v.onto }
section
variable {v : Wk} {q a b : Int} {n : Nat}
theorem wrR_bad (hab : onP (v.s.x, v.s.y) (dirOf q) = (a, b)) (h : v.trail.length = 1 ∨ kindOf q = 9 ∧ aget false (a, b) v.onto = true) : wrR v q = (70, v) := by simp only [wrR, hab, if_pos h]
theorem wrR_arm (hab : onP (v.s.x, v.s.y) (dirOf q) = (a, b)) (hn : n + 1 = v.trail.length) (h : ¬ v.trail.length = 1) (h9 : kindOf q = 9) (h2 : aget false (a, b) v.onto = false) : wrR v q = (0, wrW v q (v.trail.getD n default) n (aput (a, b) true v.fronts)) := by
  have h3 : ¬ (v.trail.length = 1 ∨ kindOf q = 9 ∧ aget false (a, b) v.onto = true) := by rintro (h0 | ⟨_, h0⟩) ; exact h h0 ; rw [h2] at h0 ; cases h0
  simp only [wrR, hab, if_neg h3, if_pos h9, show v.trail.length - 1 = n by omega, wrW]
theorem wrR_other (hab : onP (v.s.x, v.s.y) (dirOf q) = (a, b)) (hn : n + 1 = v.trail.length) (h : ¬ v.trail.length = 1) (h9 : ¬ kindOf q = 9) : wrR v q = (0, wrW v q (v.trail.getD n default) n v.fronts) := by
  have h3 : ¬ (v.trail.length = 1 ∨ kindOf q = 9 ∧ aget false (a, b) v.onto = true) := by rintro (h0 | ⟨h0, _⟩) ; exact h h0 ; exact h9 h0
  simp only [wrR, hab, if_neg h3, if_neg h9, show v.trail.length - 1 = n by omega, wrW]
end
def wrS (i : Int) (C : Nat) (b : Nat × Wk) : St := ⟨98, 6, [(0, .ptr 0 11 0 0), (6, .v (.int .i64 i)), (31, .v (.int .i64 (C : Int))), (32, .v (.int .i64 (b.1 : Int)))], wkE b.2⟩
theorem write_con (w : Wk) (s : Int) (n : Nat) (hw : WkOk w n) (hn : n < 900000000000) (hc : 0 ≤ w.count) (hc' : w.count ≤ 255) (hs : 24 ≤ s) (hs' : s < 97) : Con Try.prog 81 [.ptr 0 11 0 0, .v (.int .i64 s)] (wkS w)
    fun r h' => ∃ e w', wrN (WrittenStateE (s - 24)).1 (max w.count 1).toNat (paidW w fun l => IntKind.i64.wrap (IntKind.i64.wrap (l + max w.count 1) + 2)) = (e, w') ∧ r = .v (.int .i64 e) ∧ 6 ≤ h'.length ∧ (e = 0 → h' = wkE w') := by
  refine con_run 1000 Try.func81 rfl Try.results81 Try.ntmps81 (Nat.le_of_ble_eq_true rfl) ?_
  obtain ⟨C, hC⟩ : ∃ C, C = (max w.count 1).toNat := ⟨_, rfl⟩
  have hC' : max w.count 1 = (C : Int) := by omega
  have hCm : C ≤ 255 := by omega
  have es : IntKind.i64.wrap (s - 24) = s - 24 := wrap64 (by omega) (by omega)
  rw [← hC]
  simp (maxSteps := 1000000) -implicitDefEqProofs only [go_sem, ↓reduceIte, reduceCtorEq, Nat.reduceEqDiff, Nat.reduceLT, Nat.reduceAdd, Nat.reduceLeDiff, Nat.reduceMul, Nat.reduceSub, Int.reduceToNat, Int.reduceLT, Int.reduceLE, Int.reduceEq, Int.reduceBNe, Nat.reduceBEq, wkS, wkB, trB, es]
  (repeat' (first | exact trivial | contradiction | exact ⟨_, rfl⟩ | refine And.intro ?_ ?_ | ((first | show (_ : Nat) ≤ _ | show (_ : Nat) < _ | show (_ : Int) ≤ _ | show (_ : Int) < _); omega) | (refine wait_draw 1000 mixed (by decide +kernel) ?_; simp (maxSteps := 1000000) -implicitDefEqProofs only [go_sem, ↓reduceIte, reduceCtorEq, Nat.reduceEqDiff, Nat.reduceLT, Nat.reduceAdd, Nat.reduceLeDiff, Nat.reduceMul, Nat.reduceSub, Int.reduceToNat, Int.reduceLT, Int.reduceLE, Int.reduceEq, Int.reduceBNe, Nat.reduceBEq, wrowA, wkS, wkB, trB, hC', es]) | ((first | refine call_con_eq 1000 [0,1,2,3,4,5] (times_con w.count (.v (.int .i64 w.s.x)) (.v (.int .i64 w.s.y)) (.v (.int .i64 w.s.d)) (.sl 5 3 0 w.trail.length) (.map 1) (.map 2) (.map 3) (.map 4) (.v (.int .i64 w.long)) (.v (.int .i64 w.give)) [some (.mp (mE bA w.onto)), some (.mp (mE iA w.wrote)), some (.mp (mE bA w.fronts)), some (.mp (mE bA w.road)), trB w.trail]) ?_ ?_ ?_ (by simp) (by simp) rfl (by first | (simp; done) | exact Nat.le_of_ble_eq_true rfl) | refine call_draw_con 1000 [0,1,2,3,4,5] (times_con w.count (.v (.int .i64 w.s.x)) (.v (.int .i64 w.s.y)) (.v (.int .i64 w.s.d)) (.sl 5 3 0 w.trail.length) (.map 1) (.map 2) (.map 3) (.map 4) (.v (.int .i64 w.long)) (.v (.int .i64 w.give)) [some (.mp (mE bA w.onto)), some (.mp (mE iA w.wrote)), some (.mp (mE bA w.fronts)), some (.mp (mE bA w.road)), trB w.trail]) (by decide +kernel) ?_ ?_ ?_ (by simp) (by simp) rfl (by first | (simp; done) | exact Nat.le_of_ble_eq_true rfl)); (focus (simp (maxSteps := 1000000) -implicitDefEqProofs only [go_sem, ↓reduceIte, reduceCtorEq, Nat.reduceEqDiff, Nat.reduceLT, Nat.reduceAdd, Nat.reduceLeDiff, Nat.reduceMul, Nat.reduceSub, Int.reduceToNat, Int.reduceLT, Int.reduceLE, Int.reduceEq, Int.reduceBNe, Nat.reduceBEq, wrowA, wkS, wkB, trB, hC', es]; done)); (focus (simp (maxSteps := 1000000) -implicitDefEqProofs only [go_sem, ↓reduceIte, reduceCtorEq, Nat.reduceEqDiff, Nat.reduceLT, Nat.reduceAdd, Nat.reduceLeDiff, Nat.reduceMul, Nat.reduceSub, Int.reduceToNat, Int.reduceLT, Int.reduceLE, Int.reduceEq, Int.reduceBNe, Nat.reduceBEq, wrowA, wkS, wkB, trB, hC', es]; done)); simp (maxSteps := 1000000) -implicitDefEqProofs only [go_sem, ↓reduceIte, reduceCtorEq, Nat.reduceEqDiff, Nat.reduceLT, Nat.reduceAdd, Nat.reduceLeDiff, Nat.reduceMul, Nat.reduceSub, Int.reduceToNat, Int.reduceLT, Int.reduceLE, Int.reduceEq, Int.reduceBNe, Nat.reduceBEq, wrowA, wkS, wkB, trB, hC', es]) | ((first | refine call_eq_read 1000 (size_wk w.trail 0 w.onto w.wrote w.fronts w.road w.long w.give (Nat.lt_of_le_of_lt hw.tl (by omega))) ?_ ?_ ?_ rfl | refine call_draw_read 1000 (size_wk w.trail 0 w.onto w.wrote w.fronts w.road w.long w.give (Nat.lt_of_le_of_lt hw.tl (by omega))) ?_ ?_ ?_); (focus (simp (maxSteps := 1000000) -implicitDefEqProofs only [go_sem, ↓reduceIte, reduceCtorEq, Nat.reduceEqDiff, Nat.reduceLT, Nat.reduceAdd, Nat.reduceLeDiff, Nat.reduceMul, Nat.reduceSub, Int.reduceToNat, Int.reduceLT, Int.reduceLE, Int.reduceEq, Int.reduceBNe, Nat.reduceBEq, wrowA, wkS, wkB, trB, hC', es]; done)); (focus ((first | intro ext | skip); simp (maxSteps := 1000000) -implicitDefEqProofs only [go_sem, ↓reduceIte, reduceCtorEq, Nat.reduceEqDiff, Nat.reduceLT, Nat.reduceAdd, Nat.reduceLeDiff, Nat.reduceMul, Nat.reduceSub, Int.reduceToNat, Int.reduceLT, Int.reduceLE, Int.reduceEq, Int.reduceBNe, Nat.reduceBEq, wrowA, wkS, wkB, trB, hC', es]; done)); simp (maxSteps := 1000000) -implicitDefEqProofs only [go_sem, ↓reduceIte, reduceCtorEq, Nat.reduceEqDiff, Nat.reduceLT, Nat.reduceAdd, Nat.reduceLeDiff, Nat.reduceMul, Nat.reduceSub, Int.reduceToNat, Int.reduceLT, Int.reduceLE, Int.reduceEq, Int.reduceBNe, Nat.reduceBEq, wrowA, wkS, wkB, trB, hC', es]) | intro _))
  obtain ⟨w0, hw0⟩ : ∃ w0, w0 = paidW w fun l => IntKind.i64.wrap (IntKind.i64.wrap (l + (C : Int)) + 2) := ⟨_, rfl⟩
  rw [← hw0]
  obtain ⟨q, hq⟩ : ∃ q, q = (WrittenStateE (s - 24)).1 := ⟨_, rfl⟩
  rw [← hq]
  refine wait_data (wrS (s - 24) C) (fun b => b.1 ≤ C ∧ WkOk b.2 n ∧ wrN q (C - b.1) b.2 = wrN q C w0) (fun b => C - b.1) (0, w0) (weak_to' [0, 6, 31, 32] [0, 1, 2, 3, 4, 100, 5] ?_ (by decide) (stay_of rfl)) ⟨Nat.zero_le _, (by rw [hw0]; exact ⟨hw.tl, hw.ne, hw.s, hw.all⟩), rfl⟩ ?_
  · simp (maxSteps := 1000000) -implicitDefEqProofs only [go_sem, ↓reduceIte, reduceCtorEq, Nat.reduceEqDiff, Nat.reduceLT, Nat.reduceAdd, Nat.reduceLeDiff, Nat.reduceMul, Nat.reduceSub, Int.reduceToNat, Int.reduceLT, Int.reduceLE, Int.reduceEq, Int.reduceBNe, Nat.reduceBEq, St.keep, wrS, wkE, wkB, trB, hw0, paidW, Int.natCast_zero]
  rintro ⟨k, v⟩ ⟨hk, hv, hG⟩
  simp only at hk hv hG
  refine run_sound 1000 _ _ ?_
  by_cases hkC : k < C
  · have hlt : ((k : Int) < (C : Int)) = True := eq_true (by omega)
    obtain ⟨m, hm⟩ : ∃ m, C - k = m + 1 := ⟨C - k - 1, by omega⟩
    obtain ⟨a, b, hab⟩ : ∃ a b, onP (v.s.x, v.s.y) (dirOf q) = (a, b) := ⟨_, _, rfl⟩
    have hon := on_pc v.s.x v.s.y (dirOf q) (dir_ok q).1 (dir_ok q).2 (by have := hv.s.x; omega) (by have := hv.s.x; omega) (by have := hv.s.y; omega) (by have := hv.s.y; omega)
    rw [hab] at hon
    obtain ⟨a2, a3, a4, a5, a6, a7, a8, a9, hy⟩ := yard10 q
    have hyp := yardOf_pc q (by have := (wState_bd (s - 24)).2; rw [← hq] at this; omega)
    rw [hy] at hyp
    simp only [yA, iA, List.map_cons, List.map_nil] at hyp
    have hwp := written_pc (s - 24)
    rw [← hq] at hwp
    simp only [iA] at hwp
    obtain ⟨tn, htn⟩ : ∃ tn, tn + 1 = v.trail.length := ⟨v.trail.length - 1, by have := hv.ne; omega⟩
    have htl3 : v.trail.length < 1000000000000 := by have := hv.tl; omega
    have hpop : ¬ v.trail.length = 1 → ∀ f, WkOk (wrW v q (v.trail.getD tn default) tn f) n := fun h0 f => by
      refine ⟨by have := hv.tl; simp [wrW]; omega, by simp [wrW]; omega, ?_, fun t ht => hv.all t (List.mem_of_mem_take ht)⟩
      refine hv.all _ ?_
      rw [List.getD_eq_getElem?_getD, List.getElem?_eq_getElem (by omega)]
      exact List.getElem_mem _
    have hw1 : IntKind.i64.wrap ((k : Int) + 1) = ((k + 1 : Nat) : Int) := by rw [wrap64 (by omega) (by omega)]; omega
    have htl : v.trail.length < 900000000255 := by have := hv.tl; omega
    simp (maxSteps := 1000000) -implicitDefEqProofs only [go_sem, ↓reduceIte, reduceCtorEq, Nat.reduceEqDiff, Nat.reduceLT, Nat.reduceAdd, Nat.reduceLeDiff, Nat.reduceMul, Nat.reduceSub, Int.reduceToNat, Int.reduceLT, Int.reduceLE, Int.reduceEq, Int.reduceBNe, Nat.reduceBEq, wrS, wkE, wkB, trB, hlt, mget_pl]
    (repeat' (first | exact trivial | contradiction | exact ⟨_, rfl⟩ | refine And.intro ?_ ?_ | ((first | show (_ : Nat) ≤ _ | show (_ : Nat) < _ | show (_ : Int) ≤ _ | show (_ : Int) < _); omega) | (refine wait_draw 1000 mixed (by decide +kernel) ?_; simp (maxSteps := 1000000) -implicitDefEqProofs only [go_sem, ↓reduceIte, reduceCtorEq, Nat.reduceEqDiff, Nat.reduceLT, Nat.reduceAdd, Nat.reduceLeDiff, Nat.reduceMul, Nat.reduceSub, Int.reduceToNat, Int.reduceLT, Int.reduceLE, Int.reduceEq, Int.reduceBNe, Nat.reduceBEq, wkS, wkE, wkB, trB, hlt, mget_pl, sdA]) | ((first | refine call_eq 1000 (hwp) ?_ ?_ rfl | refine call_draw 1000 (hwp) ?_ ?_ | refine call_eq 1000 (hyp) ?_ ?_ rfl | refine call_draw 1000 (hyp) ?_ ?_ | refine call_eq 1000 ((show PCon Try.prog 70 _ (· = AV.agg [.v (.int .i64 a), .v (.int .i64 b)]) from hon)) ?_ ?_ rfl | refine call_draw 1000 ((show PCon Try.prog 70 _ (· = AV.agg [.v (.int .i64 a), .v (.int .i64 b)]) from hon)) ?_ ?_); (focus (simp (maxSteps := 1000000) -implicitDefEqProofs only [go_sem, ↓reduceIte, reduceCtorEq, Nat.reduceEqDiff, Nat.reduceLT, Nat.reduceAdd, Nat.reduceLeDiff, Nat.reduceMul, Nat.reduceSub, Int.reduceToNat, Int.reduceLT, Int.reduceLE, Int.reduceEq, Int.reduceBNe, Nat.reduceBEq, wkS, wkE, wkB, trB, hlt, mget_pl, sdA]; done)); simp (maxSteps := 1000000) -implicitDefEqProofs only [go_sem, ↓reduceIte, reduceCtorEq, Nat.reduceEqDiff, Nat.reduceLT, Nat.reduceAdd, Nat.reduceLeDiff, Nat.reduceMul, Nat.reduceSub, Int.reduceToNat, Int.reduceLT, Int.reduceLE, Int.reduceEq, Int.reduceBNe, Nat.reduceBEq, wkS, wkE, wkB, trB, hlt, mget_pl, sdA]) | ((first | refine call_con_eq 1000 [0,1,2,3,4,6] (pop_con { v with fronts := aput (a, b) true v.fronts, wrote := aput (v.s.x, v.s.y) q v.wrote } tn htn htl3) ?_ ?_ ?_ (by simp) (by simp) rfl (by first | (simp; done) | exact Nat.le_of_ble_eq_true rfl) | refine call_draw_con 1000 [0,1,2,3,4,6] (pop_con { v with fronts := aput (a, b) true v.fronts, wrote := aput (v.s.x, v.s.y) q v.wrote } tn htn htl3) (by decide +kernel) ?_ ?_ ?_ (by simp) (by simp) rfl (by first | (simp; done) | exact Nat.le_of_ble_eq_true rfl)); (focus (simp (maxSteps := 1000000) -implicitDefEqProofs only [go_sem, ↓reduceIte, reduceCtorEq, Nat.reduceEqDiff, Nat.reduceLT, Nat.reduceAdd, Nat.reduceLeDiff, Nat.reduceMul, Nat.reduceSub, Int.reduceToNat, Int.reduceLT, Int.reduceLE, Int.reduceEq, Int.reduceBNe, Nat.reduceBEq, wkS, wkE, wkB, trB, hlt, mget_pl, sdA]; done)); (focus (simp (maxSteps := 1000000) -implicitDefEqProofs only [go_sem, ↓reduceIte, reduceCtorEq, Nat.reduceEqDiff, Nat.reduceLT, Nat.reduceAdd, Nat.reduceLeDiff, Nat.reduceMul, Nat.reduceSub, Int.reduceToNat, Int.reduceLT, Int.reduceLE, Int.reduceEq, Int.reduceBNe, Nat.reduceBEq, wkS, wkE, wkB, trB, hlt, mget_pl, sdA]; done)); simp (maxSteps := 1000000) -implicitDefEqProofs only [go_sem, ↓reduceIte, reduceCtorEq, Nat.reduceEqDiff, Nat.reduceLT, Nat.reduceAdd, Nat.reduceLeDiff, Nat.reduceMul, Nat.reduceSub, Int.reduceToNat, Int.reduceLT, Int.reduceLE, Int.reduceEq, Int.reduceBNe, Nat.reduceBEq, wkS, wkE, wkB, trB, hlt, mget_pl, sdA]) | ((first | refine call_con_eq 1000 [0,1,2,3,4,6] (pop_con { v with wrote := aput (v.s.x, v.s.y) q v.wrote } tn htn htl3) ?_ ?_ ?_ (by simp) (by simp) rfl (by first | (simp; done) | exact Nat.le_of_ble_eq_true rfl) | refine call_draw_con 1000 [0,1,2,3,4,6] (pop_con { v with wrote := aput (v.s.x, v.s.y) q v.wrote } tn htn htl3) (by decide +kernel) ?_ ?_ ?_ (by simp) (by simp) rfl (by first | (simp; done) | exact Nat.le_of_ble_eq_true rfl)); (focus (simp (maxSteps := 1000000) -implicitDefEqProofs only [go_sem, ↓reduceIte, reduceCtorEq, Nat.reduceEqDiff, Nat.reduceLT, Nat.reduceAdd, Nat.reduceLeDiff, Nat.reduceMul, Nat.reduceSub, Int.reduceToNat, Int.reduceLT, Int.reduceLE, Int.reduceEq, Int.reduceBNe, Nat.reduceBEq, wkS, wkE, wkB, trB, hlt, mget_pl, sdA]; done)); (focus (simp (maxSteps := 1000000) -implicitDefEqProofs only [go_sem, ↓reduceIte, reduceCtorEq, Nat.reduceEqDiff, Nat.reduceLT, Nat.reduceAdd, Nat.reduceLeDiff, Nat.reduceMul, Nat.reduceSub, Int.reduceToNat, Int.reduceLT, Int.reduceLE, Int.reduceEq, Int.reduceBNe, Nat.reduceBEq, wkS, wkE, wkB, trB, hlt, mget_pl, sdA]; done)); simp (maxSteps := 1000000) -implicitDefEqProofs only [go_sem, ↓reduceIte, reduceCtorEq, Nat.reduceEqDiff, Nat.reduceLT, Nat.reduceAdd, Nat.reduceLeDiff, Nat.reduceMul, Nat.reduceSub, Int.reduceToNat, Int.reduceLT, Int.reduceLE, Int.reduceEq, Int.reduceBNe, Nat.reduceBEq, wkS, wkE, wkB, trB, hlt, mget_pl, sdA]) | ((first | refine call_eq_read 1000 (size_wk v.trail v.count v.onto v.wrote v.fronts v.road v.long v.give (Nat.lt_trans htl (by omega))) ?_ ?_ ?_ rfl | refine call_draw_read 1000 (size_wk v.trail v.count v.onto v.wrote v.fronts v.road v.long v.give (Nat.lt_trans htl (by omega))) ?_ ?_ ?_); (focus (simp (maxSteps := 1000000) -implicitDefEqProofs only [go_sem, ↓reduceIte, reduceCtorEq, Nat.reduceEqDiff, Nat.reduceLT, Nat.reduceAdd, Nat.reduceLeDiff, Nat.reduceMul, Nat.reduceSub, Int.reduceToNat, Int.reduceLT, Int.reduceLE, Int.reduceEq, Int.reduceBNe, Nat.reduceBEq, wkS, wkE, wkB, trB, hlt, mget_pl, sdA]; done)); (focus ((first | intro ext | skip); simp (maxSteps := 1000000) -implicitDefEqProofs only [go_sem, ↓reduceIte, reduceCtorEq, Nat.reduceEqDiff, Nat.reduceLT, Nat.reduceAdd, Nat.reduceLeDiff, Nat.reduceMul, Nat.reduceSub, Int.reduceToNat, Int.reduceLT, Int.reduceLE, Int.reduceEq, Int.reduceBNe, Nat.reduceBEq, wkS, wkE, wkB, trB, hlt, mget_pl, sdA]; done)); simp (maxSteps := 1000000) -implicitDefEqProofs only [go_sem, ↓reduceIte, reduceCtorEq, Nat.reduceEqDiff, Nat.reduceLT, Nat.reduceAdd, Nat.reduceLeDiff, Nat.reduceMul, Nat.reduceSub, Int.reduceToNat, Int.reduceLT, Int.reduceLE, Int.reduceEq, Int.reduceBNe, Nat.reduceBEq, wkS, wkE, wkB, trB, hlt, mget_pl, sdA]) | intro _))
    all_goals first
      | (have h1 : v.trail.length = 1 ∨ kindOf q = 9 ∧ aget false (a, b) v.onto = true := by first | exact .inr ⟨‹_›, ‹_›⟩ | exact .inl (by omega)
         refine ⟨70, v, ?_, rfl, fun h => by omega⟩
         have hr := wrR_bad hab h1
         rw [← hG, hm, show wrN q (m + 1) v = wrR v q from wrN_bad (by rw [hr]; simp), hr])
      | (have h0 : ¬ v.trail.length = 1 := by omega
         have hok := wrR_arm hab htn h0 ‹_› ‹_›
         refine ⟨(k + 1, (wrR v q).2), ?_, ⟨?_, ?_, ?_⟩, ?_⟩
         · show C - (k + 1) < C - k; omega
         · show k + 1 ≤ C; omega
         · rw [hok]; exact hpop h0 _
         · show wrN q (C - (k + 1)) (wrR v q).2 = _
           rw [← hG, hm, show wrN q (m + 1) v = wrN q m (wrR v q).2 from wrN_ok (by rw [hok]), show C - (k + 1) = m by omega]
         · rw [hok]
           refine weak_to' [0, 6, 31, 32] [0, 1, 2, 3, 4, 100, 9] ?_ (by decide) (stay_of rfl)
           simp (maxSteps := 1000000) -implicitDefEqProofs only [go_sem, ↓reduceIte, reduceCtorEq, Nat.reduceEqDiff, Nat.reduceLT, Nat.reduceAdd, Nat.reduceLeDiff, Nat.reduceMul, Nat.reduceSub, Int.reduceToNat, Int.reduceLT, Int.reduceLE, Int.reduceEq, Int.reduceBNe, Nat.reduceBEq, St.keep, wkB, trB, hw1, wrW, wkE])
      | (have h0 : ¬ v.trail.length = 1 := by omega
         have hok := wrR_other hab htn h0 ‹_›
         refine ⟨(k + 1, (wrR v q).2), ?_, ⟨?_, ?_, ?_⟩, ?_⟩
         · show C - (k + 1) < C - k; omega
         · show k + 1 ≤ C; omega
         · rw [hok]; exact hpop h0 _
         · show wrN q (C - (k + 1)) (wrR v q).2 = _
           rw [← hG, hm, show wrN q (m + 1) v = wrN q m (wrR v q).2 from wrN_ok (by rw [hok]), show C - (k + 1) = m by omega]
         · rw [hok]
           refine weak_to' [0, 6, 31, 32] [0, 1, 2, 3, 4, 100, 8] ?_ (by decide) (stay_of rfl)
           simp (maxSteps := 1000000) -implicitDefEqProofs only [go_sem, ↓reduceIte, reduceCtorEq, Nat.reduceEqDiff, Nat.reduceLT, Nat.reduceAdd, Nat.reduceLeDiff, Nat.reduceMul, Nat.reduceSub, Int.reduceToNat, Int.reduceLT, Int.reduceLE, Int.reduceEq, Int.reduceBNe, Nat.reduceBEq, St.keep, wkB, trB, hw1, wrW, wkE])
  · have hlt : ((k : Int) < (C : Int)) = False := eq_false (by omega)
    simp (maxSteps := 1000000) -implicitDefEqProofs only [go_sem, ↓reduceIte, reduceCtorEq, Nat.reduceEqDiff, Nat.reduceLT, Nat.reduceAdd, Nat.reduceLeDiff, Nat.reduceMul, Nat.reduceSub, Int.reduceToNat, Int.reduceLT, Int.reduceLE, Int.reduceEq, Int.reduceBNe, Nat.reduceBEq, wrS, wkE, wkB, trB, hlt]
    refine ⟨0, v, ?_, rfl, fun _ => rfl⟩
    rw [← hG, show C - k = 0 by omega]
    rfl
end Go.Proofs.Ytiipggfhjkalfaa
