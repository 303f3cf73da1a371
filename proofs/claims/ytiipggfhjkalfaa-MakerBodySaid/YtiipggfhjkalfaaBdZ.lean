import Derived.Test.YtiipggfhjkalfaaProg
import Derived.Test.YtiipggfhjkalfaaPmU
import Derived.Test.YtiipggfhjkalfaaPmAB
import Derived.Test.YtiipggfhjkalfaaBdX
/- The room: the program's closure. -/
set_option linter.unusedSimpArgs false
set_option linter.unusedVariables false
set_option maxRecDepth 20000
open Go Go.Proofs
namespace Go.Proofs.Ytiipggfhjkalfaa
open Pm
attribute [local irreducible] Wait CallT CallW NextT Le Weak
def plB (p : Pl) : Option Blk := some (.row 91 2 [.agg [.v (.int .i64 p.1), .v (.int .i64 p.2)]])
theorem grow_con (a b c d x y : Int) : Con Try.prog 68 [.agg [.v (.int .i64 x), .v (.int .i64 y)], .ptr 0 2 0 0, .ptr 1 2 0 0] [plB (a, b), plB (c, d)] fun r h => r = .tup [] ∧ h = [plB (growB ((a, b), (c, d)) (x, y)).1, plB (growB ((a, b), (c, d)) (x, y)).2, plB (x, y)] := by
  refine con_run 1000 Try.func68 rfl Try.results68 Try.ntmps68 (Nat.le_of_ble_eq_true rfl) ?_
  simp (maxSteps := 1000000) -implicitDefEqProofs only [go_sem, ↓reduceIte, reduceCtorEq, Nat.reduceEqDiff, Nat.reduceLT, Nat.reduceAdd, Nat.reduceLeDiff, Nat.reduceMul, Nat.reduceSub, Int.reduceToNat, Int.reduceLT, Int.reduceLE, Int.reduceEq, Int.reduceBNe, Nat.reduceBEq, plB]
  (repeat' (first | exact trivial | contradiction | exact ⟨_, rfl⟩ | refine And.intro ?_ ?_ | ((first | show (_ : Nat) ≤ _ | show (_ : Nat) < _ | show (_ : Int) ≤ _ | show (_ : Int) < _); omega) | ((first | refine wait_draw 1000 mixed (by decide +kernel) ?_ | refine wait_drawP [0, 1, 2, 3, 4, 5, 6, 7, 8, 9, 10] [11, 12, 13, 14, 15, 16, 17, 18, 19, 20, 21, 22, 23] (fun id => id == 0 || id == lastK) 1000 mixed (by decide +kernel) ?_); simp (maxSteps := 1000000) -implicitDefEqProofs only [go_sem, ↓reduceIte, reduceCtorEq, Nat.reduceEqDiff, Nat.reduceLT, Nat.reduceAdd, Nat.reduceLeDiff, Nat.reduceMul, Nat.reduceSub, Int.reduceToNat, Int.reduceLT, Int.reduceLE, Int.reduceEq, Int.reduceBNe, Nat.reduceBEq, mnmx_min, mnmx_max]) | intro _))
  rfl
theorem acopies_pc (w : Wk) (t : List Int) (N : Int) (h : 3 ≤ t.length) (hm : t.length < 9223372036854775808) : PCon Try.prog 69 [.agg (abC w t N)] (· = .v (.bool (cop t))) := by
  refine pcon_run 1000 Try.func69 rfl Try.results69 Try.ntmps69 (Nat.le_of_ble_eq_true rfl) ?_
  have e2 : IntKind.i64.wrap ((t.length : Int) - 2) = ((t.length - 2 : Nat) : Int) := by rw [wrap64 (by omega) (by omega)]; omega
  have g2 := get_tA t (t.length - 2) (by omega)
  have hl2 : (((t.length - 2 : Nat) : Int) < (t.length : Int)) = True := eq_true (by omega)
  have hc : (t.getD (t.length - 2) 0 == 3) = cop t := rfl
  unfold abC
  simp (maxSteps := 1000000) -implicitDefEqProofs only [go_sem, ↓reduceIte, reduceCtorEq, Nat.reduceEqDiff, Nat.reduceLT, Nat.reduceAdd, Nat.reduceLeDiff, Nat.reduceMul, Nat.reduceSub, Int.reduceToNat, Int.reduceLT, Int.reduceLE, Int.reduceEq, Int.reduceBNe, Nat.reduceBEq, tA, e2, g2, hl2, hc]
/-- A walker's places, moved. -/
def shP (dx : Int) (p : Pl) : Pl := (p.1 + dx, p.2)
def frontP (t : List Int) : Pl := onP ((progWalk t).2.s.x, (progWalk t).2.s.y) (progWalk t).2.s.d
def listP (t : List Int) (a : Int) : List Pl := (progWalk t).2.road.map (fun c => shP a c.1) ++ (progWalk t).2.wrote.map (fun c => shP a c.1) ++ (if cop t = true then [shP a (frontP t)] else [])
def roomE (t : List Int) : (Pl × Pl) × Int := if tellE t = 0 then (bxL (box0 t) (listP t (((t.length + 3 - 1) / 2 : Nat) : Int)), 0) else (((0, 0), (0, 0)), tellE t)
/-- What is left of a walk over a map, from any of its entries on. -/
theorem bx_erase {α : Type} [Inhabited α] (f : Pl × α → Pl) (L : List (Pl × α)) (q : Nat) (hq : q < L.length) (b : Pl × Pl) : bxL b (L.map f) = bxL (growB b (f (L.getD q default))) ((L.eraseIdx q).map f) := by
  rw [bxL_perm ((perm_erase L q hq).symm.map f) b, List.map_cons, bxL_cons]
end Go.Proofs.Ytiipggfhjkalfaa
/- The room: the program's way. -/
set_option linter.unusedSimpArgs false
set_option linter.unusedVariables false
set_option maxRecDepth 20000
open Go Go.Proofs
namespace Go.Proofs.Ytiipggfhjkalfaa
open Pm
attribute [local irreducible] Wait CallT CallW NextT Le Weak
def ropC : AV := .clo (.func 68) [] [.ptr 2 2 0 0, .ptr 3 2 0 0]
def ropE (w : Wk) (t : List Int) (N a : Int) (d : Nat) : List (Nat × AV) := [(2, .ptr 0 3 0 0), (3, .ptr 1 3 0 0), (5, .fptr (abC w t N)), (7, .ptr 2 2 0 0), (8, .ptr 3 2 0 0), (9, ropC), (10, .v (.int .i64 a)), (d, .ptr 4 0 0 0)]
def ropS (w : Wk) (t : List Int) (N a : Int) (p : List (Pl × Bool) × (Pl × Pl)) : St := ⟨100, 0, ropE w t N a 39, [cellB (0, 0), cellB (0, 0), plB p.2.1, plB p.2.2, some (.it [] (mK p.1) (mV bA p.1))]⟩
def ropT (w : Wk) (t : List Int) (N a : Int) (p : List (Pl × Int) × (Pl × Pl)) : St := ⟨100, 0, ropE w t N a 58, [cellB (0, 0), cellB (0, 0), plB p.2.1, plB p.2.2, some (.it [] (mK p.1) (mV iA p.1))]⟩
set_option maxHeartbeats 4000000 in
theorem room_pc (t : List Int) (hm : t.length < 9223372036854775808) : PCon Try.prog 31 [tA t] (· = roomA (roomE t).1 (roomE t).2) := by
  refine pcon_run 1000 Try.func31 rfl Try.results31 Try.ntmps31 (Nat.le_of_ble_eq_true rfl) ?_
  obtain ⟨N, hN⟩ : ∃ N : Int, N = ((2 * (t.length + 3) : Nat) : Int) := ⟨_, rfl⟩
  have tp := tell_pc t N (by omega) hm
  simp (maxSteps := 1000000) -implicitDefEqProofs only [go_sem, ↓reduceIte, reduceCtorEq, Nat.reduceEqDiff, Nat.reduceLT, Nat.reduceAdd, Nat.reduceLeDiff, Nat.reduceMul, Nat.reduceSub, Int.reduceToNat, Int.reduceLT, Int.reduceLE, Int.reduceEq, Int.reduceBNe, Nat.reduceBEq, tA]
  refine call_pure 0 tp ?_ rfl ?_
  · simp (maxSteps := 1000000) -implicitDefEqProofs only [go_sem, ↓reduceIte, reduceCtorEq, Nat.reduceEqDiff, Nat.reduceLT, Nat.reduceAdd, Nat.reduceLeDiff, Nat.reduceMul, Nat.reduceSub, Int.reduceToNat, Int.reduceLT, Int.reduceLE, Int.reduceEq, Int.reduceBNe, Nat.reduceBEq, tA]
  rintro r (⟨he, rfl⟩ | ⟨he, rfl⟩)
  · have hpm : roomE t = (((0, 0), (0, 0)), tellE t) := by unfold roomE; rw [if_neg he]
    have hf : (tellE t = 0) = False := eq_false he
    rw [hpm]
    refine run_again 1000 ?_
    simp (maxSteps := 1000000) -implicitDefEqProofs only [go_sem, ↓reduceIte, reduceCtorEq, Nat.reduceEqDiff, Nat.reduceLT, Nat.reduceAdd, Nat.reduceLeDiff, Nat.reduceMul, Nat.reduceSub, Int.reduceToNat, Int.reduceLT, Int.reduceLE, Int.reduceEq, Int.reduceBNe, Nat.reduceBEq, ab0, tA, hf, roomA]
  · have hpm : roomE t = (bxL (box0 t) (listP t (((t.length + 3 - 1) / 2 : Nat) : Int)), 0) := by unfold roomE; rw [if_pos he]
    obtain ⟨_, h2, h3, h4⟩ := tell_ok he
    obtain ⟨w, hw⟩ : ∃ w, w = (progWalk t).2 := ⟨_, rfl⟩
    obtain ⟨hM, hI, _, _⟩ := progWalk_inv (show progWalk t = (0, w) by rw [hw, ← h3])
    have hfr : frontP t = onP (w.s.x, w.s.y) w.s.d := by rw [hw]; rfl
    have hS := hI.ok.s
    have rt := root_pc (t.length + 3) (by omega) (by omega)
    have rc := acopies_pc w t N h4 hm
    obtain ⟨a, ha⟩ : ∃ a, a = (t.length + 3 - 1) / 2 := ⟨_, rfl⟩
    rw [hpm, ← ha]
    have hlist : listP t (a : Int) = w.road.map (fun c => shP a c.1) ++ w.wrote.map (fun c => shP a c.1) ++ (if cop t = true then [shP a (frontP t)] else []) := by rw [hw]; rfl
    rw [← ha] at rt
    simp only [rgA, ← hN] at rt
    have np := on_pc w.s.x w.s.y w.s.d hS.d.1 hS.d.2 (by have := hS.x; omega) (by have := hS.x; omega) (by have := hS.y; omega) (by have := hS.y; omega)
    rw [← hfr] at np
    have hFb : -90001 ≤ (frontP t).1 ∧ (frontP t).1 ≤ 90001 := by
      have := hS.x
      rw [hfr]
      unfold onP
      (repeat' split) <;> simp only <;> omega
    generalize frontP t = F at hlist np hFb
    have ef : IntKind.i64.wrap (F.1 + (a : Int)) = F.1 + (a : Int) := wrap64 (by omega) (by omega)
    have e1 : N.tdiv 2 = ((t.length + 3 : Nat) : Int) := by rw [hN]; exact half_nat _
    have e2 : IntKind.i64.wrap ((t.length + 3 : Nat) : Int) = ((t.length + 3 : Nat) : Int) := wrap64 (by omega) (by omega)
    have e3 : IntKind.i64.wrap (((t.length + 3 : Nat) : Int) - 1) = ((t.length + 2 : Nat) : Int) := by rw [wrap64 (by omega) (by omega)]; omega
    have hb0 : box0 t = ((0, 0), (((t.length + 2 : Nat) : Int), 3)) := rfl
    obtain ⟨rd, hrd⟩ : ∃ rd, rd = w.road := ⟨_, rfl⟩
    obtain ⟨wr, hwr⟩ : ∃ wr, wr = w.wrote := ⟨_, rfl⟩
    have hrf := hM.rf
    have hwf := hM.wf
    rw [← hrd] at hrf hlist
    rw [← hwr] at hwf hlist
    rw [← hw]
    generalize cop t = cb at rc hlist
    simp only [abC, tA] at rc
    have hLB : ∀ b : Pl × Pl, bxL (bxL b (rd.map fun c => shP a c.1)) (wr.map fun c => shP a c.1) = bxL b (rd.map (fun c => shP a c.1) ++ wr.map fun c => shP a c.1) := fun b => (bxL_app _ _ _).symm
    generalize hT : bxL (box0 t) (listP t (a : Int)) = LB
    refine run_again 6 ?_
    simp (maxSteps := 1000000) -implicitDefEqProofs only [go_sem, ↓reduceIte, reduceCtorEq, Nat.reduceEqDiff, Nat.reduceLT, Nat.reduceAdd, Nat.reduceLeDiff, Nat.reduceMul, Nat.reduceSub, Int.reduceToNat, Int.reduceLT, Int.reduceLE, Int.reduceEq, Int.reduceBNe, Nat.reduceBEq, abA_eq, abC, tA]
    refine run_weak 1000 (weak_frzB 2 rfl rfl (fun f => by simp (maxSteps := 1000000) -implicitDefEqProofs only [go_sem, ↓reduceIte, reduceCtorEq, Nat.reduceEqDiff, Nat.reduceLT, Nat.reduceAdd, Nat.reduceLeDiff, Nat.reduceMul, Nat.reduceSub, Int.reduceToNat, Int.reduceLT, Int.reduceLE, Int.reduceEq, Int.reduceBNe, Nat.reduceBEq]) rfl) ?_
    simp (maxSteps := 1000000) -implicitDefEqProofs only [go_sem, ↓reduceIte, reduceCtorEq, Nat.reduceEqDiff, Nat.reduceLT, Nat.reduceAdd, Nat.reduceLeDiff, Nat.reduceMul, Nat.reduceSub, Int.reduceToNat, Int.reduceLT, Int.reduceLE, Int.reduceEq, Int.reduceBNe, Nat.reduceBEq]
    (repeat' (first | exact trivial | contradiction | exact ⟨_, rfl⟩ | refine And.intro ?_ ?_ | ((first | show (_ : Nat) ≤ _ | show (_ : Nat) < _ | show (_ : Int) ≤ _ | show (_ : Int) < _); omega) | ((first | refine wait_draw 1000 mixed (by decide +kernel) ?_ | refine wait_drawT' [0, 1, 2, 3, 4, 5] 6 7 [8, 9] (fun id => id == 3 || id == 4) 1000 mixed (by decide +kernel) ?_); simp (maxSteps := 1000000) -implicitDefEqProofs only [go_sem, ↓reduceIte, reduceCtorEq, Nat.reduceEqDiff, Nat.reduceLT, Nat.reduceAdd, Nat.reduceLeDiff, Nat.reduceMul, Nat.reduceSub, Int.reduceToNat, Int.reduceLT, Int.reduceLE, Int.reduceEq, Int.reduceBNe, Nat.reduceBEq, e1, e2, e3, wkC]) | ((first | refine call_eq 1000 (rt) ?_ ?_ rfl | refine call_draw 1000 (rt) ?_ ?_); (focus (simp (maxSteps := 1000000) -implicitDefEqProofs only [go_sem, ↓reduceIte, reduceCtorEq, Nat.reduceEqDiff, Nat.reduceLT, Nat.reduceAdd, Nat.reduceLeDiff, Nat.reduceMul, Nat.reduceSub, Int.reduceToNat, Int.reduceLT, Int.reduceLE, Int.reduceEq, Int.reduceBNe, Nat.reduceBEq, e1, e2, e3, wkC]; done)); simp (maxSteps := 1000000) -implicitDefEqProofs only [go_sem, ↓reduceIte, reduceCtorEq, Nat.reduceEqDiff, Nat.reduceLT, Nat.reduceAdd, Nat.reduceLeDiff, Nat.reduceMul, Nat.reduceSub, Int.reduceToNat, Int.reduceLT, Int.reduceLE, Int.reduceEq, Int.reduceBNe, Nat.reduceBEq, e1, e2, e3, wkC]) | intro _))
    all_goals
      refine wait_data (ropS w t N a) (fun p => bxL p.2 (p.1.map fun c => shP a c.1) = bxL (box0 t) (rd.map fun c => shP a c.1) ∧ ∀ c ∈ p.1, near c.1) (fun p => p.1.length) (rd, box0 t) ?_ ⟨rfl, hrf⟩ ?_
      · first
        | (refine weak_to [2, 3, 5, 7, 8, 9, 10, 39] [0, 1, 3, 4, 5] ?_ (by decide) (fun i h => by cases h); simp (maxSteps := 1000000) -implicitDefEqProofs only [go_sem, ↓reduceIte, reduceCtorEq, Nat.reduceEqDiff, Nat.reduceLT, Nat.reduceAdd, Nat.reduceLeDiff, Nat.reduceMul, Nat.reduceSub, Int.reduceToNat, Int.reduceLT, Int.reduceLE, Int.reduceEq, Int.reduceBNe, Nat.reduceBEq, St.keep, ropS, ropE, ropC, abC, wkC, tA, cellB, plB, hb0, hrd]; done)
        | (refine weak_to [2, 3, 5, 7, 8, 9, 10, 39] [0, 1, 4, 3, 5] ?_ (by decide) (fun i h => by cases h); simp (maxSteps := 1000000) -implicitDefEqProofs only [go_sem, ↓reduceIte, reduceCtorEq, Nat.reduceEqDiff, Nat.reduceLT, Nat.reduceAdd, Nat.reduceLeDiff, Nat.reduceMul, Nat.reduceSub, Int.reduceToNat, Int.reduceLT, Int.reduceLE, Int.reduceEq, Int.reduceBNe, Nat.reduceBEq, St.keep, ropS, ropE, ropC, abC, wkC, tA, cellB, plB, hb0, hrd]; done)
      rintro ⟨L, B⟩ ⟨hB, hLn⟩
      simp only at hB hLn
      obtain ⟨⟨b1, b2⟩, b3, b4⟩ := B
      refine run_sound 1000 _ _ ?_
      unfold ropS ropE ropC
      simp (maxSteps := 1000000) -implicitDefEqProofs only [go_sem, ↓reduceIte, reduceCtorEq, Nat.reduceEqDiff, Nat.reduceLT, Nat.reduceAdd, Nat.reduceLeDiff, Nat.reduceMul, Nat.reduceSub, Int.reduceToNat, Int.reduceLT, Int.reduceLE, Int.reduceEq, Int.reduceBNe, Nat.reduceBEq, abC, tA, cellB, plB]
      refine next_t 0 (id := 4) rfl rfl (fun h0 => ?_) (fun q hq => ?_)
      · have hL : L = [] := by cases L with | nil => rfl | cons a b => simp [mK] at h0
        subst hL
        rw [List.map_nil, show bxL ((b1, b2), b3, b4) [] = ((b1, b2), b3, b4) from rfl] at hB
        refine run_again 1000 ?_
        simp (maxSteps := 1000000) -implicitDefEqProofs only [go_sem, ↓reduceIte, reduceCtorEq, Nat.reduceEqDiff, Nat.reduceLT, Nat.reduceAdd, Nat.reduceLeDiff, Nat.reduceMul, Nat.reduceSub, Int.reduceToNat, Int.reduceLT, Int.reduceLE, Int.reduceEq, Int.reduceBNe, Nat.reduceBEq, wkC]
        refine wait_data (ropT w t N a) (fun p => bxL p.2 (p.1.map fun c => shP a c.1) = bxL ((b1, b2), b3, b4) (wr.map fun c => shP a c.1) ∧ ∀ c ∈ p.1, near c.1) (fun p => p.1.length) (wr, ((b1, b2), b3, b4)) ?_ ⟨rfl, hwf⟩ ?_
        · refine weak_to [2, 3, 5, 7, 8, 9, 10, 58] [0, 1, 2, 3, 5] ?_ (by decide) (fun i h => by cases h)
          simp (maxSteps := 1000000) -implicitDefEqProofs only [go_sem, ↓reduceIte, reduceCtorEq, Nat.reduceEqDiff, Nat.reduceLT, Nat.reduceAdd, Nat.reduceLeDiff, Nat.reduceMul, Nat.reduceSub, Int.reduceToNat, Int.reduceLT, Int.reduceLE, Int.reduceEq, Int.reduceBNe, Nat.reduceBEq, St.keep, ropT, ropE, ropC, abC, wkC, tA, cellB, plB, hwr]
        rintro ⟨L, C⟩ ⟨hC, hCn⟩
        simp only at hC hCn
        obtain ⟨⟨c1, c2⟩, c3, c4⟩ := C
        refine run_sound 1000 _ _ ?_
        unfold ropT ropE ropC
        simp (maxSteps := 1000000) -implicitDefEqProofs only [go_sem, ↓reduceIte, reduceCtorEq, Nat.reduceEqDiff, Nat.reduceLT, Nat.reduceAdd, Nat.reduceLeDiff, Nat.reduceMul, Nat.reduceSub, Int.reduceToNat, Int.reduceLT, Int.reduceLE, Int.reduceEq, Int.reduceBNe, Nat.reduceBEq, abC, tA, cellB, plB]
        refine next_t 0 (id := 4) rfl rfl (fun h0 => ?_) (fun q hq => ?_)
        · have hL : L = [] := by cases L with | nil => rfl | cons a b => simp [mK] at h0
          subst hL
          rw [List.map_nil, show bxL ((c1, c2), c3, c4) [] = ((c1, c2), c3, c4) from rfl, hB, hLB] at hC
          have gc := grow_con c1 c2 c3 c4 (F.1 + (a : Int)) F.2
          simp only [plB] at gc
          have hfin : LB = if cb = true then growB ((c1, c2), c3, c4) (F.1 + (a : Int), F.2) else ((c1, c2), c3, c4) := by
            rw [← hT, hlist, bxL_app, ← hC]
            cases cb <;> rfl
          rw [hfin]
          have cl := cell_pc c1 c2 0
          have ch := cell_pc c3 c4 0
          refine run_again 1000 ?_
          cases cb
          · simp (maxSteps := 1000000) -implicitDefEqProofs only [go_sem, ↓reduceIte, reduceCtorEq, Nat.reduceEqDiff, Nat.reduceLT, Nat.reduceAdd, Nat.reduceLeDiff, Nat.reduceMul, Nat.reduceSub, Int.reduceToNat, Int.reduceLT, Int.reduceLE, Int.reduceEq, Int.reduceBNe, Nat.reduceBEq, Bool.false_eq_true, if_false]
            (repeat' (first | exact trivial | contradiction | exact ⟨_, rfl⟩ | refine And.intro ?_ ?_ | ((first | show (_ : Nat) ≤ _ | show (_ : Nat) < _ | show (_ : Int) ≤ _ | show (_ : Int) < _); omega) | (refine wait_draw 1000 mixed (by decide +kernel) ?_; simp (maxSteps := 1000000) -implicitDefEqProofs only [go_sem, ↓reduceIte, reduceCtorEq, Nat.reduceEqDiff, Nat.reduceLT, Nat.reduceAdd, Nat.reduceLeDiff, Nat.reduceMul, Nat.reduceSub, Int.reduceToNat, Int.reduceLT, Int.reduceLE, Int.reduceEq, Int.reduceBNe, Nat.reduceBEq, roomA]) | (refine wait_drawV (fun id => id == 0 || id == 1 || id == lastK) 1000 mixed (by decide +kernel) ?_; simp (maxSteps := 1000000) -implicitDefEqProofs only [go_sem, ↓reduceIte, reduceCtorEq, Nat.reduceEqDiff, Nat.reduceLT, Nat.reduceAdd, Nat.reduceLeDiff, Nat.reduceMul, Nat.reduceSub, Int.reduceToNat, Int.reduceLT, Int.reduceLE, Int.reduceEq, Int.reduceBNe, Nat.reduceBEq, roomA]) | (refine call_eq 1000 (rc) ?_ ?_ rfl; (focus (simp (maxSteps := 1000000) -implicitDefEqProofs only [go_sem, ↓reduceIte, reduceCtorEq, Nat.reduceEqDiff, Nat.reduceLT, Nat.reduceAdd, Nat.reduceLeDiff, Nat.reduceMul, Nat.reduceSub, Int.reduceToNat, Int.reduceLT, Int.reduceLE, Int.reduceEq, Int.reduceBNe, Nat.reduceBEq, roomA]; done)); simp (maxSteps := 1000000) -implicitDefEqProofs only [go_sem, ↓reduceIte, reduceCtorEq, Nat.reduceEqDiff, Nat.reduceLT, Nat.reduceAdd, Nat.reduceLeDiff, Nat.reduceMul, Nat.reduceSub, Int.reduceToNat, Int.reduceLT, Int.reduceLE, Int.reduceEq, Int.reduceBNe, Nat.reduceBEq, roomA]) | (refine call_draw 1000 (rc) ?_ ?_; (focus (simp (maxSteps := 1000000) -implicitDefEqProofs only [go_sem, ↓reduceIte, reduceCtorEq, Nat.reduceEqDiff, Nat.reduceLT, Nat.reduceAdd, Nat.reduceLeDiff, Nat.reduceMul, Nat.reduceSub, Int.reduceToNat, Int.reduceLT, Int.reduceLE, Int.reduceEq, Int.reduceBNe, Nat.reduceBEq, roomA]; done)); simp (maxSteps := 1000000) -implicitDefEqProofs only [go_sem, ↓reduceIte, reduceCtorEq, Nat.reduceEqDiff, Nat.reduceLT, Nat.reduceAdd, Nat.reduceLeDiff, Nat.reduceMul, Nat.reduceSub, Int.reduceToNat, Int.reduceLT, Int.reduceLE, Int.reduceEq, Int.reduceBNe, Nat.reduceBEq, roomA]) | (refine call_eq 1000 (cl) ?_ ?_ rfl; (focus (simp (maxSteps := 1000000) -implicitDefEqProofs only [go_sem, ↓reduceIte, reduceCtorEq, Nat.reduceEqDiff, Nat.reduceLT, Nat.reduceAdd, Nat.reduceLeDiff, Nat.reduceMul, Nat.reduceSub, Int.reduceToNat, Int.reduceLT, Int.reduceLE, Int.reduceEq, Int.reduceBNe, Nat.reduceBEq, roomA]; done)); simp (maxSteps := 1000000) -implicitDefEqProofs only [go_sem, ↓reduceIte, reduceCtorEq, Nat.reduceEqDiff, Nat.reduceLT, Nat.reduceAdd, Nat.reduceLeDiff, Nat.reduceMul, Nat.reduceSub, Int.reduceToNat, Int.reduceLT, Int.reduceLE, Int.reduceEq, Int.reduceBNe, Nat.reduceBEq, roomA]) | (refine call_draw 1000 (cl) ?_ ?_; (focus (simp (maxSteps := 1000000) -implicitDefEqProofs only [go_sem, ↓reduceIte, reduceCtorEq, Nat.reduceEqDiff, Nat.reduceLT, Nat.reduceAdd, Nat.reduceLeDiff, Nat.reduceMul, Nat.reduceSub, Int.reduceToNat, Int.reduceLT, Int.reduceLE, Int.reduceEq, Int.reduceBNe, Nat.reduceBEq, roomA]; done)); simp (maxSteps := 1000000) -implicitDefEqProofs only [go_sem, ↓reduceIte, reduceCtorEq, Nat.reduceEqDiff, Nat.reduceLT, Nat.reduceAdd, Nat.reduceLeDiff, Nat.reduceMul, Nat.reduceSub, Int.reduceToNat, Int.reduceLT, Int.reduceLE, Int.reduceEq, Int.reduceBNe, Nat.reduceBEq, roomA]) | (refine call_eq 1000 (ch) ?_ ?_ rfl; (focus (simp (maxSteps := 1000000) -implicitDefEqProofs only [go_sem, ↓reduceIte, reduceCtorEq, Nat.reduceEqDiff, Nat.reduceLT, Nat.reduceAdd, Nat.reduceLeDiff, Nat.reduceMul, Nat.reduceSub, Int.reduceToNat, Int.reduceLT, Int.reduceLE, Int.reduceEq, Int.reduceBNe, Nat.reduceBEq, roomA]; done)); simp (maxSteps := 1000000) -implicitDefEqProofs only [go_sem, ↓reduceIte, reduceCtorEq, Nat.reduceEqDiff, Nat.reduceLT, Nat.reduceAdd, Nat.reduceLeDiff, Nat.reduceMul, Nat.reduceSub, Int.reduceToNat, Int.reduceLT, Int.reduceLE, Int.reduceEq, Int.reduceBNe, Nat.reduceBEq, roomA]) | (refine call_draw 1000 (ch) ?_ ?_; (focus (simp (maxSteps := 1000000) -implicitDefEqProofs only [go_sem, ↓reduceIte, reduceCtorEq, Nat.reduceEqDiff, Nat.reduceLT, Nat.reduceAdd, Nat.reduceLeDiff, Nat.reduceMul, Nat.reduceSub, Int.reduceToNat, Int.reduceLT, Int.reduceLE, Int.reduceEq, Int.reduceBNe, Nat.reduceBEq, roomA]; done)); simp (maxSteps := 1000000) -implicitDefEqProofs only [go_sem, ↓reduceIte, reduceCtorEq, Nat.reduceEqDiff, Nat.reduceLT, Nat.reduceAdd, Nat.reduceLeDiff, Nat.reduceMul, Nat.reduceSub, Int.reduceToNat, Int.reduceLT, Int.reduceLE, Int.reduceEq, Int.reduceBNe, Nat.reduceBEq, roomA]) | intro _))
          · obtain ⟨B', hB'⟩ : ∃ B', B' = growB ((c1, c2), c3, c4) (F.1 + (a : Int), F.2) := ⟨_, rfl⟩
            rw [← hB'] at gc
            have dl := cell_pc B'.1.1 B'.1.2 0
            have dh := cell_pc B'.2.1 B'.2.2 0
            simp only [if_true, ← hB']
            simp (maxSteps := 1000000) -implicitDefEqProofs only [go_sem, ↓reduceIte, reduceCtorEq, Nat.reduceEqDiff, Nat.reduceLT, Nat.reduceAdd, Nat.reduceLeDiff, Nat.reduceMul, Nat.reduceSub, Int.reduceToNat, Int.reduceLT, Int.reduceLE, Int.reduceEq, Int.reduceBNe, Nat.reduceBEq]
            (repeat' (first | exact trivial | contradiction | exact ⟨_, rfl⟩ | refine And.intro ?_ ?_ | ((first | show (_ : Nat) ≤ _ | show (_ : Nat) < _ | show (_ : Int) ≤ _ | show (_ : Int) < _); omega) | (refine wait_draw 1000 mixed (by decide +kernel) ?_; simp (maxSteps := 1000000) -implicitDefEqProofs only [go_sem, ↓reduceIte, reduceCtorEq, Nat.reduceEqDiff, Nat.reduceLT, Nat.reduceAdd, Nat.reduceLeDiff, Nat.reduceMul, Nat.reduceSub, Int.reduceToNat, Int.reduceLT, Int.reduceLE, Int.reduceEq, Int.reduceBNe, Nat.reduceBEq, roomA, wkC, ef]) | (refine wait_drawV (fun id => id == 0 || id == 1 || id == lastK) 1000 mixed (by decide +kernel) ?_; simp (maxSteps := 1000000) -implicitDefEqProofs only [go_sem, ↓reduceIte, reduceCtorEq, Nat.reduceEqDiff, Nat.reduceLT, Nat.reduceAdd, Nat.reduceLeDiff, Nat.reduceMul, Nat.reduceSub, Int.reduceToNat, Int.reduceLT, Int.reduceLE, Int.reduceEq, Int.reduceBNe, Nat.reduceBEq, roomA, wkC, ef]) | (refine call_eq 1000 (rc) ?_ ?_ rfl; (focus (simp (maxSteps := 1000000) -implicitDefEqProofs only [go_sem, ↓reduceIte, reduceCtorEq, Nat.reduceEqDiff, Nat.reduceLT, Nat.reduceAdd, Nat.reduceLeDiff, Nat.reduceMul, Nat.reduceSub, Int.reduceToNat, Int.reduceLT, Int.reduceLE, Int.reduceEq, Int.reduceBNe, Nat.reduceBEq, roomA, wkC, ef]; done)); simp (maxSteps := 1000000) -implicitDefEqProofs only [go_sem, ↓reduceIte, reduceCtorEq, Nat.reduceEqDiff, Nat.reduceLT, Nat.reduceAdd, Nat.reduceLeDiff, Nat.reduceMul, Nat.reduceSub, Int.reduceToNat, Int.reduceLT, Int.reduceLE, Int.reduceEq, Int.reduceBNe, Nat.reduceBEq, roomA, wkC, ef]) | (refine call_draw 1000 (rc) ?_ ?_; (focus (simp (maxSteps := 1000000) -implicitDefEqProofs only [go_sem, ↓reduceIte, reduceCtorEq, Nat.reduceEqDiff, Nat.reduceLT, Nat.reduceAdd, Nat.reduceLeDiff, Nat.reduceMul, Nat.reduceSub, Int.reduceToNat, Int.reduceLT, Int.reduceLE, Int.reduceEq, Int.reduceBNe, Nat.reduceBEq, roomA, wkC, ef]; done)); simp (maxSteps := 1000000) -implicitDefEqProofs only [go_sem, ↓reduceIte, reduceCtorEq, Nat.reduceEqDiff, Nat.reduceLT, Nat.reduceAdd, Nat.reduceLeDiff, Nat.reduceMul, Nat.reduceSub, Int.reduceToNat, Int.reduceLT, Int.reduceLE, Int.reduceEq, Int.reduceBNe, Nat.reduceBEq, roomA, wkC, ef]) | (refine call_eq 1000 (np) ?_ ?_ rfl; (focus (simp (maxSteps := 1000000) -implicitDefEqProofs only [go_sem, ↓reduceIte, reduceCtorEq, Nat.reduceEqDiff, Nat.reduceLT, Nat.reduceAdd, Nat.reduceLeDiff, Nat.reduceMul, Nat.reduceSub, Int.reduceToNat, Int.reduceLT, Int.reduceLE, Int.reduceEq, Int.reduceBNe, Nat.reduceBEq, roomA, wkC, ef]; done)); simp (maxSteps := 1000000) -implicitDefEqProofs only [go_sem, ↓reduceIte, reduceCtorEq, Nat.reduceEqDiff, Nat.reduceLT, Nat.reduceAdd, Nat.reduceLeDiff, Nat.reduceMul, Nat.reduceSub, Int.reduceToNat, Int.reduceLT, Int.reduceLE, Int.reduceEq, Int.reduceBNe, Nat.reduceBEq, roomA, wkC, ef]) | (refine call_draw 1000 (np) ?_ ?_; (focus (simp (maxSteps := 1000000) -implicitDefEqProofs only [go_sem, ↓reduceIte, reduceCtorEq, Nat.reduceEqDiff, Nat.reduceLT, Nat.reduceAdd, Nat.reduceLeDiff, Nat.reduceMul, Nat.reduceSub, Int.reduceToNat, Int.reduceLT, Int.reduceLE, Int.reduceEq, Int.reduceBNe, Nat.reduceBEq, roomA, wkC, ef]; done)); simp (maxSteps := 1000000) -implicitDefEqProofs only [go_sem, ↓reduceIte, reduceCtorEq, Nat.reduceEqDiff, Nat.reduceLT, Nat.reduceAdd, Nat.reduceLeDiff, Nat.reduceMul, Nat.reduceSub, Int.reduceToNat, Int.reduceLT, Int.reduceLE, Int.reduceEq, Int.reduceBNe, Nat.reduceBEq, roomA, wkC, ef]) | (refine call_eq 1000 (dl) ?_ ?_ rfl; (focus (simp (maxSteps := 1000000) -implicitDefEqProofs only [go_sem, ↓reduceIte, reduceCtorEq, Nat.reduceEqDiff, Nat.reduceLT, Nat.reduceAdd, Nat.reduceLeDiff, Nat.reduceMul, Nat.reduceSub, Int.reduceToNat, Int.reduceLT, Int.reduceLE, Int.reduceEq, Int.reduceBNe, Nat.reduceBEq, roomA, wkC, ef]; done)); simp (maxSteps := 1000000) -implicitDefEqProofs only [go_sem, ↓reduceIte, reduceCtorEq, Nat.reduceEqDiff, Nat.reduceLT, Nat.reduceAdd, Nat.reduceLeDiff, Nat.reduceMul, Nat.reduceSub, Int.reduceToNat, Int.reduceLT, Int.reduceLE, Int.reduceEq, Int.reduceBNe, Nat.reduceBEq, roomA, wkC, ef]) | (refine call_draw 1000 (dl) ?_ ?_; (focus (simp (maxSteps := 1000000) -implicitDefEqProofs only [go_sem, ↓reduceIte, reduceCtorEq, Nat.reduceEqDiff, Nat.reduceLT, Nat.reduceAdd, Nat.reduceLeDiff, Nat.reduceMul, Nat.reduceSub, Int.reduceToNat, Int.reduceLT, Int.reduceLE, Int.reduceEq, Int.reduceBNe, Nat.reduceBEq, roomA, wkC, ef]; done)); simp (maxSteps := 1000000) -implicitDefEqProofs only [go_sem, ↓reduceIte, reduceCtorEq, Nat.reduceEqDiff, Nat.reduceLT, Nat.reduceAdd, Nat.reduceLeDiff, Nat.reduceMul, Nat.reduceSub, Int.reduceToNat, Int.reduceLT, Int.reduceLE, Int.reduceEq, Int.reduceBNe, Nat.reduceBEq, roomA, wkC, ef]) | (refine call_eq 1000 (dh) ?_ ?_ rfl; (focus (simp (maxSteps := 1000000) -implicitDefEqProofs only [go_sem, ↓reduceIte, reduceCtorEq, Nat.reduceEqDiff, Nat.reduceLT, Nat.reduceAdd, Nat.reduceLeDiff, Nat.reduceMul, Nat.reduceSub, Int.reduceToNat, Int.reduceLT, Int.reduceLE, Int.reduceEq, Int.reduceBNe, Nat.reduceBEq, roomA, wkC, ef]; done)); simp (maxSteps := 1000000) -implicitDefEqProofs only [go_sem, ↓reduceIte, reduceCtorEq, Nat.reduceEqDiff, Nat.reduceLT, Nat.reduceAdd, Nat.reduceLeDiff, Nat.reduceMul, Nat.reduceSub, Int.reduceToNat, Int.reduceLT, Int.reduceLE, Int.reduceEq, Int.reduceBNe, Nat.reduceBEq, roomA, wkC, ef]) | (refine call_draw 1000 (dh) ?_ ?_; (focus (simp (maxSteps := 1000000) -implicitDefEqProofs only [go_sem, ↓reduceIte, reduceCtorEq, Nat.reduceEqDiff, Nat.reduceLT, Nat.reduceAdd, Nat.reduceLeDiff, Nat.reduceMul, Nat.reduceSub, Int.reduceToNat, Int.reduceLT, Int.reduceLE, Int.reduceEq, Int.reduceBNe, Nat.reduceBEq, roomA, wkC, ef]; done)); simp (maxSteps := 1000000) -implicitDefEqProofs only [go_sem, ↓reduceIte, reduceCtorEq, Nat.reduceEqDiff, Nat.reduceLT, Nat.reduceAdd, Nat.reduceLeDiff, Nat.reduceMul, Nat.reduceSub, Int.reduceToNat, Int.reduceLT, Int.reduceLE, Int.reduceEq, Int.reduceBNe, Nat.reduceBEq, roomA, wkC, ef]) | (refine call_con_eq 1000 [2, 3] (gc) ?_ ?_ ?_ (by simp) (by simp) rfl (by first | (simp; done) | exact Nat.le_of_ble_eq_true rfl); (focus (simp (maxSteps := 1000000) -implicitDefEqProofs only [go_sem, ↓reduceIte, reduceCtorEq, Nat.reduceEqDiff, Nat.reduceLT, Nat.reduceAdd, Nat.reduceLeDiff, Nat.reduceMul, Nat.reduceSub, Int.reduceToNat, Int.reduceLT, Int.reduceLE, Int.reduceEq, Int.reduceBNe, Nat.reduceBEq, roomA, wkC, ef]; done)); (focus (simp (maxSteps := 1000000) -implicitDefEqProofs only [go_sem, ↓reduceIte, reduceCtorEq, Nat.reduceEqDiff, Nat.reduceLT, Nat.reduceAdd, Nat.reduceLeDiff, Nat.reduceMul, Nat.reduceSub, Int.reduceToNat, Int.reduceLT, Int.reduceLE, Int.reduceEq, Int.reduceBNe, Nat.reduceBEq, roomA, wkC, ef]; done)); simp (maxSteps := 1000000) -implicitDefEqProofs only [go_sem, ↓reduceIte, reduceCtorEq, Nat.reduceEqDiff, Nat.reduceLT, Nat.reduceAdd, Nat.reduceLeDiff, Nat.reduceMul, Nat.reduceSub, Int.reduceToNat, Int.reduceLT, Int.reduceLE, Int.reduceEq, Int.reduceBNe, Nat.reduceBEq, roomA, wkC, ef]) | (refine call_draw_con 1000 [2, 3] (gc) (by decide +kernel) ?_ ?_ ?_ (by simp) (by simp) rfl (by first | (simp; done) | exact Nat.le_of_ble_eq_true rfl); (focus (simp (maxSteps := 1000000) -implicitDefEqProofs only [go_sem, ↓reduceIte, reduceCtorEq, Nat.reduceEqDiff, Nat.reduceLT, Nat.reduceAdd, Nat.reduceLeDiff, Nat.reduceMul, Nat.reduceSub, Int.reduceToNat, Int.reduceLT, Int.reduceLE, Int.reduceEq, Int.reduceBNe, Nat.reduceBEq, roomA, wkC, ef]; done)); (focus (simp (maxSteps := 1000000) -implicitDefEqProofs only [go_sem, ↓reduceIte, reduceCtorEq, Nat.reduceEqDiff, Nat.reduceLT, Nat.reduceAdd, Nat.reduceLeDiff, Nat.reduceMul, Nat.reduceSub, Int.reduceToNat, Int.reduceLT, Int.reduceLE, Int.reduceEq, Int.reduceBNe, Nat.reduceBEq, roomA, wkC, ef]; done)); simp (maxSteps := 1000000) -implicitDefEqProofs only [go_sem, ↓reduceIte, reduceCtorEq, Nat.reduceEqDiff, Nat.reduceLT, Nat.reduceAdd, Nat.reduceLeDiff, Nat.reduceMul, Nat.reduceSub, Int.reduceToNat, Int.reduceLT, Int.reduceLE, Int.reduceEq, Int.reduceBNe, Nat.reduceBEq, roomA, wkC, ef]) | intro _))
        · rw [mK_len] at hq
          have gk := mK_get L q hq
          have gv := mV_get iA L q hq
          have hlen2 := (perm_erase L q hq).length_eq
          rw [List.length_cons] at hlen2
          have hbe := bx_erase (fun c => shP a c.1) L q hq ((c1, c2), c3, c4)
          have hnr := hCn (L.getD q default) (by rw [List.getD_eq_getElem?_getD, List.getElem?_eq_getElem hq]; exact List.getElem_mem hq)
          generalize L.getD q default = e at gk gv hbe hnr
          obtain ⟨⟨x, y⟩, s⟩ := e
          simp only [kA] at gk
          simp only [iA] at gv
          have ex : IntKind.i64.wrap (x + (a : Int)) = x + (a : Int) := by unfold near at hnr; simp only at hnr; exact wrap64 (by omega) (by omega)
          have gc := grow_con c1 c2 c3 c4 (x + (a : Int)) y
          rw [show shP (a : Int) (x, y) = (x + (a : Int), y) from rfl, hC] at hbe
          simp only [plB] at gc
          generalize growB ((c1, c2), c3, c4) (x + (a : Int), y) = B' at gc hbe
          refine run_again 1000 ?_
          simp (maxSteps := 1000000) -implicitDefEqProofs only [go_sem, ↓reduceIte, reduceCtorEq, Nat.reduceEqDiff, Nat.reduceLT, Nat.reduceAdd, Nat.reduceLeDiff, Nat.reduceMul, Nat.reduceSub, Int.reduceToNat, Int.reduceLT, Int.reduceLE, Int.reduceEq, Int.reduceBNe, Nat.reduceBEq, gk, gv, ex]
          (repeat' (first | exact trivial | contradiction | exact ⟨_, rfl⟩ | refine And.intro ?_ ?_ | ((first | show (_ : Nat) ≤ _ | show (_ : Nat) < _ | show (_ : Int) ≤ _ | show (_ : Int) < _); omega) | (refine wait_draw 1000 mixed (by decide +kernel) ?_; simp (maxSteps := 1000000) -implicitDefEqProofs only [go_sem, ↓reduceIte, reduceCtorEq, Nat.reduceEqDiff, Nat.reduceLT, Nat.reduceAdd, Nat.reduceLeDiff, Nat.reduceMul, Nat.reduceSub, Int.reduceToNat, Int.reduceLT, Int.reduceLE, Int.reduceEq, Int.reduceBNe, Nat.reduceBEq, gk, gv, ex]) | ((first | refine call_con_eq 1000 [2, 3] (gc) ?_ ?_ ?_ (by simp) (by simp) rfl (by first | (simp; done) | exact Nat.le_of_ble_eq_true rfl) | refine call_draw_con 1000 [2, 3] (gc) (by decide +kernel) ?_ ?_ ?_ (by simp) (by simp) rfl (by first | (simp; done) | exact Nat.le_of_ble_eq_true rfl)); (focus (simp (maxSteps := 1000000) -implicitDefEqProofs only [go_sem, ↓reduceIte, reduceCtorEq, Nat.reduceEqDiff, Nat.reduceLT, Nat.reduceAdd, Nat.reduceLeDiff, Nat.reduceMul, Nat.reduceSub, Int.reduceToNat, Int.reduceLT, Int.reduceLE, Int.reduceEq, Int.reduceBNe, Nat.reduceBEq, gk, gv, ex]; done)); (focus (simp (maxSteps := 1000000) -implicitDefEqProofs only [go_sem, ↓reduceIte, reduceCtorEq, Nat.reduceEqDiff, Nat.reduceLT, Nat.reduceAdd, Nat.reduceLeDiff, Nat.reduceMul, Nat.reduceSub, Int.reduceToNat, Int.reduceLT, Int.reduceLE, Int.reduceEq, Int.reduceBNe, Nat.reduceBEq, gk, gv, ex]; done)); simp (maxSteps := 1000000) -implicitDefEqProofs only [go_sem, ↓reduceIte, reduceCtorEq, Nat.reduceEqDiff, Nat.reduceLT, Nat.reduceAdd, Nat.reduceLeDiff, Nat.reduceMul, Nat.reduceSub, Int.reduceToNat, Int.reduceLT, Int.reduceLE, Int.reduceEq, Int.reduceBNe, Nat.reduceBEq, gk, gv, ex]) | intro _))
          refine ⟨(L.eraseIdx q, B'), ?_, ⟨hbe.symm, fun c hc => hCn c (List.mem_of_mem_eraseIdx hc)⟩, ?_⟩
          · show (L.eraseIdx q).length < L.length; omega
          · refine (weak_it 4 rfl).trans (weak_to [2, 3, 5, 7, 8, 9, 10, 58] [0, 1, 2, 3, 4] ?_ (by decide) (fun i h => by cases h))
            simp (maxSteps := 1000000) -implicitDefEqProofs only [go_sem, ↓reduceIte, reduceCtorEq, Nat.reduceEqDiff, Nat.reduceLT, Nat.reduceAdd, Nat.reduceLeDiff, Nat.reduceMul, Nat.reduceSub, Int.reduceToNat, Int.reduceLT, Int.reduceLE, Int.reduceEq, Int.reduceBNe, Nat.reduceBEq, St.keep]
      · rw [mK_len] at hq
        have gk := mK_get L q hq
        have gv := mV_get bA L q hq
        have hlen2 := (perm_erase L q hq).length_eq
        rw [List.length_cons] at hlen2
        have hbe := bx_erase (fun c => shP a c.1) L q hq ((b1, b2), b3, b4)
        have hnr := hLn (L.getD q default) (by rw [List.getD_eq_getElem?_getD, List.getElem?_eq_getElem hq]; exact List.getElem_mem hq)
        generalize L.getD q default = e at gk gv hbe hnr
        obtain ⟨⟨x, y⟩, s⟩ := e
        simp only [kA] at gk
        simp only [bA] at gv
        have ex : IntKind.i64.wrap (x + (a : Int)) = x + (a : Int) := by unfold near at hnr; simp only at hnr; exact wrap64 (by omega) (by omega)
        have gc := grow_con b1 b2 b3 b4 (x + (a : Int)) y
        rw [show shP (a : Int) (x, y) = (x + (a : Int), y) from rfl, hB] at hbe
        simp only [plB] at gc
        generalize growB ((b1, b2), b3, b4) (x + (a : Int), y) = B' at gc hbe
        refine run_again 1000 ?_
        simp (maxSteps := 1000000) -implicitDefEqProofs only [go_sem, ↓reduceIte, reduceCtorEq, Nat.reduceEqDiff, Nat.reduceLT, Nat.reduceAdd, Nat.reduceLeDiff, Nat.reduceMul, Nat.reduceSub, Int.reduceToNat, Int.reduceLT, Int.reduceLE, Int.reduceEq, Int.reduceBNe, Nat.reduceBEq, gk, gv, ex]
        (repeat' (first | exact trivial | contradiction | exact ⟨_, rfl⟩ | refine And.intro ?_ ?_ | ((first | show (_ : Nat) ≤ _ | show (_ : Nat) < _ | show (_ : Int) ≤ _ | show (_ : Int) < _); omega) | (refine wait_draw 1000 mixed (by decide +kernel) ?_; simp (maxSteps := 1000000) -implicitDefEqProofs only [go_sem, ↓reduceIte, reduceCtorEq, Nat.reduceEqDiff, Nat.reduceLT, Nat.reduceAdd, Nat.reduceLeDiff, Nat.reduceMul, Nat.reduceSub, Int.reduceToNat, Int.reduceLT, Int.reduceLE, Int.reduceEq, Int.reduceBNe, Nat.reduceBEq, gk, gv, ex]) | ((first | refine call_con_eq 1000 [2, 3] (gc) ?_ ?_ ?_ (by simp) (by simp) rfl (by first | (simp; done) | exact Nat.le_of_ble_eq_true rfl) | refine call_draw_con 1000 [2, 3] (gc) (by decide +kernel) ?_ ?_ ?_ (by simp) (by simp) rfl (by first | (simp; done) | exact Nat.le_of_ble_eq_true rfl)); (focus (simp (maxSteps := 1000000) -implicitDefEqProofs only [go_sem, ↓reduceIte, reduceCtorEq, Nat.reduceEqDiff, Nat.reduceLT, Nat.reduceAdd, Nat.reduceLeDiff, Nat.reduceMul, Nat.reduceSub, Int.reduceToNat, Int.reduceLT, Int.reduceLE, Int.reduceEq, Int.reduceBNe, Nat.reduceBEq, gk, gv, ex]; done)); (focus (simp (maxSteps := 1000000) -implicitDefEqProofs only [go_sem, ↓reduceIte, reduceCtorEq, Nat.reduceEqDiff, Nat.reduceLT, Nat.reduceAdd, Nat.reduceLeDiff, Nat.reduceMul, Nat.reduceSub, Int.reduceToNat, Int.reduceLT, Int.reduceLE, Int.reduceEq, Int.reduceBNe, Nat.reduceBEq, gk, gv, ex]; done)); simp (maxSteps := 1000000) -implicitDefEqProofs only [go_sem, ↓reduceIte, reduceCtorEq, Nat.reduceEqDiff, Nat.reduceLT, Nat.reduceAdd, Nat.reduceLeDiff, Nat.reduceMul, Nat.reduceSub, Int.reduceToNat, Int.reduceLT, Int.reduceLE, Int.reduceEq, Int.reduceBNe, Nat.reduceBEq, gk, gv, ex]) | intro _))
        refine ⟨(L.eraseIdx q, B'), ?_, ⟨hbe.symm, fun c hc => hLn c (List.mem_of_mem_eraseIdx hc)⟩, ?_⟩
        · show (L.eraseIdx q).length < L.length; omega
        · refine (weak_it 4 rfl).trans (weak_to [2, 3, 5, 7, 8, 9, 10, 39] [0, 1, 2, 3, 4] ?_ (by decide) (fun i h => by cases h))
          simp (maxSteps := 1000000) -implicitDefEqProofs only [go_sem, ↓reduceIte, reduceCtorEq, Nat.reduceEqDiff, Nat.reduceLT, Nat.reduceAdd, Nat.reduceLeDiff, Nat.reduceMul, Nat.reduceSub, Int.reduceToNat, Int.reduceLT, Int.reduceLE, Int.reduceEq, Int.reduceBNe, Nat.reduceBEq, St.keep]
end Go.Proofs.Ytiipggfhjkalfaa
