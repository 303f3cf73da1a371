/- The constructor: both texts say the same; the law's function. -/
import Derived.Test.YtiipggfhjkalfaaProg
import Derived.Test.YtiipggfhjkalfaaPmU
import Derived.Test.YtiipggfhjkalfaaBdZ
set_option linter.unusedSimpArgs false
set_option linter.unusedVariables false
set_option maxRecDepth 20000
open Go Go.Proofs
namespace Go.Proofs.Ytiipggfhjkalfaa
open Pm
attribute [local irreducible] Wait CallT CallW NextT Le Weak
theorem room_two (t : List Int) : roomE t = rroomE t := by
  unfold roomE rroomE
  by_cases h : tellE t = 0
  · rw [if_pos h, if_pos h]
    obtain ⟨_, _, h3, _⟩ := tell_ok h
    obtain ⟨v, hv, hx⟩ := tell_ref h
    have hs := (sim_all t).2 h3
    have hon := progWalk_on (show progWalk t = (0, (progWalk t).2) by rw [← h3])
    obtain ⟨a, ha⟩ : ∃ a : Int, a = (((t.length + 3 - 1) / 2 : Nat) : Int) := ⟨_, rfl⟩
    rw [← ha]
    have hf : frontP t = frontR t := by
      unfold frontP frontR
      rw [hs.here, hs.look]
    have hl : (listR t).map Prod.fst = (roadR t).map (fun c => shP a c.1) ++ (if cop t = true then [shP a (frontP t)] else []) := by
      unfold listR
      rw [List.map_append, List.map_map, ← ha]
      congr 1
      · refine List.map_congr_left fun c _ => ?_
        simp only [Function.comp, shC, shP, Int.add_zero]
      · rw [hf]
        split <;> rfl
    have hp : ((roadR t).map fun c => shP a c.1).Perm ((progWalk t).2.road.map fun c => shP a c.1) := by
      rw [← roadR_eq h]
      have h1 := (sortC_perm ((progWalk t).2.road.map bare0)).map (fun c : Ce => shP a c.1)
      rw [List.map_map] at h1
      exact h1
    have hw : ∀ b, bxL b ((progWalk t).2.road.map (fun c => shP a c.1) ++ (progWalk t).2.wrote.map (fun c => shP a c.1)) = bxL b ((progWalk t).2.road.map fun c => shP a c.1) := fun b => by
      rw [bxL_app]
      refine bxL_sub fun p hp => ?_
      obtain ⟨c, hc, rfl⟩ := List.mem_map.1 hp
      obtain ⟨d, hd, e⟩ := List.mem_map.1 (hon.wr c.1 (List.mem_map_of_mem hc))
      exact List.mem_map.2 ⟨d, hd, by rw [e]⟩
    rw [hl]
    unfold listP
    rw [bxL_app, hw, bxL_app, bxL_perm hp]
  · rw [if_neg h, if_neg h]
theorem mach_two (t : List Int) : machE t = rmachE t := by
  unfold machE rmachE
  by_cases h : tellE t = 0
  · rw [if_pos h, if_pos h]
    obtain ⟨hc, h2, _, h4⟩ := tell_ok h
    refine congrArg (fun l => (l, (0 : Int))) (mach_cells rfl (by omega) fun j hj => ?_)
    have hh : headB t = true := by
      cases h : headB t with
      | true => rfl
      | false => rw [checkE_head h] at hc; cases hc
    have hall : ((t.take (t.length - 2)).drop 1).all cmdB = true := by
      cases h : ((t.take (t.length - 2)).drop 1).all cmdB with
      | true => rfl
      | false => rw [checkE_bad h] at hc; cases hc
    have hlast : t.length ≤ 4096 := by omega
    simp only [headB, decide_eq_true_eq] at hh
    by_cases j0 : j = 0
    · rw [j0]; omega
    by_cases j1 : j = t.length - 1
    · rw [j1]; omega
    by_cases j2 : j = t.length - 2
    · rw [j2]; omega
    have hm : t.getD j 0 ∈ (t.take (t.length - 2)).drop 1 := by
      rw [List.getD_eq_getElem?_getD, List.getElem?_eq_getElem hj, Option.getD_some, List.mem_iff_getElem]
      exact ⟨j - 1, by simp; omega, by rw [List.getElem_drop, List.getElem_take]; congr 1; omega⟩
    have := List.all_eq_true.1 hall _ hm
    simp only [cmdB, Bool.and_eq_true, decide_eq_true_eq] at this
    omega
  · rw [if_neg h, if_neg h]
theorem body_two (n : Int) : bodyE n = rbodyE n := by
  unfold bodyE rbodyE
  by_cases h : ringOk n = true
  · obtain ⟨w, hn, h1, _⟩ := ring_two h
    rw [if_pos h, if_pos h, show (n / 2).toNat = w by omega, body_same h1]
  · rw [if_neg h, if_neg h]
theorem road_ne {t : List Int} (h : tellE t = 0) : roadR t ≠ [] := fun e => by
  obtain ⟨_, _, h3, _⟩ := tell_ok h
  have hon := progWalk_on (show progWalk t = (0, (progWalk t).2) by rw [← h3])
  have h1 := sortC_len ((progWalk t).2.road.map bare0)
  rw [roadR_eq h, e] at h1
  have h2 := hon.here
  rw [List.length_nil, List.length_map] at h1
  rw [List.length_eq_zero_iff.1 h1.symm] at h2
  cases h2
theorem bodyE_len (n : Int) : (bodyE n).1.length < 1000000000000 := by
  unfold bodyE
  by_cases h : ringOk n = true
  · obtain ⟨w, hn, h1, h2⟩ := ring_two h
    rw [if_pos h, show (n / 2).toNat = w by omega, sortC_len]
    have := bodyL_len w
    omega
  · rw [if_neg h]
    show (0 : Nat) < _
    decide
theorem machE_len (t : List Int) : (machE t).1.length < 1000000000000 := by
  unfold machE
  by_cases h : tellE t = 0
  · obtain ⟨_, h2, _, _⟩ := tell_ok h
    rw [if_pos h, sortC_len]
    have := tp_len (t.length + 3) t t.length
    omega
  · rw [if_neg h]
    show (0 : Nat) < _
    decide
theorem roadE_len (t : List Int) : (roadE t).1.length < 1000000000000 := by
  rw [road_two]
  unfold rroadE
  by_cases h : tellE t = 0
  · rw [if_pos h, List.length_map]
    have := roadR_len h
    omega
  · rw [if_neg h]
    show (0 : Nat) < _
    decide
theorem rSame_pc (l : List Ce) (hs : l.length < 1000000000000) : PCon Try.prog 25 [.fsl 3 (ceL l), .fsl 3 (ceL l)] (· = .v (.bool true)) := by
  have c := rsame_pc l hs
  refine pcon_run 1000 Try.func25 rfl Try.results25 Try.ntmps25 (Nat.le_of_ble_eq_true rfl) ?_
  simp (maxSteps := 1000000) -implicitDefEqProofs only [go_sem, ↓reduceIte, reduceCtorEq, Nat.reduceEqDiff, Nat.reduceLT, Nat.reduceAdd, Nat.reduceLeDiff]
  (repeat' (first | exact trivial | contradiction | exact ⟨_, rfl⟩ | refine And.intro ?_ ?_ | ((first | show (_ : Nat) ≤ _ | show (_ : Nat) < _ | show (_ : Int) ≤ _ | show (_ : Int) < _); omega) | (refine wait_draw 1000 mixed (by decide +kernel) ?_; simp (maxSteps := 1000000) -implicitDefEqProofs only [go_sem, ↓reduceIte, reduceCtorEq, Nat.reduceEqDiff, Nat.reduceLT, Nat.reduceAdd, Nat.reduceLeDiff]) | ((first | refine call_eq 1000 (c) ?_ ?_ rfl | refine call_draw 1000 (c) ?_ ?_); (focus (simp (maxSteps := 1000000) -implicitDefEqProofs only [go_sem, ↓reduceIte, reduceCtorEq, Nat.reduceEqDiff, Nat.reduceLT, Nat.reduceAdd, Nat.reduceLeDiff]; done)); simp (maxSteps := 1000000) -implicitDefEqProofs only [go_sem, ↓reduceIte, reduceCtorEq, Nat.reduceEqDiff, Nat.reduceLT, Nat.reduceAdd, Nat.reduceLeDiff]) | intro _))
theorem law6 (n : Int) (t : List Int) (hm : t.length < 9223372036854775808) : PCon Try.prog 6 [.v (.int .i64 n), tA t] (· = .v (.bool true)) := by
  have b1 := rBody_pc n (fun w h _ => wholeL_nodup h _ _ _)
  have b2 := pBody_pc n
  have b3 := rSame_pc _ (bodyE_len n)
  rw [← body_two] at b1
  have m1 := rmachine_pc t hm
  have m2 := machine_pc t hm
  have m3 := rSame_pc _ (machE_len t)
  rw [← mach_two] at m1
  have r1 := rroad_pc t hm (fun h => road_ne h)
  have r2 := road_pc t hm
  have r3 := rSame_pc _ (roadE_len t)
  rw [← road_two] at r1
  have x1 := rroom_pc t hm (fun h => road_ne h)
  have x2 := room_pc t hm
  rw [← room_two] at x1
  generalize bodyE n = B at b1 b2 b3
  generalize machE t = M at m1 m2 m3
  generalize roadE t = R at r1 r2 r3
  generalize roomE t = X at x1 x2
  obtain ⟨B, be⟩ := B
  obtain ⟨M, me⟩ := M
  obtain ⟨R, re⟩ := R
  obtain ⟨⟨⟨xa, xb⟩, xc, xd⟩, xe⟩ := X
  simp only [roomA, tA] at b1 b2 b3 m1 m2 m3 r1 r2 r3 x1 x2 ⊢
  refine pcon_run 1000 Try.func6 rfl Try.results6 Try.ntmps6 (Nat.le_of_ble_eq_true rfl) ?_
  simp (maxSteps := 1000000) -implicitDefEqProofs only [go_sem, ↓reduceIte, reduceCtorEq, Nat.reduceEqDiff, Nat.reduceLT, Nat.reduceAdd, Nat.reduceLeDiff, tA, beq_self_eq_true, bne_self_eq_false]
  (repeat' (first | exact trivial | contradiction | exact ⟨_, rfl⟩ | refine And.intro ?_ ?_ | ((first | show (_ : Nat) ≤ _ | show (_ : Nat) < _ | show (_ : Int) ≤ _ | show (_ : Int) < _); omega) | (refine wait_draw 1000 mixed (by decide +kernel) ?_; simp (maxSteps := 1000000) -implicitDefEqProofs only [go_sem, ↓reduceIte, reduceCtorEq, Nat.reduceEqDiff, Nat.reduceLT, Nat.reduceAdd, Nat.reduceLeDiff, tA, beq_self_eq_true, bne_self_eq_false, Bool.not_true, Bool.and_self]) | (refine call_eq 1000 (b1) ?_ ?_ rfl; (focus (simp (maxSteps := 1000000) -implicitDefEqProofs only [go_sem, ↓reduceIte, reduceCtorEq, Nat.reduceEqDiff, Nat.reduceLT, Nat.reduceAdd, Nat.reduceLeDiff, tA, beq_self_eq_true, bne_self_eq_false, Bool.not_true, Bool.and_self]; done)); simp (maxSteps := 1000000) -implicitDefEqProofs only [go_sem, ↓reduceIte, reduceCtorEq, Nat.reduceEqDiff, Nat.reduceLT, Nat.reduceAdd, Nat.reduceLeDiff, tA, beq_self_eq_true, bne_self_eq_false, Bool.not_true, Bool.and_self]) | (refine call_draw 1000 (b1) ?_ ?_; (focus (simp (maxSteps := 1000000) -implicitDefEqProofs only [go_sem, ↓reduceIte, reduceCtorEq, Nat.reduceEqDiff, Nat.reduceLT, Nat.reduceAdd, Nat.reduceLeDiff, tA, beq_self_eq_true, bne_self_eq_false, Bool.not_true, Bool.and_self]; done)); simp (maxSteps := 1000000) -implicitDefEqProofs only [go_sem, ↓reduceIte, reduceCtorEq, Nat.reduceEqDiff, Nat.reduceLT, Nat.reduceAdd, Nat.reduceLeDiff, tA, beq_self_eq_true, bne_self_eq_false, Bool.not_true, Bool.and_self]) | (refine call_eq 1000 (b2) ?_ ?_ rfl; (focus (simp (maxSteps := 1000000) -implicitDefEqProofs only [go_sem, ↓reduceIte, reduceCtorEq, Nat.reduceEqDiff, Nat.reduceLT, Nat.reduceAdd, Nat.reduceLeDiff, tA, beq_self_eq_true, bne_self_eq_false, Bool.not_true, Bool.and_self]; done)); simp (maxSteps := 1000000) -implicitDefEqProofs only [go_sem, ↓reduceIte, reduceCtorEq, Nat.reduceEqDiff, Nat.reduceLT, Nat.reduceAdd, Nat.reduceLeDiff, tA, beq_self_eq_true, bne_self_eq_false, Bool.not_true, Bool.and_self]) | (refine call_draw 1000 (b2) ?_ ?_; (focus (simp (maxSteps := 1000000) -implicitDefEqProofs only [go_sem, ↓reduceIte, reduceCtorEq, Nat.reduceEqDiff, Nat.reduceLT, Nat.reduceAdd, Nat.reduceLeDiff, tA, beq_self_eq_true, bne_self_eq_false, Bool.not_true, Bool.and_self]; done)); simp (maxSteps := 1000000) -implicitDefEqProofs only [go_sem, ↓reduceIte, reduceCtorEq, Nat.reduceEqDiff, Nat.reduceLT, Nat.reduceAdd, Nat.reduceLeDiff, tA, beq_self_eq_true, bne_self_eq_false, Bool.not_true, Bool.and_self]) | (refine call_eq 1000 (b3) ?_ ?_ rfl; (focus (simp (maxSteps := 1000000) -implicitDefEqProofs only [go_sem, ↓reduceIte, reduceCtorEq, Nat.reduceEqDiff, Nat.reduceLT, Nat.reduceAdd, Nat.reduceLeDiff, tA, beq_self_eq_true, bne_self_eq_false, Bool.not_true, Bool.and_self]; done)); simp (maxSteps := 1000000) -implicitDefEqProofs only [go_sem, ↓reduceIte, reduceCtorEq, Nat.reduceEqDiff, Nat.reduceLT, Nat.reduceAdd, Nat.reduceLeDiff, tA, beq_self_eq_true, bne_self_eq_false, Bool.not_true, Bool.and_self]) | (refine call_draw 1000 (b3) ?_ ?_; (focus (simp (maxSteps := 1000000) -implicitDefEqProofs only [go_sem, ↓reduceIte, reduceCtorEq, Nat.reduceEqDiff, Nat.reduceLT, Nat.reduceAdd, Nat.reduceLeDiff, tA, beq_self_eq_true, bne_self_eq_false, Bool.not_true, Bool.and_self]; done)); simp (maxSteps := 1000000) -implicitDefEqProofs only [go_sem, ↓reduceIte, reduceCtorEq, Nat.reduceEqDiff, Nat.reduceLT, Nat.reduceAdd, Nat.reduceLeDiff, tA, beq_self_eq_true, bne_self_eq_false, Bool.not_true, Bool.and_self]) | (refine call_eq 1000 (m1) ?_ ?_ rfl; (focus (simp (maxSteps := 1000000) -implicitDefEqProofs only [go_sem, ↓reduceIte, reduceCtorEq, Nat.reduceEqDiff, Nat.reduceLT, Nat.reduceAdd, Nat.reduceLeDiff, tA, beq_self_eq_true, bne_self_eq_false, Bool.not_true, Bool.and_self]; done)); simp (maxSteps := 1000000) -implicitDefEqProofs only [go_sem, ↓reduceIte, reduceCtorEq, Nat.reduceEqDiff, Nat.reduceLT, Nat.reduceAdd, Nat.reduceLeDiff, tA, beq_self_eq_true, bne_self_eq_false, Bool.not_true, Bool.and_self]) | (refine call_draw 1000 (m1) ?_ ?_; (focus (simp (maxSteps := 1000000) -implicitDefEqProofs only [go_sem, ↓reduceIte, reduceCtorEq, Nat.reduceEqDiff, Nat.reduceLT, Nat.reduceAdd, Nat.reduceLeDiff, tA, beq_self_eq_true, bne_self_eq_false, Bool.not_true, Bool.and_self]; done)); simp (maxSteps := 1000000) -implicitDefEqProofs only [go_sem, ↓reduceIte, reduceCtorEq, Nat.reduceEqDiff, Nat.reduceLT, Nat.reduceAdd, Nat.reduceLeDiff, tA, beq_self_eq_true, bne_self_eq_false, Bool.not_true, Bool.and_self]) | (refine call_eq 1000 (m2) ?_ ?_ rfl; (focus (simp (maxSteps := 1000000) -implicitDefEqProofs only [go_sem, ↓reduceIte, reduceCtorEq, Nat.reduceEqDiff, Nat.reduceLT, Nat.reduceAdd, Nat.reduceLeDiff, tA, beq_self_eq_true, bne_self_eq_false, Bool.not_true, Bool.and_self]; done)); simp (maxSteps := 1000000) -implicitDefEqProofs only [go_sem, ↓reduceIte, reduceCtorEq, Nat.reduceEqDiff, Nat.reduceLT, Nat.reduceAdd, Nat.reduceLeDiff, tA, beq_self_eq_true, bne_self_eq_false, Bool.not_true, Bool.and_self]) | (refine call_draw 1000 (m2) ?_ ?_; (focus (simp (maxSteps := 1000000) -implicitDefEqProofs only [go_sem, ↓reduceIte, reduceCtorEq, Nat.reduceEqDiff, Nat.reduceLT, Nat.reduceAdd, Nat.reduceLeDiff, tA, beq_self_eq_true, bne_self_eq_false, Bool.not_true, Bool.and_self]; done)); simp (maxSteps := 1000000) -implicitDefEqProofs only [go_sem, ↓reduceIte, reduceCtorEq, Nat.reduceEqDiff, Nat.reduceLT, Nat.reduceAdd, Nat.reduceLeDiff, tA, beq_self_eq_true, bne_self_eq_false, Bool.not_true, Bool.and_self]) | (refine call_eq 1000 (m3) ?_ ?_ rfl; (focus (simp (maxSteps := 1000000) -implicitDefEqProofs only [go_sem, ↓reduceIte, reduceCtorEq, Nat.reduceEqDiff, Nat.reduceLT, Nat.reduceAdd, Nat.reduceLeDiff, tA, beq_self_eq_true, bne_self_eq_false, Bool.not_true, Bool.and_self]; done)); simp (maxSteps := 1000000) -implicitDefEqProofs only [go_sem, ↓reduceIte, reduceCtorEq, Nat.reduceEqDiff, Nat.reduceLT, Nat.reduceAdd, Nat.reduceLeDiff, tA, beq_self_eq_true, bne_self_eq_false, Bool.not_true, Bool.and_self]) | (refine call_draw 1000 (m3) ?_ ?_; (focus (simp (maxSteps := 1000000) -implicitDefEqProofs only [go_sem, ↓reduceIte, reduceCtorEq, Nat.reduceEqDiff, Nat.reduceLT, Nat.reduceAdd, Nat.reduceLeDiff, tA, beq_self_eq_true, bne_self_eq_false, Bool.not_true, Bool.and_self]; done)); simp (maxSteps := 1000000) -implicitDefEqProofs only [go_sem, ↓reduceIte, reduceCtorEq, Nat.reduceEqDiff, Nat.reduceLT, Nat.reduceAdd, Nat.reduceLeDiff, tA, beq_self_eq_true, bne_self_eq_false, Bool.not_true, Bool.and_self]) | (refine call_eq 1000 (r1) ?_ ?_ rfl; (focus (simp (maxSteps := 1000000) -implicitDefEqProofs only [go_sem, ↓reduceIte, reduceCtorEq, Nat.reduceEqDiff, Nat.reduceLT, Nat.reduceAdd, Nat.reduceLeDiff, tA, beq_self_eq_true, bne_self_eq_false, Bool.not_true, Bool.and_self]; done)); simp (maxSteps := 1000000) -implicitDefEqProofs only [go_sem, ↓reduceIte, reduceCtorEq, Nat.reduceEqDiff, Nat.reduceLT, Nat.reduceAdd, Nat.reduceLeDiff, tA, beq_self_eq_true, bne_self_eq_false, Bool.not_true, Bool.and_self]) | (refine call_draw 1000 (r1) ?_ ?_; (focus (simp (maxSteps := 1000000) -implicitDefEqProofs only [go_sem, ↓reduceIte, reduceCtorEq, Nat.reduceEqDiff, Nat.reduceLT, Nat.reduceAdd, Nat.reduceLeDiff, tA, beq_self_eq_true, bne_self_eq_false, Bool.not_true, Bool.and_self]; done)); simp (maxSteps := 1000000) -implicitDefEqProofs only [go_sem, ↓reduceIte, reduceCtorEq, Nat.reduceEqDiff, Nat.reduceLT, Nat.reduceAdd, Nat.reduceLeDiff, tA, beq_self_eq_true, bne_self_eq_false, Bool.not_true, Bool.and_self]) | (refine call_eq 1000 (r2) ?_ ?_ rfl; (focus (simp (maxSteps := 1000000) -implicitDefEqProofs only [go_sem, ↓reduceIte, reduceCtorEq, Nat.reduceEqDiff, Nat.reduceLT, Nat.reduceAdd, Nat.reduceLeDiff, tA, beq_self_eq_true, bne_self_eq_false, Bool.not_true, Bool.and_self]; done)); simp (maxSteps := 1000000) -implicitDefEqProofs only [go_sem, ↓reduceIte, reduceCtorEq, Nat.reduceEqDiff, Nat.reduceLT, Nat.reduceAdd, Nat.reduceLeDiff, tA, beq_self_eq_true, bne_self_eq_false, Bool.not_true, Bool.and_self]) | (refine call_draw 1000 (r2) ?_ ?_; (focus (simp (maxSteps := 1000000) -implicitDefEqProofs only [go_sem, ↓reduceIte, reduceCtorEq, Nat.reduceEqDiff, Nat.reduceLT, Nat.reduceAdd, Nat.reduceLeDiff, tA, beq_self_eq_true, bne_self_eq_false, Bool.not_true, Bool.and_self]; done)); simp (maxSteps := 1000000) -implicitDefEqProofs only [go_sem, ↓reduceIte, reduceCtorEq, Nat.reduceEqDiff, Nat.reduceLT, Nat.reduceAdd, Nat.reduceLeDiff, tA, beq_self_eq_true, bne_self_eq_false, Bool.not_true, Bool.and_self]) | (refine call_eq 1000 (r3) ?_ ?_ rfl; (focus (simp (maxSteps := 1000000) -implicitDefEqProofs only [go_sem, ↓reduceIte, reduceCtorEq, Nat.reduceEqDiff, Nat.reduceLT, Nat.reduceAdd, Nat.reduceLeDiff, tA, beq_self_eq_true, bne_self_eq_false, Bool.not_true, Bool.and_self]; done)); simp (maxSteps := 1000000) -implicitDefEqProofs only [go_sem, ↓reduceIte, reduceCtorEq, Nat.reduceEqDiff, Nat.reduceLT, Nat.reduceAdd, Nat.reduceLeDiff, tA, beq_self_eq_true, bne_self_eq_false, Bool.not_true, Bool.and_self]) | (refine call_draw 1000 (r3) ?_ ?_; (focus (simp (maxSteps := 1000000) -implicitDefEqProofs only [go_sem, ↓reduceIte, reduceCtorEq, Nat.reduceEqDiff, Nat.reduceLT, Nat.reduceAdd, Nat.reduceLeDiff, tA, beq_self_eq_true, bne_self_eq_false, Bool.not_true, Bool.and_self]; done)); simp (maxSteps := 1000000) -implicitDefEqProofs only [go_sem, ↓reduceIte, reduceCtorEq, Nat.reduceEqDiff, Nat.reduceLT, Nat.reduceAdd, Nat.reduceLeDiff, tA, beq_self_eq_true, bne_self_eq_false, Bool.not_true, Bool.and_self]) | (refine call_eq 1000 (x1) ?_ ?_ rfl; (focus (simp (maxSteps := 1000000) -implicitDefEqProofs only [go_sem, ↓reduceIte, reduceCtorEq, Nat.reduceEqDiff, Nat.reduceLT, Nat.reduceAdd, Nat.reduceLeDiff, tA, beq_self_eq_true, bne_self_eq_false, Bool.not_true, Bool.and_self]; done)); simp (maxSteps := 1000000) -implicitDefEqProofs only [go_sem, ↓reduceIte, reduceCtorEq, Nat.reduceEqDiff, Nat.reduceLT, Nat.reduceAdd, Nat.reduceLeDiff, tA, beq_self_eq_true, bne_self_eq_false, Bool.not_true, Bool.and_self]) | (refine call_draw 1000 (x1) ?_ ?_; (focus (simp (maxSteps := 1000000) -implicitDefEqProofs only [go_sem, ↓reduceIte, reduceCtorEq, Nat.reduceEqDiff, Nat.reduceLT, Nat.reduceAdd, Nat.reduceLeDiff, tA, beq_self_eq_true, bne_self_eq_false, Bool.not_true, Bool.and_self]; done)); simp (maxSteps := 1000000) -implicitDefEqProofs only [go_sem, ↓reduceIte, reduceCtorEq, Nat.reduceEqDiff, Nat.reduceLT, Nat.reduceAdd, Nat.reduceLeDiff, tA, beq_self_eq_true, bne_self_eq_false, Bool.not_true, Bool.and_self]) | (refine call_eq 1000 (x2) ?_ ?_ rfl; (focus (simp (maxSteps := 1000000) -implicitDefEqProofs only [go_sem, ↓reduceIte, reduceCtorEq, Nat.reduceEqDiff, Nat.reduceLT, Nat.reduceAdd, Nat.reduceLeDiff, tA, beq_self_eq_true, bne_self_eq_false, Bool.not_true, Bool.and_self]; done)); simp (maxSteps := 1000000) -implicitDefEqProofs only [go_sem, ↓reduceIte, reduceCtorEq, Nat.reduceEqDiff, Nat.reduceLT, Nat.reduceAdd, Nat.reduceLeDiff, tA, beq_self_eq_true, bne_self_eq_false, Bool.not_true, Bool.and_self]) | (refine call_draw 1000 (x2) ?_ ?_; (focus (simp (maxSteps := 1000000) -implicitDefEqProofs only [go_sem, ↓reduceIte, reduceCtorEq, Nat.reduceEqDiff, Nat.reduceLT, Nat.reduceAdd, Nat.reduceLeDiff, tA, beq_self_eq_true, bne_self_eq_false, Bool.not_true, Bool.and_self]; done)); simp (maxSteps := 1000000) -implicitDefEqProofs only [go_sem, ↓reduceIte, reduceCtorEq, Nat.reduceEqDiff, Nat.reduceLT, Nat.reduceAdd, Nat.reduceLeDiff, tA, beq_self_eq_true, bne_self_eq_false, Bool.not_true, Bool.and_self]) | intro _))
end Go.Proofs.Ytiipggfhjkalfaa
