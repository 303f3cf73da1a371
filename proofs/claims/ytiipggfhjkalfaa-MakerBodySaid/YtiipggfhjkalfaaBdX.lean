/- The room: the document's way. -/
import Derived.Test.YtiipggfhjkalfaaProg
import Derived.Test.YtiipggfhjkalfaaPmU
import Derived.Test.YtiipggfhjkalfaaBdW
set_option linter.unusedSimpArgs false
set_option linter.unusedVariables false
set_option maxRecDepth 20000
open Go Go.Proofs
namespace Go.Proofs.Ytiipggfhjkalfaa
open Pm
attribute [local irreducible] Wait CallT CallW NextT Le Weak
def roomA (b : Pl × Pl) (e : Int) : AV := .tup [.agg [.v (.int .i64 b.1.1), .v (.int .i64 b.1.2), .v (.int .i64 0)], .agg [.v (.int .i64 b.2.1), .v (.int .i64 b.2.2), .v (.int .i64 0)], .v (.int .i64 e)]
def frontR (t : List Int) : Pl := onP (hereP (refWalk t).2) (refWalk t).2.look
def listR (t : List Int) : List Ce := (roadR t).map (shC (((t.length + 3 - 1) / 2 : Nat) : Int) 0) ++ (if cop t = true then [(((frontR t).1 + (((t.length + 3 - 1) / 2 : Nat) : Int), (frontR t).2), 0)] else [])
def box0 (t : List Int) : Pl × Pl := ((0, 0), (((t.length + 2 : Nat) : Int), 3))
def rroomE (t : List Int) : (Pl × Pl) × Int := if tellE t = 0 then (bxL (box0 t) ((listR t).map Prod.fst), 0) else (((0, 0), (0, 0)), tellE t)
def cellB (p : Pl) : Option Blk := some (.row 33 3 [.agg [.v (.int .i64 p.1), .v (.int .i64 p.2), .v (.int .i64 0)]])
def rrS (L : List Ce) (b : Pl × Pl) (k : Nat) : St := let B := bxL b ((L.take k).map Prod.fst)
  ⟨112, 0, [(2, .ptr 0 3 0 0), (3, .ptr 1 3 0 0), (8, .ptr 2 3 0 0), (9, .ptr 3 3 0 0), (10, .fsl 3 (ceL L)), (13, .v (.int .i64 (k : Int)))], [cellB (0, 0), cellB (0, 0), cellB B.1, cellB B.2, none]⟩
def rrM (L : List Ce) (b : Pl × Pl) : St := ⟨112, 0, [(2, .ptr 0 3 0 0), (3, .ptr 1 3 0 0), (8, .ptr 2 3 0 0), (9, .ptr 3 3 0 0), (10, .sl 4 3 0 L.length), (13, .v (.int .i64 0))], [cellB (0, 0), cellB (0, 0), cellB b.1, cellB b.2, some (.row 33 3 (ceL L))]⟩
theorem rr_weak (L : List Ce) (b : Pl × Pl) : Weak (rrM L b) (rrS L b 0) := by
  have htk : (ceL L).take L.length = ceL L := List.take_of_length_le (by rw [ceL_len]; exact Nat.le_refl _)
  refine weak_frzB 4 (b := .row 33 3 (ceL L)) rfl rfl (fun f => by simp (maxSteps := 1000000) -implicitDefEqProofs only [go_sem, ↓reduceIte, reduceCtorEq, Nat.reduceEqDiff, Nat.reduceLT, Nat.reduceAdd, Nat.reduceLeDiff, Nat.reduceMul, Nat.reduceSub, Int.reduceToNat, Int.reduceLT, Int.reduceLE, Int.reduceEq, Int.reduceBNe, Nat.reduceBEq]) ?_
  simp (maxSteps := 1000000) -implicitDefEqProofs only [go_sem, ↓reduceIte, reduceCtorEq, Nat.reduceEqDiff, Nat.reduceLT, Nat.reduceAdd, Nat.reduceLeDiff, Nat.reduceMul, Nat.reduceSub, Int.reduceToNat, Int.reduceLT, Int.reduceLE, Int.reduceEq, Int.reduceBNe, Nat.reduceBEq, rrM, rrS, cellB, htk, List.take_zero, List.map_nil, bxL, List.foldl_nil, ceL_len, Int.natCast_zero]
theorem rr_succ (L : List Ce) (b : Pl × Pl) {k : Nat} (hk : k < L.length) : bxL b ((L.take (k + 1)).map Prod.fst) = growB (bxL b ((L.take k).map Prod.fst)) (L.getD k ((0, 0), 0)).1 := by
  rw [take_snocD L k ((0, 0), 0) hk, List.map_append, bxL_app]
  rfl
set_option maxHeartbeats 2000000 in
theorem rroom_pc (t : List Int) (hm : t.length < 9223372036854775808) (hne : tellE t = 0 → roadR t ≠ []) : PCon Try.prog 30 [tA t] (· = roomA (rroomE t).1 (rroomE t).2) := by
  refine pcon_run 1000 Try.func30 rfl Try.results30 Try.ntmps30 (Nat.le_of_ble_eq_true rfl) ?_
  have bc := begin_pc t hm
  simp (maxSteps := 1000000) -implicitDefEqProofs only [go_sem, ↓reduceIte, reduceCtorEq, Nat.reduceEqDiff, Nat.reduceLT, Nat.reduceAdd, Nat.reduceLeDiff, Nat.reduceMul, Nat.reduceSub, Int.reduceToNat, Int.reduceLT, Int.reduceLE, Int.reduceEq, Int.reduceBNe, Nat.reduceBEq, tA]
  refine call_pure 0 bc ?_ rfl ?_
  · simp (maxSteps := 1000000) -implicitDefEqProofs only [go_sem, ↓reduceIte, reduceCtorEq, Nat.reduceEqDiff, Nat.reduceLT, Nat.reduceAdd, Nat.reduceLeDiff, Nat.reduceMul, Nat.reduceSub, Int.reduceToNat, Int.reduceLT, Int.reduceLE, Int.reduceEq, Int.reduceBNe, Nat.reduceBEq, tA]
  rintro r (⟨he, w, T, rfl⟩ | ⟨he, T, rfl⟩)
  · have hpm : rroomE t = (((0, 0), (0, 0)), tellE t) := by unfold rroomE; rw [if_neg he]
    have hf : (tellE t = 0) = False := eq_false he
    rw [hpm]
    refine run_again 1000 ?_
    simp (maxSteps := 1000000) -implicitDefEqProofs only [go_sem, ↓reduceIte, reduceCtorEq, Nat.reduceEqDiff, Nat.reduceLT, Nat.reduceAdd, Nat.reduceLeDiff, Nat.reduceMul, Nat.reduceSub, Int.reduceToNat, Int.reduceLT, Int.reduceLE, Int.reduceEq, Int.reduceBNe, Nat.reduceBEq, rkV, rkR, tA, hf, roomA]
  · have hpm : rroomE t = (bxL (box0 t) ((listR t).map Prod.fst), 0) := by unfold rroomE; rw [if_pos he]
    obtain ⟨_, h2, _, h4⟩ := tell_ok he
    obtain ⟨v, hv, hx⟩ := tell_ref he
    have hrn := roadR_near he
    have hrl := roadR_len he
    have hne := hne he
    have hmd := made_pc v T false hx.i.nd hx.i.s hx.i.r hx.i.h (by have := hx.i.kl; omega)
    obtain ⟨N, hN⟩ : ∃ N : Int, N = ((2 * (t.length + 3) : Nat) : Int) := ⟨_, rfl⟩
    have rg := rrg_pc t (by omega) N (by omega)
    have rh := rhalf_pc (t.length + 3) (by omega) (by omega)
    have rc := rcopies_pc t h4 hm
    obtain ⟨a, ha⟩ : ∃ a, a = (t.length + 3 - 1) / 2 := ⟨_, rfl⟩
    have mc := rmoved_con (roadR t) ((a : Nat) : Int) 0 (by omega) hne (fun c hc => by
      have := hrn c hc
      unfold near at this
      exact ⟨wrap64 (by omega) (by omega), by rw [Int.add_zero]; exact wrap64 (by omega) (by omega)⟩)
    rw [hpm, hv]
    have hlist : listR t = (roadR t).map (shC (a : Int) 0) ++ (if cop t = true then [(((frontR t).1 + (a : Int), (frontR t).2), 0)] else []) := by rw [ha]; rfl
    rw [← ha] at rh
    simp only [rgA, ← hN] at rh
    have hR : (refMd v false).road = roadR t := by unfold roadR; rw [hv]; rfl
    have hRl : ((roadR t).map (shC (a : Int) 0)).length = (roadR t).length := List.length_map _
    generalize (roadR t).map (shC (a : Int) 0) = L at mc hRl hlist
    have hfr : frontR t = onP (hereP v) v.look := by unfold frontR; rw [hv]
    generalize frontR t = F at hlist hfr
    generalize listR t = LL at hlist ⊢
    generalize refMd v false = M at hmd hR
    obtain ⟨h, hh⟩ : ∃ h : Nat, v.here = (h : Int) := ⟨v.here.toNat, by have := hx.i.h; omega⟩
    simp only [mdA, hR] at hmd
    simp only [rkV, rkR, tA, hh] at hmd rg rc ⊢
    generalize cop t = cb at rc hlist
    have e1 : N.tdiv 2 = ((t.length + 3 : Nat) : Int) := by rw [hN]; exact half_nat _
    have e2 : IntKind.i64.wrap ((t.length + 3 : Nat) : Int) = ((t.length + 3 : Nat) : Int) := wrap64 (by omega) (by omega)
    have e3 : IntKind.i64.wrap (((t.length + 3 : Nat) : Int) - 1) = ((t.length + 2 : Nat) : Int) := by rw [wrap64 (by omega) (by omega)]; omega
    have hlx : h < (v.K.map Prod.fst).length := by rw [List.length_map]; have := hx.i.h; omega
    have hly : h < (v.K.map Prod.snd).length := by rw [List.length_map]; have := hx.i.h; omega
    have gx := get_tA (v.K.map Prod.fst) h hlx
    have gy := get_tA (v.K.map Prod.snd) h hly
    rw [show (v.K.map Prod.fst).getD h 0 = (hereP v).1 by unfold hereP; rw [hh, Int.toNat_natCast]; simp [List.getD_eq_getElem?_getD, show h < v.K.length by simpa using hlx]] at gx
    rw [show (v.K.map Prod.snd).getD h 0 = (hereP v).2 by unfold hereP; rw [hh, Int.toNat_natCast]; simp [List.getD_eq_getElem?_getD, show h < v.K.length by simpa using hlx]] at gy
    have m1 : (h < (v.K.map Prod.fst).length) = True := eq_true hlx
    have m2 : ((h : Int) < ((v.K.map Prod.fst).length : Int)) = True := eq_true (by omega)
    have m3 : (h < (v.K.map Prod.snd).length) = True := eq_true hly
    have m4 : ((h : Int) < ((v.K.map Prod.snd).length : Int)) = True := eq_true (by omega)
    generalize v.K.map Prod.fst = X at gx m1 m2 hlx hmd ⊢
    generalize v.K.map Prod.snd = Y at gy m3 m4 hly hmd ⊢
    have hq : near (hereP v) := hx.i.b _ (hereP_mem hx.i.h)
    unfold near at hq
    have hk4 := hx.i.l
    have np := next_pc (hereP v).1 (hereP v).2 v.look hk4.1 hk4.2 (by omega) (by omega) (by omega) (by omega)
    rw [show ((hereP v).1, (hereP v).2) = hereP v from rfl, ← hfr] at np
    have hFb : -90001 ≤ F.1 ∧ F.1 ≤ 90001 := by
      rw [hfr]
      unfold onP
      (repeat' split) <;> simp only <;> omega
    have ef : IntKind.i64.wrap (F.1 + (a : Int)) = F.1 + (a : Int) := wrap64 (by omega) (by omega)
    have hb0 : box0 t = ((0, 0), (((t.length + 2 : Nat) : Int), 3)) := rfl
    have hLl : LL.length = L.length + (if cb = true then 1 else 0) := by rw [hlist]; cases cb <;> simp
    have hll := ceL_len LL
    have hRs := hRl.symm
    cases cb
    all_goals
      simp only [Bool.false_eq_true, if_false, if_true, List.append_nil, Nat.add_zero] at hlist hLl
      refine run_again 1000 ?_
      simp (maxSteps := 1000000) -implicitDefEqProofs only [go_sem, ↓reduceIte, reduceCtorEq, Nat.reduceEqDiff, Nat.reduceLT, Nat.reduceAdd, Nat.reduceLeDiff, Nat.reduceMul, Nat.reduceSub, Int.reduceToNat, Int.reduceLT, Int.reduceLE, Int.reduceEq, Int.reduceBNe, Nat.reduceBEq]
      (repeat' (first | exact trivial | contradiction | exact ⟨_, rfl⟩ | refine And.intro ?_ ?_ | ((first | show (_ : Nat) ≤ _ | show (_ : Nat) < _ | show (_ : Int) ≤ _ | show (_ : Int) < _); omega) | (refine wait_draw 1000 mixed (by decide +kernel) ?_; simp (maxSteps := 1000000) -implicitDefEqProofs only [go_sem, ↓reduceIte, reduceCtorEq, Nat.reduceEqDiff, Nat.reduceLT, Nat.reduceAdd, Nat.reduceLeDiff, Nat.reduceMul, Nat.reduceSub, Int.reduceToNat, Int.reduceLT, Int.reduceLE, Int.reduceEq, Int.reduceBNe, Nat.reduceBEq, e1, e2, e3, gx, gy, m1, m2, m3, m4, ef, hRs]) | ((first | refine call_eq 1000 (hmd) ?_ ?_ rfl | refine call_draw 1000 (hmd) ?_ ?_ | refine call_eq 1000 (rg) ?_ ?_ rfl | refine call_draw 1000 (rg) ?_ ?_ | refine call_eq 1000 (rh) ?_ ?_ rfl | refine call_draw 1000 (rh) ?_ ?_ | refine call_eq 1000 (rc) ?_ ?_ rfl | refine call_draw 1000 (rc) ?_ ?_ | refine call_eq 1000 (np) ?_ ?_ rfl | refine call_draw 1000 (np) ?_ ?_); (focus (simp (maxSteps := 1000000) -implicitDefEqProofs only [go_sem, ↓reduceIte, reduceCtorEq, Nat.reduceEqDiff, Nat.reduceLT, Nat.reduceAdd, Nat.reduceLeDiff, Nat.reduceMul, Nat.reduceSub, Int.reduceToNat, Int.reduceLT, Int.reduceLE, Int.reduceEq, Int.reduceBNe, Nat.reduceBEq, e1, e2, e3, gx, gy, m1, m2, m3, m4, ef, hRs]; done)); simp (maxSteps := 1000000) -implicitDefEqProofs only [go_sem, ↓reduceIte, reduceCtorEq, Nat.reduceEqDiff, Nat.reduceLT, Nat.reduceAdd, Nat.reduceLeDiff, Nat.reduceMul, Nat.reduceSub, Int.reduceToNat, Int.reduceLT, Int.reduceLE, Int.reduceEq, Int.reduceBNe, Nat.reduceBEq, e1, e2, e3, gx, gy, m1, m2, m3, m4, ef, hRs]) | ((first | refine call_con_eq 1000 [] (mc) ?_ ?_ ?_ (by simp) (by simp) rfl (by first | (simp; done) | exact Nat.le_of_ble_eq_true rfl) | refine call_draw_con 1000 [] (mc) (by decide +kernel) ?_ ?_ ?_ (by simp) (by simp) rfl (by first | (simp; done) | exact Nat.le_of_ble_eq_true rfl)); (focus (simp (maxSteps := 1000000) -implicitDefEqProofs only [go_sem, ↓reduceIte, reduceCtorEq, Nat.reduceEqDiff, Nat.reduceLT, Nat.reduceAdd, Nat.reduceLeDiff, Nat.reduceMul, Nat.reduceSub, Int.reduceToNat, Int.reduceLT, Int.reduceLE, Int.reduceEq, Int.reduceBNe, Nat.reduceBEq, e1, e2, e3, gx, gy, m1, m2, m3, m4, ef, hRs]; done)); (focus (simp (maxSteps := 1000000) -implicitDefEqProofs only [go_sem, ↓reduceIte, reduceCtorEq, Nat.reduceEqDiff, Nat.reduceLT, Nat.reduceAdd, Nat.reduceLeDiff, Nat.reduceMul, Nat.reduceSub, Int.reduceToNat, Int.reduceLT, Int.reduceLE, Int.reduceEq, Int.reduceBNe, Nat.reduceBEq, e1, e2, e3, gx, gy, m1, m2, m3, m4, ef, hRs]; done)); simp (maxSteps := 1000000) -implicitDefEqProofs only [go_sem, ↓reduceIte, reduceCtorEq, Nat.reduceEqDiff, Nat.reduceLT, Nat.reduceAdd, Nat.reduceLeDiff, Nat.reduceMul, Nat.reduceSub, Int.reduceToNat, Int.reduceLT, Int.reduceLE, Int.reduceEq, Int.reduceBNe, Nat.reduceBEq, e1, e2, e3, gx, gy, m1, m2, m3, m4, ef, hRs]) | intro _))
      refine wait_range LL.length (rrS LL (box0 t)) (fun _ => True) (Weak.trans (b := rrM LL (box0 t)) ?_ (rr_weak LL (box0 t))) trivial ?_
      · first
        | (refine weak_to [2, 3, 8, 9, 10, 13] [0, 1, 3, 4, 5] ?_ (by decide) (fun i h => by cases h); simp (maxSteps := 1000000) -implicitDefEqProofs only [go_sem, ↓reduceIte, reduceCtorEq, Nat.reduceEqDiff, Nat.reduceLT, Nat.reduceAdd, Nat.reduceLeDiff, Nat.reduceMul, Nat.reduceSub, Int.reduceToNat, Int.reduceLT, Int.reduceLE, Int.reduceEq, Int.reduceBNe, Nat.reduceBEq, St.keep, rrM, cellB, hb0, hLl, hRs, hlist]; done)
        | (refine weak_to [2, 3, 8, 9, 10, 13] [0, 1, 3, 4, 7] ?_ (by decide) (fun i h => by cases h); simp (maxSteps := 1000000) -implicitDefEqProofs only [go_sem, ↓reduceIte, reduceCtorEq, Nat.reduceEqDiff, Nat.reduceLT, Nat.reduceAdd, Nat.reduceLeDiff, Nat.reduceMul, Nat.reduceSub, Int.reduceToNat, Int.reduceLT, Int.reduceLE, Int.reduceEq, Int.reduceBNe, Nat.reduceBEq, St.keep, rrM, cellB, hb0, hlist, List.length_append, List.length_cons, List.length_nil]; done)
      intro k hk _
      by_cases hkl : k < LL.length
      · refine run_sound 1000 _ _ ?_
        have h1 : ((k : Int) < (LL.length : Int)) = True := eq_true (by omega)
        have h2 : (k < LL.length) = True := eq_true hkl
        have hw1 : IntKind.i64.wrap ((k : Int) + 1) = ((k + 1 : Nat) : Int) := by rw [wrap64 (by omega) (by omega)]; omega
        have g := ceL_getD LL k hkl
        have hs := rr_succ LL (box0 t) hkl
        simp only [rrS]
        rw [hs]
        generalize bxL (box0 t) ((LL.take k).map Prod.fst) = B
        generalize LL.getD k ((0, 0), 0) = c at g
        obtain ⟨⟨x, y⟩, s⟩ := c
        simp only at g
        simp (maxSteps := 1000000) -implicitDefEqProofs only [go_sem, ↓reduceIte, reduceCtorEq, Nat.reduceEqDiff, Nat.reduceLT, Nat.reduceAdd, Nat.reduceLeDiff, Nat.reduceMul, Nat.reduceSub, Int.reduceToNat, Int.reduceLT, Int.reduceLE, Int.reduceEq, Int.reduceBNe, Nat.reduceBEq, cellB, h1, h2, g, hll]
        (repeat' (first | exact trivial | contradiction | exact ⟨_, rfl⟩ | refine And.intro ?_ ?_ | ((first | show (_ : Nat) ≤ _ | show (_ : Nat) < _ | show (_ : Int) ≤ _ | show (_ : Int) < _); omega) | (refine wait_draw 1000 mixed (by decide +kernel) ?_; simp (maxSteps := 1000000) -implicitDefEqProofs only [go_sem, ↓reduceIte, reduceCtorEq, Nat.reduceEqDiff, Nat.reduceLT, Nat.reduceAdd, Nat.reduceLeDiff, Nat.reduceMul, Nat.reduceSub, Int.reduceToNat, Int.reduceLT, Int.reduceLE, Int.reduceEq, Int.reduceBNe, Nat.reduceBEq , h1, h2, g, hll, mnmx_min, mnmx_max]) | intro _))
        refine weak_to [2, 3, 8, 9, 10, 13] [0, 1, 2, 3, 4] ?_ (by decide) (fun i h => by cases h)
        simp (maxSteps := 1000000) -implicitDefEqProofs only [go_sem, ↓reduceIte, reduceCtorEq, Nat.reduceEqDiff, Nat.reduceLT, Nat.reduceAdd, Nat.reduceLeDiff, Nat.reduceMul, Nat.reduceSub, Int.reduceToNat, Int.reduceLT, Int.reduceLE, Int.reduceEq, Int.reduceBNe, Nat.reduceBEq, St.keep, growB, hw1]
      · obtain rfl : k = LL.length := by omega
        have h1 : ((LL.length : Int) < (LL.length : Int)) = False := eq_false (by omega)
        refine run_sound 1000 _ _ ?_
        simp only [rrS, List.take_length]
        generalize bxL (box0 t) (LL.map Prod.fst) = B
        simp (maxSteps := 1000000) -implicitDefEqProofs only [go_sem, ↓reduceIte, reduceCtorEq, Nat.reduceEqDiff, Nat.reduceLT, Nat.reduceAdd, Nat.reduceLeDiff, Nat.reduceMul, Nat.reduceSub, Int.reduceToNat, Int.reduceLT, Int.reduceLE, Int.reduceEq, Int.reduceBNe, Nat.reduceBEq, cellB, h1, hll, roomA]
        (repeat' (first | exact trivial | contradiction | exact ⟨_, rfl⟩ | refine And.intro ?_ ?_ | ((first | show (_ : Nat) ≤ _ | show (_ : Nat) < _ | show (_ : Int) ≤ _ | show (_ : Int) < _); omega) | ((first | refine wait_draw 1000 mixed (by decide +kernel) ?_ | refine wait_drawV (fun id => id == 0 || id == 1 || id == lastK) 1000 mixed (by decide +kernel) ?_); simp (maxSteps := 1000000) -implicitDefEqProofs only [go_sem, ↓reduceIte, reduceCtorEq, Nat.reduceEqDiff, Nat.reduceLT, Nat.reduceAdd, Nat.reduceLeDiff, Nat.reduceMul, Nat.reduceSub, Int.reduceToNat, Int.reduceLT, Int.reduceLE, Int.reduceEq, Int.reduceBNe, Nat.reduceBEq, roomA]) | intro _))
end Go.Proofs.Ytiipggfhjkalfaa
