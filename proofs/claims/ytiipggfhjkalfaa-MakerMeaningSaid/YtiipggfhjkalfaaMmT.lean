/- What a tape means: the program's Meaning. -/
import Derived.Test.YtiipggfhjkalfaaProg
import Derived.Test.YtiipggfhjkalfaaPmU
import Derived.Test.YtiipggfhjkalfaaMmS
set_option linter.unusedSimpArgs false
set_option linter.unusedVariables false
set_option maxRecDepth 20000
open Go Go.Proofs
namespace Go.Proofs.Ytiipggfhjkalfaa
open Pm
attribute [local irreducible] Wait CallT CallW NextT Le Weak
structure Md where
  cells : List Ce
  road : List Ce
  long : Int
  copies : Bool
  port : Ce
def mdA (m : Md) : AV := .agg [.fsl 3 (ceL m.cells), .fsl 3 (ceL m.road), .v (.int .i64 m.long), .v (.bool m.copies), .v (.int .i64 m.port.1.1), .v (.int .i64 m.port.1.2), .v (.int .i64 m.port.2)]
def md0 : Md := ⟨[], [], 0, false, ((0, 0), 0)⟩
def bare0 (c : Pl × Bool) : Ce := (c.1, 0)
def cop (t : List Int) : Bool := t.getD (t.length - 2) 0 == 3
def progMade (t : List Int) : Md × Int :=
  let r := progWalk t
  if r.1 = 0 then (⟨sortC (r.2.wrote.filter nz), sortC (r.2.road.map bare0), r.2.long, cop t, if cop t = true then ((r.2.s.x, r.2.s.y), 0) else ((0, 0), 0)⟩, 0) else (md0, r.1)
theorem meaning_pc (t : List Int) (hm : t.length < 9223372036854775808) : PCon Try.prog 21 [tA t] (· = .tup [mdA (progMade t).1, .v (.int .i64 (progMade t).2)]) := by
  refine PCon.upto (pcon_run 1000 Try.func21 rfl Try.results21 Try.ntmps21 (Nat.le_of_ble_eq_true rfl) ?_)
  simp (maxSteps := 1000000) -implicitDefEqProofs only [go_sem, ↓reduceIte, reduceCtorEq, Nat.reduceEqDiff, Nat.reduceLT, Nat.reduceAdd, Nat.reduceLeDiff, Nat.reduceMul, Nat.reduceSub, Nat.reduceDiv, Nat.reduceMod, Int.reduceToNat, Int.reduceLT, Int.reduceLE, Int.reduceEq, Int.reduceAdd, Int.reduceSub, Int.reduceMul, Int.reduceNeg, Int.reduceTMod, Int.reduceTDiv, Int.reduceMod, Int.reduceDiv, Int.reduceBEq, Int.reduceBNe, Nat.reduceBEq, tA]
  refine call_con 0 [] (walk_con t hm) ?_ ?_ (by simp) (by simp) rfl ?_
  · simp (maxSteps := 1000000) -implicitDefEqProofs only [go_sem, ↓reduceIte, reduceCtorEq, Nat.reduceEqDiff, Nat.reduceLT, Nat.reduceAdd, Nat.reduceLeDiff, Nat.reduceMul, Nat.reduceSub, Nat.reduceDiv, Nat.reduceMod, Int.reduceToNat, Int.reduceLT, Int.reduceLE, Int.reduceEq, Int.reduceAdd, Int.reduceSub, Int.reduceMul, Int.reduceNeg, Int.reduceTMod, Int.reduceTDiv, Int.reduceMod, Int.reduceDiv, Int.reduceBEq, Int.reduceBNe, Nat.reduceBEq, tA]
  · simp (maxSteps := 1000000) -implicitDefEqProofs only [go_sem, ↓reduceIte, reduceCtorEq, Nat.reduceEqDiff, Nat.reduceLT, Nat.reduceAdd, Nat.reduceLeDiff, Nat.reduceMul, Nat.reduceSub, Nat.reduceDiv, Nat.reduceMod, Int.reduceToNat, Int.reduceLT, Int.reduceLE, Int.reduceEq, Int.reduceAdd, Int.reduceSub, Int.reduceMul, Int.reduceNeg, Int.reduceTMod, Int.reduceTDiv, Int.reduceMod, Int.reduceDiv, Int.reduceBEq, Int.reduceBNe, Nat.reduceBEq]
  rintro r hcal (⟨e, he, hne, rfl⟩ | ⟨he, rfl, rfl⟩)
  · refine ⟨by simp, ?_⟩
    have hpm : progMade t = (md0, e) := by unfold progMade; simp only [he, if_neg hne]
    have hf : (e = 0) = False := eq_false hne
    rw [hpm]
    refine run_again 1000 ?_
    simp (maxSteps := 1000000) -implicitDefEqProofs only [go_sem, ↓reduceIte, reduceCtorEq, Nat.reduceEqDiff, Nat.reduceLT, Nat.reduceAdd, Nat.reduceLeDiff, Nat.reduceMul, Nat.reduceSub, Nat.reduceDiv, Nat.reduceMod, Int.reduceToNat, Int.reduceLT, Int.reduceLE, Int.reduceEq, Int.reduceAdd, Int.reduceSub, Int.reduceMul, Int.reduceNeg, Int.reduceTMod, Int.reduceTDiv, Int.reduceMod, Int.reduceDiv, Int.reduceBEq, Int.reduceBNe, Nat.reduceBEq, tA, hf]
    exact Le.tup (.cons (Le.agg (.cons (Le.nil 3) (.cons (Le.nil 3) (LeL.refl _)))) (LeL.refl _))
  · refine ⟨by simp, ?_⟩
    obtain ⟨w, hw⟩ : ∃ w, w = (progWalk t).2 := ⟨_, rfl⟩
    have hpw : progWalk t = (0, w) := by rw [← he, hw]
    obtain ⟨hM, hI, ht1, ht2⟩ := progWalk_inv hpw
    rw [← hw]
    refine run_weak 1000 (st' := ⟨57, 0, [(11, .tup [wkF w, .v (.int .i64 0)]), (10, .fsl 1 (t.map iA)), (3, .v (.int .i64 0)), (2, .ptr 0 7 0 0), (0, .fsl 1 (t.map iA))],
      [some (.row 46 7 [.agg [.v (.slice none 0 0), .v (.slice none 0 0), .v (.int .i64 0), .v (.bool false), .v (.int .i64 0), .v (.int .i64 0), .v (.int .i64 0)]]), none, none, none, none, none, none]⟩) ?_ ?_
    · simp (maxSteps := 1000000) -implicitDefEqProofs only [go_sem, ↓reduceIte, reduceCtorEq, Nat.reduceEqDiff, Nat.reduceLT, Nat.reduceAdd, Nat.reduceLeDiff, Nat.reduceMul, Nat.reduceSub, Nat.reduceDiv, Nat.reduceMod, Int.reduceToNat, Int.reduceLT, Int.reduceLE, Int.reduceEq, Int.reduceAdd, Int.reduceSub, Int.reduceMul, Int.reduceNeg, Int.reduceTMod, Int.reduceTDiv, Int.reduceMod, Int.reduceDiv, Int.reduceBEq, Int.reduceBNe, Nat.reduceBEq, wkS, wkB, trB, tA]
      refine (weak_frzB 2 rfl rfl (fun f => by simp (maxSteps := 1000000) -implicitDefEqProofs only [go_sem, ↓reduceIte, reduceCtorEq, Nat.reduceEqDiff, Nat.reduceLT, Nat.reduceAdd, Nat.reduceLeDiff, Nat.reduceMul, Nat.reduceSub, Nat.reduceDiv, Nat.reduceMod, Int.reduceToNat, Int.reduceLT, Int.reduceLE, Int.reduceEq, Int.reduceAdd, Int.reduceSub, Int.reduceMul, Int.reduceNeg, Int.reduceTMod, Int.reduceTDiv, Int.reduceMod, Int.reduceDiv, Int.reduceBEq, Int.reduceBNe, Nat.reduceBEq]) rfl).trans ?_
      simp (maxSteps := 1000000) -implicitDefEqProofs only [go_sem, ↓reduceIte, reduceCtorEq, Nat.reduceEqDiff, Nat.reduceLT, Nat.reduceAdd, Nat.reduceLeDiff, Nat.reduceMul, Nat.reduceSub, Nat.reduceDiv, Nat.reduceMod, Int.reduceToNat, Int.reduceLT, Int.reduceLE, Int.reduceEq, Int.reduceAdd, Int.reduceSub, Int.reduceMul, Int.reduceNeg, Int.reduceTMod, Int.reduceTDiv, Int.reduceMod, Int.reduceDiv, Int.reduceBEq, Int.reduceBNe, Nat.reduceBEq, Nat.add_zero, Nat.zero_add]
      refine (weak_frzB 3 rfl rfl (fun f => by simp (maxSteps := 1000000) -implicitDefEqProofs only [go_sem, ↓reduceIte, reduceCtorEq, Nat.reduceEqDiff, Nat.reduceLT, Nat.reduceAdd, Nat.reduceLeDiff, Nat.reduceMul, Nat.reduceSub, Nat.reduceDiv, Nat.reduceMod, Int.reduceToNat, Int.reduceLT, Int.reduceLE, Int.reduceEq, Int.reduceAdd, Int.reduceSub, Int.reduceMul, Int.reduceNeg, Int.reduceTMod, Int.reduceTDiv, Int.reduceMod, Int.reduceDiv, Int.reduceBEq, Int.reduceBNe, Nat.reduceBEq]) rfl).trans ?_
      simp (maxSteps := 1000000) -implicitDefEqProofs only [go_sem, ↓reduceIte, reduceCtorEq, Nat.reduceEqDiff, Nat.reduceLT, Nat.reduceAdd, Nat.reduceLeDiff, Nat.reduceMul, Nat.reduceSub, Nat.reduceDiv, Nat.reduceMod, Int.reduceToNat, Int.reduceLT, Int.reduceLE, Int.reduceEq, Int.reduceAdd, Int.reduceSub, Int.reduceMul, Int.reduceNeg, Int.reduceTMod, Int.reduceTDiv, Int.reduceMod, Int.reduceDiv, Int.reduceBEq, Int.reduceBNe, Nat.reduceBEq, Nat.add_zero, Nat.zero_add]
      refine (weak_frzB 4 rfl rfl (fun f => by simp (maxSteps := 1000000) -implicitDefEqProofs only [go_sem, ↓reduceIte, reduceCtorEq, Nat.reduceEqDiff, Nat.reduceLT, Nat.reduceAdd, Nat.reduceLeDiff, Nat.reduceMul, Nat.reduceSub, Nat.reduceDiv, Nat.reduceMod, Int.reduceToNat, Int.reduceLT, Int.reduceLE, Int.reduceEq, Int.reduceAdd, Int.reduceSub, Int.reduceMul, Int.reduceNeg, Int.reduceTMod, Int.reduceTDiv, Int.reduceMod, Int.reduceDiv, Int.reduceBEq, Int.reduceBNe, Nat.reduceBEq]) rfl).trans ?_
      simp (maxSteps := 1000000) -implicitDefEqProofs only [go_sem, ↓reduceIte, reduceCtorEq, Nat.reduceEqDiff, Nat.reduceLT, Nat.reduceAdd, Nat.reduceLeDiff, Nat.reduceMul, Nat.reduceSub, Nat.reduceDiv, Nat.reduceMod, Int.reduceToNat, Int.reduceLT, Int.reduceLE, Int.reduceEq, Int.reduceAdd, Int.reduceSub, Int.reduceMul, Int.reduceNeg, Int.reduceTMod, Int.reduceTDiv, Int.reduceMod, Int.reduceDiv, Int.reduceBEq, Int.reduceBNe, Nat.reduceBEq, Nat.add_zero, Nat.zero_add]
      refine (weak_frzB 5 rfl rfl (fun f => by simp (maxSteps := 1000000) -implicitDefEqProofs only [go_sem, ↓reduceIte, reduceCtorEq, Nat.reduceEqDiff, Nat.reduceLT, Nat.reduceAdd, Nat.reduceLeDiff, Nat.reduceMul, Nat.reduceSub, Nat.reduceDiv, Nat.reduceMod, Int.reduceToNat, Int.reduceLT, Int.reduceLE, Int.reduceEq, Int.reduceAdd, Int.reduceSub, Int.reduceMul, Int.reduceNeg, Int.reduceTMod, Int.reduceTDiv, Int.reduceMod, Int.reduceDiv, Int.reduceBEq, Int.reduceBNe, Nat.reduceBEq]) rfl).trans ?_
      simp (maxSteps := 1000000) -implicitDefEqProofs only [go_sem, ↓reduceIte, reduceCtorEq, Nat.reduceEqDiff, Nat.reduceLT, Nat.reduceAdd, Nat.reduceLeDiff, Nat.reduceMul, Nat.reduceSub, Nat.reduceDiv, Nat.reduceMod, Int.reduceToNat, Int.reduceLT, Int.reduceLE, Int.reduceEq, Int.reduceAdd, Int.reduceSub, Int.reduceMul, Int.reduceNeg, Int.reduceTMod, Int.reduceTDiv, Int.reduceMod, Int.reduceDiv, Int.reduceBEq, Int.reduceBNe, Nat.reduceBEq, Nat.add_zero, Nat.zero_add]
      refine (weak_frzB 6 rfl rfl (fun f => by simp (maxSteps := 1000000) -implicitDefEqProofs only [go_sem, ↓reduceIte, reduceCtorEq, Nat.reduceEqDiff, Nat.reduceLT, Nat.reduceAdd, Nat.reduceLeDiff, Nat.reduceMul, Nat.reduceSub, Nat.reduceDiv, Nat.reduceMod, Int.reduceToNat, Int.reduceLT, Int.reduceLE, Int.reduceEq, Int.reduceAdd, Int.reduceSub, Int.reduceMul, Int.reduceNeg, Int.reduceTMod, Int.reduceTDiv, Int.reduceMod, Int.reduceDiv, Int.reduceBEq, Int.reduceBNe, Nat.reduceBEq]) rfl).trans ?_
      simp (maxSteps := 1000000) -implicitDefEqProofs only [go_sem, ↓reduceIte, reduceCtorEq, Nat.reduceEqDiff, Nat.reduceLT, Nat.reduceAdd, Nat.reduceLeDiff, Nat.reduceMul, Nat.reduceSub, Nat.reduceDiv, Nat.reduceMod, Int.reduceToNat, Int.reduceLT, Int.reduceLE, Int.reduceEq, Int.reduceAdd, Int.reduceSub, Int.reduceMul, Int.reduceNeg, Int.reduceTMod, Int.reduceTDiv, Int.reduceMod, Int.reduceDiv, Int.reduceBEq, Int.reduceBNe, Nat.reduceBEq, Nat.add_zero, Nat.zero_add]
      refine (weak_frzB 1 rfl rfl (fun f => by simp (maxSteps := 1000000) -implicitDefEqProofs only [go_sem, ↓reduceIte, reduceCtorEq, Nat.reduceEqDiff, Nat.reduceLT, Nat.reduceAdd, Nat.reduceLeDiff, Nat.reduceMul, Nat.reduceSub, Nat.reduceDiv, Nat.reduceMod, Int.reduceToNat, Int.reduceLT, Int.reduceLE, Int.reduceEq, Int.reduceAdd, Int.reduceSub, Int.reduceMul, Int.reduceNeg, Int.reduceTMod, Int.reduceTDiv, Int.reduceMod, Int.reduceDiv, Int.reduceBEq, Int.reduceBNe, Nat.reduceBEq]) rfl).trans ?_
      simp (maxSteps := 1000000) -implicitDefEqProofs only [go_sem, ↓reduceIte, reduceCtorEq, Nat.reduceEqDiff, Nat.reduceLT, Nat.reduceAdd, Nat.reduceLeDiff, Nat.reduceMul, Nat.reduceSub, Nat.reduceDiv, Nat.reduceMod, Int.reduceToNat, Int.reduceLT, Int.reduceLE, Int.reduceEq, Int.reduceAdd, Int.reduceSub, Int.reduceMul, Int.reduceNeg, Int.reduceTMod, Int.reduceTDiv, Int.reduceMod, Int.reduceDiv, Int.reduceBEq, Int.reduceBNe, Nat.reduceBEq, Nat.add_zero, Nat.zero_add]
      
      exact Weak.refl _
    have hwr := wrote_pc w (fun c hc => by have := hM.wf c hc; unfold near at this; unfold far; omega) hM.wn (by have := hM.wl; omega)
    simp only [wkF] at hwr
    have e2 : IntKind.i64.wrap ((t.length : Int) - 2) = ((t.length - 2 : Nat) : Int) := by rw [wrap64 (by omega) (by omega)]; omega
    have g2 := get_tA t (t.length - 2) (by omega)
    have hl2 : (((t.length - 2 : Nat) : Int) < (t.length : Int)) = True := eq_true (by omega)
    simp (maxSteps := 1000000) -implicitDefEqProofs only [go_sem, ↓reduceIte, reduceCtorEq, Nat.reduceEqDiff, Nat.reduceLT, Nat.reduceAdd, Nat.reduceLeDiff, Nat.reduceMul, Nat.reduceSub, Nat.reduceDiv, Nat.reduceMod, Int.reduceToNat, Int.reduceLT, Int.reduceLE, Int.reduceEq, Int.reduceAdd, Int.reduceSub, Int.reduceMul, Int.reduceNeg, Int.reduceTMod, Int.reduceTDiv, Int.reduceMod, Int.reduceDiv, Int.reduceBEq, Int.reduceBNe, Nat.reduceBEq, wkF]
    (repeat' (first | exact trivial | contradiction | exact ⟨_, rfl⟩ | refine And.intro ?_ ?_ | (show (_ : Nat) ≤ _; omega) | (show (_ : Nat) < _; omega) | (show (_ : Int) ≤ _; omega) | (show (_ : Int) < _; omega)  | (refine wait_draw 1000 mixed (by decide +kernel) ?_; simp (maxSteps := 1000000) -implicitDefEqProofs only [go_sem, ↓reduceIte, reduceCtorEq, Nat.reduceEqDiff, Nat.reduceLT, Nat.reduceAdd, Nat.reduceLeDiff, Nat.reduceMul, Nat.reduceSub, Nat.reduceDiv, Nat.reduceMod, Int.reduceToNat, Int.reduceLT, Int.reduceLE, Int.reduceEq, Int.reduceAdd, Int.reduceSub, Int.reduceMul, Int.reduceNeg, Int.reduceTMod, Int.reduceTDiv, Int.reduceMod, Int.reduceDiv, Int.reduceBEq, Int.reduceBNe, Nat.reduceBEq, tA, e2, g2, hl2]) | (refine call_eq 1000 (hwr) ?_ ?_ rfl; (focus (simp (maxSteps := 1000000) -implicitDefEqProofs only [go_sem, ↓reduceIte, reduceCtorEq, Nat.reduceEqDiff, Nat.reduceLT, Nat.reduceAdd, Nat.reduceLeDiff, Nat.reduceMul, Nat.reduceSub, Nat.reduceDiv, Nat.reduceMod, Int.reduceToNat, Int.reduceLT, Int.reduceLE, Int.reduceEq, Int.reduceAdd, Int.reduceSub, Int.reduceMul, Int.reduceNeg, Int.reduceTMod, Int.reduceTDiv, Int.reduceMod, Int.reduceDiv, Int.reduceBEq, Int.reduceBNe, Nat.reduceBEq, tA, e2, g2, hl2]; done)); simp (maxSteps := 1000000) -implicitDefEqProofs only [go_sem, ↓reduceIte, reduceCtorEq, Nat.reduceEqDiff, Nat.reduceLT, Nat.reduceAdd, Nat.reduceLeDiff, Nat.reduceMul, Nat.reduceSub, Nat.reduceDiv, Nat.reduceMod, Int.reduceToNat, Int.reduceLT, Int.reduceLE, Int.reduceEq, Int.reduceAdd, Int.reduceSub, Int.reduceMul, Int.reduceNeg, Int.reduceTMod, Int.reduceTDiv, Int.reduceMod, Int.reduceDiv, Int.reduceBEq, Int.reduceBNe, Nat.reduceBEq, tA, e2, g2, hl2]) | (refine call_draw 1000 (hwr) ?_ ?_; (focus (simp (maxSteps := 1000000) -implicitDefEqProofs only [go_sem, ↓reduceIte, reduceCtorEq, Nat.reduceEqDiff, Nat.reduceLT, Nat.reduceAdd, Nat.reduceLeDiff, Nat.reduceMul, Nat.reduceSub, Nat.reduceDiv, Nat.reduceMod, Int.reduceToNat, Int.reduceLT, Int.reduceLE, Int.reduceEq, Int.reduceAdd, Int.reduceSub, Int.reduceMul, Int.reduceNeg, Int.reduceTMod, Int.reduceTDiv, Int.reduceMod, Int.reduceDiv, Int.reduceBEq, Int.reduceBNe, Nat.reduceBEq, tA, e2, g2, hl2]; done)); simp (maxSteps := 1000000) -implicitDefEqProofs only [go_sem, ↓reduceIte, reduceCtorEq, Nat.reduceEqDiff, Nat.reduceLT, Nat.reduceAdd, Nat.reduceLeDiff, Nat.reduceMul, Nat.reduceSub, Nat.reduceDiv, Nat.reduceMod, Int.reduceToNat, Int.reduceLT, Int.reduceLE, Int.reduceEq, Int.reduceAdd, Int.reduceSub, Int.reduceMul, Int.reduceNeg, Int.reduceTMod, Int.reduceTDiv, Int.reduceMod, Int.reduceDiv, Int.reduceBEq, Int.reduceBNe, Nat.reduceBEq, tA, e2, g2, hl2]) | intro _))
    obtain ⟨rd, hrd⟩ : ∃ rd, rd = w.road := ⟨_, rfl⟩
    have hrn := hM.rn
    have hrl := hM.rl
    have hrf := hM.rf
    rw [← hrd] at hrn hrl hrf
    have hbn : ((rd.map bare0).map Prod.fst).Nodup := by rw [List.map_map]; exact hrn
    refine wait_data (fun p : List (Pl × Bool) × List Ce => ⟨57, 0, [(2, .ptr 0 7 0 0), (4, wkF w), (6, .ptr 1 7 0 0), (7, .map 2), (37, .ptr 3 0 0 0)],
        [some (.row 46 7 [.agg [.v (.slice none 0 0), .v (.slice none 0 0), .v (.int .i64 0), .v (.bool false), .v (.int .i64 0), .v (.int .i64 0), .v (.int .i64 0)]]),
         some (.row 46 7 [.agg [.fsl 3 (ceL (sortC (w.wrote.filter nz))), .v (.slice none 0 0), .v (.int .i64 w.long), .v (.bool (t.getD (t.length - 2) 0 == 3)), .v (.int .i64 0), .v (.int .i64 0), .v (.int .i64 0)]]),
         some (.mp (mE iA p.2)), some (.it [] (mK p.1) (mV bA p.1))]⟩)
      (fun p => (p.1.map bare0 ++ p.2).Perm (rd.map bare0)) (fun p => p.1.length) (rd, []) (weak_to [2, 4, 6, 7, 37] [0, 7, 8, 9] ?_ (by simp) (fun i h => by cases h)) (by simp) ?_
    · simp (maxSteps := 1000000) -implicitDefEqProofs only [go_sem, ↓reduceIte, reduceCtorEq, Nat.reduceEqDiff, Nat.reduceLT, Nat.reduceAdd, Nat.reduceLeDiff, Nat.reduceMul, Nat.reduceSub, Nat.reduceDiv, Nat.reduceMod, Int.reduceToNat, Int.reduceLT, Int.reduceLE, Int.reduceEq, Int.reduceAdd, Int.reduceSub, Int.reduceMul, Int.reduceNeg, Int.reduceTMod, Int.reduceTDiv, Int.reduceMod, Int.reduceDiv, Int.reduceBEq, Int.reduceBNe, Nat.reduceBEq, St.keep, wkF, ← hrd]
      rfl
    rintro ⟨L, M⟩ hp
    simp only at hp
    refine run_sound 1000 _ _ ?_
    simp (maxSteps := 1000000) -implicitDefEqProofs only [go_sem, ↓reduceIte, reduceCtorEq, Nat.reduceEqDiff, Nat.reduceLT, Nat.reduceAdd, Nat.reduceLeDiff, Nat.reduceMul, Nat.reduceSub, Nat.reduceDiv, Nat.reduceMod, Int.reduceToNat, Int.reduceLT, Int.reduceLE, Int.reduceEq, Int.reduceAdd, Int.reduceSub, Int.reduceMul, Int.reduceNeg, Int.reduceTMod, Int.reduceTDiv, Int.reduceMod, Int.reduceDiv, Int.reduceBEq, Int.reduceBNe, Nat.reduceBEq]
    refine next_t 0 (id := 3) rfl rfl (fun h0 => ?_) (fun q hq => ?_)
    · have hL : L = [] := by cases L with | nil => rfl | cons a b => simp [mK] at h0
      subst hL
      have hMp : M.Perm (rd.map bare0) := by simpa using hp
      have hMl : M.length < 1000000000000 := by have := hMp.length_eq; rw [List.length_map] at this; omega
      have hMb : ∀ c ∈ M, far c := fun c hc => by
        obtain ⟨d, hd, rfl⟩ := List.mem_map.1 (hMp.mem_iff.1 hc)
        have := hrf d hd; unfold near at this; unfold far bare0; simp only; omega
      have hMn : (M.map Prod.fst).Nodup := (hMp.map _).nodup_iff.2 hbn
      have hsp := sorted_pc M hMb hMn hMl
      rw [sortC_congr hMp hbn] at hsp
      have hcl := cell_pc w.s.x w.s.y 0
      have hpm : progMade t = (⟨sortC (w.wrote.filter nz), sortC (rd.map bare0), w.long, cop t, if cop t = true then ((w.s.x, w.s.y), 0) else ((0, 0), 0)⟩, 0) := by
        unfold progMade; simp only [hpw, if_true, hrd]
      rw [hpm]
      refine run_weak 1000 (weak_frzB 2 (st' := ⟨57, 0, [(38, .tup [.v (.bool false)]), (2, .ptr 0 7 0 0), (4, wkF w), (6, .ptr 1 7 0 0), (7, .fmap (mK M) (mV iA M)), (37, .ptr 3 0 0 0)],
        [some (.row 46 7 [.agg [.v (.slice none 0 0), .v (.slice none 0 0), .v (.int .i64 0), .v (.bool false), .v (.int .i64 0), .v (.int .i64 0), .v (.int .i64 0)]]),
         some (.row 46 7 [.agg [.fsl 3 (ceL (sortC (w.wrote.filter nz))), .v (.slice none 0 0), .v (.int .i64 w.long), .v (.bool (t.getD (t.length - 2) 0 == 3)), .v (.int .i64 0), .v (.int .i64 0), .v (.int .i64 0)]]),
         none, some (.it [] (mK ([] : List (Pl × Bool))) (mV bA ([] : List (Pl × Bool))))]⟩) rfl rfl (fun f => by simp (maxSteps := 1000000) -implicitDefEqProofs only [go_sem, ↓reduceIte, reduceCtorEq, Nat.reduceEqDiff, Nat.reduceLT, Nat.reduceAdd, Nat.reduceLeDiff, Nat.reduceMul, Nat.reduceSub, Nat.reduceDiv, Nat.reduceMod, Int.reduceToNat, Int.reduceLT, Int.reduceLE, Int.reduceEq, Int.reduceAdd, Int.reduceSub, Int.reduceMul, Int.reduceNeg, Int.reduceTMod, Int.reduceTDiv, Int.reduceMod, Int.reduceDiv, Int.reduceBEq, Int.reduceBNe, Nat.reduceBEq]) ?_) ?_
      · simp (maxSteps := 1000000) -implicitDefEqProofs only [go_sem, ↓reduceIte, reduceCtorEq, Nat.reduceEqDiff, Nat.reduceLT, Nat.reduceAdd, Nat.reduceLeDiff, Nat.reduceMul, Nat.reduceSub, Nat.reduceDiv, Nat.reduceMod, Int.reduceToNat, Int.reduceLT, Int.reduceLE, Int.reduceEq, Int.reduceAdd, Int.reduceSub, Int.reduceMul, Int.reduceNeg, Int.reduceTMod, Int.reduceTDiv, Int.reduceMod, Int.reduceDiv, Int.reduceBEq, Int.reduceBNe, Nat.reduceBEq, wkF]
      obtain ⟨cb, hcb⟩ : ∃ cb, cb = (t.getD (t.length - 2) 0 == 3) := ⟨_, rfl⟩
      have hcop : cop t = cb := hcb.symm
      rw [← hcb, hcop]
      cases cb
      all_goals
        simp (maxSteps := 1000000) -implicitDefEqProofs only [go_sem, ↓reduceIte, reduceCtorEq, Nat.reduceEqDiff, Nat.reduceLT, Nat.reduceAdd, Nat.reduceLeDiff, Nat.reduceMul, Nat.reduceSub, Nat.reduceDiv, Nat.reduceMod, Int.reduceToNat, Int.reduceLT, Int.reduceLE, Int.reduceEq, Int.reduceAdd, Int.reduceSub, Int.reduceMul, Int.reduceNeg, Int.reduceTMod, Int.reduceTDiv, Int.reduceMod, Int.reduceDiv, Int.reduceBEq, Int.reduceBNe, Nat.reduceBEq, wkF]
        (repeat' (first | exact trivial | contradiction | exact ⟨_, rfl⟩ | refine And.intro ?_ ?_ | (show (_ : Nat) ≤ _; omega) | (show (_ : Nat) < _; omega) | (show (_ : Int) ≤ _; omega) | (show (_ : Int) < _; omega)  | (refine wait_draw 1000 mixed (by decide +kernel) ?_; simp (maxSteps := 1000000) -implicitDefEqProofs only [go_sem, ↓reduceIte, reduceCtorEq, Nat.reduceEqDiff, Nat.reduceLT, Nat.reduceAdd, Nat.reduceLeDiff, Nat.reduceMul, Nat.reduceSub, Nat.reduceDiv, Nat.reduceMod, Int.reduceToNat, Int.reduceLT, Int.reduceLE, Int.reduceEq, Int.reduceAdd, Int.reduceSub, Int.reduceMul, Int.reduceNeg, Int.reduceTMod, Int.reduceTDiv, Int.reduceMod, Int.reduceDiv, Int.reduceBEq, Int.reduceBNe, Nat.reduceBEq]) | (refine call_eq 1000 (hsp) ?_ ?_ rfl; (focus (simp (maxSteps := 1000000) -implicitDefEqProofs only [go_sem, ↓reduceIte, reduceCtorEq, Nat.reduceEqDiff, Nat.reduceLT, Nat.reduceAdd, Nat.reduceLeDiff, Nat.reduceMul, Nat.reduceSub, Nat.reduceDiv, Nat.reduceMod, Int.reduceToNat, Int.reduceLT, Int.reduceLE, Int.reduceEq, Int.reduceAdd, Int.reduceSub, Int.reduceMul, Int.reduceNeg, Int.reduceTMod, Int.reduceTDiv, Int.reduceMod, Int.reduceDiv, Int.reduceBEq, Int.reduceBNe, Nat.reduceBEq]; done)); simp (maxSteps := 1000000) -implicitDefEqProofs only [go_sem, ↓reduceIte, reduceCtorEq, Nat.reduceEqDiff, Nat.reduceLT, Nat.reduceAdd, Nat.reduceLeDiff, Nat.reduceMul, Nat.reduceSub, Nat.reduceDiv, Nat.reduceMod, Int.reduceToNat, Int.reduceLT, Int.reduceLE, Int.reduceEq, Int.reduceAdd, Int.reduceSub, Int.reduceMul, Int.reduceNeg, Int.reduceTMod, Int.reduceTDiv, Int.reduceMod, Int.reduceDiv, Int.reduceBEq, Int.reduceBNe, Nat.reduceBEq]) | (refine call_draw 1000 (hsp) ?_ ?_; (focus (simp (maxSteps := 1000000) -implicitDefEqProofs only [go_sem, ↓reduceIte, reduceCtorEq, Nat.reduceEqDiff, Nat.reduceLT, Nat.reduceAdd, Nat.reduceLeDiff, Nat.reduceMul, Nat.reduceSub, Nat.reduceDiv, Nat.reduceMod, Int.reduceToNat, Int.reduceLT, Int.reduceLE, Int.reduceEq, Int.reduceAdd, Int.reduceSub, Int.reduceMul, Int.reduceNeg, Int.reduceTMod, Int.reduceTDiv, Int.reduceMod, Int.reduceDiv, Int.reduceBEq, Int.reduceBNe, Nat.reduceBEq]; done)); simp (maxSteps := 1000000) -implicitDefEqProofs only [go_sem, ↓reduceIte, reduceCtorEq, Nat.reduceEqDiff, Nat.reduceLT, Nat.reduceAdd, Nat.reduceLeDiff, Nat.reduceMul, Nat.reduceSub, Nat.reduceDiv, Nat.reduceMod, Int.reduceToNat, Int.reduceLT, Int.reduceLE, Int.reduceEq, Int.reduceAdd, Int.reduceSub, Int.reduceMul, Int.reduceNeg, Int.reduceTMod, Int.reduceTDiv, Int.reduceMod, Int.reduceDiv, Int.reduceBEq, Int.reduceBNe, Nat.reduceBEq]) | (refine call_eq 1000 (hcl) ?_ ?_ rfl; (focus (simp (maxSteps := 1000000) -implicitDefEqProofs only [go_sem, ↓reduceIte, reduceCtorEq, Nat.reduceEqDiff, Nat.reduceLT, Nat.reduceAdd, Nat.reduceLeDiff, Nat.reduceMul, Nat.reduceSub, Nat.reduceDiv, Nat.reduceMod, Int.reduceToNat, Int.reduceLT, Int.reduceLE, Int.reduceEq, Int.reduceAdd, Int.reduceSub, Int.reduceMul, Int.reduceNeg, Int.reduceTMod, Int.reduceTDiv, Int.reduceMod, Int.reduceDiv, Int.reduceBEq, Int.reduceBNe, Nat.reduceBEq]; done)); simp (maxSteps := 1000000) -implicitDefEqProofs only [go_sem, ↓reduceIte, reduceCtorEq, Nat.reduceEqDiff, Nat.reduceLT, Nat.reduceAdd, Nat.reduceLeDiff, Nat.reduceMul, Nat.reduceSub, Nat.reduceDiv, Nat.reduceMod, Int.reduceToNat, Int.reduceLT, Int.reduceLE, Int.reduceEq, Int.reduceAdd, Int.reduceSub, Int.reduceMul, Int.reduceNeg, Int.reduceTMod, Int.reduceTDiv, Int.reduceMod, Int.reduceDiv, Int.reduceBEq, Int.reduceBNe, Nat.reduceBEq]) | (refine call_draw 1000 (hcl) ?_ ?_; (focus (simp (maxSteps := 1000000) -implicitDefEqProofs only [go_sem, ↓reduceIte, reduceCtorEq, Nat.reduceEqDiff, Nat.reduceLT, Nat.reduceAdd, Nat.reduceLeDiff, Nat.reduceMul, Nat.reduceSub, Nat.reduceDiv, Nat.reduceMod, Int.reduceToNat, Int.reduceLT, Int.reduceLE, Int.reduceEq, Int.reduceAdd, Int.reduceSub, Int.reduceMul, Int.reduceNeg, Int.reduceTMod, Int.reduceTDiv, Int.reduceMod, Int.reduceDiv, Int.reduceBEq, Int.reduceBNe, Nat.reduceBEq]; done)); simp (maxSteps := 1000000) -implicitDefEqProofs only [go_sem, ↓reduceIte, reduceCtorEq, Nat.reduceEqDiff, Nat.reduceLT, Nat.reduceAdd, Nat.reduceLeDiff, Nat.reduceMul, Nat.reduceSub, Nat.reduceDiv, Nat.reduceMod, Int.reduceToNat, Int.reduceLT, Int.reduceLE, Int.reduceEq, Int.reduceAdd, Int.reduceSub, Int.reduceMul, Int.reduceNeg, Int.reduceTMod, Int.reduceTDiv, Int.reduceMod, Int.reduceDiv, Int.reduceBEq, Int.reduceBNe, Nat.reduceBEq]) | intro _))
        all_goals exact Le.refl _
    · rw [mK_len] at hq
      have gk := mK_get L q hq
      have gv := mV_get bA L q hq
      have hpe := perm_erase L q hq
      generalize L.getD q default = e at gk gv hpe
      obtain ⟨⟨x, y⟩, s⟩ := e
      simp only [kA] at gk
      simp only [bA] at gv
      have hlen2 := hpe.length_eq
      rw [List.length_cons] at hlen2
      have hpe2 : ((L.eraseIdx q).map bare0 ++ (M ++ [((x, y), 0)])).Perm (rd.map bare0) := by
        rw [← List.append_assoc]
        exact ((List.perm_append_singleton _ _).trans (List.Perm.append_right M (hpe.map bare0))).trans hp
      have hnew : (x, y) ∉ M.map Prod.fst := by
        have h1 : (((L.eraseIdx q).map bare0 ++ (M ++ [((x, y), (0 : Int))])).map Prod.fst).Nodup := (hpe2.map _).nodup_iff.2 hbn
        rw [List.map_append, List.map_append] at h1
        have := (List.nodup_append.1 (List.nodup_append.1 h1).2.1).2.2
        intro h
        exact this _ h _ (by simp) rfl
      refine run_again 1000 ?_
      simp (maxSteps := 1000000) -implicitDefEqProofs only [go_sem, ↓reduceIte, reduceCtorEq, Nat.reduceEqDiff, Nat.reduceLT, Nat.reduceAdd, Nat.reduceLeDiff, Nat.reduceMul, Nat.reduceSub, Nat.reduceDiv, Nat.reduceMod, Int.reduceToNat, Int.reduceLT, Int.reduceLE, Int.reduceEq, Int.reduceAdd, Int.reduceSub, Int.reduceMul, Int.reduceNeg, Int.reduceTMod, Int.reduceTDiv, Int.reduceMod, Int.reduceDiv, Int.reduceBEq, Int.reduceBNe, Nat.reduceBEq, gk, gv, mget_pl]
      (repeat' (first | exact trivial | contradiction | exact ⟨_, rfl⟩ | refine And.intro ?_ ?_ | (show (_ : Nat) ≤ _; omega) | (show (_ : Nat) < _; omega) | (show (_ : Int) ≤ _; omega) | (show (_ : Int) < _; omega)  | (refine wait_draw 1000 mixed (by decide +kernel) ?_; simp (maxSteps := 1000000) -implicitDefEqProofs only [go_sem, ↓reduceIte, reduceCtorEq, Nat.reduceEqDiff, Nat.reduceLT, Nat.reduceAdd, Nat.reduceLeDiff, Nat.reduceMul, Nat.reduceSub, Nat.reduceDiv, Nat.reduceMod, Int.reduceToNat, Int.reduceLT, Int.reduceLE, Int.reduceEq, Int.reduceAdd, Int.reduceSub, Int.reduceMul, Int.reduceNeg, Int.reduceTMod, Int.reduceTDiv, Int.reduceMod, Int.reduceDiv, Int.reduceBEq, Int.reduceBNe, Nat.reduceBEq , mget_pl]) | intro _))
      refine ⟨(L.eraseIdx q, aput (x, y) 0 M), ?_, ?_, ?_⟩
      · show (L.eraseIdx q).length < L.length; omega
      · show ((L.eraseIdx q).map bare0 ++ aput (x, y) 0 M).Perm (rd.map bare0)
        rw [aput_new hnew]; exact hpe2
      · refine (weak_it 3 rfl).trans (weak_to [2, 4, 6, 7, 37] [0, 1, 2, 3] ?_ (by simp) (fun i h => by cases h))
        simp (maxSteps := 1000000) -implicitDefEqProofs only [go_sem, ↓reduceIte, reduceCtorEq, Nat.reduceEqDiff, Nat.reduceLT, Nat.reduceAdd, Nat.reduceLeDiff, Nat.reduceMul, Nat.reduceSub, Nat.reduceDiv, Nat.reduceMod, Int.reduceToNat, Int.reduceLT, Int.reduceLE, Int.reduceEq, Int.reduceAdd, Int.reduceSub, Int.reduceMul, Int.reduceNeg, Int.reduceTMod, Int.reduceTDiv, Int.reduceMod, Int.reduceDiv, Int.reduceBEq, Int.reduceBNe, Nat.reduceBEq, St.keep, wkF]
end Go.Proofs.Ytiipggfhjkalfaa
