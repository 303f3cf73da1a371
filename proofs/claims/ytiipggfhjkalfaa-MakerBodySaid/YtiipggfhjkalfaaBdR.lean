import Derived.Test.YtiipggfhjkalfaaProg
import Derived.Test.YtiipggfhjkalfaaPmU
import Derived.Test.YtiipggfhjkalfaaBdM
/- The constructor with its tape: the program's Machine. -/
set_option linter.unusedSimpArgs false
set_option linter.unusedVariables false
set_option maxRecDepth 20000
open Go Go.Proofs
namespace Go.Proofs.Ytiipggfhjkalfaa
open Pm
attribute [local irreducible] Wait CallT CallW NextT Le Weak
theorem nodup_tp (w : Nat) (t : List Int) : ∀ k, ((tpL w t k).map Prod.fst).Nodup
  | 0 => nodup_put (nodup_put (bodyL_nodup w))
  | k + 1 => nodup_put (nodup_tp w t k)
/-- The keys are the body's. -/
theorem key_tp {w : Nat} (t : List Int) (h : 6 ≤ w) : ∀ k, k < 2 * w → ∀ p, p ∈ (tpL w t k).map Prod.fst ↔ p ∈ (bodyL w).map Prod.fst
  | 0, _, p => by
    simp only [tpL]
    rw [key_put, key_put]
    constructor
    · rintro (rfl | rfl | h1)
      · rw [agL_key h]; exact .inr ⟨by simp only; omega, .inr rfl⟩
      · rw [agL_key h]; exact .inr (ringP_y h (by omega))
      · exact h1
    · exact fun h1 => .inr (.inr h1)
  | k + 1, hk, p => by
    simp only [tpL]
    rw [key_put, key_tp t h k (by omega) p]
    constructor
    · rintro (rfl | h1)
      · rw [agL_key h]; exact .inr (ringP_y h (by omega))
      · exact h1
    · exact fun h1 => .inr h1
/-- The join's place on the ring. -/
def joinK (w : Nat) : Nat := 2 * (w - 1 - (w - 1) / 2) + 1
theorem join_place {w : Nat} (h : 6 ≤ w) : ringP w (joinK w) = ((((w - 1) / 2 : Nat) : Int), 3) := by
  unfold joinK ringP
  simp only
  rw [if_neg (by omega), if_pos (by omega)]
  simp only [Prod.mk.injEq, and_true]
  omega
/-- What stands at a place of the ring. -/
def tpS (w : Nat) (t : List Int) (k j : Nat) : Int :=
  if j = 0 then setS (yS (ringY w 0)) 5 1 else if j = joinK w then setS (yS (ringY w j)) 5 1 else if 2 * w - k ≤ j then setS (yS (ringY w j)) 3 (t.getD (2 * w - 1 - j) 0) else yS (ringY w j)
theorem ag_tp {w : Nat} (t : List Int) (h : 6 ≤ w) : ∀ k, k + 3 ≤ w → ∀ j, j < 2 * w → aget 0 (ringP w j) (tpL w t k) = tpS w t k j
  | 0, _, j, hj => by
    simp only [tpL]
    rw [← join_place h, aget_put, aget_put, aget_put, ← ring_states h (show 0 < 2 * w by omega), ← ring_states h hj, ← ring_states h (show joinK w < 2 * w by unfold joinK; omega)]
    unfold tpS
    by_cases h1 : j = joinK w
    · have h0 : ¬ j = 0 := by unfold joinK at h1; omega
      have h2 : ¬ ringP w (joinK w) = ringP w 0 := fun e => by
        have := ringP_inj h (by unfold joinK; omega) (by omega) e
        unfold joinK at this; omega
      rw [if_pos (by rw [h1]), if_neg h2, if_neg h0, if_pos h1, h1]
    · have h2 : ¬ ringP w j = ringP w (joinK w) := fun e => h1 (ringP_inj h hj (by unfold joinK; omega) e)
      rw [if_neg h2]
      by_cases h0 : j = 0
      · rw [if_pos (by rw [h0]), if_pos h0]
      · rw [if_neg (fun e => h0 (ringP_inj h hj (by omega) e)), if_neg h0, if_neg h1, if_neg (by omega)]
  | k + 1, hk, j, hj => by
    simp only [tpL]
    rw [aget_put, ag_tp t h k (by omega) j hj, ag_tp t h k (by omega) _ (by omega)]
    by_cases h1 : j = 2 * w - 1 - k
    · rw [if_pos (by rw [h1])]
      unfold tpS joinK
      rw [if_neg (by omega), if_neg (by omega), if_neg (by omega), if_neg (by omega), if_neg (by omega), if_pos (by omega), ← h1, show 2 * w - 1 - j = k by omega]
    · rw [if_neg (fun e => h1 (ringP_inj h hj (by omega) e))]
      unfold tpS
      by_cases h0 : j = 0
      · rw [if_pos h0, if_pos h0]
      rw [if_neg h0, if_neg h0]
      by_cases h2 : j = joinK w
      · rw [if_pos h2, if_pos h2]
      rw [if_neg h2, if_neg h2]
      by_cases h3 : 2 * w - k ≤ j
      · rw [if_pos h3, if_pos (by omega)]
      · rw [if_neg h3, if_neg (by omega)]
end Go.Proofs.Ytiipggfhjkalfaa
/- The constructor with its tape: the program's Machine. -/
set_option linter.unusedSimpArgs false
set_option linter.unusedVariables false
set_option maxRecDepth 20000
open Go Go.Proofs
namespace Go.Proofs.Ytiipggfhjkalfaa
open Pm
attribute [local irreducible] Wait CallT CallW NextT Le Weak
theorem agL_small {w : Nat} (h : 6 ≤ w) (p : Pl) : aget 0 p (bodyL w) ≤ 9223372036854775807 := by
  obtain ⟨x, y⟩ := p
  rw [agL h]
  have e66 : wS 66 ≤ 9223372036854775807 := by decide +kernel
  have e70 : wS 70 ≤ 9223372036854775807 := by decide +kernel
  have e53 : wS 53 ≤ 9223372036854775807 := by decide +kernel
  have e57 : wS 57 ≤ 9223372036854775807 := by decide +kernel
  have e2 : wS 2 ≤ 9223372036854775807 := by decide +kernel
  have e4 : wS 4 ≤ 9223372036854775807 := by decide +kernel
  have e1 : wS 1 ≤ 9223372036854775807 := by decide +kernel
  have e3 : wS 3 ≤ 9223372036854775807 := by decide +kernel
  repeat' split
  all_goals first | assumption | decide
theorem tp_len (w : Nat) (t : List Int) : ∀ k, (tpL w t k).length ≤ 2 * w + 8 + k
  | 0 => by
    simp only [tpL]
    have h0 := bodyL_len w
    refine Nat.le_trans (len_put _).1 ?_
    refine Nat.le_trans (Nat.add_le_add_right (len_put _).1 1) ?_
    omega
  | k + 1 => by
    simp only [tpL]
    have h0 := tp_len w t k
    refine Nat.le_trans (len_put _).1 ?_
    omega
theorem tp_far {w : Nat} (t : List Int) (h : 6 ≤ w) (h' : w ≤ 4096) {k : Nat} (hk : k < 2 * w) : ∀ c ∈ tpL w t k, far c := fun c hc => by
  have h1 : c.1 ∈ (tpL w t k).map Prod.fst := List.mem_map_of_mem hc
  rw [key_tp t h k hk] at h1
  obtain ⟨d, hd, e⟩ := List.mem_map.1 h1
  have := bodyL_far h h' d hd
  unfold far
  rw [← e]
  omega
theorem filledM_pc (v : Wk) (t : List Int) (h : 3 ≤ t.length) (h' : t.length ≤ 4093) (N : Int) (hN : N = ((2 * (t.length + 3) : Nat) : Int)) :
    PCon Try.prog 59 [abA v t N, .v (.int .i64 0), atA v t N, .v (.func (.func 61) #[] #[])] (· = .fmap (mK (tpL (t.length + 3) t t.length)) (mV iA (tpL (t.length + 3) t t.length))) := by
  subst hN
  have h6 : 6 ≤ t.length + 3 := by omega
  refine filled_pc (t.length + 3) v t h6 (by omega) rfl (agL_small h6) ?_ (fun k hk => ?_)
  · rw [aget_put, ← join_place h6, if_neg (fun e => ?_)]
    · exact agL_small h6 _
    · have := ringP_inj h6 (by unfold joinK; omega) (by omega) e
      unfold joinK at this; omega
  · rw [ag_tp t h6 k (by omega) _ (by omega)]
    unfold tpS joinK
    rw [if_neg (by omega), if_neg (by omega), if_neg (by omega), ring_states h6 (by omega)]
    exact agL_small h6 _
def machE (t : List Int) : List Ce × Int := if tellE t = 0 then (sortC (tpL (t.length + 3) t t.length), 0) else ([], tellE t)
theorem machine_pc (t : List Int) (hm : t.length < 9223372036854775808) : PCon Try.prog 27 [tA t] (· = .tup [.fsl 3 (ceL (machE t).1), .v (.int .i64 (machE t).2)]) := by
  refine PCon.upto (pcon_run 1000 Try.func27 rfl Try.results27 Try.ntmps27 (Nat.le_of_ble_eq_true rfl) ?_)
  obtain ⟨N, hN⟩ : ∃ N : Int, N = ((2 * (t.length + 3) : Nat) : Int) := ⟨_, rfl⟩
  have tp := tell_pc t N (by omega) hm
  simp (maxSteps := 1000000) -implicitDefEqProofs only [go_sem, ↓reduceIte, reduceCtorEq, Nat.reduceEqDiff, Nat.reduceLT, Nat.reduceAdd, Nat.reduceLeDiff, tA]
  refine call_pure 0 tp ?_ rfl ?_
  · simp (maxSteps := 1000000) -implicitDefEqProofs only [go_sem, ↓reduceIte, reduceCtorEq, Nat.reduceEqDiff, Nat.reduceLT, Nat.reduceAdd, Nat.reduceLeDiff, tA]
  rintro r (⟨he, rfl⟩ | ⟨he, rfl⟩)
  · have hpm : machE t = ([], tellE t) := by unfold machE; rw [if_neg he]
    have hf : (tellE t = 0) = False := eq_false he
    rw [hpm]
    refine run_again 1000 ?_
    simp (maxSteps := 1000000) -implicitDefEqProofs only [go_sem, ↓reduceIte, reduceCtorEq, Nat.reduceEqDiff, Nat.reduceLT, Nat.reduceAdd, Nat.reduceLeDiff, ab0, tA, hf]
    exact Le.tup (.cons (Le.nil 3) (LeL.refl _))
  · have hpm : machE t = (sortC (tpL (t.length + 3) t t.length), 0) := by unfold machE; rw [if_pos he]
    obtain ⟨_, h2, _, h4⟩ := tell_ok he
    have fc := filledM_pc (progWalk t).2 t h4 h2 N hN
    have sc := sorted_pc (tpL (t.length + 3) t t.length) (tp_far t (by omega) (by omega) (by omega)) (nodup_tp _ _ _) (by have := tp_len (t.length + 3) t t.length; omega)
    rw [hpm]
    generalize tpL (t.length + 3) t t.length = M at fc sc ⊢
    generalize (progWalk t).2 = v at fc ⊢
    simp only [abA_eq, abC, atA, tA] at fc
    refine run_again 6 ?_
    simp (maxSteps := 1000000) -implicitDefEqProofs only [go_sem, ↓reduceIte, reduceCtorEq, Nat.reduceEqDiff, Nat.reduceLT, Nat.reduceAdd, Nat.reduceLeDiff, abA_eq, abC, tA]
    refine run_weak 1000 (weak_frzB 0 rfl rfl (fun f => by simp (maxSteps := 1000000) -implicitDefEqProofs only [go_sem, ↓reduceIte, reduceCtorEq, Nat.reduceEqDiff, Nat.reduceLT, Nat.reduceAdd, Nat.reduceLeDiff]) rfl) ?_
    simp (maxSteps := 1000000) -implicitDefEqProofs only [go_sem, ↓reduceIte, reduceCtorEq, Nat.reduceEqDiff, Nat.reduceLT, Nat.reduceAdd, Nat.reduceLeDiff]
    (repeat' (first | exact trivial | contradiction | exact ⟨_, rfl⟩ | refine And.intro ?_ ?_ | ((first | show (_ : Nat) ≤ _ | show (_ : Nat) < _ | show (_ : Int) ≤ _ | show (_ : Int) < _); omega) | (refine wait_draw 1000 mixed (by decide +kernel) ?_; simp (maxSteps := 1000000) -implicitDefEqProofs only [go_sem, ↓reduceIte, reduceCtorEq, Nat.reduceEqDiff, Nat.reduceLT, Nat.reduceAdd, Nat.reduceLeDiff]) | ((first | refine call_eq 1000 (fc) ?_ ?_ rfl | refine call_draw 1000 (fc) ?_ ?_ | refine call_eq 1000 (sc) ?_ ?_ rfl | refine call_draw 1000 (sc) ?_ ?_); (focus (simp (maxSteps := 1000000) -implicitDefEqProofs only [go_sem, ↓reduceIte, reduceCtorEq, Nat.reduceEqDiff, Nat.reduceLT, Nat.reduceAdd, Nat.reduceLeDiff]; done)); simp (maxSteps := 1000000) -implicitDefEqProofs only [go_sem, ↓reduceIte, reduceCtorEq, Nat.reduceEqDiff, Nat.reduceLT, Nat.reduceAdd, Nat.reduceLeDiff]) | intro _))
    all_goals exact Le.refl _
end Go.Proofs.Ytiipggfhjkalfaa
/- The constructor with its tape: the document's ring, begin, copies. -/
set_option linter.unusedSimpArgs false
set_option linter.unusedVariables false
set_option maxRecDepth 20000
open Go Go.Proofs
namespace Go.Proofs.Ytiipggfhjkalfaa
open Pm
attribute [local irreducible] Wait CallT CallW NextT Le Weak
theorem rrg_pc (t : List Int) (hl : t.length ≤ 1000000) (N : Int) (hN : N = 2 * (t.length : Int) + 6) : PCon Try.prog 57 [tA t] (· = .v (.int .i64 N)) := by
  refine pcon_run 1000 Try.func57 rfl Try.results57 Try.ntmps57 (Nat.le_of_ble_eq_true rfl) ?_
  have e1 : IntKind.i64.wrap (2 * (t.length : Int)) = N - 6 := by rw [wrap64 (by omega) (by omega)]; omega
  have e2 : IntKind.i64.wrap (N - 6 + 6) = N := by rw [wrap64 (by omega) (by omega)]; omega
  simp (maxSteps := 1000000) -implicitDefEqProofs only [go_sem, ↓reduceIte, reduceCtorEq, Nat.reduceEqDiff, Nat.reduceLT, Nat.reduceAdd, Nat.reduceLeDiff, tA, e1, e2]
theorem rcopies_pc (t : List Int) (h : 3 ≤ t.length) (hm : t.length < 9223372036854775808) : PCon Try.prog 66 [tA t] (· = .v (.bool (cop t))) := by
  refine pcon_run 1000 Try.func66 rfl Try.results66 Try.ntmps66 (Nat.le_of_ble_eq_true rfl) ?_
  have e2 : IntKind.i64.wrap ((t.length : Int) - 2) = ((t.length - 2 : Nat) : Int) := by rw [wrap64 (by omega) (by omega)]; omega
  have g2 := get_tA t (t.length - 2) (by omega)
  have hl2 : (((t.length - 2 : Nat) : Int) < (t.length : Int)) = True := eq_true (by omega)
  have hc : (t.getD (t.length - 2) 0 == 3) = cop t := rfl
  simp (maxSteps := 1000000) -implicitDefEqProofs only [go_sem, ↓reduceIte, reduceCtorEq, Nat.reduceEqDiff, Nat.reduceLT, Nat.reduceAdd, Nat.reduceLeDiff, tA, e2, g2, hl2, hc]
theorem bl_fzL (h : List (Option Blk)) (l : List Bool) : fzL h (l.map bA) = l.map bA := by rw [fzL_eq, List.map_map]; exact List.map_congr_left fun b _ => by simp only [Function.comp, bA, fz_v]
attribute [go_sem] bl_fzL
def rk0 : Rk := ⟨[], [], [], [], [], [], 0, 0, 0, 0, 0, [], [], []⟩
def begQ (t : List Int) (r : AV) : Prop := (tellE t ≠ 0 ∧ ∃ w T, r = .tup [rkV w T, .v (.int .i64 (tellE t))]) ∨ (tellE t = 0 ∧ ∃ T, r = .tup [rkV (refWalk t).2 T, .v (.int .i64 0)])
theorem beg_zero (e : Int) : Le (.tup [.agg [.v (.slice none 0 0), .v (.slice none 0 0), .v (.slice none 0 0), .v (.slice none 0 0), .v (.slice none 0 0), .v (.slice none 0 0), .v (.slice none 0 0), .v (.slice none 0 0), .v (.int .i64 0), .v (.int .i64 0), .v (.int .i64 0), .v (.int .i64 0), .v (.int .i64 0), .v (.slice none 0 0), .v (.slice none 0 0), .v (.slice none 0 0)], .v (.int .i64 e)]) (.tup [rkV rk0 [], .v (.int .i64 e)]) := by
  refine Le.tup (.cons (Le.agg ?_) (LeL.refl _))
  refine .cons (Le.nil 1) ?_
  refine .cons (Le.nil 1) ?_
  refine .cons (Le.nil 1) ?_
  refine .cons (Le.nil 1) ?_
  refine .cons (Le.nil 1) ?_
  refine .cons (Le.nil 1) ?_
  refine .cons (Le.nil 1) ?_
  refine .cons (Le.nil 1) ?_
  
  refine .cons (Le.refl _) ?_
  refine .cons (Le.refl _) ?_
  refine .cons (Le.refl _) ?_
  refine .cons (Le.refl _) ?_
  refine .cons (Le.refl _) ?_
  
  exact .cons (Le.nil 1) (.cons (Le.nil 1) (.cons (Le.nil 1) .nil))
theorem begin_pc (t : List Int) (hm : t.length < 9223372036854775808) : PCon Try.prog 56 [tA t] (begQ t) := by
  refine PCon.lift (pcon_run 1000 Try.func56 rfl Try.results56 Try.ntmps56 (Nat.le_of_ble_eq_true rfl) ?_)
  have ck := refCheck_pc t hm
  by_cases hc : checkE t = 0
  · have hh : headB t = true := by
      cases h : headB t with
      | true => rfl
      | false => rw [checkE_head h] at hc; cases hc
    have hlen : 3 ≤ t.length ∧ t.length ≤ 4096 := by simp only [headB, decide_eq_true_eq] at hh; omega
    obtain ⟨N, hN⟩ : ∃ N : Int, N = 2 * (t.length : Int) + 6 := ⟨_, rfl⟩
    have rg := rrg_pc t (by omega) N hN
    rw [hc] at ck
    by_cases hbig : 4093 < t.length
    · have h1 : (8192 < N) = True := eq_true (by omega)
      have hE : tellE t = 73 := by unfold tellE; rw [if_neg (by rw [hc]; decide), if_pos hbig]
      simp (maxSteps := 1000000) -implicitDefEqProofs only [go_sem, ↓reduceIte, reduceCtorEq, Nat.reduceEqDiff, Nat.reduceLT, Nat.reduceAdd, Nat.reduceLeDiff, tA, iA] at ck rg ⊢
      (repeat' (first | exact trivial | contradiction | exact ⟨_, rfl⟩ | refine And.intro ?_ ?_ | ((first | show (_ : Nat) ≤ _ | show (_ : Nat) < _ | show (_ : Int) ≤ _ | show (_ : Int) < _); omega) | (refine wait_draw 1000 mixed (by decide +kernel) ?_; simp (maxSteps := 1000000) -implicitDefEqProofs only [go_sem, ↓reduceIte, reduceCtorEq, Nat.reduceEqDiff, Nat.reduceLT, Nat.reduceAdd, Nat.reduceLeDiff, tA, iA, h1]) | ((first | refine call_eq 1000 (ck) ?_ ?_ rfl | refine call_draw 1000 (ck) ?_ ?_ | refine call_eq 1000 (rg) ?_ ?_ rfl | refine call_draw 1000 (rg) ?_ ?_); (focus (simp (maxSteps := 1000000) -implicitDefEqProofs only [go_sem, ↓reduceIte, reduceCtorEq, Nat.reduceEqDiff, Nat.reduceLT, Nat.reduceAdd, Nat.reduceLeDiff, tA, iA, h1]; done)); simp (maxSteps := 1000000) -implicitDefEqProofs only [go_sem, ↓reduceIte, reduceCtorEq, Nat.reduceEqDiff, Nat.reduceLT, Nat.reduceAdd, Nat.reduceLeDiff, tA, iA, h1]) | intro _))
      exact ⟨_, beg_zero 73, .inl ⟨by rw [hE]; decide, _, _, by rw [hE]⟩⟩
    · have h1 : (8192 < N) = False := eq_false (by omega)
      have hE : tellE t = (refWalk t).1 := by unfold tellE; rw [if_neg (by rw [hc]; decide), if_neg hbig, (sim_all t).1]
      have wc := refWalk_pc t hm
      simp only [tA, iA] at ck rg
      simp (maxSteps := 1000000) -implicitDefEqProofs only [go_sem, ↓reduceIte, reduceCtorEq, Nat.reduceEqDiff, Nat.reduceLT, Nat.reduceAdd, Nat.reduceLeDiff, tA, iA]
      (repeat' (first | exact trivial | contradiction | exact ⟨_, rfl⟩ | refine And.intro ?_ ?_ | ((first | show (_ : Nat) ≤ _ | show (_ : Nat) < _ | show (_ : Int) ≤ _ | show (_ : Int) < _); omega) | (refine wait_draw 1000 mixed (by decide +kernel) ?_; simp (maxSteps := 1000000) -implicitDefEqProofs only [go_sem, ↓reduceIte, reduceCtorEq, Nat.reduceEqDiff, Nat.reduceLT, Nat.reduceAdd, Nat.reduceLeDiff, tA, iA, h1]) | ((first | refine call_eq 1000 (ck) ?_ ?_ rfl | refine call_draw 1000 (ck) ?_ ?_ | refine call_eq 1000 (rg) ?_ ?_ rfl | refine call_draw 1000 (rg) ?_ ?_); (focus (simp (maxSteps := 1000000) -implicitDefEqProofs only [go_sem, ↓reduceIte, reduceCtorEq, Nat.reduceEqDiff, Nat.reduceLT, Nat.reduceAdd, Nat.reduceLeDiff, tA, iA, h1]; done)); simp (maxSteps := 1000000) -implicitDefEqProofs only [go_sem, ↓reduceIte, reduceCtorEq, Nat.reduceEqDiff, Nat.reduceLT, Nat.reduceAdd, Nat.reduceLeDiff, tA, iA, h1]) | intro _))
      refine call_pure 0 wc ?_ rfl ?_
      · simp (maxSteps := 1000000) -implicitDefEqProofs only [go_sem, ↓reduceIte, reduceCtorEq, Nat.reduceEqDiff, Nat.reduceLT, Nat.reduceAdd, Nat.reduceLeDiff, tA]
      rintro r (⟨e, w, T, he, hne, rfl⟩ | ⟨he, T, rfl⟩)
      · have hf : (e = 0) = False := eq_false hne
        refine run_again 1000 ?_
        simp (maxSteps := 1000000) -implicitDefEqProofs only [go_sem, ↓reduceIte, reduceCtorEq, Nat.reduceEqDiff, Nat.reduceLT, Nat.reduceAdd, Nat.reduceLeDiff, tA, hf, rkV, rkR]
        exact ⟨_, Le.refl _, .inl ⟨by rw [hE, he]; exact hne, w, T, by rw [hE, he]; rfl⟩⟩
      · obtain ⟨w, hw⟩ : ∃ w, w = (refWalk t).2 := ⟨_, rfl⟩
        rw [← hw]
        refine run_again 1000 ?_
        simp (maxSteps := 1000000) -implicitDefEqProofs only [go_sem, ↓reduceIte, reduceCtorEq, Nat.reduceEqDiff, Nat.reduceLT, Nat.reduceAdd, Nat.reduceLeDiff, tA, rkV, rkR]
        exact ⟨_, Le.refl _, .inr ⟨by rw [hE, he], T, by rw [← hw]; rfl⟩⟩
  · have hf : (checkE t = 0) = False := eq_false hc
    have hE : tellE t = checkE t := by unfold tellE; rw [if_pos hc]
    rw [show begQ t = fun r => begQ t r from rfl]
    obtain ⟨e, he⟩ : ∃ e, e = checkE t := ⟨_, rfl⟩
    rw [← he] at ck hf hE hc
    simp (maxSteps := 1000000) -implicitDefEqProofs only [go_sem, ↓reduceIte, reduceCtorEq, Nat.reduceEqDiff, Nat.reduceLT, Nat.reduceAdd, Nat.reduceLeDiff, tA, iA] at ck ⊢
    (repeat' (first | exact trivial | contradiction | exact ⟨_, rfl⟩ | refine And.intro ?_ ?_ | ((first | show (_ : Nat) ≤ _ | show (_ : Nat) < _ | show (_ : Int) ≤ _ | show (_ : Int) < _); omega) | (refine wait_draw 1000 mixed (by decide +kernel) ?_; simp (maxSteps := 1000000) -implicitDefEqProofs only [go_sem, ↓reduceIte, reduceCtorEq, Nat.reduceEqDiff, Nat.reduceLT, Nat.reduceAdd, Nat.reduceLeDiff, tA, iA, hf]) | ((first | refine call_eq 1000 (ck) ?_ ?_ rfl | refine call_draw 1000 (ck) ?_ ?_); (focus (simp (maxSteps := 1000000) -implicitDefEqProofs only [go_sem, ↓reduceIte, reduceCtorEq, Nat.reduceEqDiff, Nat.reduceLT, Nat.reduceAdd, Nat.reduceLeDiff, tA, iA, hf]; done)); simp (maxSteps := 1000000) -implicitDefEqProofs only [go_sem, ↓reduceIte, reduceCtorEq, Nat.reduceEqDiff, Nat.reduceLT, Nat.reduceAdd, Nat.reduceLeDiff, tA, iA, hf]) | intro _))
    exact ⟨_, beg_zero e, .inl ⟨by rw [hE]; exact hc, _, _, by rw [hE]⟩⟩
end Go.Proofs.Ytiipggfhjkalfaa
/- The constructor with its tape: the document's Machine. -/
set_option linter.unusedSimpArgs false
set_option linter.unusedVariables false
set_option maxRecDepth 20000
open Go Go.Proofs
namespace Go.Proofs.Ytiipggfhjkalfaa
open Pm
attribute [local irreducible] Wait CallT CallW NextT Le Weak
/-- The ring's symbols with a part of the tape. -/
def syL (n : Nat) (t : List Int) : Nat → List Int
  | 0 => zerosL n
  | k + 1 => (syL n t k).set (n - 1 - k) (t.getD k 0)
theorem syL_len (n : Nat) (t : List Int) : ∀ k, (syL n t k).length = n
  | 0 => by simp [syL, zerosL]
  | k + 1 => by simp only [syL, List.length_set]; exact syL_len n t k
theorem syL_get (n : Nat) (t : List Int) : ∀ k, k ≤ n → ∀ j, j < n → (syL n t k).getD j 0 = if n - k ≤ j then t.getD (n - 1 - j) 0 else 0
  | 0, _, j, hj => by
    rw [if_neg (by omega)]
    simp [syL, zerosL, List.getD_eq_getElem?_getD, hj]
  | k + 1, hk, j, hj => by
    have hl := syL_len n t k
    have ih := syL_get n t k (by omega) j hj
    simp only [syL]
    by_cases h1 : j = n - 1 - k
    · rw [← h1, if_pos (by omega), show n - 1 - j = k by omega]
      simp [List.getD_eq_getElem?_getD, hl, hj]
    · rw [List.getD_eq_getElem?_getD, List.getElem?_set_ne (fun e => h1 e.symm), ← List.getD_eq_getElem?_getD, ih]
      by_cases h2 : n - k ≤ j
      · rw [if_pos h2, if_pos (by omega)]
      · rw [if_neg h2, if_neg (by omega)]
def rdM : List Int := [8, 0, 0, 0, 0, 1, 1, 0, 0, 0]
def rmachE (t : List Int) : List Ce × Int := if tellE t = 0 then (sortC (wholeL (t.length + 3) (syL (2 * (t.length + 3)) t t.length) rdM 1), 0) else ([], tellE t)
def rmS (t : List Int) (N : Int) (n k : Nat) : St := ⟨41, 0, [(0, tA t), (6, .v (.int .i64 N)), (7, .sl 0 1 0 n), (8, .v (.int .i64 (k : Int)))], [some (.row 3 1 ((syL n t k).map iA))]⟩
theorem rmachine_pc (t : List Int) (hm : t.length < 9223372036854775808) : PCon Try.prog 26 [tA t] (· = .tup [.fsl 3 (ceL (rmachE t).1), .v (.int .i64 (rmachE t).2)]) := by
  refine PCon.upto (pcon_run 1000 Try.func26 rfl Try.results26 Try.ntmps26 (Nat.le_of_ble_eq_true rfl) ?_)
  have bc := begin_pc t hm
  simp (maxSteps := 1000000) -implicitDefEqProofs only [go_sem, ↓reduceIte, reduceCtorEq, Nat.reduceEqDiff, Nat.reduceLT, Nat.reduceAdd, Nat.reduceLeDiff, tA]
  refine call_pure 0 bc ?_ rfl ?_
  · simp (maxSteps := 1000000) -implicitDefEqProofs only [go_sem, ↓reduceIte, reduceCtorEq, Nat.reduceEqDiff, Nat.reduceLT, Nat.reduceAdd, Nat.reduceLeDiff, tA]
  rintro r (⟨he, w, T, rfl⟩ | ⟨he, T, rfl⟩)
  · have hpm : rmachE t = ([], tellE t) := by unfold rmachE; rw [if_neg he]
    have hf : (tellE t = 0) = False := eq_false he
    rw [hpm]
    refine run_again 1000 ?_
    simp (maxSteps := 1000000) -implicitDefEqProofs only [go_sem, ↓reduceIte, reduceCtorEq, Nat.reduceEqDiff, Nat.reduceLT, Nat.reduceAdd, Nat.reduceLeDiff, rkV, rkR, tA, hf]
    exact Le.tup (.cons (Le.nil 3) (LeL.refl _))
  · have hpm : rmachE t = (sortC (wholeL (t.length + 3) (syL (2 * (t.length + 3)) t t.length) rdM 1), 0) := by unfold rmachE; rw [if_pos he]
    obtain ⟨_, h2, _, h4⟩ := tell_ok he
    obtain ⟨w, hw⟩ : ∃ w, w = (refWalk t).2 := ⟨_, rfl⟩
    rw [← hw, hpm]
    obtain ⟨n, hn⟩ : ∃ n, n = 2 * (t.length + 3) := ⟨_, rfl⟩
    obtain ⟨N, hN⟩ : ∃ N : Int, N = (n : Int) := ⟨_, rfl⟩
    have rg := rrg_pc t (by omega) N (by omega)
    have wc := whole_pc (t.length + 3) (syL n t t.length) rdM 1 (by omega) (by omega) (by rw [syL_len, hn]) rfl (wholeL_nodup (by omega) _ _ _)
    rw [← hn]
    generalize wholeL (t.length + 3) (syL n t t.length) rdM 1 = L at wc ⊢
    simp only [rgA, ← hn, ← hN, tA, rdM, yA, iA, List.map_cons, List.map_nil] at wc rg
    have h5 : (8 * N ≤ 140737488355328) = True := eq_true (by omega)
    have h6 : (N ≤ 9223372036854775807) = True := eq_true (by omega)
    have h4' : (0 ≤ N) = True := eq_true (by omega)
    have h7 : N.toNat = n := by omega
    have hz := zeros_tA n
    refine run_again 1000 ?_
    simp (maxSteps := 1000000) -implicitDefEqProofs only [go_sem, ↓reduceIte, reduceCtorEq, Nat.reduceEqDiff, Nat.reduceLT, Nat.reduceAdd, Nat.reduceLeDiff, rkV, rkR, tA]
    (repeat' (first | exact trivial | contradiction | exact ⟨_, rfl⟩ | refine And.intro ?_ ?_ | ((first | show (_ : Nat) ≤ _ | show (_ : Nat) < _ | show (_ : Int) ≤ _ | show (_ : Int) < _); omega) | (refine wait_draw 1000 mixed (by decide +kernel) ?_; simp (maxSteps := 1000000) -implicitDefEqProofs only [go_sem, ↓reduceIte, reduceCtorEq, Nat.reduceEqDiff, Nat.reduceLT, Nat.reduceAdd, Nat.reduceLeDiff, tA, h4', h5, h6, h7, hz, List.all_cons, List.all_nil]) | ((first | refine call_eq 1000 (rg) ?_ ?_ rfl | refine call_draw 1000 (rg) ?_ ?_); (focus (simp (maxSteps := 1000000) -implicitDefEqProofs only [go_sem, ↓reduceIte, reduceCtorEq, Nat.reduceEqDiff, Nat.reduceLT, Nat.reduceAdd, Nat.reduceLeDiff, tA, h4', h5, h6, h7, hz, List.all_cons, List.all_nil]; done)); simp (maxSteps := 1000000) -implicitDefEqProofs only [go_sem, ↓reduceIte, reduceCtorEq, Nat.reduceEqDiff, Nat.reduceLT, Nat.reduceAdd, Nat.reduceLeDiff, tA, h4', h5, h6, h7, hz, List.all_cons, List.all_nil]) | intro _))
    refine wait_range t.length (rmS t N n) (fun _ => True) (weak_to [0, 6, 7, 8] [1] ?_ (by decide) (fun i h => by cases h)) trivial ?_
    · simp (maxSteps := 1000000) -implicitDefEqProofs only [go_sem, ↓reduceIte, reduceCtorEq, Nat.reduceEqDiff, Nat.reduceLT, Nat.reduceAdd, Nat.reduceLeDiff, St.keep, rmS, syL, tA, Int.natCast_zero]
    intro k hk _
    by_cases hkt : k < t.length
    · refine run_sound 1000 _ _ ?_
      have h1 : ((k : Int) < (t.length : Int)) = True := eq_true (by omega)
      have h2 : (k < t.length) = True := eq_true hkt
      have hw1 : IntKind.i64.wrap ((k : Int) + 1) = ((k + 1 : Nat) : Int) := by rw [wrap64 (by omega) (by omega)]; omega
      have e1 : IntKind.i64.wrap (N - 1) = N - 1 := wrap64 (by omega) (by omega)
      obtain ⟨j, hj⟩ : ∃ j, j = n - 1 - k := ⟨_, rfl⟩
      have e2 : IntKind.i64.wrap (N - 1 - (k : Int)) = (j : Int) := by rw [wrap64 (by omega) (by omega)]; omega
      have gs := get_tA t k hkt
      have hsl := syL_len n t k
      have hs : syL n t (k + 1) = (syL n t k).set j (t.getD k 0) := by rw [hj]; rfl
      have m1 : (j < n) = True := eq_true (by omega)
      have m2 : ((j : Int) < (n : Int)) = True := eq_true (by omega)
      unfold rmS
      rw [hs]
      generalize syL n t k = Y at hsl ⊢
      generalize t.getD k 0 = s at gs ⊢
      have gj := get_tA Y j (by omega)
      simp (maxSteps := 1000000) -implicitDefEqProofs only [go_sem, ↓reduceIte, reduceCtorEq, Nat.reduceEqDiff, Nat.reduceLT, Nat.reduceAdd, Nat.reduceLeDiff, tA, h1, h2, gs, gj, e1, e2, m1, m2, hsl, il_set]
      refine weak_to [0, 6, 7, 8] [0] ?_ (by decide) (fun i h => by cases h)
      simp (maxSteps := 1000000) -implicitDefEqProofs only [go_sem, ↓reduceIte, reduceCtorEq, Nat.reduceEqDiff, Nat.reduceLT, Nat.reduceAdd, Nat.reduceLeDiff, St.keep, hw1]
    · obtain rfl : k = t.length := by omega
      have h1 : ((t.length : Int) < (t.length : Int)) = False := eq_false (by omega)
      unfold rmS
      have hsl := syL_len n t t.length
      generalize syL n t t.length = Y at wc hsl ⊢
      have htk : (Y.map iA).take n = Y.map iA := List.take_of_length_le (by simp [hsl])
      refine TriT.weak (weak_frzB 0 rfl rfl (fun f => by simp (maxSteps := 1000000) -implicitDefEqProofs only [go_sem, ↓reduceIte, reduceCtorEq, Nat.reduceEqDiff, Nat.reduceLT, Nat.reduceAdd, Nat.reduceLeDiff]) rfl) trivial (run_sound 1000 _ _ ?_)
      simp (maxSteps := 1000000) -implicitDefEqProofs only [go_sem, ↓reduceIte, reduceCtorEq, Nat.reduceEqDiff, Nat.reduceLT, Nat.reduceAdd, Nat.reduceLeDiff, tA, h1, hsl, htk]
      (repeat' (first | exact trivial | contradiction | exact ⟨_, rfl⟩ | refine And.intro ?_ ?_ | ((first | show (_ : Nat) ≤ _ | show (_ : Nat) < _ | show (_ : Int) ≤ _ | show (_ : Int) < _); omega) | (refine wait_draw 1000 mixed (by decide +kernel) ?_; simp (maxSteps := 1000000) -implicitDefEqProofs only [go_sem, ↓reduceIte, reduceCtorEq, Nat.reduceEqDiff, Nat.reduceLT, Nat.reduceAdd, Nat.reduceLeDiff, tA]) | ((first | refine call_eq 1000 (wc) ?_ ?_ rfl | refine call_draw 1000 (wc) ?_ ?_); (focus (simp (maxSteps := 1000000) -implicitDefEqProofs only [go_sem, ↓reduceIte, reduceCtorEq, Nat.reduceEqDiff, Nat.reduceLT, Nat.reduceAdd, Nat.reduceLeDiff, tA]; done)); simp (maxSteps := 1000000) -implicitDefEqProofs only [go_sem, ↓reduceIte, reduceCtorEq, Nat.reduceEqDiff, Nat.reduceLT, Nat.reduceAdd, Nat.reduceLeDiff, tA]) | intro _))
      exact Le.refl _
end Go.Proofs.Ytiipggfhjkalfaa
/- The constructor with its tape: both texts have the same cells. -/
set_option linter.unusedSimpArgs false
set_option linter.unusedVariables false
set_option maxRecDepth 20000
open Go Go.Proofs
namespace Go.Proofs.Ytiipggfhjkalfaa
open Pm
attribute [local irreducible] Wait CallT CallW NextT Le Weak
theorem wire_sym : ∀ d : Nat, d < 4 → ∀ s : Nat, s < 97 → setS (yS [1, (d : Int), 0, 0, 0, 0, 0, 0, 0, 0]) 3 (s : Int) = yS [1, (d : Int), 0, (s : Int), 0, 0, 0, 0, 0, 0] := by decide +kernel
theorem join_phase : setS (yS [7, 2, 0, 0, 0, 0, 0, 0, 0, 0]) 5 1 = yS [7, 2, 0, 0, 0, 1, 0, 0, 0, 0] := by decide +kernel
theorem reader_phase : setS (yS [8, 0, 0, 0, 0, 0, 1, 0, 0, 0]) 5 1 = yS rdM := by decide +kernel
theorem ringY_wire {w k : Nat} (h0 : k ≠ 0) (h1 : ¬ ringP w k = ((((w - 1) / 2 : Nat) : Int), 3)) : ∃ d : Nat, d < 4 ∧ ringY w k = [1, (d : Int), 0, 0, 0, 0, 0, 0, 0, 0] := by
  have h1' : ¬ ((ringP w k).2 = 3 ∧ (ringP w k).1 = (((w - 1) / 2 : Nat) : Int)) := fun e => h1 (Prod.ext e.2 e.1)
  unfold ringY
  rw [if_neg h0, if_neg h1']
  split
  · exact ⟨1, by decide, rfl⟩
  · split
    · exact ⟨2, by decide, rfl⟩
    · split
      · exact ⟨3, by decide, rfl⟩
      · exact ⟨0, by decide, rfl⟩
/-- What stands on the ring, in both texts. -/
theorem ring_same {t : List Int} {w : Nat} (hw : w = t.length + 3) (h6 : 6 ≤ w) (hs : ∀ j, j < t.length → 0 ≤ t.getD j 0 ∧ t.getD j 0 < 97) {k : Nat} (hk : k < 2 * w) :
    wholeS w (syL (2 * w) t t.length) rdM 1 k = tpS w t t.length k := by
  have hg := syL_get (2 * w) t t.length (by omega) k hk
  unfold wholeS tpS
  show yS _ = _
  by_cases h0 : k = 0
  · subst h0
    have h00 : ringY w 0 = [8, 0, 0, 0, 0, 0, 1, 0, 0, 0] := by unfold ringY; rw [if_pos rfl]
    rw [if_pos rfl, h00, reader_phase]
    rfl
  rw [if_neg h0]
  by_cases h1 : k = joinK w
  · rw [if_pos h1]
    have h11 : ringY w k = [7, 2, 0, 0, 0, 0, 0, 0, 0, 0] := by
      unfold ringY
      rw [if_neg h0, h1, join_place h6, if_pos ⟨rfl, rfl⟩]
    have hz : (syL (2 * w) t t.length).getD k 0 = 0 := by rw [hg, if_neg (by unfold joinK at h1; omega)]
    rw [h11, join_phase]
    unfold wholeY
    rw [hz]
    rfl
  rw [if_neg h1]
  obtain ⟨d, hd, hy⟩ := ringY_wire (w := w) h0 (fun e => h1 (ringP_inj h6 hk (by unfold joinK; omega) (e.trans (join_place h6).symm)))
  rw [hy]
  unfold wholeY
  rw [hg]
  by_cases h2 : 2 * w - t.length ≤ k
  · rw [if_pos h2, if_pos h2]
    obtain ⟨s0, s1⟩ := hs (2 * w - 1 - k) (by omega)
    obtain ⟨s, hs2⟩ := Int.eq_ofNat_of_zero_le s0
    rw [hs2] at s1 ⊢
    rw [wire_sym d hd s (by omega)]
    rfl
  · rw [if_neg h2, if_neg h2]
    rfl
theorem mach_cells {t : List Int} {w : Nat} (hw : w = t.length + 3) (h6 : 6 ≤ w) (hs : ∀ j, j < t.length → 0 ≤ t.getD j 0 ∧ t.getD j 0 < 97) : sortC (tpL w t t.length) = sortC (wholeL w (syL (2 * w) t t.length) rdM 1) := by
  obtain ⟨e1, e3, e4, e2, e57, e53, e70, e66⟩ := states_same
  have hn := wholeL_nodup h6 (syL (2 * w) t t.length) rdM 1
  have hn2 := nodup_tp w t t.length
  refine sortC_congr (perm_mem (nodup_of Prod.fst hn2) (nodup_of Prod.fst hn) fun c => ?_) hn
  obtain ⟨a, ha⟩ : ∃ a, a = (w - 1) / 2 := ⟨_, rfl⟩
  have off : ∀ k (x y : Int), y ≠ 2 → y ≠ 3 → aget 0 (x, y) (tpL w t k) = aget 0 (x, y) (bodyL w) ∨ 2 * w ≤ k := by
    intro k x y h2 h3
    induction k with
    | zero =>
      refine .inl ?_
      simp only [tpL]
      rw [aget_put, if_neg (fun e => h3 (Prod.mk.inj e).2), aget_put, if_neg (fun e => ?_)]
      have := (ringP_y h6 (show 0 < 2 * w by omega)).2
      rw [← e] at this
      simp only at this
      omega
    | succ k ih =>
      by_cases hk : 2 * w ≤ k + 1
      · exact .inr hk
      · refine .inl ?_
        simp only [tpL]
        rw [aget_put, if_neg (fun e => ?_)]
        · exact ih.resolve_right (by omega)
        · have := (ringP_y h6 (show 2 * w - 1 - k < 2 * w by omega)).2
          rw [← e] at this
          simp only at this
          omega
  have g1 : aget 0 ((a : Int), 1) (tpL w t t.length) = yS [9, 1, 0, 0, 0, 0, 0, 0, 1, 0] := by
    rw [(off t.length _ _ (by decide) (by decide)).resolve_right (by omega), agL h6, ← ha, if_pos ⟨rfl, rfl⟩, e66]
  have g0 : aget 0 ((a : Int), 0) (tpL w t t.length) = yS [10, 1, 0, 0, 0, 1, 0, 0, 0, 0] := by
    rw [(off t.length _ _ (by decide) (by decide)).resolve_right (by omega), agL h6, ← ha, if_neg (by omega), if_pos ⟨rfl, rfl⟩, e70]
  obtain ⟨p, s⟩ := c
  rw [mem_key (d := 0) hn2, key_tp t h6 t.length (by omega), agL_key h6, ← ha]
  simp only [wholeL, wholeR, List.mem_append, List.mem_map, List.mem_range, List.mem_singleton, ← ha]
  constructor
  · rintro ⟨hp, rfl⟩
    rcases hp with (rfl | rfl) | ⟨hx, hy⟩
    · exact .inr (by rw [g1]; rfl)
    · exact .inl (.inr (by rw [g0]; rfl))
    · obtain ⟨x, y⟩ := p
      obtain ⟨k, hk, e⟩ := ringP_onto h6 hx hy
      exact .inl (.inl ⟨k, hk, by rw [ring_same hw h6 hs hk, ← ag_tp t h6 t.length (by omega) k hk, e]⟩)
  · rintro ((⟨k, hk, e⟩ | e) | e)
    · obtain ⟨e5, e6⟩ := Prod.mk.inj e
      rw [ring_same hw h6 hs hk, ← ag_tp t h6 t.length (by omega) k hk] at e6
      rw [← e5, ← e6]
      exact ⟨.inr (ringP_y h6 hk), rfl⟩
    · obtain ⟨e5, e6⟩ := Prod.mk.inj e
      rw [e5, e6]
      exact ⟨.inl (.inr rfl), g0⟩
    · obtain ⟨e5, e6⟩ := Prod.mk.inj e
      rw [e5, e6]
      exact ⟨.inl (.inl rfl), g1⟩
end Go.Proofs.Ytiipggfhjkalfaa
