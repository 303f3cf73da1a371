import Derived.Test.YtdgoompjoeffcaaGreatProg
import Derived.Test.YtdgoompjoeffcaaGreatPmY
import Derived.Test.YtdgoompjoeffcaaGreatRmJ
/- What a tape means, the document's way: the walk's beginning. -/
set_option linter.unusedSimpArgs false
set_option linter.unusedVariables false
set_option maxRecDepth 20000
open Go Go.Proofs
namespace Go.Proofs.YtdgoompjoeffcaaGreat
open Pm
attribute [local irreducible] Wait CallT CallW NextT Le Weak
theorem Le.fptr {l m : List AV} (h : LeL l m) : Le (.fptr l) (.fptr m) := by
  have hg := h.getD
  unfold Le at hg ⊢
  intro w Z x r
  obtain ⟨a, F, rfl, hz, hA, hv⟩ := r.fptr_inv
  exact .fptr F hz (fun j hj => hA j (by rw [h.length]; exact hj)) (fun j hj => hg j w Z _ (hv j (by rw [h.length]; exact hj)))
theorem PCon.args {P : Program} {f : FuncId} {l m : List AV} {Q : AV → Prop} (c : PCon P f m Q) (h : LeL l m) : PCon P f l Q := by
  have hg := h.getD
  unfold Le at hg
  intro w Z cargs hl ha hz hgl
  exact c w Z cargs (by rw [← h.length]; exact hl) (fun i hi => hg i w Z _ (ha i (by rw [h.length]; exact hi))) hz hgl
def nilV : AV := .v (.slice none 0 0)
def wkRow (t x y s a r : AV) (roads : Int) : Option Blk := some (.row 50 16 [.agg [t, x, y, s, a, r, nilV, nilV, .v (.int .i64 0), .v (.int .i64 1), .v (.int .i64 0), .v (.int .i64 1), .v (.int .i64 roads), nilV, nilV, nilV]])
def T0 : List Int := List.replicate 64 (-1)
def T1 : List Int := T0.set 0 0
def T2 : List Int := T1.set 25 1
theorem wide0_con : Con Tryz.prog 57 [.ptr 0 16 0 0, .v (.int .i64 64)] [wkRow nilV nilV nilV nilV nilV nilV 0]
    fun r h' => r = .tup [] ∧ h' = [wkRow (.sl 1 1 0 64) nilV nilV nilV nilV nilV 0, intB T0] := by
  refine con_run 1000 Tryz.func57 rfl Tryz.results57 Tryz.ntmps57 (Nat.le_of_ble_eq_true rfl) ?_
  simp -implicitDefEqProofs only [go_sem, wkRow, nilV]
  (repeat' (first | exact trivial | contradiction | exact ⟨_, rfl⟩ | refine And.intro ?_ ?_ | (refine om ?_; omega)  | (refine wait_draw 1000 mixed (by decide +kernel) ?_; simp -implicitDefEqProofs only [go_sem , wkRow, nilV]) | intro _))
  have hl : ∀ k, k ≤ 64 → (fillL 64 k).length = 64 := fun k hk => fillL_len hk
  have hT0 : T0 = fillL 64 64 := rfl
  refine wait_range 64 (fun k => ⟨53, 1, [(0, .ptr 0 16 0 0), (1, .v (.int .i64 64)), (4, .v (.int .i64 (k : Int)))], [wkRow (.sl 1 1 0 64) nilV nilV nilV nilV nilV 0, intB (fillL 64 k)]⟩) (fun _ => True)
    (weak_to' [0, 1, 4] [0, 1] ?_ (by decide) (stay_of rfl)) trivial ?_
  · simp -implicitDefEqProofs only [go_sem, St.keep, wkRow, nilV, intB, Int.natCast_zero]
    rfl
  intro k hk _
  refine run_sound 1000 _ _ ?_
  have hlk := hl k hk
  by_cases hkn : k < 64
  · have hlt : ((k : Int) < 64) = True := eq_true (by omega)
    have hlt2 : (k < 64) = True := eq_true hkn
    have hset := fillL_set hkn
    have g0 := get_tA (fillL 64 k) k (by omega)
    have hw1 : IntKind.i64.wrap ((k : Int) + 1) = ((k + 1 : Nat) : Int) := by rw [wrap64 (by omega) (by omega)]; omega
    simp -implicitDefEqProofs only [go_sem, wkRow, nilV, intB, hlt, hlk, hlt2, g0]
    (repeat' (first | exact trivial | contradiction | exact ⟨_, rfl⟩ | refine And.intro ?_ ?_ | (refine om ?_; omega)  | (refine wait_draw 1000 mixed (by decide +kernel) ?_; simp -implicitDefEqProofs only [go_sem , wkRow, nilV, intB, hlt, hlk, hlt2, g0]) | intro _))
    refine weak_to' [0, 1, 4] [0, 1] ?_ (by decide) (stay_of rfl)
    simp -implicitDefEqProofs only [go_sem, St.keep, intB, hset, hw1]
  · have hlt : ((k : Int) < 64) = False := eq_false (by omega)
    have hkn2 : k = 64 := by omega
    subst hkn2
    simp -implicitDefEqProofs only [go_sem, wkRow, nilV, intB, hlt, hlk]
    refine wait_range 0 (fun _ => ⟨53, 1, [(0, .ptr 0 16 0 0), (5, .v (.int .i64 0))], [wkRow (.sl 1 1 0 64) nilV nilV nilV nilV nilV 0, intB T0]⟩) (fun _ => True)
      (weak_to' [0, 5] [0, 1] ?_ (by decide) (stay_of rfl)) trivial ?_
    · simp -implicitDefEqProofs only [go_sem, St.keep, wkRow, nilV, intB, hT0]
    · intro k hk _
      refine run_sound 1000 _ _ ?_
      simp -implicitDefEqProofs only [go_sem, wkRow, nilV, intB]
def zRest : List AV := [nilV, nilV, nilV, nilV, nilV, .v (.int .i64 0), .v (.int .i64 1), .v (.int .i64 0), .v (.int .i64 1), .v (.int .i64 0), nilV, nilV, nilV]
theorem slotA : PCon Tryz.prog 58 [.fptr (.fsl 1 (T0.map iA) :: nilV :: nilV :: zRest), .v (.int .i64 0), .v (.int .i64 0)] (· = .v (.int .i64 0)) := by
  have h1 : ∀ e, e ≤ 0 → T0.getD ((hash0 0 0 T0.length + e) % T0.length) 0 < (([] : List Int).length : Int) := fun e he => by
    obtain rfl : e = 0 := by omega
    decide
  have h := slot_pc T0 [] [] 0 0 zRest 0 (by decide) (by decide) (by decide) (by decide) rfl (by decide) (fun f => by simp only [zRest, nilV, renL_cons, renL_nil, ren_v]) h1 (fun e he => by omega) (by decide)
  refine PCon.args h (.cons (Le.fptr (.cons (Le.refl _) (.cons (Le.nil 1) (.cons (Le.nil 1) (LeL.refl _))))) (LeL.refl _))
theorem spotA_con : Con Tryz.prog 32 [.ptr 0 16 0 0, .v (.int .i64 0), .v (.int .i64 0)] [wkRow nilV nilV nilV nilV nilV nilV 0]
    fun r h' => r = .v (.int .i64 0) ∧ h' = [wkRow (.sl 1 1 0 64) (.sl 3 1 0 1) (.sl 5 1 0 1) (.sl 7 1 0 1) (.sl 9 1 0 1) (.sl 11 1 0 1) 0, intB T1, longB [0], longB [0], longB [0], longB [0], intB [0], intB [0], boolB [false], boolB [false], boolB [false], boolB [false]] := by
  refine con_run 1000 Tryz.func32 rfl Tryz.results32 Tryz.ntmps32 (Nat.le_of_ble_eq_true rfl) ?_
  have hsl := slotA
  simp only [nilV, zRest] at hsl
  have l0 : T0.length = 64 := by decide
  have l1 : (T0.set 0 0).length = 64 := by decide
  have k0 : (T0.map iA).take 64 = T0.map iA := rfl
  have g0 : (T0.map iA).getD 0 .junk = .v (.int .i64 (-1)) := by rfl
  have g1 : ((T0.set 0 0).map iA).getD 0 .junk = .v (.int .i64 0) := by rfl
  simp -implicitDefEqProofs only [go_sem, wkRow, nilV]
  (repeat' (first | exact trivial | contradiction | exact ⟨_, rfl⟩ | refine And.intro ?_ ?_ | (refine om ?_; omega) | (refine wait_draw 1000 mixed (by decide +kernel) ?_; simp -implicitDefEqProofs only [go_sem, wkRow, nilV, intB, l0, l1, k0, g0, g1]) | ((first | refine call_con_eq 1000 [0] (wide0_con) ?_ ?_ ?_ | refine call_draw_con 1000 [0] (wide0_con) (by decide +kernel) ?_ ?_ ?_); (focus (simp -implicitDefEqProofs only [go_sem, wkRow, nilV, intB, l0, l1, k0, g0, g1]; done)); (focus (simp -implicitDefEqProofs only [go_sem, wkRow, nilV, intB, l0, l1, k0, g0, g1]; done)); simp -implicitDefEqProofs only [go_sem, wkRow, nilV, intB, l0, l1, k0, g0, g1]) | ((first | refine call_eq_read 1000 (hsl) ?_ ?_ ?_ rfl | refine call_draw_read 1000 (hsl) ?_ ?_ ?_); (focus (simp -implicitDefEqProofs only [go_sem, wkRow, nilV, intB, l0, l1, k0, g0, g1]; done)); (focus ((first | intro ext | skip); simp -implicitDefEqProofs only [go_sem, wkRow, nilV, intB, l0, l1, k0, g0, g1]; done)); simp -implicitDefEqProofs only [go_sem, wkRow, nilV, intB, l0, l1, k0, g0, g1]) | intro _))
  all_goals rfl
def stM (roads : Int) (b : Bool) : List (Option Blk) := [wkRow (.sl 1 1 0 64) (.sl 2 1 0 1) (.sl 3 1 0 1) (.sl 4 1 0 1) (.sl 5 1 0 1) (.sl 6 1 0 1) roads, intB T1, longB [0], longB [0], intB [0], boolB [b], boolB [b]]
theorem mark0_con : Con Tryz.prog 33 [.ptr 0 16 0 0, .v (.int .i64 0)] (stM 0 false) fun r h' => r = .tup [] ∧ h' = stM 1 true := by
  refine con_run 1000 Tryz.func33 rfl Tryz.results33 Tryz.ntmps33 (Nat.le_of_ble_eq_true rfl) ?_
  have e1 : IntKind.i64.wrap 1 = 1 := by decide
  simp -implicitDefEqProofs only [go_sem, stM, wkRow, nilV, intB, longB, boolB, iA, bA, e1]
  (repeat' (first | exact trivial | contradiction | exact ⟨_, rfl⟩ | refine And.intro ?_ ?_ | (refine om ?_; omega)  | (refine wait_draw 1000 mixed (by decide +kernel) ?_; simp -implicitDefEqProofs only [go_sem , stM, wkRow, nilV, intB, longB, boolB, iA, bA, e1]) | intro _))
theorem slotB : PCon Tryz.prog 58 [.fptr (.fsl 1 (T1.map iA) :: .fsl 1 [.v (.int .i64 0)] :: .fsl 1 [.v (.int .i64 0)] :: [.fsl 1 [.v (.int .i64 0)], .fsl 1 [.v (.bool true)], .fsl 1 [.v (.bool true)], nilV, nilV, .v (.int .i64 0), .v (.int .i64 1), .v (.int .i64 0), .v (.int .i64 1), .v (.int .i64 1), nilV, nilV, nilV]),
    .v (.int .i64 0), .v (.int .i64 1)] (· = .v (.int .i64 25)) := by
  have h1 : ∀ e, e ≤ 0 → T1.getD ((hash0 0 1 T1.length + e) % T1.length) 0 < (([0] : List Int).length : Int) := fun e he => by
    obtain rfl : e = 0 := by omega
    decide
  exact slot_pc T1 [0] [0] 0 1 _ 0 (by decide) (by decide) (by decide) (by decide) rfl (by decide) (fun f => by simp only [nilV, renL_cons, renL_nil, ren_v, ren_fsl]) h1 (fun e he => by omega) (by decide)
theorem spotB_con : Con Tryz.prog 32 [.ptr 0 16 0 0, .v (.int .i64 0), .v (.int .i64 1)] (stM 1 true)
    fun r h' => r = .v (.int .i64 1) ∧ h' = [wkRow (.sl 1 1 0 64) (.sl 8 1 0 2) (.sl 10 1 0 2) (.sl 12 1 0 2) (.sl 14 1 0 2) (.sl 16 1 0 2) 1, intB T2, none, none, none, none, none, longB [0], longB [0, 0], longB [1], longB [0, 1], intB [0], intB [0, 0], boolB [false], boolB [true, false], boolB [false], boolB [true, false]] := by
  refine con_run 1000 Tryz.func32 rfl Tryz.results32 Tryz.ntmps32 (Nat.le_of_ble_eq_true rfl) ?_
  have hsl := slotB
  simp only [nilV] at hsl
  have l0 : T1.length = 64 := by decide
  have l1 : (T1.set 25 1).length = 64 := by decide
  have k0 : (T1.map iA).take 64 = T1.map iA := rfl
  have g0 : (T1.map iA).getD 25 .junk = .v (.int .i64 (-1)) := by rfl
  have g1 : ((T1.set 25 1).map iA).getD 25 .junk = .v (.int .i64 1) := by rfl
  simp -implicitDefEqProofs only [go_sem, stM, wkRow, nilV, intB, longB, boolB, iA, bA, l0]
  (repeat' (first | exact trivial | contradiction | exact ⟨_, rfl⟩ | refine And.intro ?_ ?_ | (refine om ?_; omega) | (refine wait_draw 1000 mixed (by decide +kernel) ?_; simp -implicitDefEqProofs only [go_sem, stM, wkRow, nilV, intB, longB, boolB, l0, l1, k0, g0, g1]) | ((first | refine call_eq_read 1000 (hsl) ?_ ?_ ?_ rfl | refine call_draw_read 1000 (hsl) ?_ ?_ ?_); (focus (simp -implicitDefEqProofs only [go_sem, stM, wkRow, nilV, intB, longB, boolB, l0, l1, k0, g0, g1]; done)); (focus ((first | intro ext | skip); simp -implicitDefEqProofs only [go_sem, stM, wkRow, nilV, intB, longB, boolB, l0, l1, k0, g0, g1]; done)); simp -implicitDefEqProofs only [go_sem, stM, wkRow, nilV, intB, longB, boolB, l0, l1, k0, g0, g1]) | intro _))

  all_goals rfl
end Go.Proofs.YtdgoompjoeffcaaGreat
/- What a tape means, the document's way: the whole walk. -/
namespace Go.Proofs.YtdgoompjoeffcaaGreat
open Pm
attribute [local irreducible] Wait CallT CallW NextT Le Weak
def rBegin : Rk := ⟨[(0, 0), (0, 1)], [0, 0], [true, true], [true, false], [1], [1], 0, 1, 0, 1, 1, [], [], []⟩
def rwalkR : List Int → Rk → Int × Rk
  | [], w => (0, w)
  | s :: l, w => let r := rcmdR w s; if r.1 = 0 then rwalkR l r.2 else r
theorem rwalkR_bad {s : Int} {l : List Int} {w : Rk} (h : (rcmdR w s).1 ≠ 0) : rwalkR (s :: l) w = rcmdR w s := by simp only [rwalkR, if_neg h]
theorem rwalkR_ok {s : Int} {l : List Int} {w : Rk} (h : (rcmdR w s).1 = 0) : rwalkR (s :: l) w = rwalkR l (rcmdR w s).2 := by simp only [rwalkR, if_pos h]
def refWalk (t : List Int) : Int × Rk := if checkE t = 0 then rwalkR ((t.take (t.length - 2)).drop 1) rBegin else (71, rBegin)
theorem tab2_ok : TabOk T2 rBegin.K := by
  have h0 : Tab T0 rBegin.K 0 := Tab.new (by decide) _
  have h1 := h0.put (by decide) (by decide) (d := 0) (fun e he => by omega) (by decide)
  have e1 : T0.set ((hash0 (rBegin.K.getD 0 (0, 0)).1 (rBegin.K.getD 0 (0, 0)).2 T0.length + 0) % T0.length) ((0 : Nat) : Int) = T1 := by decide
  rw [e1] at h1
  have h2 := h1.put (by decide) (by decide) (d := 0) (fun e he => by omega) (by decide)
  have e2 : T1.set ((hash0 (rBegin.K.getD 1 (0, 0)).1 (rBegin.K.getD 1 (0, 0)).2 T1.length + 0) % T1.length) ((1 : Nat) : Int) = T2 := by decide
  simp only [Nat.zero_add] at h2 e2
  rw [e2] at h2
  exact ⟨h2, by decide, by decide, by decide⟩
theorem rBegin_x : RkX rBegin 0 := ⟨⟨by decide, by decide, by decide, by decide, by simp [rBegin, near], by decide, by decide, by decide, by decide, by decide, by decide⟩, by decide, by decide, by decide⟩
theorem rcmd_inv {w w' : Rk} {s : Int} {n : Nat} (h : RkX w n) (hc : 0 ≤ w.count ∧ w.count ≤ 255) (hs : 5 ≤ s) (e : rcmdR w s = (0, w')) :
    RkX w' (n + 255) ∧ (0 ≤ w'.count ∧ w'.count ≤ 255) ∧ w'.arms.length = w.arms.length + 1 ∧ w'.acts.length = w.acts.length + 1 ∧ w'.wr.length = w.wr.length + 1 := by
  have hp := rpre_x (s := s) h
  have l1 : (rpreR w s).arms.length = w.arms.length + 1 := by simp [rpreR]
  have l2 : (rpreR w s).acts.length = w.acts.length + 1 := by simp [rpreR]
  have l3 : (rpreR w s).wr.length = w.wr.length + 1 := by simp [rpreR]
  have hpc : 0 ≤ (rpreR w s).count ∧ (rpreR w s).count ≤ 255 := by
    simp only [rpreR]
    split <;> omega
  unfold rcmdR at e
  split at e
  · simp only [Prod.mk.injEq, true_and] at e
    subst e
    exact ⟨hp.le (by omega), hpc, l1, l2, l3⟩
  · split at e
    · obtain ⟨h1, h2, h3, h4, h5⟩ := rwrN_inv _ _ n _ _ hp e
      exact ⟨h1.le (by omega), by rw [h2]; exact hpc, by rw [h3, l1], by rw [h4, l2], by rw [h5, l3]⟩
    · obtain ⟨h1, h2, h3, h4, h5⟩ := rfwdN_inv _ n _ _ hp e
      exact ⟨h1.le (by omega), by rw [h2]; exact hpc, by rw [h3, l1], by rw [h4, l2], by rw [h5, l3]⟩
end Go.Proofs.YtdgoompjoeffcaaGreat
