/- What a tape means: the walker's times, a function that defers. -/
import Derived.Test.YtiipggfhjkalfaaPmAB
import Derived.WalkKit
import Derived.Defers
set_option linter.unusedSimpArgs false
set_option linter.unusedVariables false
set_option maxRecDepth 20000
open Go Go.Proofs
namespace Go.Proofs.Ytiipggfhjkalfaa
open Pm
theorem timesD (g : Nat) (x c : Value) (u : FrameMode) (w : World) (b : Nat) (h0 : w.cell? ⟨b, 0, none⟩ = some (.pointer (some ⟨g, 0, none⟩))) (h1 : w.cell? ⟨g, 0, none⟩ = some x) (h4 : w.cell? ⟨g, 4, none⟩ = some c) (hz : w.frozen? ⟨g, 4, none⟩ = false) :
    CallsD Try.prog 110 #[.pointer (some ⟨b, 0, none⟩)] u w fun e u' w' => u' = u ∧ (e = .returned (.tuple #[]) ∧ w' = w.setCell ⟨g, 4, none⟩ (.int .i64 0)) := by
  go_enter_d Try.func110, Try.ntmps110
  go_wp2
  go_end0
  exact ⟨rfl, rfl⟩
theorem timesW (g : Nat) (x : Value) (c : Int) (w : World) (h1 : w.cell? ⟨g, 0, none⟩ = some x) (h4 : w.cell? ⟨g, 4, none⟩ = some (.int .i64 c)) (hz : w.frozen? ⟨g, 4, none⟩ = false) (hg : g < w.heap.size) :
    Calls Try.prog 101 #[.pointer (some ⟨g, 0, none⟩)] w fun e w' => e = .returned (.int .i64 (max c 1)) ∧ w' = (w.alloc (.cells #[.pointer (some ⟨g, 0, none⟩)] 86)).setCell ⟨g, 4, none⟩ (.int .i64 0) := by
  have hmf : ∀ (fn : Fn) (first cap : Array Value) (w : World), (Instr.makeFunc fn first cap).run Try.prog w = .ok (.func fn first cap) w := fun _ _ _ _ => rfl
  go_enter_defers Try.func101, Try.ntmps101
  go_wp2
  all_goals
    refine leaves_cons (f := 110) (args := #[.pointer (some ⟨w.heap.size, 0, none⟩)]) (by simp) (by simp [go_sem]) ?_
    refine (timesD g x (.int .i64 c) .returning _ w.heap.size ?_ ?_ ?_ ?_).mono ?_
    · rw [World.cell?_alloc_at _ _ _ _ rfl]; rfl
    · rw [World.cell?_alloc_past _ _ _ (by simpa using hg)]; exact h1
    · rw [World.cell?_alloc_past _ _ _ (by simpa using hg)]; exact h4
    · rw [World.frozen?_alloc_past _ _ _ hg]; exact hz
    rintro e u' w'' ⟨rfl, rfl, rfl⟩
    refine ⟨_, results_tmp rfl _ _ _, ?_, ?_⟩
    · simp only [Ending.returned.injEq, Value.int.injEq, true_and, Array.getD, List.size_toArray, List.length_cons, List.length_nil, Nat.reduceAdd, Nat.reduceLT, reduceDIte, List.getElem_toArray, Array.getInternal_eq_getElem, List.getElem_cons_succ, List.getElem_cons_zero]; omega
    · rw [World.setCell_alloc_past _ _ _ _ hg]
def wrowA (a0 a1 a2 a3 a4 a5 a6 a7 a8 a9 a10 : AV) : Option Blk := some (.row 100 11 [.agg [a0, a1, a2, a3, a4, a5, a6, a7, a8, a9, a10]])
theorem times_con (c : Int) (a0 a1 a2 a3 a5 a6 a7 a8 a9 a10 : AV) (rest : List (Option Blk)) : Con Try.prog 101 [.ptr 0 11 0 0] (wrowA a0 a1 a2 a3 (.v (.int .i64 c)) a5 a6 a7 a8 a9 a10 :: rest)
    fun r h' => r = .v (.int .i64 (max c 1)) ∧ h' = wrowA a0 a1 a2 a3 (.v (.int .i64 0)) a5 a6 a7 a8 a9 a10 :: (rest ++ [some (.row 86 1 [.ptr 0 11 0 0])]) := by
  intro B cargs hl ha H
  obtain ⟨g, cs, fr, hr, hcc, hfr, hcl, hs, hv⟩ := H.row (id := 0) rfl
  have hcl' : 11 ≤ cs.size := by simpa using hcl
  have e0 : cargs = #[.pointer (some ⟨g, 0, none⟩)] := by
    have h0 := (ha 0 (by simp)).ptr_live H (b := .row 100 11 [.agg [a0, a1, a2, a3, .v (.int .i64 c), a5, a6, a7, a8, a9, a10]]) rfl hr
    apply Array.ext
    · simpa using hl.symm
    · intro i h1 h2
      have : i = 0 := by simp at hl; omega
      subst this
      simpa [Array.getD, h1] using h0
  rw [e0]
  have h4 : cs.getD 4 undef = .int .i64 c := ((hv 0 4 (by simp) (by omega)).1 : RV B.w B.ρ B.D B.Z (.v (.int .i64 c)) (cs.getD 4 undef)).v_inv
  have hfz : B.w.frozen? ⟨g, 4, none⟩ = false := by
    obtain ⟨lo, up⟩ := fr
    unfold okFr at hfr
    simp only at hfr
    simp only [World.frozen?, hcc, Bool.and_eq_false_iff, decide_eq_false_iff_not]
    omega
  have hcell : ∀ j, j < 11 → B.w.cell? ⟨g, j, none⟩ = some (cs.getD j undef) := fun j hj => cell_row hcc (by omega)
  refine (timesW g (cs.getD 0 undef) c B.w (hcell 0 (by omega)) (by rw [hcell 4 (by omega), h4]) hfz (H.lt hr)).mono ?_
  rintro e w' ⟨rfl, rfl⟩
  rw [show (B.w.alloc (.cells #[.pointer (some ⟨g, 0, none⟩)] 86)).setCell ⟨g, 4, none⟩ (.int .i64 0) = (B.w.setCell ⟨g, 4, none⟩ (.int .i64 0)).alloc (.cells #[.pointer (some ⟨g, 0, none⟩)] 86) from by simp [go_sem, H.lt hr]]
  rw [setCell_eq_setRow B.w g 4 cs _ fr _ hcc]
  have h2 := H.set_row (id := 0) (c' := cs.setIfInBounds 4 (.int .i64 0)) 11 [.agg [a0, a1, a2, a3, .v (.int .i64 0), a5, a6, a7, a8, a9, a10]] hr hcc (hfr.set (by simp)) (by simp) (by simp; omega) (fun i hi => by
      have : i = 0 := by simp at hi; omega
      subst this; rfl) (fun i j hi hj => by
    have : i = 0 := by simp at hi; omega
    subst this
    by_cases hj4 : j = 4
    · subst hj4
      have e : (cs.setIfInBounds 4 (.int .i64 0)).getD (0 * 11 + 4) undef = .int .i64 0 := by simp [Array.getD, show 4 < cs.size by omega]
      rw [e]
      exact ⟨.v _, rfl⟩
    · have e : (cs.setIfInBounds 4 (.int .i64 0)).getD (0 * 11 + j) undef = cs.getD (0 * 11 + j) undef := by
        simp [Array.getD, show j < cs.size by omega, Array.getElem_setIfInBounds, Ne.symm hj4]
      rw [e]
      have h3 := hv 0 j (by simp) hj
      have e2 : ([AV.agg [a0, a1, a2, a3, .v (.int .i64 0), a5, a6, a7, a8, a9, a10]].getD 0 .junk).cellAt j = ([AV.agg [a0, a1, a2, a3, .v (.int .i64 c), a5, a6, a7, a8, a9, a10]].getD 0 .junk).cellAt j := by
        match j, hj, hj4 with
        | 0, _, _ | 1, _, _ | 2, _, _ | 3, _, _ | 5, _, _ | 6, _, _ | 7, _, _ | 8, _, _ | 9, _, _ | 10, _, _ => rfl
      rw [e2]
      exact h3)
  have h3 := h2.alloc (.cells #[.pointer (some ⟨g, 0, none⟩)] 86) (.row 86 1 [.ptr 0 11 0 0]) ⟨_, (0, 0), heap_new _ _, .inl (Nat.le_refl _), by simp, fun i hi => by
      have : i = 0 := by simpa using hi
      subst this; rfl, fun i j hi hj => by
      have : i = 0 := by simpa using hi
      subst this
      have : j = 0 := by omega
      subst this
      refine ⟨?_, rfl⟩
      have hne : (0 : Nat) ≠ (wrowA a0 a1 a2 a3 (.v (.int .i64 c)) a5 a6 a7 a8 a9 a10 :: rest).length := by simp
      exact .ptr (by simp only [List.length_set]; unfold setρ; rw [if_neg hne]; exact hr)⟩
  exact ⟨.v (.int .i64 (max c 1)), _, _, _, _, _, rfl, ⟨rfl, rfl⟩, .v _, h3⟩
end Go.Proofs.Ytiipggfhjkalfaa
