import Derived.Test.YtdgoompjoeffcaaGreatPmZ
import Derived.WalkKit
import Derived.Defers
import Derived.Test.YtdgoompjoeffcaaGreatProg
import Derived.Test.YtdgoompjoeffcaaGreatPmY
/- What a tape means: the walker's times, a function that defers. -/
set_option linter.unusedSimpArgs false
set_option linter.unusedVariables false
set_option maxRecDepth 20000
open Go Go.Proofs
namespace Go.Proofs.YtdgoompjoeffcaaGreat
open Pm
theorem timesD (g : Nat) (x c : Value) (u : FrameMode) (w : World) (b : Nat) (h0 : w.cell? ⟨b, 0, none⟩ = some (.pointer (some ⟨g, 0, none⟩))) (h1 : w.cell? ⟨g, 0, none⟩ = some x) (h4 : w.cell? ⟨g, 4, none⟩ = some c) (hz : w.frozen? ⟨g, 4, none⟩ = false) :
    CallsD Tryz.prog 93 #[.pointer (some ⟨b, 0, none⟩)] u w fun e u' w' => u' = u ∧ (e = .returned (.tuple #[]) ∧ w' = w.setCell ⟨g, 4, none⟩ (.int .i64 0)) := by
  go_enter_d Tryz.func93, Tryz.ntmps93
  go_wp2
  go_end0
  exact ⟨rfl, rfl⟩
theorem timesW (g : Nat) (x : Value) (c : Int) (w : World) (h1 : w.cell? ⟨g, 0, none⟩ = some x) (h4 : w.cell? ⟨g, 4, none⟩ = some (.int .i64 c)) (hz : w.frozen? ⟨g, 4, none⟩ = false) (hg : g < w.heap.size) :
    Calls Tryz.prog 72 #[.pointer (some ⟨g, 0, none⟩)] w fun e w' => e = .returned (.int .i64 (max c 1)) ∧ w' = (w.alloc (.cells #[.pointer (some ⟨g, 0, none⟩)] 60)).setCell ⟨g, 4, none⟩ (.int .i64 0) := by
  have hmf : ∀ (fn : Fn) (first cap : Array Value) (w : World), (Instr.makeFunc fn first cap).run Tryz.prog w = .ok (.func fn first cap) w := fun _ _ _ _ => rfl
  go_enter_defers Tryz.func72, Tryz.ntmps72
  go_wp2
  all_goals
    refine leaves_cons (f := 93) (args := #[.pointer (some ⟨w.heap.size, 0, none⟩)]) (by simp) (by simp [go_sem]) ?_
    refine (timesD g x (.int .i64 c) .returning _ w.heap.size ?_ ?_ ?_ ?_).mono ?_
    · rw [World.cell?_alloc_at _ _ _ _ rfl]; rfl
    · rw [World.cell?_alloc_past _ _ _ (by simpa using hg)]; exact h1
    · rw [World.cell?_alloc_past _ _ _ (by simpa using hg)]; exact h4
    · rw [World.frozen?_alloc_past _ _ _ hg]; exact hz
    rintro e u' w'' ⟨rfl, rfl, rfl⟩
    refine ⟨_, results_tmp rfl _ _ _, ?_, ?_⟩
    · simp only [Ending.returned.injEq, Value.int.injEq, true_and, Array.getD, List.size_toArray, List.length_cons, List.length_nil, Nat.reduceAdd, Nat.reduceLT, reduceDIte, List.getElem_toArray, Array.getInternal_eq_getElem, List.getElem_cons_succ, List.getElem_cons_zero]; omega
    · rw [World.setCell_alloc_past _ _ _ _ hg]
def wrowA (a0 a1 a2 a3 a4 a5 a6 a7 a8 a9 a10 : AV) : Option Blk := some (.row 74 11 [.agg [a0, a1, a2, a3, a4, a5, a6, a7, a8, a9, a10]])
theorem times_con (c : Int) (a0 a1 a2 a3 a5 a6 a7 a8 a9 a10 : AV) (rest : List (Option Blk)) : Con Tryz.prog 72 [.ptr 0 11 0 0] (wrowA a0 a1 a2 a3 (.v (.int .i64 c)) a5 a6 a7 a8 a9 a10 :: rest)
    fun r h' => r = .v (.int .i64 (max c 1)) ∧ h' = wrowA a0 a1 a2 a3 (.v (.int .i64 0)) a5 a6 a7 a8 a9 a10 :: (rest ++ [some (.row 60 1 [.ptr 0 11 0 0])]) := by
  intro B cargs hl ha H
  obtain ⟨g, cs, fr, hr, hcc, hfr, hcl, hs, hv⟩ := H.row (id := 0) rfl
  have hcl' : 11 ≤ cs.size := by simpa using hcl
  have e0 : cargs = #[.pointer (some ⟨g, 0, none⟩)] := by
    have h0 := (ha 0 (by simp)).ptr_live H (b := .row 74 11 [.agg [a0, a1, a2, a3, .v (.int .i64 c), a5, a6, a7, a8, a9, a10]]) rfl hr
    apply Array.ext
    · simpa using hl.symm
    · intro i h1 h2
      have : i = 0 := by simp at hl; omega
      subst this
      simpa [Array.getD, h1] using h0
  rw [e0]
  have h4 : cs.getD 4 undef = .int .i64 c := ((hv 0 4 (by simp) (by omega)).1 : RV B.w B.ρ B.D B.Z (.v (.int .i64 c)) (cs.getD 4 undef)).v_inv
  have hfz : B.w.frozen? ⟨g, 4, none⟩ = false := by
    obtain ⟨lo, up⟩ := fr
    unfold okFr at hfr
    simp only at hfr
    simp only [World.frozen?, hcc, Bool.and_eq_false_iff, decide_eq_false_iff_not]
    omega
  have hcell : ∀ j, j < 11 → B.w.cell? ⟨g, j, none⟩ = some (cs.getD j undef) := fun j hj => cell_row hcc (by omega)
  refine (timesW g (cs.getD 0 undef) c B.w (hcell 0 (by omega)) (by rw [hcell 4 (by omega), h4]) hfz (H.lt hr)).mono ?_
  rintro e w' ⟨rfl, rfl⟩
  rw [show (B.w.alloc (.cells #[.pointer (some ⟨g, 0, none⟩)] 60)).setCell ⟨g, 4, none⟩ (.int .i64 0) = (B.w.setCell ⟨g, 4, none⟩ (.int .i64 0)).alloc (.cells #[.pointer (some ⟨g, 0, none⟩)] 60) from by simp [go_sem, H.lt hr]]
  rw [setCell_eq_setRow B.w g 4 cs _ fr _ hcc]
  have h2 := H.set_row (id := 0) (c' := cs.setIfInBounds 4 (.int .i64 0)) 11 [.agg [a0, a1, a2, a3, .v (.int .i64 0), a5, a6, a7, a8, a9, a10]] hr hcc (hfr.set (by simp)) (by simp) (by simp; omega) (fun i hi => by
      have : i = 0 := by simp at hi; omega
      subst this; rfl) (fun i j hi hj => by
    have : i = 0 := by simp at hi; omega
    subst this
    by_cases hj4 : j = 4
    · subst hj4
      have e : (cs.setIfInBounds 4 (.int .i64 0)).getD (0 * 11 + 4) undef = .int .i64 0 := by simp [Array.getD, show 4 < cs.size by omega]
      rw [e]
      exact ⟨.v _, rfl⟩
    · have e : (cs.setIfInBounds 4 (.int .i64 0)).getD (0 * 11 + j) undef = cs.getD (0 * 11 + j) undef := by
        simp [Array.getD, show j < cs.size by omega, Array.getElem_setIfInBounds, Ne.symm hj4]
      rw [e]
      have h3 := hv 0 j (by simp) hj
      have e2 : ([AV.agg [a0, a1, a2, a3, .v (.int .i64 0), a5, a6, a7, a8, a9, a10]].getD 0 .junk).cellAt j = ([AV.agg [a0, a1, a2, a3, .v (.int .i64 c), a5, a6, a7, a8, a9, a10]].getD 0 .junk).cellAt j := by
        match j, hj, hj4 with
        | 0, _, _ | 1, _, _ | 2, _, _ | 3, _, _ | 5, _, _ | 6, _, _ | 7, _, _ | 8, _, _ | 9, _, _ | 10, _, _ => rfl
      rw [e2]
      exact h3)
  have h3 := h2.alloc (.cells #[.pointer (some ⟨g, 0, none⟩)] 60) (.row 60 1 [.ptr 0 11 0 0]) ⟨_, (0, 0), heap_new _ _, .inl (Nat.le_refl _), by simp, fun i hi => by
      have : i = 0 := by simpa using hi
      subst this; rfl, fun i j hi hj => by
      have : i = 0 := by simpa using hi
      subst this
      have : j = 0 := by omega
      subst this
      refine ⟨?_, rfl⟩
      have hne : (0 : Nat) ≠ (wrowA a0 a1 a2 a3 (.v (.int .i64 c)) a5 a6 a7 a8 a9 a10 :: rest).length := by simp
      exact .ptr (by simp only [List.length_set]; unfold setρ; rw [if_neg hne]; exact hr)⟩
  exact ⟨.v (.int .i64 (max c 1)), _, _, _, _, _, rfl, ⟨rfl, rfl⟩, .v _, h3⟩
end Go.Proofs.YtdgoompjoeffcaaGreat
/- The yard's states: what the fields of a kind are. -/
namespace Go.Proofs.YtdgoompjoeffcaaGreat
open Pm
attribute [local irreducible] Wait CallT CallW NextT Le Weak
def yA (l : List Int) : AV := .agg (l.map iA)
/-- The fields of a kind, the lowest first: base, cell. -/
def kindF (k : Int) : List (Nat × Nat) :=
  if k = 1 then [(128, 3)] else if k = 2 then [(128, 3)] else if k = 3 then [(2, 2), (128, 3), (4, 7)] else if k = 4 then [(2, 2), (128, 3), (128, 4)]
  else if k = 5 then [(2, 2), (3, 3), (3, 4)] else if k = 6 then [(2, 2), (3, 3), (3, 4)] else if k = 7 then [(2, 2), (2, 5), (128, 3)] else if k = 8 then [(2, 2), (8, 5), (4, 6), (4, 7), (128, 3)]
  else if k = 9 then [(2, 8), (4, 6), (128, 3)] else if k = 10 then [(4, 5), (128, 3), (256, 9)] else if k = 11 then [(256, 9)] else if k = 12 then [(128, 3), (256, 9)] else if k = 13 then [(2, 5), (128, 3)] else []
def fA (id : Nat) (p : Nat × Nat) : AV := .agg [iA p.1, .ptr id 10 0 p.2]
def fsV (F : List (Nat × Nat)) (id : Nat) : AV := match F with
  | [] => .v (.slice none 0 0)
  | _ => .sl id 2 0 F.length
def fsH (F : List (Nat × Nat)) (id : Nat) : List (Option Blk) := match F with
  | [] => []
  | _ => [some (.row 143 2 (F.map (fA id)))]
theorem ten_of {α : Type} (l : List α) (h : l.length = 10) : ∃ a b c d e f g i j k, l = [a, b, c, d, e, f, g, i, j, k] := by
  match l, h with
  | [a, b, c, d, e, f, g, i, j, k], _ => exact ⟨a, b, c, d, e, f, g, i, j, k, rfl⟩
theorem fields_con (l : List Int) (hl : l.length = 10) : Con Tryz.prog 91 [.ptr 0 10 0 0] [some (.row 106 10 [yA l])]
    fun x y => x = fsV (kindF (l.getD 0 0)) 1 ∧ y = some (.row 106 10 [yA l]) :: fsH (kindF (l.getD 0 0)) 0 := by
  obtain ⟨k, d, s, s1, s2, ph, as1, se, ro, co, rfl⟩ := ten_of l hl
  refine con_run 1000 Tryz.func91 rfl Tryz.results91 Tryz.ntmps91 (Nat.le_of_ble_eq_true rfl) ?_
  simp -implicitDefEqProofs only [go_sem, yA, iA]
  (repeat' (first | exact trivial | contradiction | exact ⟨_, rfl⟩ | refine And.intro ?_ ?_ | (refine om ?_; omega)  | (refine wait_draw 1000 mixed (by decide +kernel) ?_; simp -implicitDefEqProofs only [go_sem]) | intro _))
  all_goals simp_all [kindF, fsV, fsH, fA, iA]
end Go.Proofs.YtdgoompjoeffcaaGreat
/- The yard's states: which fields fit together; the reference's tables. -/
namespace Go.Proofs.YtdgoompjoeffcaaGreat
open Pm
attribute [local irreducible] Wait CallT CallW NextT Le Weak
def properB (l : List Int) : Bool :=
  if 96 < l.getD 3 0 ∨ 96 < l.getD 4 0 ∨ 2 < l.getD 6 0 then false
  else if l.getD 0 0 = 0 ∨ l.getD 0 0 = 14 then decide (l.getD 1 0 = 0)
  else if l.getD 0 0 = 3 then decide (l.getD 7 0 ≠ 3 ∧ (l.getD 3 0 ≠ 0 ∨ l.getD 7 0 = 0))
  else if l.getD 0 0 = 8 then if 6 < l.getD 5 0 ∨ l.getD 7 0 = 3 ∨ (l.getD 3 0 = 0 ∧ l.getD 7 0 ≠ 0) then false else decide (l.getD 5 0 ≠ 4 ∨ (l.getD 3 0 = 1 ∧ l.getD 7 0 = 2))
  else if l.getD 0 0 = 10 then if l.getD 5 0 = 0 ∨ l.getD 5 0 = 1 then decide (l.getD 3 0 = 0) else if l.getD 5 0 = 2 then decide ((l.getD 3 0 = 5 ∨ 24 ≤ l.getD 3 0) ∧ 1 ≤ l.getD 9 0) else false
  else if l.getD 0 0 = 11 then decide (1 ≤ l.getD 9 0)
  else if l.getD 0 0 = 12 then decide (1 ≤ l.getD 9 0 ∧ 24 ≤ l.getD 3 0)
  else if l.getD 0 0 = 13 then decide (l.getD 5 0 = 1 ∨ l.getD 3 0 = 0)
  else true
theorem proper_pc (l : List Int) (hl : l.length = 10) : PCon Tryz.prog 92 [yA l] (· = .v (.bool (properB l))) := by
  obtain ⟨k, d, s, s1, s2, ph, as1, se, ro, co, rfl⟩ := ten_of l hl
  refine pcon_run 1000 Tryz.func92 rfl Tryz.results92 Tryz.ntmps92 (Nat.le_of_ble_eq_true rfl) ?_
  simp -implicitDefEqProofs only [go_sem, yA, iA]
  (repeat' (first | exact trivial | contradiction | exact ⟨_, rfl⟩ | refine And.intro ?_ ?_ | (refine om ?_; omega)  | (refine wait_draw 1000 mixed (by decide +kernel) ?_; simp -implicitDefEqProofs only [go_sem]) | intro _))
  all_goals simp_all [properB]
  all_goals (first | omega | exact Bool.beq_eq_decide_eq _ _ | (refine bool_eq ?_; simp only [Bool.and_eq_true, Bool.or_eq_true, Bool.not_eq_true', decide_eq_true_eq, beq_iff_eq, bne_iff_ne, decide_eq_false_iff_not, ne_eq, Bool.true_eq, Bool.false_eq, iff_self]; done) | (refine bool_eq ?_; simp only [Bool.and_eq_true, Bool.or_eq_true, Bool.not_eq_true', decide_eq_true_eq, beq_iff_eq, bne_iff_ne, decide_eq_false_iff_not, ne_eq, Bool.true_eq, Bool.false_eq, iff_self]; omega))
def rightB (l : List Int) : Bool :=
  if (l.getD 0 0 ≠ 5 ∧ l.getD 0 0 ≠ 6) ∧ (97 ≤ l.getD 3 0 ∨ 97 ≤ l.getD 4 0) then false
  else if l.getD 7 0 = 3 ∨ (l.getD 7 0 ≠ 0 ∧ l.getD 3 0 = 0) ∨ l.getD 6 0 = 3 then false
  else if l.getD 0 0 = 8 then decide (l.getD 5 0 ≤ 6 ∧ (l.getD 5 0 ≠ 4 ∨ (l.getD 3 0 = 1 ∧ l.getD 7 0 = 2)))
  else if l.getD 0 0 = 10 then if l.getD 5 0 = 3 then false else if l.getD 5 0 ≠ 2 then decide (l.getD 3 0 = 0) else decide ((l.getD 3 0 = 5 ∨ 24 ≤ l.getD 3 0) ∧ 1 ≤ l.getD 9 0)
  else if l.getD 0 0 = 13 then decide (l.getD 5 0 = 1 ∨ l.getD 3 0 = 0)
  else if l.getD 0 0 = 11 then decide (1 ≤ l.getD 9 0)
  else if l.getD 0 0 = 12 then decide (1 ≤ l.getD 9 0 ∧ 24 ≤ l.getD 3 0)
  else true
theorem right_pc (l : List Int) (hl : l.length = 10) : PCon Tryz.prog 84 [yA l] (· = .v (.bool (rightB l))) := by
  obtain ⟨k, d, s, s1, s2, ph, as1, se, ro, co, rfl⟩ := ten_of l hl
  refine pcon_run 1000 Tryz.func84 rfl Tryz.results84 Tryz.ntmps84 (Nat.le_of_ble_eq_true rfl) ?_
  simp -implicitDefEqProofs only [go_sem, yA, iA]
  (repeat' (first | exact trivial | contradiction | exact ⟨_, rfl⟩ | refine And.intro ?_ ?_ | (refine om ?_; omega)  | (refine wait_draw 1000 mixed (by decide +kernel) ?_; simp -implicitDefEqProofs only [go_sem]) | intro _))
  all_goals simp_all [rightB]
  all_goals (first | omega | exact Bool.beq_eq_decide_eq _ _ | (refine bool_eq ?_; simp only [Bool.and_eq_true, Bool.or_eq_true, Bool.not_eq_true', decide_eq_true_eq, beq_iff_eq, bne_iff_ne, decide_eq_false_iff_not, ne_eq, Bool.true_eq, Bool.false_eq, iff_self]; done) | (refine bool_eq ?_; simp only [Bool.and_eq_true, Bool.or_eq_true, Bool.not_eq_true', decide_eq_true_eq, beq_iff_eq, bne_iff_ne, decide_eq_false_iff_not, ne_eq, Bool.true_eq, Bool.false_eq, iff_self]; omega))
end Go.Proofs.YtdgoompjoeffcaaGreat
/- The yard's states: the reference's tables. -/
namespace Go.Proofs.YtdgoompjoeffcaaGreat
open Pm
attribute [local irreducible] Wait CallT CallW NextT Le Weak
def fieldE (l : List Int) (f : Int) : Int :=
  if f = 0 then l.getD 2 0 else if f = 1 then l.getD 3 0 else if f = 2 then l.getD 4 0 else if f = 3 then l.getD 5 0 else if f = 4 then l.getD 6 0 else if f = 5 then l.getD 7 0 else if f = 6 then l.getD 8 0 else l.getD 9 0
theorem field_pc (l : List Int) (hl : l.length = 10) (f : Int) : PCon Tryz.prog 82 [yA l, iA f] (· = iA (fieldE l f)) := by
  obtain ⟨k, d, s, s1, s2, ph, as1, se, ro, co, rfl⟩ := ten_of l hl
  refine pcon_run 1000 Tryz.func82 rfl Tryz.results82 Tryz.ntmps82 (Nat.le_of_ble_eq_true rfl) ?_
  simp -implicitDefEqProofs only [go_sem, yA, iA]
  (repeat' (first | exact trivial | contradiction | exact ⟨_, rfl⟩ | refine And.intro ?_ ?_ | (refine om ?_; omega)  | (refine wait_draw 1000 mixed (by decide +kernel) ?_; simp -implicitDefEqProofs only [go_sem]) | intro _))
  all_goals simp_all [fieldE]
def withE (l : List Int) (f v : Int) : List Int :=
  if f = 0 then l.set 2 v else if f = 1 then l.set 3 v else if f = 2 then l.set 4 v else if f = 3 then l.set 5 v else if f = 4 then l.set 6 v else if f = 5 then l.set 7 v else if f = 6 then l.set 8 v else l.set 9 v
theorem with_pc (l : List Int) (hl : l.length = 10) (f v : Int) : PCon Tryz.prog 83 [yA l, iA f, iA v] (· = yA (withE l f v)) := by
  obtain ⟨k, d, s, s1, s2, ph, as1, se, ro, co, rfl⟩ := ten_of l hl
  refine pcon_run 1000 Tryz.func83 rfl Tryz.results83 Tryz.ntmps83 (Nat.le_of_ble_eq_true rfl) ?_
  simp -implicitDefEqProofs only [go_sem, yA, iA]
  (repeat' (first | exact trivial | contradiction | exact ⟨_, rfl⟩ | refine And.intro ?_ ?_ | (refine om ?_; omega)  | (refine wait_draw 1000 mixed (by decide +kernel) ?_; simp -implicitDefEqProofs only [go_sem]) | intro _))
  all_goals simp_all [withE, iA]
def basesA (k : Int) : AV := .tup [.fsl 1 ((kindF k).map fun p => iA p.1), .fsl 1 ((kindF k).map fun p => iA (p.2 - 2))]
theorem bases_pc (k : Int) : PCon Tryz.prog 81 [iA k] (· = basesA k) := by
  refine PCon.upto ?_
  refine pcon_run 1000 Tryz.func81 rfl Tryz.results81 Tryz.ntmps81 (Nat.le_of_ble_eq_true rfl) ?_
  simp -implicitDefEqProofs only [go_sem, iA]
  (repeat' (first | exact trivial | contradiction | exact ⟨_, rfl⟩ | refine And.intro ?_ ?_ | (refine om ?_; omega)  | (refine wait_draw 1000 mixed (by decide +kernel) ?_; simp -implicitDefEqProofs only [go_sem]) | intro _))
  all_goals simp [basesA, kindF, *, iA]
  all_goals first | exact Le.refl _ | exact Le.tup (.cons (Le.nil 1) (.cons (Le.nil 1) .nil))
end Go.Proofs.YtdgoompjoeffcaaGreat
