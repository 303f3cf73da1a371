/- CellsYard answers true for every input, and leaves what it was given. No condition. -/
import Derived.Test.YtiipggfhjkalfaaYaK
import Derived.Test.YtiipggfhjkalfaaPmV
import Derived.Test.YtiipggfhjkalfaaRows
import Derived.ProofKit
import Derived.OpenShut
import Derived.JoinedCond
set_option linter.constructorNameAsVariable false
set_option linter.unusedVariables false
namespace Go.Proofs.Ytiipggfhjkalfaa
open Pm
open Go.ChangeSpec Go.ChangeShapes Go.WideShapes Go.ChangeAt Go.RowKit
theorem yard_reads {H : Type} {enc : TypeId × Value → H} {W : World} {n : Nat} {cs : List Value} {x : DataW H × List MemPlace} (h : DataW.trod enc Try.prog W 0 (fun _ => true) true n 37 cs = some x) :
    ∃ l : List Int, l.length = 10 ∧ cs = l.map (Value.int .i64) := by
  obtain ⟨l, h1, h2, _⟩ := ints_reads Try.underlying37 (by kernel_rfl) (fun i hi => by
    match i, hi with
    | 0, _ => exact ⟨_, rfl, rfl, by kernel_rfl, by kernel_rfl⟩
    | 1, _ => exact ⟨_, rfl, rfl, by kernel_rfl, by kernel_rfl⟩
    | 2, _ => exact ⟨_, rfl, rfl, by kernel_rfl, by kernel_rfl⟩
    | 3, _ => exact ⟨_, rfl, rfl, by kernel_rfl, by kernel_rfl⟩
    | 4, _ => exact ⟨_, rfl, rfl, by kernel_rfl, by kernel_rfl⟩
    | 5, _ => exact ⟨_, rfl, rfl, by kernel_rfl, by kernel_rfl⟩
    | 6, _ => exact ⟨_, rfl, rfl, by kernel_rfl, by kernel_rfl⟩
    | 7, _ => exact ⟨_, rfl, rfl, by kernel_rfl, by kernel_rfl⟩
    | 8, _ => exact ⟨_, rfl, rfl, by kernel_rfl, by kernel_rfl⟩
    | 9, _ => exact ⟨_, rfl, rfl, by kernel_rfl, by kernel_rfl⟩
    | n + 10, h => exact absurd h (by simp)) h
  exact ⟨l, h1, h2⟩
theorem rv_yard {W : World} {ρ : Nat → Option Nat} {D Z : Nat → Prop} {c : Array Value} {l : List Int} (h : c.toList = l.map (Value.int .i64)) : RV W ρ D Z (yA l) (.agg c) := by
  obtain ⟨cl⟩ := c
  simp only at h
  subst h
  refine .agg (by simp) fun i hi => ?_
  simp only [List.length_map] at hi
  have e1 : (l.map iA).getD i .junk = .v (.int .i64 (l.getD i 0)) := getD_iA l i hi
  have e2 : (l.map (Value.int .i64)).toArray.getD i undef = .int .i64 (l.getD i 0) := by simp [Array.getD, List.getD_eq_getElem?_getD, hi]
  rw [e1, e2]
  exact .v _
theorem own4 : ownKnob Try.prog.godebug = none := by kernel_rfl
theorem laid4 : laidOutB Try.prog = true := by kernel_rfl
set_option maxRecDepth 100000 in
theorem contract4 (H : Type) (enc : TypeId × Value → H) (W : World) (base : Nat) (args : Array Value) (ds gs : List (DataW H)) (before : List MemPlace)
    (hval : ∀ (j : Nat) t v, Try.f4.params[j]? = some t → args[j]? = some v → Value.okWide Try.prog W .any base t v)
    (hW : DataW.Whole enc Try.prog Try.f4.params.toList Rows.cellsYardSpec.vars false W args.toList ds gs before) :
    Calls Try.prog 4 args W fun e W' => ∃ v, e = .returned v ∧ Rows.cellsYardSpec.post enc Try.prog Try.f4 false true false false W args v W' := by
  have hW' := hW
  obtain ⟨p, q, hA0, hV, rfl, _, _⟩ := hW
  have hA : DataW.TrodAll enc Try.prog W 0 (fun _ => true) true Try.f4.params.toList args.toList ds p := hA0
  rw [Try.params4] at hA hval
  obtain ⟨v0, v1, v2, d0, d1, d2, p0, p1, p2, rfl, rfl, rfl, ⟨n0, h0⟩, ⟨n1, h1⟩, ⟨n2, h2⟩⟩ := trodAll_three hA
  obtain ⟨rfl, rfl⟩ := trodVars_none hV
  obtain ⟨s, e0, hs⟩ := int_reads un_3 h0
  have e0' := one_int un_3 (hval 0 3 v0 rfl rfl) e0
  subst e0'
  obtain ⟨i, e2, _⟩ := int_reads un_3 h2
  have e2' := one_int un_3 (hval 2 3 v2 rfl rfl) e2
  subst e2'
  have k1 := hval 1 37 v1 rfl rfl
  unfold Value.okWide at k1
  rw [Try.underlying37] at k1
  obtain ⟨c1, rfl, _, _⟩ := k1
  obtain ⟨l, hl, e1⟩ := yard_reads h1
  refine (law4 s i l (i64_wf hs).2 hl W (zOf W) _ rfl (fun j hj => ?_) (fun k hk => hk)).mono ?_
  · match j, hj with
    | 0, _ => exact .v _
    | 1, _ => exact rv_yard (c := c1) e1
    | 2, _ => exact .v _
  · rintro e W' ⟨r, v, Z', rfl, rfl, hv, hb, _⟩
    cases hv.v_inv
    exact ⟨_, rfl, post_true laid4 hW' rfl (by rw [Try.params4]; intro t ht; simp at ht; rcases ht with rfl | rfl | rfl <;> exact ⟨by kernel_rfl, of_decide_eq_true (by kernel_rfl)⟩) rfl un_4 (fun ds' _ hd => by subst hd; rfl) hb⟩
set_option maxRecDepth 100000 in
theorem lifted4 (os : Os) (started : os.Started) (H : Type) (enc : TypeId × Value → H) :
    ReturnsInHanded {} Try.checked os 4 .any (Rows.cellsYardSpec.pre6 enc Try.prog Try.f4 Rows.cellsYardRow.domain false) (Rows.cellsYardSpec.post enc Try.prog Try.f4 false true false false) := by
  refine returnsInHanded_of_change (C := Try.checked) own4 started (by kernel_rfl) Try.func4
    (ChangeSpec.witness6 (enc := enc) (C := Try.checked) false ⟨#[], #[.int .i64 0, .agg #[.int .i64 0, .int .i64 0, .int .i64 0, .int .i64 0, .int .i64 0, .int .i64 0, .int .i64 0, .int .i64 0, .int .i64 0, .int .i64 0], .int .i64 0], []⟩ 8 (by kernel_rfl) (by kernel_rfl) (by kernel_rfl) (by kernel_rfl)) ?_
  intro W base args ds gs before hval hW _ _
  exact contract4 H enc W base args ds gs before hval hW
theorem cellsYard_proved : Rows.CellsYardSaid :=
  OpenClaim.holds_of_wide 4 Try.f4 rfl rfl rfl rfl rfl rfl rfl ⟨rfl, rfl, rfl, rfl, rfl⟩ rfl rfl rfl rfl rfl (by kernel_rfl) Try.func4 (by kernel_rfl)
    (of_decide_eq_true (by kernel_rfl)) (by unfold Func.isWrapper; first | (rw [if_pos (by decide +kernel)]; kernel_rfl) | (rw [if_neg (by decide +kernel)]; exact ⟨rfl, rfl⟩))
    (fun os started H enc _ => lifted4 os started H enc)
end Go.Proofs.Ytiipggfhjkalfaa
