/- SquareCuts answers true for every input, and leaves what it was given. -/
import Derived.Test.YtiipggfhjkalfaaSqM
import Derived.ProofKit
import Derived.OpenShut
import Derived.JoinedCond
set_option linter.constructorNameAsVariable false
set_option linter.unusedVariables false
namespace Go.Proofs.Ytiipggfhjkalfaa
open Pm
open Go.ChangeShapes Go.WideShapes Go.ChangeAt Go.RowKit
theorem own : ownKnob Try.prog.godebug = none := by kernel_rfl
theorem laid : laidOutB Try.prog = true := by kernel_rfl
theorem one_cell {W : World} {b : Nat} {v : Value} {t e : TypeId} (ht : Try.prog.underlying t = some (.slice e)) (h : Value.okWide Try.prog W .any b t v) {x : Value} (hx : v.cells.toList = [x]) : v = x := by
  unfold Value.okWide at h
  rw [ht] at h
  cases v <;> first | (simp [Value.cells] at hx; exact hx) | (exfalso; simp [Cell.okWide, Cell.ok, ht] at h; done)
theorem fsl_len {W : World} {D Z : Nat → Prop} {ρ : Nat → Option Nat} {l : List Cell} {v : Value} (h : RV W ρ D Z (cellsA l) v) : l.length ≤ 9223372036854775807 := by
  obtain ⟨_, _, _, _, h1, h2, _⟩ := RV.fsl_inv h
  simp only [List.length_map] at h1
  have h3 : maxLen ≤ 9223372036854775807 := by decide
  omega
theorem sq_len {W : World} {D Z : Nat → Prop} {ρ : Nat → Option Nat} {lev : Int} {l : List Cell} {v : Value} (h : RV W ρ D Z (sqA lev l) v) : l.length ≤ 9223372036854775807 := by
  obtain ⟨_, _, _, h2⟩ := RV.agg_inv h
  exact fsl_len (h2 1 (by simp))
set_option maxRecDepth 100000 in
theorem contract3 (H : Type) (enc : TypeId × Value → H) (W : World) (base : Nat) (args : Array Value) (ds gs : List (DataW H)) (before : List MemPlace)
    (hval : ∀ (j : Nat) t v, Try.f3.params[j]? = some t → args[j]? = some v → Value.okWide Try.prog W .any base t v)
    (hW : DataW.Whole enc Try.prog Try.f3.params.toList Rows.squareCutsSpec.vars false W args.toList ds gs before) :
    Calls Try.prog 3 args W fun e W' => ∃ v, e = .returned v ∧ Rows.squareCutsSpec.post enc Try.prog Try.f3 false true false false W args v W' := by
  have hW' := hW
  obtain ⟨p, q, hA0, hV, rfl, _, _⟩ := hW
  have hA : DataW.TrodAll enc Try.prog W 0 (fun _ => true) true Try.f3.params.toList args.toList ds p := hA0
  rw [Try.params3] at hA hval
  obtain ⟨v0, v1, v2, d0, d1, d2, p0, p1, p2, rfl, rfl, rfl, ⟨n0, h0⟩, ⟨n1, h1⟩, ⟨n2, h2⟩⟩ := trodAll_three hA
  obtain ⟨rfl, rfl⟩ := trodVars_none hV
  obtain ⟨pl, v, e0, r0, l0⟩ := cells_rd h0
  have e0' := one_cell un_22 (hval 0 22 v0 rfl rfl) e0
  subst e0'
  have k1 := hval 1 24 v1 rfl rfl
  have k2 := hval 2 25 v2 rfl rfl
  unfold Value.okWide at k1 k2
  rw [Try.underlying24] at k1
  rw [Try.underlying25] at k2
  obtain ⟨c1, rfl, _, _⟩ := k1
  obtain ⟨c2, rfl, _, _⟩ := k2
  obtain ⟨lev, l, da, db, rfl, r1, l1⟩ := sq_rd (cs := c1) h1
  obtain ⟨x, y, z, r2⟩ := q_rd (cs := c2) h2
  have b0 := fsl_len r0
  have b1 := sq_len r1
  refine (law3 pl l x y z lev (by omega) (by omega) W (zOf W) _ rfl (fun i hi => ?_) (fun k hk => hk)).mono ?_
  · match i, hi with
    | 0, _ => exact r0
    | 1, _ => exact r1
    | 2, _ => exact r2
  · rintro e W' ⟨r, v, Z', rfl, rfl, hv, hb, _⟩
    cases hv.v_inv
    exact ⟨_, rfl, post_true laid hW' rfl (by rw [Try.params3]; intro t ht; simp at ht; rcases ht with rfl | rfl | rfl <;> exact ⟨by kernel_rfl, of_decide_eq_true (by kernel_rfl)⟩) rfl un_4 (fun ds' _ hd => by subst hd; rfl) hb⟩
set_option maxRecDepth 100000 in
theorem lifted3 (os : Os) (started : os.Started) (H : Type) (enc : TypeId × Value → H) :
    ReturnsInHanded {} Try.checked os 3 .any (Rows.squareCutsSpec.pre6 enc Try.prog Try.f3 Rows.squareCutsRow.domain false) (Rows.squareCutsSpec.post enc Try.prog Try.f3 false true false false) := by
  refine returnsInHanded_of_change (C := Try.checked) own started (by kernel_rfl) Try.func3
    (ChangeSpec.witness6 (enc := enc) (C := Try.checked) false ⟨#[], #[.slice none 0 0, .agg #[.int .i64 0, .slice none 0 0], .agg #[.int .i64 0, .int .i64 0, .int .i64 0]], []⟩ 8 (by kernel_rfl) (by kernel_rfl) (by kernel_rfl) (by kernel_rfl)) ?_
  intro W base args ds gs before hval hW _ _
  exact contract3 H enc W base args ds gs before hval hW
theorem proved : Rows.SquareCutsSaid :=
  OpenClaim.holds_of_wide 3 Try.f3 rfl rfl rfl rfl rfl rfl rfl ⟨rfl, rfl, rfl, rfl, rfl⟩ rfl rfl rfl rfl rfl (by kernel_rfl) Try.func3 (by kernel_rfl)
    (of_decide_eq_true (by kernel_rfl)) (by unfold Func.isWrapper; first | (rw [if_pos (by decide +kernel)]; kernel_rfl) | (rw [if_neg (by decide +kernel)]; exact ⟨rfl, rfl⟩))
    (fun os started H enc _ => lifted3 os started H enc)
end Go.Proofs.Ytiipggfhjkalfaa
