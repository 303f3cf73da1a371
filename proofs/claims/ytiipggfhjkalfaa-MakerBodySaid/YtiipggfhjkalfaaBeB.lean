/- MakerBody answers true for every input, and leaves what it was given. No condition. -/
import Derived.Test.YtiipggfhjkalfaaBeA
import Derived.Test.YtiipggfhjkalfaaPmV
import Derived.Test.YtiipggfhjkalfaaRows
import Derived.ProofKit
import Derived.OpenShut
import Derived.JoinedCond
set_option linter.constructorNameAsVariable false
set_option linter.unusedVariables false
namespace Go.Proofs.Ytiipggfhjkalfaa
open Pm
open Go.ChangeSpec Go.ChangeShapes Go.WideShapes Go.ChangeAt Go.RowKit
theorem own6 : ownKnob Try.prog.godebug = none := by kernel_rfl
theorem laid6 : laidOutB Try.prog = true := by kernel_rfl
theorem one_cell6 {W : World} {b : Nat} {v : Value} {t e : TypeId} (ht : Try.prog.underlying t = some (.slice e)) (h : Value.okWide Try.prog W .any b t v) {x : Value} (hx : v.cells.toList = [x]) : v = x := by
  unfold Value.okWide at h
  rw [ht] at h
  cases v <;> first | (simp [Value.cells] at hx; exact hx) | (exfalso; simp [Cell.okWide, Cell.ok, ht] at h; done)
theorem tape_rd {H : Type} {enc : TypeId × Value → H} {W : World} {fuel : Nat} {cs : List Value} {d : DataW H} {ps : List MemPlace} (h : DataW.trod enc Try.prog W 0 (fun _ => true) true fuel 44 cs = some (d, ps)) :
    ∃ (l : List Int) (v : Value), cs = [v] ∧ RV W noρ noD (zOf W) (.fsl 1 (l.map iA)) v := by
  obtain ⟨l, v, e, hrv, -⟩ := slice_reads (α := Int) iA (sz := 1) (ht := (Try.underlying44 : Try.prog.underlying 44 = some (.slice 3))) (hsz := by kernel_rfl) (rd := fun n cs d ps hlen hrd => by
    obtain ⟨x, hx, hw⟩ := int_reads un_3 hrd
    subst hx
    exact ⟨x, rfl, fun j hj => by
      have : j = 0 := by omega
      subst this
      exact ⟨.v _, rfl⟩⟩) h
  exact ⟨l, v, e, hrv⟩
theorem tape_len {W : World} {D Z : Nat → Prop} {ρ : Nat → Option Nat} {l : List Int} {v : Value} (h : RV W ρ D Z (.fsl 1 (l.map iA)) v) : l.length < 9223372036854775808 := by
  obtain ⟨_, _, _, _, h1, h2, _⟩ := RV.fsl_inv h
  simp only [List.length_map] at h1
  have h3 : maxLen ≤ 9223372036854775807 := by decide
  omega
set_option maxRecDepth 100000 in
theorem contract6 (H : Type) (enc : TypeId × Value → H) (W : World) (base : Nat) (args : Array Value) (ds gs : List (DataW H)) (before : List MemPlace)
    (hval : ∀ (j : Nat) t v, Try.f6.params[j]? = some t → args[j]? = some v → Value.okWide Try.prog W .any base t v)
    (hW : DataW.Whole enc Try.prog Try.f6.params.toList Rows.makerBodySpec.vars false W args.toList ds gs before) :
    Calls Try.prog 6 args W fun e W' => ∃ v, e = .returned v ∧ Rows.makerBodySpec.post enc Try.prog Try.f6 false true false false W args v W' := by
  have hW' := hW
  obtain ⟨p, q, hA0, hV, rfl, _, _⟩ := hW
  have hA : DataW.TrodAll enc Try.prog W 0 (fun _ => true) true Try.f6.params.toList args.toList ds p := hA0
  rw [Try.params6] at hA hval
  obtain ⟨v0, v1, d0, d1, p0, p1, rfl, rfl, rfl, ⟨n0, h0⟩, ⟨n1, h1⟩⟩ := trodAll_two hA
  obtain ⟨rfl, rfl⟩ := trodVars_none hV
  obtain ⟨n, e0, _⟩ := int_reads un_2 h0
  have e0' := one_int un_2 (hval 0 2 v0 rfl rfl) e0
  subst e0'
  obtain ⟨l, v, e1, r1⟩ := tape_rd h1
  have e1' := one_cell6 Try.underlying44 (hval 1 44 v1 rfl rfl) e1
  subst e1'
  refine (law6 n l (tape_len r1) W (zOf W) _ rfl (fun j hj => ?_) (fun k hk => hk) ⟨fun _ _ hg => (nomatch hg), fun _ hg => (nomatch hg)⟩).mono ?_
  · match j, hj with
    | 0, _ => exact .v _
    | 1, _ => exact r1
  · rintro e W' ⟨r, v, Z', rfl, rfl, hv, hb, _⟩
    cases hv.v_inv
    exact ⟨_, rfl, post_true laid6 hW' rfl (by rw [Try.params6]; intro t ht; simp at ht; rcases ht with rfl | rfl <;> exact ⟨by kernel_rfl, of_decide_eq_true (by kernel_rfl)⟩) rfl un_4 (fun ds' _ hd => by subst hd; rfl) hb⟩
set_option maxRecDepth 100000 in
theorem lifted6 (os : Os) (started : os.Started) (H : Type) (enc : TypeId × Value → H) :
    ReturnsInHanded {} Try.checked os 6 .any (Rows.makerBodySpec.pre6 enc Try.prog Try.f6 Rows.makerBodyRow.domain false) (Rows.makerBodySpec.post enc Try.prog Try.f6 false true false false) := by
  refine returnsInHanded_of_change (C := Try.checked) own6 started (by kernel_rfl) Try.func6
    (ChangeSpec.witness6 (enc := enc) (C := Try.checked) false ⟨#[], #[.int .i64 0, .slice none 0 0], []⟩ 8 (by kernel_rfl) (by kernel_rfl) (by kernel_rfl) (by kernel_rfl)) ?_
  intro W base args ds gs before hval hW _ _
  exact contract6 H enc W base args ds gs before hval hW
theorem makerBody_proved : Rows.MakerBodySaid :=
  OpenClaim.holds_of_wide 6 Try.f6 rfl rfl rfl rfl rfl rfl rfl ⟨rfl, rfl, rfl, rfl, rfl⟩ rfl rfl rfl rfl rfl (by kernel_rfl) Try.func6 (by kernel_rfl)
    (of_decide_eq_true (by kernel_rfl)) (by unfold Func.isWrapper; first | (rw [if_pos (by decide +kernel)]; kernel_rfl) | (rw [if_neg (by decide +kernel)]; exact ⟨rfl, rfl⟩))
    (fun os started H enc _ => lifted6 os started H enc)
#print axioms makerBody_proved
end Go.Proofs.Ytiipggfhjkalfaa
