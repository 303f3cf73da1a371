/- CellsYardNext answers true for every input, and leaves what it was given. No condition. The card. -/
import Derived.Test.YthflneagfnpfkaaDoorYnW
import Derived.Test.YthflneagfnpfkaaDoorPmV
import Derived.Test.YthflneagfnpfkaaDoorRows
import Derived.Test.YthflneagfnpfkaaDoorCards
import Derived.Test.YthflneagfnpfkaaDoorTie
import Derived.ProofKit
import Derived.OpenShut
import Derived.JoinedCond
import Derived.LaidHandle
set_option linter.constructorNameAsVariable false
set_option linter.unusedVariables false
namespace Go.Proofs.YthflneagfnpfkaaDoor
open Pm
open Go.ChangeSpec Go.ChangeShapes Go.WideShapes Go.ChangeAt Go.RowKit
/-- An array of four whole numbers. -/
theorem four_reads {H : Type} {enc : TypeId × Value → H} {W : World} {n : Nat} {cs : List Value} {x : DataW H × List MemPlace} (h : DataW.trod enc Tryd.prog W 0 (fun _ => true) true n 22 cs = some x) :
    ∃ a b c d : Int, cs = [.int .i64 a, .int .i64 b, .int .i64 c, .int .i64 d] ∧ a ≤ 9223372036854775807 ∧ b ≤ 9223372036854775807 ∧ c ≤ 9223372036854775807 ∧ d ≤ 9223372036854775807 := by
  obtain ⟨xs, m, _, rfl, hl, hlen, hf⟩ := DataW.trod_array Tryd.underlying22 h
  have hsz : Tryd.prog.cellsOf 22 = 4 := by kernel_rfl
  have he : Tryd.prog.cellsOf 3 = 1 := by kernel_rfl
  rw [hsz] at hl
  rw [he] at hf
  have each : ∀ i : Nat, i < 4 → ∃ y, cs[i]? = some (.int .i64 y) ∧ y ≤ 9223372036854775807 := fun i hi => by
    have h5 := hf i hi
    obtain ⟨r, hr⟩ : ∃ r, xs[i]? = some r := ⟨xs[i]'(by omega), List.getElem?_eq_getElem (by omega)⟩
    rw [hr] at h5
    obtain ⟨y, h6, h7⟩ := int_reads un_3 h5
    refine ⟨y, ?_, (i64_wf h7).2⟩
    have h8 := congrArg (fun l : List Value => l[0]?) h6
    simpa using h8
  match cs, hl with
  | [c0, c1, c2, c3], _ =>
    obtain ⟨a, ha, ha'⟩ := each 0 (by omega)
    obtain ⟨b, hb, hb'⟩ := each 1 (by omega)
    obtain ⟨c, hc, hc'⟩ := each 2 (by omega)
    obtain ⟨d, hd, hd'⟩ := each 3 (by omega)
    simp at ha hb hc hd
    subst ha hb hc hd
    exact ⟨a, b, c, d, rfl, ha', hb', hc', hd'⟩
theorem rv_four {W : World} {ρ : Nat → Option Nat} {D Z : Nat → Prop} {x : Array Value} {a b c d : Int} (h : x.toList = [.int .i64 a, .int .i64 b, .int .i64 c, .int .i64 d]) : RV W ρ D Z (tupN a b c d) (.agg x) := by
  obtain ⟨xl⟩ := x
  simp only at h
  subst h
  refine .agg (by simp) fun i hi => ?_
  match i, hi with
  | 0, _ => exact .v _
  | 1, _ => exact .v _
  | 2, _ => exact .v _
  | 3, _ => exact .v _
theorem own7 : ownKnob Tryd.prog.godebug = none := by kernel_rfl
theorem laid7 : laidOutB Tryd.prog = true := by kernel_rfl
abbrev bs (l : List UInt8) : Value := .string ⟨l.toArray⟩
/-- A world that meets the condition. -/
noncomputable def laidW (os : Os) : World :=
  let w0 := World.holding Tryd.prog os ⟨#[], #[], []⟩
  { w0 with heap := (w0.heap.modify 0 fun
      | .cells _ t frozen => .cells #[bs [], bs [48], bs [49], bs [48, 48], bs [48, 49], bs [49, 48], bs [49, 49], bs [48, 48, 48]] t frozen
      | o => o).modify 1 fun
      | .cells _ t frozen => .cells #[bs [48, 48, 48, 48], .int .i64 9, bs [48, 48, 48, 49], .int .i64 10, bs [48, 48, 49], .int .i64 11, bs [48, 49, 48], .int .i64 12, bs [48, 49, 49], .int .i64 17, bs [49, 48, 48], .int .i64 18, bs [49, 48, 49], .int .i64 19, bs [49, 49, 48], .int .i64 20, bs [49, 49, 49], .int .i64 25] t frozen
      | o => o }
theorem laidW_met (os : Os) (args : Array Value) : laidMetH Tryd.prog Rows.cellsYardNextRow.laid ((laidW os).forCall (fun _ _ => 0) ⟨#[], args, []⟩).memory :=
  laidMetH_of_parts3 (fuel := 8) (laidMet_of_run' 8 (by kernel_rfl) (by kernel_rfl)) (by kernel_rfl) (by kernel_rfl)
set_option maxRecDepth 100000 in
theorem contract7 (H : Type) (enc : TypeId × Value → H) (W : World) (base : Nat) (args : Array Value) (ds gs : List (DataW H)) (before : List MemPlace)
    (hval : ∀ (j : Nat) t v, Tryd.f3.params[j]? = some t → args[j]? = some v → Value.okWide Tryd.prog W .any base t v)
    (hW : DataW.Whole enc Tryd.prog Tryd.f3.params.toList Rows.cellsYardNextSpec.vars false W args.toList ds gs before) :
    Calls Tryd.prog 3 args W fun e W' => ∃ v, e = .returned v ∧ Rows.cellsYardNextSpec.post enc Tryd.prog Tryd.f3 false true false false W args v W' := by
  have hW' := hW
  obtain ⟨p, q, hA0, hV, rfl, _, _⟩ := hW
  have hA : DataW.TrodAll enc Tryd.prog W 0 (fun _ => true) true Tryd.f3.params.toList args.toList ds p := hA0
  rw [Tryd.params3] at hA hval
  obtain ⟨v0, v1, d0, d1, p0, p1, rfl, rfl, rfl, ⟨n0, h0⟩, ⟨n1, h1⟩⟩ := trodAll_two hA
  obtain ⟨rfl, rfl⟩ := trodVars_none hV
  obtain ⟨s, e0, hs⟩ := int_reads un_3 h0
  have e0' := one_int un_3 (hval 0 3 v0 rfl rfl) e0
  subst e0'
  have k1 := hval 1 22 v1 rfl rfl
  unfold Value.okWide at k1
  rw [Tryd.underlying22] at k1
  obtain ⟨c1, rfl, _, _⟩ := k1
  obtain ⟨a, b, c, d, e1, ha, hb, hc, hd⟩ := four_reads h1
  refine (law7_pc s a b c d (i64_wf hs).2 ha hb hc hd W (zOf W) _ rfl (fun j hj => ?_) (fun k hk => hk)).mono ?_
  · match j, hj with
    | 0, _ => exact .v _
    | 1, _ => exact rv_four (x := c1) e1
  · rintro e W' ⟨r, v, Z', rfl, rfl, hv, hb, _⟩
    cases hv.v_inv
    exact ⟨_, rfl, post_true laid7 hW' rfl (by rw [Tryd.params3]; intro t ht; simp at ht; rcases ht with rfl | rfl <;> exact ⟨by kernel_rfl, of_decide_eq_true (by kernel_rfl)⟩) rfl un_4 (fun ds' _ hd => by subst hd; rfl) hb⟩
set_option maxRecDepth 100000 in
theorem lifted7 (os : Os) (started : os.Started) (H : Type) (enc : TypeId × Value → H) :
    ReturnsInHanded {} Tryd.checked os 3 .any (fun w args => (Rows.cellsYardNextSpec.pre enc Tryd.prog Tryd.f3 [] false w args ∧ laidMetH Tryd.prog Rows.cellsYardNextRow.laid w) ∧ sizedMet enc Tryd.prog Tryd.f3 (OpenSpec.ofChange Rows.cellsYardNextSpec) false w args)
      (Rows.cellsYardNextSpec.post enc Tryd.prog Tryd.f3 false true false false) := by
  refine returnsInHanded_of_change_and (C := Tryd.checked) (X := fun w _ => laidMetH Tryd.prog Rows.cellsYardNextRow.laid w) (fun _ _ _ hh h => h.of_heap hh) own7 started (by kernel_rfl) Tryd.func3
    (ChangeSpec.witness_at (enc := enc) (C := Tryd.checked) (os := os) (X := fun w _ => laidMetH Tryd.prog Rows.cellsYardNextRow.laid w) false (laidW os) #[.int .i64 0, .agg #[.int .i64 0, .int .i64 0, .int .i64 0, .int .i64 0]] 8 rfl (by kernel_rfl) (by kernel_rfl) (by kernel_rfl) (by kernel_rfl) (by kernel_rfl) (laidW_met os _)) ?_
  intro W base args ds gs before hval hW _ _ _ _
  exact contract7 H enc W base args ds gs before hval hW
theorem cellsYardNext_proved : Rows.CellsYardNextSaid :=
  OpenClaim.holds_of_wide 3 Tryd.f3 rfl rfl rfl rfl rfl rfl rfl ⟨rfl, rfl, rfl, rfl, rfl⟩ rfl rfl rfl rfl rfl (by kernel_rfl) Tryd.func3 (by kernel_rfl)
    (of_decide_eq_true (by kernel_rfl)) (by unfold Func.isWrapper; first | (rw [if_pos (by decide +kernel)]; kernel_rfl) | (rw [if_neg (by decide +kernel)]; exact ⟨rfl, rfl⟩))
    (fun os started H enc _ => lifted7 os started H enc)
theorem cellsYardNext_card : Rows.CellsYardNextCardSaid :=
  Claim7.holds_tied_plain_at .later [] [.data, .data] true (true, "ebbca0ac965f1437d61374b3e0a24a6e9667626be9a5d16d2ea9ba7e0b27cedf") false
    cellsYardNext_proved (fun _ h => by cases h) (by kernel_rfl) (fun _ h => by cases h) cellsYardNext_row_tie rfl ⟨rfl, rfl⟩ (by kernel_rfl) rfl
    (fun f fn hf hfn => by
      obtain rfl : f = 3 := Option.some.inj ((show Tryd.prog.funcNamed "ramet/rametlaw01.CellsYardNext" = some 3 by kernel_rfl).symm.trans hf) |>.symm
      obtain rfl : fn = Tryd.f3 := (Option.some.inj (Tryd.func3.symm.trans hfn)).symm
      exact ⟨by kernel_rfl, fun j t ht => by
        rw [Tryd.params3] at ht
        have h3 : t = 3 ∨ t = 22 := by
          rcases j with _ | _ | j
          · simp at ht; exact .inl ht.symm
          · simp at ht; exact .inr ht.symm
          · simp at ht
        rcases h3 with rfl | rfl
        · exact (show Tryd.prog.wantsStandIn 3 = false by kernel_rfl)
        · exact (show Tryd.prog.wantsStandIn 22 = false by kernel_rfl)⟩)
    (by kernel_rfl)
end Go.Proofs.YthflneagfnpfkaaDoor
