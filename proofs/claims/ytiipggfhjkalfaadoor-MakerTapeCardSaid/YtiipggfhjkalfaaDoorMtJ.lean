/- MakerTape answers true for every input, and leaves what it was given. No condition but what the card ties. The card. -/
import Derived.Test.YtiipggfhjkalfaaDoorMtI
import Derived.Test.YtiipggfhjkalfaaDoorPmV
import Derived.Test.YtiipggfhjkalfaaDoorRows
import Derived.Test.YtiipggfhjkalfaaDoorCards
import Derived.Test.YtiipggfhjkalfaaDoorTie
import Derived.ProofKit
import Derived.OpenShut
import Derived.JoinedCond
import Derived.LaidHandle
import Derived.ChangeMaps5
set_option linter.constructorNameAsVariable false
set_option linter.unusedVariables false
namespace Go.Proofs.YtiipggfhjkalfaaDoor
open Pm
open Go.ChangeSpec Go.ChangeShapes Go.WideShapes Go.ChangeAt Go.RowKit
/-! ### The package variable -/
def namesL : List (List UInt8) := [[], [115, 116, 97, 114, 116], [115, 116, 111, 112], [112, 111, 114, 116], [101, 110, 100], [102, 111, 114, 116, 104], [108, 101, 102, 116], [114, 105, 103, 104, 116]]
theorem gl_names : glA 0 = some (namesL.map fun s => .string (bs s)) := rfl
theorem strs_cells {H : Type} {enc : TypeId × Value → H} {P : Program} {w : World} {base : Nat} {sp : Nat → Bool} {held : Bool} {fuel : Nat} {t e : TypeId} {n : Nat} {cs : List Value} {ss : List (List UInt8)} {p : List MemPlace}
    (ht : P.underlying t = some (.array n e)) (he : P.underlying e = some .string) (hce : P.cellsOf e = 1) (hct : P.cellsOf t = n)
    (h : DataW.trod enc P w base sp held fuel t cs = some (.agg (ss.map fun s => .lit (.string s)), p)) : cs = ss.map fun s => Value.string (bs s) := by
  obtain ⟨xs, m, _, hx, hl, hlen, hf⟩ := DataW.trod_array ht h
  rw [hct] at hl
  rw [hce] at hf
  have hx1 : xs.map (·.1) = ss.map fun s => (DataW.lit (.string s) : DataW H) := by
    have := congrArg Prod.fst hx
    simpa using this.symm
  have hsl : ss.length = n := by
    have := congrArg List.length hx1
    simp at this
    omega
  apply List.ext_getElem?
  intro i
  by_cases hi : i < n
  · have h5 := hf i hi
    have hix : i < xs.length := by omega
    rw [List.getElem?_eq_getElem hix] at h5
    obtain ⟨s, hc, hr, _⟩ := DataW.trod_string he h5
    have h1 : cs[i]? = some (.string s) := by
      have := congrArg (fun l : List Value => l[0]?) hc
      simpa [List.getElem?_take, List.getElem?_drop] using this
    have h2 := congrArg (fun l : List (DataW H) => l[i]?) hx1
    have his : i < ss.length := by omega
    simp only [List.getElem?_map, List.getElem?_eq_getElem hix, List.getElem?_eq_getElem his, Option.map_some, Option.some.injEq, hr, DataW.lit.injEq, Lit.string.injEq] at h2
    rw [h1, List.getElem?_map, List.getElem?_eq_getElem his, Option.map_some, ← h2, ← bs_of]
  · rw [List.getElem?_eq_none (by omega), List.getElem?_eq_none (by simp; omega)]
theorem gl_of_laid {W : World} (h : laidMetH Tryd.prog Rows.makerTapeRow.laid W) : Gl W (zOf W) := by
  have h' : laidMet Tryd.prog Rows.makerTapeRow.laid W := h
  obtain ⟨ps, hL, _⟩ := h'
  obtain ⟨_, _, _, _, _, _, _, _, _, _, hL, _⟩ := hL
  obtain ⟨_, _, _, _, _, _, _, _, _, _, hL, _⟩ := hL
  obtain ⟨_, _, _, _, _, _, _, _, _, _, hL, _⟩ := hL
  obtain ⟨_, _, _, _, _, _, _, _, _, _, hL, _⟩ := hL
  obtain ⟨g, t, cs, fuel, p, q, hg, ht, hv, hd, _, _⟩ := hL
  have hg0 : Tryd.prog.globalNamed "ramet/maker.names" = some 0 := by kernel_rfl
  obtain rfl := Option.some.inj (hg0.symm.trans hg)
  have ht0 : (Tryd.prog.globals[0]?).map (·.type) = some 39 := by kernel_rfl
  obtain rfl := Option.some.inj (ht0.symm.trans ht)
  have hcs := strs_cells (ss := namesL) (n := 8) (by kernel_rfl) (un_9) (by kernel_rfl) (by kernel_rfl) hd
  intro g cs' hg'
  have hcell : ∀ j, j < 8 → W.cell? ⟨0, j, none⟩ = some ((namesL.map fun s => Value.string (bs s)).getD j undef) := by
    intro j hj
    rw [World.var?_cell hg0 hv j]
    have : cs[j]? = cs.toList[j]? := by simp
    rw [this, hcs]
    have hjn : j < (namesL.map fun s => Value.string (bs s)).length := hj
    rw [List.getElem?_eq_getElem hjn, List.getD_eq_getElem?_getD, List.getElem?_eq_getElem hjn]
    rfl
  have hg0' : g = 0 := by
    unfold glA at hg'
    split at hg'
    · assumption
    · cases hg'
  subst hg0'
  rw [gl_names] at hg'
  cases hg'
  refine ⟨?_, fun j hj => hcell j hj⟩
  have := cell_lt (hcell 0 (by omega))
  exact this
theorem own2 : ownKnob Tryd.prog.godebug = none := by kernel_rfl
theorem laid2 : laidOutB Tryd.prog = true := by kernel_rfl
mutual
/-- The cells of a datum. -/
def cellsD : DataW Unit → List Value
  | .lit (.int k z) => [.int k z]
  | .lit (.string l) => [.string ⟨l.toArray⟩]
  | .agg ps => cellsDL ps
  | _ => []
def cellsDL : List (DataW Unit) → List Value
  | [] => []
  | d :: r => cellsD d ++ cellsDL r
end
def putD (d : DataW Unit) : Obj → Obj
  | .cells _ t frozen => .cells (cellsD d).toArray t frozen
  | o => o
/-- A world that meets the condition. -/
noncomputable def laidW (os : Os) : World :=
  let w0 := World.holding Tryd.prog os ⟨#[], #[], []⟩
  { w0 with heap := ((((((w0.heap.modify 0 (putD Rows.laid_ramet_maker_names)).modify 2 (putD Rows.laid_internal_strconv_uint64pow10)).modify 5 (putD Rows.laid_unicode_utf8_first)).modify
      6 (putD Rows.laid_unicode_utf8_acceptRanges)).modify 7 (putD Rows.laid_math_bits_deBruijn32tab)).modify 8 (putD Rows.laid_math_bits_deBruijn64tab)) }
theorem laidW_met (os : Os) (args : Array Value) : laidMetH Tryd.prog Rows.makerTapeRow.laid ((laidW os).forCall (fun _ _ => 0) ⟨#[], args, []⟩).memory :=
  laidMetH_of_parts3 (fuel := 8) (laidMet_of_run' 8 (by kernel_rfl) (by kernel_rfl)) (by kernel_rfl) (by kernel_rfl)
set_option maxRecDepth 100000 in
theorem contract2 (H : Type) (enc : TypeId × Value → H) (W : World) (base : Nat) (args : Array Value) (ds gs : List (DataW H)) (before : List MemPlace)
    (hval : ∀ (j : Nat) t v, Tryd.f3.params[j]? = some t → args[j]? = some v → Value.okWide Tryd.prog W .any base t v)
    (hW : DataW.Whole enc Tryd.prog Tryd.f3.params.toList Rows.makerTapeSpec.vars false W args.toList ds gs before) (hgl : Gl W (zOf W)) :
    Calls Tryd.prog 3 args W fun e W' => ∃ v, e = .returned v ∧ Rows.makerTapeSpec.post enc Tryd.prog Tryd.f3 false true false false W args v W' := by
  have hW' := hW
  obtain ⟨p, q, hA0, hV, rfl, _, _⟩ := hW
  have hA : DataW.TrodAll enc Tryd.prog W 0 (fun _ => true) true Tryd.f3.params.toList args.toList ds p := hA0
  rw [Tryd.params3] at hA hval
  obtain ⟨v0, v1, d0, d1, p0, p1, rfl, rfl, rfl, ⟨n0, h0⟩, h1⟩ := trodAll_two hA
  obtain ⟨rfl, rfl⟩ := trodVars_none hV
  obtain ⟨l, v, e0, hrv, _⟩ := slice_reads (α := Int) iA (sz := 1) (ht := (Tryd.underlying22 : Tryd.prog.underlying 22 = some (.slice 3))) (hsz := by kernel_rfl) (rd := fun n cs d ps hlen hrd => by
    obtain ⟨x, hx, _⟩ := int_reads un_3 hrd
    subst hx
    exact ⟨x, rfl, fun j hj => by
      have : j = 0 := by omega
      subst this
      exact ⟨.v _, rfl⟩⟩) h0
  have e0' := one_cell (Tryd.underlying22 : Tryd.prog.underlying 22 = some (.slice 3)) (hval 0 22 v0 rfl rfl) e0
  subst e0'
  obtain ⟨s, rfl, _, _, hs⟩ := Go.ChangeMaps.open_string un_9 (hval 1 9 v1 rfl rfl) h1
  have hm : l.length < 9223372036854775808 := by
    obtain ⟨A, cap, F, _, h2, h3, _⟩ := hrv.fsl_inv
    rw [List.length_map] at h2
    unfold maxLen at h3
    omega
  have hn : s.data.toList.length < 9223372036854775808 := by
    have h4 : s.data.toList.length = s.size := (Go.Lib.size_eq s).symm
    unfold maxLen at hs
    omega
  refine (law_pc l s.data.toList hm hn W (zOf W) _ rfl (fun j hj => ?_) (fun k hk => hk) hgl).mono ?_
  · match j, hj with
    | 0, _ => exact hrv
    | 1, _ =>
      show RV W noρ noD (zOf W) (.v (.string (bs s.data.toList))) (.string s)
      rw [← bs_of]
      exact .v _
  · rintro e W' ⟨r, v, Z', rfl, rfl, hv, hb, _⟩
    cases hv.v_inv
    exact ⟨_, rfl, post_true laid2 hW' rfl (by rw [Tryd.params3]; intro t ht; simp at ht; rcases ht with rfl | rfl <;> exact ⟨by kernel_rfl, of_decide_eq_true (by kernel_rfl)⟩) rfl un_4 (fun ds' _ hd => by subst hd; rfl) hb⟩
set_option maxRecDepth 100000 in
theorem lifted2 (os : Os) (started : os.Started) (H : Type) (enc : TypeId × Value → H) :
    ReturnsInHanded {} Tryd.checked os 3 .any (fun w args => (Rows.makerTapeSpec.pre enc Tryd.prog Tryd.f3 [] false w args ∧ laidMetH Tryd.prog Rows.makerTapeRow.laid w) ∧ sizedMet enc Tryd.prog Tryd.f3 (OpenSpec.ofChange Rows.makerTapeSpec) false w args)
      (Rows.makerTapeSpec.post enc Tryd.prog Tryd.f3 false true false false) := by
  refine returnsInHanded_of_change_and (C := Tryd.checked) (X := fun w _ => laidMetH Tryd.prog Rows.makerTapeRow.laid w) (fun _ _ _ hh h => h.of_heap hh) own2 started (by kernel_rfl) Tryd.func3
    (ChangeSpec.witness_at (enc := enc) (C := Tryd.checked) (os := os) (X := fun w _ => laidMetH Tryd.prog Rows.makerTapeRow.laid w) false (laidW os) #[.slice none 0 0, .string ByteArray.empty] 8 rfl (by kernel_rfl) (by kernel_rfl) (by kernel_rfl) (by kernel_rfl) (by kernel_rfl) (laidW_met os _)) ?_
  intro W base args ds gs before hval hW _ _ hX _
  exact contract2 H enc W base args ds gs before hval hW (gl_of_laid hX)
theorem makerTape_proved : Rows.MakerTapeSaid :=
  OpenClaim.holds_of_wide 3 Tryd.f3 rfl rfl rfl rfl rfl rfl rfl ⟨rfl, rfl, rfl, rfl, rfl⟩ rfl rfl rfl rfl rfl (by kernel_rfl) Tryd.func3 (by kernel_rfl)
    (of_decide_eq_true (by kernel_rfl)) (by unfold Func.isWrapper; first | (rw [if_pos (by decide +kernel)]; kernel_rfl) | (rw [if_neg (by decide +kernel)]; exact ⟨rfl, rfl⟩))
    (fun os started H enc _ => lifted2 os started H enc)
theorem makerTape_card : Rows.MakerTapeCardSaid :=
  Claim7.holds_tied_plain_at .later [] [.data, .data, .data, .data, .data, .pinned] true (true, "4561d45c5c0194b394028ee8af12b131ce92cd6ab53824677cdc1551a836e88e") true
    makerTape_proved (fun _ h => by cases h) (by kernel_rfl) (fun _ h => by cases h) makerTape_row_tie rfl ⟨rfl, rfl⟩ (by kernel_rfl) rfl
    (fun f fn hf hfn => by
      obtain rfl : f = 3 := Option.some.inj ((show Tryd.prog.funcNamed "ramet/rametlaw07.MakerTape" = some 3 by kernel_rfl).symm.trans hf) |>.symm
      obtain rfl : fn = Tryd.f3 := (Option.some.inj (Tryd.func3.symm.trans hfn)).symm
      exact ⟨by kernel_rfl, fun j t ht => by
        rw [Tryd.params3] at ht
        have h3 : t = 22 ∨ t = 9 := by
          rcases j with _ | _ | j
          · simp at ht; exact .inl ht.symm
          · simp at ht; exact .inr ht.symm
          · simp at ht
        rcases h3 with rfl | rfl
        · exact (show Tryd.prog.wantsStandIn 22 = false by kernel_rfl)
        · exact (show Tryd.prog.wantsStandIn 9 = false by kernel_rfl)⟩)
    (by kernel_rfl)
end Go.Proofs.YtiipggfhjkalfaaDoor
