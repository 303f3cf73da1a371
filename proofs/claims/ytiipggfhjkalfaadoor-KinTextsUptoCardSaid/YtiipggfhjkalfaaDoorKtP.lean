/- KinTexts answers true for every input whose bulk is at most 1048576, and leaves what it was given. No condition but that bulk and what the card ties. The card. -/
import Derived.Test.YtiipggfhjkalfaaDoorKtO
import Derived.Test.YtiipggfhjkalfaaDoorRows
import Derived.Test.YtiipggfhjkalfaaDoorCards
import Derived.Test.YtiipggfhjkalfaaDoorTie
import Derived.ProofKit
import Derived.OpenShut
import Derived.JoinedCond
import Derived.LaidHandle
import Derived.ChangeMaps5
import Derived.Deep.DeepHandedRow
set_option linter.constructorNameAsVariable false
set_option linter.unusedSimpArgs false
set_option linter.unusedVariables false
namespace Go.Proofs.YtiipggfhjkalfaaDoor
open Pm Kt
open Go.ChangeSpec Go.ChangeShapes Go.WideShapes Go.ChangeAt Go.RowKit
/-! ### The package variables -/
def powL : List Int := [1, 10, 100, 1000, 10000, 100000, 1000000, 10000000, 100000000, 1000000000, 10000000000, 100000000000, 1000000000000, 10000000000000, 100000000000000, 1000000000000000, 10000000000000000, 100000000000000000, 1000000000000000000, 10000000000000000000]
theorem gl_pow : glA 2 = some (powL.map fun n => .int .u64 n) := rfl
theorem nums_cells {H : Type} {enc : TypeId × Value → H} {P : Program} {w : World} {base : Nat} {sp : Nat → Bool} {held : Bool} {fuel : Nat} {t e : TypeId} {n : Nat} {k : IntKind} {cs : List Value} {ss : List Int} {p : List MemPlace}
    (ht : P.underlying t = some (.array n e)) (he : P.underlying e = some (.int k)) (hce : P.cellsOf e = 1) (hct : P.cellsOf t = n)
    (h : DataW.trod enc P w base sp held fuel t cs = some (.agg (ss.map fun s => .lit (.int k s)), p)) : cs = ss.map fun s => Value.int k s := by
  obtain ⟨xs, m, _, hx, hl, hlen, hf⟩ := DataW.trod_array ht h
  rw [hct] at hl
  rw [hce] at hf
  have hx1 : xs.map (·.1) = ss.map fun s => (DataW.lit (.int k s) : DataW H) := by
    have := congrArg Prod.fst hx
    simpa using this.symm
  have hsl : ss.length = n := by
    have := congrArg List.length hx1
    simp at this
    omega
  apply List.ext_getElem?
  intro i
  by_cases hi : i < n
  · have h5 := hf i hi
    have hix : i < xs.length := by omega
    rw [List.getElem?_eq_getElem hix] at h5
    obtain ⟨s, hc, hr, _⟩ := DataW.trod_int he h5
    have h1 : cs[i]? = some (.int k s) := by
      have := congrArg (fun l : List Value => l[0]?) hc
      simpa [List.getElem?_take, List.getElem?_drop] using this
    have h2 := congrArg (fun l : List (DataW H) => l[i]?) hx1
    have his : i < ss.length := by omega
    simp only [List.getElem?_map, List.getElem?_eq_getElem hix, List.getElem?_eq_getElem his, Option.map_some, Option.some.injEq, hr, DataW.lit.injEq, Lit.int.injEq, true_and] at h2
    rw [h1, List.getElem?_map, List.getElem?_eq_getElem his, Option.map_some, h2]
  · rw [List.getElem?_eq_none (by omega), List.getElem?_eq_none (by simp; omega)]
theorem iface_cells {H : Type} {enc : TypeId × Value → H} {P : Program} {w : World} {base : Nat} {sp : Nat → Bool} {held : Bool} {fuel : Nat} {t : TypeId} {ms : Array (String × TypeId)} {cs : List Value} {nm : String} {d : DataW H} {p : List MemPlace}
    (ht : P.underlying t = some (.interface ms)) (h : DataW.trod enc P w base sp held fuel t cs = some (.iface nm d, p)) : ∃ u v, cs = [.iface u v] := by
  cases fuel with
  | zero => simp [DataW.trod] at h
  | succ n =>
    unfold DataW.trod at h
    rw [ht] at h
    split at h <;> first | (cases h; done) | (simp_all; done) | skip
    all_goals first | (exact ⟨_, _, rfl⟩) | (simp_all; done)
theorem var_heap {P : Program} {W : World} {n : String} {g : Nat} {cs : Array Value} (hg : P.globalNamed n = some g) (hv : W.var? P n = some cs) : ∃ t fr, W.heap[g]? = some (.cells cs t fr) := by
  unfold World.var? at hv
  rw [hg] at hv
  simp only [Option.bind_some] at hv
  split at hv
  · rename_i c t fr hh
    cases hv
    exact ⟨t, fr, hh⟩
  · cases hv
theorem lt_of_heap {W : World} {g : Nat} {o : Obj} (h : W.heap[g]? = some o) : g < W.heap.size := (Array.getElem?_eq_some_iff.1 h).1
theorem gl_of_laid {W : World} (h : laidMetH Tryd.prog Rows.kinTextsUptoRow.laid W) : Gl W (zOf W) := by
  have h' : laidMet Tryd.prog Rows.kinTextsUptoRow.laid W := h
  obtain ⟨ps, hL, _⟩ := h'
  obtain ⟨_, _, _, _, _, _, _, _, _, _, hL, _⟩ := hL
  obtain ⟨_, _, _, _, _, _, _, _, _, _, hL, _⟩ := hL
  obtain ⟨g, t, cs, fuel, p, q, hg, ht, hv, hd, hL, _⟩ := hL
  obtain ⟨_, _, _, _, _, _, _, _, _, _, hL, _⟩ := hL
  obtain ⟨g4, t4, cs4, fuel4, p4, q4, hg4, ht4, hv4, hd4, hL, _⟩ := hL
  obtain ⟨g3, t3, cs3, fuel3, p3, q3, hg3, ht3, hv3, hd3, hL, _⟩ := hL
  have hg2' : Tryd.prog.globalNamed "internal/strconv.uint64pow10" = some 2 := by kernel_rfl
  have hg3' : Tryd.prog.globalNamed "strconv.ErrSyntax" = some 3 := by kernel_rfl
  have hg4' : Tryd.prog.globalNamed "strconv.ErrRange" = some 4 := by kernel_rfl
  obtain rfl := Option.some.inj (hg2'.symm.trans hg)
  obtain rfl := Option.some.inj (hg3'.symm.trans hg3)
  obtain rfl := Option.some.inj (hg4'.symm.trans hg4)
  have ht2' : (Tryd.prog.globals[2]?).map (·.type) = some 101 := by kernel_rfl
  have ht3' : (Tryd.prog.globals[3]?).map (·.type) = some 54 := by kernel_rfl
  have ht4' : (Tryd.prog.globals[4]?).map (·.type) = some 54 := by kernel_rfl
  obtain rfl := Option.some.inj (ht2'.symm.trans ht)
  obtain rfl := Option.some.inj (ht3'.symm.trans ht3)
  obtain rfl := Option.some.inj (ht4'.symm.trans ht4)
  have hcs := nums_cells (ss := powL) (n := 20) (k := .u64) (e := 76) (by kernel_rfl) (by kernel_rfl) (by kernel_rfl) (by kernel_rfl) hd
  obtain ⟨u3, v3, e3⟩ := iface_cells Tryd.underlying54 hd3
  obtain ⟨u4, v4, e4⟩ := iface_cells Tryd.underlying54 hd4
  obtain ⟨ty2, fr2, hh2⟩ := var_heap hg2' hv
  obtain ⟨ty3, fr3, hh3⟩ := var_heap hg3' hv3
  obtain ⟨ty4, fr4, hh4⟩ := var_heap hg4' hv4
  constructor
  · intro g cs' hg'
    have hgg : g = 2 := by
      unfold glA at hg'
      split at hg'
      · assumption
      · cases hg'
    subst hgg
    rw [gl_pow] at hg'
    cases hg'
    refine ⟨lt_of_heap hh2, ty2, fr2, ?_⟩
    rw [hh2]
    congr 2
    apply Array.ext'
    rw [hcs]
  · intro g hg'
    have hgg : g = 3 ∨ g = 4 := by simpa [glE] using hg'
    rcases hgg with rfl | rfl
    · refine ⟨lt_of_heap hh3, .iface u3 v3, ?_, .inr ⟨_, _, rfl⟩⟩
      have : cs3 = #[.iface u3 v3] := by apply Array.ext'; rw [e3]
      simp [World.cell?, hh3, this]
    · refine ⟨lt_of_heap hh4, .iface u4 v4, ?_, .inr ⟨_, _, rfl⟩⟩
      have : cs4 = #[.iface u4 v4] := by apply Array.ext'; rw [e4]
      simp [World.cell?, hh4, this]
theorem own2 : ownKnob Tryd.prog.godebug = none := by kernel_rfl
theorem laid2 : laidOutB Tryd.prog = true := by kernel_rfl
mutual
/-- The cells of a datum. -/
def cellsD : DataW Unit → List Value
  | .lit (.int k z) => [.int k z]
  | .lit (.string l) => [.string ⟨l.toArray⟩]
  | .agg ps => cellsDL ps
  | _ => []
def cellsDL : List (DataW Unit) → List Value
  | [] => []
  | d :: r => cellsD d ++ cellsDL r
end
def putD (d : DataW Unit) : Obj → Obj
  | .cells _ t frozen => .cells (cellsD d).toArray t frozen
  | o => o
def putI (a : Nat) : Obj → Obj
  | .cells _ t frozen => .cells #[.iface 114 (.pointer (some ⟨a, 0, none⟩))] t frozen
  | o => o
abbrev textR : ByteArray := { data := #[118, 97, 108, 117, 101, 32, 111, 117, 116, 32, 111, 102, 32, 114, 97, 110, 103, 101] }
abbrev textS : ByteArray := { data := #[105, 110, 118, 97, 108, 105, 100, 32, 115, 121, 110, 116, 97, 120] }
noncomputable def low : Nat := (World.holding Tryd.prog default ⟨#[], #[], []⟩).heap.size
/-- A world that meets the condition. -/
noncomputable def laidW (os : Os) : World :=
  let w0 := World.holding Tryd.prog os ⟨#[.cells #[.string textR] 116, .cells #[.string textS] 116], #[], []⟩
  { w0 with heap := (((((((w0.heap.modify 2 (putD Rows.laid_internal_strconv_uint64pow10)).modify 5 (putD Rows.laid_unicode_utf8_first)).modify
      6 (putD Rows.laid_unicode_utf8_acceptRanges)).modify 7 (putD Rows.laid_math_bits_deBruijn32tab)).modify 8 (putD Rows.laid_math_bits_deBruijn64tab)).modify
      4 (putI low)).modify 3 (putI (low + 1))) }
theorem laidW_met (os : Os) (args : Array Value) : laidMetH Tryd.prog Rows.kinTextsUptoRow.laid ((laidW os).forCall (fun _ _ => 0) ⟨#[], args, []⟩).memory :=
  laidMetH_of_parts3 (fuel := 8) (laidMet_of_run' 8 (by kernel_rfl) (by kernel_rfl)) (by kernel_rfl) (by kernel_rfl)
set_option maxRecDepth 100000 in
theorem contract2 (H : Type) (enc : TypeId × Value → H) (W : World) (base : Nat) (args : Array Value) (ds gs : List (DataW H)) (before : List MemPlace)
    (hval : ∀ (j : Nat) t v, Tryd.f4.params[j]? = some t → args[j]? = some v → Value.okWide Tryd.prog W .any base t v)
    (hW : DataW.Whole enc Tryd.prog Tryd.f4.params.toList Rows.kinTextsSpec.vars false W args.toList ds gs before) (hk : Rows.uptoSmall H (ds ++ gs) = true) (hgl : Gl W (zOf W)) :
    Calls Tryd.prog 4 args W fun e W' => ∃ v, e = .returned v ∧ Rows.kinTextsSpec.post enc Tryd.prog Tryd.f4 false true false false W args v W' := by
  have hW' := hW
  obtain ⟨p, q, hA0, hV, rfl, _, _⟩ := hW
  have hA : DataW.TrodAll enc Tryd.prog W 0 (fun _ => true) true Tryd.f4.params.toList args.toList ds p := hA0
  rw [Tryd.params4] at hA hval
  obtain ⟨v0, v1, d0, d1, p0, p1, rfl, rfl, rfl, ⟨n0, h0⟩, h1⟩ := trodAll_two hA
  obtain ⟨rfl, rfl⟩ := trodVars_none hV
  obtain ⟨b, v, e0, hrv, hb, hc⟩ := book_rd h0
  have e0' := one_cell (Tryd.underlying31 : Tryd.prog.underlying 31 = some (.slice 58)) (hval 0 31 v0 rfl rfl) e0
  subst e0'
  obtain ⟨s, rfl, hd1, _, hs⟩ := Go.ChangeMaps.open_string un_9 (hval 1 9 v1 rfl rfl) h1
  have hbulk : cntB b ≤ 1048576 := by
    simp only [Rows.uptoSmall, List.append_nil, Rows.uptoBulkAll, decide_eq_true_eq] at hk
    omega
  have hn : s.data.toList.length < 9223372036854775807 := by
    have h4 : s.data.toList.length = s.size := (Go.Lib.size_eq s).symm
    rw [hd1] at hk
    simp only [Rows.uptoSmall, List.append_nil, Rows.uptoBulkAll, decide_eq_true_eq, Rows.uptoBulk] at hk
    omega
  refine (law_pc b s.data.toList hb (by omega) hn W (zOf W) _ rfl (fun j hj => ?_) (fun k hk => hk) hgl).mono ?_
  · match j, hj with
    | 0, _ => exact hrv
    | 1, _ =>
      show RV W noρ noD (zOf W) (.v (.string (bs s.data.toList))) (.string s)
      rw [← bs_of]
      exact .v _
  · rintro e W' ⟨r, v, Z', rfl, rfl, hv, hb, _⟩
    cases hv.v_inv
    exact ⟨_, rfl, post_true laid2 hW' rfl (by rw [Tryd.params4]; intro t ht; simp at ht; rcases ht with rfl | rfl <;> exact ⟨by kernel_rfl, of_decide_eq_true (by kernel_rfl)⟩) rfl un_4 (fun ds' _ hd => by subst hd; rfl) hb⟩
set_option maxRecDepth 100000 in
theorem lifted2 (os : Os) (started : os.Started) (H : Type) (enc : TypeId × Value → H) (F : Stop.Interp) :
    ReturnsInHanded {} Tryd.checked os 4 .any ((Rows.OpenSpec.upto Rows.kinTextsSpec).preRow enc Tryd.prog Tryd.f4 Rows.kinTextsUptoRow.domain false Rows.kinTextsUptoRow.laid) (((Rows.OpenSpec.upto Rows.kinTextsSpec).at F).post enc Tryd.prog Tryd.f4 false true false false) := by
  refine returnsInHanded_of_row (C := Tryd.checked) (s := Rows.OpenSpec.upto Rows.kinTextsSpec) own2 started (by kernel_rfl) Tryd.func4
    (witness_row_at (enc := enc) (C := Tryd.checked) (os := os) (s := Rows.OpenSpec.upto Rows.kinTextsSpec) false (laidW os) #[.slice none 0 0, .string ByteArray.empty] rfl (by kernel_rfl) (by kernel_rfl) (by kernel_rfl)
      (OpenSpec.preRow_of_cond (x := ([.nil, .lit (.string [])], [], [])) 8 (by kernel_rfl) rfl (fun k hk => by cases hk; kernel_rfl) (by kernel_rfl) (laidW_met os _))) ?_
  intro W base args ds gs before hval hW _ hk _ hX _ _
  exact contract2 H enc W base args ds gs before hval hW (hk _ rfl) (gl_of_laid hX)
theorem kinTexts_proved : Rows.KinTextsUptoSaid :=
  OpenClaim.holds_of_cond 4 Tryd.f4 rfl rfl rfl rfl rfl rfl rfl ⟨rfl, rfl, rfl, rfl, rfl⟩ rfl rfl rfl rfl rfl (by kernel_rfl) Tryd.func4 (by kernel_rfl)
    (of_decide_eq_true (by kernel_rfl)) (by unfold Func.isWrapper; first | (rw [if_pos (by decide +kernel)]; kernel_rfl) | (rw [if_neg (by decide +kernel)]; exact ⟨rfl, rfl⟩))
    (fun os started H enc _ F => by rw [OpenClaim.pre_eq_preRow]; exact lifted2 os started H enc F)
theorem kinTexts_card : Rows.KinTextsUptoCardSaid :=
  Claim7.holds_tied_plain_at .later [] [.data, .data, .data, .data, .sentinel, .sentinel, .pinned] true (true, "4561d45c5c0194b394028ee8af12b131ce92cd6ab53824677cdc1551a836e88e") true
    kinTexts_proved (fun _ h => by cases h) (by kernel_rfl) (fun _ h => by cases h) kinTextsUpto_row_tie rfl ⟨rfl, rfl⟩ (by kernel_rfl) rfl
    (fun f fn hf hfn => by
      obtain rfl : f = 4 := Option.some.inj ((show Tryd.prog.funcNamed "ramet/rametlaw09.KinTexts" = some 4 by kernel_rfl).symm.trans hf) |>.symm
      obtain rfl : fn = Tryd.f4 := (Option.some.inj (Tryd.func4.symm.trans hfn)).symm
      exact ⟨by kernel_rfl, fun j t ht => by
        rw [Tryd.params4] at ht
        have h3 : t = 31 ∨ t = 9 := by
          rcases j with _ | _ | j
          · simp at ht; exact .inl ht.symm
          · simp at ht; exact .inr ht.symm
          · simp at ht
        rcases h3 with rfl | rfl
        · exact (show Tryd.prog.wantsStandIn 31 = false by kernel_rfl)
        · exact (show Tryd.prog.wantsStandIn 9 = false by kernel_rfl)⟩)
    (by kernel_rfl)
end Go.Proofs.YtiipggfhjkalfaaDoor
