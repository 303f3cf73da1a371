/- Books as texts: the builder's methods. -/
import Derived.Test.YtiipggfhjkalfaaDoorProg
import Derived.Test.YtiipggfhjkalfaaDoorPmU
import Derived.Test.YtiipggfhjkalfaaDoorKtE
set_option linter.unusedSimpArgs false
set_option linter.unusedVariables false
set_option maxRecDepth 20000
open Go Go.Proofs
namespace Go.Proofs.YtiipggfhjkalfaaDoor
open Pm
attribute [local irreducible] Wait CallT CallW Le Weak
open Kt Go.Shelf Go.RowKit
theorem lies_any (n : Nat) (h : 1 ≤ n) : liesAt Tryd.prog Tryd.prog.depth 52 n 0 52 1 = true := by
  obtain ⟨d, hd⟩ : ∃ d, Tryd.prog.depth = d + 1 := ⟨Tryd.prog.depth - 1, by kernel_rfl⟩
  have hc : Tryd.prog.cellsOf 52 = 2 := by kernel_rfl
  rw [hd]
  unfold liesAt
  rw [hd]
  unfold rowAt
  unfold sameLayout
  simp [hc, h]
set_option maxHeartbeats 1000000 in
set_option maxRecDepth 100000 in
/-- A fresh builder stores its own address, whatever room lies behind it. -/
theorem cc_fresh {P : Program} {ρ : Ren} (L : Lays.n240 P ρ) (X : Builder.X72 P ρ) (b n : Nat) (w : World) (h0 : w.cell? ⟨b, 0, none⟩ = some (.pointer none)) (hsh : w.shape? b = some ((ρ.t 72), n)) (hn : 0 < n) (hl : liesAt P P.depth (ρ.t 72) (n / P.cellsOf (ρ.t 72)) 0 (ρ.t 72) 1 = true) (hfz : w.frozen? ⟨b, 0, none⟩ = false) :
    Calls P (ρ.f 240) #[.pointer (some ⟨b, 0, none⟩)] w fun e w' => e = .returned (.tuple #[]) ∧ w' = w.setCell ⟨b, 0, none⟩ (.pointer (some ⟨b, 0, none⟩)) := by
  obtain ⟨j, hj, hjs⟩ := Option.map_eq_some_iff.1 X.sizeBuilder
  have mixed := L.mixed
  have t72 := L.t72; have a72 := L.a72; have z72 := L.z72; have v72 := L.v72; have u72 := run_underlying L.t72
  have t70 := L.t70; have a70 := L.a70; have z70 := L.z70; have v70 := L.v70; have u70 := run_underlying L.t70
  have t9 := L.t9; have a9 := L.a9; have z9 := L.z9; have v9 := L.v9; have u9 := run_underlying L.t9
  have t4 := L.t4; have a4 := L.a4; have z4 := L.z4; have v4 := L.v4; have u4 := run_underlying L.t4
  have t164 := L.t164; have a164 := L.a164; have z164 := L.z164; have v164 := L.v164; have u164 := run_underlying L.t164
  go_enter L.f240, Body.n240_ntmps ρ
  go_wp2
  rw [Lib.run_to_unsafe w ⟨b, 0, none⟩ L.t70 L.t164 hj (by rw [hjs]; decide) hsh hn]
  simp only [Result.andThen]
  rw [Oper.upon_value]
  go_wp2
  rw [run_callFunc_extern L.f276 (by kernel_rfl) (by kernel_rfl) (by kernel_rfl) (e := Extern.AbiNoEscape.same) (by kernel_rfl)]
  rw [Lib.run_noEscape]
  simp only [Result.andThen]
  rw [Oper.upon_value]
  go_wp2
  rw [Lib.run_from_unsafe w ⟨b, 0, none⟩ L.t164 L.t70 hj hsh hl]
  simp only [Result.andThen]
  rw [Oper.upon_value]
  go_wp2
  go_end0
  exact ⟨rfl, rfl⟩
/-- A builder: its own address (or none), its bytes. -/
def bldA (p v : AV) : Option Blk := some (.row 52 2 [.agg [p, v]])
def bufA (l : List UInt8) : Option Blk := some (.row 5 1 (byA l))
theorem X72 : Builder.X72 Tryd.prog Tryd.lays156_ren := Tryd.Builder_Extra_156.toX72
theorem cc_cells {w : World} {ρ : Nat → Option Nat} {D Z : Nat → Prop} {B : Base} {h : List (Option Blk)} (H : HR B w ρ D Z h) {p v : AV} (hb : h[0]? = some (bldA p v)) :
    ∃ g c fr, ρ 0 = some g ∧ w.heap[g]? = some (.cells c 52 fr) ∧ okFr fr c.size ∧ 2 ≤ c.size ∧ RV w ρ D Z p (c.getD 0 undef) ∧ RV w ρ D Z v (c.getD 1 undef) ∧ (c.getD 1 undef).oneCell' = true := by
  obtain ⟨g, c, fr, hr, hcc, hfr, hcl, hs, hv⟩ := H.row hb
  refine ⟨g, c, fr, hr, hcc, hfr, by simpa using hcl, ?_, ?_, ?_⟩
  · exact (hv 0 0 (by simp) (by omega)).1
  · exact (hv 0 1 (by simp) (by omega)).1
  · exact (hv 0 1 (by simp) (by omega)).2
theorem args_ptr {B : Base} {h : List (Option Blk)} (H : HR B B.w B.ρ B.D B.Z h) {b : Blk} (hb : h[0]? = some (some b)) {g : Nat} (hr : B.ρ 0 = some g) {cargs : Array Value} (hl : [AV.ptr 0 2 0 0].length = cargs.size)
    (ha : ∀ i, i < [AV.ptr 0 2 0 0].length → RV B.w B.ρ B.D B.Z ([AV.ptr 0 2 0 0].getD i .junk) (cargs.getD i undef)) : cargs = #[.pointer (some ⟨g, 0, none⟩)] := by
  have h0 := (ha 0 (by simp)).ptr_live H hb hr
  apply Array.ext
  · simpa using hl.symm
  · intro i h1 h2
    have : i = 0 := by simp at hl; omega
    subst this
    simpa [Array.getD, h1] using h0
theorem copyCheck_fresh : Con Tryd.prog 44 [.ptr 0 2 0 0] [bldA (.v (.pointer none)) nilA] fun r h' => r = .tup [] ∧ h' = [bldA (.ptr 0 2 0 0) nilA] := by
  intro B cargs hl ha H
  obtain ⟨g, c, fr, hr, hcc, hfr, hc2, hp, hv, hv1⟩ := cc_cells H (p := .v (.pointer none)) (v := nilA) rfl
  rw [args_ptr H rfl hr hl ha]
  have hfz : B.w.frozen? ⟨g, 0, none⟩ = false := by
    obtain ⟨lo, up⟩ := fr
    unfold okFr at hfr
    simp only at hfr
    simp only [World.frozen?, hcc, Bool.and_eq_false_iff, decide_eq_false_iff_not]
    omega
  have hcell : B.w.cell? ⟨g, 0, none⟩ = some (.pointer none) := by
    rw [cell_row hcc (by omega), hp.v_inv]
  refine (cc_fresh { Tryd.lays156 with } X72 g c.size B.w hcell (by simp [World.shape?, hcc]; rfl) (by omega) (lies_any _ (by rw [show Tryd.prog.cellsOf (Tryd.lays156_ren.t 72) = 2 by kernel_rfl]; omega)) hfz).mono ?_
  rintro e w' ⟨rfl, rfl⟩
  rw [setCell_eq_setRow B.w g 0 c _ fr _ hcc]
  have hstep := H.set_step (c' := c.setIfInBounds 0 (.pointer (some ⟨g, 0, none⟩))) hr hcc (by simp)
  refine ⟨.tup [], .tuple #[], _, B.ρ, B.D, B.Z, rfl, ⟨rfl, rfl⟩, .tup rfl (fun i hi => by simp at hi), ?_⟩
  have := H.set_row (c' := c.setIfInBounds 0 (.pointer (some ⟨g, 0, none⟩))) 2 [.agg [.ptr 0 2 0 0, nilA]] hr hcc (hfr.set (by simp)) (by simp) (by simp; omega) (fun i hi => by
      have : i = 0 := by simp at hi; omega
      subst this; rfl) (fun i j hi hj => by
    have : i = 0 := by simp at hi; omega
    subst this
    match j, hj with
    | 0, _ =>
      have e : (c.setIfInBounds 0 (.pointer (some ⟨g, 0, none⟩))).getD (0 * 2 + 0) undef = .pointer (some ⟨g, 0, none⟩) := by simp [Array.getD, show 0 < c.size by omega]
      rw [e]
      refine ⟨?_, rfl⟩
      exact .ptr hr
    | 1, _ =>
      have e : (c.setIfInBounds 0 (.pointer (some ⟨g, 0, none⟩))).getD (0 * 2 + 1) undef = c.getD 1 undef := by simp [Array.getD, show 1 < c.size by omega, Array.getElem_setIfInBounds]
      rw [e]
      exact ⟨hv, hv1⟩)
  exact this
theorem copyCheck_used (v : AV) (bb : Option Blk) : Con Tryd.prog 44 [.ptr 0 2 0 0] [bldA (.ptr 0 2 0 0) v, bb] fun r h' => r = .tup [] ∧ h' = [bldA (.ptr 0 2 0 0) v, bb] := by
  intro B cargs hl ha H
  obtain ⟨g, c, fr, hr, hcc, hfr, hc2, hp, hv, hv1⟩ := cc_cells H (p := .ptr 0 2 0 0) (v := v) rfl
  rw [args_ptr H rfl hr hl ha]
  have hcell : B.w.cell? ⟨g, 0, none⟩ = some (.pointer (some ⟨g, 0, none⟩)) := by
    rw [cell_row hcc (by omega), hp.ptr_live H rfl hr]
  refine (Any.Builder_copyCheck_used { Tryd.lays156 with } X72 g B.w hcell).mono ?_
  rintro e w' ⟨rfl, rfl⟩
  exact ⟨.tup [], .tuple #[], _, B.ρ, B.D, B.Z, rfl, ⟨rfl, rfl⟩, .tup rfl (fun i hi => by simp at hi), H⟩
end Go.Proofs.YtiipggfhjkalfaaDoor
