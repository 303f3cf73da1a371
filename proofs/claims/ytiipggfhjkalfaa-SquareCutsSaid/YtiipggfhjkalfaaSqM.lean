import Derived.Test.YtiipggfhjkalfaaSqL
import Derived.Test.YtiipggfhjkalfaaPmR
import Derived.Test.YtiipggfhjkalfaaRows
import Derived.Deep.Strs
import Derived.OpenShut
set_option linter.unusedSimpArgs false
open Go Go.Proofs
namespace Go.Proofs.Ytiipggfhjkalfaa
open Pm
section
variable {H : Type} {enc : TypeId × Value → H} {W : World}
theorem co_2 : Try.prog.cellsOf 2 = 1 := by kernel_rfl
theorem co_3 : Try.prog.cellsOf 3 = 1 := by kernel_rfl
theorem co_22 : Try.prog.cellsOf 22 = 1 := by kernel_rfl
theorem co_33 : Try.prog.cellsOf 33 = 3 := by kernel_rfl
theorem co_24 : Try.prog.cellsOf 24 = 2 := by kernel_rfl
theorem co_25 : Try.prog.cellsOf 25 = 3 := by kernel_rfl
theorem cell_rd (n : Nat) (cs : List Value) (d : DataW H) (ps : List MemPlace) (hl : cs.length = 3) (h : DataW.trod enc Try.prog W 0 (fun _ => true) true n 33 cs = some (d, ps)) :
    ∃ x : Cell, (cellA x).cells.length = 3 ∧ ∀ j, j < 3 → RV W noρ noD (zOf W) ((cellA x).cellAt j) (cs.getD j undef) ∧ (cs.getD j undef).oneCell' = true := by
  match cs, hl with
  | [a, b, c], _ =>
    obtain ⟨y0, y1, y2, n', _, _, h0, h1, h2⟩ := Deep.trod_struct3 Try.underlying33 h
    simp only [co_2, co_3, List.drop_zero, List.drop_succ_cons, List.take_succ_cons, List.take_zero] at h0 h1 h2
    obtain ⟨x, e0, _⟩ := int_reads un_2 h0
    obtain ⟨y, e1, _⟩ := int_reads un_2 h1
    obtain ⟨s, e2, _⟩ := int_reads un_3 h2
    cases e0
    cases e1
    cases e2
    refine ⟨⟨x, y, s⟩, rfl, fun j hj => ?_⟩
    match j, hj with
    | 0, _ => exact ⟨.v _, rfl⟩
    | 1, _ => exact ⟨.v _, rfl⟩
    | 2, _ => exact ⟨.v _, rfl⟩
theorem cells_rd {n : Nat} {cs : List Value} {d : DataW H} {ps : List MemPlace} (h : DataW.trod enc Try.prog W 0 (fun _ => true) true n 22 cs = some (d, ps)) :
    ∃ (l : List Cell) (v : Value), cs = [v] ∧ RV W noρ noD (zOf W) (cellsA l) v ∧ l.length = dlen d := slice_reads cellA un_22 co_33 cell_rd h
theorem two_of {α : Type} (l : List α) (h : l.length = 2) : ∃ a b, l = [a, b] := by
  match l, h with
  | [a, b], _ => exact ⟨a, b, rfl⟩
theorem three_of {α : Type} (l : List α) (h : l.length = 3) : ∃ a b c, l = [a, b, c] := by
  match l, h with
  | [a, b, c], _ => exact ⟨a, b, c, rfl⟩
theorem sq_rd {n : Nat} {cs : Array Value} {d : DataW H} {ps : List MemPlace} (h : DataW.trod enc Try.prog W 0 (fun _ => true) true n 24 cs.toList = some (d, ps)) :
    ∃ (lev : Int) (l : List Cell) (d0 d1 : DataW H), d = .agg [d0, d1] ∧ RV W noρ noD (zOf W) (sqA lev l) (.agg cs) ∧ l.length = dlen d1 := by
  obtain ⟨y0, y1, n', hx, hl, h0, h1⟩ := ChangeShapes.trod_struct2 Try.underlying24 h
  rw [co_24] at hl
  obtain ⟨l⟩ := cs
  obtain ⟨a, b, rfl⟩ := two_of l hl
  simp only [co_3, co_22, List.drop_zero, List.drop_succ_cons, List.take_succ_cons, List.take_zero] at h0 h1
  obtain ⟨x, e0, _⟩ := int_reads un_3 h0
  cases e0
  obtain ⟨l, v, e1, hr, hlen⟩ := cells_rd (d := y1.1) (ps := y1.2) h1
  cases e1
  cases hx
  refine ⟨x, l, _, _, rfl, .agg rfl fun i hi => ?_, hlen⟩
  match i, hi with
  | 0, _ => exact .v _
  | 1, _ => exact hr
theorem q_rd {n : Nat} {cs : Array Value} {r : DataW H × List MemPlace} (h : DataW.trod enc Try.prog W 0 (fun _ => true) true n 25 cs.toList = some r) :
    ∃ x y z : Int, RV W noρ noD (zOf W) (.agg [.v (.int .i64 x), .v (.int .i64 y), .v (.int .i64 z)]) (.agg cs) := by
  obtain ⟨xs, m, _, _, hl, hn, hel⟩ := DataW.trod_array Try.underlying25 h
  rw [co_25] at hl
  obtain ⟨l⟩ := cs
  obtain ⟨a, b, c, rfl⟩ := three_of l hl
  obtain ⟨x0, x1, x2, rfl⟩ := three_of xs hn
  have h0 := hel 0 (by decide)
  have h1 := hel 1 (by decide)
  have h2 := hel 2 (by decide)
  simp only [co_2, List.drop_zero, List.drop_succ_cons, List.take_succ_cons, List.take_zero, Nat.zero_mul, Nat.one_mul, Nat.mul_one, List.getElem?_cons_zero, List.getElem?_cons_succ] at h0 h1 h2
  obtain ⟨x, e0, _⟩ := int_reads un_2 h0
  obtain ⟨y, e1, _⟩ := int_reads un_2 h1
  obtain ⟨z, e2, _⟩ := int_reads un_2 h2
  cases e0
  cases e1
  cases e2
  refine ⟨x, y, z, .agg rfl fun i hi => ?_⟩
  match i, hi with
  | 0, _ => exact .v _
  | 1, _ => exact .v _
  | 2, _ => exact .v _
end
end Go.Proofs.Ytiipggfhjkalfaa
