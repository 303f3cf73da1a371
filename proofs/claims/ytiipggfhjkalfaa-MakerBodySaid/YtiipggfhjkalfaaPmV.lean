/- PM, part V: a law's row: structs of whole numbers, and the last steps, alike from law to law. -/
import Derived.Test.YtiipggfhjkalfaaPmU
import Derived.Deep.Strs
import Derived.OpenShut
namespace Go.Proofs.Ytiipggfhjkalfaa
namespace Pm
section
variable {H : Type} {enc : TypeId × Value → H} {P : Program} {W : World}
theorem i64_wf {x : Int} (h : (Lit.int .i64 x).wf = true) : -9223372036854775808 ≤ x ∧ x ≤ 9223372036854775807 := by
  simp [Lit.wf, IntKind.min, IntKind.max, IntKind.bits, IntKind.signed] at h
  omega
def intV : Value → Int
  | .int _ y => y
  | _ => 0
/-- A struct of whole numbers. -/
theorem ints_reads {t : TypeId} {fs : Array Field} {fuel : Nat} {cs : List Value} {x : DataW H × List MemPlace} (ht : P.underlying t = some (.struct fs)) (hsz : P.cellsOf t = fs.size)
    (hall : ∀ i : Nat, i < fs.size → ∃ f, fs[i]? = some f ∧ f.offset = i ∧ P.underlying f.type = some (.int .i64) ∧ P.cellsOf f.type = 1)
    (h : DataW.trod enc P W 0 (fun _ => true) true fuel t cs = some x) : ∃ l : List Int, l.length = fs.size ∧ cs = l.map (Value.int .i64) ∧ ∀ y ∈ l, -9223372036854775808 ≤ y ∧ y ≤ 9223372036854775807 := by
  obtain ⟨xs, n, _, rfl, hl, hlen, hf⟩ := DataW.trod_struct ht h
  rw [hsz] at hl
  have each : ∀ i : Nat, i < fs.size → ∃ y, cs[i]? = some (.int .i64 y) ∧ (Lit.int .i64 y).wf = true := fun i hi => by
    obtain ⟨f, h1, h2, h3, h4⟩ := hall i hi
    have h5 := hf i f h1
    rw [h2, h4] at h5
    obtain ⟨r, hr⟩ : ∃ r, xs[i]? = some r := ⟨xs[i]'(by omega), List.getElem?_eq_getElem (by omega)⟩
    rw [hr] at h5
    obtain ⟨y, h6, h7⟩ := int_reads h3 h5
    refine ⟨y, ?_, h7⟩
    have h8 := congrArg (fun l : List Value => l[0]?) h6
    simpa using h8
  refine ⟨(List.range fs.size).map fun i => intV (cs.getD i undef), by simp, ?_, ?_⟩
  · apply List.ext_getElem?
    intro i
    by_cases hi : i < fs.size
    · obtain ⟨y, hy, _⟩ := each i hi
      simp [List.getElem?_map, List.getElem?_range hi, List.getD_eq_getElem?_getD, hy, intV]
    · rw [List.getElem?_eq_none (by omega), List.getElem?_eq_none (by simp; omega)]
  · intro y hy
    obtain ⟨i, hi, rfl⟩ := List.mem_map.1 hy
    obtain ⟨z, hz, hw⟩ := each i (List.mem_range.1 hi)
    simp only [List.getD_eq_getElem?_getD, hz, Option.getD_some, intV]
    exact i64_wf hw
theorem one_cell {W : World} {b : Nat} {v : Value} {t e : TypeId} (ht : P.underlying t = some (.slice e)) (h : Value.okWide P W .any b t v) {x : Value} (hx : v.cells.toList = [x]) : v = x := by
  unfold Value.okWide at h
  rw [ht] at h
  cases v <;> first | (simp [Value.cells] at hx; exact hx) | (exfalso; simp [Cell.okWide, Cell.ok, ht] at h; done)
theorem one_int {W : World} {b : Nat} {v : Value} {t : TypeId} {k : IntKind} (ht : P.underlying t = some (.int k)) (h : Value.okWide P W .any b t v) {x : Value} (hx : v.cells.toList = [x]) : v = x := by
  unfold Value.okWide at h
  rw [ht] at h
  cases v <;> first | (simp [Value.cells] at hx; exact hx) | (exfalso; simp [Cell.okWide, Cell.ok, ht] at h; done)
end
end Pm
end Go.Proofs.Ytiipggfhjkalfaa
