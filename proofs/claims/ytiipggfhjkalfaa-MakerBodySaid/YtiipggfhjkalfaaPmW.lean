/- PM, part W: the package variables that the row lists, told whole, and those of which it is known alone that they hold an interface's value. -/
import Derived.Test.YtiipggfhjkalfaaPmA
import Derived.Laws.CopyRow
namespace Go.Proofs.Ytiipggfhjkalfaa
namespace Pm
/-- The cells of a package variable that nobody writes. -/
def glA (_ : Nat) : Option (List Value) := none
/-- Variables that hold an interface's value. -/
def glE (_ : Nat) : Bool := false
/-- They hold in the world. -/
structure Gl (w : World) (Z : Nat → Prop) : Prop where
  a : ∀ g cs, glA g = some cs → Z g ∧ ∃ t fr, w.heap[g]? = some (.cells cs.toArray t fr)
  e : ∀ g, glE g = true → Z g ∧ ∃ ev, w.cell? ⟨g, 0, none⟩ = some ev ∧ (ev = .nilIface ∨ ∃ t p, ev = .iface t p)
theorem add_zero_plain (g j : Nat) : (Addr.add ⟨g, 0, none⟩ j) = ⟨g, j, none⟩ := by simp [Addr.add]; exact fun h => h.symm
theorem Gl.cell {w : World} {Z : Nat → Prop} (h : Gl w Z) {g : Nat} {cs : List Value} (hg : glA g = some cs) {j : Nat} (hj : j < cs.length) : w.cell? ⟨g, j, none⟩ = some (cs.getD j undef) := by
  obtain ⟨_, t, fr, hh⟩ := h.a g cs hg
  simp [World.cell?, hh, List.getD_eq_getElem?_getD, hj]
theorem Gl.step {w w' : World} {ρ ρ' : Nat → Option Nat} {D D' Z Z' : Nat → Prop} (s : Step w w' ρ ρ' D D' Z Z') (h : Gl w Z) : Gl w' Z' where
  a g cs hg := by
    obtain ⟨h1, t, fr, h2⟩ := h.a g cs hg
    exact ⟨s.z g h1, t, fr, (s.zb g h1).trans h2⟩
  e g hg := by
    obtain ⟨h1, ev, h2, h3⟩ := h.e g hg
    refine ⟨s.z g h1, ev, ?_, h3⟩
    have := s.cells (a := ⟨g, 0, none⟩) h1 0 (v := ev) (by rw [add_zero_plain]; exact h2)
    rwa [add_zero_plain] at this
theorem Gl.weaken {w : World} {Z Z' : Nat → Prop} (h : Gl w Z) (hz : ∀ k, Z k → Z' k) : Gl w Z' where
  a g cs hg := ⟨hz g (h.a g cs hg).1, (h.a g cs hg).2⟩
  e g hg := ⟨hz g (h.e g hg).1, (h.e g hg).2⟩
theorem Gl.rv {w : World} {ρ : Nat → Option Nat} {D Z : Nat → Prop} (h : Gl w Z) {g : Nat} {cs : List Value} (hg : glA g = some cs) : RV w ρ D Z (.fptr (cs.map .v)) (.pointer (some ⟨g, 0, none⟩)) := by
  refine .fptr (fun j => cs.getD j undef) (h.a g cs hg).1 (fun j hj => ?_) (fun j hj => ?_)
  · rw [add_zero_plain]; exact h.cell hg (by simpa using hj)
  · have hj' : j < cs.length := by simpa using hj
    rw [show (cs.map AV.v).getD j .junk = .v (cs.getD j undef) by simp [List.getD_eq_getElem?_getD, hj']]
    exact .v _
end Pm
end Go.Proofs.Ytiipggfhjkalfaa
