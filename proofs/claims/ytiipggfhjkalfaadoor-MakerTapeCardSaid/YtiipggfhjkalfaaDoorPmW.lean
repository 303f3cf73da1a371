/- PM, part W, of MakerTape: the package variables that the row lists, told whole (0: ramet/maker.names). -/
import Derived.Test.YtiipggfhjkalfaaDoorPmA
import Derived.Laws.CopyRow
namespace Go.Proofs.YtiipggfhjkalfaaDoor
namespace Pm
/-- The cells of a package variable that nobody writes. -/
def glA (g : Nat) : Option (List Value) := if g = 0 then some [.string ⟨#[]⟩, .string ⟨#[115, 116, 97, 114, 116]⟩, .string ⟨#[115, 116, 111, 112]⟩, .string ⟨#[112, 111, 114, 116]⟩, .string ⟨#[101, 110, 100]⟩, .string ⟨#[102, 111, 114, 116, 104]⟩, .string ⟨#[108, 101, 102, 116]⟩, .string ⟨#[114, 105, 103, 104, 116]⟩] else none
/-- They hold in the world. -/
def Gl (w : World) (Z : Nat → Prop) : Prop := ∀ g cs, glA g = some cs → Z g ∧ ∀ j, j < cs.length → w.cell? ⟨g, j, none⟩ = some (cs.getD j undef)
theorem Gl.step {w w' : World} {ρ ρ' : Nat → Option Nat} {D D' Z Z' : Nat → Prop} (s : Step w w' ρ ρ' D D' Z Z') (h : Gl w Z) : Gl w' Z' := fun g cs hg => by
  obtain ⟨h1, h2⟩ := h g cs hg
  refine ⟨s.z g h1, fun j hj => ?_⟩
  have := s.cells (a := ⟨g, 0, none⟩) h1 j (v := cs.getD j undef) (by rw [show (Addr.add ⟨g, 0, none⟩ j) = ⟨g, j, none⟩ by simp [Addr.add]; exact fun h => h.symm]; exact h2 j hj)
  rwa [show (Addr.add ⟨g, 0, none⟩ j) = ⟨g, j, none⟩ by simp [Addr.add]; exact fun h => h.symm] at this
theorem Gl.weaken {w : World} {Z Z' : Nat → Prop} (h : Gl w Z) (hz : ∀ k, Z k → Z' k) : Gl w Z' := fun g cs hg => ⟨hz g (h g cs hg).1, (h g cs hg).2⟩
theorem Gl.rv {w : World} {ρ : Nat → Option Nat} {D Z : Nat → Prop} (h : Gl w Z) {g : Nat} {cs : List Value} (hg : glA g = some cs) : RV w ρ D Z (.fptr (cs.map .v)) (.pointer (some ⟨g, 0, none⟩)) := by
  obtain ⟨h1, h2⟩ := h g cs hg
  refine .fptr (fun j => cs.getD j undef) h1 (fun j hj => ?_) (fun j hj => ?_)
  · rw [show (Addr.add ⟨g, 0, none⟩ j) = ⟨g, j, none⟩ by simp [Addr.add]; exact fun h => h.symm]; exact h2 j (by simpa using hj)
  · have hj' : j < cs.length := by simpa using hj
    rw [show (cs.map AV.v).getD j .junk = .v (cs.getD j undef) by simp [List.getD_eq_getElem?_getD, hj']]
    exact .v _
end Pm
end Go.Proofs.YtiipggfhjkalfaaDoor
