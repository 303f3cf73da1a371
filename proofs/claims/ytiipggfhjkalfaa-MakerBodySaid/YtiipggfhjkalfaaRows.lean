/-
  No cell of these rows narrows 'for every input' (looked for: loops, veiled, ifaces, maps, wideKeys, modest, calm, conditions, laid).
  DERIVED. THE GIVEN ROWS OF THIS SEAT. 4 by the template 'for every input the law returns true; each argument reads behind the call as it read before'; 0 by the template 'total and deterministic' (their statements: YtiipggfhjkalfaaTotals.lean).
  GIVEN WITH THE SEED: the statements are not yours to turn. If you find one false, say at which input.
  Laid BY PROGRAM, IN A SANDBOX (cutbox-rows.mjs): the forced cells as the released guide's own fill.sh prints them over the translation ae1bc77464b5c5e7… (all of the seat's roots in one cut). By AI agents, Wed Nov 11 2026. No macro, syntax, notation, axiom, sorry.
-/
import Derived.Test.YtiipggfhjkalfaaChecked
import GoSem.Claim
import GoSem.ClaimJoined
import GoSem.ClaimMapViews
import Derived.JoinedTies
import Derived.KernelRfl
namespace Go.Proofs.Ytiipggfhjkalfaa
/- THE CELL 'sum', in the pinned program and in every row, IS THE sha256 OF THE DUMP (.gsa) THAT YtiipggfhjkalfaaProg.lean LOADS. Nothing in Lean hashes anything: it is a label: what it is worth is what the hold of that sum in a sandbox is worth. -/
noncomputable def Try.pinned : Pinned := { name := "ytiipggfhjkalfaa", sum := "ae1bc77464b5c5e74e462d0e83c221cf02fba8eb495006dd9c0a2216be06665e", checked := Try.checked }
namespace Rows
def none {H : Type} : Left H := { results := [], args := [] }

/-- 'rametlaw03.SquareCuts': WHATEVER THE INPUT: true; the input reads as it did. -/
def squareCutsSpec : ChangeSpec := { name := "squareCuts", fn := fun _ => fun
  | [d1, d2, d3] => { results := [.lit (.bool true)], args := [d1, d2, d3] }
  | _ => none }
def squareCutsRow : OpenClaim := { program := "ytiipggfhjkalfaa", sum := "ae1bc77464b5c5e74e462d0e83c221cf02fba8eb495006dd9c0a2216be06665e", func := "ramet/rametlaw03.SquareCuts", spec := "squareCuts", unfollowed := true, recurses := true, plainKeys := false, apart := false }
def SquareCutsSaid : Prop := squareCutsRow.holds Try.pinned (OpenSpec.ofChange squareCutsSpec)

/-- ITS FALSE NEIGHBOUR: 'it returns false'. Refute it at one input. -/
def squareCutsWrong : ChangeSpec := { name := "squareCuts", fn := fun _ => fun
  | [d1, d2, d3] => { results := [.lit (.bool false)], args := [d1, d2, d3] }
  | _ => none }
def SquareCutsWrongFalsely : Prop := squareCutsRow.holds Try.pinned (OpenSpec.ofChange squareCutsWrong)

/-- 'rametlaw01.CellsYard': WHATEVER THE INPUT: true; the input reads as it did. -/
def cellsYardSpec : ChangeSpec := { name := "cellsYard", fn := fun _ => fun
  | [d1, d2, d3] => { results := [.lit (.bool true)], args := [d1, d2, d3] }
  | _ => none }
def cellsYardRow : OpenClaim := { program := "ytiipggfhjkalfaa", sum := "ae1bc77464b5c5e74e462d0e83c221cf02fba8eb495006dd9c0a2216be06665e", func := "ramet/rametlaw01.CellsYard", spec := "cellsYard", unfollowed := true, recurses := true, plainKeys := false, apart := false }
def CellsYardSaid : Prop := cellsYardRow.holds Try.pinned (OpenSpec.ofChange cellsYardSpec)

/-- ITS FALSE NEIGHBOUR: 'it returns false'. Refute it at one input. -/
def cellsYardWrong : ChangeSpec := { name := "cellsYard", fn := fun _ => fun
  | [d1, d2, d3] => { results := [.lit (.bool false)], args := [d1, d2, d3] }
  | _ => none }
def CellsYardWrongFalsely : Prop := cellsYardRow.holds Try.pinned (OpenSpec.ofChange cellsYardWrong)

/-- 'rametlaw07.MakerMeaning': WHATEVER THE INPUT: true; the input reads as it did. -/
def makerMeaningSpec : ChangeSpec := { name := "makerMeaning", fn := fun _ => fun
  | [d] => { results := [.lit (.bool true)], args := [d] }
  | _ => none }
def makerMeaningRow : OpenClaim := { program := "ytiipggfhjkalfaa", sum := "ae1bc77464b5c5e74e462d0e83c221cf02fba8eb495006dd9c0a2216be06665e", func := "ramet/rametlaw07.MakerMeaning", spec := "makerMeaning", unfollowed := true, recurses := true, plainKeys := false, apart := false }
def MakerMeaningSaid : Prop := makerMeaningRow.holds Try.pinned (OpenSpec.ofChange makerMeaningSpec)

/-- ITS FALSE NEIGHBOUR: 'it returns false'. Refute it at one input. -/
def makerMeaningWrong : ChangeSpec := { name := "makerMeaning", fn := fun _ => fun
  | [d] => { results := [.lit (.bool false)], args := [d] }
  | _ => none }
def MakerMeaningWrongFalsely : Prop := makerMeaningRow.holds Try.pinned (OpenSpec.ofChange makerMeaningWrong)

/-- 'rametlaw07.MakerBody': WHATEVER THE INPUT: true; the input reads as it did. -/
def makerBodySpec : ChangeSpec := { name := "makerBody", fn := fun _ => fun
  | [d1, d2] => { results := [.lit (.bool true)], args := [d1, d2] }
  | _ => none }
def makerBodyRow : OpenClaim := { program := "ytiipggfhjkalfaa", sum := "ae1bc77464b5c5e74e462d0e83c221cf02fba8eb495006dd9c0a2216be06665e", func := "ramet/rametlaw07.MakerBody", spec := "makerBody", unfollowed := true, recurses := true, plainKeys := false, apart := false }
def MakerBodySaid : Prop := makerBodyRow.holds Try.pinned (OpenSpec.ofChange makerBodySpec)

/-- ITS FALSE NEIGHBOUR: 'it returns false'. Refute it at one input. -/
def makerBodyWrong : ChangeSpec := { name := "makerBody", fn := fun _ => fun
  | [d1, d2] => { results := [.lit (.bool false)], args := [d1, d2] }
  | _ => none }
def MakerBodyWrongFalsely : Prop := makerBodyRow.holds Try.pinned (OpenSpec.ofChange makerBodyWrong)

/- THE SECOND FORM. 'bulk': how many values and letters a reading holds, each counted each time it is reached (what is shared counts as often as it is met; a slice's spare places count too). A statement '..UptoSaid' is the law's where the arguments, and the package variables that the reading takes, are together of bulk at most 1048576: NARROWER than '..Said'. Prove '..Said' where nothing that the law and all that it calls make is longer than what came in: it says more and counts as full. Else prove '..UptoSaid'. A law counts once. -/
mutual
def uptoBulk {H : Type} : DataW H → Nat
  | .lit (.string bytes) => bytes.length + 1
  | .lit _ => 1
  | .nil => 1
  | .ptr d => uptoBulk d + 1
  | .slice elems spare => uptoBulkAll elems + uptoBulkAll spare + 1
  | .agg parts => uptoBulkAll parts + 1
  | .iface _ d => uptoBulk d + 1
  | .map entries => uptoBulkEntries entries + 1
  | .held _ => 1
def uptoBulkAll {H : Type} : List (DataW H) → Nat
  | [] => 0
  | d :: r => uptoBulk d + uptoBulkAll r
def uptoBulkEntries {H : Type} : List (Lit × DataW H) → Nat
  | [] => 0
  | x :: r => uptoBulkEntry x + uptoBulkEntries r
def uptoBulkEntry {H : Type} : Lit × DataW H → Nat
  | (.string bytes, d) => bytes.length + uptoBulk d + 1
  | (_, d) => uptoBulk d + 1
 end
def uptoSmall : (H : Type) → List (DataW H) → Bool := fun _ ds => decide (uptoBulkAll ds ≤ 1048576)
def OpenSpec.upto (s : _root_.Go.ChangeSpec) : _root_.Go.OpenSpec := { _root_.Go.OpenSpec.ofChange s with cond := some uptoSmall }

/-- 'rametlaw03.SquareCuts', WHERE WHAT IT READS IS OF BULK AT MOST 1048576: true; the input reads as it did. -/
def squareCutsUptoRow : OpenClaim := { program := "ytiipggfhjkalfaa", sum := "ae1bc77464b5c5e74e462d0e83c221cf02fba8eb495006dd9c0a2216be06665e", func := "ramet/rametlaw03.SquareCuts", spec := "squareCuts", unfollowed := true, recurses := true, plainKeys := false, apart := false, narrowed := true }
def SquareCutsUptoSaid : Prop := squareCutsUptoRow.holds Try.pinned (OpenSpec.upto squareCutsSpec)

/-- 'rametlaw01.CellsYard', WHERE WHAT IT READS IS OF BULK AT MOST 1048576: true; the input reads as it did. -/
def cellsYardUptoRow : OpenClaim := { program := "ytiipggfhjkalfaa", sum := "ae1bc77464b5c5e74e462d0e83c221cf02fba8eb495006dd9c0a2216be06665e", func := "ramet/rametlaw01.CellsYard", spec := "cellsYard", unfollowed := true, recurses := true, plainKeys := false, apart := false, narrowed := true }
def CellsYardUptoSaid : Prop := cellsYardUptoRow.holds Try.pinned (OpenSpec.upto cellsYardSpec)

/-- 'rametlaw07.MakerMeaning', WHERE WHAT IT READS IS OF BULK AT MOST 1048576: true; the input reads as it did. -/
def makerMeaningUptoRow : OpenClaim := { program := "ytiipggfhjkalfaa", sum := "ae1bc77464b5c5e74e462d0e83c221cf02fba8eb495006dd9c0a2216be06665e", func := "ramet/rametlaw07.MakerMeaning", spec := "makerMeaning", unfollowed := true, recurses := true, plainKeys := false, apart := false, narrowed := true }
def MakerMeaningUptoSaid : Prop := makerMeaningUptoRow.holds Try.pinned (OpenSpec.upto makerMeaningSpec)

/-- 'rametlaw07.MakerBody', WHERE WHAT IT READS IS OF BULK AT MOST 1048576: true; the input reads as it did. -/
def makerBodyUptoRow : OpenClaim := { program := "ytiipggfhjkalfaa", sum := "ae1bc77464b5c5e74e462d0e83c221cf02fba8eb495006dd9c0a2216be06665e", func := "ramet/rametlaw07.MakerBody", spec := "makerBody", unfollowed := true, recurses := true, plainKeys := false, apart := false, narrowed := true }
def MakerBodyUptoSaid : Prop := makerBodyUptoRow.holds Try.pinned (OpenSpec.upto makerBodySpec)

end Rows
end Go.Proofs.Ytiipggfhjkalfaa
