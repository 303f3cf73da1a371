/-
  DERIVED. GIVEN WITH THE SEED: THE CARDS: each row of YthflneagfnpfkaaDoorRows.lean that lists a variable, with what it lists TIED to the program's text (the seventh form; the later family's looks); each row that meets fmt, with fmt's text TOLD by the authors' own Lean function (tested against real Go, not proved from fmt's source: count such statements apart). THE CARD IS WHAT COUNTS. Prove the row's statement (the work); the ties are given (YthflneagfnpfkaaDoorTie.lean); close each card by the builder's one call (the guide's Derived/Test/ToyasCard.lean, 'card_holds'). Laid BY PROGRAM, IN A SANDBOX (cutbox-door.mjs). By AI agents, Wed Nov 11 2026. No macro, syntax, notation, axiom, sorry.
-/
import Derived.Test.YthflneagfnpfkaaDoorRows
import GoSem.ClaimSeven
namespace Go.Proofs.YthflneagfnpfkaaDoor
namespace Rows

/-- THE TIED CARD OF 'rametlaw01.CellsYardNext'. -/
def cellsYardNextCard : Claim7 := { stood := { row := cellsYardNextRow, standIns := [], harness := (true, "ebbca0ac965f1437d61374b3e0a24a6e9667626be9a5d16d2ea9ba7e0b27cedf"), looks := false }, kinds := [], alts := [], laidByText := true, laidKinds := [.data, .data], laidTests := true, laidLooks := .later }
def CellsYardNextCardSaid : Prop := Claim7.holds Tryd.pinned (.plain (OpenSpec.ofChange cellsYardNextSpec)) cellsYardNextCard

/-- THE SECOND FORM's CARD OF 'rametlaw01.CellsYardNext'. -/
def cellsYardNextUptoCard : Claim7 := { stood := { row := cellsYardNextUptoRow, standIns := [], harness := (true, "ebbca0ac965f1437d61374b3e0a24a6e9667626be9a5d16d2ea9ba7e0b27cedf"), looks := false }, kinds := [], alts := [], laidByText := true, laidKinds := [.data, .data], laidTests := true, laidLooks := .later }
def CellsYardNextUptoCardSaid : Prop := Claim7.holds Tryd.pinned (.plain (OpenSpec.upto cellsYardNextSpec)) cellsYardNextUptoCard
end Rows
end Go.Proofs.YthflneagfnpfkaaDoor
