/-
  DERIVED. GIVEN WITH THE SEED: THE CARDS: each row of YtiipggfhjkalfaaDoorRows.lean that lists a variable, with what it lists TIED to the program's text (the seventh form; the later family's looks); each row that meets fmt, with fmt's text TOLD by the authors' own Lean function (tested against real Go, not proved from fmt's source: count such statements apart). THE CARD IS WHAT COUNTS. Prove the row's statement (the work); the ties are given (YtiipggfhjkalfaaDoorTie.lean); close each card by the builder's one call (the guide's Derived/Test/ToyasCard.lean, 'card_holds'). Laid BY PROGRAM, IN A SANDBOX (cutbox-door.mjs). By AI agents, Wed Nov 11 2026. No macro, syntax, notation, axiom, sorry.
-/
import Derived.Test.YtiipggfhjkalfaaDoorRows
import GoSem.ClaimSeven
namespace Go.Proofs.YtiipggfhjkalfaaDoor
namespace Rows

/-- THE TIED CARD OF 'rametlaw07.MakerTape'. -/
def makerTapeCard : Claim7 := { stood := { row := makerTapeRow, standIns := [], harness := (true, "4561d45c5c0194b394028ee8af12b131ce92cd6ab53824677cdc1551a836e88e"), looks := true }, kinds := [], alts := [], laidByText := true, laidKinds := [.data, .data, .data, .data, .data, .pinned], laidTests := true, laidLooks := .later }
def MakerTapeCardSaid : Prop := Claim7.holds Tryd.pinned (.plain (OpenSpec.ofChange makerTapeSpec)) makerTapeCard

/-- THE TIED CARD OF 'rametlaw09.KinTexts'. -/
def kinTextsCard : Claim7 := { stood := { row := kinTextsRow, standIns := [], harness := (true, "4561d45c5c0194b394028ee8af12b131ce92cd6ab53824677cdc1551a836e88e"), looks := true }, kinds := [], alts := [], laidByText := true, laidKinds := [.data, .data, .data, .data, .sentinel, .sentinel, .pinned], laidTests := true, laidLooks := .later }
def KinTextsCardSaid : Prop := Claim7.holds Tryd.pinned (.plain (OpenSpec.ofChange kinTextsSpec)) kinTextsCard

/-- THE SECOND FORM's CARD OF 'rametlaw07.MakerTape'. -/
def makerTapeUptoCard : Claim7 := { stood := { row := makerTapeUptoRow, standIns := [], harness := (true, "4561d45c5c0194b394028ee8af12b131ce92cd6ab53824677cdc1551a836e88e"), looks := true }, kinds := [], alts := [], laidByText := true, laidKinds := [.data, .data, .data, .data, .data, .pinned], laidTests := true, laidLooks := .later }
def MakerTapeUptoCardSaid : Prop := Claim7.holds Tryd.pinned (.plain (OpenSpec.upto makerTapeSpec)) makerTapeUptoCard

/-- THE SECOND FORM's CARD OF 'rametlaw09.KinTexts'. -/
def kinTextsUptoCard : Claim7 := { stood := { row := kinTextsUptoRow, standIns := [], harness := (true, "4561d45c5c0194b394028ee8af12b131ce92cd6ab53824677cdc1551a836e88e"), looks := true }, kinds := [], alts := [], laidByText := true, laidKinds := [.data, .data, .data, .data, .sentinel, .sentinel, .pinned], laidTests := true, laidLooks := .later }
def KinTextsUptoCardSaid : Prop := Claim7.holds Tryd.pinned (.plain (OpenSpec.upto kinTextsSpec)) kinTextsUptoCard
end Rows
end Go.Proofs.YtiipggfhjkalfaaDoor
