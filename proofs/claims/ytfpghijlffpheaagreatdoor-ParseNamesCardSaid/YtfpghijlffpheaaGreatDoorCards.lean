/-
  DERIVED. GIVEN WITH THE SEED: THE CARDS: each row of YtfpghijlffpheaaGreatDoorRows.lean that lists a variable, with what it lists TIED to the program's text (the seventh form; the later family's looks); each row that meets fmt, with fmt's text TOLD by the authors' own Lean function (tested against real Go, not proved from fmt's source: count such statements apart). THE CARD IS WHAT COUNTS. Prove the row's statement (the work); the ties are given (YtfpghijlffpheaaGreatDoorTie.lean); close each card by the builder's one call (the guide's Derived/Test/ToyasCard.lean, 'card_holds'). Laid BY PROGRAM, IN A SANDBOX (cutbox-door.mjs). By AI agents, Wed Nov 11 2026. No macro, syntax, notation, axiom, sorry.
-/
import Derived.Test.YtfpghijlffpheaaGreatDoorRows
import GoSem.ClaimSeven
namespace Go.Proofs.YtfpghijlffpheaaGreatDoor
namespace Rows

/-- THE TIED CARD OF 'mullionlaw12.ParseNames'. -/
def parseNamesCard : Claim7 := { stood := { row := parseNamesRow, standIns := [], harness := (true, "e670d29f8490effcb610dae1e5659b5c1548c4c2bef578253032bbc504e97af3"), looks := true }, kinds := [], alts := [], laidByText := true, laidKinds := [.data, .data, .widerDeep, .widerDeep, .data, .data, .data, .data, .data, .data, .sentinel, .sentinel, .listed, .data, .pinned, .pinned, .pinned], laidTests := true, laidLooks := .later }
def ParseNamesCardSaid : Prop := Claim7.holds Tryz.pinned (.plain (OpenSpec.ofChange parseNamesSpec)) parseNamesCard

/-- THE SECOND FORM's CARD OF 'mullionlaw12.ParseNames'. -/
def parseNamesUptoCard : Claim7 := { stood := { row := parseNamesUptoRow, standIns := [], harness := (true, "e670d29f8490effcb610dae1e5659b5c1548c4c2bef578253032bbc504e97af3"), looks := true }, kinds := [], alts := [], laidByText := true, laidKinds := [.data, .data, .widerDeep, .widerDeep, .data, .data, .data, .data, .data, .data, .sentinel, .sentinel, .listed, .data, .pinned, .pinned, .pinned], laidTests := true, laidLooks := .later }
def ParseNamesUptoCardSaid : Prop := Claim7.holds Tryz.pinned (.plain (OpenSpec.upto parseNamesSpec)) parseNamesUptoCard
end Rows
end Go.Proofs.YtfpghijlffpheaaGreatDoor
