/-
  DERIVED. GIVEN WITH THE SEED: THE CARDS: each row of YtodcmeakgcgjfaaGreatDoorRows.lean that lists a variable, with what it lists TIED to the program's text (the seventh form; the later family's looks); each row that meets fmt, with fmt's text TOLD by the authors' own Lean function (tested against real Go, not proved from fmt's source: count such statements apart). THE CARD IS WHAT COUNTS. Prove the row's statement (the work); the ties are given (YtodcmeakgcgjfaaGreatDoorTie.lean); close each card by the builder's one call (the guide's Derived/Test/ToyasCard.lean, 'card_holds'). Laid BY PROGRAM, IN A SANDBOX (cutbox-door.mjs). By AI agents, Wed Nov 11 2026. No macro, syntax, notation, axiom, sorry.
-/
import Derived.Test.YtodcmeakgcgjfaaGreatDoorRows
import GoSem.ClaimSeven
namespace Go.Proofs.YtodcmeakgcgjfaaGreatDoor
namespace Rows

/-- THE TIED CARD OF 'mullionlaw12.ParseBack'. -/
def parseBackCard : Claim7 := { stood := { row := parseBackRow, standIns := [], harness := (true, "c632470b8a080cc22db9fc1f14d8525da79c385040f09d9c052232222fd2304f"), looks := true }, kinds := [], alts := [], laidByText := true, laidKinds := [.data, .data, .widerDeep, .widerDeep, .data, .data, .data, .data, .data, .data, .sentinel, .sentinel, .listed, .data, .pinned, .pinned, .pinned], laidTests := true, laidLooks := .later }
def ParseBackCardSaid : Prop := Claim7.holds Tryz.pinned (.plain (OpenSpec.ofChange parseBackSpec)) parseBackCard

/-- THE SECOND FORM's CARD OF 'mullionlaw12.ParseBack'. -/
def parseBackUptoCard : Claim7 := { stood := { row := parseBackUptoRow, standIns := [], harness := (true, "c632470b8a080cc22db9fc1f14d8525da79c385040f09d9c052232222fd2304f"), looks := true }, kinds := [], alts := [], laidByText := true, laidKinds := [.data, .data, .widerDeep, .widerDeep, .data, .data, .data, .data, .data, .data, .sentinel, .sentinel, .listed, .data, .pinned, .pinned, .pinned], laidTests := true, laidLooks := .later }
def ParseBackUptoCardSaid : Prop := Claim7.holds Tryz.pinned (.plain (OpenSpec.upto parseBackSpec)) parseBackUptoCard
end Rows
end Go.Proofs.YtodcmeakgcgjfaaGreatDoor
