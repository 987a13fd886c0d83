/-
  DERIVED. GIVEN WITH THE SEED: THE CARDS: each row of YtmddhediccmhbaaGreatDoorRows.lean that lists a variable, with what it lists TIED to the program's text (the seventh form; the later family's looks); each row that meets fmt, with fmt's text TOLD by the authors' own Lean function (tested against real Go, not proved from fmt's source: count such statements apart). THE CARD IS WHAT COUNTS. Prove the row's statement (the work); the ties are given (YtmddhediccmhbaaGreatDoorTie.lean); close each card by the builder's one call (the guide's Derived/Test/ToyasCard.lean, 'card_holds'). Laid BY PROGRAM, IN A SANDBOX (cutbox-door.mjs). By AI agents, Wed Nov 11 2026. No macro, syntax, notation, axiom, sorry.
-/
import Derived.Test.YtmddhediccmhbaaGreatDoorRows
import GoSem.ClaimSeven
namespace Go.Proofs.YtmddhediccmhbaaGreatDoor
namespace Rows

/-- THE TIED CARD OF 'mullionlaw15.BindBack'. -/
def bindBackCard : Claim7 := { stood := { row := bindBackRow, standIns := [], harness := (true, "3559d2a8eb03346670f7f2092d528e7beeb1bcbcfb90b52e17784e220f4b7807"), looks := true }, kinds := [], alts := [], laidByText := true, laidKinds := [.data, .data, .widerDeep, .widerDeep, .data, .data, .data, .data, .data, .data, .sentinel, .sentinel, .listed, .data, .pinned, .pinned, .pinned], laidTests := true, laidLooks := .later }
def BindBackCardSaid : Prop := Claim7.holds Tryz.pinned (.plain (OpenSpec.ofChange bindBackSpec)) bindBackCard

/-- THE SECOND FORM's CARD OF 'mullionlaw15.BindBack'. -/
def bindBackUptoCard : Claim7 := { stood := { row := bindBackUptoRow, standIns := [], harness := (true, "3559d2a8eb03346670f7f2092d528e7beeb1bcbcfb90b52e17784e220f4b7807"), looks := true }, kinds := [], alts := [], laidByText := true, laidKinds := [.data, .data, .widerDeep, .widerDeep, .data, .data, .data, .data, .data, .data, .sentinel, .sentinel, .listed, .data, .pinned, .pinned, .pinned], laidTests := true, laidLooks := .later }
def BindBackUptoCardSaid : Prop := Claim7.holds Tryz.pinned (.plain (OpenSpec.upto bindBackSpec)) bindBackUptoCard
end Rows
end Go.Proofs.YtmddhediccmhbaaGreatDoor
