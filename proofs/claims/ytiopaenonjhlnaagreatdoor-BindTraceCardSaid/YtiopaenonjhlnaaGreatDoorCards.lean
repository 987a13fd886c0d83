/-
  DERIVED. GIVEN WITH THE SEED: THE CARDS: each row of YtiopaenonjhlnaaGreatDoorRows.lean that lists a variable, with what it lists TIED to the program's text (the seventh form; the later family's looks); each row that meets fmt, with fmt's text TOLD by the authors' own Lean function (tested against real Go, not proved from fmt's source: count such statements apart). THE CARD IS WHAT COUNTS. Prove the row's statement (the work); the ties are given (YtiopaenonjhlnaaGreatDoorTie.lean); close each card by the builder's one call (the guide's Derived/Test/ToyasCard.lean, 'card_holds'). Laid BY PROGRAM, IN A SANDBOX (cutbox-door.mjs). By AI agents, Wed Nov 11 2026. No macro, syntax, notation, axiom, sorry.
-/
import Derived.Test.YtiopaenonjhlnaaGreatDoorRows
import GoSem.ClaimSeven
namespace Go.Proofs.YtiopaenonjhlnaaGreatDoor
namespace Rows

/-- THE TIED CARD OF 'mullionlaw15.BindTrace'. -/
def bindTraceCard : Claim7 := { stood := { row := bindTraceRow, standIns := [], harness := (true, "e584cf90f9e30ada9b18102f6adb62ecfa71088b713a5268d0e8795200bcca5a"), looks := true }, kinds := [], alts := [], laidByText := true, laidKinds := [.data, .data, .widerDeep, .widerDeep, .data, .data, .data, .data, .data, .data, .sentinel, .sentinel, .listed, .data, .pinned, .pinned, .pinned], laidTests := true, laidLooks := .later }
def BindTraceCardSaid : Prop := Claim7.holds Tryz.pinned (.plain (OpenSpec.ofChange bindTraceSpec)) bindTraceCard

/-- THE SECOND FORM's CARD OF 'mullionlaw15.BindTrace'. -/
def bindTraceUptoCard : Claim7 := { stood := { row := bindTraceUptoRow, standIns := [], harness := (true, "e584cf90f9e30ada9b18102f6adb62ecfa71088b713a5268d0e8795200bcca5a"), looks := true }, kinds := [], alts := [], laidByText := true, laidKinds := [.data, .data, .widerDeep, .widerDeep, .data, .data, .data, .data, .data, .data, .sentinel, .sentinel, .listed, .data, .pinned, .pinned, .pinned], laidTests := true, laidLooks := .later }
def BindTraceUptoCardSaid : Prop := Claim7.holds Tryz.pinned (.plain (OpenSpec.upto bindTraceSpec)) bindTraceUptoCard
end Rows
end Go.Proofs.YtiopaenonjhlnaaGreatDoor
