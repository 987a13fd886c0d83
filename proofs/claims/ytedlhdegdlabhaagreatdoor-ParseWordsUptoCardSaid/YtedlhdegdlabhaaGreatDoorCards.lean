/-
  DERIVED. GIVEN WITH THE SEED: THE CARDS: each row of YtedlhdegdlabhaaGreatDoorRows.lean that lists a variable, with what it lists TIED to the program's text (the seventh form; the later family's looks); each row that meets fmt, with fmt's text TOLD by the authors' own Lean function (tested against real Go, not proved from fmt's source: count such statements apart). THE CARD IS WHAT COUNTS. Prove the row's statement (the work); the ties are given (YtedlhdegdlabhaaGreatDoorTie.lean); close each card by the builder's one call (the guide's Derived/Test/ToyasCard.lean, 'card_holds'). Laid BY PROGRAM, IN A SANDBOX (cutbox-door.mjs). By AI agents, Wed Nov 11 2026. No macro, syntax, notation, axiom, sorry.
-/
import Derived.Test.YtedlhdegdlabhaaGreatDoorRows
import GoSem.ClaimSeven
namespace Go.Proofs.YtedlhdegdlabhaaGreatDoor
namespace Rows

/-- THE TIED CARD OF 'mullionlaw12.ParseWords'. -/
def parseWordsCard : Claim7 := { stood := { row := parseWordsRow, standIns := [], harness := (true, "45cb95e1bb1911519213dfe2386f2ca58ac46edaef7e32ef755b61ad3514d5d5"), looks := true }, kinds := [], alts := [], laidByText := true, laidKinds := [.data, .data, .widerDeep, .widerDeep, .data, .data, .data, .data, .data, .data, .sentinel, .sentinel, .listed, .data, .pinned, .pinned, .pinned], laidTests := true, laidLooks := .later }
def ParseWordsCardSaid : Prop := Claim7.holds Tryz.pinned (.plain (OpenSpec.ofChange parseWordsSpec)) parseWordsCard

/-- THE TIED CARD OF 'mullionlaw12.ParsePrints'. -/
def parsePrintsCard : Claim7 := { stood := { row := parsePrintsRow, standIns := [], harness := (true, "45cb95e1bb1911519213dfe2386f2ca58ac46edaef7e32ef755b61ad3514d5d5"), looks := true }, kinds := [], alts := [], laidByText := true, laidKinds := [.data, .data, .widerDeep, .widerDeep, .data, .data, .data, .data, .data, .data, .sentinel, .sentinel, .listed, .data, .pinned, .pinned, .pinned], laidTests := true, laidLooks := .later }
def ParsePrintsCardSaid : Prop := Claim7.holds Tryz.pinned (.plain (OpenSpec.ofChange parsePrintsSpec)) parsePrintsCard

/-- THE SECOND FORM's CARD OF 'mullionlaw12.ParseWords'. -/
def parseWordsUptoCard : Claim7 := { stood := { row := parseWordsUptoRow, standIns := [], harness := (true, "45cb95e1bb1911519213dfe2386f2ca58ac46edaef7e32ef755b61ad3514d5d5"), looks := true }, kinds := [], alts := [], laidByText := true, laidKinds := [.data, .data, .widerDeep, .widerDeep, .data, .data, .data, .data, .data, .data, .sentinel, .sentinel, .listed, .data, .pinned, .pinned, .pinned], laidTests := true, laidLooks := .later }
def ParseWordsUptoCardSaid : Prop := Claim7.holds Tryz.pinned (.plain (OpenSpec.upto parseWordsSpec)) parseWordsUptoCard

/-- THE SECOND FORM's CARD OF 'mullionlaw12.ParsePrints'. -/
def parsePrintsUptoCard : Claim7 := { stood := { row := parsePrintsUptoRow, standIns := [], harness := (true, "45cb95e1bb1911519213dfe2386f2ca58ac46edaef7e32ef755b61ad3514d5d5"), looks := true }, kinds := [], alts := [], laidByText := true, laidKinds := [.data, .data, .widerDeep, .widerDeep, .data, .data, .data, .data, .data, .data, .sentinel, .sentinel, .listed, .data, .pinned, .pinned, .pinned], laidTests := true, laidLooks := .later }
def ParsePrintsUptoCardSaid : Prop := Claim7.holds Tryz.pinned (.plain (OpenSpec.upto parsePrintsSpec)) parsePrintsUptoCard
end Rows
end Go.Proofs.YtedlhdegdlabhaaGreatDoor
