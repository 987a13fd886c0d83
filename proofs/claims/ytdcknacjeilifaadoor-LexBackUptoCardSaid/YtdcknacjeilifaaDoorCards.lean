/-
  DERIVED. GIVEN WITH THE SEED: THE CARDS: each row of YtdcknacjeilifaaDoorRows.lean that lists a variable, with what it lists TIED to the program's text (the seventh form; the later family's looks); each row that meets fmt, with fmt's text TOLD by the authors' own Lean function (tested against real Go, not proved from fmt's source: count such statements apart). THE CARD IS WHAT COUNTS. Prove the row's statement (the work); the ties are given (YtdcknacjeilifaaDoorTie.lean); close each card by the builder's one call (the guide's Derived/Test/ToyasCard.lean, 'card_holds'). Laid BY PROGRAM, IN A SANDBOX (cutbox-door.mjs). By AI agents, Wed Nov 11 2026. No macro, syntax, notation, axiom, sorry.
-/
import Derived.Test.YtdcknacjeilifaaDoorRows
import GoSem.ClaimSeven
namespace Go.Proofs.YtdcknacjeilifaaDoor
namespace Rows

/-- THE TIED CARD OF 'mullionlaw11.LexTwo'. -/
def lexTwoCard : Claim7 := { stood := { row := lexTwoRow, standIns := [], harness := (true, "ebb937dd37b241766ea661e7fcdc74372a173e153d723696bdaf7b33e2a4e232"), looks := true }, kinds := [], alts := [], laidByText := true, laidKinds := [.data, .pinned], laidTests := true, laidLooks := .later }
def LexTwoCardSaid : Prop := Claim7.holds Tryd.pinned (.plain (OpenSpec.ofChange lexTwoSpec)) lexTwoCard

/-- THE TIED CARD OF 'mullionlaw11.LexRemarks'. -/
def lexRemarksCard : Claim7 := { stood := { row := lexRemarksRow, standIns := [], harness := (true, "ebb937dd37b241766ea661e7fcdc74372a173e153d723696bdaf7b33e2a4e232"), looks := true }, kinds := [], alts := [], laidByText := true, laidKinds := [.data, .pinned], laidTests := true, laidLooks := .later }
def LexRemarksCardSaid : Prop := Claim7.holds Tryd.pinned (.plain (OpenSpec.ofChange lexRemarksSpec)) lexRemarksCard

/-- THE TIED CARD OF 'mullionlaw11.LexQuotes'. -/
def lexQuotesCard : Claim7 := { stood := { row := lexQuotesRow, standIns := [], harness := (true, "ebb937dd37b241766ea661e7fcdc74372a173e153d723696bdaf7b33e2a4e232"), looks := true }, kinds := [], alts := [], laidByText := true, laidKinds := [.data, .pinned], laidTests := true, laidLooks := .later }
def LexQuotesCardSaid : Prop := Claim7.holds Tryd.pinned (.plain (OpenSpec.ofChange lexQuotesSpec)) lexQuotesCard

/-- THE TIED CARD OF 'mullionlaw11.LexBack'. -/
def lexBackCard : Claim7 := { stood := { row := lexBackRow, standIns := [], harness := (true, "ebb937dd37b241766ea661e7fcdc74372a173e153d723696bdaf7b33e2a4e232"), looks := true }, kinds := [], alts := [], laidByText := true, laidKinds := [.data, .pinned], laidTests := true, laidLooks := .later }
def LexBackCardSaid : Prop := Claim7.holds Tryd.pinned (.plain (OpenSpec.ofChange lexBackSpec)) lexBackCard

/-- THE SECOND FORM's CARD OF 'mullionlaw11.LexTwo'. -/
def lexTwoUptoCard : Claim7 := { stood := { row := lexTwoUptoRow, standIns := [], harness := (true, "ebb937dd37b241766ea661e7fcdc74372a173e153d723696bdaf7b33e2a4e232"), looks := true }, kinds := [], alts := [], laidByText := true, laidKinds := [.data, .pinned], laidTests := true, laidLooks := .later }
def LexTwoUptoCardSaid : Prop := Claim7.holds Tryd.pinned (.plain (OpenSpec.upto lexTwoSpec)) lexTwoUptoCard

/-- THE SECOND FORM's CARD OF 'mullionlaw11.LexRemarks'. -/
def lexRemarksUptoCard : Claim7 := { stood := { row := lexRemarksUptoRow, standIns := [], harness := (true, "ebb937dd37b241766ea661e7fcdc74372a173e153d723696bdaf7b33e2a4e232"), looks := true }, kinds := [], alts := [], laidByText := true, laidKinds := [.data, .pinned], laidTests := true, laidLooks := .later }
def LexRemarksUptoCardSaid : Prop := Claim7.holds Tryd.pinned (.plain (OpenSpec.upto lexRemarksSpec)) lexRemarksUptoCard

/-- THE SECOND FORM's CARD OF 'mullionlaw11.LexQuotes'. -/
def lexQuotesUptoCard : Claim7 := { stood := { row := lexQuotesUptoRow, standIns := [], harness := (true, "ebb937dd37b241766ea661e7fcdc74372a173e153d723696bdaf7b33e2a4e232"), looks := true }, kinds := [], alts := [], laidByText := true, laidKinds := [.data, .pinned], laidTests := true, laidLooks := .later }
def LexQuotesUptoCardSaid : Prop := Claim7.holds Tryd.pinned (.plain (OpenSpec.upto lexQuotesSpec)) lexQuotesUptoCard

/-- THE SECOND FORM's CARD OF 'mullionlaw11.LexBack'. -/
def lexBackUptoCard : Claim7 := { stood := { row := lexBackUptoRow, standIns := [], harness := (true, "ebb937dd37b241766ea661e7fcdc74372a173e153d723696bdaf7b33e2a4e232"), looks := true }, kinds := [], alts := [], laidByText := true, laidKinds := [.data, .pinned], laidTests := true, laidLooks := .later }
def LexBackUptoCardSaid : Prop := Claim7.holds Tryd.pinned (.plain (OpenSpec.upto lexBackSpec)) lexBackUptoCard
end Rows
end Go.Proofs.YtdcknacjeilifaaDoor
