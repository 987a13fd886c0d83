/- The start of chapter 12's rows: the listed variables laid by the kit's function; what the condition gives the walks: the library's table of white space. -/
import Derived.Test.YtfpghijlffpheaaGreatDoorTie
import Derived.Test.YtfpghijlffpheaaGreatDoorCards
import Derived.Test.YtfpghijlffpheaaGreatDoorParseMem
import Derived.WalkKit
import Derived.ProofKit
import Derived.OpenShut
import Derived.LaidMore
import Derived.Lay
import Derived.SevenTiedAt
import Derived.Stop.Joined
import Derived.Stop.LaidErr
import Derived.Lib.LaidTab
namespace Go.Proofs.YtfpghijlffpheaaGreatDoor
open Go.ChangeShapes Go.WideShapes Go.ChangeAt Go.RowKit

theorem own : ownKnob Tryz.prog.godebug = none := by kernel_rfl
theorem laidOut : laidOutB Tryz.prog = true := by kernel_rfl
/-- the variables that the rows list -/
abbrev listed : List (String × DataW Unit) := Rows.parseNamesRow.laid
set_option maxRecDepth 100000 in
theorem start_shaped (os : Os) (args : Array Value) : ((World.laidAll Tryz.prog os listed).forCall (fun _ _ => 0) ⟨#[], args, []⟩).Shaped Tryz.prog := World.shaped_of_ZipB (by kernel_rfl) (by kernel_rfl)
set_option maxRecDepth 100000 in
theorem listed_plain : (listed.all fun x => x.2.handleName?.isNone) = true := by kernel_rfl
set_option maxRecDepth 100000 in
theorem start_met (os : Os) (args : Array Value) : laidMet Tryz.prog listed ((World.laidAll Tryz.prog os listed).forCall (fun _ _ => 0) ⟨#[], args, []⟩).memory := laidMet_laidAll _ (by kernel_rfl) (by kernel_rfl)
theorem laidMet.drop {P : Program} {w : World} : ∀ (k : Nat) {l : List (String × DataW Unit)}, laidMet P l w → laidMet P (l.drop k) w
  | 0, _, h => h
  | _ + 1, [], h => h
  | k + 1, _ :: _, h => laidMet.drop k (Go.laidMet.tail h)
theorem gSpace : Tryz.prog.globalNamed "strings.asciiSpace" = some 0 := by kernel_rfl
set_option maxRecDepth 100000 in
theorem space_data : (Rows.laid_strings_asciiSpace : DataW Unit) = Lib.tabData .u8 Lib.asciiSpaceTab := by kernel_rfl
theorem space_of_laid {W : World} (h : laidMet Tryz.prog listed W) : Space W := by
  have h1 := laidMet.drop 13 h
  have e : listed.drop 13 = ("strings.asciiSpace", Lib.tabData .u8 Lib.asciiSpaceTab) :: listed.drop 14 := by rw [← space_data]; rfl
  rw [e] at h1
  exact Lib.tabIs_of_head gSpace (show (Tryz.prog.globals[0]?).map (·.type) = some 124 by kernel_rfl) Tryz.underlying124 Tryz.underlying5 (by kernel_rfl) (by kernel_rfl) h1
end Go.Proofs.YtfpghijlffpheaaGreatDoor
