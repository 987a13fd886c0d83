/- The closed facts of the row of BindTrace, one by one. The argument of BindTrace that is a key, opened to its cells. The start of the row: the listed variables laid by the kit's function; what the condition gives the walks: the library's table of white space. -/
import Derived.Test.YtiopaenonjhlnaaGreatDoorTie
import Derived.Test.YtiopaenonjhlnaaGreatDoorCards
import Derived.JoinedOf
import Derived.Test.YtiopaenonjhlnaaGreatDoorParseMem
import Derived.WalkKit
import Derived.ProofKit
import Derived.OpenShut
import Derived.Deep.Slices
import Derived.Deep.Fields
import Derived.LaidMore
import Derived.Lay
import Derived.SevenTiedAt
import Derived.Stop.Joined
import Derived.Stop.LaidErr
import Derived.Lib.LaidTab
namespace Go.Proofs.YtiopaenonjhlnaaGreatDoor
set_option maxRecDepth 100000 in
set_option maxHeartbeats 400000000 in
theorem trace_row_facts : joinedFacts Tryz.prog 3 Tryz.f3 Rows.bindTraceSpec Rows.bindTraceRow = true := by
  unfold joinedFacts
  simp only [Bool.and_eq_true]
  repeat' (refine And.intro ?_ ?_)
  all_goals (as_aux_lemma => kernel_rfl)
end Go.Proofs.YtiopaenonjhlnaaGreatDoor
namespace Go.Proofs.YtiopaenonjhlnaaGreatDoor
set_option maxRecDepth 100000
open Go.ChangeShapes Go.WideShapes Go.ChangeAt Go.RowKit
section
variable {H : Type} {enc : TypeId × Value → H} {W : World}
theorem key_open {v : Value} {d : DataW H} {p : List MemPlace} (hval : Value.okWide Tryz.prog W .any 0 23 v) (h : DataW.Trod enc Tryz.prog W 0 (fun _ => true) true 23 v d p) :
    ∃ c m : Int, v = .agg #[.int .i64 c, .int .i64 m] ∧ p = [] ∧ (Lit.int .i64 c).wf = true ∧ (Lit.int .i64 m).wf = true := by
  obtain ⟨cs, rfl, -⟩ := okWide_struct Tryz.underlying23 hval
  obtain ⟨fuel, hf⟩ := h
  obtain ⟨y0, y1, n, hx, hlen, h0, h1⟩ := trod_struct2 Tryz.underlying23 hf
  have hC : Tryz.prog.cellsOf 23 = 2 := by kernel_rfl
  have hI : Tryz.prog.cellsOf 3 = 1 := by kernel_rfl
  obtain ⟨l⟩ := cs
  simp only [Value.cells] at hlen h0 h1
  rw [hC] at hlen
  rw [hI] at h0 h1
  match l, hlen with
  | [c0, c1], _ =>
    simp only [List.drop_zero, List.drop_succ_cons, List.take_succ_cons, List.take_zero] at h0 h1
    obtain ⟨n0, e0, r0, w0⟩ := DataW.trod_int Tryz.underlying3 h0
    obtain ⟨n1, e1, r1, w1⟩ := DataW.trod_int Tryz.underlying3 h1
    injection e0 with e0
    injection e1 with e1
    subst e0 e1
    rw [r0, r1] at hx
    injection hx with _ hx
    exact ⟨n0, n1, rfl, by simpa using hx, w0, w1⟩
end
end Go.Proofs.YtiopaenonjhlnaaGreatDoor
namespace Go.Proofs.YtiopaenonjhlnaaGreatDoor
open Go.ChangeShapes Go.WideShapes Go.ChangeAt Go.RowKit

theorem own : ownKnob Tryz.prog.godebug = none := by kernel_rfl
theorem laidOut : laidOutB Tryz.prog = true := by kernel_rfl
/-- the variables that the rows list -/
abbrev listed : List (String × DataW Unit) := Rows.bindTraceRow.laid
set_option maxRecDepth 100000 in
theorem start_shaped (os : Os) (args : Array Value) : ((World.laidAll Tryz.prog os listed).forCall (fun _ _ => 0) ⟨#[], args, []⟩).Shaped Tryz.prog := World.shaped_of_ZipB (by kernel_rfl) (by kernel_rfl)
set_option maxRecDepth 100000 in
theorem listed_plain : (listed.all fun x => x.2.handleName?.isNone) = true := by kernel_rfl
set_option maxRecDepth 100000 in
theorem start_met (os : Os) (args : Array Value) : laidMet Tryz.prog listed ((World.laidAll Tryz.prog os listed).forCall (fun _ _ => 0) ⟨#[], args, []⟩).memory := laidMet_laidAll _ (by kernel_rfl) (by kernel_rfl)
theorem laidMet.drop {P : Program} {w : World} : ∀ (k : Nat) {l : List (String × DataW Unit)}, laidMet P l w → laidMet P (l.drop k) w
  | 0, _, h => h
  | _ + 1, [], h => h
  | k + 1, _ :: _, h => laidMet.drop k (Go.laidMet.tail h)
theorem gSpace : Tryz.prog.globalNamed "strings.asciiSpace" = some 0 := by kernel_rfl
set_option maxRecDepth 100000 in
theorem space_data : (Rows.laid_strings_asciiSpace : DataW Unit) = Lib.tabData .u8 Lib.asciiSpaceTab := by kernel_rfl
theorem space_of_laid {W : World} (h : laidMet Tryz.prog listed W) : Space W := by
  have h1 := laidMet.drop 13 h
  have e : listed.drop 13 = ("strings.asciiSpace", Lib.tabData .u8 Lib.asciiSpaceTab) :: listed.drop 14 := by rw [← space_data]; rfl
  rw [e] at h1
  exact Lib.tabIs_of_head gSpace (show (Tryz.prog.globals[0]?).map (·.type) = some 195 by kernel_rfl) Tryz.underlying195 Tryz.underlying5 (by kernel_rfl) (by kernel_rfl) h1
end Go.Proofs.YtiopaenonjhlnaaGreatDoor
