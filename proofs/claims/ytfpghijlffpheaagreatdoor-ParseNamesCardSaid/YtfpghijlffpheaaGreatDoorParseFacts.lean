/- The closed facts of the row of ParseNames, one by one. -/
import Derived.Test.YtfpghijlffpheaaGreatDoorTie
import Derived.Test.YtfpghijlffpheaaGreatDoorCards
import Derived.JoinedOf
namespace Go.Proofs.YtfpghijlffpheaaGreatDoor
set_option maxRecDepth 100000 in
set_option maxHeartbeats 400000000 in
theorem names_facts : joinedFacts Tryz.prog 3 Tryz.f3 Rows.parseNamesSpec Rows.parseNamesRow = true := by
  unfold joinedFacts
  simp only [Bool.and_eq_true]
  repeat' (refine And.intro ?_ ?_)
  all_goals (as_aux_lemma => kernel_rfl)
end Go.Proofs.YtfpghijlffpheaaGreatDoor
