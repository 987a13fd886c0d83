/- Plain facts on the table of commands, for the document's answer: a row's other names are parted by blanks; the names are in order. No program. -/
import Derived.Test.YtedlhdegdlabhaaGreatDoorParseLines
namespace Go.Proofs.YtedlhdegdlabhaaGreatDoor
set_option maxRecDepth 8000
namespace Px
open Lx (Bytes)

/-- what stands between blanks -/
def blanksGo : Bytes → Bytes → List Bytes
  | cur, [] => if cur.isEmpty then [] else [cur]
  | cur, b :: l => if b = 32 then (if cur.isEmpty then blanksGo [] l else cur :: blanksGo [] l) else blanksGo (cur ++ [b]) l
def blanks (s : Bytes) : List Bytes := blanksGo [] s
theorem blanks_alts : table.all (fun r => blanks r.others == alts r) = true := by decide +kernel
theorem blanks_is {r : Row} (h : r ∈ table) : blanks r.others = alts r := eq_of_beq (List.all_eq_true.1 blanks_alts r h)
def names : List Bytes := table.map (·.name)
theorem names_len : names.length = 65 := rfl
theorem table_len : table.length = 65 := rfl
theorem names_sorted : names.Pairwise (fun a b => a < b) := by decide +kernel
theorem others_ascii : table.all (fun r => r.others.all (· < 128)) = true := by decide +kernel
theorem alts_few : table.all (fun r => decide ((alts r).length ≤ 2)) = true := by decide +kernel
theorem others_short : table.all (fun r => decide (r.others.length ≤ 20) && decide (r.name.length ≤ 20) && decide (r.flags.length ≤ 20)) = true := by decide +kernel
theorem most_small : table.all (fun r => decide (-1 ≤ r.most) && decide (r.most ≤ 5) && decide (0 ≤ r.few) && decide (r.few ≤ 5)) = true := by decide +kernel
end Px
end Go.Proofs.YtedlhdegdlabhaaGreatDoor
