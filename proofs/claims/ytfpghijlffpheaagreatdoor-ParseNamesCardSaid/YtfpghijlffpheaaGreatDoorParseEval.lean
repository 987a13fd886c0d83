/- What package parse makes of the two texts of chapter 12's examples. Plain functions; no program. -/
import Derived.Test.YtfpghijlffpheaaGreatDoorParseLines
import Derived.Test.YtfpghijlffpheaaGreatDoorLexLaw
import Derived.Test.YtfpghijlffpheaaGreatDoorLexEval
namespace Go.Proofs.YtfpghijlffpheaaGreatDoor
set_option maxRecDepth 8000
open Lx (Bytes)
namespace Lx
theorem eval_splitw : split [] [115, 112, 108, 105, 116, 119, 32, 45, 104, 108, 32, 50, 48, 32, 45, 116, 32, 37, 49, 32, 59, 32, 107, 105, 108, 108, 112] =
    .ok [([⟨[115, 112, 108, 105, 116, 119], 1, false⟩, ⟨[45, 104, 108], 1, false⟩, ⟨[50, 48], 1, false⟩, ⟨[45, 116], 1, false⟩, ⟨[37, 49], 1, false⟩], 1), ([⟨[107, 105, 108, 108, 112], 1, false⟩], 1)] := by
  simp [split, read_cons, read_nil, word_cons, word_over, word_nil, over, put, feeds, fin]
theorem eval_cond : split [] [37, 105, 102, 32, 39, 35, 123, 120, 125, 39, 10, 110, 101, 119, 10, 37, 101, 108, 115, 101, 10, 111, 111, 112, 115, 10, 37, 101, 110, 100, 105, 102] =
    .ok [([⟨[37, 105, 102], 1, false⟩, ⟨[35, 123, 120, 125], 1, false⟩], 1), ([⟨[110, 101, 119], 2, false⟩], 2), ([⟨[37, 101, 108, 115, 101], 3, false⟩], 3), ([⟨[111, 111, 112, 115], 4, false⟩], 4), ([⟨[37, 101, 110, 100, 105, 102], 5, false⟩], 5)] := by
  simp [split, read_cons, read_nil, word_cons, word_over, word_nil, over, put, single, feeds, fin, bump]
end Lx
namespace Px
/-- splitw -hl 20 -t %1 ; killp -/
abbrev text1 : Bytes := [115, 112, 108, 105, 116, 119, 32, 45, 104, 108, 32, 50, 48, 32, 45, 116, 32, 37, 49, 32, 59, 32, 107, 105, 108, 108, 112]
abbrev text2 : Bytes := [37, 105, 102, 32, 39, 35, 123, 120, 125, 39, 10, 110, 101, 119, 10, 37, 101, 108, 115, 101, 10, 111, 111, 112, 115, 10, 37, 101, 110, 100, 105, 102]
def splitw : Cmd := ⟨[115, 112, 108, 105, 116, 45, 119, 105, 110, 100, 111, 119], [(104, []), (108, [50, 48]), (116, [37, 49])], [], 1⟩
def killp : Cmd := ⟨[107, 105, 108, 108, 45, 112, 97, 110, 101], [], [], 1⟩
theorem parse_one (X : Bytes → Bytes × Int) : parse X [] text1 = .ok [[splitw, killp]] := by
  rw [parse, Lx.eval_splitw]
  rfl
theorem parse_two (X : Bytes → Bytes × Int) (h : X [35, 123, 120, 125] = ([], 0)) : parse X [] text2 = .error (10, 4) := by
  rw [parse, Lx.eval_cond]
  have w1 : words [⟨[111, 111, 112, 115], 4, false⟩] = .error 10 := rfl
  simp [parseL, isDir, dir, dirOn, asked, h, taken, isTrue, ofLn, ofW, setLast, line0, w1]
end Px
end Go.Proofs.YtfpghijlffpheaaGreatDoor
