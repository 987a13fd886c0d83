/-
  DERIVED: THE SHELF's CONTRACTS AT THIS DUMP, IN PLAIN WORDS (tools/lay-plain.mjs out of 'TryzSortShelf.lean', which tools/lay-shelf.mjs wrote): THE SAME DECLARATIONS UNDER THE SAME NAMES: 'import', 'namespace', 'open', 'def', 'theorem' AND NOTHING ELSE: no command of the shelf's: FOR A HAND-IN. Each laying: the table of numbers ('.._ren') and one theorem, a field a fact of the dump's own or the kernel's comparison; each contract: ONE APPLICATION.
-/
import Derived.Shelf.SlGeneric
import Derived.Shelf.SlSortCmp.NoneTotal
import Derived.Shelf.SlicesQ.IndexFunc
import Derived.Ground.SlsfProg
import Derived.Ground.SlgfProg
import Derived.Test.YtfpghijlffpheaaGreatDoorProg
namespace Go.Proofs
open Go.Shelf
def Tryz.sortFl_ren : Go.Shelf.Ren := ⟨fun | 6 => 72 | 15 => 38 | 14 => 98 | 28 => 63 | 29 => 64 | 20 => 114 | 21 => 115 | 22 => 116 | 23 => 117 | 24 => 118 | 25 => 119 | 26 => 120 | 27 => 121 | 46 => 132 | 47 => 86 | 48 => 87 | 49 => 133 | 50 => 134 | 57 => 146 | n => n, fun | 22 => 45 | 24 => 87 | 25 => 148 | 3 => 3 | 39 => 106 | 0 => 0 | 53 => 136 | 55 => 138 | 4 => 4 | 46 => 129 | 45 => 128 | 50 => 133 | 5 => 5 | 9 => 9 | 66 => 164 | 70 => 168 | 76 => 192 | 77 => 193 | n => n, fun | n => n⟩
theorem Tryz.sortFl : Go.Proofs.SlLaysF0.n6 Tryz.prog Tryz.sortFl_ren := {
  mixed := by kernel_rfl
  f6 := ⟨Tryz.f72.name, by decide, Tryz.func72.trans (congrArg some (by kernel_rfl))⟩
  f14 := ⟨Tryz.f98.name, by decide, Tryz.func98.trans (congrArg some (by kernel_rfl))⟩
  f15 := Tryz.func38.trans (congrArg some (by kernel_rfl))
  f20 := ⟨Tryz.f114.name, by decide, Tryz.func114.trans (congrArg some (by kernel_rfl))⟩
  f21 := ⟨Tryz.f115.name, by decide, Tryz.func115.trans (congrArg some (by kernel_rfl))⟩
  f22 := ⟨Tryz.f116.name, by decide, Tryz.func116.trans (congrArg some (by kernel_rfl))⟩
  f23 := ⟨Tryz.f117.name, by decide, Tryz.func117.trans (congrArg some (by kernel_rfl))⟩
  f24 := ⟨Tryz.f118.name, by decide, Tryz.func118.trans (congrArg some (by kernel_rfl))⟩
  f25 := ⟨Tryz.f119.name, by decide, Tryz.func119.trans (congrArg some (by kernel_rfl))⟩
  f26 := ⟨Tryz.f120.name, by decide, Tryz.func120.trans (congrArg some (by kernel_rfl))⟩
  f27 := ⟨Tryz.f121.name, by decide, Tryz.func121.trans (congrArg some (by kernel_rfl))⟩
  f28 := Tryz.func63.trans (congrArg some (by kernel_rfl))
  f29 := Tryz.func64.trans (congrArg some (by kernel_rfl))
  f46 := ⟨Tryz.f132.name, by decide, Tryz.func132.trans (congrArg some (by kernel_rfl))⟩
  f47 := Tryz.func86.trans (congrArg some (by kernel_rfl))
  f48 := Tryz.func87.trans (congrArg some (by kernel_rfl))
  f49 := ⟨Tryz.f133.name, by decide, Tryz.func133.trans (congrArg some (by kernel_rfl))⟩
  f50 := ⟨Tryz.f134.name, by decide, Tryz.func134.trans (congrArg some (by kernel_rfl))⟩
  f57 := ⟨Tryz.f146.name, by decide, Tryz.func146.trans (congrArg some (by kernel_rfl))⟩
  t0 := Tryz.underlying0
  a0 := Tryz.isAgg0
  z0 := Tryz.sizeOf0
  v0 := Tryz.zeroValue0
  t3 := Tryz.underlying3
  a3 := Tryz.isAgg3
  z3 := Tryz.sizeOf3
  v3 := Tryz.zeroValue3
  t4 := Tryz.underlying4
  a4 := Tryz.isAgg4
  z4 := Tryz.sizeOf4
  v4 := Tryz.zeroValue4
  t5 := Tryz.underlying5
  a5 := Tryz.isAgg5
  z5 := Tryz.sizeOf5
  v5 := Tryz.zeroValue5
  t9 := Tryz.underlying9
  a9 := Tryz.isAgg9
  z9 := Tryz.sizeOf9
  v9 := Tryz.zeroValue9
  t22 := Tryz.underlying45
  a22 := Tryz.isAgg45
  z22 := Tryz.sizeOf45
  v22 := Tryz.zeroValue45
  t25 := Tryz.underlying148
  a25 := Tryz.isAgg148
  z25 := Tryz.sizeOf148
  v25 := Tryz.zeroValue148
  t39 := Tryz.underlying106
  a39 := Tryz.isAgg106
  z39 := Tryz.sizeOf106
  v39 := Tryz.zeroValue106
  t45 := Tryz.underlying128
  a45 := Tryz.isAgg128
  z45 := Tryz.sizeOf128
  v45 := Tryz.zeroValue128
  t46 := Tryz.underlying129
  a46 := Tryz.isAgg129
  z46 := Tryz.sizeOf129
  v46 := Tryz.zeroValue129
  t50 := Tryz.underlying133
  a50 := Tryz.isAgg133
  z50 := Tryz.sizeOf133
  v50 := Tryz.zeroValue133
  t53 := Tryz.underlying136
  a53 := Tryz.isAgg136
  z53 := Tryz.sizeOf136
  v53 := Tryz.zeroValue136
  t55 := Tryz.underlying138
  a55 := Tryz.isAgg138
  z55 := Tryz.sizeOf138
  v55 := Tryz.zeroValue138
  t66 := Tryz.underlying164
  a66 := Tryz.isAgg164
  z66 := Tryz.sizeOf164
  v66 := Tryz.zeroValue164
  t70 := Tryz.underlying168
  a70 := Tryz.isAgg168
  z70 := Tryz.sizeOf168
  v70 := Tryz.zeroValue168
  t76 := Tryz.underlying192
  a76 := Tryz.isAgg192
  z76 := Tryz.sizeOf192
  v76 := Tryz.zeroValue192
  t77 := Tryz.underlying193
  a77 := Tryz.isAgg193
  z77 := Tryz.sizeOf193
  v77 := Tryz.zeroValue193 }
def Tryz.indexFl_ren : Go.Shelf.Ren := ⟨fun | 6 => 27 | n => n, fun | 22 => 45 | 23 => 87 | 25 => 88 | 3 => 3 | 0 => 0 | 4 => 4 | n => n, fun | n => n⟩
theorem Tryz.indexFl : Go.Proofs.SlLaysH0.n6 Tryz.prog Tryz.indexFl_ren := {
  mixed := by kernel_rfl
  f6 := ⟨Tryz.f27.name, by decide, Tryz.func27.trans (congrArg some (by kernel_rfl))⟩
  t0 := Tryz.underlying0
  a0 := Tryz.isAgg0
  z0 := Tryz.sizeOf0
  v0 := Tryz.zeroValue0
  t3 := Tryz.underlying3
  a3 := Tryz.isAgg3
  z3 := Tryz.sizeOf3
  v3 := Tryz.zeroValue3
  t4 := Tryz.underlying4
  a4 := Tryz.isAgg4
  z4 := Tryz.sizeOf4
  v4 := Tryz.zeroValue4
  t22 := Tryz.underlying45
  a22 := Tryz.isAgg45
  z22 := Tryz.sizeOf45
  v22 := Tryz.zeroValue45
  t25 := Tryz.underlying88
  a25 := Tryz.isAgg88
  z25 := Tryz.sizeOf88
  v25 := Tryz.zeroValue88 }
end Go.Proofs
