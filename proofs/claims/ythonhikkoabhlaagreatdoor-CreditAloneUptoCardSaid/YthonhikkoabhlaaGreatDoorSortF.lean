/-
  DERIVED: THE SHELF's CONTRACTS AT THIS DUMP, IN PLAIN WORDS (tools/lay-plain.mjs out of 'TryzSortF.lean', which tools/lay-shelf.mjs wrote): THE SAME DECLARATIONS UNDER THE SAME NAMES: 'import', 'namespace', 'open', 'def', 'theorem' AND NOTHING ELSE: no command of the shelf's: FOR A HAND-IN. Each laying: the table of numbers ('.._ren') and one theorem, a field a fact of the dump's own or the kernel's comparison; each contract: ONE APPLICATION.
-/
import Derived.Shelf.SlGeneric
import Derived.Shelf.SlSortCmp.WholeK
import Derived.Ground.SlsfProg
import Derived.Test.YthonhikkoabhlaaGreatDoorProg
namespace Go.Proofs
open Go.Shelf
def Tryz.sortF_ren : Go.Shelf.Ren := ⟨fun | 6 => 42 | 15 => 60 | 14 => 59 | 28 => 76 | 29 => 77 | 20 => 68 | 21 => 69 | 22 => 70 | 23 => 71 | 24 => 72 | 25 => 73 | 26 => 74 | 27 => 75 | 46 => 84 | 47 => 85 | 48 => 86 | 49 => 87 | 50 => 88 | 57 => 94 | n => n, fun | 22 => 30 | 24 => 47 | 25 => 103 | 3 => 3 | 39 => 118 | 0 => 0 | 53 => 132 | 55 => 39 | 4 => 4 | 46 => 125 | 45 => 124 | 50 => 129 | 5 => 5 | 9 => 9 | 66 => 137 | 70 => 141 | 76 => 145 | 77 => 146 | n => n, fun | n => n⟩
theorem Tryz.sortF : Go.Proofs.SlLaysF0.n6 Tryz.prog Tryz.sortF_ren := {
  mixed := by kernel_rfl
  f6 := ⟨Tryz.f42.name, by decide, Tryz.func42.trans (congrArg some (by kernel_rfl))⟩
  f14 := ⟨Tryz.f59.name, by decide, Tryz.func59.trans (congrArg some (by kernel_rfl))⟩
  f15 := Tryz.func60.trans (congrArg some (by kernel_rfl))
  f20 := ⟨Tryz.f68.name, by decide, Tryz.func68.trans (congrArg some (by kernel_rfl))⟩
  f21 := ⟨Tryz.f69.name, by decide, Tryz.func69.trans (congrArg some (by kernel_rfl))⟩
  f22 := ⟨Tryz.f70.name, by decide, Tryz.func70.trans (congrArg some (by kernel_rfl))⟩
  f23 := ⟨Tryz.f71.name, by decide, Tryz.func71.trans (congrArg some (by kernel_rfl))⟩
  f24 := ⟨Tryz.f72.name, by decide, Tryz.func72.trans (congrArg some (by kernel_rfl))⟩
  f25 := ⟨Tryz.f73.name, by decide, Tryz.func73.trans (congrArg some (by kernel_rfl))⟩
  f26 := ⟨Tryz.f74.name, by decide, Tryz.func74.trans (congrArg some (by kernel_rfl))⟩
  f27 := ⟨Tryz.f75.name, by decide, Tryz.func75.trans (congrArg some (by kernel_rfl))⟩
  f28 := Tryz.func76.trans (congrArg some (by kernel_rfl))
  f29 := Tryz.func77.trans (congrArg some (by kernel_rfl))
  f46 := ⟨Tryz.f84.name, by decide, Tryz.func84.trans (congrArg some (by kernel_rfl))⟩
  f47 := Tryz.func85.trans (congrArg some (by kernel_rfl))
  f48 := Tryz.func86.trans (congrArg some (by kernel_rfl))
  f49 := ⟨Tryz.f87.name, by decide, Tryz.func87.trans (congrArg some (by kernel_rfl))⟩
  f50 := ⟨Tryz.f88.name, by decide, Tryz.func88.trans (congrArg some (by kernel_rfl))⟩
  f57 := ⟨Tryz.f94.name, by decide, Tryz.func94.trans (congrArg some (by kernel_rfl))⟩
  t0 := Tryz.underlying0
  a0 := Tryz.isAgg0
  z0 := Tryz.sizeOf0
  v0 := Tryz.zeroValue0
  t3 := Tryz.underlying3
  a3 := Tryz.isAgg3
  z3 := Tryz.sizeOf3
  v3 := Tryz.zeroValue3
  t4 := Tryz.underlying4
  a4 := Tryz.isAgg4
  z4 := Tryz.sizeOf4
  v4 := Tryz.zeroValue4
  t5 := Tryz.underlying5
  a5 := Tryz.isAgg5
  z5 := Tryz.sizeOf5
  v5 := Tryz.zeroValue5
  t9 := Tryz.underlying9
  a9 := Tryz.isAgg9
  z9 := Tryz.sizeOf9
  v9 := Tryz.zeroValue9
  t22 := Tryz.underlying30
  a22 := Tryz.isAgg30
  z22 := Tryz.sizeOf30
  v22 := Tryz.zeroValue30
  t25 := Tryz.underlying103
  a25 := Tryz.isAgg103
  z25 := Tryz.sizeOf103
  v25 := Tryz.zeroValue103
  t39 := Tryz.underlying118
  a39 := Tryz.isAgg118
  z39 := Tryz.sizeOf118
  v39 := Tryz.zeroValue118
  t45 := Tryz.underlying124
  a45 := Tryz.isAgg124
  z45 := Tryz.sizeOf124
  v45 := Tryz.zeroValue124
  t46 := Tryz.underlying125
  a46 := Tryz.isAgg125
  z46 := Tryz.sizeOf125
  v46 := Tryz.zeroValue125
  t50 := Tryz.underlying129
  a50 := Tryz.isAgg129
  z50 := Tryz.sizeOf129
  v50 := Tryz.zeroValue129
  t53 := Tryz.underlying132
  a53 := Tryz.isAgg132
  z53 := Tryz.sizeOf132
  v53 := Tryz.zeroValue132
  t55 := Tryz.underlying39
  a55 := Tryz.isAgg39
  z55 := Tryz.sizeOf39
  v55 := Tryz.zeroValue39
  t66 := Tryz.underlying137
  a66 := Tryz.isAgg137
  z66 := Tryz.sizeOf137
  v66 := Tryz.zeroValue137
  t70 := Tryz.underlying141
  a70 := Tryz.isAgg141
  z70 := Tryz.sizeOf141
  v70 := Tryz.zeroValue141
  t76 := Tryz.underlying145
  a76 := Tryz.isAgg145
  z76 := Tryz.sizeOf145
  v76 := Tryz.zeroValue145
  t77 := Tryz.underlying146
  a77 := Tryz.isAgg146
  z77 := Tryz.sizeOf146
  v77 := Tryz.zeroValue146 }
end Go.Proofs
