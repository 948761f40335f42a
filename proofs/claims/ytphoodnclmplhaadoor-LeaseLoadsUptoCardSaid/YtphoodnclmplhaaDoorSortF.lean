/-
  DERIVED: THE SHELF's CONTRACTS AT THIS DUMP, IN PLAIN WORDS (tools/lay-plain.mjs out of 'TrydSortF.lean', which tools/lay-shelf.mjs wrote): THE SAME DECLARATIONS UNDER THE SAME NAMES: 'import', 'namespace', 'open', 'def', 'theorem' AND NOTHING ELSE: no command of the shelf's: FOR A HAND-IN. Each laying: the table of numbers ('.._ren') and one theorem, a field a fact of the dump's own or the kernel's comparison; each contract: ONE APPLICATION.
-/
import Derived.Shelf.SlGeneric
import Derived.Shelf.SlSortCmp.WholeK
import Derived.Ground.SlsfProg
import Derived.Test.YtphoodnclmplhaaDoorProg
namespace Go.Proofs
open Go.Shelf
def Tryd.sortF_ren : Go.Shelf.Ren := ⟨fun | 6 => 54 | 15 => 65 | 14 => 64 | 28 => 80 | 29 => 81 | 20 => 72 | 21 => 73 | 22 => 74 | 23 => 75 | 24 => 76 | 25 => 77 | 26 => 78 | 27 => 79 | 46 => 88 | 47 => 89 | 48 => 90 | 49 => 91 | 50 => 92 | 57 => 97 | n => n, fun | 22 => 26 | 24 => 34 | 25 => 71 | 3 => 3 | 39 => 88 | 0 => 0 | 53 => 101 | 55 => 103 | 4 => 4 | 46 => 94 | 45 => 93 | 50 => 98 | 5 => 5 | 9 => 9 | 66 => 105 | 70 => 109 | 76 => 113 | 77 => 114 | n => n, fun | n => n⟩
theorem Tryd.sortF : Go.Proofs.SlLaysF0.n6 Tryd.prog Tryd.sortF_ren := {
  mixed := by kernel_rfl
  f6 := ⟨Tryd.f54.name, by decide, Tryd.func54.trans (congrArg some (by kernel_rfl))⟩
  f14 := ⟨Tryd.f64.name, by decide, Tryd.func64.trans (congrArg some (by kernel_rfl))⟩
  f15 := Tryd.func65.trans (congrArg some (by kernel_rfl))
  f20 := ⟨Tryd.f72.name, by decide, Tryd.func72.trans (congrArg some (by kernel_rfl))⟩
  f21 := ⟨Tryd.f73.name, by decide, Tryd.func73.trans (congrArg some (by kernel_rfl))⟩
  f22 := ⟨Tryd.f74.name, by decide, Tryd.func74.trans (congrArg some (by kernel_rfl))⟩
  f23 := ⟨Tryd.f75.name, by decide, Tryd.func75.trans (congrArg some (by kernel_rfl))⟩
  f24 := ⟨Tryd.f76.name, by decide, Tryd.func76.trans (congrArg some (by kernel_rfl))⟩
  f25 := ⟨Tryd.f77.name, by decide, Tryd.func77.trans (congrArg some (by kernel_rfl))⟩
  f26 := ⟨Tryd.f78.name, by decide, Tryd.func78.trans (congrArg some (by kernel_rfl))⟩
  f27 := ⟨Tryd.f79.name, by decide, Tryd.func79.trans (congrArg some (by kernel_rfl))⟩
  f28 := Tryd.func80.trans (congrArg some (by kernel_rfl))
  f29 := Tryd.func81.trans (congrArg some (by kernel_rfl))
  f46 := ⟨Tryd.f88.name, by decide, Tryd.func88.trans (congrArg some (by kernel_rfl))⟩
  f47 := Tryd.func89.trans (congrArg some (by kernel_rfl))
  f48 := Tryd.func90.trans (congrArg some (by kernel_rfl))
  f49 := ⟨Tryd.f91.name, by decide, Tryd.func91.trans (congrArg some (by kernel_rfl))⟩
  f50 := ⟨Tryd.f92.name, by decide, Tryd.func92.trans (congrArg some (by kernel_rfl))⟩
  f57 := ⟨Tryd.f97.name, by decide, Tryd.func97.trans (congrArg some (by kernel_rfl))⟩
  t0 := Tryd.underlying0
  a0 := Tryd.isAgg0
  z0 := Tryd.sizeOf0
  v0 := Tryd.zeroValue0
  t3 := Tryd.underlying3
  a3 := Tryd.isAgg3
  z3 := Tryd.sizeOf3
  v3 := Tryd.zeroValue3
  t4 := Tryd.underlying4
  a4 := Tryd.isAgg4
  z4 := Tryd.sizeOf4
  v4 := Tryd.zeroValue4
  t5 := Tryd.underlying5
  a5 := Tryd.isAgg5
  z5 := Tryd.sizeOf5
  v5 := Tryd.zeroValue5
  t9 := Tryd.underlying9
  a9 := Tryd.isAgg9
  z9 := Tryd.sizeOf9
  v9 := Tryd.zeroValue9
  t22 := Tryd.underlying26
  a22 := Tryd.isAgg26
  z22 := Tryd.sizeOf26
  v22 := Tryd.zeroValue26
  t25 := Tryd.underlying71
  a25 := Tryd.isAgg71
  z25 := Tryd.sizeOf71
  v25 := Tryd.zeroValue71
  t39 := Tryd.underlying88
  a39 := Tryd.isAgg88
  z39 := Tryd.sizeOf88
  v39 := Tryd.zeroValue88
  t45 := Tryd.underlying93
  a45 := Tryd.isAgg93
  z45 := Tryd.sizeOf93
  v45 := Tryd.zeroValue93
  t46 := Tryd.underlying94
  a46 := Tryd.isAgg94
  z46 := Tryd.sizeOf94
  v46 := Tryd.zeroValue94
  t50 := Tryd.underlying98
  a50 := Tryd.isAgg98
  z50 := Tryd.sizeOf98
  v50 := Tryd.zeroValue98
  t53 := Tryd.underlying101
  a53 := Tryd.isAgg101
  z53 := Tryd.sizeOf101
  v53 := Tryd.zeroValue101
  t55 := Tryd.underlying103
  a55 := Tryd.isAgg103
  z55 := Tryd.sizeOf103
  v55 := Tryd.zeroValue103
  t66 := Tryd.underlying105
  a66 := Tryd.isAgg105
  z66 := Tryd.sizeOf105
  v66 := Tryd.zeroValue105
  t70 := Tryd.underlying109
  a70 := Tryd.isAgg109
  z70 := Tryd.sizeOf109
  v70 := Tryd.zeroValue109
  t76 := Tryd.underlying113
  a76 := Tryd.isAgg113
  z76 := Tryd.sizeOf113
  v76 := Tryd.zeroValue113
  t77 := Tryd.underlying114
  a77 := Tryd.isAgg114
  z77 := Tryd.sizeOf114
  v77 := Tryd.zeroValue114 }
end Go.Proofs
