/-
  DERIVED: THE SHELF's CONTRACTS AT THIS DUMP, IN PLAIN WORDS (tools/lay-plain.mjs out of 'YtjokfllldcjheaaLae.lean', which tools/lay-shelf.mjs wrote): THE SAME DECLARATIONS UNDER THE SAME NAMES: 'import', 'namespace', 'open', 'def', 'theorem' AND NOTHING ELSE: no command of the shelf's: FOR A HAND-IN. Each laying: the table of numbers ('.._ren') and one theorem, a field a fact of the dump's own or the kernel's comparison; each contract: ONE APPLICATION.
-/
import Derived.Shelf.SlSortCmp.WholeK
import Derived.Shelf.SlSortCmp.NoneTotal
import Derived.Test.YtjokfllldcjheaaProg
namespace Go.Proofs
open Go.Shelf
def Try.sortE_ren : Go.Shelf.Ren := ⟨fun | 6 => 26 | 15 => 39 | 14 => 38 | 28 => 59 | 29 => 60 | 20 => 51 | 21 => 52 | 22 => 53 | 23 => 54 | 24 => 55 | 25 => 56 | 26 => 57 | 27 => 58 | 46 => 68 | 47 => 69 | 48 => 70 | 49 => 71 | 50 => 72 | 57 => 75 | n => n, fun | 22 => 22 | 24 => 52 | 25 => 70 | 3 => 3 | 39 => 87 | 0 => 0 | 53 => 110 | 55 => 112 | 4 => 4 | 46 => 103 | 45 => 102 | 50 => 107 | 5 => 5 | 9 => 9 | 66 => 116 | 70 => 120 | 76 => 124 | 77 => 125 | n => n, fun | n => n⟩
theorem Try.sortE : Go.Proofs.SlLaysF0.n6 Try.prog Try.sortE_ren := {
  mixed := by kernel_rfl
  f6 := ⟨Try.f26.name, by decide, Try.func26.trans (congrArg some (by kernel_rfl))⟩
  f14 := ⟨Try.f38.name, by decide, Try.func38.trans (congrArg some (by kernel_rfl))⟩
  f15 := Try.func39.trans (congrArg some (by kernel_rfl))
  f20 := ⟨Try.f51.name, by decide, Try.func51.trans (congrArg some (by kernel_rfl))⟩
  f21 := ⟨Try.f52.name, by decide, Try.func52.trans (congrArg some (by kernel_rfl))⟩
  f22 := ⟨Try.f53.name, by decide, Try.func53.trans (congrArg some (by kernel_rfl))⟩
  f23 := ⟨Try.f54.name, by decide, Try.func54.trans (congrArg some (by kernel_rfl))⟩
  f24 := ⟨Try.f55.name, by decide, Try.func55.trans (congrArg some (by kernel_rfl))⟩
  f25 := ⟨Try.f56.name, by decide, Try.func56.trans (congrArg some (by kernel_rfl))⟩
  f26 := ⟨Try.f57.name, by decide, Try.func57.trans (congrArg some (by kernel_rfl))⟩
  f27 := ⟨Try.f58.name, by decide, Try.func58.trans (congrArg some (by kernel_rfl))⟩
  f28 := Try.func59.trans (congrArg some (by kernel_rfl))
  f29 := Try.func60.trans (congrArg some (by kernel_rfl))
  f46 := ⟨Try.f68.name, by decide, Try.func68.trans (congrArg some (by kernel_rfl))⟩
  f47 := Try.func69.trans (congrArg some (by kernel_rfl))
  f48 := Try.func70.trans (congrArg some (by kernel_rfl))
  f49 := ⟨Try.f71.name, by decide, Try.func71.trans (congrArg some (by kernel_rfl))⟩
  f50 := ⟨Try.f72.name, by decide, Try.func72.trans (congrArg some (by kernel_rfl))⟩
  f57 := ⟨Try.f75.name, by decide, Try.func75.trans (congrArg some (by kernel_rfl))⟩
  t0 := Try.underlying0
  a0 := Try.isAgg0
  z0 := Try.sizeOf0
  v0 := Try.zeroValue0
  t3 := Try.underlying3
  a3 := Try.isAgg3
  z3 := Try.sizeOf3
  v3 := Try.zeroValue3
  t4 := Try.underlying4
  a4 := Try.isAgg4
  z4 := Try.sizeOf4
  v4 := Try.zeroValue4
  t5 := Try.underlying5
  a5 := Try.isAgg5
  z5 := Try.sizeOf5
  v5 := Try.zeroValue5
  t9 := Try.underlying9
  a9 := Try.isAgg9
  z9 := Try.sizeOf9
  v9 := Try.zeroValue9
  t22 := Try.underlying22
  a22 := Try.isAgg22
  z22 := Try.sizeOf22
  v22 := Try.zeroValue22
  t25 := Try.underlying70
  a25 := Try.isAgg70
  z25 := Try.sizeOf70
  v25 := Try.zeroValue70
  t39 := Try.underlying87
  a39 := Try.isAgg87
  z39 := Try.sizeOf87
  v39 := Try.zeroValue87
  t45 := Try.underlying102
  a45 := Try.isAgg102
  z45 := Try.sizeOf102
  v45 := Try.zeroValue102
  t46 := Try.underlying103
  a46 := Try.isAgg103
  z46 := Try.sizeOf103
  v46 := Try.zeroValue103
  t50 := Try.underlying107
  a50 := Try.isAgg107
  z50 := Try.sizeOf107
  v50 := Try.zeroValue107
  t53 := Try.underlying110
  a53 := Try.isAgg110
  z53 := Try.sizeOf110
  v53 := Try.zeroValue110
  t55 := Try.underlying112
  a55 := Try.isAgg112
  z55 := Try.sizeOf112
  v55 := Try.zeroValue112
  t66 := Try.underlying116
  a66 := Try.isAgg116
  z66 := Try.sizeOf116
  v66 := Try.zeroValue116
  t70 := Try.underlying120
  a70 := Try.isAgg120
  z70 := Try.sizeOf120
  v70 := Try.zeroValue120
  t76 := Try.underlying124
  a76 := Try.isAgg124
  z76 := Try.sizeOf124
  v76 := Try.zeroValue124
  t77 := Try.underlying125
  a77 := Try.isAgg125
  z77 := Try.sizeOf125
  v77 := Try.zeroValue125 }
end Go.Proofs
