/-
  DERIVED: THE SHELF's CONTRACTS AT THIS DUMP, IN PLAIN WORDS (tools/lay-plain.mjs out of 'TrydSort.lean', which tools/lay-shelf.mjs wrote): THE SAME DECLARATIONS UNDER THE SAME NAMES: 'import', 'namespace', 'open', 'def', 'theorem' AND NOTHING ELSE: no command of the shelf's: FOR A HAND-IN. Each laying: the table of numbers ('.._ren') and one theorem, a field a fact of the dump's own or the kernel's comparison; each contract: ONE APPLICATION.
-/
import Derived.Ground.SlsfProg
import Derived.Shelf.SlSortCmp.Whole1
import Derived.Test.YtdnglhcconnocaaDoorProg
namespace Go.Proofs
open Go.Shelf
def Tryd.laysSF6_ren : Go.Shelf.Ren := ⟨fun | 6 => 29 | 15 => 41 | 14 => 40 | 28 => 58 | 29 => 59 | 20 => 50 | 21 => 51 | 22 => 52 | 23 => 53 | 24 => 54 | 25 => 55 | 26 => 56 | 27 => 57 | 46 => 67 | 47 => 68 | 48 => 69 | 49 => 70 | 50 => 71 | 57 => 85 | n => n, fun | 22 => 37 | 24 => 3 | 25 => 68 | 3 => 3 | 39 => 86 | 0 => 0 | 53 => 102 | 55 => 104 | 4 => 4 | 46 => 96 | 45 => 95 | 50 => 65 | 5 => 5 | 9 => 9 | 66 => 110 | 70 => 114 | 76 => 124 | 77 => 125 | n => n, fun | n => n⟩
theorem Tryd.laysSF6 : Go.Proofs.SlLaysF.n6 Tryd.prog Tryd.laysSF6_ren := {
  mixed := by kernel_rfl
  f6 := ⟨Tryd.f29.name, by decide, Tryd.func29.trans (congrArg some (by kernel_rfl))⟩
  f14 := ⟨Tryd.f40.name, by decide, Tryd.func40.trans (congrArg some (by kernel_rfl))⟩
  f15 := Tryd.func41.trans (congrArg some (by kernel_rfl))
  f20 := ⟨Tryd.f50.name, by decide, Tryd.func50.trans (congrArg some (by kernel_rfl))⟩
  f21 := ⟨Tryd.f51.name, by decide, Tryd.func51.trans (congrArg some (by kernel_rfl))⟩
  f22 := ⟨Tryd.f52.name, by decide, Tryd.func52.trans (congrArg some (by kernel_rfl))⟩
  f23 := ⟨Tryd.f53.name, by decide, Tryd.func53.trans (congrArg some (by kernel_rfl))⟩
  f24 := ⟨Tryd.f54.name, by decide, Tryd.func54.trans (congrArg some (by kernel_rfl))⟩
  f25 := ⟨Tryd.f55.name, by decide, Tryd.func55.trans (congrArg some (by kernel_rfl))⟩
  f26 := ⟨Tryd.f56.name, by decide, Tryd.func56.trans (congrArg some (by kernel_rfl))⟩
  f27 := ⟨Tryd.f57.name, by decide, Tryd.func57.trans (congrArg some (by kernel_rfl))⟩
  f28 := Tryd.func58.trans (congrArg some (by kernel_rfl))
  f29 := Tryd.func59.trans (congrArg some (by kernel_rfl))
  f46 := ⟨Tryd.f67.name, by decide, Tryd.func67.trans (congrArg some (by kernel_rfl))⟩
  f47 := Tryd.func68.trans (congrArg some (by kernel_rfl))
  f48 := Tryd.func69.trans (congrArg some (by kernel_rfl))
  f49 := ⟨Tryd.f70.name, by decide, Tryd.func70.trans (congrArg some (by kernel_rfl))⟩
  f50 := ⟨Tryd.f71.name, by decide, Tryd.func71.trans (congrArg some (by kernel_rfl))⟩
  f57 := ⟨Tryd.f85.name, by decide, Tryd.func85.trans (congrArg some (by kernel_rfl))⟩
  t0 := Tryd.underlying0
  a0 := Tryd.isAgg0
  z0 := Tryd.sizeOf0
  v0 := Tryd.zeroValue0
  t3 := Tryd.underlying3
  a3 := Tryd.isAgg3
  z3 := Tryd.sizeOf3
  v3 := Tryd.zeroValue3
  t4 := Tryd.underlying4
  a4 := Tryd.isAgg4
  z4 := Tryd.sizeOf4
  v4 := Tryd.zeroValue4
  t5 := Tryd.underlying5
  a5 := Tryd.isAgg5
  z5 := Tryd.sizeOf5
  v5 := Tryd.zeroValue5
  t9 := Tryd.underlying9
  a9 := Tryd.isAgg9
  z9 := Tryd.sizeOf9
  v9 := Tryd.zeroValue9
  t22 := Tryd.underlying37
  a22 := Tryd.isAgg37
  z22 := Tryd.sizeOf37
  v22 := Tryd.zeroValue37
  a24 := Tryd.isAgg3
  z24 := Tryd.sizeOf3
  t25 := Tryd.underlying68
  a25 := Tryd.isAgg68
  z25 := Tryd.sizeOf68
  v25 := Tryd.zeroValue68
  t39 := Tryd.underlying86
  a39 := Tryd.isAgg86
  z39 := Tryd.sizeOf86
  v39 := Tryd.zeroValue86
  t45 := Tryd.underlying95
  a45 := Tryd.isAgg95
  z45 := Tryd.sizeOf95
  v45 := Tryd.zeroValue95
  t46 := Tryd.underlying96
  a46 := Tryd.isAgg96
  z46 := Tryd.sizeOf96
  v46 := Tryd.zeroValue96
  t50 := Tryd.underlying65
  a50 := Tryd.isAgg65
  z50 := Tryd.sizeOf65
  v50 := Tryd.zeroValue65
  t53 := Tryd.underlying102
  a53 := Tryd.isAgg102
  z53 := Tryd.sizeOf102
  v53 := Tryd.zeroValue102
  t55 := Tryd.underlying104
  a55 := Tryd.isAgg104
  z55 := Tryd.sizeOf104
  v55 := Tryd.zeroValue104
  t66 := Tryd.underlying110
  a66 := Tryd.isAgg110
  z66 := Tryd.sizeOf110
  v66 := Tryd.zeroValue110
  t70 := Tryd.underlying114
  a70 := Tryd.isAgg114
  z70 := Tryd.sizeOf114
  v70 := Tryd.zeroValue114
  t76 := Tryd.underlying124
  a76 := Tryd.isAgg124
  z76 := Tryd.sizeOf124
  v76 := Tryd.zeroValue124
  t77 := Tryd.underlying125
  a77 := Tryd.isAgg125
  z77 := Tryd.sizeOf125
  v77 := Tryd.zeroValue125 }
end Go.Proofs
