/-
  DERIVED: THE SHELF's CONTRACTS AT THIS DUMP, IN PLAIN WORDS (tools/lay-plain.mjs out of 'TryShelf.lean', which tools/lay-shelf.mjs wrote): THE SAME DECLARATIONS UNDER THE SAME NAMES: 'import', 'namespace', 'open', 'def', 'theorem' AND NOTHING ELSE: no command of the shelf's: FOR A HAND-IN. Each laying: the table of numbers ('.._ren') and one theorem, a field a fact of the dump's own or the kernel's comparison; each contract: ONE APPLICATION.
-/
import Derived.Test.YteoecpggmchbkaaProg
import Derived.Shelf.SlSortCmp.NoneTotal
import Derived.Ground.SlsfProg
namespace Go.Proofs
open Go.Shelf
def Try.sortI_ren : Go.Shelf.Ren := ⟨fun | 6 => 29 | 15 => 39 | 14 => 38 | 28 => 52 | 29 => 53 | 20 => 44 | 21 => 45 | 22 => 46 | 23 => 47 | 24 => 48 | 25 => 49 | 26 => 50 | 27 => 51 | 46 => 56 | 47 => 57 | 48 => 58 | 49 => 59 | 50 => 60 | 57 => 63 | n => n, fun | 22 => 39 | 24 => 3 | 25 => 61 | 3 => 3 | 39 => 75 | 0 => 0 | 53 => 89 | 55 => 91 | 4 => 4 | 46 => 83 | 45 => 82 | 50 => 43 | 5 => 5 | 9 => 9 | 66 => 95 | 70 => 99 | 76 => 103 | 77 => 104 | n => n, fun | n => n⟩
theorem Try.sortI : Go.Proofs.SlLaysF.n6 Try.prog Try.sortI_ren := {
  mixed := by kernel_rfl
  f6 := ⟨Try.f29.name, by decide, Try.func29.trans (congrArg some (by kernel_rfl))⟩
  f14 := ⟨Try.f38.name, by decide, Try.func38.trans (congrArg some (by kernel_rfl))⟩
  f15 := Try.func39.trans (congrArg some (by kernel_rfl))
  f20 := ⟨Try.f44.name, by decide, Try.func44.trans (congrArg some (by kernel_rfl))⟩
  f21 := ⟨Try.f45.name, by decide, Try.func45.trans (congrArg some (by kernel_rfl))⟩
  f22 := ⟨Try.f46.name, by decide, Try.func46.trans (congrArg some (by kernel_rfl))⟩
  f23 := ⟨Try.f47.name, by decide, Try.func47.trans (congrArg some (by kernel_rfl))⟩
  f24 := ⟨Try.f48.name, by decide, Try.func48.trans (congrArg some (by kernel_rfl))⟩
  f25 := ⟨Try.f49.name, by decide, Try.func49.trans (congrArg some (by kernel_rfl))⟩
  f26 := ⟨Try.f50.name, by decide, Try.func50.trans (congrArg some (by kernel_rfl))⟩
  f27 := ⟨Try.f51.name, by decide, Try.func51.trans (congrArg some (by kernel_rfl))⟩
  f28 := Try.func52.trans (congrArg some (by kernel_rfl))
  f29 := Try.func53.trans (congrArg some (by kernel_rfl))
  f46 := ⟨Try.f56.name, by decide, Try.func56.trans (congrArg some (by kernel_rfl))⟩
  f47 := Try.func57.trans (congrArg some (by kernel_rfl))
  f48 := Try.func58.trans (congrArg some (by kernel_rfl))
  f49 := ⟨Try.f59.name, by decide, Try.func59.trans (congrArg some (by kernel_rfl))⟩
  f50 := ⟨Try.f60.name, by decide, Try.func60.trans (congrArg some (by kernel_rfl))⟩
  f57 := ⟨Try.f63.name, by decide, Try.func63.trans (congrArg some (by kernel_rfl))⟩
  t0 := Try.underlying0
  a0 := Try.isAgg0
  z0 := Try.sizeOf0
  v0 := Try.zeroValue0
  t3 := Try.underlying3
  a3 := Try.isAgg3
  z3 := Try.sizeOf3
  v3 := Try.zeroValue3
  t4 := Try.underlying4
  a4 := Try.isAgg4
  z4 := Try.sizeOf4
  v4 := Try.zeroValue4
  t5 := Try.underlying5
  a5 := Try.isAgg5
  z5 := Try.sizeOf5
  v5 := Try.zeroValue5
  t9 := Try.underlying9
  a9 := Try.isAgg9
  z9 := Try.sizeOf9
  v9 := Try.zeroValue9
  t22 := Try.underlying39
  a22 := Try.isAgg39
  z22 := Try.sizeOf39
  v22 := Try.zeroValue39
  a24 := Try.isAgg3
  z24 := Try.sizeOf3
  t25 := Try.underlying61
  a25 := Try.isAgg61
  z25 := Try.sizeOf61
  v25 := Try.zeroValue61
  t39 := Try.underlying75
  a39 := Try.isAgg75
  z39 := Try.sizeOf75
  v39 := Try.zeroValue75
  t45 := Try.underlying82
  a45 := Try.isAgg82
  z45 := Try.sizeOf82
  v45 := Try.zeroValue82
  t46 := Try.underlying83
  a46 := Try.isAgg83
  z46 := Try.sizeOf83
  v46 := Try.zeroValue83
  t50 := Try.underlying43
  a50 := Try.isAgg43
  z50 := Try.sizeOf43
  v50 := Try.zeroValue43
  t53 := Try.underlying89
  a53 := Try.isAgg89
  z53 := Try.sizeOf89
  v53 := Try.zeroValue89
  t55 := Try.underlying91
  a55 := Try.isAgg91
  z55 := Try.sizeOf91
  v55 := Try.zeroValue91
  t66 := Try.underlying95
  a66 := Try.isAgg95
  z66 := Try.sizeOf95
  v66 := Try.zeroValue95
  t70 := Try.underlying99
  a70 := Try.isAgg99
  z70 := Try.sizeOf99
  v70 := Try.zeroValue99
  t76 := Try.underlying103
  a76 := Try.isAgg103
  z76 := Try.sizeOf103
  v76 := Try.zeroValue103
  t77 := Try.underlying104
  a77 := Try.isAgg104
  z77 := Try.sizeOf104
  v77 := Try.zeroValue104 }
end Go.Proofs
