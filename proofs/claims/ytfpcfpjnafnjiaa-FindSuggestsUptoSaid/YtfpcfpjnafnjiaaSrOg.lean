/-
  THE SHELF's CONTRACT OF slices.SortFunc AT THIS PROGRAM: the table of numbers, printed in plain words (numbers of this seat).
-/
import Derived.Shelf.SlLaysF0
import Derived.Test.YtfpcfpjnafnjiaaRows
set_option linter.all false
namespace Go.Proofs
open Go.Shelf
def Try.sortOg_ren : Go.Shelf.Ren := ⟨fun | 6 => 24 | 15 => 45 | 14 => 44 | 28 => 60 | 29 => 61 | 20 => 52 | 21 => 53 | 22 => 54 | 23 => 55 | 24 => 56 | 25 => 57 | 26 => 58 | 27 => 59 | 46 => 68 | 47 => 69 | 48 => 70 | 49 => 71 | 50 => 72 | 57 => 74 | n => n, fun | 22 => 56 | 24 => 59 | 25 => 62 | 3 => 3 | 39 => 82 | 0 => 0 | 53 => 99 | 55 => 101 | 4 => 4 | 46 => 93 | 45 => 92 | 50 => 40 | 5 => 5 | 9 => 9 | 66 => 106 | 70 => 110 | 76 => 112 | 77 => 113 | n => n, fun | n => n⟩
theorem Try.sortOg : Go.Proofs.SlLaysF0.n6 Try.prog Try.sortOg_ren := {
  mixed := by kernel_rfl
  f6 := ⟨Try.f24.name, by decide, Try.func24.trans (congrArg some (by kernel_rfl))⟩
  f14 := ⟨Try.f44.name, by decide, Try.func44.trans (congrArg some (by kernel_rfl))⟩
  f15 := Try.func45.trans (congrArg some (by kernel_rfl))
  f20 := ⟨Try.f52.name, by decide, Try.func52.trans (congrArg some (by kernel_rfl))⟩
  f21 := ⟨Try.f53.name, by decide, Try.func53.trans (congrArg some (by kernel_rfl))⟩
  f22 := ⟨Try.f54.name, by decide, Try.func54.trans (congrArg some (by kernel_rfl))⟩
  f23 := ⟨Try.f55.name, by decide, Try.func55.trans (congrArg some (by kernel_rfl))⟩
  f24 := ⟨Try.f56.name, by decide, Try.func56.trans (congrArg some (by kernel_rfl))⟩
  f25 := ⟨Try.f57.name, by decide, Try.func57.trans (congrArg some (by kernel_rfl))⟩
  f26 := ⟨Try.f58.name, by decide, Try.func58.trans (congrArg some (by kernel_rfl))⟩
  f27 := ⟨Try.f59.name, by decide, Try.func59.trans (congrArg some (by kernel_rfl))⟩
  f28 := Try.func60.trans (congrArg some (by kernel_rfl))
  f29 := Try.func61.trans (congrArg some (by kernel_rfl))
  f46 := ⟨Try.f68.name, by decide, Try.func68.trans (congrArg some (by kernel_rfl))⟩
  f47 := Try.func69.trans (congrArg some (by kernel_rfl))
  f48 := Try.func70.trans (congrArg some (by kernel_rfl))
  f49 := ⟨Try.f71.name, by decide, Try.func71.trans (congrArg some (by kernel_rfl))⟩
  f50 := ⟨Try.f72.name, by decide, Try.func72.trans (congrArg some (by kernel_rfl))⟩
  f57 := ⟨Try.f74.name, by decide, Try.func74.trans (congrArg some (by kernel_rfl))⟩
  t0 := Try.underlying0
  a0 := Try.isAgg0
  z0 := Try.sizeOf0
  v0 := Try.zeroValue0
  t3 := Try.underlying3
  a3 := Try.isAgg3
  z3 := Try.sizeOf3
  v3 := Try.zeroValue3
  t4 := Try.underlying4
  a4 := Try.isAgg4
  z4 := Try.sizeOf4
  v4 := Try.zeroValue4
  t5 := Try.underlying5
  a5 := Try.isAgg5
  z5 := Try.sizeOf5
  v5 := Try.zeroValue5
  t9 := Try.underlying9
  a9 := Try.isAgg9
  z9 := Try.sizeOf9
  v9 := Try.zeroValue9
  t22 := Try.underlying56
  a22 := Try.isAgg56
  z22 := Try.sizeOf56
  v22 := Try.zeroValue56
  t25 := Try.underlying62
  a25 := Try.isAgg62
  z25 := Try.sizeOf62
  v25 := Try.zeroValue62
  t39 := Try.underlying82
  a39 := Try.isAgg82
  z39 := Try.sizeOf82
  v39 := Try.zeroValue82
  t45 := Try.underlying92
  a45 := Try.isAgg92
  z45 := Try.sizeOf92
  v45 := Try.zeroValue92
  t46 := Try.underlying93
  a46 := Try.isAgg93
  z46 := Try.sizeOf93
  v46 := Try.zeroValue93
  t50 := Try.underlying40
  a50 := Try.isAgg40
  z50 := Try.sizeOf40
  v50 := Try.zeroValue40
  t53 := Try.underlying99
  a53 := Try.isAgg99
  z53 := Try.sizeOf99
  v53 := Try.zeroValue99
  t55 := Try.underlying101
  a55 := Try.isAgg101
  z55 := Try.sizeOf101
  v55 := Try.zeroValue101
  t66 := Try.underlying106
  a66 := Try.isAgg106
  z66 := Try.sizeOf106
  v66 := Try.zeroValue106
  t70 := Try.underlying110
  a70 := Try.isAgg110
  z70 := Try.sizeOf110
  v70 := Try.zeroValue110
  t76 := Try.underlying112
  a76 := Try.isAgg112
  z76 := Try.sizeOf112
  v76 := Try.zeroValue112
  t77 := Try.underlying113
  a77 := Try.isAgg113
  z77 := Try.sizeOf113
  v77 := Try.zeroValue113 }


end Go.Proofs
