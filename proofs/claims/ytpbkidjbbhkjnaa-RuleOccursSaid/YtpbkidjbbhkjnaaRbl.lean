/-
  THE SHELF's CONTRACTS OF slices.Sort, Compact AND BinarySearch AT []int AT THIS PROGRAM: the tables of numbers, printed in plain words (numbers of this seat).
-/
import Derived.Shelf.Sort.Plain
import Derived.Shelf.Slices.In.SortNone
import Derived.Shelf.Slices.CompactI
import Derived.Shelf.Slices.SearchI
import Derived.Shelf.Slices.Empties
import Derived.Test.YtpbkidjbbhkjnaaRows
namespace Go.Proofs
open Go.Shelf Go.RowKit
def Try.sortIL_ren : Go.Shelf.Ren := ⟨fun | 189 => 106 | 125 => 49 | 257 => 116 | 128 => 79 | 129 => 80 | 294 => 121 | 295 => 122 | 296 => 123 | 297 => 124 | 298 => 125 | 299 => 126 | 216 => 87 | 300 => 127 | 301 => 128 | 328 => 130 | 329 => 95 | 330 => 96 | 331 => 131 | 332 => 132 | 215 => 110 | 343 => 133 | n => n, fun | 28 => 33 | 3 => 3 | 46 => 74 | 0 => 0 | 51 => 104 | 53 => 106 | 4 => 4 | 183 => 98 | 182 => 97 | 131 => 63 | 5 => 5 | 9 => 9 | 218 => 117 | 222 => 121 | 228 => 131 | 229 => 132 | n => n, fun | n => n⟩
theorem Try.sortIL : Go.Proofs.Lays.n189 Try.prog Try.sortIL_ren := {
  mixed := by kernel_rfl
  f125 := Try.func49.trans (congrArg some (by kernel_rfl))
  f128 := Try.func79.trans (congrArg some (by kernel_rfl))
  f129 := Try.func80.trans (congrArg some (by kernel_rfl))
  f189 := Try.func106.trans (congrArg some (by kernel_rfl))
  f215 := Try.func110.trans (congrArg some (by kernel_rfl))
  f216 := Try.func87.trans (congrArg some (by kernel_rfl))
  f257 := Try.func116.trans (congrArg some (by kernel_rfl))
  f294 := Try.func121.trans (congrArg some (by kernel_rfl))
  f295 := Try.func122.trans (congrArg some (by kernel_rfl))
  f296 := Try.func123.trans (congrArg some (by kernel_rfl))
  f297 := Try.func124.trans (congrArg some (by kernel_rfl))
  f298 := Try.func125.trans (congrArg some (by kernel_rfl))
  f299 := Try.func126.trans (congrArg some (by kernel_rfl))
  f300 := Try.func127.trans (congrArg some (by kernel_rfl))
  f301 := Try.func128.trans (congrArg some (by kernel_rfl))
  f328 := Try.func130.trans (congrArg some (by kernel_rfl))
  f329 := Try.func95.trans (congrArg some (by kernel_rfl))
  f330 := Try.func96.trans (congrArg some (by kernel_rfl))
  f331 := Try.func131.trans (congrArg some (by kernel_rfl))
  f332 := Try.func132.trans (congrArg some (by kernel_rfl))
  f343 := Try.func133.trans (congrArg some (by kernel_rfl))
  t0 := Try.underlying0
  a0 := Try.isAgg0
  z0 := Try.sizeOf0
  v0 := Try.zeroValue0
  t3 := Try.underlying3
  a3 := Try.isAgg3
  z3 := Try.sizeOf3
  v3 := Try.zeroValue3
  t4 := Try.underlying4
  a4 := Try.isAgg4
  z4 := Try.sizeOf4
  v4 := Try.zeroValue4
  t5 := Try.underlying5
  a5 := Try.isAgg5
  z5 := Try.sizeOf5
  v5 := Try.zeroValue5
  t9 := Try.underlying9
  a9 := Try.isAgg9
  z9 := Try.sizeOf9
  v9 := Try.zeroValue9
  t28 := Try.underlying33
  a28 := Try.isAgg33
  z28 := Try.sizeOf33
  v28 := Try.zeroValue33
  t46 := Try.underlying74
  a46 := Try.isAgg74
  z46 := Try.sizeOf74
  v46 := Try.zeroValue74
  t51 := Try.underlying104
  a51 := Try.isAgg104
  z51 := Try.sizeOf104
  v51 := Try.zeroValue104
  t53 := Try.underlying106
  a53 := Try.isAgg106
  z53 := Try.sizeOf106
  v53 := Try.zeroValue106
  t131 := Try.underlying63
  a131 := Try.isAgg63
  z131 := Try.sizeOf63
  v131 := Try.zeroValue63
  t182 := Try.underlying97
  a182 := Try.isAgg97
  z182 := Try.sizeOf97
  v182 := Try.zeroValue97
  t183 := Try.underlying98
  a183 := Try.isAgg98
  z183 := Try.sizeOf98
  v183 := Try.zeroValue98
  t218 := Try.underlying117
  a218 := Try.isAgg117
  z218 := Try.sizeOf117
  v218 := Try.zeroValue117
  t222 := Try.underlying121
  a222 := Try.isAgg121
  z222 := Try.sizeOf121
  v222 := Try.zeroValue121
  t228 := Try.underlying131
  a228 := Try.isAgg131
  z228 := Try.sizeOf131
  v228 := Try.zeroValue131
  t229 := Try.underlying132
  a229 := Try.isAgg132
  z229 := Try.sizeOf132
  v229 := Try.zeroValue132 }
def Try.compIL_ren : Go.Shelf.Ren := ⟨fun | 20 => 107 | n => n, fun | 22 => 33 | 3 => 3 | 4 => 4 | 0 => 0 | n => n, fun | n => n⟩
theorem Try.compIL : Go.Proofs.Lays2.n20 Try.prog Try.compIL_ren := {
  mixed := by kernel_rfl
  f20 := Try.func107.trans (congrArg some (by kernel_rfl))
  t0 := Try.underlying0
  a0 := Try.isAgg0
  z0 := Try.sizeOf0
  v0 := Try.zeroValue0
  t3 := Try.underlying3
  a3 := Try.isAgg3
  z3 := Try.sizeOf3
  v3 := Try.zeroValue3
  t4 := Try.underlying4
  a4 := Try.isAgg4
  z4 := Try.sizeOf4
  v4 := Try.zeroValue4
  t22 := Try.underlying33
  a22 := Try.isAgg33
  z22 := Try.sizeOf33
  v22 := Try.zeroValue33
  i3 := by kernel_rfl }
def Try.bsL_ren : Go.Shelf.Ren := ⟨fun | 25 => 61 | 31 => 87 | 32 => 88 | 37 => 110 | n => n, fun | 22 => 33 | 3 => 3 | 4 => 4 | 40 => 74 | 0 => 0 | n => n, fun | n => n⟩
theorem Try.bsL : Go.Proofs.Lays2.n25 Try.prog Try.bsL_ren := {
  mixed := by kernel_rfl
  f25 := Try.func61.trans (congrArg some (by kernel_rfl))
  f31 := Try.func87.trans (congrArg some (by kernel_rfl))
  f32 := Try.func88.trans (congrArg some (by kernel_rfl))
  f37 := Try.func110.trans (congrArg some (by kernel_rfl))
  t0 := Try.underlying0
  a0 := Try.isAgg0
  z0 := Try.sizeOf0
  v0 := Try.zeroValue0
  t3 := Try.underlying3
  a3 := Try.isAgg3
  z3 := Try.sizeOf3
  v3 := Try.zeroValue3
  t4 := Try.underlying4
  a4 := Try.isAgg4
  z4 := Try.sizeOf4
  v4 := Try.zeroValue4
  t22 := Try.underlying33
  a22 := Try.isAgg33
  z22 := Try.sizeOf33
  v22 := Try.zeroValue33
  t40 := Try.underlying74
  a40 := Try.isAgg74
  z40 := Try.sizeOf74
  v40 := Try.zeroValue74 }


end Go.Proofs
