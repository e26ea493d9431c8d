/-
  THE SHELF's CONTRACTS OF LIBRARY FUNCTIONS AT THIS PROGRAM (sortI): the tables of numbers, printed in plain words (numbers of this seat).
-/
import Derived.Shelf.Sort.Plain
import Derived.Shelf.Slices.In.SortNone
import Derived.Test.YtafgfldcbdkccaaGreatDoorRows
import Derived.Test.YtafgfldcbdkccaaGreatDoorBlk
import Derived.Below
set_option linter.all false
namespace Go.Proofs
open Go.Shelf Go.RowKit

def Tryz.sortIL_ren : Go.Shelf.Ren := ⟨fun | 189 => 53 | 125 => 72 | 257 => 71 | 128 => 94 | 129 => 95 | 294 => 85 | 295 => 86 | 296 => 87 | 297 => 88 | 298 => 89 | 299 => 90 | 216 => 91 | 300 => 92 | 301 => 93 | 328 => 105 | 329 => 106 | 330 => 107 | 331 => 108 | 332 => 109 | 215 => 110 | 343 => 115 | n => n, fun | 28 => 52 | 3 => 3 | 46 => 108 | 0 => 0 | 51 => 127 | 53 => 129 | 4 => 4 | 183 => 120 | 182 => 119 | 131 => 63 | 5 => 5 | 9 => 9 | 218 => 132 | 222 => 136 | 228 => 145 | 229 => 146 | n => n, fun | n => n⟩

theorem Tryz.sortIL : Go.Proofs.Lays.n189 Tryz.prog Tryz.sortIL_ren := {
  mixed := by kernel_rfl
  f125 := Tryz.func72.trans (congrArg some (by kernel_rfl))
  f128 := Tryz.func94.trans (congrArg some (by kernel_rfl))
  f129 := Tryz.func95.trans (congrArg some (by kernel_rfl))
  f189 := Tryz.func53.trans (congrArg some (by kernel_rfl))
  f215 := Tryz.func110.trans (congrArg some (by kernel_rfl))
  f216 := Tryz.func91.trans (congrArg some (by kernel_rfl))
  f257 := Tryz.func71.trans (congrArg some (by kernel_rfl))
  f294 := Tryz.func85.trans (congrArg some (by kernel_rfl))
  f295 := Tryz.func86.trans (congrArg some (by kernel_rfl))
  f296 := Tryz.func87.trans (congrArg some (by kernel_rfl))
  f297 := Tryz.func88.trans (congrArg some (by kernel_rfl))
  f298 := Tryz.func89.trans (congrArg some (by kernel_rfl))
  f299 := Tryz.func90.trans (congrArg some (by kernel_rfl))
  f300 := Tryz.func92.trans (congrArg some (by kernel_rfl))
  f301 := Tryz.func93.trans (congrArg some (by kernel_rfl))
  f328 := Tryz.func105.trans (congrArg some (by kernel_rfl))
  f329 := Tryz.func106.trans (congrArg some (by kernel_rfl))
  f330 := Tryz.func107.trans (congrArg some (by kernel_rfl))
  f331 := Tryz.func108.trans (congrArg some (by kernel_rfl))
  f332 := Tryz.func109.trans (congrArg some (by kernel_rfl))
  f343 := Tryz.func115.trans (congrArg some (by kernel_rfl))
  t0 := Tryz.underlying0
  a0 := Tryz.isAgg0
  z0 := Tryz.sizeOf0
  v0 := Tryz.zeroValue0
  t3 := Tryz.underlying3
  a3 := Tryz.isAgg3
  z3 := Tryz.sizeOf3
  v3 := Tryz.zeroValue3
  t4 := Tryz.underlying4
  a4 := Tryz.isAgg4
  z4 := Tryz.sizeOf4
  v4 := Tryz.zeroValue4
  t5 := Tryz.underlying5
  a5 := Tryz.isAgg5
  z5 := Tryz.sizeOf5
  v5 := Tryz.zeroValue5
  t9 := Tryz.underlying9
  a9 := Tryz.isAgg9
  z9 := Tryz.sizeOf9
  v9 := Tryz.zeroValue9
  t28 := Tryz.underlying52
  a28 := Tryz.isAgg52
  z28 := Tryz.sizeOf52
  v28 := Tryz.zeroValue52
  t46 := Tryz.underlying108
  a46 := Tryz.isAgg108
  z46 := Tryz.sizeOf108
  v46 := Tryz.zeroValue108
  t51 := Tryz.underlying127
  a51 := Tryz.isAgg127
  z51 := Tryz.sizeOf127
  v51 := Tryz.zeroValue127
  t53 := Tryz.underlying129
  a53 := Tryz.isAgg129
  z53 := Tryz.sizeOf129
  v53 := Tryz.zeroValue129
  t131 := Tryz.underlying63
  a131 := Tryz.isAgg63
  z131 := Tryz.sizeOf63
  v131 := Tryz.zeroValue63
  t182 := Tryz.underlying119
  a182 := Tryz.isAgg119
  z182 := Tryz.sizeOf119
  v182 := Tryz.zeroValue119
  t183 := Tryz.underlying120
  a183 := Tryz.isAgg120
  z183 := Tryz.sizeOf120
  v183 := Tryz.zeroValue120
  t218 := Tryz.underlying132
  a218 := Tryz.isAgg132
  z218 := Tryz.sizeOf132
  v218 := Tryz.zeroValue132
  t222 := Tryz.underlying136
  a222 := Tryz.isAgg136
  z222 := Tryz.sizeOf136
  v222 := Tryz.zeroValue136
  t228 := Tryz.underlying145
  a228 := Tryz.isAgg145
  z228 := Tryz.sizeOf145
  v228 := Tryz.zeroValue145
  t229 := Tryz.underlying146
  a229 := Tryz.isAgg146
  z229 := Tryz.sizeOf146
  v229 := Tryz.zeroValue146 }



end Go.Proofs
