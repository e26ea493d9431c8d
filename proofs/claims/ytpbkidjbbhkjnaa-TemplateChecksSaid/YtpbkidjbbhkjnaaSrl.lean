/-
  THE SHELF's CONTRACTS OF slices.Sort, Compact AND Equal AT []string AT THIS PROGRAM: the tables of numbers, printed in plain words (numbers of this seat).
-/
import Derived.Shelf.Sort.Plain
import Derived.Shelf.Slices.In.SortNone
import Derived.Shelf.Slices.CompactS
import Derived.Shelf.Slices.Equal
import Derived.Test.YtpbkidjbbhkjnaaRows
namespace Go.Proofs
open Go.Shelf Go.RowKit
def Try.sortL_ren : Go.Shelf.Ren := ⟨fun | 190 => 25 | 125 => 49 | 258 => 48 | 128 => 79 | 129 => 80 | 302 => 70 | 303 => 71 | 304 => 72 | 305 => 73 | 306 => 74 | 307 => 75 | 308 => 76 | 309 => 77 | 310 => 78 | 333 => 94 | 329 => 95 | 330 => 96 | 334 => 97 | 335 => 98 | 336 => 99 | 344 => 113 | n => n, fun | 31 => 28 | 9 => 9 | 3 => 3 | 46 => 74 | 0 => 0 | 51 => 104 | 53 => 106 | 4 => 4 | 183 => 98 | 182 => 97 | 131 => 63 | 5 => 5 | 218 => 117 | 222 => 121 | 228 => 131 | 229 => 132 | n => n, fun | n => n⟩
theorem Try.sortL : Go.Proofs.Lays.n190 Try.prog Try.sortL_ren := {
  mixed := by kernel_rfl
  f125 := Try.func49.trans (congrArg some (by kernel_rfl))
  f128 := Try.func79.trans (congrArg some (by kernel_rfl))
  f129 := Try.func80.trans (congrArg some (by kernel_rfl))
  f190 := Try.func25.trans (congrArg some (by kernel_rfl))
  f258 := Try.func48.trans (congrArg some (by kernel_rfl))
  f302 := Try.func70.trans (congrArg some (by kernel_rfl))
  f303 := Try.func71.trans (congrArg some (by kernel_rfl))
  f304 := Try.func72.trans (congrArg some (by kernel_rfl))
  f305 := Try.func73.trans (congrArg some (by kernel_rfl))
  f306 := Try.func74.trans (congrArg some (by kernel_rfl))
  f307 := Try.func75.trans (congrArg some (by kernel_rfl))
  f308 := Try.func76.trans (congrArg some (by kernel_rfl))
  f309 := Try.func77.trans (congrArg some (by kernel_rfl))
  f310 := Try.func78.trans (congrArg some (by kernel_rfl))
  f329 := Try.func95.trans (congrArg some (by kernel_rfl))
  f330 := Try.func96.trans (congrArg some (by kernel_rfl))
  f333 := Try.func94.trans (congrArg some (by kernel_rfl))
  f334 := Try.func97.trans (congrArg some (by kernel_rfl))
  f335 := Try.func98.trans (congrArg some (by kernel_rfl))
  f336 := Try.func99.trans (congrArg some (by kernel_rfl))
  f344 := Try.func113.trans (congrArg some (by kernel_rfl))
  t0 := Try.underlying0
  a0 := Try.isAgg0
  z0 := Try.sizeOf0
  v0 := Try.zeroValue0
  t3 := Try.underlying3
  a3 := Try.isAgg3
  z3 := Try.sizeOf3
  v3 := Try.zeroValue3
  t4 := Try.underlying4
  a4 := Try.isAgg4
  z4 := Try.sizeOf4
  v4 := Try.zeroValue4
  t5 := Try.underlying5
  a5 := Try.isAgg5
  z5 := Try.sizeOf5
  v5 := Try.zeroValue5
  t9 := Try.underlying9
  a9 := Try.isAgg9
  z9 := Try.sizeOf9
  v9 := Try.zeroValue9
  t31 := Try.underlying28
  a31 := Try.isAgg28
  z31 := Try.sizeOf28
  v31 := Try.zeroValue28
  t46 := Try.underlying74
  a46 := Try.isAgg74
  z46 := Try.sizeOf74
  v46 := Try.zeroValue74
  t51 := Try.underlying104
  a51 := Try.isAgg104
  z51 := Try.sizeOf104
  v51 := Try.zeroValue104
  t53 := Try.underlying106
  a53 := Try.isAgg106
  z53 := Try.sizeOf106
  v53 := Try.zeroValue106
  t131 := Try.underlying63
  a131 := Try.isAgg63
  z131 := Try.sizeOf63
  v131 := Try.zeroValue63
  t182 := Try.underlying97
  a182 := Try.isAgg97
  z182 := Try.sizeOf97
  v182 := Try.zeroValue97
  t183 := Try.underlying98
  a183 := Try.isAgg98
  z183 := Try.sizeOf98
  v183 := Try.zeroValue98
  t218 := Try.underlying117
  a218 := Try.isAgg117
  z218 := Try.sizeOf117
  v218 := Try.zeroValue117
  t222 := Try.underlying121
  a222 := Try.isAgg121
  z222 := Try.sizeOf121
  v222 := Try.zeroValue121
  t228 := Try.underlying131
  a228 := Try.isAgg131
  z228 := Try.sizeOf131
  v228 := Try.zeroValue131
  t229 := Try.underlying132
  a229 := Try.isAgg132
  z229 := Try.sizeOf132
  v229 := Try.zeroValue132 }
def Try.compL_ren : Go.Shelf.Ren := ⟨fun | 194 => 27 | n => n, fun | 31 => 28 | 9 => 9 | 3 => 3 | 4 => 4 | 0 => 0 | n => n, fun | n => n⟩
theorem Try.compL : Go.Proofs.Lays.n194 Try.prog Try.compL_ren := {
  mixed := by kernel_rfl
  f194 := Try.func27.trans (congrArg some (by kernel_rfl))
  t0 := Try.underlying0
  a0 := Try.isAgg0
  z0 := Try.sizeOf0
  v0 := Try.zeroValue0
  t3 := Try.underlying3
  a3 := Try.isAgg3
  z3 := Try.sizeOf3
  v3 := Try.zeroValue3
  t4 := Try.underlying4
  a4 := Try.isAgg4
  z4 := Try.sizeOf4
  v4 := Try.zeroValue4
  t9 := Try.underlying9
  a9 := Try.isAgg9
  z9 := Try.sizeOf9
  v9 := Try.zeroValue9
  t31 := Try.underlying28
  a31 := Try.isAgg28
  z31 := Try.sizeOf28
  v31 := Try.zeroValue28 }
def Try.eqL_ren : Go.Shelf.Ren := ⟨fun | 193 => 10 | n => n, fun | 31 => 28 | 9 => 9 | 4 => 4 | 3 => 3 | 0 => 0 | n => n, fun | n => n⟩
theorem Try.eqL : Go.Proofs.Lays.n193 Try.prog Try.eqL_ren := {
  mixed := by kernel_rfl
  f193 := Try.func10.trans (congrArg some (by kernel_rfl))
  t0 := Try.underlying0
  a0 := Try.isAgg0
  z0 := Try.sizeOf0
  v0 := Try.zeroValue0
  t3 := Try.underlying3
  a3 := Try.isAgg3
  z3 := Try.sizeOf3
  v3 := Try.zeroValue3
  t4 := Try.underlying4
  a4 := Try.isAgg4
  z4 := Try.sizeOf4
  v4 := Try.zeroValue4
  t9 := Try.underlying9
  a9 := Try.isAgg9
  z9 := Try.sizeOf9
  v9 := Try.zeroValue9
  t31 := Try.underlying28
  a31 := Try.isAgg28
  z31 := Try.sizeOf28
  v31 := Try.zeroValue28 }

end Go.Proofs
