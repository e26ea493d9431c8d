/-
  THE SHELF's CONTRACTS OF strings.IndexAny AND HasPrefix AT THIS PROGRAM: the tables of numbers, printed in plain words (numbers of this seat).
-/
import Derived.Shelf.Strings.IndexAnyAll
import Derived.Shelf.Strings.Prefix
import Derived.Test.YtpbkidjbbhkjnaaRows
namespace Go.Proofs
open Go.Shelf Go.RowKit
def Try.idxL_ren : Go.Shelf.Ren := ⟨fun | 153 => 47 | 152 => 66 | 226 => 67 | 227 => 68 | 228 => 69 | 137 => 90 | 119 => 91 | 224 => 92 | 225 => 93 | 217 => 112 | 266 => 118 | n => n, fun | 9 => 9 | 3 => 3 | 4 => 4 | 5 => 5 | 21 => 21 | 117 => 93 | 116 => 92 | 0 => 0 | 46 => 74 | 124 => 116 | n => n, fun | n => n⟩
theorem Try.idxL : Go.Proofs.Lays.n153 Try.prog Try.idxL_ren := {
  mixed := by kernel_rfl
  f119 := Try.func91.trans (congrArg some (by kernel_rfl))
  f137 := Try.func90.trans (congrArg some (by kernel_rfl))
  f152 := Try.func66.trans (congrArg some (by kernel_rfl))
  f153 := Try.func47.trans (congrArg some (by kernel_rfl))
  f217 := Try.func112.trans (congrArg some (by kernel_rfl))
  f224 := Try.func92.trans (congrArg some (by kernel_rfl))
  f225 := Try.func93.trans (congrArg some (by kernel_rfl))
  f226 := Try.func67.trans (congrArg some (by kernel_rfl))
  f227 := Try.func68.trans (congrArg some (by kernel_rfl))
  f228 := Try.func69.trans (congrArg some (by kernel_rfl))
  f266 := Try.func118.trans (congrArg some (by kernel_rfl))
  t0 := Try.underlying0
  a0 := Try.isAgg0
  z0 := Try.sizeOf0
  v0 := Try.zeroValue0
  t3 := Try.underlying3
  a3 := Try.isAgg3
  z3 := Try.sizeOf3
  v3 := Try.zeroValue3
  t4 := Try.underlying4
  a4 := Try.isAgg4
  z4 := Try.sizeOf4
  v4 := Try.zeroValue4
  t5 := Try.underlying5
  a5 := Try.isAgg5
  z5 := Try.sizeOf5
  v5 := Try.zeroValue5
  t9 := Try.underlying9
  a9 := Try.isAgg9
  z9 := Try.sizeOf9
  v9 := Try.zeroValue9
  t21 := Try.underlying21
  a21 := Try.isAgg21
  z21 := Try.sizeOf21
  v21 := Try.zeroValue21
  t46 := Try.underlying74
  a46 := Try.isAgg74
  z46 := Try.sizeOf74
  v46 := Try.zeroValue74
  t116 := Try.underlying92
  a116 := Try.isAgg92
  z116 := Try.sizeOf92
  t117 := Try.underlying93
  a117 := Try.isAgg93
  z117 := Try.sizeOf93
  v117 := Try.zeroValue93
  t124 := Try.underlying116
  a124 := Try.isAgg116
  z124 := Try.sizeOf116
  v124 := Try.zeroValue116 }
def Try.prefL_ren : Go.Shelf.Ren := ⟨fun | 99 => 46 | 206 => 65 | n => n, fun | 9 => 9 | 4 => 4 | 3 => 3 | n => n, fun | n => n⟩
theorem Try.prefL : Go.Proofs.Lays.n99 Try.prog Try.prefL_ren := {
  mixed := by kernel_rfl
  f99 := Try.func46.trans (congrArg some (by kernel_rfl))
  f206 := Try.func65.trans (congrArg some (by kernel_rfl))
  t3 := Try.underlying3
  a3 := Try.isAgg3
  z3 := Try.sizeOf3
  v3 := Try.zeroValue3
  t4 := Try.underlying4
  a4 := Try.isAgg4
  z4 := Try.sizeOf4
  v4 := Try.zeroValue4
  t9 := Try.underlying9
  a9 := Try.isAgg9
  z9 := Try.sizeOf9
  v9 := Try.zeroValue9 }


end Go.Proofs
