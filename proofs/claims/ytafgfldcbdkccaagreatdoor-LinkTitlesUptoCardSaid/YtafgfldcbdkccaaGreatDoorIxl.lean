/-
  THE SHELF's CONTRACTS OF LIBRARY FUNCTIONS AT THIS PROGRAM (idx, cany, cfun, imptrim): the tables of numbers, printed in plain words (numbers of this seat).
-/
import Derived.Shelf.Strings.IndexAnyAll
import Derived.Shelf.GgClosure.StringsRunes
import Derived.Shelf.Strings.SlTrimAscii
import Derived.Test.YtafgfldcbdkccaaGreatDoorRows
import Derived.Test.YtafgfldcbdkccaaGreatDoorBlk
import Derived.Below
set_option linter.all false
namespace Go.Proofs
open Go.Shelf Go.RowKit

def Tryz.idxL_ren : Go.Shelf.Ren := ⟨fun | 153 => 118 | 152 => 120 | 226 => 121 | 227 => 122 | 228 => 123 | 137 => 125 | 119 => 126 | 224 => 103 | 225 => 102 | 217 => 101 | 266 => 113 | n => n, fun | 9 => 9 | 3 => 3 | 4 => 4 | 5 => 5 | 21 => 21 | 117 => 154 | 116 => 153 | 0 => 0 | 46 => 108 | 124 => 158 | n => n, fun | n => n⟩

theorem Tryz.idxL : Go.Proofs.Lays.n153 Tryz.prog Tryz.idxL_ren := {
  mixed := by kernel_rfl
  f119 := Tryz.func126.trans (congrArg some (by kernel_rfl))
  f137 := Tryz.func125.trans (congrArg some (by kernel_rfl))
  f152 := Tryz.func120.trans (congrArg some (by kernel_rfl))
  f153 := Tryz.func118.trans (congrArg some (by kernel_rfl))
  f217 := Tryz.func101.trans (congrArg some (by kernel_rfl))
  f224 := Tryz.func103.trans (congrArg some (by kernel_rfl))
  f225 := Tryz.func102.trans (congrArg some (by kernel_rfl))
  f226 := Tryz.func121.trans (congrArg some (by kernel_rfl))
  f227 := Tryz.func122.trans (congrArg some (by kernel_rfl))
  f228 := Tryz.func123.trans (congrArg some (by kernel_rfl))
  f266 := Tryz.func113.trans (congrArg some (by kernel_rfl))
  t0 := Tryz.underlying0
  a0 := Tryz.isAgg0
  z0 := Tryz.sizeOf0
  v0 := Tryz.zeroValue0
  t3 := Tryz.underlying3
  a3 := Tryz.isAgg3
  z3 := Tryz.sizeOf3
  v3 := Tryz.zeroValue3
  t4 := Tryz.underlying4
  a4 := Tryz.isAgg4
  z4 := Tryz.sizeOf4
  v4 := Tryz.zeroValue4
  t5 := Tryz.underlying5
  a5 := Tryz.isAgg5
  z5 := Tryz.sizeOf5
  v5 := Tryz.zeroValue5
  t9 := Tryz.underlying9
  a9 := Tryz.isAgg9
  z9 := Tryz.sizeOf9
  v9 := Tryz.zeroValue9
  t21 := Tryz.underlying21
  a21 := Tryz.isAgg21
  z21 := Tryz.sizeOf21
  v21 := Tryz.zeroValue21
  t46 := Tryz.underlying108
  a46 := Tryz.isAgg108
  z46 := Tryz.sizeOf108
  v46 := Tryz.zeroValue108
  t116 := Tryz.underlying153
  a116 := Tryz.isAgg153
  z116 := Tryz.sizeOf153
  t117 := Tryz.underlying154
  a117 := Tryz.isAgg154
  z117 := Tryz.sizeOf154
  v117 := Tryz.zeroValue154
  t124 := Tryz.underlying158
  a124 := Tryz.isAgg158
  z124 := Tryz.sizeOf158
  v124 := Tryz.zeroValue158 }

def Tryz.canyL_ren : Go.Shelf.Ren := ⟨fun | 150 => 112 | 153 => 118 | 152 => 120 | 226 => 121 | 227 => 122 | 228 => 123 | 137 => 125 | 119 => 126 | 224 => 103 | 225 => 102 | 217 => 101 | 266 => 113 | n => n, fun | 9 => 9 | 4 => 4 | 3 => 3 | 5 => 5 | 21 => 21 | 117 => 154 | 116 => 153 | 0 => 0 | 46 => 108 | 124 => 158 | n => n, fun | n => n⟩

theorem Tryz.canyL : Go.Proofs.Lays.n150 Tryz.prog Tryz.canyL_ren := {
  mixed := by kernel_rfl
  f119 := Tryz.func126.trans (congrArg some (by kernel_rfl))
  f137 := Tryz.func125.trans (congrArg some (by kernel_rfl))
  f150 := Tryz.func112.trans (congrArg some (by kernel_rfl))
  f152 := Tryz.func120.trans (congrArg some (by kernel_rfl))
  f153 := Tryz.func118.trans (congrArg some (by kernel_rfl))
  f217 := Tryz.func101.trans (congrArg some (by kernel_rfl))
  f224 := Tryz.func103.trans (congrArg some (by kernel_rfl))
  f225 := Tryz.func102.trans (congrArg some (by kernel_rfl))
  f226 := Tryz.func121.trans (congrArg some (by kernel_rfl))
  f227 := Tryz.func122.trans (congrArg some (by kernel_rfl))
  f228 := Tryz.func123.trans (congrArg some (by kernel_rfl))
  f266 := Tryz.func113.trans (congrArg some (by kernel_rfl))
  t0 := Tryz.underlying0
  a0 := Tryz.isAgg0
  z0 := Tryz.sizeOf0
  v0 := Tryz.zeroValue0
  t3 := Tryz.underlying3
  a3 := Tryz.isAgg3
  z3 := Tryz.sizeOf3
  v3 := Tryz.zeroValue3
  t4 := Tryz.underlying4
  a4 := Tryz.isAgg4
  z4 := Tryz.sizeOf4
  v4 := Tryz.zeroValue4
  t5 := Tryz.underlying5
  a5 := Tryz.isAgg5
  z5 := Tryz.sizeOf5
  v5 := Tryz.zeroValue5
  t9 := Tryz.underlying9
  a9 := Tryz.isAgg9
  z9 := Tryz.sizeOf9
  v9 := Tryz.zeroValue9
  t21 := Tryz.underlying21
  a21 := Tryz.isAgg21
  z21 := Tryz.sizeOf21
  v21 := Tryz.zeroValue21
  t46 := Tryz.underlying108
  a46 := Tryz.isAgg108
  z46 := Tryz.sizeOf108
  v46 := Tryz.zeroValue108
  t116 := Tryz.underlying153
  a116 := Tryz.isAgg153
  z116 := Tryz.sizeOf153
  t117 := Tryz.underlying154
  a117 := Tryz.isAgg154
  z117 := Tryz.sizeOf154
  v117 := Tryz.zeroValue154
  t124 := Tryz.underlying158
  a124 := Tryz.isAgg158
  z124 := Tryz.sizeOf158
  v124 := Tryz.zeroValue158 }

def Tryz.cfunL_ren : Go.Shelf.Ren := ⟨fun | 17 => 116 | 15 => 119 | 20 => 124 | n => n, fun | 9 => 9 | 23 => 149 | 4 => 4 | 3 => 3 | 0 => 0 | 21 => 21 | n => n, fun | n => n⟩

theorem Tryz.cfunL : Go.Proofs.LaysGw.n17 Tryz.prog Tryz.cfunL_ren := {
  mixed := by kernel_rfl
  f15 := Tryz.func119.trans (congrArg some (by kernel_rfl))
  f17 := Tryz.func116.trans (congrArg some (by kernel_rfl))
  f20 := Tryz.func124.trans (congrArg some (by kernel_rfl))
  t0 := Tryz.underlying0
  a0 := Tryz.isAgg0
  z0 := Tryz.sizeOf0
  v0 := Tryz.zeroValue0
  i0 := by kernel_rfl
  t3 := Tryz.underlying3
  a3 := Tryz.isAgg3
  z3 := Tryz.sizeOf3
  v3 := Tryz.zeroValue3
  i3 := by kernel_rfl
  t4 := Tryz.underlying4
  a4 := Tryz.isAgg4
  z4 := Tryz.sizeOf4
  v4 := Tryz.zeroValue4
  i4 := by kernel_rfl
  t9 := Tryz.underlying9
  a9 := Tryz.isAgg9
  z9 := Tryz.sizeOf9
  v9 := Tryz.zeroValue9
  i9 := by kernel_rfl
  t21 := Tryz.underlying21
  a21 := Tryz.isAgg21
  z21 := Tryz.sizeOf21
  v21 := Tryz.zeroValue21
  i21 := by kernel_rfl
  t23 := Tryz.underlying149
  a23 := Tryz.isAgg149
  z23 := Tryz.sizeOf149
  v23 := Tryz.zeroValue149
  i23 := by kernel_rfl }



end Go.Proofs
