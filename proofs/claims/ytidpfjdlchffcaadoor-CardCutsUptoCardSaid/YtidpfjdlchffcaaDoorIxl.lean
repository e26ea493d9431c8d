/-
  THE SHELF's CONTRACTS OF strings.IndexAny, ContainsAny, Trim AND ContainsFunc AT THIS PROGRAM: the tables of numbers, printed in plain words (numbers of this seat).
-/
import Derived.Shelf.Strings.IndexAnyAll
import Derived.Shelf.Strings.SlTrimAscii
import Derived.Shelf.GgClosure.StringsRunes
import Derived.Test.YtidpfjdlchffcaaDoorRows
set_option linter.all false
namespace Go.Proofs
open Go.Shelf Go.RowKit

def Tryd.idxL_ren : Go.Shelf.Ren := ⟨fun | 153 => 27 | 152 => 45 | 226 => 46 | 227 => 34 | 228 => 47 | 137 => 60 | 119 => 61 | 224 => 62 | 225 => 63 | 217 => 70 | 266 => 74 | n => n, fun | 9 => 9 | 3 => 3 | 4 => 4 | 5 => 5 | 21 => 21 | 117 => 73 | 116 => 72 | 0 => 0 | 46 => 100 | 124 => 76 | n => n, fun | n => n⟩

theorem Tryd.idxL : Go.Proofs.Lays.n153 Tryd.prog Tryd.idxL_ren := {
  mixed := by kernel_rfl
  f119 := Tryd.func61.trans (congrArg some (by kernel_rfl))
  f137 := Tryd.func60.trans (congrArg some (by kernel_rfl))
  f152 := Tryd.func45.trans (congrArg some (by kernel_rfl))
  f153 := Tryd.func27.trans (congrArg some (by kernel_rfl))
  f217 := Tryd.func70.trans (congrArg some (by kernel_rfl))
  f224 := Tryd.func62.trans (congrArg some (by kernel_rfl))
  f225 := Tryd.func63.trans (congrArg some (by kernel_rfl))
  f226 := Tryd.func46.trans (congrArg some (by kernel_rfl))
  f227 := Tryd.func34.trans (congrArg some (by kernel_rfl))
  f228 := Tryd.func47.trans (congrArg some (by kernel_rfl))
  f266 := Tryd.func74.trans (congrArg some (by kernel_rfl))
  t0 := Tryd.underlying0
  a0 := Tryd.isAgg0
  z0 := Tryd.sizeOf0
  v0 := Tryd.zeroValue0
  t3 := Tryd.underlying3
  a3 := Tryd.isAgg3
  z3 := Tryd.sizeOf3
  v3 := Tryd.zeroValue3
  t4 := Tryd.underlying4
  a4 := Tryd.isAgg4
  z4 := Tryd.sizeOf4
  v4 := Tryd.zeroValue4
  t5 := Tryd.underlying5
  a5 := Tryd.isAgg5
  z5 := Tryd.sizeOf5
  v5 := Tryd.zeroValue5
  t9 := Tryd.underlying9
  a9 := Tryd.isAgg9
  z9 := Tryd.sizeOf9
  v9 := Tryd.zeroValue9
  t21 := Tryd.underlying21
  a21 := Tryd.isAgg21
  z21 := Tryd.sizeOf21
  v21 := Tryd.zeroValue21
  t46 := Tryd.underlying100
  a46 := Tryd.isAgg100
  z46 := Tryd.sizeOf100
  v46 := Tryd.zeroValue100
  t116 := Tryd.underlying72
  a116 := Tryd.isAgg72
  z116 := Tryd.sizeOf72
  t117 := Tryd.underlying73
  a117 := Tryd.isAgg73
  z117 := Tryd.sizeOf73
  v117 := Tryd.zeroValue73
  t124 := Tryd.underlying76
  a124 := Tryd.isAgg76
  z124 := Tryd.sizeOf76
  v124 := Tryd.zeroValue76 }

def Tryd.canyL_ren : Go.Shelf.Ren := ⟨fun | 150 => 69 | 153 => 27 | 152 => 45 | 226 => 46 | 227 => 34 | 228 => 47 | 137 => 60 | 119 => 61 | 224 => 62 | 225 => 63 | 217 => 70 | 266 => 74 | n => n, fun | 9 => 9 | 4 => 4 | 3 => 3 | 5 => 5 | 21 => 21 | 117 => 73 | 116 => 72 | 0 => 0 | 46 => 100 | 124 => 76 | n => n, fun | n => n⟩

theorem Tryd.canyL : Go.Proofs.Lays.n150 Tryd.prog Tryd.canyL_ren := {
  mixed := by kernel_rfl
  f119 := Tryd.func61.trans (congrArg some (by kernel_rfl))
  f137 := Tryd.func60.trans (congrArg some (by kernel_rfl))
  f150 := Tryd.func69.trans (congrArg some (by kernel_rfl))
  f152 := Tryd.func45.trans (congrArg some (by kernel_rfl))
  f153 := Tryd.func27.trans (congrArg some (by kernel_rfl))
  f217 := Tryd.func70.trans (congrArg some (by kernel_rfl))
  f224 := Tryd.func62.trans (congrArg some (by kernel_rfl))
  f225 := Tryd.func63.trans (congrArg some (by kernel_rfl))
  f226 := Tryd.func46.trans (congrArg some (by kernel_rfl))
  f227 := Tryd.func34.trans (congrArg some (by kernel_rfl))
  f228 := Tryd.func47.trans (congrArg some (by kernel_rfl))
  f266 := Tryd.func74.trans (congrArg some (by kernel_rfl))
  t0 := Tryd.underlying0
  a0 := Tryd.isAgg0
  z0 := Tryd.sizeOf0
  v0 := Tryd.zeroValue0
  t3 := Tryd.underlying3
  a3 := Tryd.isAgg3
  z3 := Tryd.sizeOf3
  v3 := Tryd.zeroValue3
  t4 := Tryd.underlying4
  a4 := Tryd.isAgg4
  z4 := Tryd.sizeOf4
  v4 := Tryd.zeroValue4
  t5 := Tryd.underlying5
  a5 := Tryd.isAgg5
  z5 := Tryd.sizeOf5
  v5 := Tryd.zeroValue5
  t9 := Tryd.underlying9
  a9 := Tryd.isAgg9
  z9 := Tryd.sizeOf9
  v9 := Tryd.zeroValue9
  t21 := Tryd.underlying21
  a21 := Tryd.isAgg21
  z21 := Tryd.sizeOf21
  v21 := Tryd.zeroValue21
  t46 := Tryd.underlying100
  a46 := Tryd.isAgg100
  z46 := Tryd.sizeOf100
  v46 := Tryd.zeroValue100
  t116 := Tryd.underlying72
  a116 := Tryd.isAgg72
  z116 := Tryd.sizeOf72
  t117 := Tryd.underlying73
  a117 := Tryd.isAgg73
  z117 := Tryd.sizeOf73
  v117 := Tryd.zeroValue73
  t124 := Tryd.underlying76
  a124 := Tryd.isAgg76
  z124 := Tryd.sizeOf76
  v124 := Tryd.zeroValue76 }

def Tryd.trimL_ren : Go.Shelf.Ren := ⟨fun | 160 => 16 | 232 => 33 | 231 => 32 | 227 => 34 | 234 => 36 | 233 => 35 | 236 => 38 | 235 => 37 | 228 => 47 | 271 => 52 | 151 => 51 | 197 => 50 | 120 => 67 | 152 => 45 | 260 => 66 | 137 => 60 | 119 => 61 | 224 => 62 | 225 => 63 | 217 => 70 | 266 => 74 | n => n, fun | 9 => 9 | 4 => 4 | 3 => 3 | 5 => 5 | 117 => 73 | 116 => 72 | 0 => 0 | 124 => 76 | 21 => 21 | 105 => 91 | 46 => 100 | 119 => 103 | 139 => 106 | 138 => 105 | n => n, fun | 3 => 1 | 4 => 2 | n => n⟩

theorem Tryd.trimL : Go.Proofs.Lays.n160 Tryd.prog Tryd.trimL_ren := {
  mixed := by kernel_rfl
  f119 := Tryd.func61.trans (congrArg some (by kernel_rfl))
  f120 := Tryd.func67.trans (congrArg some (by kernel_rfl))
  f137 := Tryd.func60.trans (congrArg some (by kernel_rfl))
  f151 := Tryd.func51.trans (congrArg some (by kernel_rfl))
  f152 := Tryd.func45.trans (congrArg some (by kernel_rfl))
  f160 := Tryd.func16.trans (congrArg some (by kernel_rfl))
  f197 := Tryd.func50.trans (congrArg some (by kernel_rfl))
  f217 := Tryd.func70.trans (congrArg some (by kernel_rfl))
  f224 := Tryd.func62.trans (congrArg some (by kernel_rfl))
  f225 := Tryd.func63.trans (congrArg some (by kernel_rfl))
  f227 := Tryd.func34.trans (congrArg some (by kernel_rfl))
  f228 := Tryd.func47.trans (congrArg some (by kernel_rfl))
  f231 := Tryd.func32.trans (congrArg some (by kernel_rfl))
  f232 := Tryd.func33.trans (congrArg some (by kernel_rfl))
  f233 := Tryd.func35.trans (congrArg some (by kernel_rfl))
  f234 := Tryd.func36.trans (congrArg some (by kernel_rfl))
  f235 := Tryd.func37.trans (congrArg some (by kernel_rfl))
  f236 := Tryd.func38.trans (congrArg some (by kernel_rfl))
  f260 := Tryd.func66.trans (congrArg some (by kernel_rfl))
  f266 := Tryd.func74.trans (congrArg some (by kernel_rfl))
  f271 := Tryd.func52.trans (congrArg some (by kernel_rfl))
  t0 := Tryd.underlying0
  a0 := Tryd.isAgg0
  z0 := Tryd.sizeOf0
  v0 := Tryd.zeroValue0
  t3 := Tryd.underlying3
  a3 := Tryd.isAgg3
  z3 := Tryd.sizeOf3
  v3 := Tryd.zeroValue3
  t4 := Tryd.underlying4
  a4 := Tryd.isAgg4
  z4 := Tryd.sizeOf4
  v4 := Tryd.zeroValue4
  t5 := Tryd.underlying5
  a5 := Tryd.isAgg5
  z5 := Tryd.sizeOf5
  v5 := Tryd.zeroValue5
  t9 := Tryd.underlying9
  a9 := Tryd.isAgg9
  z9 := Tryd.sizeOf9
  v9 := Tryd.zeroValue9
  t21 := Tryd.underlying21
  a21 := Tryd.isAgg21
  z21 := Tryd.sizeOf21
  v21 := Tryd.zeroValue21
  t46 := Tryd.underlying100
  a46 := Tryd.isAgg100
  z46 := Tryd.sizeOf100
  v46 := Tryd.zeroValue100
  t105 := Tryd.underlying91
  a105 := Tryd.isAgg91
  z105 := Tryd.sizeOf91
  v105 := Tryd.zeroValue91
  t116 := Tryd.underlying72
  a116 := Tryd.isAgg72
  z116 := Tryd.sizeOf72
  t117 := Tryd.underlying73
  a117 := Tryd.isAgg73
  z117 := Tryd.sizeOf73
  v117 := Tryd.zeroValue73
  t119 := Tryd.underlying103
  a119 := Tryd.isAgg103
  z119 := Tryd.sizeOf103
  t124 := Tryd.underlying76
  a124 := Tryd.isAgg76
  z124 := Tryd.sizeOf76
  v124 := Tryd.zeroValue76
  t138 := Tryd.underlying105
  a138 := Tryd.isAgg105
  z138 := Tryd.sizeOf105
  v138 := Tryd.zeroValue105
  t139 := Tryd.underlying106
  a139 := Tryd.isAgg106
  z139 := Tryd.sizeOf106
  v139 := Tryd.zeroValue106
  g3 := by kernel_rfl
  g4 := by kernel_rfl }

def Tryd.cfunL_ren : Go.Shelf.Ren := ⟨fun | 17 => 72 | 15 => 76 | 20 => 77 | n => n, fun | 9 => 9 | 23 => 98 | 4 => 4 | 3 => 3 | 0 => 0 | 21 => 21 | n => n, fun | n => n⟩

theorem Tryd.cfunL : Go.Proofs.LaysGw.n17 Tryd.prog Tryd.cfunL_ren := {
  mixed := by kernel_rfl
  f15 := Tryd.func76.trans (congrArg some (by kernel_rfl))
  f17 := Tryd.func72.trans (congrArg some (by kernel_rfl))
  f20 := Tryd.func77.trans (congrArg some (by kernel_rfl))
  t0 := Tryd.underlying0
  a0 := Tryd.isAgg0
  z0 := Tryd.sizeOf0
  v0 := Tryd.zeroValue0
  i0 := by kernel_rfl
  t3 := Tryd.underlying3
  a3 := Tryd.isAgg3
  z3 := Tryd.sizeOf3
  v3 := Tryd.zeroValue3
  i3 := by kernel_rfl
  t4 := Tryd.underlying4
  a4 := Tryd.isAgg4
  z4 := Tryd.sizeOf4
  v4 := Tryd.zeroValue4
  i4 := by kernel_rfl
  t9 := Tryd.underlying9
  a9 := Tryd.isAgg9
  z9 := Tryd.sizeOf9
  v9 := Tryd.zeroValue9
  i9 := by kernel_rfl
  t21 := Tryd.underlying21
  a21 := Tryd.isAgg21
  z21 := Tryd.sizeOf21
  v21 := Tryd.zeroValue21
  i21 := by kernel_rfl
  t23 := Tryd.underlying98
  a23 := Tryd.isAgg98
  z23 := Tryd.sizeOf98
  v23 := Tryd.zeroValue98
  i23 := by kernel_rfl }

end Go.Proofs
