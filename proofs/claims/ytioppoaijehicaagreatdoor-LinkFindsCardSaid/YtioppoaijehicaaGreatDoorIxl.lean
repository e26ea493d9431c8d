/-
  THE SHELF's CONTRACTS OF LIBRARY FUNCTIONS AT THIS PROGRAM (idx, cany, imptrim, trim, cfun): the tables of numbers, printed in plain words (numbers of this seat).
-/
import Derived.Shelf.Strings.IndexAnyAll
import Derived.Shelf.Strings.SlTrimAscii
import Derived.Shelf.GgClosure.StringsRunes
import Derived.Test.YtioppoaijehicaaGreatDoorRows
import Derived.Test.YtioppoaijehicaaGreatDoorInts
import Derived.Below
set_option linter.all false
namespace Go.Proofs
open Go.Shelf Go.RowKit

def Tryz.idxL_ren : Go.Shelf.Ren := ⟨fun | 153 => 160 | 152 => 198 | 226 => 199 | 227 => 181 | 228 => 200 | 137 => 159 | 119 => 229 | 224 => 230 | 225 => 231 | 217 => 197 | 266 => 228 | n => n, fun | 9 => 9 | 3 => 3 | 4 => 4 | 5 => 5 | 21 => 21 | 117 => 203 | 116 => 202 | 0 => 0 | 46 => 127 | 124 => 206 | n => n, fun | n => n⟩

theorem Tryz.idxL : Go.Proofs.Lays.n153 Tryz.prog Tryz.idxL_ren := {
  mixed := by kernel_rfl
  f119 := Tryz.func229.trans (congrArg some (by kernel_rfl))
  f137 := Tryz.func159.trans (congrArg some (by kernel_rfl))
  f152 := Tryz.func198.trans (congrArg some (by kernel_rfl))
  f153 := Tryz.func160.trans (congrArg some (by kernel_rfl))
  f217 := Tryz.func197.trans (congrArg some (by kernel_rfl))
  f224 := Tryz.func230.trans (congrArg some (by kernel_rfl))
  f225 := Tryz.func231.trans (congrArg some (by kernel_rfl))
  f226 := Tryz.func199.trans (congrArg some (by kernel_rfl))
  f227 := Tryz.func181.trans (congrArg some (by kernel_rfl))
  f228 := Tryz.func200.trans (congrArg some (by kernel_rfl))
  f266 := Tryz.func228.trans (congrArg some (by kernel_rfl))
  t0 := Tryz.underlying0
  a0 := Tryz.isAgg0
  z0 := Tryz.sizeOf0
  v0 := Tryz.zeroValue0
  t3 := Tryz.underlying3
  a3 := Tryz.isAgg3
  z3 := Tryz.sizeOf3
  v3 := Tryz.zeroValue3
  t4 := Tryz.underlying4
  a4 := Tryz.isAgg4
  z4 := Tryz.sizeOf4
  v4 := Tryz.zeroValue4
  t5 := Tryz.underlying5
  a5 := Tryz.isAgg5
  z5 := Tryz.sizeOf5
  v5 := Tryz.zeroValue5
  t9 := Tryz.underlying9
  a9 := Tryz.isAgg9
  z9 := Tryz.sizeOf9
  v9 := Tryz.zeroValue9
  t21 := Tryz.underlying21
  a21 := Tryz.isAgg21
  z21 := Tryz.sizeOf21
  v21 := Tryz.zeroValue21
  t46 := Tryz.underlying127
  a46 := Tryz.isAgg127
  z46 := Tryz.sizeOf127
  v46 := Tryz.zeroValue127
  t116 := Tryz.underlying202
  a116 := Tryz.isAgg202
  z116 := Tryz.sizeOf202
  t117 := Tryz.underlying203
  a117 := Tryz.isAgg203
  z117 := Tryz.sizeOf203
  v117 := Tryz.zeroValue203
  t124 := Tryz.underlying206
  a124 := Tryz.isAgg206
  z124 := Tryz.sizeOf206
  v124 := Tryz.zeroValue206 }

def Tryz.canyL_ren : Go.Shelf.Ren := ⟨fun | 150 => 189 | 153 => 160 | 152 => 198 | 226 => 199 | 227 => 181 | 228 => 200 | 137 => 159 | 119 => 229 | 224 => 230 | 225 => 231 | 217 => 197 | 266 => 228 | n => n, fun | 9 => 9 | 4 => 4 | 3 => 3 | 5 => 5 | 21 => 21 | 117 => 203 | 116 => 202 | 0 => 0 | 46 => 127 | 124 => 206 | n => n, fun | n => n⟩

theorem Tryz.canyL : Go.Proofs.Lays.n150 Tryz.prog Tryz.canyL_ren := {
  mixed := by kernel_rfl
  f119 := Tryz.func229.trans (congrArg some (by kernel_rfl))
  f137 := Tryz.func159.trans (congrArg some (by kernel_rfl))
  f150 := Tryz.func189.trans (congrArg some (by kernel_rfl))
  f152 := Tryz.func198.trans (congrArg some (by kernel_rfl))
  f153 := Tryz.func160.trans (congrArg some (by kernel_rfl))
  f217 := Tryz.func197.trans (congrArg some (by kernel_rfl))
  f224 := Tryz.func230.trans (congrArg some (by kernel_rfl))
  f225 := Tryz.func231.trans (congrArg some (by kernel_rfl))
  f226 := Tryz.func199.trans (congrArg some (by kernel_rfl))
  f227 := Tryz.func181.trans (congrArg some (by kernel_rfl))
  f228 := Tryz.func200.trans (congrArg some (by kernel_rfl))
  f266 := Tryz.func228.trans (congrArg some (by kernel_rfl))
  t0 := Tryz.underlying0
  a0 := Tryz.isAgg0
  z0 := Tryz.sizeOf0
  v0 := Tryz.zeroValue0
  t3 := Tryz.underlying3
  a3 := Tryz.isAgg3
  z3 := Tryz.sizeOf3
  v3 := Tryz.zeroValue3
  t4 := Tryz.underlying4
  a4 := Tryz.isAgg4
  z4 := Tryz.sizeOf4
  v4 := Tryz.zeroValue4
  t5 := Tryz.underlying5
  a5 := Tryz.isAgg5
  z5 := Tryz.sizeOf5
  v5 := Tryz.zeroValue5
  t9 := Tryz.underlying9
  a9 := Tryz.isAgg9
  z9 := Tryz.sizeOf9
  v9 := Tryz.zeroValue9
  t21 := Tryz.underlying21
  a21 := Tryz.isAgg21
  z21 := Tryz.sizeOf21
  v21 := Tryz.zeroValue21
  t46 := Tryz.underlying127
  a46 := Tryz.isAgg127
  z46 := Tryz.sizeOf127
  v46 := Tryz.zeroValue127
  t116 := Tryz.underlying202
  a116 := Tryz.isAgg202
  z116 := Tryz.sizeOf202
  t117 := Tryz.underlying203
  a117 := Tryz.isAgg203
  z117 := Tryz.sizeOf203
  v117 := Tryz.zeroValue203
  t124 := Tryz.underlying206
  a124 := Tryz.isAgg206
  z124 := Tryz.sizeOf206
  v124 := Tryz.zeroValue206 }

def Tryz.trimL_ren : Go.Shelf.Ren := ⟨fun | 160 => 141 | 232 => 180 | 231 => 179 | 227 => 181 | 234 => 183 | 233 => 182 | 236 => 185 | 235 => 184 | 228 => 200 | 271 => 212 | 151 => 211 | 197 => 210 | 120 => 237 | 152 => 198 | 260 => 236 | 137 => 159 | 119 => 229 | 224 => 230 | 225 => 231 | 217 => 197 | 266 => 228 | n => n, fun | 9 => 9 | 4 => 4 | 3 => 3 | 5 => 5 | 117 => 203 | 116 => 202 | 0 => 0 | 124 => 206 | 21 => 21 | 105 => 222 | 46 => 127 | 119 => 243 | 139 => 246 | 138 => 245 | n => n, fun | 3 => 4 | 4 => 5 | n => n⟩

theorem Tryz.trimL : Go.Proofs.Lays.n160 Tryz.prog Tryz.trimL_ren := {
  mixed := by kernel_rfl
  f119 := Tryz.func229.trans (congrArg some (by kernel_rfl))
  f120 := Tryz.func237.trans (congrArg some (by kernel_rfl))
  f137 := Tryz.func159.trans (congrArg some (by kernel_rfl))
  f151 := Tryz.func211.trans (congrArg some (by kernel_rfl))
  f152 := Tryz.func198.trans (congrArg some (by kernel_rfl))
  f160 := Tryz.func141.trans (congrArg some (by kernel_rfl))
  f197 := Tryz.func210.trans (congrArg some (by kernel_rfl))
  f217 := Tryz.func197.trans (congrArg some (by kernel_rfl))
  f224 := Tryz.func230.trans (congrArg some (by kernel_rfl))
  f225 := Tryz.func231.trans (congrArg some (by kernel_rfl))
  f227 := Tryz.func181.trans (congrArg some (by kernel_rfl))
  f228 := Tryz.func200.trans (congrArg some (by kernel_rfl))
  f231 := Tryz.func179.trans (congrArg some (by kernel_rfl))
  f232 := Tryz.func180.trans (congrArg some (by kernel_rfl))
  f233 := Tryz.func182.trans (congrArg some (by kernel_rfl))
  f234 := Tryz.func183.trans (congrArg some (by kernel_rfl))
  f235 := Tryz.func184.trans (congrArg some (by kernel_rfl))
  f236 := Tryz.func185.trans (congrArg some (by kernel_rfl))
  f260 := Tryz.func236.trans (congrArg some (by kernel_rfl))
  f266 := Tryz.func228.trans (congrArg some (by kernel_rfl))
  f271 := Tryz.func212.trans (congrArg some (by kernel_rfl))
  t0 := Tryz.underlying0
  a0 := Tryz.isAgg0
  z0 := Tryz.sizeOf0
  v0 := Tryz.zeroValue0
  t3 := Tryz.underlying3
  a3 := Tryz.isAgg3
  z3 := Tryz.sizeOf3
  v3 := Tryz.zeroValue3
  t4 := Tryz.underlying4
  a4 := Tryz.isAgg4
  z4 := Tryz.sizeOf4
  v4 := Tryz.zeroValue4
  t5 := Tryz.underlying5
  a5 := Tryz.isAgg5
  z5 := Tryz.sizeOf5
  v5 := Tryz.zeroValue5
  t9 := Tryz.underlying9
  a9 := Tryz.isAgg9
  z9 := Tryz.sizeOf9
  v9 := Tryz.zeroValue9
  t21 := Tryz.underlying21
  a21 := Tryz.isAgg21
  z21 := Tryz.sizeOf21
  v21 := Tryz.zeroValue21
  t46 := Tryz.underlying127
  a46 := Tryz.isAgg127
  z46 := Tryz.sizeOf127
  v46 := Tryz.zeroValue127
  t105 := Tryz.underlying222
  a105 := Tryz.isAgg222
  z105 := Tryz.sizeOf222
  v105 := Tryz.zeroValue222
  t116 := Tryz.underlying202
  a116 := Tryz.isAgg202
  z116 := Tryz.sizeOf202
  t117 := Tryz.underlying203
  a117 := Tryz.isAgg203
  z117 := Tryz.sizeOf203
  v117 := Tryz.zeroValue203
  t119 := Tryz.underlying243
  a119 := Tryz.isAgg243
  z119 := Tryz.sizeOf243
  t124 := Tryz.underlying206
  a124 := Tryz.isAgg206
  z124 := Tryz.sizeOf206
  v124 := Tryz.zeroValue206
  t138 := Tryz.underlying245
  a138 := Tryz.isAgg245
  z138 := Tryz.sizeOf245
  v138 := Tryz.zeroValue245
  t139 := Tryz.underlying246
  a139 := Tryz.isAgg246
  z139 := Tryz.sizeOf246
  v139 := Tryz.zeroValue246
  g3 := by kernel_rfl
  g4 := by kernel_rfl }

def Tryz.cfunL_ren : Go.Shelf.Ren := ⟨fun | 17 => 218 | 15 => 241 | 20 => 253 | n => n, fun | 9 => 9 | 23 => 232 | 4 => 4 | 3 => 3 | 0 => 0 | 21 => 21 | n => n, fun | n => n⟩

theorem Tryz.cfunL : Go.Proofs.LaysGw.n17 Tryz.prog Tryz.cfunL_ren := {
  mixed := by kernel_rfl
  f15 := Tryz.func241.trans (congrArg some (by kernel_rfl))
  f17 := Tryz.func218.trans (congrArg some (by kernel_rfl))
  f20 := Tryz.func253.trans (congrArg some (by kernel_rfl))
  t0 := Tryz.underlying0
  a0 := Tryz.isAgg0
  z0 := Tryz.sizeOf0
  v0 := Tryz.zeroValue0
  i0 := by kernel_rfl
  t3 := Tryz.underlying3
  a3 := Tryz.isAgg3
  z3 := Tryz.sizeOf3
  v3 := Tryz.zeroValue3
  i3 := by kernel_rfl
  t4 := Tryz.underlying4
  a4 := Tryz.isAgg4
  z4 := Tryz.sizeOf4
  v4 := Tryz.zeroValue4
  i4 := by kernel_rfl
  t9 := Tryz.underlying9
  a9 := Tryz.isAgg9
  z9 := Tryz.sizeOf9
  v9 := Tryz.zeroValue9
  i9 := by kernel_rfl
  t21 := Tryz.underlying21
  a21 := Tryz.isAgg21
  z21 := Tryz.sizeOf21
  v21 := Tryz.zeroValue21
  i21 := by kernel_rfl
  t23 := Tryz.underlying232
  a23 := Tryz.isAgg232
  z23 := Tryz.sizeOf232
  v23 := Tryz.zeroValue232
  i23 := by kernel_rfl }



end Go.Proofs
