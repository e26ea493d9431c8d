/-
  THE SHELF's CONTRACTS OF strings.IndexAny, ContainsAny, Trim AND ContainsFunc AT THIS PROGRAM: the tables of numbers, printed in plain words (numbers of this seat).
-/
import Derived.Shelf.Strings.IndexAnyAll
import Derived.Shelf.Strings.SlTrimAscii
import Derived.Shelf.GgClosure.StringsRunes
import Derived.Test.YtdncmjlakmkfiaaGreatDoorRows
set_option linter.all false
namespace Go.Proofs
open Go.Shelf Go.RowKit

def Tryz.idxL_ren : Go.Shelf.Ren := ⟨fun | 153 => 62 | 152 => 106 | 226 => 107 | 227 => 108 | 228 => 109 | 137 => 157 | 119 => 158 | 224 => 155 | 225 => 154 | 217 => 153 | 266 => 192 | n => n, fun | 9 => 9 | 3 => 3 | 4 => 4 | 5 => 5 | 21 => 21 | 117 => 161 | 116 => 160 | 0 => 0 | 46 => 147 | 124 => 174 | n => n, fun | n => n⟩

theorem Tryz.idxL : Go.Proofs.Lays.n153 Tryz.prog Tryz.idxL_ren := {
  mixed := by kernel_rfl
  f119 := Tryz.func158.trans (congrArg some (by kernel_rfl))
  f137 := Tryz.func157.trans (congrArg some (by kernel_rfl))
  f152 := Tryz.func106.trans (congrArg some (by kernel_rfl))
  f153 := Tryz.func62.trans (congrArg some (by kernel_rfl))
  f217 := Tryz.func153.trans (congrArg some (by kernel_rfl))
  f224 := Tryz.func155.trans (congrArg some (by kernel_rfl))
  f225 := Tryz.func154.trans (congrArg some (by kernel_rfl))
  f226 := Tryz.func107.trans (congrArg some (by kernel_rfl))
  f227 := Tryz.func108.trans (congrArg some (by kernel_rfl))
  f228 := Tryz.func109.trans (congrArg some (by kernel_rfl))
  f266 := Tryz.func192.trans (congrArg some (by kernel_rfl))
  t0 := Tryz.underlying0
  a0 := Tryz.isAgg0
  z0 := Tryz.sizeOf0
  v0 := Tryz.zeroValue0
  t3 := Tryz.underlying3
  a3 := Tryz.isAgg3
  z3 := Tryz.sizeOf3
  v3 := Tryz.zeroValue3
  t4 := Tryz.underlying4
  a4 := Tryz.isAgg4
  z4 := Tryz.sizeOf4
  v4 := Tryz.zeroValue4
  t5 := Tryz.underlying5
  a5 := Tryz.isAgg5
  z5 := Tryz.sizeOf5
  v5 := Tryz.zeroValue5
  t9 := Tryz.underlying9
  a9 := Tryz.isAgg9
  z9 := Tryz.sizeOf9
  v9 := Tryz.zeroValue9
  t21 := Tryz.underlying21
  a21 := Tryz.isAgg21
  z21 := Tryz.sizeOf21
  v21 := Tryz.zeroValue21
  t46 := Tryz.underlying147
  a46 := Tryz.isAgg147
  z46 := Tryz.sizeOf147
  v46 := Tryz.zeroValue147
  t116 := Tryz.underlying160
  a116 := Tryz.isAgg160
  z116 := Tryz.sizeOf160
  t117 := Tryz.underlying161
  a117 := Tryz.isAgg161
  z117 := Tryz.sizeOf161
  v117 := Tryz.zeroValue161
  t124 := Tryz.underlying174
  a124 := Tryz.isAgg174
  z124 := Tryz.sizeOf174
  v124 := Tryz.zeroValue174 }

def Tryz.canyL_ren : Go.Shelf.Ren := ⟨fun | 150 => 68 | 153 => 62 | 152 => 106 | 226 => 107 | 227 => 108 | 228 => 109 | 137 => 157 | 119 => 158 | 224 => 155 | 225 => 154 | 217 => 153 | 266 => 192 | n => n, fun | 9 => 9 | 4 => 4 | 3 => 3 | 5 => 5 | 21 => 21 | 117 => 161 | 116 => 160 | 0 => 0 | 46 => 147 | 124 => 174 | n => n, fun | n => n⟩

theorem Tryz.canyL : Go.Proofs.Lays.n150 Tryz.prog Tryz.canyL_ren := {
  mixed := by kernel_rfl
  f119 := Tryz.func158.trans (congrArg some (by kernel_rfl))
  f137 := Tryz.func157.trans (congrArg some (by kernel_rfl))
  f150 := Tryz.func68.trans (congrArg some (by kernel_rfl))
  f152 := Tryz.func106.trans (congrArg some (by kernel_rfl))
  f153 := Tryz.func62.trans (congrArg some (by kernel_rfl))
  f217 := Tryz.func153.trans (congrArg some (by kernel_rfl))
  f224 := Tryz.func155.trans (congrArg some (by kernel_rfl))
  f225 := Tryz.func154.trans (congrArg some (by kernel_rfl))
  f226 := Tryz.func107.trans (congrArg some (by kernel_rfl))
  f227 := Tryz.func108.trans (congrArg some (by kernel_rfl))
  f228 := Tryz.func109.trans (congrArg some (by kernel_rfl))
  f266 := Tryz.func192.trans (congrArg some (by kernel_rfl))
  t0 := Tryz.underlying0
  a0 := Tryz.isAgg0
  z0 := Tryz.sizeOf0
  v0 := Tryz.zeroValue0
  t3 := Tryz.underlying3
  a3 := Tryz.isAgg3
  z3 := Tryz.sizeOf3
  v3 := Tryz.zeroValue3
  t4 := Tryz.underlying4
  a4 := Tryz.isAgg4
  z4 := Tryz.sizeOf4
  v4 := Tryz.zeroValue4
  t5 := Tryz.underlying5
  a5 := Tryz.isAgg5
  z5 := Tryz.sizeOf5
  v5 := Tryz.zeroValue5
  t9 := Tryz.underlying9
  a9 := Tryz.isAgg9
  z9 := Tryz.sizeOf9
  v9 := Tryz.zeroValue9
  t21 := Tryz.underlying21
  a21 := Tryz.isAgg21
  z21 := Tryz.sizeOf21
  v21 := Tryz.zeroValue21
  t46 := Tryz.underlying147
  a46 := Tryz.isAgg147
  z46 := Tryz.sizeOf147
  v46 := Tryz.zeroValue147
  t116 := Tryz.underlying160
  a116 := Tryz.isAgg160
  z116 := Tryz.sizeOf160
  t117 := Tryz.underlying161
  a117 := Tryz.isAgg161
  z117 := Tryz.sizeOf161
  v117 := Tryz.zeroValue161
  t124 := Tryz.underlying174
  a124 := Tryz.isAgg174
  z124 := Tryz.sizeOf174
  v124 := Tryz.zeroValue174 }

def Tryz.trimL_ren : Go.Shelf.Ren := ⟨fun | 160 => 67 | 232 => 118 | 231 => 117 | 227 => 108 | 234 => 120 | 233 => 119 | 236 => 122 | 235 => 121 | 228 => 109 | 271 => 169 | 151 => 168 | 197 => 167 | 120 => 207 | 152 => 106 | 260 => 206 | 137 => 157 | 119 => 158 | 224 => 155 | 225 => 154 | 217 => 153 | 266 => 192 | n => n, fun | 9 => 9 | 4 => 4 | 3 => 3 | 5 => 5 | 117 => 161 | 116 => 160 | 0 => 0 | 124 => 174 | 21 => 21 | 105 => 210 | 46 => 147 | 119 => 252 | 139 => 255 | 138 => 254 | n => n, fun | 3 => 3 | 4 => 4 | n => n⟩

theorem Tryz.trimL : Go.Proofs.Lays.n160 Tryz.prog Tryz.trimL_ren := {
  mixed := by kernel_rfl
  f119 := Tryz.func158.trans (congrArg some (by kernel_rfl))
  f120 := Tryz.func207.trans (congrArg some (by kernel_rfl))
  f137 := Tryz.func157.trans (congrArg some (by kernel_rfl))
  f151 := Tryz.func168.trans (congrArg some (by kernel_rfl))
  f152 := Tryz.func106.trans (congrArg some (by kernel_rfl))
  f160 := Tryz.func67.trans (congrArg some (by kernel_rfl))
  f197 := Tryz.func167.trans (congrArg some (by kernel_rfl))
  f217 := Tryz.func153.trans (congrArg some (by kernel_rfl))
  f224 := Tryz.func155.trans (congrArg some (by kernel_rfl))
  f225 := Tryz.func154.trans (congrArg some (by kernel_rfl))
  f227 := Tryz.func108.trans (congrArg some (by kernel_rfl))
  f228 := Tryz.func109.trans (congrArg some (by kernel_rfl))
  f231 := Tryz.func117.trans (congrArg some (by kernel_rfl))
  f232 := Tryz.func118.trans (congrArg some (by kernel_rfl))
  f233 := Tryz.func119.trans (congrArg some (by kernel_rfl))
  f234 := Tryz.func120.trans (congrArg some (by kernel_rfl))
  f235 := Tryz.func121.trans (congrArg some (by kernel_rfl))
  f236 := Tryz.func122.trans (congrArg some (by kernel_rfl))
  f260 := Tryz.func206.trans (congrArg some (by kernel_rfl))
  f266 := Tryz.func192.trans (congrArg some (by kernel_rfl))
  f271 := Tryz.func169.trans (congrArg some (by kernel_rfl))
  t0 := Tryz.underlying0
  a0 := Tryz.isAgg0
  z0 := Tryz.sizeOf0
  v0 := Tryz.zeroValue0
  t3 := Tryz.underlying3
  a3 := Tryz.isAgg3
  z3 := Tryz.sizeOf3
  v3 := Tryz.zeroValue3
  t4 := Tryz.underlying4
  a4 := Tryz.isAgg4
  z4 := Tryz.sizeOf4
  v4 := Tryz.zeroValue4
  t5 := Tryz.underlying5
  a5 := Tryz.isAgg5
  z5 := Tryz.sizeOf5
  v5 := Tryz.zeroValue5
  t9 := Tryz.underlying9
  a9 := Tryz.isAgg9
  z9 := Tryz.sizeOf9
  v9 := Tryz.zeroValue9
  t21 := Tryz.underlying21
  a21 := Tryz.isAgg21
  z21 := Tryz.sizeOf21
  v21 := Tryz.zeroValue21
  t46 := Tryz.underlying147
  a46 := Tryz.isAgg147
  z46 := Tryz.sizeOf147
  v46 := Tryz.zeroValue147
  t105 := Tryz.underlying210
  a105 := Tryz.isAgg210
  z105 := Tryz.sizeOf210
  v105 := Tryz.zeroValue210
  t116 := Tryz.underlying160
  a116 := Tryz.isAgg160
  z116 := Tryz.sizeOf160
  t117 := Tryz.underlying161
  a117 := Tryz.isAgg161
  z117 := Tryz.sizeOf161
  v117 := Tryz.zeroValue161
  t119 := Tryz.underlying252
  a119 := Tryz.isAgg252
  z119 := Tryz.sizeOf252
  t124 := Tryz.underlying174
  a124 := Tryz.isAgg174
  z124 := Tryz.sizeOf174
  v124 := Tryz.zeroValue174
  t138 := Tryz.underlying254
  a138 := Tryz.isAgg254
  z138 := Tryz.sizeOf254
  v138 := Tryz.zeroValue254
  t139 := Tryz.underlying255
  a139 := Tryz.isAgg255
  z139 := Tryz.sizeOf255
  v139 := Tryz.zeroValue255
  g3 := by kernel_rfl
  g4 := by kernel_rfl }

def Tryz.cfunL_ren : Go.Shelf.Ren := ⟨fun | 17 => 115 | 15 => 166 | 20 => 205 | n => n, fun | 9 => 9 | 23 => 171 | 4 => 4 | 3 => 3 | 0 => 0 | 21 => 21 | n => n, fun | n => n⟩

theorem Tryz.cfunL : Go.Proofs.LaysGw.n17 Tryz.prog Tryz.cfunL_ren := {
  mixed := by kernel_rfl
  f15 := Tryz.func166.trans (congrArg some (by kernel_rfl))
  f17 := Tryz.func115.trans (congrArg some (by kernel_rfl))
  f20 := Tryz.func205.trans (congrArg some (by kernel_rfl))
  t0 := Tryz.underlying0
  a0 := Tryz.isAgg0
  z0 := Tryz.sizeOf0
  v0 := Tryz.zeroValue0
  i0 := by kernel_rfl
  t3 := Tryz.underlying3
  a3 := Tryz.isAgg3
  z3 := Tryz.sizeOf3
  v3 := Tryz.zeroValue3
  i3 := by kernel_rfl
  t4 := Tryz.underlying4
  a4 := Tryz.isAgg4
  z4 := Tryz.sizeOf4
  v4 := Tryz.zeroValue4
  i4 := by kernel_rfl
  t9 := Tryz.underlying9
  a9 := Tryz.isAgg9
  z9 := Tryz.sizeOf9
  v9 := Tryz.zeroValue9
  i9 := by kernel_rfl
  t21 := Tryz.underlying21
  a21 := Tryz.isAgg21
  z21 := Tryz.sizeOf21
  v21 := Tryz.zeroValue21
  i21 := by kernel_rfl
  t23 := Tryz.underlying171
  a23 := Tryz.isAgg171
  z23 := Tryz.sizeOf171
  v23 := Tryz.zeroValue171
  i23 := by kernel_rfl }

end Go.Proofs
