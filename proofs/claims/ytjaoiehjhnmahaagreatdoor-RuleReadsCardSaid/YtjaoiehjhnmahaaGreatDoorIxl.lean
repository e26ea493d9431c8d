/-
  THE SHELF's CONTRACTS OF strings.IndexAny, ContainsAny, Trim AND ContainsFunc AT THIS PROGRAM: the tables of numbers, printed in plain words (numbers of this seat).
-/
import Derived.Shelf.Strings.IndexAnyAll
import Derived.Shelf.Strings.SlTrimAscii
import Derived.Shelf.GgClosure.StringsRunes
import Derived.Test.YtjaoiehjhnmahaaGreatDoorRows
set_option linter.all false
namespace Go.Proofs
open Go.Shelf Go.RowKit

def Tryz.idxL_ren : Go.Shelf.Ren := ⟨fun | 153 => 151 | 152 => 187 | 226 => 191 | 227 => 75 | 228 => 144 | 137 => 227 | 119 => 228 | 224 => 229 | 225 => 230 | 217 => 232 | 266 => 264 | n => n, fun | 9 => 9 | 3 => 3 | 4 => 4 | 5 => 5 | 21 => 21 | 117 => 154 | 116 => 153 | 0 => 0 | 46 => 287 | 124 => 157 | n => n, fun | n => n⟩

theorem Tryz.idxL : Go.Proofs.Lays.n153 Tryz.prog Tryz.idxL_ren := {
  mixed := by kernel_rfl
  f119 := Tryz.func228.trans (congrArg some (by kernel_rfl))
  f137 := Tryz.func227.trans (congrArg some (by kernel_rfl))
  f152 := Tryz.func187.trans (congrArg some (by kernel_rfl))
  f153 := Tryz.func151.trans (congrArg some (by kernel_rfl))
  f217 := Tryz.func232.trans (congrArg some (by kernel_rfl))
  f224 := Tryz.func229.trans (congrArg some (by kernel_rfl))
  f225 := Tryz.func230.trans (congrArg some (by kernel_rfl))
  f226 := Tryz.func191.trans (congrArg some (by kernel_rfl))
  f227 := Tryz.func75.trans (congrArg some (by kernel_rfl))
  f228 := Tryz.func144.trans (congrArg some (by kernel_rfl))
  f266 := Tryz.func264.trans (congrArg some (by kernel_rfl))
  t0 := Tryz.underlying0
  a0 := Tryz.isAgg0
  z0 := Tryz.sizeOf0
  v0 := Tryz.zeroValue0
  t3 := Tryz.underlying3
  a3 := Tryz.isAgg3
  z3 := Tryz.sizeOf3
  v3 := Tryz.zeroValue3
  t4 := Tryz.underlying4
  a4 := Tryz.isAgg4
  z4 := Tryz.sizeOf4
  v4 := Tryz.zeroValue4
  t5 := Tryz.underlying5
  a5 := Tryz.isAgg5
  z5 := Tryz.sizeOf5
  v5 := Tryz.zeroValue5
  t9 := Tryz.underlying9
  a9 := Tryz.isAgg9
  z9 := Tryz.sizeOf9
  v9 := Tryz.zeroValue9
  t21 := Tryz.underlying21
  a21 := Tryz.isAgg21
  z21 := Tryz.sizeOf21
  v21 := Tryz.zeroValue21
  t46 := Tryz.underlying287
  a46 := Tryz.isAgg287
  z46 := Tryz.sizeOf287
  v46 := Tryz.zeroValue287
  t116 := Tryz.underlying153
  a116 := Tryz.isAgg153
  z116 := Tryz.sizeOf153
  t117 := Tryz.underlying154
  a117 := Tryz.isAgg154
  z117 := Tryz.sizeOf154
  v117 := Tryz.zeroValue154
  t124 := Tryz.underlying157
  a124 := Tryz.isAgg157
  z124 := Tryz.sizeOf157
  v124 := Tryz.zeroValue157 }

def Tryz.canyL_ren : Go.Shelf.Ren := ⟨fun | 150 => 86 | 153 => 151 | 152 => 187 | 226 => 191 | 227 => 75 | 228 => 144 | 137 => 227 | 119 => 228 | 224 => 229 | 225 => 230 | 217 => 232 | 266 => 264 | n => n, fun | 9 => 9 | 4 => 4 | 3 => 3 | 5 => 5 | 21 => 21 | 117 => 154 | 116 => 153 | 0 => 0 | 46 => 287 | 124 => 157 | n => n, fun | n => n⟩

theorem Tryz.canyL : Go.Proofs.Lays.n150 Tryz.prog Tryz.canyL_ren := {
  mixed := by kernel_rfl
  f119 := Tryz.func228.trans (congrArg some (by kernel_rfl))
  f137 := Tryz.func227.trans (congrArg some (by kernel_rfl))
  f150 := Tryz.func86.trans (congrArg some (by kernel_rfl))
  f152 := Tryz.func187.trans (congrArg some (by kernel_rfl))
  f153 := Tryz.func151.trans (congrArg some (by kernel_rfl))
  f217 := Tryz.func232.trans (congrArg some (by kernel_rfl))
  f224 := Tryz.func229.trans (congrArg some (by kernel_rfl))
  f225 := Tryz.func230.trans (congrArg some (by kernel_rfl))
  f226 := Tryz.func191.trans (congrArg some (by kernel_rfl))
  f227 := Tryz.func75.trans (congrArg some (by kernel_rfl))
  f228 := Tryz.func144.trans (congrArg some (by kernel_rfl))
  f266 := Tryz.func264.trans (congrArg some (by kernel_rfl))
  t0 := Tryz.underlying0
  a0 := Tryz.isAgg0
  z0 := Tryz.sizeOf0
  v0 := Tryz.zeroValue0
  t3 := Tryz.underlying3
  a3 := Tryz.isAgg3
  z3 := Tryz.sizeOf3
  v3 := Tryz.zeroValue3
  t4 := Tryz.underlying4
  a4 := Tryz.isAgg4
  z4 := Tryz.sizeOf4
  v4 := Tryz.zeroValue4
  t5 := Tryz.underlying5
  a5 := Tryz.isAgg5
  z5 := Tryz.sizeOf5
  v5 := Tryz.zeroValue5
  t9 := Tryz.underlying9
  a9 := Tryz.isAgg9
  z9 := Tryz.sizeOf9
  v9 := Tryz.zeroValue9
  t21 := Tryz.underlying21
  a21 := Tryz.isAgg21
  z21 := Tryz.sizeOf21
  v21 := Tryz.zeroValue21
  t46 := Tryz.underlying287
  a46 := Tryz.isAgg287
  z46 := Tryz.sizeOf287
  v46 := Tryz.zeroValue287
  t116 := Tryz.underlying153
  a116 := Tryz.isAgg153
  z116 := Tryz.sizeOf153
  t117 := Tryz.underlying154
  a117 := Tryz.isAgg154
  z117 := Tryz.sizeOf154
  v117 := Tryz.zeroValue154
  t124 := Tryz.underlying157
  a124 := Tryz.isAgg157
  z124 := Tryz.sizeOf157
  v124 := Tryz.zeroValue157 }

def Tryz.trimL_ren : Go.Shelf.Ren := ⟨fun | 160 => 23 | 232 => 74 | 231 => 73 | 227 => 75 | 234 => 77 | 233 => 76 | 236 => 79 | 235 => 78 | 228 => 144 | 271 => 147 | 151 => 146 | 197 => 145 | 120 => 188 | 152 => 187 | 260 => 186 | 137 => 227 | 119 => 228 | 224 => 229 | 225 => 230 | 217 => 232 | 266 => 264 | n => n, fun | 9 => 9 | 4 => 4 | 3 => 3 | 5 => 5 | 117 => 154 | 116 => 153 | 0 => 0 | 124 => 157 | 21 => 21 | 105 => 223 | 46 => 287 | 119 => 278 | 139 => 292 | 138 => 291 | n => n, fun | 3 => 2 | 4 => 3 | n => n⟩

theorem Tryz.trimL : Go.Proofs.Lays.n160 Tryz.prog Tryz.trimL_ren := {
  mixed := by kernel_rfl
  f119 := Tryz.func228.trans (congrArg some (by kernel_rfl))
  f120 := Tryz.func188.trans (congrArg some (by kernel_rfl))
  f137 := Tryz.func227.trans (congrArg some (by kernel_rfl))
  f151 := Tryz.func146.trans (congrArg some (by kernel_rfl))
  f152 := Tryz.func187.trans (congrArg some (by kernel_rfl))
  f160 := Tryz.func23.trans (congrArg some (by kernel_rfl))
  f197 := Tryz.func145.trans (congrArg some (by kernel_rfl))
  f217 := Tryz.func232.trans (congrArg some (by kernel_rfl))
  f224 := Tryz.func229.trans (congrArg some (by kernel_rfl))
  f225 := Tryz.func230.trans (congrArg some (by kernel_rfl))
  f227 := Tryz.func75.trans (congrArg some (by kernel_rfl))
  f228 := Tryz.func144.trans (congrArg some (by kernel_rfl))
  f231 := Tryz.func73.trans (congrArg some (by kernel_rfl))
  f232 := Tryz.func74.trans (congrArg some (by kernel_rfl))
  f233 := Tryz.func76.trans (congrArg some (by kernel_rfl))
  f234 := Tryz.func77.trans (congrArg some (by kernel_rfl))
  f235 := Tryz.func78.trans (congrArg some (by kernel_rfl))
  f236 := Tryz.func79.trans (congrArg some (by kernel_rfl))
  f260 := Tryz.func186.trans (congrArg some (by kernel_rfl))
  f266 := Tryz.func264.trans (congrArg some (by kernel_rfl))
  f271 := Tryz.func147.trans (congrArg some (by kernel_rfl))
  t0 := Tryz.underlying0
  a0 := Tryz.isAgg0
  z0 := Tryz.sizeOf0
  v0 := Tryz.zeroValue0
  t3 := Tryz.underlying3
  a3 := Tryz.isAgg3
  z3 := Tryz.sizeOf3
  v3 := Tryz.zeroValue3
  t4 := Tryz.underlying4
  a4 := Tryz.isAgg4
  z4 := Tryz.sizeOf4
  v4 := Tryz.zeroValue4
  t5 := Tryz.underlying5
  a5 := Tryz.isAgg5
  z5 := Tryz.sizeOf5
  v5 := Tryz.zeroValue5
  t9 := Tryz.underlying9
  a9 := Tryz.isAgg9
  z9 := Tryz.sizeOf9
  v9 := Tryz.zeroValue9
  t21 := Tryz.underlying21
  a21 := Tryz.isAgg21
  z21 := Tryz.sizeOf21
  v21 := Tryz.zeroValue21
  t46 := Tryz.underlying287
  a46 := Tryz.isAgg287
  z46 := Tryz.sizeOf287
  v46 := Tryz.zeroValue287
  t105 := Tryz.underlying223
  a105 := Tryz.isAgg223
  z105 := Tryz.sizeOf223
  v105 := Tryz.zeroValue223
  t116 := Tryz.underlying153
  a116 := Tryz.isAgg153
  z116 := Tryz.sizeOf153
  t117 := Tryz.underlying154
  a117 := Tryz.isAgg154
  z117 := Tryz.sizeOf154
  v117 := Tryz.zeroValue154
  t119 := Tryz.underlying278
  a119 := Tryz.isAgg278
  z119 := Tryz.sizeOf278
  t124 := Tryz.underlying157
  a124 := Tryz.isAgg157
  z124 := Tryz.sizeOf157
  v124 := Tryz.zeroValue157
  t138 := Tryz.underlying291
  a138 := Tryz.isAgg291
  z138 := Tryz.sizeOf291
  v138 := Tryz.zeroValue291
  t139 := Tryz.underlying292
  a139 := Tryz.isAgg292
  z139 := Tryz.sizeOf292
  v139 := Tryz.zeroValue292
  g3 := by kernel_rfl
  g4 := by kernel_rfl }

def Tryz.cfunL_ren : Go.Shelf.Ren := ⟨fun | 17 => 149 | 15 => 190 | 20 => 231 | n => n, fun | 9 => 9 | 23 => 227 | 4 => 4 | 3 => 3 | 0 => 0 | 21 => 21 | n => n, fun | n => n⟩

theorem Tryz.cfunL : Go.Proofs.LaysGw.n17 Tryz.prog Tryz.cfunL_ren := {
  mixed := by kernel_rfl
  f15 := Tryz.func190.trans (congrArg some (by kernel_rfl))
  f17 := Tryz.func149.trans (congrArg some (by kernel_rfl))
  f20 := Tryz.func231.trans (congrArg some (by kernel_rfl))
  t0 := Tryz.underlying0
  a0 := Tryz.isAgg0
  z0 := Tryz.sizeOf0
  v0 := Tryz.zeroValue0
  i0 := by kernel_rfl
  t3 := Tryz.underlying3
  a3 := Tryz.isAgg3
  z3 := Tryz.sizeOf3
  v3 := Tryz.zeroValue3
  i3 := by kernel_rfl
  t4 := Tryz.underlying4
  a4 := Tryz.isAgg4
  z4 := Tryz.sizeOf4
  v4 := Tryz.zeroValue4
  i4 := by kernel_rfl
  t9 := Tryz.underlying9
  a9 := Tryz.isAgg9
  z9 := Tryz.sizeOf9
  v9 := Tryz.zeroValue9
  i9 := by kernel_rfl
  t21 := Tryz.underlying21
  a21 := Tryz.isAgg21
  z21 := Tryz.sizeOf21
  v21 := Tryz.zeroValue21
  i21 := by kernel_rfl
  t23 := Tryz.underlying227
  a23 := Tryz.isAgg227
  z23 := Tryz.sizeOf227
  v23 := Tryz.zeroValue227
  i23 := by kernel_rfl }

end Go.Proofs
