/-
  THE SHELF's CONTRACT OF slices.SortFunc AT []api.Prop AT THIS PROGRAM: the table of numbers, printed in plain words (numbers of this seat).
-/
import Derived.Shelf.SlLaysF0
import Derived.Test.YtfnooipkghfmoaaGreatDoorRows
set_option linter.all false
namespace Go.Proofs
open Go.Shelf
def Tryz.sortP_ren : Go.Shelf.Ren := ⟨fun | 6 => 72 | 15 => 114 | 14 => 120 | 28 => 152 | 29 => 153 | 20 => 158 | 21 => 159 | 22 => 160 | 23 => 161 | 24 => 162 | 25 => 163 | 26 => 164 | 27 => 165 | 46 => 196 | 47 => 190 | 48 => 191 | 49 => 197 | 50 => 198 | 57 => 216 | n => n, fun | 22 => 22 | 24 => 53 | 25 => 140 | 3 => 3 | 39 => 190 | 0 => 0 | 53 => 167 | 55 => 222 | 4 => 4 | 46 => 214 | 45 => 213 | 50 => 218 | 5 => 5 | 9 => 9 | 66 => 256 | 70 => 260 | 76 => 289 | 77 => 290 | n => n, fun | n => n⟩
theorem Tryz.sortP : Go.Proofs.SlLaysF0.n6 Tryz.prog Tryz.sortP_ren := {
  mixed := by kernel_rfl
  f6 := ⟨Tryz.f72.name, by decide, Tryz.func72.trans (congrArg some (by kernel_rfl))⟩
  f14 := ⟨Tryz.f120.name, by decide, Tryz.func120.trans (congrArg some (by kernel_rfl))⟩
  f15 := Tryz.func114.trans (congrArg some (by kernel_rfl))
  f20 := ⟨Tryz.f158.name, by decide, Tryz.func158.trans (congrArg some (by kernel_rfl))⟩
  f21 := ⟨Tryz.f159.name, by decide, Tryz.func159.trans (congrArg some (by kernel_rfl))⟩
  f22 := ⟨Tryz.f160.name, by decide, Tryz.func160.trans (congrArg some (by kernel_rfl))⟩
  f23 := ⟨Tryz.f161.name, by decide, Tryz.func161.trans (congrArg some (by kernel_rfl))⟩
  f24 := ⟨Tryz.f162.name, by decide, Tryz.func162.trans (congrArg some (by kernel_rfl))⟩
  f25 := ⟨Tryz.f163.name, by decide, Tryz.func163.trans (congrArg some (by kernel_rfl))⟩
  f26 := ⟨Tryz.f164.name, by decide, Tryz.func164.trans (congrArg some (by kernel_rfl))⟩
  f27 := ⟨Tryz.f165.name, by decide, Tryz.func165.trans (congrArg some (by kernel_rfl))⟩
  f28 := Tryz.func152.trans (congrArg some (by kernel_rfl))
  f29 := Tryz.func153.trans (congrArg some (by kernel_rfl))
  f46 := ⟨Tryz.f196.name, by decide, Tryz.func196.trans (congrArg some (by kernel_rfl))⟩
  f47 := Tryz.func190.trans (congrArg some (by kernel_rfl))
  f48 := Tryz.func191.trans (congrArg some (by kernel_rfl))
  f49 := ⟨Tryz.f197.name, by decide, Tryz.func197.trans (congrArg some (by kernel_rfl))⟩
  f50 := ⟨Tryz.f198.name, by decide, Tryz.func198.trans (congrArg some (by kernel_rfl))⟩
  f57 := ⟨Tryz.f216.name, by decide, Tryz.func216.trans (congrArg some (by kernel_rfl))⟩
  t0 := Tryz.underlying0
  a0 := Tryz.isAgg0
  z0 := Tryz.sizeOf0
  v0 := Tryz.zeroValue0
  t3 := Tryz.underlying3
  a3 := Tryz.isAgg3
  z3 := Tryz.sizeOf3
  v3 := Tryz.zeroValue3
  t4 := Tryz.underlying4
  a4 := Tryz.isAgg4
  z4 := Tryz.sizeOf4
  v4 := Tryz.zeroValue4
  t5 := Tryz.underlying5
  a5 := Tryz.isAgg5
  z5 := Tryz.sizeOf5
  v5 := Tryz.zeroValue5
  t9 := Tryz.underlying9
  a9 := Tryz.isAgg9
  z9 := Tryz.sizeOf9
  v9 := Tryz.zeroValue9
  t22 := Tryz.underlying22
  a22 := Tryz.isAgg22
  z22 := Tryz.sizeOf22
  v22 := Tryz.zeroValue22
  t25 := Tryz.underlying140
  a25 := Tryz.isAgg140
  z25 := Tryz.sizeOf140
  v25 := Tryz.zeroValue140
  t39 := Tryz.underlying190
  a39 := Tryz.isAgg190
  z39 := Tryz.sizeOf190
  v39 := Tryz.zeroValue190
  t45 := Tryz.underlying213
  a45 := Tryz.isAgg213
  z45 := Tryz.sizeOf213
  v45 := Tryz.zeroValue213
  t46 := Tryz.underlying214
  a46 := Tryz.isAgg214
  z46 := Tryz.sizeOf214
  v46 := Tryz.zeroValue214
  t50 := Tryz.underlying218
  a50 := Tryz.isAgg218
  z50 := Tryz.sizeOf218
  v50 := Tryz.zeroValue218
  t53 := Tryz.underlying167
  a53 := Tryz.isAgg167
  z53 := Tryz.sizeOf167
  v53 := Tryz.zeroValue167
  t55 := Tryz.underlying222
  a55 := Tryz.isAgg222
  z55 := Tryz.sizeOf222
  v55 := Tryz.zeroValue222
  t66 := Tryz.underlying256
  a66 := Tryz.isAgg256
  z66 := Tryz.sizeOf256
  v66 := Tryz.zeroValue256
  t70 := Tryz.underlying260
  a70 := Tryz.isAgg260
  z70 := Tryz.sizeOf260
  v70 := Tryz.zeroValue260
  t76 := Tryz.underlying289
  a76 := Tryz.isAgg289
  z76 := Tryz.sizeOf289
  v76 := Tryz.zeroValue289
  t77 := Tryz.underlying290
  a77 := Tryz.isAgg290
  z77 := Tryz.sizeOf290
  v77 := Tryz.zeroValue290 }

end Go.Proofs
