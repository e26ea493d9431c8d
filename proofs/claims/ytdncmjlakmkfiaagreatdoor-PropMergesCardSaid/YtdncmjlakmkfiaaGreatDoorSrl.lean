/-
  THE SHELF's CONTRACT OF slices.SortFunc AT THIS PROGRAM: the table of numbers, printed in plain words (numbers of this seat).
-/
import Derived.Shelf.SlLaysF0
import Derived.Test.YtdncmjlakmkfiaaGreatDoorRows
import Derived.Shelf.Sort.Plain
import Derived.Shelf.Slices.In.SortNone
import Derived.Shelf.Slices.CompactS
import Derived.Shelf.Slices.Equal
set_option linter.all false
namespace Go.Proofs
open Go.Shelf

def Tryz.sortP_ren : Go.Shelf.Ren := ⟨fun | 6 => 92 | 15 => 83 | 14 => 144 | 28 => 138 | 29 => 139 | 20 => 179 | 21 => 180 | 22 => 181 | 23 => 182 | 24 => 183 | 25 => 184 | 26 => 185 | 27 => 186 | 46 => 209 | 47 => 173 | 48 => 174 | 49 => 210 | 50 => 211 | 57 => 221 | n => n, fun | 22 => 30 | 24 => 47 | 25 => 155 | 3 => 3 | 39 => 147 | 0 => 0 | 53 => 185 | 55 => 187 | 4 => 4 | 46 => 179 | 45 => 178 | 50 => 127 | 5 => 5 | 9 => 9 | 66 => 213 | 70 => 217 | 76 => 238 | 77 => 239 | n => n, fun | n => n⟩

theorem Tryz.sortP : Go.Proofs.SlLaysF0.n6 Tryz.prog Tryz.sortP_ren := {
  mixed := by kernel_rfl
  f6 := ⟨Tryz.f92.name, by decide, Tryz.func92.trans (congrArg some (by kernel_rfl))⟩
  f14 := ⟨Tryz.f144.name, by decide, Tryz.func144.trans (congrArg some (by kernel_rfl))⟩
  f15 := Tryz.func83.trans (congrArg some (by kernel_rfl))
  f20 := ⟨Tryz.f179.name, by decide, Tryz.func179.trans (congrArg some (by kernel_rfl))⟩
  f21 := ⟨Tryz.f180.name, by decide, Tryz.func180.trans (congrArg some (by kernel_rfl))⟩
  f22 := ⟨Tryz.f181.name, by decide, Tryz.func181.trans (congrArg some (by kernel_rfl))⟩
  f23 := ⟨Tryz.f182.name, by decide, Tryz.func182.trans (congrArg some (by kernel_rfl))⟩
  f24 := ⟨Tryz.f183.name, by decide, Tryz.func183.trans (congrArg some (by kernel_rfl))⟩
  f25 := ⟨Tryz.f184.name, by decide, Tryz.func184.trans (congrArg some (by kernel_rfl))⟩
  f26 := ⟨Tryz.f185.name, by decide, Tryz.func185.trans (congrArg some (by kernel_rfl))⟩
  f27 := ⟨Tryz.f186.name, by decide, Tryz.func186.trans (congrArg some (by kernel_rfl))⟩
  f28 := Tryz.func138.trans (congrArg some (by kernel_rfl))
  f29 := Tryz.func139.trans (congrArg some (by kernel_rfl))
  f46 := ⟨Tryz.f209.name, by decide, Tryz.func209.trans (congrArg some (by kernel_rfl))⟩
  f47 := Tryz.func173.trans (congrArg some (by kernel_rfl))
  f48 := Tryz.func174.trans (congrArg some (by kernel_rfl))
  f49 := ⟨Tryz.f210.name, by decide, Tryz.func210.trans (congrArg some (by kernel_rfl))⟩
  f50 := ⟨Tryz.f211.name, by decide, Tryz.func211.trans (congrArg some (by kernel_rfl))⟩
  f57 := ⟨Tryz.f221.name, by decide, Tryz.func221.trans (congrArg some (by kernel_rfl))⟩
  t0 := Tryz.underlying0
  a0 := Tryz.isAgg0
  z0 := Tryz.sizeOf0
  v0 := Tryz.zeroValue0
  t3 := Tryz.underlying3
  a3 := Tryz.isAgg3
  z3 := Tryz.sizeOf3
  v3 := Tryz.zeroValue3
  t4 := Tryz.underlying4
  a4 := Tryz.isAgg4
  z4 := Tryz.sizeOf4
  v4 := Tryz.zeroValue4
  t5 := Tryz.underlying5
  a5 := Tryz.isAgg5
  z5 := Tryz.sizeOf5
  v5 := Tryz.zeroValue5
  t9 := Tryz.underlying9
  a9 := Tryz.isAgg9
  z9 := Tryz.sizeOf9
  v9 := Tryz.zeroValue9
  t22 := Tryz.underlying30
  a22 := Tryz.isAgg30
  z22 := Tryz.sizeOf30
  v22 := Tryz.zeroValue30
  t25 := Tryz.underlying155
  a25 := Tryz.isAgg155
  z25 := Tryz.sizeOf155
  v25 := Tryz.zeroValue155
  t39 := Tryz.underlying147
  a39 := Tryz.isAgg147
  z39 := Tryz.sizeOf147
  v39 := Tryz.zeroValue147
  t45 := Tryz.underlying178
  a45 := Tryz.isAgg178
  z45 := Tryz.sizeOf178
  v45 := Tryz.zeroValue178
  t46 := Tryz.underlying179
  a46 := Tryz.isAgg179
  z46 := Tryz.sizeOf179
  v46 := Tryz.zeroValue179
  t50 := Tryz.underlying127
  a50 := Tryz.isAgg127
  z50 := Tryz.sizeOf127
  v50 := Tryz.zeroValue127
  t53 := Tryz.underlying185
  a53 := Tryz.isAgg185
  z53 := Tryz.sizeOf185
  v53 := Tryz.zeroValue185
  t55 := Tryz.underlying187
  a55 := Tryz.isAgg187
  z55 := Tryz.sizeOf187
  v55 := Tryz.zeroValue187
  t66 := Tryz.underlying213
  a66 := Tryz.isAgg213
  z66 := Tryz.sizeOf213
  v66 := Tryz.zeroValue213
  t70 := Tryz.underlying217
  a70 := Tryz.isAgg217
  z70 := Tryz.sizeOf217
  v70 := Tryz.zeroValue217
  t76 := Tryz.underlying238
  a76 := Tryz.isAgg238
  z76 := Tryz.sizeOf238
  v76 := Tryz.zeroValue238
  t77 := Tryz.underlying239
  a77 := Tryz.isAgg239
  z77 := Tryz.sizeOf239
  v77 := Tryz.zeroValue239 }


end Go.Proofs
/-
  THE SHELF's CONTRACTS OF slices.Sort, Compact AND Equal AT []string AT THIS PROGRAM: the tables of numbers, printed in plain words (numbers of this seat).
-/
namespace Go.Proofs
open Go.Shelf Go.RowKit

def Tryz.sortL_ren : Go.Shelf.Ren := ⟨fun | 190 => 43 | 125 => 83 | 258 => 82 | 128 => 138 | 129 => 139 | 302 => 129 | 303 => 130 | 304 => 131 | 305 => 132 | 306 => 133 | 307 => 134 | 308 => 135 | 309 => 136 | 310 => 137 | 333 => 172 | 329 => 173 | 330 => 174 | 334 => 175 | 335 => 176 | 336 => 177 | 344 => 208 | n => n, fun | 31 => 31 | 9 => 9 | 3 => 3 | 46 => 147 | 0 => 0 | 51 => 185 | 53 => 187 | 4 => 4 | 183 => 179 | 182 => 178 | 131 => 127 | 5 => 5 | 218 => 213 | 222 => 217 | 228 => 238 | 229 => 239 | n => n, fun | n => n⟩

theorem Tryz.sortL : Go.Proofs.Lays.n190 Tryz.prog Tryz.sortL_ren := {
  mixed := by kernel_rfl
  f125 := Tryz.func83.trans (congrArg some (by kernel_rfl))
  f128 := Tryz.func138.trans (congrArg some (by kernel_rfl))
  f129 := Tryz.func139.trans (congrArg some (by kernel_rfl))
  f190 := Tryz.func43.trans (congrArg some (by kernel_rfl))
  f258 := Tryz.func82.trans (congrArg some (by kernel_rfl))
  f302 := Tryz.func129.trans (congrArg some (by kernel_rfl))
  f303 := Tryz.func130.trans (congrArg some (by kernel_rfl))
  f304 := Tryz.func131.trans (congrArg some (by kernel_rfl))
  f305 := Tryz.func132.trans (congrArg some (by kernel_rfl))
  f306 := Tryz.func133.trans (congrArg some (by kernel_rfl))
  f307 := Tryz.func134.trans (congrArg some (by kernel_rfl))
  f308 := Tryz.func135.trans (congrArg some (by kernel_rfl))
  f309 := Tryz.func136.trans (congrArg some (by kernel_rfl))
  f310 := Tryz.func137.trans (congrArg some (by kernel_rfl))
  f329 := Tryz.func173.trans (congrArg some (by kernel_rfl))
  f330 := Tryz.func174.trans (congrArg some (by kernel_rfl))
  f333 := Tryz.func172.trans (congrArg some (by kernel_rfl))
  f334 := Tryz.func175.trans (congrArg some (by kernel_rfl))
  f335 := Tryz.func176.trans (congrArg some (by kernel_rfl))
  f336 := Tryz.func177.trans (congrArg some (by kernel_rfl))
  f344 := Tryz.func208.trans (congrArg some (by kernel_rfl))
  t0 := Tryz.underlying0
  a0 := Tryz.isAgg0
  z0 := Tryz.sizeOf0
  v0 := Tryz.zeroValue0
  t3 := Tryz.underlying3
  a3 := Tryz.isAgg3
  z3 := Tryz.sizeOf3
  v3 := Tryz.zeroValue3
  t4 := Tryz.underlying4
  a4 := Tryz.isAgg4
  z4 := Tryz.sizeOf4
  v4 := Tryz.zeroValue4
  t5 := Tryz.underlying5
  a5 := Tryz.isAgg5
  z5 := Tryz.sizeOf5
  v5 := Tryz.zeroValue5
  t9 := Tryz.underlying9
  a9 := Tryz.isAgg9
  z9 := Tryz.sizeOf9
  v9 := Tryz.zeroValue9
  t31 := Tryz.underlying31
  a31 := Tryz.isAgg31
  z31 := Tryz.sizeOf31
  v31 := Tryz.zeroValue31
  t46 := Tryz.underlying147
  a46 := Tryz.isAgg147
  z46 := Tryz.sizeOf147
  v46 := Tryz.zeroValue147
  t51 := Tryz.underlying185
  a51 := Tryz.isAgg185
  z51 := Tryz.sizeOf185
  v51 := Tryz.zeroValue185
  t53 := Tryz.underlying187
  a53 := Tryz.isAgg187
  z53 := Tryz.sizeOf187
  v53 := Tryz.zeroValue187
  t131 := Tryz.underlying127
  a131 := Tryz.isAgg127
  z131 := Tryz.sizeOf127
  v131 := Tryz.zeroValue127
  t182 := Tryz.underlying178
  a182 := Tryz.isAgg178
  z182 := Tryz.sizeOf178
  v182 := Tryz.zeroValue178
  t183 := Tryz.underlying179
  a183 := Tryz.isAgg179
  z183 := Tryz.sizeOf179
  v183 := Tryz.zeroValue179
  t218 := Tryz.underlying213
  a218 := Tryz.isAgg213
  z218 := Tryz.sizeOf213
  v218 := Tryz.zeroValue213
  t222 := Tryz.underlying217
  a222 := Tryz.isAgg217
  z222 := Tryz.sizeOf217
  v222 := Tryz.zeroValue217
  t228 := Tryz.underlying238
  a228 := Tryz.isAgg238
  z228 := Tryz.sizeOf238
  v228 := Tryz.zeroValue238
  t229 := Tryz.underlying239
  a229 := Tryz.isAgg239
  z229 := Tryz.sizeOf239
  v229 := Tryz.zeroValue239 }

def Tryz.compL_ren : Go.Shelf.Ren := ⟨fun | 194 => 44 | n => n, fun | 31 => 31 | 9 => 9 | 3 => 3 | 4 => 4 | 0 => 0 | n => n, fun | n => n⟩

theorem Tryz.compL : Go.Proofs.Lays.n194 Tryz.prog Tryz.compL_ren := {
  mixed := by kernel_rfl
  f194 := Tryz.func44.trans (congrArg some (by kernel_rfl))
  t0 := Tryz.underlying0
  a0 := Tryz.isAgg0
  z0 := Tryz.sizeOf0
  v0 := Tryz.zeroValue0
  t3 := Tryz.underlying3
  a3 := Tryz.isAgg3
  z3 := Tryz.sizeOf3
  v3 := Tryz.zeroValue3
  t4 := Tryz.underlying4
  a4 := Tryz.isAgg4
  z4 := Tryz.sizeOf4
  v4 := Tryz.zeroValue4
  t9 := Tryz.underlying9
  a9 := Tryz.isAgg9
  z9 := Tryz.sizeOf9
  v9 := Tryz.zeroValue9
  t31 := Tryz.underlying31
  a31 := Tryz.isAgg31
  z31 := Tryz.sizeOf31
  v31 := Tryz.zeroValue31 }

def Tryz.eqL_ren : Go.Shelf.Ren := ⟨fun | 193 => 11 | n => n, fun | 31 => 31 | 9 => 9 | 4 => 4 | 3 => 3 | 0 => 0 | n => n, fun | n => n⟩

theorem Tryz.eqL : Go.Proofs.Lays.n193 Tryz.prog Tryz.eqL_ren := {
  mixed := by kernel_rfl
  f193 := Tryz.func11.trans (congrArg some (by kernel_rfl))
  t0 := Tryz.underlying0
  a0 := Tryz.isAgg0
  z0 := Tryz.sizeOf0
  v0 := Tryz.zeroValue0
  t3 := Tryz.underlying3
  a3 := Tryz.isAgg3
  z3 := Tryz.sizeOf3
  v3 := Tryz.zeroValue3
  t4 := Tryz.underlying4
  a4 := Tryz.isAgg4
  z4 := Tryz.sizeOf4
  v4 := Tryz.zeroValue4
  t9 := Tryz.underlying9
  a9 := Tryz.isAgg9
  z9 := Tryz.sizeOf9
  v9 := Tryz.zeroValue9
  t31 := Tryz.underlying31
  a31 := Tryz.isAgg31
  z31 := Tryz.sizeOf31
  v31 := Tryz.zeroValue31 }

end Go.Proofs
