/-
  THE SHELF's CONTRACTS OF strconv.Itoa AND strings.Repeat AT THIS PROGRAM: the tables of numbers, printed in plain words (numbers of this seat).
-/
import Derived.Shelf.Strconv.Itoa3
import Derived.Shelf.Strings.Repeat
import Derived.Test.YtfklaahakibljaaDoorRows
import Derived.Test.YtfklaahakibljaaDoorBlk
namespace Go.Proofs
open Go.Shelf
def Tryd.itoaL_ren : Go.Shelf.Ren := ⟨fun | 171 => 43 | 243 => 100 | 246 => 131 | 283 => 153 | 284 => 154 | 285 => 155 | 286 => 156 | 129 => 170 | 317 => 169 | 318 => 171 | 319 => 172 | 320 => 173 | 337 => 182 | 338 => 183 | n => n, fun | 3 => 3 | 9 => 9 | 2 => 2 | 4 => 4 | 171 => 214 | 0 => 0 | 53 => 211 | 37 => 76 | 5 => 5 | 173 => 217 | 212 => 227 | 51 => 208 | 20 => 20 | 213 => 228 | 46 => 190 | 232 => 237 | 233 => 238 | n => n, fun | 17 => 3 | 18 => 6 | 19 => 7 | n => n⟩
theorem Tryd.itoaL : Go.Proofs.LaysM.n171 Tryd.prog Tryd.itoaL_ren := {
  mixed := by kernel_rfl
  f129 := Tryd.func170.trans (congrArg some (by kernel_rfl))
  f171 := Tryd.func43.trans (congrArg some (by kernel_rfl))
  f243 := Tryd.func100.trans (congrArg some (by kernel_rfl))
  f246 := Tryd.func131.trans (congrArg some (by kernel_rfl))
  f283 := Tryd.func153.trans (congrArg some (by kernel_rfl))
  f284 := Tryd.func154.trans (congrArg some (by kernel_rfl))
  f285 := Tryd.func155.trans (congrArg some (by kernel_rfl))
  f286 := Tryd.func156.trans (congrArg some (by kernel_rfl))
  f317 := Tryd.func169.trans (congrArg some (by kernel_rfl))
  f318 := Tryd.func171.trans (congrArg some (by kernel_rfl))
  f319 := Tryd.func172.trans (congrArg some (by kernel_rfl))
  f320 := Tryd.func173.trans (congrArg some (by kernel_rfl))
  f337 := Tryd.func182.trans (congrArg some (by kernel_rfl))
  f338 := Tryd.func183.trans (congrArg some (by kernel_rfl))
  t0 := Tryd.underlying0
  a0 := Tryd.isAgg0
  z0 := Tryd.sizeOf0
  v0 := Tryd.zeroValue0
  t2 := Tryd.underlying2
  a2 := Tryd.isAgg2
  z2 := Tryd.sizeOf2
  v2 := Tryd.zeroValue2
  t3 := Tryd.underlying3
  a3 := Tryd.isAgg3
  z3 := Tryd.sizeOf3
  v3 := Tryd.zeroValue3
  t4 := Tryd.underlying4
  a4 := Tryd.isAgg4
  z4 := Tryd.sizeOf4
  v4 := Tryd.zeroValue4
  t5 := Tryd.underlying5
  a5 := Tryd.isAgg5
  z5 := Tryd.sizeOf5
  v5 := Tryd.zeroValue5
  t9 := Tryd.underlying9
  a9 := Tryd.isAgg9
  z9 := Tryd.sizeOf9
  v9 := Tryd.zeroValue9
  t20 := Tryd.underlying20
  a20 := Tryd.isAgg20
  z20 := Tryd.sizeOf20
  v20 := Tryd.zeroValue20
  t37 := Tryd.underlying76
  a37 := Tryd.isAgg76
  z37 := Tryd.sizeOf76
  v37 := Tryd.zeroValue76
  t46 := Tryd.underlying190
  a46 := Tryd.isAgg190
  z46 := Tryd.sizeOf190
  v46 := Tryd.zeroValue190
  t51 := Tryd.underlying208
  a51 := Tryd.isAgg208
  z51 := Tryd.sizeOf208
  v51 := Tryd.zeroValue208
  t53 := Tryd.underlying211
  a53 := Tryd.isAgg211
  z53 := Tryd.sizeOf211
  v53 := Tryd.zeroValue211
  t171 := Tryd.underlying214
  a171 := Tryd.isAgg214
  z171 := Tryd.sizeOf214
  v171 := Tryd.zeroValue214
  t173 := Tryd.underlying217
  a173 := Tryd.isAgg217
  z173 := Tryd.sizeOf217
  v173 := Tryd.zeroValue217
  t212 := Tryd.underlying227
  a212 := Tryd.isAgg227
  z212 := Tryd.sizeOf227
  v212 := Tryd.zeroValue227
  t213 := Tryd.underlying228
  a213 := Tryd.isAgg228
  z213 := Tryd.sizeOf228
  t232 := Tryd.underlying237
  a232 := Tryd.isAgg237
  z232 := Tryd.sizeOf237
  v232 := Tryd.zeroValue237
  t233 := Tryd.underlying238
  a233 := Tryd.isAgg238
  z233 := Tryd.sizeOf238
  v233 := Tryd.zeroValue238
  g17 := by kernel_rfl
  g18 := by kernel_rfl
  g19 := by kernel_rfl
  i0 := by kernel_rfl
  i2 := by kernel_rfl
  i3 := by kernel_rfl
  i4 := by kernel_rfl
  i5 := by kernel_rfl
  i9 := by kernel_rfl
  i20 := by kernel_rfl
  i37 := by kernel_rfl
  i46 := by kernel_rfl
  i51 := by kernel_rfl
  i53 := by kernel_rfl
  i171 := by kernel_rfl
  i173 := by kernel_rfl
  i212 := by kernel_rfl
  i232 := by kernel_rfl
  i233 := by kernel_rfl
  m17 := by kernel_rfl
  m18 := by kernel_rfl
  m19 := by kernel_rfl }
def Tryd.repL_ren : Go.Shelf.Ren := ⟨fun | 105 => 96 | 212 => 127 | 99 => 128 | 165 => 129 | 166 => 42 | 170 => 48 | 169 => 49 | 263 => 149 | 264 => 150 | 206 => 151 | 240 => 99 | 241 => 152 | 276 => 130 | 277 => 168 | n => n, fun | 9 => 9 | 3 => 3 | 4 => 4 | 20 => 20 | 0 => 0 | 46 => 190 | 109 => 191 | 5 => 5 | 72 => 78 | 76 => 81 | 51 => 208 | 146 => 209 | 53 => 211 | 148 => 212 | 70 => 75 | 37 => 76 | 75 => 80 | 127 => 165 | 164 => 194 | 80 => 86 | n => n, fun | n => n⟩
theorem Tryd.repL : Go.Proofs.Lays.n105 Tryd.prog Tryd.repL_ren := {
  mixed := by kernel_rfl
  f99 := Tryd.func128.trans (congrArg some (by kernel_rfl))
  f105 := Tryd.func96.trans (congrArg some (by kernel_rfl))
  f165 := Tryd.func129.trans (congrArg some (by kernel_rfl))
  f166 := Tryd.func42.trans (congrArg some (by kernel_rfl))
  f169 := Tryd.func49.trans (congrArg some (by kernel_rfl))
  f170 := Tryd.func48.trans (congrArg some (by kernel_rfl))
  f206 := Tryd.func151.trans (congrArg some (by kernel_rfl))
  f212 := Tryd.func127.trans (congrArg some (by kernel_rfl))
  f240 := Tryd.func99.trans (congrArg some (by kernel_rfl))
  f241 := Tryd.func152.trans (congrArg some (by kernel_rfl))
  f263 := Tryd.func149.trans (congrArg some (by kernel_rfl))
  f264 := Tryd.func150.trans (congrArg some (by kernel_rfl))
  f276 := Tryd.func130.trans (congrArg some (by kernel_rfl))
  f277 := Tryd.func168.trans (congrArg some (by kernel_rfl))
  t0 := Tryd.underlying0
  a0 := Tryd.isAgg0
  z0 := Tryd.sizeOf0
  v0 := Tryd.zeroValue0
  t3 := Tryd.underlying3
  a3 := Tryd.isAgg3
  z3 := Tryd.sizeOf3
  v3 := Tryd.zeroValue3
  t4 := Tryd.underlying4
  a4 := Tryd.isAgg4
  z4 := Tryd.sizeOf4
  v4 := Tryd.zeroValue4
  t5 := Tryd.underlying5
  a5 := Tryd.isAgg5
  z5 := Tryd.sizeOf5
  v5 := Tryd.zeroValue5
  t9 := Tryd.underlying9
  a9 := Tryd.isAgg9
  z9 := Tryd.sizeOf9
  v9 := Tryd.zeroValue9
  t20 := Tryd.underlying20
  a20 := Tryd.isAgg20
  z20 := Tryd.sizeOf20
  v20 := Tryd.zeroValue20
  t37 := Tryd.underlying76
  a37 := Tryd.isAgg76
  z37 := Tryd.sizeOf76
  v37 := Tryd.zeroValue76
  t46 := Tryd.underlying190
  a46 := Tryd.isAgg190
  z46 := Tryd.sizeOf190
  v46 := Tryd.zeroValue190
  t51 := Tryd.underlying208
  a51 := Tryd.isAgg208
  z51 := Tryd.sizeOf208
  v51 := Tryd.zeroValue208
  t53 := Tryd.underlying211
  a53 := Tryd.isAgg211
  z53 := Tryd.sizeOf211
  v53 := Tryd.zeroValue211
  t70 := Tryd.underlying75
  a70 := Tryd.isAgg75
  z70 := Tryd.sizeOf75
  v70 := Tryd.zeroValue75
  t72 := Tryd.underlying78
  a72 := Tryd.isAgg78
  z72 := Tryd.sizeOf78
  v72 := Tryd.zeroValue78
  t75 := Tryd.underlying80
  a75 := Tryd.isAgg80
  z75 := Tryd.sizeOf80
  v75 := Tryd.zeroValue80
  t76 := Tryd.underlying81
  a76 := Tryd.isAgg81
  z76 := Tryd.sizeOf81
  v76 := Tryd.zeroValue81
  t109 := Tryd.underlying191
  a109 := Tryd.isAgg191
  z109 := Tryd.sizeOf191
  v109 := Tryd.zeroValue191
  t127 := Tryd.underlying165
  a127 := Tryd.isAgg165
  z127 := Tryd.sizeOf165
  v127 := Tryd.zeroValue165
  t146 := Tryd.underlying209
  a146 := Tryd.isAgg209
  z146 := Tryd.sizeOf209
  v146 := Tryd.zeroValue209
  t148 := Tryd.underlying212
  a148 := Tryd.isAgg212
  z148 := Tryd.sizeOf212
  v148 := Tryd.zeroValue212
  t164 := Tryd.underlying194
  a164 := Tryd.isAgg194
  z164 := Tryd.sizeOf194
  v164 := Tryd.zeroValue194 }


/-- The name of the table of powers of ten, off the row that lists it. -/
def YtfklaahakibljaaDoor.powName : String := match YtfklaahakibljaaDoor.Rows.dayCountsRow.laid with
  | [_, _, x] => x.1
  | _ => YtfklaahakibljaaDoor.Rows.dayCountsRow.spec
/-- The table of powers of ten is as the program's text lays it. -/
def YtfklaahakibljaaDoor.PowTab (w : World) : Prop := Lib.TabIs Tryd.prog w YtfklaahakibljaaDoor.powName .u64 Lib.pow10Tab

theorem Tryd.itoa_any (n : Int) (h0 : -9223372036854775808 ≤ n) (h1 : n ≤ 9223372036854775807) (w : World) (htab : YtfklaahakibljaaDoor.PowTab w) :
    Calls Tryd.prog 43 #[.int .i64 n] w fun e w' => e = .returned (.string ⟨(Lib.itoa n).toArray⟩) ∧ ∃ os n, w' = YtfklaahakibljaaDoor.plus w os n :=
  (Any.strconv_Itoa Tryd.itoaL n h0 h1 w htab).mono fun _ _ ⟨he, k, os, hw⟩ => ⟨he, os, (w.drewN k).drawn, hw⟩
theorem Tryd.itoa_small (i : Nat) (hi : i < 100) (w : World) :
    Calls Tryd.prog 43 #[.int .i64 i] w fun e w' => e = .returned (.string ⟨(Lib.decDigits i).toArray⟩) ∧ w' = w := Any.strconv_Itoa_small { Tryd.itoaL with } i hi w
theorem Tryd.repeat_zero (s : ByteArray) (w : World) :
    Calls Tryd.prog 96 #[.string s, .int .i64 0] w fun e w' => e = .returned (.string ⟨#[]⟩) ∧ w' = w := Any.strings_Repeat_zero Tryd.repL s w
theorem Tryd.repeat_one (s : ByteArray) (w : World) :
    Calls Tryd.prog 96 #[.string s, .int .i64 1] w fun e w' => e = .returned (.string s) ∧ w' = w := Any.strings_Repeat_one Tryd.repL s w

end Go.Proofs
