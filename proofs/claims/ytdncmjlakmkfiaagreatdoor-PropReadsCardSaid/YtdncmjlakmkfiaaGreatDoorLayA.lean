/-
  THE SHELF's CONTRACTS OF strconv.Itoa, strconv.Itoa AND OF strings.Builder AT THIS PROGRAM: the tables of numbers, printed in plain words (numbers of this seat).
-/
import Derived.Shelf.Strconv.Itoa3
import Derived.Shelf.Strings.OnBuilder
import Derived.Test.YtdncmjlakmkfiaaGreatDoorRows
import Derived.Test.YtdncmjlakmkfiaaGreatDoorInts
import Derived.Shelf.Strings.IndexAnyAll
import Derived.Shelf.Strings.SlTrimAscii
import Derived.Shelf.GgClosure.StringsRunes
set_option linter.all false
namespace Go.Proofs
open Go.Shelf Go.RowKit
def Tryz.itoaL_ren : Go.Shelf.Ren := ⟨fun | 171 => 191 | 243 => 215 | 246 => 223 | 283 => 228 | 284 => 229 | 285 => 230 | 286 => 231 | 129 => 139 | 317 => 233 | 318 => 234 | 319 => 235 | 320 => 236 | 337 => 237 | 338 => 238 | n => n, fun | 3 => 3 | 9 => 9 | 2 => 2 | 4 => 4 | 171 => 265 | 0 => 0 | 53 => 187 | 37 => 157 | 5 => 5 | 173 => 267 | 212 => 270 | 51 => 185 | 20 => 20 | 213 => 271 | 46 => 147 | 232 => 272 | 233 => 273 | n => n, fun | 17 => 5 | 18 => 6 | 19 => 7 | n => n⟩
theorem Tryz.itoaL : Go.Proofs.LaysM.n171 Tryz.prog Tryz.itoaL_ren := {
  mixed := by kernel_rfl
  f129 := Tryz.func139.trans (congrArg some (by kernel_rfl))
  f171 := Tryz.func191.trans (congrArg some (by kernel_rfl))
  f243 := Tryz.func215.trans (congrArg some (by kernel_rfl))
  f246 := Tryz.func223.trans (congrArg some (by kernel_rfl))
  f283 := Tryz.func228.trans (congrArg some (by kernel_rfl))
  f284 := Tryz.func229.trans (congrArg some (by kernel_rfl))
  f285 := Tryz.func230.trans (congrArg some (by kernel_rfl))
  f286 := Tryz.func231.trans (congrArg some (by kernel_rfl))
  f317 := Tryz.func233.trans (congrArg some (by kernel_rfl))
  f318 := Tryz.func234.trans (congrArg some (by kernel_rfl))
  f319 := Tryz.func235.trans (congrArg some (by kernel_rfl))
  f320 := Tryz.func236.trans (congrArg some (by kernel_rfl))
  f337 := Tryz.func237.trans (congrArg some (by kernel_rfl))
  f338 := Tryz.func238.trans (congrArg some (by kernel_rfl))
  t0 := Tryz.underlying0
  a0 := Tryz.isAgg0
  z0 := Tryz.sizeOf0
  v0 := Tryz.zeroValue0
  t2 := Tryz.underlying2
  a2 := Tryz.isAgg2
  z2 := Tryz.sizeOf2
  v2 := Tryz.zeroValue2
  t3 := Tryz.underlying3
  a3 := Tryz.isAgg3
  z3 := Tryz.sizeOf3
  v3 := Tryz.zeroValue3
  t4 := Tryz.underlying4
  a4 := Tryz.isAgg4
  z4 := Tryz.sizeOf4
  v4 := Tryz.zeroValue4
  t5 := Tryz.underlying5
  a5 := Tryz.isAgg5
  z5 := Tryz.sizeOf5
  v5 := Tryz.zeroValue5
  t9 := Tryz.underlying9
  a9 := Tryz.isAgg9
  z9 := Tryz.sizeOf9
  v9 := Tryz.zeroValue9
  t20 := Tryz.underlying20
  a20 := Tryz.isAgg20
  z20 := Tryz.sizeOf20
  v20 := Tryz.zeroValue20
  t37 := Tryz.underlying157
  a37 := Tryz.isAgg157
  z37 := Tryz.sizeOf157
  v37 := Tryz.zeroValue157
  t46 := Tryz.underlying147
  a46 := Tryz.isAgg147
  z46 := Tryz.sizeOf147
  v46 := Tryz.zeroValue147
  t51 := Tryz.underlying185
  a51 := Tryz.isAgg185
  z51 := Tryz.sizeOf185
  v51 := Tryz.zeroValue185
  t53 := Tryz.underlying187
  a53 := Tryz.isAgg187
  z53 := Tryz.sizeOf187
  v53 := Tryz.zeroValue187
  t171 := Tryz.underlying265
  a171 := Tryz.isAgg265
  z171 := Tryz.sizeOf265
  v171 := Tryz.zeroValue265
  t173 := Tryz.underlying267
  a173 := Tryz.isAgg267
  z173 := Tryz.sizeOf267
  v173 := Tryz.zeroValue267
  t212 := Tryz.underlying270
  a212 := Tryz.isAgg270
  z212 := Tryz.sizeOf270
  v212 := Tryz.zeroValue270
  t213 := Tryz.underlying271
  a213 := Tryz.isAgg271
  z213 := Tryz.sizeOf271
  t232 := Tryz.underlying272
  a232 := Tryz.isAgg272
  z232 := Tryz.sizeOf272
  v232 := Tryz.zeroValue272
  t233 := Tryz.underlying273
  a233 := Tryz.isAgg273
  z233 := Tryz.sizeOf273
  v233 := Tryz.zeroValue273
  g17 := by kernel_rfl
  g18 := by kernel_rfl
  g19 := by kernel_rfl
  i0 := by kernel_rfl
  i2 := by kernel_rfl
  i3 := by kernel_rfl
  i4 := by kernel_rfl
  i5 := by kernel_rfl
  i9 := by kernel_rfl
  i20 := by kernel_rfl
  i37 := by kernel_rfl
  i46 := by kernel_rfl
  i51 := by kernel_rfl
  i53 := by kernel_rfl
  i171 := by kernel_rfl
  i173 := by kernel_rfl
  i212 := by kernel_rfl
  i232 := by kernel_rfl
  i233 := by kernel_rfl
  m17 := by kernel_rfl
  m18 := by kernel_rfl
  m19 := by kernel_rfl }
def Tryz.repL_ren : Go.Shelf.Ren := ⟨fun | 169 => 146 | n => n, fun | 70 => 193 | 9 => 9 | 0 => 0 | 72 => 195 | 37 => 157 | 127 => 224 | 3 => 3 | 5 => 5 | n => n, fun | n => n⟩
theorem Tryz.repL : Go.Proofs.Lays.n169 Tryz.prog Tryz.repL_ren := {
  mixed := by kernel_rfl
  f169 := Tryz.func146.trans (congrArg some (by kernel_rfl))
  t0 := Tryz.underlying0
  a0 := Tryz.isAgg0
  z0 := Tryz.sizeOf0
  v0 := Tryz.zeroValue0
  t3 := Tryz.underlying3
  a3 := Tryz.isAgg3
  z3 := Tryz.sizeOf3
  v3 := Tryz.zeroValue3
  t9 := Tryz.underlying9
  a9 := Tryz.isAgg9
  z9 := Tryz.sizeOf9
  v9 := Tryz.zeroValue9
  t37 := Tryz.underlying157
  a37 := Tryz.isAgg157
  z37 := Tryz.sizeOf157
  v37 := Tryz.zeroValue157
  t70 := Tryz.underlying193
  a70 := Tryz.isAgg193
  z70 := Tryz.sizeOf193
  v70 := Tryz.zeroValue193
  t72 := Tryz.underlying195
  a72 := Tryz.isAgg195
  z72 := Tryz.sizeOf195
  v72 := Tryz.zeroValue195
  t127 := Tryz.underlying224
  a127 := Tryz.isAgg224
  z127 := Tryz.sizeOf224
  v127 := Tryz.zeroValue224 }


theorem Tryz.repX : Builder.Extra Tryz.prog Tryz.repL_ren := {
  sizeBuilder := by kernel_rfl
  liesBuilder := by kernel_rfl
  t5 := by kernel_rfl
  a5 := fun _ => by kernel_rfl
  z5 := fun _ => by kernel_rfl
  v5 := fun _ => by kernel_rfl
  infoByte := by kernel_rfl
  cellsByte := by kernel_rfl
  sizeByte := by kernel_rfl
  neB5 := by decide }

/-- The name of the table of powers of ten, off the row that lists it. -/
def YtdncmjlakmkfiaaGreatDoor.powName : String := match YtdncmjlakmkfiaaGreatDoor.Rows.valueReadsRow.laid with
  | _ :: _ :: x :: _ => x.1
  | _ => YtdncmjlakmkfiaaGreatDoor.Rows.valueReadsRow.spec
/-- The table of powers of ten is as the program's text lays it. -/
def YtdncmjlakmkfiaaGreatDoor.PowTab (w : World) : Prop := Lib.TabIs Tryz.prog w YtdncmjlakmkfiaaGreatDoor.powName .u64 Lib.pow10Tab

theorem Tryz.itoa_any (n : Int) (h0 : -9223372036854775808 ≤ n) (h1 : n ≤ 9223372036854775807) (w : World) (htab : YtdncmjlakmkfiaaGreatDoor.PowTab w) :
    Calls Tryz.prog 191 #[.int .i64 n] w fun e w' => e = .returned (.string ⟨(Lib.itoa n).toArray⟩) ∧ ∃ os n, w' = YtdncmjlakmkfiaaGreatDoor.plus w os n :=
  (Any.strconv_Itoa Tryz.itoaL n h0 h1 w htab).mono fun _ _ ⟨he, k, os, hw⟩ => ⟨he, os, (w.drewN k).drawn, hw⟩
theorem Tryz.itoa_small (i : Nat) (hi : i < 100) (w : World) :
    Calls Tryz.prog 191 #[.int .i64 i] w fun e w' => e = .returned (.string ⟨(Lib.decDigits i).toArray⟩) ∧ w' = w := Any.strconv_Itoa_small { Tryz.itoaL with } i hi w

/-- A builder of the call's own that holds the bytes l. -/
def YtdncmjlakmkfiaaGreatDoor.Bld (w : World) (g : Nat) (l : List UInt8) : Prop := Lib.IsBuilder 195 5 g g (Lib.byteCells l) w
theorem Tryz.bldString (g : Nat) (l : List UInt8) (w : World) (h : YtdncmjlakmkfiaaGreatDoor.Bld w g l) (hg : g ≤ w.heap.size) :
    Calls Tryz.prog 146 #[.pointer (some ⟨g, 0, none⟩)] w fun e w' => e = .returned (.string ⟨l.toArray⟩) ∧ Below g w w' :=
  Any.Builder_String_any { Tryz.repL with } Tryz.repX g g l w h hg

end Go.Proofs
/-
  THE SHELF's CONTRACTS OF strings.IndexAny, ContainsAny, Trim AND ContainsFunc AT THIS PROGRAM: the tables of numbers, printed in plain words (numbers of this seat).
-/
namespace Go.Proofs
open Go.Shelf Go.RowKit
def Tryz.idxL_ren : Go.Shelf.Ren := ⟨fun | 153 => 62 | 152 => 106 | 226 => 107 | 227 => 108 | 228 => 109 | 137 => 157 | 119 => 158 | 224 => 155 | 225 => 154 | 217 => 153 | 266 => 192 | n => n, fun | 9 => 9 | 3 => 3 | 4 => 4 | 5 => 5 | 21 => 21 | 117 => 161 | 116 => 160 | 0 => 0 | 46 => 147 | 124 => 174 | n => n, fun | n => n⟩
theorem Tryz.idxL : Go.Proofs.Lays.n153 Tryz.prog Tryz.idxL_ren := {
  mixed := by kernel_rfl
  f119 := Tryz.func158.trans (congrArg some (by kernel_rfl))
  f137 := Tryz.func157.trans (congrArg some (by kernel_rfl))
  f152 := Tryz.func106.trans (congrArg some (by kernel_rfl))
  f153 := Tryz.func62.trans (congrArg some (by kernel_rfl))
  f217 := Tryz.func153.trans (congrArg some (by kernel_rfl))
  f224 := Tryz.func155.trans (congrArg some (by kernel_rfl))
  f225 := Tryz.func154.trans (congrArg some (by kernel_rfl))
  f226 := Tryz.func107.trans (congrArg some (by kernel_rfl))
  f227 := Tryz.func108.trans (congrArg some (by kernel_rfl))
  f228 := Tryz.func109.trans (congrArg some (by kernel_rfl))
  f266 := Tryz.func192.trans (congrArg some (by kernel_rfl))
  t0 := Tryz.underlying0
  a0 := Tryz.isAgg0
  z0 := Tryz.sizeOf0
  v0 := Tryz.zeroValue0
  t3 := Tryz.underlying3
  a3 := Tryz.isAgg3
  z3 := Tryz.sizeOf3
  v3 := Tryz.zeroValue3
  t4 := Tryz.underlying4
  a4 := Tryz.isAgg4
  z4 := Tryz.sizeOf4
  v4 := Tryz.zeroValue4
  t5 := Tryz.underlying5
  a5 := Tryz.isAgg5
  z5 := Tryz.sizeOf5
  v5 := Tryz.zeroValue5
  t9 := Tryz.underlying9
  a9 := Tryz.isAgg9
  z9 := Tryz.sizeOf9
  v9 := Tryz.zeroValue9
  t21 := Tryz.underlying21
  a21 := Tryz.isAgg21
  z21 := Tryz.sizeOf21
  v21 := Tryz.zeroValue21
  t46 := Tryz.underlying147
  a46 := Tryz.isAgg147
  z46 := Tryz.sizeOf147
  v46 := Tryz.zeroValue147
  t116 := Tryz.underlying160
  a116 := Tryz.isAgg160
  z116 := Tryz.sizeOf160
  t117 := Tryz.underlying161
  a117 := Tryz.isAgg161
  z117 := Tryz.sizeOf161
  v117 := Tryz.zeroValue161
  t124 := Tryz.underlying174
  a124 := Tryz.isAgg174
  z124 := Tryz.sizeOf174
  v124 := Tryz.zeroValue174 }
def Tryz.canyL_ren : Go.Shelf.Ren := ⟨fun | 150 => 68 | 153 => 62 | 152 => 106 | 226 => 107 | 227 => 108 | 228 => 109 | 137 => 157 | 119 => 158 | 224 => 155 | 225 => 154 | 217 => 153 | 266 => 192 | n => n, fun | 9 => 9 | 4 => 4 | 3 => 3 | 5 => 5 | 21 => 21 | 117 => 161 | 116 => 160 | 0 => 0 | 46 => 147 | 124 => 174 | n => n, fun | n => n⟩
theorem Tryz.canyL : Go.Proofs.Lays.n150 Tryz.prog Tryz.canyL_ren := {
  mixed := by kernel_rfl
  f119 := Tryz.func158.trans (congrArg some (by kernel_rfl))
  f137 := Tryz.func157.trans (congrArg some (by kernel_rfl))
  f150 := Tryz.func68.trans (congrArg some (by kernel_rfl))
  f152 := Tryz.func106.trans (congrArg some (by kernel_rfl))
  f153 := Tryz.func62.trans (congrArg some (by kernel_rfl))
  f217 := Tryz.func153.trans (congrArg some (by kernel_rfl))
  f224 := Tryz.func155.trans (congrArg some (by kernel_rfl))
  f225 := Tryz.func154.trans (congrArg some (by kernel_rfl))
  f226 := Tryz.func107.trans (congrArg some (by kernel_rfl))
  f227 := Tryz.func108.trans (congrArg some (by kernel_rfl))
  f228 := Tryz.func109.trans (congrArg some (by kernel_rfl))
  f266 := Tryz.func192.trans (congrArg some (by kernel_rfl))
  t0 := Tryz.underlying0
  a0 := Tryz.isAgg0
  z0 := Tryz.sizeOf0
  v0 := Tryz.zeroValue0
  t3 := Tryz.underlying3
  a3 := Tryz.isAgg3
  z3 := Tryz.sizeOf3
  v3 := Tryz.zeroValue3
  t4 := Tryz.underlying4
  a4 := Tryz.isAgg4
  z4 := Tryz.sizeOf4
  v4 := Tryz.zeroValue4
  t5 := Tryz.underlying5
  a5 := Tryz.isAgg5
  z5 := Tryz.sizeOf5
  v5 := Tryz.zeroValue5
  t9 := Tryz.underlying9
  a9 := Tryz.isAgg9
  z9 := Tryz.sizeOf9
  v9 := Tryz.zeroValue9
  t21 := Tryz.underlying21
  a21 := Tryz.isAgg21
  z21 := Tryz.sizeOf21
  v21 := Tryz.zeroValue21
  t46 := Tryz.underlying147
  a46 := Tryz.isAgg147
  z46 := Tryz.sizeOf147
  v46 := Tryz.zeroValue147
  t116 := Tryz.underlying160
  a116 := Tryz.isAgg160
  z116 := Tryz.sizeOf160
  t117 := Tryz.underlying161
  a117 := Tryz.isAgg161
  z117 := Tryz.sizeOf161
  v117 := Tryz.zeroValue161
  t124 := Tryz.underlying174
  a124 := Tryz.isAgg174
  z124 := Tryz.sizeOf174
  v124 := Tryz.zeroValue174 }
def Tryz.trimL_ren : Go.Shelf.Ren := ⟨fun | 160 => 67 | 232 => 118 | 231 => 117 | 227 => 108 | 234 => 120 | 233 => 119 | 236 => 122 | 235 => 121 | 228 => 109 | 271 => 169 | 151 => 168 | 197 => 167 | 120 => 207 | 152 => 106 | 260 => 206 | 137 => 157 | 119 => 158 | 224 => 155 | 225 => 154 | 217 => 153 | 266 => 192 | n => n, fun | 9 => 9 | 4 => 4 | 3 => 3 | 5 => 5 | 117 => 161 | 116 => 160 | 0 => 0 | 124 => 174 | 21 => 21 | 105 => 210 | 46 => 147 | 119 => 252 | 139 => 255 | 138 => 254 | n => n, fun | 3 => 3 | 4 => 4 | n => n⟩
theorem Tryz.trimL : Go.Proofs.Lays.n160 Tryz.prog Tryz.trimL_ren := {
  mixed := by kernel_rfl
  f119 := Tryz.func158.trans (congrArg some (by kernel_rfl))
  f120 := Tryz.func207.trans (congrArg some (by kernel_rfl))
  f137 := Tryz.func157.trans (congrArg some (by kernel_rfl))
  f151 := Tryz.func168.trans (congrArg some (by kernel_rfl))
  f152 := Tryz.func106.trans (congrArg some (by kernel_rfl))
  f160 := Tryz.func67.trans (congrArg some (by kernel_rfl))
  f197 := Tryz.func167.trans (congrArg some (by kernel_rfl))
  f217 := Tryz.func153.trans (congrArg some (by kernel_rfl))
  f224 := Tryz.func155.trans (congrArg some (by kernel_rfl))
  f225 := Tryz.func154.trans (congrArg some (by kernel_rfl))
  f227 := Tryz.func108.trans (congrArg some (by kernel_rfl))
  f228 := Tryz.func109.trans (congrArg some (by kernel_rfl))
  f231 := Tryz.func117.trans (congrArg some (by kernel_rfl))
  f232 := Tryz.func118.trans (congrArg some (by kernel_rfl))
  f233 := Tryz.func119.trans (congrArg some (by kernel_rfl))
  f234 := Tryz.func120.trans (congrArg some (by kernel_rfl))
  f235 := Tryz.func121.trans (congrArg some (by kernel_rfl))
  f236 := Tryz.func122.trans (congrArg some (by kernel_rfl))
  f260 := Tryz.func206.trans (congrArg some (by kernel_rfl))
  f266 := Tryz.func192.trans (congrArg some (by kernel_rfl))
  f271 := Tryz.func169.trans (congrArg some (by kernel_rfl))
  t0 := Tryz.underlying0
  a0 := Tryz.isAgg0
  z0 := Tryz.sizeOf0
  v0 := Tryz.zeroValue0
  t3 := Tryz.underlying3
  a3 := Tryz.isAgg3
  z3 := Tryz.sizeOf3
  v3 := Tryz.zeroValue3
  t4 := Tryz.underlying4
  a4 := Tryz.isAgg4
  z4 := Tryz.sizeOf4
  v4 := Tryz.zeroValue4
  t5 := Tryz.underlying5
  a5 := Tryz.isAgg5
  z5 := Tryz.sizeOf5
  v5 := Tryz.zeroValue5
  t9 := Tryz.underlying9
  a9 := Tryz.isAgg9
  z9 := Tryz.sizeOf9
  v9 := Tryz.zeroValue9
  t21 := Tryz.underlying21
  a21 := Tryz.isAgg21
  z21 := Tryz.sizeOf21
  v21 := Tryz.zeroValue21
  t46 := Tryz.underlying147
  a46 := Tryz.isAgg147
  z46 := Tryz.sizeOf147
  v46 := Tryz.zeroValue147
  t105 := Tryz.underlying210
  a105 := Tryz.isAgg210
  z105 := Tryz.sizeOf210
  v105 := Tryz.zeroValue210
  t116 := Tryz.underlying160
  a116 := Tryz.isAgg160
  z116 := Tryz.sizeOf160
  t117 := Tryz.underlying161
  a117 := Tryz.isAgg161
  z117 := Tryz.sizeOf161
  v117 := Tryz.zeroValue161
  t119 := Tryz.underlying252
  a119 := Tryz.isAgg252
  z119 := Tryz.sizeOf252
  t124 := Tryz.underlying174
  a124 := Tryz.isAgg174
  z124 := Tryz.sizeOf174
  v124 := Tryz.zeroValue174
  t138 := Tryz.underlying254
  a138 := Tryz.isAgg254
  z138 := Tryz.sizeOf254
  v138 := Tryz.zeroValue254
  t139 := Tryz.underlying255
  a139 := Tryz.isAgg255
  z139 := Tryz.sizeOf255
  v139 := Tryz.zeroValue255
  g3 := by kernel_rfl
  g4 := by kernel_rfl }
def Tryz.cfunL_ren : Go.Shelf.Ren := ⟨fun | 17 => 115 | 15 => 166 | 20 => 205 | n => n, fun | 9 => 9 | 23 => 171 | 4 => 4 | 3 => 3 | 0 => 0 | 21 => 21 | n => n, fun | n => n⟩
theorem Tryz.cfunL : Go.Proofs.LaysGw.n17 Tryz.prog Tryz.cfunL_ren := {
  mixed := by kernel_rfl
  f15 := Tryz.func166.trans (congrArg some (by kernel_rfl))
  f17 := Tryz.func115.trans (congrArg some (by kernel_rfl))
  f20 := Tryz.func205.trans (congrArg some (by kernel_rfl))
  t0 := Tryz.underlying0
  a0 := Tryz.isAgg0
  z0 := Tryz.sizeOf0
  v0 := Tryz.zeroValue0
  i0 := by kernel_rfl
  t3 := Tryz.underlying3
  a3 := Tryz.isAgg3
  z3 := Tryz.sizeOf3
  v3 := Tryz.zeroValue3
  i3 := by kernel_rfl
  t4 := Tryz.underlying4
  a4 := Tryz.isAgg4
  z4 := Tryz.sizeOf4
  v4 := Tryz.zeroValue4
  i4 := by kernel_rfl
  t9 := Tryz.underlying9
  a9 := Tryz.isAgg9
  z9 := Tryz.sizeOf9
  v9 := Tryz.zeroValue9
  i9 := by kernel_rfl
  t21 := Tryz.underlying21
  a21 := Tryz.isAgg21
  z21 := Tryz.sizeOf21
  v21 := Tryz.zeroValue21
  i21 := by kernel_rfl
  t23 := Tryz.underlying171
  a23 := Tryz.isAgg171
  z23 := Tryz.sizeOf171
  v23 := Tryz.zeroValue171
  i23 := by kernel_rfl }

end Go.Proofs
