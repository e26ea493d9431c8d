/-
  THE SHELF's CONTRACTS OF strconv.Itoa, strings.Repeat AND OF strings.Builder AT THIS PROGRAM: the tables of numbers, printed in plain words (numbers of this seat).
-/
import Derived.Shelf.Strconv.Itoa3
import Derived.Shelf.Strings.Repeat
import Derived.Test.YtjaoiehjhnmahaaGreatDoorRows
import Derived.Test.YtjaoiehjhnmahaaGreatDoorBlk
set_option linter.all false
namespace Go.Proofs
open Go.Shelf Go.RowKit

def Tryz.itoaL_ren : Go.Shelf.Ren := ⟨fun | 171 => 68 | 243 => 137 | 246 => 179 | 283 => 213 | 284 => 214 | 285 => 215 | 286 => 216 | 129 => 251 | 317 => 250 | 318 => 252 | 319 => 253 | 320 => 254 | 337 => 277 | 338 => 278 | n => n, fun | 3 => 3 | 9 => 9 | 2 => 2 | 4 => 4 | 171 => 264 | 0 => 0 | 53 => 265 | 37 => 44 | 5 => 5 | 173 => 268 | 212 => 306 | 51 => 203 | 20 => 20 | 213 => 307 | 46 => 287 | 232 => 348 | 233 => 349 | n => n, fun | 17 => 5 | 18 => 8 | 19 => 9 | n => n⟩

theorem Tryz.itoaL : Go.Proofs.LaysM.n171 Tryz.prog Tryz.itoaL_ren := {
  mixed := by kernel_rfl
  f129 := Tryz.func251.trans (congrArg some (by kernel_rfl))
  f171 := Tryz.func68.trans (congrArg some (by kernel_rfl))
  f243 := Tryz.func137.trans (congrArg some (by kernel_rfl))
  f246 := Tryz.func179.trans (congrArg some (by kernel_rfl))
  f283 := Tryz.func213.trans (congrArg some (by kernel_rfl))
  f284 := Tryz.func214.trans (congrArg some (by kernel_rfl))
  f285 := Tryz.func215.trans (congrArg some (by kernel_rfl))
  f286 := Tryz.func216.trans (congrArg some (by kernel_rfl))
  f317 := Tryz.func250.trans (congrArg some (by kernel_rfl))
  f318 := Tryz.func252.trans (congrArg some (by kernel_rfl))
  f319 := Tryz.func253.trans (congrArg some (by kernel_rfl))
  f320 := Tryz.func254.trans (congrArg some (by kernel_rfl))
  f337 := Tryz.func277.trans (congrArg some (by kernel_rfl))
  f338 := Tryz.func278.trans (congrArg some (by kernel_rfl))
  t0 := Tryz.underlying0
  a0 := Tryz.isAgg0
  z0 := Tryz.sizeOf0
  v0 := Tryz.zeroValue0
  t2 := Tryz.underlying2
  a2 := Tryz.isAgg2
  z2 := Tryz.sizeOf2
  v2 := Tryz.zeroValue2
  t3 := Tryz.underlying3
  a3 := Tryz.isAgg3
  z3 := Tryz.sizeOf3
  v3 := Tryz.zeroValue3
  t4 := Tryz.underlying4
  a4 := Tryz.isAgg4
  z4 := Tryz.sizeOf4
  v4 := Tryz.zeroValue4
  t5 := Tryz.underlying5
  a5 := Tryz.isAgg5
  z5 := Tryz.sizeOf5
  v5 := Tryz.zeroValue5
  t9 := Tryz.underlying9
  a9 := Tryz.isAgg9
  z9 := Tryz.sizeOf9
  v9 := Tryz.zeroValue9
  t20 := Tryz.underlying20
  a20 := Tryz.isAgg20
  z20 := Tryz.sizeOf20
  v20 := Tryz.zeroValue20
  t37 := Tryz.underlying44
  a37 := Tryz.isAgg44
  z37 := Tryz.sizeOf44
  v37 := Tryz.zeroValue44
  t46 := Tryz.underlying287
  a46 := Tryz.isAgg287
  z46 := Tryz.sizeOf287
  v46 := Tryz.zeroValue287
  t51 := Tryz.underlying203
  a51 := Tryz.isAgg203
  z51 := Tryz.sizeOf203
  v51 := Tryz.zeroValue203
  t53 := Tryz.underlying265
  a53 := Tryz.isAgg265
  z53 := Tryz.sizeOf265
  v53 := Tryz.zeroValue265
  t171 := Tryz.underlying264
  a171 := Tryz.isAgg264
  z171 := Tryz.sizeOf264
  v171 := Tryz.zeroValue264
  t173 := Tryz.underlying268
  a173 := Tryz.isAgg268
  z173 := Tryz.sizeOf268
  v173 := Tryz.zeroValue268
  t212 := Tryz.underlying306
  a212 := Tryz.isAgg306
  z212 := Tryz.sizeOf306
  v212 := Tryz.zeroValue306
  t213 := Tryz.underlying307
  a213 := Tryz.isAgg307
  z213 := Tryz.sizeOf307
  t232 := Tryz.underlying348
  a232 := Tryz.isAgg348
  z232 := Tryz.sizeOf348
  v232 := Tryz.zeroValue348
  t233 := Tryz.underlying349
  a233 := Tryz.isAgg349
  z233 := Tryz.sizeOf349
  v233 := Tryz.zeroValue349
  g17 := by kernel_rfl
  g18 := by kernel_rfl
  g19 := by kernel_rfl
  i0 := by kernel_rfl
  i2 := by kernel_rfl
  i3 := by kernel_rfl
  i4 := by kernel_rfl
  i5 := by kernel_rfl
  i9 := by kernel_rfl
  i20 := by kernel_rfl
  i37 := by kernel_rfl
  i46 := by kernel_rfl
  i51 := by kernel_rfl
  i53 := by kernel_rfl
  i171 := by kernel_rfl
  i173 := by kernel_rfl
  i212 := by kernel_rfl
  i232 := by kernel_rfl
  i233 := by kernel_rfl
  m17 := by kernel_rfl
  m18 := by kernel_rfl
  m19 := by kernel_rfl }

def Tryz.repL_ren : Go.Shelf.Ren := ⟨fun | 105 => 184 | 212 => 225 | 99 => 131 | 165 => 120 | 166 => 19 | 170 => 226 | 169 => 21 | 263 => 262 | 264 => 263 | 206 => 170 | 240 => 67 | 241 => 167 | 276 => 136 | 277 => 204 | n => n, fun | 9 => 9 | 3 => 3 | 4 => 4 | 20 => 20 | 0 => 0 | 46 => 287 | 109 => 288 | 5 => 5 | 72 => 46 | 76 => 54 | 51 => 203 | 146 => 323 | 53 => 265 | 148 => 325 | 70 => 43 | 37 => 44 | 75 => 53 | 127 => 150 | 164 => 198 | 80 => 57 | n => n, fun | n => n⟩

theorem Tryz.repL : Go.Proofs.Lays.n105 Tryz.prog Tryz.repL_ren := {
  mixed := by kernel_rfl
  f99 := Tryz.func131.trans (congrArg some (by kernel_rfl))
  f105 := Tryz.func184.trans (congrArg some (by kernel_rfl))
  f165 := Tryz.func120.trans (congrArg some (by kernel_rfl))
  f166 := Tryz.func19.trans (congrArg some (by kernel_rfl))
  f169 := Tryz.func21.trans (congrArg some (by kernel_rfl))
  f170 := Tryz.func226.trans (congrArg some (by kernel_rfl))
  f206 := Tryz.func170.trans (congrArg some (by kernel_rfl))
  f212 := Tryz.func225.trans (congrArg some (by kernel_rfl))
  f240 := Tryz.func67.trans (congrArg some (by kernel_rfl))
  f241 := Tryz.func167.trans (congrArg some (by kernel_rfl))
  f263 := Tryz.func262.trans (congrArg some (by kernel_rfl))
  f264 := Tryz.func263.trans (congrArg some (by kernel_rfl))
  f276 := Tryz.func136.trans (congrArg some (by kernel_rfl))
  f277 := Tryz.func204.trans (congrArg some (by kernel_rfl))
  t0 := Tryz.underlying0
  a0 := Tryz.isAgg0
  z0 := Tryz.sizeOf0
  v0 := Tryz.zeroValue0
  t3 := Tryz.underlying3
  a3 := Tryz.isAgg3
  z3 := Tryz.sizeOf3
  v3 := Tryz.zeroValue3
  t4 := Tryz.underlying4
  a4 := Tryz.isAgg4
  z4 := Tryz.sizeOf4
  v4 := Tryz.zeroValue4
  t5 := Tryz.underlying5
  a5 := Tryz.isAgg5
  z5 := Tryz.sizeOf5
  v5 := Tryz.zeroValue5
  t9 := Tryz.underlying9
  a9 := Tryz.isAgg9
  z9 := Tryz.sizeOf9
  v9 := Tryz.zeroValue9
  t20 := Tryz.underlying20
  a20 := Tryz.isAgg20
  z20 := Tryz.sizeOf20
  v20 := Tryz.zeroValue20
  t37 := Tryz.underlying44
  a37 := Tryz.isAgg44
  z37 := Tryz.sizeOf44
  v37 := Tryz.zeroValue44
  t46 := Tryz.underlying287
  a46 := Tryz.isAgg287
  z46 := Tryz.sizeOf287
  v46 := Tryz.zeroValue287
  t51 := Tryz.underlying203
  a51 := Tryz.isAgg203
  z51 := Tryz.sizeOf203
  v51 := Tryz.zeroValue203
  t53 := Tryz.underlying265
  a53 := Tryz.isAgg265
  z53 := Tryz.sizeOf265
  v53 := Tryz.zeroValue265
  t70 := Tryz.underlying43
  a70 := Tryz.isAgg43
  z70 := Tryz.sizeOf43
  v70 := Tryz.zeroValue43
  t72 := Tryz.underlying46
  a72 := Tryz.isAgg46
  z72 := Tryz.sizeOf46
  v72 := Tryz.zeroValue46
  t75 := Tryz.underlying53
  a75 := Tryz.isAgg53
  z75 := Tryz.sizeOf53
  v75 := Tryz.zeroValue53
  t76 := Tryz.underlying54
  a76 := Tryz.isAgg54
  z76 := Tryz.sizeOf54
  v76 := Tryz.zeroValue54
  t109 := Tryz.underlying288
  a109 := Tryz.isAgg288
  z109 := Tryz.sizeOf288
  v109 := Tryz.zeroValue288
  t127 := Tryz.underlying150
  a127 := Tryz.isAgg150
  z127 := Tryz.sizeOf150
  v127 := Tryz.zeroValue150
  t146 := Tryz.underlying323
  a146 := Tryz.isAgg323
  z146 := Tryz.sizeOf323
  v146 := Tryz.zeroValue323
  t148 := Tryz.underlying325
  a148 := Tryz.isAgg325
  z148 := Tryz.sizeOf325
  v148 := Tryz.zeroValue325
  t164 := Tryz.underlying198
  a164 := Tryz.isAgg198
  z164 := Tryz.sizeOf198
  v164 := Tryz.zeroValue198 }


theorem Tryz.repX : Builder.Extra Tryz.prog Tryz.repL_ren := {
  sizeBuilder := by kernel_rfl
  liesBuilder := by kernel_rfl
  t5 := by kernel_rfl
  a5 := fun _ => by kernel_rfl
  z5 := fun _ => by kernel_rfl
  v5 := fun _ => by kernel_rfl
  infoByte := by kernel_rfl
  cellsByte := by kernel_rfl
  sizeByte := by kernel_rfl
  neB5 := by decide }

/-- The name of the table of powers of ten, off the row that lists it. -/
def YtjaoiehjhnmahaaGreatDoor.powName : String := match YtjaoiehjhnmahaaGreatDoor.Rows.propChecksRow.laid with
  | _ :: _ :: x :: _ => x.1
  | _ => YtjaoiehjhnmahaaGreatDoor.Rows.propChecksRow.spec

/-- The table of powers of ten is as the program's text lays it. -/
def YtjaoiehjhnmahaaGreatDoor.PowTab (w : World) : Prop := Lib.TabIs Tryz.prog w YtjaoiehjhnmahaaGreatDoor.powName .u64 Lib.pow10Tab

theorem Tryz.itoa_any (n : Int) (h0 : -9223372036854775808 ≤ n) (h1 : n ≤ 9223372036854775807) (w : World) (htab : YtjaoiehjhnmahaaGreatDoor.PowTab w) :
    Calls Tryz.prog 68 #[.int .i64 n] w fun e w' => e = .returned (.string ⟨(Lib.itoa n).toArray⟩) ∧ ∃ os n, w' = YtjaoiehjhnmahaaGreatDoor.plus w os n :=
  (Any.strconv_Itoa Tryz.itoaL n h0 h1 w htab).mono fun _ _ ⟨he, k, os, hw⟩ => ⟨he, os, (w.drewN k).drawn, hw⟩

theorem Tryz.itoa_small (i : Nat) (hi : i < 100) (w : World) :
    Calls Tryz.prog 68 #[.int .i64 i] w fun e w' => e = .returned (.string ⟨(Lib.decDigits i).toArray⟩) ∧ w' = w := Any.strconv_Itoa_small { Tryz.itoaL with } i hi w

theorem Tryz.repeat_zero (s : ByteArray) (w : World) :
    Calls Tryz.prog 184 #[.string s, .int .i64 0] w fun e w' => e = .returned (.string ⟨#[]⟩) ∧ w' = w := Any.strings_Repeat_zero Tryz.repL s w

theorem Tryz.repeat_one (s : ByteArray) (w : World) :
    Calls Tryz.prog 184 #[.string s, .int .i64 1] w fun e w' => e = .returned (.string s) ∧ w' = w := Any.strings_Repeat_one Tryz.repL s w

/-- A builder of the call's own that holds the bytes l. -/
def YtjaoiehjhnmahaaGreatDoor.Bld (w : World) (g : Nat) (l : List UInt8) : Prop := Lib.IsBuilder 46 5 g g (Lib.byteCells l) w

theorem Tryz.bldWrite (g : Nat) (l : List UInt8) (s : ByteArray) (w : World) (h : YtjaoiehjhnmahaaGreatDoor.Bld w g l) (hlen : l.length + s.size ≤ 140737488355328) (hg : g ≤ w.heap.size) :
    Calls Tryz.prog 19 #[.pointer (some ⟨g, 0, none⟩), .string s] w fun e w' => e = .returned (.tuple #[.int .i64 s.size, .nilIface]) ∧ YtjaoiehjhnmahaaGreatDoor.Bld w' g (l ++ s.data.toList) ∧ Below g w w' := by
  refine (Any.Builder_WriteString { Tryz.repL with } Tryz.repX g g (Lib.byteCells l) s w h (by rw [Lib.byteCells_length]; exact hlen) hg).mono ?_
  rintro e w' ⟨he, h1, h2⟩
  refine ⟨he, ?_, h2⟩
  rw [Lib.strCells_eq, ← Lib.byteCells_append] at h1
  exact .inr h1

theorem Tryz.bldLen (g : Nat) (l : List UInt8) (w : World) (h : YtjaoiehjhnmahaaGreatDoor.Bld w g l) :
    Calls Tryz.prog 226 #[.pointer (some ⟨g, 0, none⟩)] w fun e w' => e = .returned (.int .i64 l.length) ∧ w' = w := by
  have := Any.Builder_Len { Tryz.repL with } g g (Lib.byteCells l) w h
  rw [Lib.byteCells_length] at this
  exact this

theorem Tryz.bldString (g : Nat) (l : List UInt8) (w : World) (h : YtjaoiehjhnmahaaGreatDoor.Bld w g l) (hg : g ≤ w.heap.size) :
    Calls Tryz.prog 21 #[.pointer (some ⟨g, 0, none⟩)] w fun e w' => e = .returned (.string ⟨l.toArray⟩) ∧ Below g w w' :=
  Any.Builder_String_any { Tryz.repL with } Tryz.repX g g l w h hg

end Go.Proofs
