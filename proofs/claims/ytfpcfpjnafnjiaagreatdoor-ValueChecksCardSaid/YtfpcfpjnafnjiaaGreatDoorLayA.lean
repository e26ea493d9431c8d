/-
  THE SHELF's CONTRACTS OF strconv.Itoa, strings.Repeat AND OF strings.Builder AT THIS PROGRAM: the tables of numbers, printed in plain words (numbers of this seat).
-/
import Derived.Shelf.Strconv.Itoa3
import Derived.Shelf.Strings.Repeat
import Derived.Test.YtfpcfpjnafnjiaaGreatDoorRows
import Derived.Test.YtfpcfpjnafnjiaaGreatDoorInts
set_option linter.all false
namespace Go.Proofs
open Go.Shelf Go.RowKit
def Tryz.itoaL_ren : Go.Shelf.Ren := ⟨fun | 171 => 33 | 243 => 107 | 246 => 191 | 283 => 257 | 284 => 258 | 285 => 259 | 286 => 260 | 129 => 241 | 317 => 311 | 318 => 312 | 319 => 313 | 320 => 314 | 337 => 346 | 338 => 347 | n => n, fun | 3 => 3 | 9 => 9 | 2 => 2 | 4 => 4 | 171 => 299 | 0 => 0 | 53 => 290 | 37 => 65 | 5 => 5 | 173 => 301 | 212 => 350 | 51 => 184 | 20 => 20 | 213 => 351 | 46 => 244 | 232 => 403 | 233 => 404 | n => n, fun | 17 => 5 | 18 => 8 | 19 => 9 | n => n⟩
theorem Tryz.itoaL : Go.Proofs.LaysM.n171 Tryz.prog Tryz.itoaL_ren := {
  mixed := by kernel_rfl
  f129 := Tryz.func241.trans (congrArg some (by kernel_rfl))
  f171 := Tryz.func33.trans (congrArg some (by kernel_rfl))
  f243 := Tryz.func107.trans (congrArg some (by kernel_rfl))
  f246 := Tryz.func191.trans (congrArg some (by kernel_rfl))
  f283 := Tryz.func257.trans (congrArg some (by kernel_rfl))
  f284 := Tryz.func258.trans (congrArg some (by kernel_rfl))
  f285 := Tryz.func259.trans (congrArg some (by kernel_rfl))
  f286 := Tryz.func260.trans (congrArg some (by kernel_rfl))
  f317 := Tryz.func311.trans (congrArg some (by kernel_rfl))
  f318 := Tryz.func312.trans (congrArg some (by kernel_rfl))
  f319 := Tryz.func313.trans (congrArg some (by kernel_rfl))
  f320 := Tryz.func314.trans (congrArg some (by kernel_rfl))
  f337 := Tryz.func346.trans (congrArg some (by kernel_rfl))
  f338 := Tryz.func347.trans (congrArg some (by kernel_rfl))
  t0 := Tryz.underlying0
  a0 := Tryz.isAgg0
  z0 := Tryz.sizeOf0
  v0 := Tryz.zeroValue0
  t2 := Tryz.underlying2
  a2 := Tryz.isAgg2
  z2 := Tryz.sizeOf2
  v2 := Tryz.zeroValue2
  t3 := Tryz.underlying3
  a3 := Tryz.isAgg3
  z3 := Tryz.sizeOf3
  v3 := Tryz.zeroValue3
  t4 := Tryz.underlying4
  a4 := Tryz.isAgg4
  z4 := Tryz.sizeOf4
  v4 := Tryz.zeroValue4
  t5 := Tryz.underlying5
  a5 := Tryz.isAgg5
  z5 := Tryz.sizeOf5
  v5 := Tryz.zeroValue5
  t9 := Tryz.underlying9
  a9 := Tryz.isAgg9
  z9 := Tryz.sizeOf9
  v9 := Tryz.zeroValue9
  t20 := Tryz.underlying20
  a20 := Tryz.isAgg20
  z20 := Tryz.sizeOf20
  v20 := Tryz.zeroValue20
  t37 := Tryz.underlying65
  a37 := Tryz.isAgg65
  z37 := Tryz.sizeOf65
  v37 := Tryz.zeroValue65
  t46 := Tryz.underlying244
  a46 := Tryz.isAgg244
  z46 := Tryz.sizeOf244
  v46 := Tryz.zeroValue244
  t51 := Tryz.underlying184
  a51 := Tryz.isAgg184
  z51 := Tryz.sizeOf184
  v51 := Tryz.zeroValue184
  t53 := Tryz.underlying290
  a53 := Tryz.isAgg290
  z53 := Tryz.sizeOf290
  v53 := Tryz.zeroValue290
  t171 := Tryz.underlying299
  a171 := Tryz.isAgg299
  z171 := Tryz.sizeOf299
  v171 := Tryz.zeroValue299
  t173 := Tryz.underlying301
  a173 := Tryz.isAgg301
  z173 := Tryz.sizeOf301
  v173 := Tryz.zeroValue301
  t212 := Tryz.underlying350
  a212 := Tryz.isAgg350
  z212 := Tryz.sizeOf350
  v212 := Tryz.zeroValue350
  t213 := Tryz.underlying351
  a213 := Tryz.isAgg351
  z213 := Tryz.sizeOf351
  t232 := Tryz.underlying403
  a232 := Tryz.isAgg403
  z232 := Tryz.sizeOf403
  v232 := Tryz.zeroValue403
  t233 := Tryz.underlying404
  a233 := Tryz.isAgg404
  z233 := Tryz.sizeOf404
  v233 := Tryz.zeroValue404
  g17 := by kernel_rfl
  g18 := by kernel_rfl
  g19 := by kernel_rfl
  i0 := by kernel_rfl
  i2 := by kernel_rfl
  i3 := by kernel_rfl
  i4 := by kernel_rfl
  i5 := by kernel_rfl
  i9 := by kernel_rfl
  i20 := by kernel_rfl
  i37 := by kernel_rfl
  i46 := by kernel_rfl
  i51 := by kernel_rfl
  i53 := by kernel_rfl
  i171 := by kernel_rfl
  i173 := by kernel_rfl
  i212 := by kernel_rfl
  i232 := by kernel_rfl
  i233 := by kernel_rfl
  m17 := by kernel_rfl
  m18 := by kernel_rfl
  m19 := by kernel_rfl }
def Tryz.repL_ren : Go.Shelf.Ren := ⟨fun | 105 => 256 | 212 => 309 | 99 => 157 | 165 => 112 | 166 => 42 | 170 => 310 | 169 => 43 | 263 => 344 | 264 => 345 | 206 => 216 | 240 => 114 | 241 => 196 | 276 => 198 | 277 => 267 | n => n, fun | 9 => 9 | 3 => 3 | 4 => 4 | 20 => 20 | 0 => 0 | 46 => 244 | 109 => 347 | 5 => 5 | 72 => 67 | 76 => 72 | 51 => 184 | 146 => 382 | 53 => 290 | 148 => 384 | 70 => 64 | 37 => 65 | 75 => 71 | 127 => 203 | 164 => 265 | 80 => 74 | n => n, fun | n => n⟩
theorem Tryz.repL : Go.Proofs.Lays.n105 Tryz.prog Tryz.repL_ren := {
  mixed := by kernel_rfl
  f99 := Tryz.func157.trans (congrArg some (by kernel_rfl))
  f105 := Tryz.func256.trans (congrArg some (by kernel_rfl))
  f165 := Tryz.func112.trans (congrArg some (by kernel_rfl))
  f166 := Tryz.func42.trans (congrArg some (by kernel_rfl))
  f169 := Tryz.func43.trans (congrArg some (by kernel_rfl))
  f170 := Tryz.func310.trans (congrArg some (by kernel_rfl))
  f206 := Tryz.func216.trans (congrArg some (by kernel_rfl))
  f212 := Tryz.func309.trans (congrArg some (by kernel_rfl))
  f240 := Tryz.func114.trans (congrArg some (by kernel_rfl))
  f241 := Tryz.func196.trans (congrArg some (by kernel_rfl))
  f263 := Tryz.func344.trans (congrArg some (by kernel_rfl))
  f264 := Tryz.func345.trans (congrArg some (by kernel_rfl))
  f276 := Tryz.func198.trans (congrArg some (by kernel_rfl))
  f277 := Tryz.func267.trans (congrArg some (by kernel_rfl))
  t0 := Tryz.underlying0
  a0 := Tryz.isAgg0
  z0 := Tryz.sizeOf0
  v0 := Tryz.zeroValue0
  t3 := Tryz.underlying3
  a3 := Tryz.isAgg3
  z3 := Tryz.sizeOf3
  v3 := Tryz.zeroValue3
  t4 := Tryz.underlying4
  a4 := Tryz.isAgg4
  z4 := Tryz.sizeOf4
  v4 := Tryz.zeroValue4
  t5 := Tryz.underlying5
  a5 := Tryz.isAgg5
  z5 := Tryz.sizeOf5
  v5 := Tryz.zeroValue5
  t9 := Tryz.underlying9
  a9 := Tryz.isAgg9
  z9 := Tryz.sizeOf9
  v9 := Tryz.zeroValue9
  t20 := Tryz.underlying20
  a20 := Tryz.isAgg20
  z20 := Tryz.sizeOf20
  v20 := Tryz.zeroValue20
  t37 := Tryz.underlying65
  a37 := Tryz.isAgg65
  z37 := Tryz.sizeOf65
  v37 := Tryz.zeroValue65
  t46 := Tryz.underlying244
  a46 := Tryz.isAgg244
  z46 := Tryz.sizeOf244
  v46 := Tryz.zeroValue244
  t51 := Tryz.underlying184
  a51 := Tryz.isAgg184
  z51 := Tryz.sizeOf184
  v51 := Tryz.zeroValue184
  t53 := Tryz.underlying290
  a53 := Tryz.isAgg290
  z53 := Tryz.sizeOf290
  v53 := Tryz.zeroValue290
  t70 := Tryz.underlying64
  a70 := Tryz.isAgg64
  z70 := Tryz.sizeOf64
  v70 := Tryz.zeroValue64
  t72 := Tryz.underlying67
  a72 := Tryz.isAgg67
  z72 := Tryz.sizeOf67
  v72 := Tryz.zeroValue67
  t75 := Tryz.underlying71
  a75 := Tryz.isAgg71
  z75 := Tryz.sizeOf71
  v75 := Tryz.zeroValue71
  t76 := Tryz.underlying72
  a76 := Tryz.isAgg72
  z76 := Tryz.sizeOf72
  v76 := Tryz.zeroValue72
  t109 := Tryz.underlying347
  a109 := Tryz.isAgg347
  z109 := Tryz.sizeOf347
  v109 := Tryz.zeroValue347
  t127 := Tryz.underlying203
  a127 := Tryz.isAgg203
  z127 := Tryz.sizeOf203
  v127 := Tryz.zeroValue203
  t146 := Tryz.underlying382
  a146 := Tryz.isAgg382
  z146 := Tryz.sizeOf382
  v146 := Tryz.zeroValue382
  t148 := Tryz.underlying384
  a148 := Tryz.isAgg384
  z148 := Tryz.sizeOf384
  v148 := Tryz.zeroValue384
  t164 := Tryz.underlying265
  a164 := Tryz.isAgg265
  z164 := Tryz.sizeOf265
  v164 := Tryz.zeroValue265 }


theorem Tryz.repX : Builder.Extra Tryz.prog Tryz.repL_ren := {
  sizeBuilder := by kernel_rfl
  liesBuilder := by kernel_rfl
  t5 := by kernel_rfl
  a5 := fun _ => by kernel_rfl
  z5 := fun _ => by kernel_rfl
  v5 := fun _ => by kernel_rfl
  infoByte := by kernel_rfl
  cellsByte := by kernel_rfl
  sizeByte := by kernel_rfl
  neB5 := by decide }

/-- The name of the table of powers of ten, off the row that lists it. -/
def YtfpcfpjnafnjiaaGreatDoor.powName : String := match YtfpcfpjnafnjiaaGreatDoor.Rows.valueChecksRow.laid with
  | _ :: _ :: x :: _ => x.1
  | _ => YtfpcfpjnafnjiaaGreatDoor.Rows.valueChecksRow.spec
/-- The table of powers of ten is as the program's text lays it. -/
def YtfpcfpjnafnjiaaGreatDoor.PowTab (w : World) : Prop := Lib.TabIs Tryz.prog w YtfpcfpjnafnjiaaGreatDoor.powName .u64 Lib.pow10Tab

theorem Tryz.itoa_any (n : Int) (h0 : -9223372036854775808 ≤ n) (h1 : n ≤ 9223372036854775807) (w : World) (htab : YtfpcfpjnafnjiaaGreatDoor.PowTab w) :
    Calls Tryz.prog 33 #[.int .i64 n] w fun e w' => e = .returned (.string ⟨(Lib.itoa n).toArray⟩) ∧ ∃ os n, w' = YtfpcfpjnafnjiaaGreatDoor.plus w os n :=
  (Any.strconv_Itoa Tryz.itoaL n h0 h1 w htab).mono fun _ _ ⟨he, k, os, hw⟩ => ⟨he, os, (w.drewN k).drawn, hw⟩
theorem Tryz.itoa_small (i : Nat) (hi : i < 100) (w : World) :
    Calls Tryz.prog 33 #[.int .i64 i] w fun e w' => e = .returned (.string ⟨(Lib.decDigits i).toArray⟩) ∧ w' = w := Any.strconv_Itoa_small { Tryz.itoaL with } i hi w
theorem Tryz.repeat_zero (s : ByteArray) (w : World) :
    Calls Tryz.prog 256 #[.string s, .int .i64 0] w fun e w' => e = .returned (.string ⟨#[]⟩) ∧ w' = w := Any.strings_Repeat_zero Tryz.repL s w
theorem Tryz.repeat_one (s : ByteArray) (w : World) :
    Calls Tryz.prog 256 #[.string s, .int .i64 1] w fun e w' => e = .returned (.string s) ∧ w' = w := Any.strings_Repeat_one Tryz.repL s w

/-- A builder of the call's own that holds the bytes l. -/
def YtfpcfpjnafnjiaaGreatDoor.Bld (w : World) (g : Nat) (l : List UInt8) : Prop := Lib.IsBuilder 67 5 g g (Lib.byteCells l) w
theorem Tryz.bldWrite (g : Nat) (l : List UInt8) (s : ByteArray) (w : World) (h : YtfpcfpjnafnjiaaGreatDoor.Bld w g l) (hlen : l.length + s.size ≤ 140737488355328) (hg : g ≤ w.heap.size) :
    Calls Tryz.prog 42 #[.pointer (some ⟨g, 0, none⟩), .string s] w fun e w' => e = .returned (.tuple #[.int .i64 s.size, .nilIface]) ∧ YtfpcfpjnafnjiaaGreatDoor.Bld w' g (l ++ s.data.toList) ∧ Below g w w' := by
  refine (Any.Builder_WriteString { Tryz.repL with } Tryz.repX g g (Lib.byteCells l) s w h (by rw [Lib.byteCells_length]; exact hlen) hg).mono ?_
  rintro e w' ⟨he, h1, h2⟩
  refine ⟨he, ?_, h2⟩
  rw [Lib.strCells_eq, ← Lib.byteCells_append] at h1
  exact .inr h1
theorem Tryz.bldLen (g : Nat) (l : List UInt8) (w : World) (h : YtfpcfpjnafnjiaaGreatDoor.Bld w g l) :
    Calls Tryz.prog 310 #[.pointer (some ⟨g, 0, none⟩)] w fun e w' => e = .returned (.int .i64 l.length) ∧ w' = w := by
  have := Any.Builder_Len { Tryz.repL with } g g (Lib.byteCells l) w h
  rw [Lib.byteCells_length] at this
  exact this
theorem Tryz.bldString (g : Nat) (l : List UInt8) (w : World) (h : YtfpcfpjnafnjiaaGreatDoor.Bld w g l) (hg : g ≤ w.heap.size) :
    Calls Tryz.prog 43 #[.pointer (some ⟨g, 0, none⟩)] w fun e w' => e = .returned (.string ⟨l.toArray⟩) ∧ Below g w w' :=
  Any.Builder_String_any { Tryz.repL with } Tryz.repX g g l w h hg

end Go.Proofs
