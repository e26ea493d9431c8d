/-
  THE SHELF's CONTRACTS OF strconv.Itoa, strings.Repeat AND OF strings.Builder AT THIS PROGRAM: the tables of numbers, printed in plain words (numbers of this seat).
-/
import Derived.Shelf.Strconv.Itoa3
import Derived.Shelf.Strings.Repeat
import Derived.Test.YtididkdmbpfjnaaDoorRows
import Derived.Test.YtididkdmbpfjnaaDoorBlk
namespace Go.Proofs
open Go.Shelf Go.RowKit
def Tryd.itoaL_ren : Go.Shelf.Ren := ⟨fun | 171 => 27 | 243 => 92 | 246 => 141 | 283 => 166 | 284 => 167 | 285 => 168 | 286 => 169 | 129 => 190 | 317 => 189 | 318 => 191 | 319 => 192 | 320 => 193 | 337 => 199 | 338 => 200 | n => n, fun | 3 => 3 | 9 => 9 | 2 => 2 | 4 => 4 | 171 => 230 | 0 => 0 | 53 => 231 | 37 => 59 | 5 => 5 | 173 => 234 | 212 => 246 | 51 => 240 | 20 => 20 | 213 => 247 | 46 => 226 | 232 => 257 | 233 => 258 | n => n, fun | 17 => 3 | 18 => 6 | 19 => 7 | n => n⟩
theorem Tryd.itoaL : Go.Proofs.LaysM.n171 Tryd.prog Tryd.itoaL_ren := {
  mixed := by kernel_rfl
  f129 := Tryd.func190.trans (congrArg some (by kernel_rfl))
  f171 := Tryd.func27.trans (congrArg some (by kernel_rfl))
  f243 := Tryd.func92.trans (congrArg some (by kernel_rfl))
  f246 := Tryd.func141.trans (congrArg some (by kernel_rfl))
  f283 := Tryd.func166.trans (congrArg some (by kernel_rfl))
  f284 := Tryd.func167.trans (congrArg some (by kernel_rfl))
  f285 := Tryd.func168.trans (congrArg some (by kernel_rfl))
  f286 := Tryd.func169.trans (congrArg some (by kernel_rfl))
  f317 := Tryd.func189.trans (congrArg some (by kernel_rfl))
  f318 := Tryd.func191.trans (congrArg some (by kernel_rfl))
  f319 := Tryd.func192.trans (congrArg some (by kernel_rfl))
  f320 := Tryd.func193.trans (congrArg some (by kernel_rfl))
  f337 := Tryd.func199.trans (congrArg some (by kernel_rfl))
  f338 := Tryd.func200.trans (congrArg some (by kernel_rfl))
  t0 := Tryd.underlying0
  a0 := Tryd.isAgg0
  z0 := Tryd.sizeOf0
  v0 := Tryd.zeroValue0
  t2 := Tryd.underlying2
  a2 := Tryd.isAgg2
  z2 := Tryd.sizeOf2
  v2 := Tryd.zeroValue2
  t3 := Tryd.underlying3
  a3 := Tryd.isAgg3
  z3 := Tryd.sizeOf3
  v3 := Tryd.zeroValue3
  t4 := Tryd.underlying4
  a4 := Tryd.isAgg4
  z4 := Tryd.sizeOf4
  v4 := Tryd.zeroValue4
  t5 := Tryd.underlying5
  a5 := Tryd.isAgg5
  z5 := Tryd.sizeOf5
  v5 := Tryd.zeroValue5
  t9 := Tryd.underlying9
  a9 := Tryd.isAgg9
  z9 := Tryd.sizeOf9
  v9 := Tryd.zeroValue9
  t20 := Tryd.underlying20
  a20 := Tryd.isAgg20
  z20 := Tryd.sizeOf20
  v20 := Tryd.zeroValue20
  t37 := Tryd.underlying59
  a37 := Tryd.isAgg59
  z37 := Tryd.sizeOf59
  v37 := Tryd.zeroValue59
  t46 := Tryd.underlying226
  a46 := Tryd.isAgg226
  z46 := Tryd.sizeOf226
  v46 := Tryd.zeroValue226
  t51 := Tryd.underlying240
  a51 := Tryd.isAgg240
  z51 := Tryd.sizeOf240
  v51 := Tryd.zeroValue240
  t53 := Tryd.underlying231
  a53 := Tryd.isAgg231
  z53 := Tryd.sizeOf231
  v53 := Tryd.zeroValue231
  t171 := Tryd.underlying230
  a171 := Tryd.isAgg230
  z171 := Tryd.sizeOf230
  v171 := Tryd.zeroValue230
  t173 := Tryd.underlying234
  a173 := Tryd.isAgg234
  z173 := Tryd.sizeOf234
  v173 := Tryd.zeroValue234
  t212 := Tryd.underlying246
  a212 := Tryd.isAgg246
  z212 := Tryd.sizeOf246
  v212 := Tryd.zeroValue246
  t213 := Tryd.underlying247
  a213 := Tryd.isAgg247
  z213 := Tryd.sizeOf247
  t232 := Tryd.underlying257
  a232 := Tryd.isAgg257
  z232 := Tryd.sizeOf257
  v232 := Tryd.zeroValue257
  t233 := Tryd.underlying258
  a233 := Tryd.isAgg258
  z233 := Tryd.sizeOf258
  v233 := Tryd.zeroValue258
  g17 := by kernel_rfl
  g18 := by kernel_rfl
  g19 := by kernel_rfl
  i0 := by kernel_rfl
  i2 := by kernel_rfl
  i3 := by kernel_rfl
  i4 := by kernel_rfl
  i5 := by kernel_rfl
  i9 := by kernel_rfl
  i20 := by kernel_rfl
  i37 := by kernel_rfl
  i46 := by kernel_rfl
  i51 := by kernel_rfl
  i53 := by kernel_rfl
  i171 := by kernel_rfl
  i173 := by kernel_rfl
  i212 := by kernel_rfl
  i232 := by kernel_rfl
  i233 := by kernel_rfl
  m17 := by kernel_rfl
  m18 := by kernel_rfl
  m19 := by kernel_rfl }
def Tryd.repL_ren : Go.Shelf.Ren := ⟨fun | 105 => 139 | 212 => 164 | 99 => 127 | 165 => 165 | 166 => 26 | 170 => 32 | 169 => 33 | 263 => 186 | 264 => 187 | 206 => 154 | 240 => 91 | 241 => 188 | 276 => 140 | 277 => 198 | n => n, fun | 9 => 9 | 3 => 3 | 4 => 4 | 20 => 20 | 0 => 0 | 46 => 226 | 109 => 227 | 5 => 5 | 72 => 61 | 76 => 64 | 51 => 240 | 146 => 241 | 53 => 231 | 148 => 243 | 70 => 58 | 37 => 59 | 75 => 63 | 127 => 164 | 164 => 210 | 80 => 70 | n => n, fun | n => n⟩
theorem Tryd.repL : Go.Proofs.Lays.n105 Tryd.prog Tryd.repL_ren := {
  mixed := by kernel_rfl
  f99 := Tryd.func127.trans (congrArg some (by kernel_rfl))
  f105 := Tryd.func139.trans (congrArg some (by kernel_rfl))
  f165 := Tryd.func165.trans (congrArg some (by kernel_rfl))
  f166 := Tryd.func26.trans (congrArg some (by kernel_rfl))
  f169 := Tryd.func33.trans (congrArg some (by kernel_rfl))
  f170 := Tryd.func32.trans (congrArg some (by kernel_rfl))
  f206 := Tryd.func154.trans (congrArg some (by kernel_rfl))
  f212 := Tryd.func164.trans (congrArg some (by kernel_rfl))
  f240 := Tryd.func91.trans (congrArg some (by kernel_rfl))
  f241 := Tryd.func188.trans (congrArg some (by kernel_rfl))
  f263 := Tryd.func186.trans (congrArg some (by kernel_rfl))
  f264 := Tryd.func187.trans (congrArg some (by kernel_rfl))
  f276 := Tryd.func140.trans (congrArg some (by kernel_rfl))
  f277 := Tryd.func198.trans (congrArg some (by kernel_rfl))
  t0 := Tryd.underlying0
  a0 := Tryd.isAgg0
  z0 := Tryd.sizeOf0
  v0 := Tryd.zeroValue0
  t3 := Tryd.underlying3
  a3 := Tryd.isAgg3
  z3 := Tryd.sizeOf3
  v3 := Tryd.zeroValue3
  t4 := Tryd.underlying4
  a4 := Tryd.isAgg4
  z4 := Tryd.sizeOf4
  v4 := Tryd.zeroValue4
  t5 := Tryd.underlying5
  a5 := Tryd.isAgg5
  z5 := Tryd.sizeOf5
  v5 := Tryd.zeroValue5
  t9 := Tryd.underlying9
  a9 := Tryd.isAgg9
  z9 := Tryd.sizeOf9
  v9 := Tryd.zeroValue9
  t20 := Tryd.underlying20
  a20 := Tryd.isAgg20
  z20 := Tryd.sizeOf20
  v20 := Tryd.zeroValue20
  t37 := Tryd.underlying59
  a37 := Tryd.isAgg59
  z37 := Tryd.sizeOf59
  v37 := Tryd.zeroValue59
  t46 := Tryd.underlying226
  a46 := Tryd.isAgg226
  z46 := Tryd.sizeOf226
  v46 := Tryd.zeroValue226
  t51 := Tryd.underlying240
  a51 := Tryd.isAgg240
  z51 := Tryd.sizeOf240
  v51 := Tryd.zeroValue240
  t53 := Tryd.underlying231
  a53 := Tryd.isAgg231
  z53 := Tryd.sizeOf231
  v53 := Tryd.zeroValue231
  t70 := Tryd.underlying58
  a70 := Tryd.isAgg58
  z70 := Tryd.sizeOf58
  v70 := Tryd.zeroValue58
  t72 := Tryd.underlying61
  a72 := Tryd.isAgg61
  z72 := Tryd.sizeOf61
  v72 := Tryd.zeroValue61
  t75 := Tryd.underlying63
  a75 := Tryd.isAgg63
  z75 := Tryd.sizeOf63
  v75 := Tryd.zeroValue63
  t76 := Tryd.underlying64
  a76 := Tryd.isAgg64
  z76 := Tryd.sizeOf64
  v76 := Tryd.zeroValue64
  t109 := Tryd.underlying227
  a109 := Tryd.isAgg227
  z109 := Tryd.sizeOf227
  v109 := Tryd.zeroValue227
  t127 := Tryd.underlying164
  a127 := Tryd.isAgg164
  z127 := Tryd.sizeOf164
  v127 := Tryd.zeroValue164
  t146 := Tryd.underlying241
  a146 := Tryd.isAgg241
  z146 := Tryd.sizeOf241
  v146 := Tryd.zeroValue241
  t148 := Tryd.underlying243
  a148 := Tryd.isAgg243
  z148 := Tryd.sizeOf243
  v148 := Tryd.zeroValue243
  t164 := Tryd.underlying210
  a164 := Tryd.isAgg210
  z164 := Tryd.sizeOf210
  v164 := Tryd.zeroValue210 }

theorem Tryd.repX : Builder.Extra Tryd.prog Tryd.repL_ren := {
  sizeBuilder := by kernel_rfl
  liesBuilder := by kernel_rfl
  t5 := by kernel_rfl
  a5 := fun _ => by kernel_rfl
  z5 := fun _ => by kernel_rfl
  v5 := fun _ => by kernel_rfl
  infoByte := by kernel_rfl
  cellsByte := by kernel_rfl
  sizeByte := by kernel_rfl
  neB5 := by decide }

/-- The name of the table of powers of ten, off the row that lists it. -/
def YtididkdmbpfjnaaDoor.powName : String := match YtididkdmbpfjnaaDoor.Rows.ruleChecksRow.laid with
  | _ :: _ :: x :: _ => x.1
  | _ => YtididkdmbpfjnaaDoor.Rows.ruleChecksRow.spec
/-- The table of powers of ten is as the program's text lays it. -/
def YtididkdmbpfjnaaDoor.PowTab (w : World) : Prop := Lib.TabIs Tryd.prog w YtididkdmbpfjnaaDoor.powName .u64 Lib.pow10Tab

theorem Tryd.itoa_any (n : Int) (h0 : -9223372036854775808 ≤ n) (h1 : n ≤ 9223372036854775807) (w : World) (htab : YtididkdmbpfjnaaDoor.PowTab w) :
    Calls Tryd.prog 27 #[.int .i64 n] w fun e w' => e = .returned (.string ⟨(Lib.itoa n).toArray⟩) ∧ ∃ os n, w' = YtididkdmbpfjnaaDoor.plus w os n :=
  (Any.strconv_Itoa Tryd.itoaL n h0 h1 w htab).mono fun _ _ ⟨he, k, os, hw⟩ => ⟨he, os, (w.drewN k).drawn, hw⟩
theorem Tryd.itoa_small (i : Nat) (hi : i < 100) (w : World) :
    Calls Tryd.prog 27 #[.int .i64 i] w fun e w' => e = .returned (.string ⟨(Lib.decDigits i).toArray⟩) ∧ w' = w := Any.strconv_Itoa_small { Tryd.itoaL with } i hi w
theorem Tryd.repeat_zero (s : ByteArray) (w : World) :
    Calls Tryd.prog 139 #[.string s, .int .i64 0] w fun e w' => e = .returned (.string ⟨#[]⟩) ∧ w' = w := Any.strings_Repeat_zero Tryd.repL s w
theorem Tryd.repeat_one (s : ByteArray) (w : World) :
    Calls Tryd.prog 139 #[.string s, .int .i64 1] w fun e w' => e = .returned (.string s) ∧ w' = w := Any.strings_Repeat_one Tryd.repL s w

/-- A builder of the call's own that holds the bytes l. -/
def YtididkdmbpfjnaaDoor.Bld (w : World) (g : Nat) (l : List UInt8) : Prop := Lib.IsBuilder 61 5 g g (Lib.byteCells l) w
theorem Tryd.bldWrite (g : Nat) (l : List UInt8) (s : ByteArray) (w : World) (h : YtididkdmbpfjnaaDoor.Bld w g l) (hlen : l.length + s.size ≤ 140737488355328) (hg : g ≤ w.heap.size) :
    Calls Tryd.prog 26 #[.pointer (some ⟨g, 0, none⟩), .string s] w fun e w' => e = .returned (.tuple #[.int .i64 s.size, .nilIface]) ∧ YtididkdmbpfjnaaDoor.Bld w' g (l ++ s.data.toList) ∧ Below g w w' := by
  refine (Any.Builder_WriteString { Tryd.repL with } Tryd.repX g g (Lib.byteCells l) s w h (by rw [Lib.byteCells_length]; exact hlen) hg).mono ?_
  rintro e w' ⟨he, h1, h2⟩
  refine ⟨he, ?_, h2⟩
  rw [Lib.strCells_eq, ← Lib.byteCells_append] at h1
  exact .inr h1
theorem Tryd.bldLen (g : Nat) (l : List UInt8) (w : World) (h : YtididkdmbpfjnaaDoor.Bld w g l) :
    Calls Tryd.prog 32 #[.pointer (some ⟨g, 0, none⟩)] w fun e w' => e = .returned (.int .i64 l.length) ∧ w' = w := by
  have := Any.Builder_Len { Tryd.repL with } g g (Lib.byteCells l) w h
  rw [Lib.byteCells_length] at this
  exact this
theorem Tryd.bldString (g : Nat) (l : List UInt8) (w : World) (h : YtididkdmbpfjnaaDoor.Bld w g l) (hg : g ≤ w.heap.size) :
    Calls Tryd.prog 33 #[.pointer (some ⟨g, 0, none⟩)] w fun e w' => e = .returned (.string ⟨l.toArray⟩) ∧ Below g w w' :=
  Any.Builder_String_any { Tryd.repL with } Tryd.repX g g l w h hg

end Go.Proofs
