/-
  THE SHELF's CONTRACTS OF LIBRARY FUNCTIONS AT THIS PROGRAM (join): the tables of numbers, printed in plain words (numbers of this seat).
-/
import Derived.Shelf.Strings.OnBuilder
import Derived.Test.YtioppoaijehicaaGreatDoorRows
import Derived.Test.YtioppoaijehicaaGreatDoorInts
import Derived.Test.YtioppoaijehicaaGreatDoorLyd
import Derived.Below
set_option linter.all false
namespace Go.Proofs
open Go.Shelf Go.RowKit

def Tryz.joinL_ren : Go.Shelf.Ren := ⟨fun | 156 => 109 | 165 => 134 | 166 => 135 | 169 => 137 | 240 => 177 | 241 => 178 | 276 => 208 | 277 => 209 | n => n, fun | 31 => 109 | 9 => 9 | 3 => 3 | 4 => 4 | 0 => 0 | 20 => 20 | 72 => 163 | 76 => 167 | 70 => 161 | 37 => 104 | 75 => 166 | 127 => 199 | 164 => 219 | 5 => 5 | 80 => 170 | n => n, fun | n => n⟩

theorem Tryz.joinL : Go.Proofs.Lays.n156 Tryz.prog Tryz.joinL_ren := {
  mixed := by kernel_rfl
  f156 := Tryz.func109.trans (congrArg some (by kernel_rfl))
  f165 := Tryz.func134.trans (congrArg some (by kernel_rfl))
  f166 := Tryz.func135.trans (congrArg some (by kernel_rfl))
  f169 := Tryz.func137.trans (congrArg some (by kernel_rfl))
  f240 := Tryz.func177.trans (congrArg some (by kernel_rfl))
  f241 := Tryz.func178.trans (congrArg some (by kernel_rfl))
  f276 := Tryz.func208.trans (congrArg some (by kernel_rfl))
  f277 := Tryz.func209.trans (congrArg some (by kernel_rfl))
  t0 := Tryz.underlying0
  a0 := Tryz.isAgg0
  z0 := Tryz.sizeOf0
  v0 := Tryz.zeroValue0
  t3 := Tryz.underlying3
  a3 := Tryz.isAgg3
  z3 := Tryz.sizeOf3
  v3 := Tryz.zeroValue3
  t4 := Tryz.underlying4
  a4 := Tryz.isAgg4
  z4 := Tryz.sizeOf4
  v4 := Tryz.zeroValue4
  t9 := Tryz.underlying9
  a9 := Tryz.isAgg9
  z9 := Tryz.sizeOf9
  v9 := Tryz.zeroValue9
  t20 := Tryz.underlying20
  a20 := Tryz.isAgg20
  z20 := Tryz.sizeOf20
  v20 := Tryz.zeroValue20
  t31 := Tryz.underlying109
  a31 := Tryz.isAgg109
  z31 := Tryz.sizeOf109
  v31 := Tryz.zeroValue109
  t37 := Tryz.underlying104
  a37 := Tryz.isAgg104
  z37 := Tryz.sizeOf104
  v37 := Tryz.zeroValue104
  t70 := Tryz.underlying161
  a70 := Tryz.isAgg161
  z70 := Tryz.sizeOf161
  v70 := Tryz.zeroValue161
  t72 := Tryz.underlying163
  a72 := Tryz.isAgg163
  z72 := Tryz.sizeOf163
  v72 := Tryz.zeroValue163
  t75 := Tryz.underlying166
  a75 := Tryz.isAgg166
  z75 := Tryz.sizeOf166
  v75 := Tryz.zeroValue166
  t76 := Tryz.underlying167
  a76 := Tryz.isAgg167
  z76 := Tryz.sizeOf167
  v76 := Tryz.zeroValue167
  t127 := Tryz.underlying199
  a127 := Tryz.isAgg199
  z127 := Tryz.sizeOf199
  v127 := Tryz.zeroValue199
  t164 := Tryz.underlying219
  a164 := Tryz.isAgg219
  z164 := Tryz.sizeOf219
  v164 := Tryz.zeroValue219 }


theorem Tryz.joinX : Builder.Extra Tryz.prog Tryz.joinL_ren := {
  sizeBuilder := by kernel_rfl
  liesBuilder := by kernel_rfl
  t5 := by kernel_rfl
  a5 := fun _ => by kernel_rfl
  z5 := fun _ => by kernel_rfl
  v5 := fun _ => by kernel_rfl
  infoByte := by kernel_rfl
  cellsByte := by kernel_rfl
  sizeByte := by kernel_rfl
  neB5 := by decide }

theorem Tryz.join_any (bk o c : Nat) (xs : List ByteArray) (sep : ByteArray) (w : World)
    (hcells : ∀ (j : Nat) x, xs[j]? = some x → w.cell? ⟨bk, o + j, none⟩ = some (.string x))
    (hbk : bk < w.heap.size) (hN : xs.length ≤ 140737488355328) (hcap : xs.length ≤ c)
    (hlen : (Lib.join (xs.map (·.data.toList)) sep.data.toList).length ≤ 140737488355328) :
    Calls Tryz.prog 109 #[.slice (some ⟨bk, o, none⟩) xs.length c, .string sep] w fun e w' => e = .returned (.string ⟨(Lib.join (xs.map (·.data.toList)) sep.data.toList).toArray⟩) ∧ Below w.heap.size w w' :=
  Any.strings_Join Tryz.joinL Tryz.joinX bk o c xs sep w hcells hbk hN hcap hlen

end Go.Proofs
