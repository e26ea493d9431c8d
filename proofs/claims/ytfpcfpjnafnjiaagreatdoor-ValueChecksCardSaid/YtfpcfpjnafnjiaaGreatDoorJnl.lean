/-
  THE SHELF's CONTRACT OF strings.Join AT THIS PROGRAM: the table of numbers, printed in plain words (numbers of this seat).
-/
import Derived.Shelf.Strings.OnBuilder
import Derived.Test.YtfpcfpjnafnjiaaGreatDoorRows
import Derived.Test.YtfpcfpjnafnjiaaGreatDoorInts
import Derived.Below
set_option linter.all false
namespace Go.Proofs
open Go.Shelf Go.RowKit
def Tryz.joinL_ren : Go.Shelf.Ren := ⟨fun | 156 => 37 | 165 => 112 | 166 => 42 | 169 => 43 | 240 => 114 | 241 => 196 | 276 => 198 | 277 => 267 | n => n, fun | 31 => 50 | 9 => 9 | 3 => 3 | 4 => 4 | 0 => 0 | 20 => 20 | 72 => 67 | 76 => 72 | 70 => 64 | 37 => 65 | 75 => 71 | 127 => 203 | 164 => 265 | 5 => 5 | 80 => 74 | n => n, fun | n => n⟩
theorem Tryz.joinL : Go.Proofs.Lays.n156 Tryz.prog Tryz.joinL_ren := {
  mixed := by kernel_rfl
  f156 := Tryz.func37.trans (congrArg some (by kernel_rfl))
  f165 := Tryz.func112.trans (congrArg some (by kernel_rfl))
  f166 := Tryz.func42.trans (congrArg some (by kernel_rfl))
  f169 := Tryz.func43.trans (congrArg some (by kernel_rfl))
  f240 := Tryz.func114.trans (congrArg some (by kernel_rfl))
  f241 := Tryz.func196.trans (congrArg some (by kernel_rfl))
  f276 := Tryz.func198.trans (congrArg some (by kernel_rfl))
  f277 := Tryz.func267.trans (congrArg some (by kernel_rfl))
  t0 := Tryz.underlying0
  a0 := Tryz.isAgg0
  z0 := Tryz.sizeOf0
  v0 := Tryz.zeroValue0
  t3 := Tryz.underlying3
  a3 := Tryz.isAgg3
  z3 := Tryz.sizeOf3
  v3 := Tryz.zeroValue3
  t4 := Tryz.underlying4
  a4 := Tryz.isAgg4
  z4 := Tryz.sizeOf4
  v4 := Tryz.zeroValue4
  t9 := Tryz.underlying9
  a9 := Tryz.isAgg9
  z9 := Tryz.sizeOf9
  v9 := Tryz.zeroValue9
  t20 := Tryz.underlying20
  a20 := Tryz.isAgg20
  z20 := Tryz.sizeOf20
  v20 := Tryz.zeroValue20
  t31 := Tryz.underlying50
  a31 := Tryz.isAgg50
  z31 := Tryz.sizeOf50
  v31 := Tryz.zeroValue50
  t37 := Tryz.underlying65
  a37 := Tryz.isAgg65
  z37 := Tryz.sizeOf65
  v37 := Tryz.zeroValue65
  t70 := Tryz.underlying64
  a70 := Tryz.isAgg64
  z70 := Tryz.sizeOf64
  v70 := Tryz.zeroValue64
  t72 := Tryz.underlying67
  a72 := Tryz.isAgg67
  z72 := Tryz.sizeOf67
  v72 := Tryz.zeroValue67
  t75 := Tryz.underlying71
  a75 := Tryz.isAgg71
  z75 := Tryz.sizeOf71
  v75 := Tryz.zeroValue71
  t76 := Tryz.underlying72
  a76 := Tryz.isAgg72
  z76 := Tryz.sizeOf72
  v76 := Tryz.zeroValue72
  t127 := Tryz.underlying203
  a127 := Tryz.isAgg203
  z127 := Tryz.sizeOf203
  v127 := Tryz.zeroValue203
  t164 := Tryz.underlying265
  a164 := Tryz.isAgg265
  z164 := Tryz.sizeOf265
  v164 := Tryz.zeroValue265 }


theorem Tryz.joinX : Builder.Extra Tryz.prog Tryz.joinL_ren := {
  sizeBuilder := by kernel_rfl
  liesBuilder := by kernel_rfl
  t5 := by kernel_rfl
  a5 := fun _ => by kernel_rfl
  z5 := fun _ => by kernel_rfl
  v5 := fun _ => by kernel_rfl
  infoByte := by kernel_rfl
  cellsByte := by kernel_rfl
  sizeByte := by kernel_rfl
  neB5 := by decide }

theorem Tryz.join_any (bk o c : Nat) (xs : List ByteArray) (sep : ByteArray) (w : World)
    (hcells : ∀ (j : Nat) x, xs[j]? = some x → w.cell? ⟨bk, o + j, none⟩ = some (.string x))
    (hbk : bk < w.heap.size) (hN : xs.length ≤ 140737488355328) (hcap : xs.length ≤ c)
    (hlen : (Lib.join (xs.map (·.data.toList)) sep.data.toList).length ≤ 140737488355328) :
    Calls Tryz.prog 37 #[.slice (some ⟨bk, o, none⟩) xs.length c, .string sep] w fun e w' => e = .returned (.string ⟨(Lib.join (xs.map (·.data.toList)) sep.data.toList).toArray⟩) ∧ Below w.heap.size w w' :=
  Any.strings_Join Tryz.joinL Tryz.joinX bk o c xs sep w hcells hbk hN hcap hlen

end Go.Proofs
