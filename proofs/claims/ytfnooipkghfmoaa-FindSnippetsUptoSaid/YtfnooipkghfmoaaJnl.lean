/-
  THE SHELF's CONTRACT OF strings.Join AT THIS PROGRAM: the table of numbers, printed in plain words (numbers of this seat).
-/
import Derived.Shelf.Strings.OnBuilder
import Derived.Test.YtfnooipkghfmoaaRows
import Derived.Test.YtfnooipkghfmoaaBlk
import Derived.Below
set_option linter.all false
namespace Go.Proofs
open Go.Shelf Go.RowKit
def Try.joinL_ren : Go.Shelf.Ren := ⟨fun | 156 => 69 | 165 => 101 | 166 => 102 | 169 => 103 | 240 => 119 | 241 => 120 | 276 => 128 | 277 => 129 | n => n, fun | 31 => 37 | 9 => 9 | 3 => 3 | 4 => 4 | 0 => 0 | 20 => 20 | 72 => 172 | 76 => 176 | 70 => 170 | 37 => 156 | 75 => 175 | 127 => 193 | 164 => 202 | 5 => 5 | 80 => 178 | n => n, fun | n => n⟩
theorem Try.joinL : Go.Proofs.Lays.n156 Try.prog Try.joinL_ren := {
  mixed := by kernel_rfl
  f156 := Try.func69.trans (congrArg some (by kernel_rfl))
  f165 := Try.func101.trans (congrArg some (by kernel_rfl))
  f166 := Try.func102.trans (congrArg some (by kernel_rfl))
  f169 := Try.func103.trans (congrArg some (by kernel_rfl))
  f240 := Try.func119.trans (congrArg some (by kernel_rfl))
  f241 := Try.func120.trans (congrArg some (by kernel_rfl))
  f276 := Try.func128.trans (congrArg some (by kernel_rfl))
  f277 := Try.func129.trans (congrArg some (by kernel_rfl))
  t0 := Try.underlying0
  a0 := Try.isAgg0
  z0 := Try.sizeOf0
  v0 := Try.zeroValue0
  t3 := Try.underlying3
  a3 := Try.isAgg3
  z3 := Try.sizeOf3
  v3 := Try.zeroValue3
  t4 := Try.underlying4
  a4 := Try.isAgg4
  z4 := Try.sizeOf4
  v4 := Try.zeroValue4
  t9 := Try.underlying9
  a9 := Try.isAgg9
  z9 := Try.sizeOf9
  v9 := Try.zeroValue9
  t20 := Try.underlying20
  a20 := Try.isAgg20
  z20 := Try.sizeOf20
  v20 := Try.zeroValue20
  t31 := Try.underlying37
  a31 := Try.isAgg37
  z31 := Try.sizeOf37
  v31 := Try.zeroValue37
  t37 := Try.underlying156
  a37 := Try.isAgg156
  z37 := Try.sizeOf156
  v37 := Try.zeroValue156
  t70 := Try.underlying170
  a70 := Try.isAgg170
  z70 := Try.sizeOf170
  v70 := Try.zeroValue170
  t72 := Try.underlying172
  a72 := Try.isAgg172
  z72 := Try.sizeOf172
  v72 := Try.zeroValue172
  t75 := Try.underlying175
  a75 := Try.isAgg175
  z75 := Try.sizeOf175
  v75 := Try.zeroValue175
  t76 := Try.underlying176
  a76 := Try.isAgg176
  z76 := Try.sizeOf176
  v76 := Try.zeroValue176
  t127 := Try.underlying193
  a127 := Try.isAgg193
  z127 := Try.sizeOf193
  v127 := Try.zeroValue193
  t164 := Try.underlying202
  a164 := Try.isAgg202
  z164 := Try.sizeOf202
  v164 := Try.zeroValue202 }


theorem Try.joinX : Builder.Extra Try.prog Try.joinL_ren := {
  sizeBuilder := by kernel_rfl
  liesBuilder := by kernel_rfl
  t5 := by kernel_rfl
  a5 := fun _ => by kernel_rfl
  z5 := fun _ => by kernel_rfl
  v5 := fun _ => by kernel_rfl
  infoByte := by kernel_rfl
  cellsByte := by kernel_rfl
  sizeByte := by kernel_rfl
  neB5 := by decide }

theorem Try.join_any (bk o c : Nat) (xs : List ByteArray) (sep : ByteArray) (w : World)
    (hcells : ∀ (j : Nat) x, xs[j]? = some x → w.cell? ⟨bk, o + j, none⟩ = some (.string x))
    (hbk : bk < w.heap.size) (hN : xs.length ≤ 140737488355328) (hcap : xs.length ≤ c)
    (hlen : (Lib.join (xs.map (·.data.toList)) sep.data.toList).length ≤ 140737488355328) :
    Calls Try.prog 69 #[.slice (some ⟨bk, o, none⟩) xs.length c, .string sep] w fun e w' => e = .returned (.string ⟨(Lib.join (xs.map (·.data.toList)) sep.data.toList).toArray⟩) ∧ Below w.heap.size w w' :=
  Any.strings_Join Try.joinL Try.joinX bk o c xs sep w hcells hbk hN hcap hlen

end Go.Proofs
