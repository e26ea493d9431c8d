/-
  WALKS: a word that is read as a number, in the program and in the reference.
-/
import Derived.Test.YtioppoaijehicaaGreatDoorLayA
import Derived.Test.YtioppoaijehicaaGreatDoorLyd
import Derived.Test.YtioppoaijehicaaGreatDoorInts
import Derived.Lib.ItoaMem
import Derived.Lib.ItoaLen
import Derived.Test.YtioppoaijehicaaGreatDoorNum
import Derived.Test.YtioppoaijehicaaGreatDoorDayS
set_option linter.all false
namespace Go.Proofs.YtioppoaijehicaaGreatDoor
open Go.RowKit

def strOf (l : List UInt8) : ByteArray := ⟨l.toArray⟩

theorem strOf_size (l : List UInt8) : (strOf l).size = l.length := by simp [strOf, ByteArray.size]

theorem strOf_data (l : List UInt8) : (strOf l).data.toList = l := by simp [strOf]

theorem strOf_self (s : ByteArray) : strOf s.data.toList = s := by simp [strOf]

theorem strOf_inj {a b : List UInt8} (h : strOf a = strOf b) : a = b := by rw [← strOf_data a, h, strOf_data]

theorem strOf_toList (l : List UInt8) : (strOf l).toList = l := by rw [Lib.toList_data, strOf_data]

theorem lit_none : (ByteArray.mk #[]).toList = [] := by rw [Lib.toList_data]

theorem lit_nought : (ByteArray.mk #[48]).toList = [48] := by rw [Lib.toList_data]
attribute [local go_sem high] strOf_toList lit_none lit_nought

theorem idx0 (b : UInt8) (r : List UInt8) (w : World) : (Instr.index 9 (.string (strOf (b :: r))) (.int .i64 0)).run Tryz.prog w = .ok (.int .u8 b.toNat) w := by
  rw [run_index_string (h := Tryz.underlying9)]
  have : 0 < (strOf (b :: r)).size := by rw [strOf_size]; simp
  rw [dif_pos ⟨by omega, by omega⟩]
  rfl

attribute [local go_sem high] idx0

/-- What a reading of a number hands out. -/
def NumOut (l : List UInt8) (w : World) (e : Ending) (w' : World) : Prop := (∃ k, e = .returned (.tuple #[.int .i64 k, .bool (num l).isSome]) ∧ ∀ n, num l = some n → k = n) ∧ Below w.heap.size w w'

end Go.Proofs.YtioppoaijehicaaGreatDoor
