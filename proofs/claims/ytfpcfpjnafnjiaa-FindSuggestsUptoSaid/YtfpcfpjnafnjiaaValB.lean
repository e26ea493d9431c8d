/-
  WALKS: the comparison of two values, the program's and the reference's; the comparison of two lists of values.
-/
import Derived.Test.YtfpcfpjnafnjiaaVal
import Derived.Deep.RegionHeld3
set_option linter.all false
namespace Go.Proofs.Ytfpcfpjnafnjiaa
open Go.RowKit

set_option maxHeartbeats 400000 in
theorem isNaNs_any (a : ByteArray) (w : World) :
    Calls Try.prog 38 #[.string a] w fun e w' => e = .returned (.bool false) ∧ w = w' := by
  go_enter Try.func38, Try.ntmps38
  go_wp2
  go_ret
  exact ⟨by simp, rfl⟩

set_option maxHeartbeats 800000 in
theorem compareS_any (a b : ByteArray) (w : World) :
    Calls Try.prog 18 #[.string a, .string b] w fun e w' => e = .returned (.int .i64 (Lib.compareBytes a.data.toList b.data.toList)) ∧ w = w' := by
  have hc := less_cmp a.data.toList b.data.toList
  rw [← ByteArray.toList_eq a, ← ByteArray.toList_eq b] at hc ⊢
  generalize Lib.compareBytes a.toList b.toList = r at hc ⊢
  rcases hc with ⟨rfl, h1, h2, h3⟩ | ⟨rfl, h1, h2, h3⟩ | ⟨rfl, h1, h2, h3⟩
  all_goals
    go_enter Try.func18, Try.ntmps18
    go_wp2_with (go_at_call 38; refine (isNaNs_any _ _).mono ?_; rintro e w' ⟨rfl, rfl⟩)
    go_ret
    exact ⟨rfl, rfl⟩

set_option maxHeartbeats 1000000 in
set_option maxRecDepth 100000 in
theorem bytealgCompare_any (a b : ByteArray) (w : World) :
    Calls Try.prog 46 #[.string a, .string b] w fun e w' => e = .returned (.int .i64 (Lib.compareBytes a.data.toList b.data.toList)) ∧ w = w' := by
  go_enter Try.func46, Try.ntmps46
  go_wp2
  rw [run_callFunc_extern Try.func62 (by kernel_rfl) (by kernel_rfl) (by kernel_rfl) (e := Extern.BytealgCompare.compare) (by kernel_rfl), Lib.run_compareString]
  simp only [Result.andThen]
  rw [Oper.upon_value]
  go_wp2
  go_ret
  exact ⟨rfl, rfl⟩

set_option maxHeartbeats 1000000 in
theorem stringsCompare_any (a b : ByteArray) (w : World) :
    Calls Try.prog 27 #[.string a, .string b] w fun e w' => e = .returned (.int .i64 (Lib.compareBytes a.data.toList b.data.toList)) ∧ w = w' := by
  go_enter Try.func27, Try.ntmps27
  go_wp2_with (go_at_call 46; refine (bytealgCompare_any _ _ _).mono ?_; rintro e w' ⟨rfl, rfl⟩)
  go_ret
  exact ⟨rfl, rfl⟩

def CmpOut (r : Int) (w : World) (e : Ending) (w' : World) : Prop := e = .returned (.int .i64 r) ∧ Below w.heap.size w w'
/-- A function of two values answers as their order, whatever the second one is. -/
def CmpBy (f : FuncId) (x : V) : Prop := ∀ (y : V) (A B : Option Addr) (c d : Nat) (w : World), LAt w A x.l → LAt w B y.l → Calls Try.prog f #[x.arg A c, y.arg B d] w (CmpOut (cmpV x y) w)

end Go.Proofs.Ytfpcfpjnafnjiaa
