/-
  WALKS: the program's calendar: DayOf.
-/
import Derived.Test.YtpbkidjbbhkjnaaDoorDayA
import Derived.Test.YtpbkidjbbhkjnaaDoorInts
import Derived.Deep.DeepCutAuto
import Derived.Deep.RegionWith
namespace Go.Proofs.YtpbkidjbbhkjnaaDoor
open Go.RowKit Cal

def DayAtOut (r : Int × Bool) (w : World) (e : Ending) (w' : World) : Prop := e = .returned (.tuple #[.int .i64 r.1, .bool r.2]) ∧ Below w.heap.size w w'
def dayAtR (y m d : Int) : Int × Bool := if 1 ≤ m ∧ m ≤ 12 ∧ 1 ≤ d ∧ d ≤ mlen y m then (num y m d, true) else (0, false)

/-- What DayOf hands back. -/
def dayOfR (y m d : Int) : Int × Int := if 2001 ≤ y ∧ y ≤ 9999 ∧ 1 ≤ m ∧ m ≤ 12 ∧ 1 ≤ d ∧ d ≤ mlen y m ∧ num y m d ≤ 100000 then (num y m d, 0) else (0, 2)
theorem num_ge {y m d : Int} (hy : 2001 ≤ y) (h1 : 1 ≤ m) (h2 : m ≤ 12) (h3 : 1 ≤ d) : 0 ≤ num y m d := by
  have h0 := cum_mono (y := y) (m := 1) (n := m) (by omega) h1 (by omega)
  rw [cum_1] at h0
  have := yd_mono hy
  have e : yd 2001 = 0 := by decide
  unfold num
  omega

end Go.Proofs.YtpbkidjbbhkjnaaDoor
