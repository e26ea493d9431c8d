/-
  WALKS: the small functions of package card on one state.
-/
import Derived.Test.YtokghdcfbbogdaaRows
import Derived.Test.YtokghdcfbbogdaaPlain
import Derived.Test.YtokghdcfbbogdaaBlk
import Derived.WalkKit
import Derived.WalkSpells
import Derived.WalkLawsBesides
import Derived.Handy
namespace Go.Proofs.Ytokghdcfbbogdaa
open Go.RowKit

def St.val (x : St) : Value := .agg #[.int .i64 x.bl, .int .i64 x.no, .int .i64 x.st, .int .i64 x.ea, .int .i64 x.du, .int .i64 x.la, .int .i64 x.ti, .int .i64 x.lp, .int .i64 x.bu]

set_option maxHeartbeats 400000 in
theorem outside_any (n lo hi : Int) (w : World) :
    Calls Try.prog 61 #[.int .i64 n, .int .i64 lo, .int .i64 hi] w fun e w' => e = .returned (.bool (outB n lo hi)) ∧ w = w' := by
  by_cases h1 : n < lo
  · go_enter Try.func61, Try.ntmps61
    go_wp2
    go_ret
    exact ⟨by simp [outB, h1], rfl⟩
  · by_cases h2 : hi < n
    · go_enter Try.func61, Try.ntmps61
      go_wp2
      go_ret
      exact ⟨by simp [outB, h2], rfl⟩
    · go_enter Try.func61, Try.ntmps61
      go_wp2
      go_ret
      exact ⟨by simp [outB]; omega, rfl⟩

end Go.Proofs.Ytokghdcfbbogdaa
