/-
  WALKS: cmp.Compare and cmp.Or at int.
-/
import Derived.Test.YtokghdcfbbogdaaInts
namespace Go.Proofs.Ytokghdcfbbogdaa
open Go.RowKit

def cmp3 (a b : Int) : Int := if a < b then -1 else if b < a then 1 else 0
def or2 (p q : Int) : Int := if p = 0 then q else p

set_option maxHeartbeats 400000 in
theorem isNaN_any (a : Int) (w : World) :
    Calls Try.prog 96 #[.int .i64 a] w fun e w' => e = .returned (.bool false) ∧ w = w' := by
  go_enter Try.func96, Try.ntmps96
  go_wp2
  go_ret
  exact ⟨by simp, rfl⟩

set_option maxHeartbeats 400000 in
theorem compare_any (a b : Int) (w : World) :
    Calls Try.prog 77 #[.int .i64 a, .int .i64 b] w fun e w' => e = .returned (.int .i64 (cmp3 a b)) ∧ w = w' := by
  have hc : (a < b ∧ cmp3 a b = -1) ∨ (b < a ∧ cmp3 a b = 1) ∨ (a = b ∧ cmp3 a b = 0) := by unfold cmp3; split <;> (try split) <;> omega
  generalize cmp3 a b = r at hc ⊢
  rcases hc with ⟨h, rfl⟩ | ⟨h, rfl⟩ | ⟨rfl, rfl⟩
  all_goals
    go_enter Try.func77, Try.ntmps77
    go_wp2_with (go_at_call 96; refine (isNaN_any _ _).mono ?_; rintro e w' ⟨rfl, rfl⟩)
    go_ret
    exact ⟨rfl, rfl⟩

set_option maxHeartbeats 800000 in
theorem or2_any (g : Nat) (p q : Int) (w : World) (h0 : w.cell? ⟨g, 0, none⟩ = some (.int .i64 p)) (h1 : w.cell? ⟨g, 1, none⟩ = some (.int .i64 q)) :
    Calls Try.prog 76 #[.slice (some ⟨g, 0, none⟩) 2 2] w fun e w' => e = .returned (.int .i64 (or2 p q)) ∧ w = w' := by
  have hc : ((p == 0) = false ∧ or2 p q = p) ∨ (p = 0 ∧ (q == 0) = false ∧ or2 p q = q) ∨ (p = 0 ∧ q = 0 ∧ or2 p q = 0) := by
    unfold or2
    by_cases hp : p = 0
    · by_cases hq : q = 0
      · exact .inr (.inr ⟨hp, hq, by rw [if_pos hp, hq]⟩)
      · exact .inr (.inl ⟨hp, by simp [hq], by rw [if_pos hp]⟩)
    · exact .inl ⟨by simp [hp], by rw [if_neg hp]⟩
  generalize or2 p q = r at hc ⊢
  rcases hc with ⟨h, rfl⟩ | ⟨rfl, h, rfl⟩ | ⟨rfl, rfl, rfl⟩
  all_goals
    go_enter Try.func76, Try.ntmps76
    go_wp2
    refine wp_loop_rounds 3 ?_
    rw [rounds_succ]
    go_wp2
    repeat (rw [rounds_succ]; go_wp2)
    go_ret
    exact ⟨rfl, rfl⟩

end Go.Proofs.Ytokghdcfbbogdaa
