/-
  WALKS: whether a month has a date.
-/
import Derived.Test.YtpbkidjbbhkjnaaDayC
namespace Go.Proofs.Ytpbkidjbbhkjnaa
open Go.RowKit Cal

set_option maxHeartbeats 3200000 in
/-- 'has' of a month, a date that is not beyond 31. -/
theorem has_any (y m d : Int) (w : World) (hy : 0 ≤ y) (hy2 : y ≤ 100000) (h29 : 29 ≤ d) (h31 : d ≤ 31) :
    Calls Try.prog 109 #[.int .i64 y, .int .i64 m, .int .i64 d] w fun e w' => e = .returned (.bool (decide (d ≤ mlen y m))) ∧ w = w' := by
  have hd : d = 29 ∨ ((d == 29) = false ∧ 29 < d) := by
    by_cases h : d = 29
    · exact .inl h
    · exact .inr ⟨by simp [h], by omega⟩
  by_cases hm : m = 2
  · subst hm
    have hm2 : mlen y 2 = 28 + lp y := by simp [mlen]
    rw [hm2]
    rcases hd with rfl | ⟨hd1, hd2⟩
    · have hc : ((y % 4 == 0) = false ∧ lp y = 0) ∨ (y % 4 = 0 ∧ (y % 100 != 0) = true ∧ lp y = 1) ∨ (y % 4 = 0 ∧ (y % 100 != 0) = false ∧ (y % 400 == 0) = true ∧ lp y = 1) ∨ (y % 4 = 0 ∧ (y % 100 != 0) = false ∧ (y % 400 == 0) = false ∧ lp y = 0) := by
        unfold lp
        by_cases h4 : y % 4 = 0
        · by_cases h1 : y % 100 = 0
          · by_cases h0 : y % 400 = 0
            · exact .inr (.inr (.inl ⟨h4, by simp [h1], by simp [h0], by simp [h4, h0]⟩))
            · exact .inr (.inr (.inr ⟨h4, by simp [h1], by simp [h0], by simp [h1, h0]⟩))
          · exact .inr (.inl ⟨h4, by simp [h1], by simp [h4, h1]⟩)
        · exact .inl ⟨by simp [h4], by simp [h4]⟩
      generalize lp y = r at hc ⊢
      rcases hc with ⟨h1, rfl⟩ | ⟨h1, h2, rfl⟩ | ⟨h1, h2, h3, rfl⟩ | ⟨h1, h2, h3, rfl⟩
      all_goals
        go_enter Try.func109, Try.ntmps109
        go_wp2
        go_ret
        exact ⟨by simp [*], rfl⟩
    · have hl := lp_01 y
      have hf : decide (d ≤ 28 + lp y) = false := by simp; omega
      rw [hf]
      clear hf hl
      go_enter Try.func109, Try.ntmps109
      go_wp2
      go_ret
      exact ⟨ret_bool (by simp; omega), rfl⟩
  · have hm2 : (m == 2) = false := by simp [hm]
    by_cases h4 : m = 4 ∨ m = 6 ∨ m = 9 ∨ m = 11
    · have hl : mlen y m = 30 := by unfold mlen; rw [if_neg hm, if_pos h4]
      rw [hl]
      clear hl hm hm2 hd
      rcases h4 with rfl | rfl | rfl | rfl
      all_goals
        go_enter Try.func109, Try.ntmps109
        go_wp2
        go_ret
        exact ⟨ret_bool (by first | rfl | simp), rfl⟩
    · have hl : mlen y m = 31 := by unfold mlen; rw [if_neg hm, if_neg h4]
      rw [hl]
      have g4 : (m == 4) = false := by simp; omega
      have g6 : (m == 6) = false := by simp; omega
      have g9 : (m == 9) = false := by simp; omega
      have g11 : (m == 11) = false := by simp; omega
      clear hl hm h4 hd
      go_enter Try.func109, Try.ntmps109
      go_wp2
      go_ret
      exact ⟨ret_bool (by simp; try omega), rfl⟩

end Go.Proofs.Ytpbkidjbbhkjnaa
