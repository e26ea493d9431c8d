/-
  WALK: a rule's error in the reference, whatever the rule.
-/
import Derived.Test.YtjaoiehjhnmahaaGreatDoorRlc
import Derived.Test.YtjaoiehjhnmahaaGreatDoorRle
set_option linter.all false
namespace Go.Proofs.YtjaoiehjhnmahaaGreatDoor
open Go.RowKit

set_option maxHeartbeats 6400000 in
set_option maxRecDepth 100000 in
theorem ruleFault_out (r : Rul) (v : Value) (w : World) (h : RulAt w r v) (hc : ((r.u < 1 ∨ 4 < r.u) ∧ r.err = 10) ∨ ((1 ≤ r.u ∧ r.u ≤ 4) ∧ (
    ((r.e < 1 ∨ 1000 < r.e) ∧ r.err = 2) ∨ ((1 ≤ r.e ∧ r.e ≤ 1000) ∧ (
    ((r.f < 0 ∨ 100000 < r.f) ∧ r.err = 2) ∨ ((0 ≤ r.f ∧ r.f ≤ 100000) ∧ (
    ((r.t < -1 ∨ 100000 < r.t) ∧ r.err = 2) ∨ ((-1 ≤ r.t ∧ r.t ≤ 100000) ∧
    ((r.c < 0 ∨ 5000 < r.c) ∧ r.err = 2))))))))) :
    Calls Tryz.prog 34 #[v] w fun e w' => e = .returned (.int .i64 r.err) ∧ Below w.heap.size w w' := by
  obtain ⟨A, B, C, a, b, c, rfl, h1, h2, h3, h4, h5, h6⟩ := h.ex
  unfold maxLen at h4 h5 h6
  clear h h1 h2 h3
  generalize r.err = E at *
  obtain ⟨u, e, f, t, cc, n, wd, da, sk⟩ := r
  simp only at hc h4 h5 h6 ⊢
  generalize wd.length = lw at *
  generalize da.length = ld at *
  generalize sk.length = ls at *
  go_enter Tryz.func34, Tryz.ntmps34
  rcases hc with ⟨k1 | k1, rfl⟩ | ⟨⟨a1, a2⟩, ⟨k1 | k1, rfl⟩ | ⟨⟨b1, b2⟩, ⟨k1, rfl⟩ | ⟨⟨c1, c2⟩, ⟨k1 | k1, rfl⟩ | ⟨⟨d1, d2⟩, k1 | k1, rfl⟩⟩⟩⟩
  all_goals (
    go_wp2_with (go_at_call 84; first
          | (with_reducible refine Calls.mono (isDay_no _ _ (by omega)) ?_; rintro e w' ⟨rfl, rfl⟩)
          | (with_reducible refine Calls.mono (isDay_yes _ _ (by omega) (by omega)) ?_; rintro e w' ⟨rfl, rfl⟩))
    go_ret
    exact ⟨rfl, (by repeat (first | exact Below.refl _ _ | refine bl_plus ?_ | refine bl_alloc ?_ _ | refine bl_drew ?_))⟩)

theorem ruleFault_any (r : Rul) (v : Value) (w : World) (h : RulAt w r v) :
    Calls Tryz.prog 34 #[v] w fun e w' => e = .returned (.int .i64 r.err) ∧ Below w.heap.size w w' := by
  rcases r.cases1 with hc | ⟨ha, hc | ⟨hb, hc | ⟨hd, hc | ⟨he, hc | ⟨hf, ⟨hP, hE⟩ | ⟨hP, hc⟩⟩⟩⟩⟩⟩
  · exact ruleFault_out r v w h (.inl hc)
  · exact ruleFault_out r v w h (.inr ⟨ha, .inl hc⟩)
  · exact ruleFault_out r v w h (.inr ⟨ha, .inr ⟨hb, .inl hc⟩⟩)
  · exact ruleFault_out r v w h (.inr ⟨ha, .inr ⟨hb, .inr ⟨hd, .inl hc⟩⟩⟩)
  · exact ruleFault_out r v w h (.inr ⟨ha, .inr ⟨hb, .inr ⟨hd, .inr ⟨he, hc⟩⟩⟩⟩)
  · exact ruleFault_parts r v w h ha hb hd he hf hP hE
  · exact ruleFault_near r v w h ha hb hd he hf hP hc

end Go.Proofs.YtjaoiehjhnmahaaGreatDoor
