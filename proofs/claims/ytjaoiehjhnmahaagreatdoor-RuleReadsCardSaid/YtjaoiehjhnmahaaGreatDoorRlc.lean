/-
  WALK: a rule's error in the reference.
-/
import Derived.Test.YtjaoiehjhnmahaaGreatDoorRlb
set_option linter.all false
namespace Go.Proofs.YtjaoiehjhnmahaaGreatDoor
open Go.RowKit

set_option maxHeartbeats 6400000 in
set_option maxRecDepth 100000 in
theorem ruleFault_parts (r : Rul) (v : Value) (w : World) (h : RulAt w r v) (a : 1 ≤ r.u ∧ r.u ≤ 4) (b : 1 ≤ r.e ∧ r.e ≤ 1000) (c : 0 ≤ r.f ∧ r.f ≤ 100000) (d : -1 ≤ r.t ∧ r.t ≤ 100000) (e : 0 ≤ r.c ∧ r.c ≤ 5000)
    (hP : r.partsErr = 1) (hE : r.err = 1) :
    Calls Tryz.prog 34 #[v] w fun e w' => e = .returned (.int .i64 r.err) ∧ Below w.heap.size w w' := by
  obtain ⟨A, B, C, a', b', c', rfl, h1, h2, h3, h4, h5, h6⟩ := h.ex
  obtain ⟨lw, ld, hlw, hld, hp⟩ := r.parts_cases
  unfold maxLen at h4 h5 h6
  clear h h1 h2 h3
  generalize r.err = E at *
  generalize r.partsErr = P at *
  obtain ⟨u, e, f, t, cc, n, wd, da, sk⟩ := r
  simp only at hP hE h4 h5 h6 hlw hld hp a b c d e ⊢
  rw [hlw] at h4 ⊢
  rw [hld] at h5 ⊢
  generalize hls : sk.length = ls at *
  clear hls
  obtain ⟨a1, a2⟩ := a
  obtain ⟨b1, b2⟩ := b
  obtain ⟨c1, c2⟩ := c
  obtain ⟨d1, d2⟩ := d
  obtain ⟨e1, e2⟩ := e
  subst hE
  clear hld hlw
  have HI := hide (fun w => isDay_yes f w c1 c2)
  go_enter Tryz.func34, Tryz.ntmps34
  rcases hp with ⟨⟨k1, k2, k3⟩, rfl⟩ | ⟨⟨k1, rfl⟩, k2, rfl⟩ | ⟨⟨k1, rfl⟩, rfl, rfl, rfl⟩ | ⟨⟨k1, rfl⟩, rfl, k2, rfl⟩ | ⟨⟨k1, rfl⟩, k2, rfl⟩ | ⟨⟨k1, rfl⟩, rfl, rfl, rfl⟩ | ⟨⟨k1, rfl⟩, rfl, k2, rfl⟩ | ⟨rfl, k1, k2, rfl⟩ | ⟨rfl, k1, rfl, rfl, rfl⟩ | ⟨rfl, k1, rfl, k2, rfl⟩ | ⟨rfl, rfl, rfl, rfl, rfl⟩ | ⟨rfl, rfl, rfl, k2, rfl⟩ | ⟨rfl, rfl, k1, rfl, rfl⟩ | ⟨rfl, rfl, k1, k2, rfl⟩
  all_goals try (exfalso; omega)
  all_goals
    try have q2 : (u != 2) = true := by rw [bne, k2]; rfl
    try have q3 : (u != 3) = true := by first | (rw [bne, k3]; rfl) | (rw [bne, k2]; rfl) | (rw [bne, k1]; rfl)
    try have q9 : (n != 0) = true := by rw [bne, k2]; rfl
    clear hP
    go_wp2_with (go_at_call 84; refine (HI.out _).mono ?_; rintro e w' ⟨rfl, rfl⟩)
    go_ret
    exact ⟨(by first | rfl | simp [*]), (by repeat (first | exact Below.refl _ _ | refine bl_plus ?_ | refine bl_alloc ?_ _ | refine bl_drew ?_))⟩
end Go.Proofs.YtjaoiehjhnmahaaGreatDoor
