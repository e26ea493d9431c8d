/-
  WALKS: Distance and Near, and the reference's, at every bound.
-/
import Derived.Test.YtfpcfpjnafnjiaaDistD
set_option linter.all false
namespace Go.Proofs.Ytfpcfpjnafnjiaa
open Go.RowKit Osa
attribute [local go_sem high] run_min_i run_max_i

theorem distR_no {a b : ByteArray} {most : Int} (h : most < 0 ∨ most < (a.size : Int) - b.size ∨ most < (b.size : Int) - a.size) : distR a b most = (0, false) := by
  have := lower (a := sb a) (b := sb b) a.size b.size
  unfold distR
  rw [if_neg (by omega)]

set_option maxHeartbeats 3200000 in
set_option maxRecDepth 100000 in
theorem distance_any (a b : ByteArray) (most : Int) (w : World) (ha : a.size ≤ 2000000) (hb : b.size ≤ 2000000) :
    Calls Try.prog 11 #[.string a, .string b, .int .i64 most] w (DistOut (distR a b most) w) := by
  by_cases h : most < 0 ∨ most < (a.size : Int) - b.size ∨ most < (b.size : Int) - a.size
  · rw [distR_no h]
    have hc : most < 0 ∨ (0 ≤ most ∧ most < (a.size : Int) - b.size) ∨ (0 ≤ most ∧ ¬ most < (a.size : Int) - b.size ∧ most < (b.size : Int) - a.size) := by omega
    clear h
    rcases hc with h1 | ⟨h1, h2⟩ | ⟨h1, h2, h3⟩
    · go_enter Try.func11, Try.ntmps11
      go_wp2
      go_returns
      exact ⟨rfl, by repeat (first | exact Below.refl _ _ | refine bl_plus ?_ | refine bl_alloc ?_ _ | refine bl_drew ?_)⟩
    · go_enter Try.func11, Try.ntmps11
      go_wp2
      go_returns
      exact ⟨rfl, by repeat (first | exact Below.refl _ _ | refine bl_plus ?_ | refine bl_alloc ?_ _ | refine bl_drew ?_)⟩
    · go_enter Try.func11, Try.ntmps11
      go_wp2
      go_returns
      exact ⟨rfl, by repeat (first | exact Below.refl _ _ | refine bl_plus ?_ | refine bl_alloc ?_ _ | refine bl_drew ?_)⟩
  · exact distance_run a b most (min most (max (a.size : Int) b.size)).toNat w (by omega) (by omega) (by omega) ha hb (by omega)

set_option maxHeartbeats 1600000 in
theorem distanceOf_any (a b : ByteArray) (most : Int) (w : World) (ha : a.size ≤ 2000000) (hb : b.size ≤ 2000000) :
    Calls Try.prog 43 #[.string a, .string b, .int .i64 most] w (DistOut (distR a b most) w) := by
  have H := hide (fun w => steps_any a b w ha hb)
  by_cases h : (D (sb a) (sb b) a.size b.size : Int) ≤ most
  · have hr : distR a b most = _ := if_pos h
    rw [hr]
    generalize D (sb a) (sb b) a.size b.size = d at *
    clear hr
    go_enter Try.func43, Try.ntmps43
    go_wp2_with (go_at_call 26; refine (H.out _).mono ?_; rintro e w' ⟨rfl, hbl⟩; obtain ⟨os1, n1, rfl⟩ := below_plus hbl; clear hbl)
    go_returns
    exact ⟨rfl, by repeat (first | exact Below.refl _ _ | refine bl_plus ?_ | refine bl_alloc ?_ _ | refine bl_drew ?_)⟩
  · have hr : distR a b most = _ := if_neg h
    rw [hr]
    generalize D (sb a) (sb b) a.size b.size = d at *
    clear hr
    go_enter Try.func43, Try.ntmps43
    go_wp2_with (go_at_call 26; refine (H.out _).mono ?_; rintro e w' ⟨rfl, hbl⟩; obtain ⟨os1, n1, rfl⟩ := below_plus hbl; clear hbl)
    go_returns
    exact ⟨rfl, by repeat (first | exact Below.refl _ _ | refine bl_plus ?_ | refine bl_alloc ?_ _ | refine bl_drew ?_)⟩

def slackR (n : Nat) : Int := if n < 4 then 0 else if n < 8 then 1 else 2
theorem slack_cases (n : Nat) : ((n : Int) < 4 ∧ (n : Int) < 8 ∧ slackR n = 0) ∨ (¬ (n : Int) < 4 ∧ (n : Int) < 8 ∧ slackR n = 1) ∨ (¬ (n : Int) < 4 ∧ ¬ (n : Int) < 8 ∧ slackR n = 2) := by
  unfold slackR
  by_cases h1 : n < 4
  · exact .inl ⟨by omega, by omega, if_pos h1⟩
  · by_cases h2 : n < 8
    · exact .inr (.inl ⟨by omega, by omega, by rw [if_neg h1, if_pos h2]⟩)
    · exact .inr (.inr ⟨by omega, by omega, by rw [if_neg h1, if_neg h2]⟩)

set_option maxHeartbeats 800000 in
theorem slack_any (a : ByteArray) (w : World) : Calls Try.prog 12 #[.string a] w fun e w' => e = .returned (.int .i64 (slackR a.size)) ∧ w = w' := by
  have hc := slack_cases a.size
  generalize slackR a.size = r at hc ⊢
  rcases hc with ⟨h1, h2, rfl⟩ | ⟨h1, h2, rfl⟩ | ⟨h1, h2, rfl⟩
  all_goals
    go_enter Try.func12, Try.ntmps12
    go_wp2
    go_ret
    exact ⟨rfl, rfl⟩

def BOut (r : Bool) (w : World) (e : Ending) (w' : World) : Prop := e = .returned (.bool r) ∧ Below w.heap.size w w'

set_option maxHeartbeats 1600000 in
theorem nearOf_any (a b : ByteArray) (w : World) (ha : a.size ≤ 2000000) (hb : b.size ≤ 2000000) :
    Calls Try.prog 22 #[.string a, .string b] w (BOut (distR a b (slackR a.size)).2 w) := by
  have h := fun w => distanceOf_any a b (slackR a.size) w ha hb
  generalize distR a b (slackR a.size) = r at h ⊢
  have hc := slack_cases a.size
  generalize slackR a.size = k at *
  obtain ⟨r1, r2⟩ := r
  rcases hc with ⟨h1, h2, rfl⟩ | ⟨h1, h2, rfl⟩ | ⟨h1, h2, rfl⟩
  all_goals
    have H := hide h
    clear h
    go_enter Try.func22, Try.ntmps22
    go_wp2_with (first | (go_at_call 43; refine (H.out _).mono ?_; rintro e w' ⟨rfl, hbl⟩; obtain ⟨os1, n1, rfl⟩ := below_plus hbl; clear hbl))
    go_ret
    exact ⟨rfl, by repeat (first | exact Below.refl _ _ | refine bl_plus ?_ | refine bl_alloc ?_ _ | refine bl_drew ?_)⟩

end Go.Proofs.Ytfpcfpjnafnjiaa
