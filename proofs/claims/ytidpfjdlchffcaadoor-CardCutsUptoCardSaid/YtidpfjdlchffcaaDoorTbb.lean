/-
  WALKS: is a text right?
-/
import Derived.Test.YtidpfjdlchffcaaDoorTba
set_option linter.all false
namespace Go.Proofs.YtidpfjdlchffcaaDoor
open Go.RowKit

theorem below_chainT {w W W2 : World} (h : Below w.heap.size w W) (h2 : Below W.heap.size W W2) : Below w.heap.size w W2 := h.trans (h2.mono h.size)

theorem badB_yes {c : UInt8} (h : badB c = true) : ((c.toNat : Int) < 32) ∨ (¬ ((c.toNat : Int) < 32) ∧ ((c.toNat : Int) == 127) = true) := by
  unfold badB at h
  simp only [Bool.or_eq_true, decide_eq_true_eq] at h
  simp only [beq_iff_eq]
  omega

theorem badB_no {c : UInt8} (h : badB c = false) : ¬ ((c.toNat : Int) < 32) ∧ ((c.toNat : Int) == 127) = false := by
  unfold badB at h
  simp only [Bool.or_eq_false_iff, decide_eq_false_iff_not] at h
  simp only [beq_eq_false_iff_ne, ne_eq]
  omega

theorem byte_at (s : ByteArray) (k : Nat) (h : k < s.size) : s[k] ∈ s.data.toList := by
  rw [Array.mem_toList_iff]
  exact Array.getElem_mem h

theorem badT_yes (s : ByteArray) (k : Nat) (h : k < s.size) (hb : badB s[k] = true) : badT s = true := List.any_eq_true.2 ⟨s[k], byte_at s k h, hb⟩

theorem badT_no (s : ByteArray) (h : ∀ j (h : j < s.size), badB s[j] = false) : badT s = false := by
  unfold badT
  rw [List.any_eq_false]
  intro x hx
  rw [Array.mem_toList_iff] at hx
  obtain ⟨i, hi, rfl⟩ := Array.getElem_of_mem hx
  have := h i hi
  rw [show s.data[i] = s[i] from rfl, this]
  exact Bool.false_ne_true

set_option maxHeartbeats 3200000 in
set_option maxRecDepth 100000 in
theorem hasControlT_any (s : ByteArray) (w : World) (hs : s.size ≤ 2000) : Calls Tryd.prog 53 #[.string s] w fun e w' => e = .returned (.bool (badT s)) ∧ Below w.heap.size w w' := by
  have HY := hide (badT_yes s)
  have HN := hide (badT_no s)
  go_enter Tryd.func53, Tryd.ntmps53
  go_wp2
  go_loopw [6] (fun i wr => ∃ (k : Nat), k ≤ s.size ∧ i = .int .i64 k ∧ Hid (∀ j (h : j < s.size), j < k → badB s[j] = false) ∧ Hid (Below w.heap.size w wr)) (fun i _ => s.size - (intOf i).toNat)
  case atStart => exact ⟨0, Nat.zero_le _, rfl, hide (fun j h hj => absurd hj (by omega)), hide (by repeat (first | with_reducible exact Below.refl _ _ | with_reducible refine bl_plus ?_ | with_reducible refine bl_alloc ?_ _ | with_reducible refine bl_drew ?_ | with_reducible refine bl_drewN ?_ _))⟩
  case round =>
    obtain ⟨k, hk, rfl, HA, HB⟩ := hrel
    by_cases hlt : k < s.size
    · have i1 : (k : Int) < (s.size : Int) := by omega
      have HS := hide (fun (h : badB s[k] = false) => (fun (j : Nat) (hj : j < s.size) (hk : j < k + 1) => (if e : j = k then (by subst e; exact h) else HA.out j hj (by omega) : badB s[j] = false)))
      cases hb : badB s[k] with
      | true =>
        have HR := hide (HY.out k hlt hb)
        have hc := badB_yes hb
        clear hb HS
        rcases hc with h1 | ⟨h1, h2⟩
        · go_wp2
          go_ret
          rw [HR.out]
          exact ⟨rfl, HB.out⟩
        · go_wp2
          go_ret
          rw [HR.out]
          exact ⟨rfl, HB.out⟩
      | false =>
        have HS2 := hide (HS.out hb)
        obtain ⟨h1, h2⟩ := badB_no hb
        clear hb HS
        go_wp2
        go_roundw
        case rel => exact ⟨k + 1, hlt, by go_num, hide (fun j h hj => HS2.out j h hj), hide (below_chainT HB.out (by repeat (first | with_reducible exact Below.refl _ _ | with_reducible refine bl_plus ?_ | with_reducible refine bl_alloc ?_ _ | with_reducible refine bl_drew ?_ | with_reducible refine bl_drewN ?_ _)))⟩
        case measure => simp [intOf]; omega
    · obtain rfl : k = s.size := by omega
      have HR := hide (HN.out (fun j h => HA.out j h h))
      go_wp2
      go_ret
      rw [HR.out]
      exact ⟨rfl, HB.out⟩

set_option maxHeartbeats 3200000 in
set_option maxRecDepth 100000 in
theorem belowR_any (s : ByteArray) (w : World) (hs : s.size ≤ 2000) : Calls Tryd.prog 41 #[.string s] w fun e w' => e = .returned (.bool (badT s)) ∧ Below w.heap.size w w' := by
  have HY := hide (badT_yes s)
  have HN := hide (badT_no s)
  go_enter Tryd.func41, Tryd.ntmps41
  go_wp2
  go_loopw [3] (fun i wr => ∃ (k : Nat), k ≤ s.size ∧ i = .int .i64 k ∧ Hid (∀ j (h : j < s.size), j < k → badB s[j] = false) ∧ Hid (Below w.heap.size w wr)) (fun i _ => s.size - (intOf i).toNat)
  case atStart => exact ⟨0, Nat.zero_le _, rfl, hide (fun j h hj => absurd hj (by omega)), hide (by repeat (first | with_reducible exact Below.refl _ _ | with_reducible refine bl_plus ?_ | with_reducible refine bl_alloc ?_ _ | with_reducible refine bl_drew ?_ | with_reducible refine bl_drewN ?_ _))⟩
  case round =>
    obtain ⟨k, hk, rfl, HA, HB⟩ := hrel
    by_cases hlt : k < s.size
    · have i1 : (k : Int) < (s.size : Int) := by omega
      have HS := hide (fun (h : badB s[k] = false) => (fun (j : Nat) (hj : j < s.size) (hk : j < k + 1) => (if e : j = k then (by subst e; exact h) else HA.out j hj (by omega) : badB s[j] = false)))
      cases hb : badB s[k] with
      | true =>
        have HR := hide (HY.out k hlt hb)
        have hc := badB_yes hb
        clear hb HS
        rcases hc with h1 | ⟨h1, h2⟩
        · go_wp2
          go_ret
          rw [HR.out]
          exact ⟨rfl, HB.out⟩
        · go_wp2
          go_ret
          rw [HR.out]
          exact ⟨rfl, HB.out⟩
      | false =>
        have HS2 := hide (HS.out hb)
        obtain ⟨h1, h2⟩ := badB_no hb
        clear hb HS
        go_wp2
        go_roundw
        case rel => exact ⟨k + 1, hlt, by go_num, hide (fun j h hj => HS2.out j h hj), hide (below_chainT HB.out (by repeat (first | with_reducible exact Below.refl _ _ | with_reducible refine bl_plus ?_ | with_reducible refine bl_alloc ?_ _ | with_reducible refine bl_drew ?_ | with_reducible refine bl_drewN ?_ _)))⟩
        case measure => simp [intOf]; omega
    · obtain rfl : k = s.size := by omega
      have HR := hide (HN.out (fun j h => HA.out j h h))
      go_wp2
      go_ret
      rw [HR.out]
      exact ⟨rfl, HB.out⟩

set_option maxHeartbeats 3200000 in
set_option maxRecDepth 100000 in
theorem textCheck_any (s : ByteArray) (w : World) : Calls Tryd.prog 39 #[.string s] w fun e w' => e = .returned (.int .i64 (textErr s)) ∧ Below w.heap.size w w' := by
  unfold textErr
  by_cases h0 : 2000 < s.size
  · rw [if_pos h0]
    have i1 : (2000 : Int) < (s.size : Int) := by omega
    clear h0
    go_enter Tryd.func39, Tryd.ntmps39
    go_wp2
    go_ret
    exact ⟨rfl, (by repeat (first | with_reducible exact Below.refl _ _ | with_reducible refine bl_plus ?_ | with_reducible refine bl_alloc ?_ _ | with_reducible refine bl_drew ?_ | with_reducible refine bl_drewN ?_ _))⟩
  · rw [if_neg h0]
    have i1 : ¬ (2000 : Int) < (s.size : Int) := by omega
    have HC := hide (fun W => hasControlT_any s W (by omega))
    clear h0
    generalize badT s = b at *
    cases b with
    | true =>
      go_enter Tryd.func39, Tryd.ntmps39
      go_wp2_with (go_at_call 53; (refine (HC.out _).mono ?_); rintro e w' ⟨rfl, hbl⟩; obtain ⟨os1, n1, rfl⟩ := below_plus hbl; clear hbl)
      go_ret
      exact ⟨rfl, (by repeat (first | with_reducible exact Below.refl _ _ | with_reducible refine bl_plus ?_ | with_reducible refine bl_alloc ?_ _ | with_reducible refine bl_drew ?_ | with_reducible refine bl_drewN ?_ _))⟩
    | false =>
      go_enter Tryd.func39, Tryd.ntmps39
      go_wp2_with (go_at_call 53; (refine (HC.out _).mono ?_); rintro e w' ⟨rfl, hbl⟩; obtain ⟨os1, n1, rfl⟩ := below_plus hbl; clear hbl)
      go_ret
      exact ⟨rfl, (by repeat (first | with_reducible exact Below.refl _ _ | with_reducible refine bl_plus ?_ | with_reducible refine bl_alloc ?_ _ | with_reducible refine bl_drew ?_ | with_reducible refine bl_drewN ?_ _))⟩

set_option maxHeartbeats 3200000 in
set_option maxRecDepth 100000 in
theorem textError_any (s : ByteArray) (w : World) : Calls Tryd.prog 22 #[.string s] w fun e w' => e = .returned (.int .i64 (textErr s)) ∧ Below w.heap.size w w' := by
  unfold textErr
  by_cases h0 : 2000 < s.size
  · rw [if_pos h0]
    have i1 : (2000 : Int) < (s.size : Int) := by omega
    clear h0
    go_enter Tryd.func22, Tryd.ntmps22
    go_wp2
    go_ret
    exact ⟨rfl, (by repeat (first | with_reducible exact Below.refl _ _ | with_reducible refine bl_plus ?_ | with_reducible refine bl_alloc ?_ _ | with_reducible refine bl_drew ?_ | with_reducible refine bl_drewN ?_ _))⟩
  · rw [if_neg h0]
    have i1 : ¬ (2000 : Int) < (s.size : Int) := by omega
    have HC := hide (fun W => belowR_any s W (by omega))
    clear h0
    generalize badT s = b at *
    cases b with
    | true =>
      go_enter Tryd.func22, Tryd.ntmps22
      go_wp2_with (go_at_call 41; (refine (HC.out _).mono ?_); rintro e w' ⟨rfl, hbl⟩; obtain ⟨os1, n1, rfl⟩ := below_plus hbl; clear hbl)
      go_ret
      exact ⟨rfl, (by repeat (first | with_reducible exact Below.refl _ _ | with_reducible refine bl_plus ?_ | with_reducible refine bl_alloc ?_ _ | with_reducible refine bl_drew ?_ | with_reducible refine bl_drewN ?_ _))⟩
    | false =>
      go_enter Tryd.func22, Tryd.ntmps22
      go_wp2_with (go_at_call 41; (refine (HC.out _).mono ?_); rintro e w' ⟨rfl, hbl⟩; obtain ⟨os1, n1, rfl⟩ := below_plus hbl; clear hbl)
      go_ret
      exact ⟨rfl, (by repeat (first | with_reducible exact Below.refl _ _ | with_reducible refine bl_plus ?_ | with_reducible refine bl_alloc ?_ _ | with_reducible refine bl_drew ?_ | with_reducible refine bl_drewN ?_ _))⟩

end Go.Proofs.YtidpfjdlchffcaaDoor
