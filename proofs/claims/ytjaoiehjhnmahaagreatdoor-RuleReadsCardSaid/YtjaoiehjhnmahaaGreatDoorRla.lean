/-
  PLAIN AND WALKS: numbers that rise, in the program and in the reference.
-/
import Derived.Test.YtjaoiehjhnmahaaGreatDoorDayC
set_option linter.all false
namespace Go.Proofs.YtjaoiehjhnmahaaGreatDoor
open Go.RowKit

/-- What is wrong of the k-th number. -/
def riseAt (l : List Int) (lo hi : Int) (zero : Bool) (k : Nat) : Int :=
  if l.getD k 0 < lo ∨ hi < l.getD k 0 ∨ (l.getD k 0 = 0 ∧ zero = false) then 2 else if 0 < k ∧ l.getD k 0 ≤ l.getD (k - 1) 0 then 5 else 0

/-- What is wrong of numbers that should rise. -/
def rise (l : List Int) (lo hi : Int) (zero : Bool) : Int := match (List.range l.length).find? (fun k => riseAt l lo hi zero k != 0) with
  | some k => riseAt l lo hi zero k
  | none => 0

theorem rise_none {l : List Int} {lo hi : Int} {zero : Bool} (h : ∀ j, j < l.length → riseAt l lo hi zero j = 0) : rise l lo hi zero = 0 := by
  unfold rise
  rw [List.find?_eq_none.2 (fun k hk => by rw [h k (List.mem_range.1 hk)]; simp)]

theorem rise_first {l : List Int} {lo hi : Int} {zero : Bool} {k : Nat} (hk : k < l.length) (h : ∀ j, j < k → riseAt l lo hi zero j = 0) (hne : riseAt l lo hi zero k ≠ 0) : rise l lo hi zero = riseAt l lo hi zero k := by
  unfold rise
  have : (List.range l.length).find? (fun k => riseAt l lo hi zero k != 0) = some k := by
    rw [List.find?_range_eq_some]
    refine ⟨by simpa using hne, List.mem_range.2 hk, fun j hj => by simp [h j hj]⟩
  rw [this]

/-- What a right row of numbers is. -/
theorem rise_bd {l : List Int} {lo hi : Int} {zero : Bool} (h : rise l lo hi zero = 0) : ∀ j, j < l.length → lo ≤ l.getD j 0 ∧ l.getD j 0 ≤ hi := by
  intro j hj
  have h0 : ∀ j, j < l.length → riseAt l lo hi zero j = 0 := by
    intro j hj
    unfold rise at h
    cases hf : (List.range l.length).find? (fun k => riseAt l lo hi zero k != 0) with
    | none =>
      have := List.find?_eq_none.1 hf j (List.mem_range.2 hj)
      simpa using this
    | some k =>
      rw [hf] at h
      have := List.find?_some hf
      simp only at h
      rw [h] at this
      simp at this
  have := h0 j hj
  unfold riseAt at this
  split at this
  · cases this
  · rename_i hc
    omega

theorem riseAt_cases (l : List Int) (lo hi : Int) (zero : Bool) (k : Nat) :
    (riseAt l lo hi zero k = 2 ∧ (decide (l.getD k 0 < lo) || decide (hi < l.getD k 0)) = true) ∨
    ((decide (l.getD k 0 < lo) || decide (hi < l.getD k 0)) = false ∧
      ((riseAt l lo hi zero k = 2 ∧ l.getD k 0 = 0 ∧ zero = false) ∨
       ((l.getD k 0 ≠ 0 ∨ (l.getD k 0 = 0 ∧ zero = true)) ∧
         ((riseAt l lo hi zero k = 5 ∧ ∃ m, k = m + 1 ∧ l.getD k 0 ≤ l.getD m 0) ∨
          (riseAt l lo hi zero k = 0 ∧ ((∃ m, k = m + 1 ∧ l.getD m 0 < l.getD k 0) ∨ k = 0)))))) := by
  unfold riseAt
  by_cases h1 : l.getD k 0 < lo ∨ hi < l.getD k 0
  · left
    refine ⟨if_pos (by rcases h1 with h | h; exact .inl h; exact .inr (.inl h)), by simpa using h1⟩
  · right
    have h1' : ¬ l.getD k 0 < lo ∧ ¬ hi < l.getD k 0 := by omega
    refine ⟨by rw [Bool.or_eq_false_iff]; exact ⟨decide_eq_false h1'.1, decide_eq_false h1'.2⟩, ?_⟩
    by_cases h2 : l.getD k 0 = 0 ∧ zero = false
    · left
      exact ⟨if_pos (.inr (.inr h2)), h2⟩
    · right
      rw [if_neg (by rintro (h | h | h); exact h1 (.inl h); exact h1 (.inr h); exact h2 h)]
      refine ⟨?_, ?_⟩
      · by_cases h3 : l.getD k 0 = 0
        · exact .inr ⟨h3, by cases zero; exact absurd ⟨h3, rfl⟩ h2; rfl⟩
        · exact .inl h3
      · cases k with
        | zero => exact .inr ⟨by simp, .inr rfl⟩
        | succ m =>
          by_cases h3 : l.getD (m + 1) 0 ≤ l.getD m 0
          · exact .inl ⟨if_pos ⟨by omega, h3⟩, m, rfl, h3⟩
          · exact .inr ⟨if_neg (fun h => h3 h.2), .inl ⟨m, rfl, by omega⟩⟩

theorem outsideE_any (n lo hi : Int) (w : World) : Calls Tryz.prog 102 #[.int .i64 n, .int .i64 lo, .int .i64 hi] w fun e w' => e = .returned (.bool (decide (n < lo) || decide (hi < n))) ∧ w' = w := by
  go_enter Tryz.func102, Tryz.ntmps102
  by_cases h : n < lo
  · go_wp2
    go_ret
    exact ⟨by simp [h], rfl⟩
  · go_wp2
    go_ret
    exact ⟨by simp; intro h2; omega, rfl⟩

set_option maxHeartbeats 1600000 in
set_option maxRecDepth 100000 in
theorem checkRising_any (A : Option Addr) (c : Nat) (l : List Int) (lo hi : Int) (zero : Bool) (w : World) (hA : IntsAt w A l) (hm : l.length ≤ maxLen) :
    Calls Tryz.prog 105 #[.slice A l.length c, .int .i64 lo, .int .i64 hi, .bool zero] w fun e w' => e = .returned (.int .i64 (rise l lo hi zero)) ∧ w' = w := by
  unfold maxLen at hm
  have HN := hide (fun h => rise_none (l := l) (lo := lo) (hi := hi) (zero := zero) h)
  have HF := hide (fun k hk h hne => rise_first (l := l) (lo := lo) (hi := hi) (zero := zero) (k := k) hk h hne)
  have HA := hide hA
  clear hA
  generalize rise l lo hi zero = R at *
  go_enter Tryz.func105, Tryz.ntmps105
  go_wp2
  go_loop [13] (fun i => ∃ k : Nat, k ≤ l.length ∧ i = .int .i64 k ∧ Hid (∀ j, j < k → riseAt l lo hi zero j = 0)) (fun i => l.length - (intOf i).toNat)
  case atStart => exact ⟨0, Nat.zero_le _, rfl, hide (fun j hj => by omega)⟩
  case round =>
    obtain ⟨k, hk, rfl, HK⟩ := hrel
    by_cases hlt : k < l.length
    · obtain ⟨b, off, rfl, hb, hcell⟩ := HA.out (by omega)
      have c1 := hcell k hlt
      have hd : l.getD k 0 = l[k] := by rw [List.getD_eq_getElem?_getD, List.getElem?_eq_getElem hlt]; rfl
      rw [← hd] at c1
      have hf := HF.out k hlt HK.out
      have HC := hide hcell
      have hcases := riseAt_cases l lo hi zero k
      have hprev : ∀ m, k = m + 1 → w.cell? ⟨b, off + m, none⟩ = some (.int .i64 (l.getD m 0)) := fun m hm => by
        have hm2 : m < l.length := by omega
        rw [List.getD_eq_getElem?_getD, List.getElem?_eq_getElem hm2]
        exact HC.out m hm2
      have HP := hide hprev
      clear hcell hd hprev
      rcases hcases with ⟨hr, h1⟩ | ⟨h1, ⟨hr, h2, rfl⟩ | ⟨h2, ⟨hr, m, rfl, h3⟩ | ⟨hr, ⟨m, rfl, h3⟩ | rfl⟩⟩⟩
      · rw [hr] at hf
        have hf := hf (by decide)
        subst hf
        clear hr
        generalize l.getD k 0 = x at *
        go_wp2_with (go_at_call 102; refine (outsideE_any _ _ _ _).mono ?_; rintro e w' ⟨rfl, rfl⟩)
        go_ret
        exact ⟨rfl, rfl⟩
      · rw [hr] at hf
        have hf := hf (by decide)
        subst hf
        clear hr
        rw [h2] at c1 h1
        go_wp2_with (go_at_call 102; refine (outsideE_any _ _ _ _).mono ?_; rintro e w' ⟨rfl, rfl⟩)
        go_ret
        exact ⟨rfl, rfl⟩
      · rw [hr] at hf
        have hf := hf (by decide)
        subst hf
        clear hr
        have c0 := HP.out m rfl
        generalize l.getD (m + 1) 0 = x at *
        generalize l.getD m 0 = y at *
        rcases h2 with h2 | ⟨rfl, rfl⟩
        all_goals
          go_wp2_with (go_at_call 102; refine (outsideE_any _ _ _ _).mono ?_; rintro e w' ⟨rfl, rfl⟩)
          go_ret
          exact ⟨rfl, rfl⟩
      · clear hf
        have c0 := HP.out m rfl
        have HR := hide hr
        clear hr
        generalize l.getD (m + 1) 0 = x at *
        generalize l.getD m 0 = y at *
        rcases h2 with h2 | ⟨rfl, rfl⟩
        all_goals
          go_wp2_with (go_at_call 102; refine (outsideE_any _ _ _ _).mono ?_; rintro e w' ⟨rfl, rfl⟩)
          go_round
          case rel =>
            refine ⟨m + 2, by omega, by go_num, hide (fun j hj => ?_)⟩
            rcases Nat.lt_or_ge j (m + 1) with h | h
            · exact HK.out j h
            · rw [show j = m + 1 by omega]; exact HR.out
          case measure => simp [intOf]; omega
      · clear hf
        have HR := hide hr
        clear hr
        generalize l.getD 0 0 = x at *
        rw [Nat.add_zero] at c1
        rcases h2 with h2 | ⟨rfl, rfl⟩
        all_goals
          go_wp2_with (go_at_call 102; refine (outsideE_any _ _ _ _).mono ?_; rintro e w' ⟨rfl, rfl⟩)
          go_round
          case rel => exact ⟨1, by omega, by go_num, hide (fun j hj => by rw [show j = 0 by omega]; exact HR.out)⟩
          case measure => simp [intOf]; omega
    · have hr : R = 0 := HN.out (fun j hj => HK.out j (by omega))
      subst hr
      have hk2 : k = l.length := by omega
      subst hk2
      go_wp2
      go_ret
      exact ⟨rfl, rfl⟩

set_option maxHeartbeats 1600000 in
set_option maxRecDepth 100000 in
theorem rising_any (A : Option Addr) (c : Nat) (l : List Int) (lo hi : Int) (w : World) (hA : IntsAt w A l) (hm : l.length ≤ maxLen) :
    Calls Tryz.prog 110 #[.slice A l.length c, .int .i64 lo, .int .i64 hi] w fun e w' => e = .returned (.int .i64 (rise l lo hi true)) ∧ w' = w := by
  unfold maxLen at hm
  have HN := hide (fun h => rise_none (l := l) (lo := lo) (hi := hi) (zero := true) h)
  have HF := hide (fun k hk h hne => rise_first (l := l) (lo := lo) (hi := hi) (zero := true) (k := k) hk h hne)
  have HA := hide hA
  clear hA
  generalize rise l lo hi true = R at *
  go_enter Tryz.func110, Tryz.ntmps110
  go_wp2
  go_loop [11] (fun i => ∃ k : Nat, k ≤ l.length ∧ i = .int .i64 k ∧ Hid (∀ j, j < k → riseAt l lo hi true j = 0)) (fun i => l.length - (intOf i).toNat)
  case atStart => exact ⟨0, Nat.zero_le _, rfl, hide (fun j hj => by omega)⟩
  case round =>
    obtain ⟨k, hk, rfl, HK⟩ := hrel
    by_cases hlt : k < l.length
    · obtain ⟨b, off, rfl, hb, hcell⟩ := HA.out (by omega)
      have c1 := hcell k hlt
      have hd : l.getD k 0 = l[k] := by rw [List.getD_eq_getElem?_getD, List.getElem?_eq_getElem hlt]; rfl
      rw [← hd] at c1
      have hf := HF.out k hlt HK.out
      have HC := hide hcell
      have hcases := riseAt_cases l lo hi true k
      have hprev : ∀ m, k = m + 1 → w.cell? ⟨b, off + m, none⟩ = some (.int .i64 (l.getD m 0)) := fun m hm => by
        have hm2 : m < l.length := by omega
        rw [List.getD_eq_getElem?_getD, List.getElem?_eq_getElem hm2]
        exact HC.out m hm2
      have HP := hide hprev
      clear hcell hd hprev
      rw [Bool.or_eq_true, Bool.or_eq_false_iff, decide_eq_true_eq, decide_eq_true_eq, decide_eq_false_iff_not, decide_eq_false_iff_not] at hcases
      rcases hcases with ⟨hr, h1⟩ | ⟨⟨h1, h1'⟩, ⟨hr, h2, hz⟩ | ⟨h2, ⟨hr, m, rfl, h3⟩ | ⟨hr, ⟨m, rfl, h3⟩ | rfl⟩⟩⟩
      · rw [hr] at hf
        have hf := hf (by decide)
        subst hf
        clear hr
        generalize l.getD k 0 = x at *
        by_cases h4 : x < lo
        all_goals
          go_wp2
          go_ret
          exact ⟨rfl, rfl⟩
      · cases hz
      · rw [hr] at hf
        have hf := hf (by decide)
        subst hf
        clear hr
        have c0 := HP.out m rfl
        generalize l.getD (m + 1) 0 = x at *
        generalize l.getD m 0 = y at *
        rcases h2 with h2 | ⟨rfl, -⟩
        all_goals
          go_wp2
          go_ret
          exact ⟨rfl, rfl⟩
      · clear hf
        have c0 := HP.out m rfl
        have HR := hide hr
        clear hr
        generalize l.getD (m + 1) 0 = x at *
        generalize l.getD m 0 = y at *
        rcases h2 with h2 | ⟨rfl, -⟩
        all_goals
          go_wp2
          go_round
          case rel =>
            refine ⟨m + 2, by omega, by go_num, hide (fun j hj => ?_)⟩
            rcases Nat.lt_or_ge j (m + 1) with h | h
            · exact HK.out j h
            · rw [show j = m + 1 by omega]; exact HR.out
          case measure => simp [intOf]; omega
      · clear hf
        have HR := hide hr
        clear hr
        generalize l.getD 0 0 = x at *
        rw [Nat.add_zero] at c1
        rcases h2 with h2 | ⟨rfl, -⟩
        all_goals
          go_wp2
          go_round
          case rel => exact ⟨1, by omega, by go_num, hide (fun j hj => by rw [show j = 0 by omega]; exact HR.out)⟩
          case measure => simp [intOf]; omega
    · have hr : R = 0 := HN.out (fun j hj => HK.out j (by omega))
      subst hr
      have hk2 : k = l.length := by omega
      subst hk2
      go_wp2
      go_ret
      exact ⟨rfl, rfl⟩

end Go.Proofs.YtjaoiehjhnmahaaGreatDoor
