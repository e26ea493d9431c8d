/-
  WALKS: is a byte a letter, a digit, a mark; can it be in a target, in a tag?
-/
import Derived.Test.YtioppoaijehicaaGreatDoorSpb
set_option linter.all false
namespace Go.Proofs.YtioppoaijehicaaGreatDoor
open Go.RowKit

theorem ret_boolS {a b : Bool} (h : a = b) : Ending.returned (.bool a) = .returned (.bool b) := by rw [h]

set_option maxHeartbeats 1600000 in
theorem isLetterT_any (c : UInt8) (w : World) :
    Calls Tryz.prog 247 #[.int .u8 (c.toNat : Int)] w fun e w' => e = .returned (.bool (isLt c)) ∧ w = w' := by
  have h1 := c.toNat_lt
  obtain ⟨n, hn⟩ : ∃ n : Int, n = (c.toNat : Int) := ⟨_, rfl⟩
  have hc : ((n ≤ 64) ∧ isLt c = false) ∨ ((65 ≤ n ∧ n ≤ 90) ∧ isLt c = true) ∨ ((91 ≤ n ∧ n ≤ 96) ∧ isLt c = false) ∨ ((97 ≤ n ∧ n ≤ 122) ∧ isLt c = true) ∨ ((123 ≤ n ∧ n ≤ 127) ∧ isLt c = false) ∨ ((128 ≤ n) ∧ isLt c = true) := by
    simp only [isLt, Bool.or_eq_false_iff, Bool.or_eq_true, decide_eq_true_eq, decide_eq_false_iff_not]; omega
  rw [← hn]
  clear hn h1
  generalize isLt c = r at hc ⊢
  rcases hc with ⟨q, rfl⟩ | ⟨⟨q, q2⟩, rfl⟩ | ⟨⟨q, q2⟩, rfl⟩ | ⟨⟨q, q2⟩, rfl⟩ | ⟨⟨q, q2⟩, rfl⟩ | ⟨q, rfl⟩
  all_goals
    go_enter Tryz.func247, Tryz.ntmps247
    go_wp2
    go_ret
    exact ⟨ret_boolS (by first | rfl | (simp; omega)), rfl⟩

set_option maxHeartbeats 1600000 in
theorem isLetterR_any (c : UInt8) (w : World) :
    Calls Tryz.prog 164 #[.int .u8 (c.toNat : Int)] w fun e w' => e = .returned (.bool (isLt c)) ∧ w = w' := by
  have h1 := c.toNat_lt
  obtain ⟨n, hn⟩ : ∃ n : Int, n = (c.toNat : Int) := ⟨_, rfl⟩
  have hc : ((n ≤ 64) ∧ isLt c = false) ∨ ((65 ≤ n ∧ n ≤ 90) ∧ isLt c = true) ∨ ((91 ≤ n ∧ n ≤ 96) ∧ isLt c = false) ∨ ((97 ≤ n ∧ n ≤ 122) ∧ isLt c = true) ∨ ((123 ≤ n ∧ n ≤ 127) ∧ isLt c = false) ∨ ((128 ≤ n) ∧ isLt c = true) := by
    simp only [isLt, Bool.or_eq_false_iff, Bool.or_eq_true, decide_eq_true_eq, decide_eq_false_iff_not]; omega
  rw [← hn]
  clear hn h1
  generalize isLt c = r at hc ⊢
  rcases hc with ⟨q, rfl⟩ | ⟨⟨q, q2⟩, rfl⟩ | ⟨⟨q, q2⟩, rfl⟩ | ⟨⟨q, q2⟩, rfl⟩ | ⟨⟨q, q2⟩, rfl⟩ | ⟨q, rfl⟩
  all_goals
    go_enter Tryz.func164, Tryz.ntmps164
    go_wp2
    go_ret
    exact ⟨ret_boolS (by first | rfl | (simp; omega)), rfl⟩

set_option maxHeartbeats 1600000 in
theorem isDigitT_any (c : UInt8) (w : World) :
    Calls Tryz.prog 246 #[.int .u8 (c.toNat : Int)] w fun e w' => e = .returned (.bool (isDg c)) ∧ w = w' := by
  have h1 := c.toNat_lt
  obtain ⟨n, hn⟩ : ∃ n : Int, n = (c.toNat : Int) := ⟨_, rfl⟩
  have hc : ((n ≤ 47) ∧ isDg c = false) ∨ ((48 ≤ n ∧ n ≤ 57) ∧ isDg c = true) ∨ ((58 ≤ n) ∧ isDg c = false) := by
    simp only [isDg, Bool.or_eq_false_iff, Bool.or_eq_true, decide_eq_true_eq, decide_eq_false_iff_not]; omega
  rw [← hn]
  clear hn h1
  generalize isDg c = r at hc ⊢
  rcases hc with ⟨q, rfl⟩ | ⟨⟨q, q2⟩, rfl⟩ | ⟨q, rfl⟩
  all_goals
    go_enter Tryz.func246, Tryz.ntmps246
    go_wp2
    go_ret
    exact ⟨ret_boolS (by first | rfl | (simp; omega)), rfl⟩

set_option maxHeartbeats 1600000 in
theorem isDigitR_any (c : UInt8) (w : World) :
    Calls Tryz.prog 163 #[.int .u8 (c.toNat : Int)] w fun e w' => e = .returned (.bool (isDg c)) ∧ w = w' := by
  have h1 := c.toNat_lt
  obtain ⟨n, hn⟩ : ∃ n : Int, n = (c.toNat : Int) := ⟨_, rfl⟩
  have hc : ((n ≤ 47) ∧ isDg c = false) ∨ ((48 ≤ n ∧ n ≤ 57) ∧ isDg c = true) ∨ ((58 ≤ n) ∧ isDg c = false) := by
    simp only [isDg, Bool.or_eq_false_iff, Bool.or_eq_true, decide_eq_true_eq, decide_eq_false_iff_not]; omega
  rw [← hn]
  clear hn h1
  generalize isDg c = r at hc ⊢
  rcases hc with ⟨q, rfl⟩ | ⟨⟨q, q2⟩, rfl⟩ | ⟨q, rfl⟩
  all_goals
    go_enter Tryz.func163, Tryz.ntmps163
    go_wp2
    go_ret
    exact ⟨ret_boolS (by first | rfl | (simp; omega)), rfl⟩

set_option maxHeartbeats 1600000 in
theorem isPunctT_any (c : UInt8) (w : World) :
    Calls Tryz.prog 243 #[.int .u8 (c.toNat : Int)] w fun e w' => e = .returned (.bool (isPu c)) ∧ w = w' := by
  have h1 := c.toNat_lt
  obtain ⟨n, hn⟩ : ∃ n : Int, n = (c.toNat : Int) := ⟨_, rfl⟩
  have hc : ((n ≤ 32) ∧ isPu c = false) ∨ ((33 ≤ n ∧ n ≤ 47) ∧ isPu c = true) ∨ ((48 ≤ n ∧ n ≤ 57) ∧ isPu c = false) ∨ ((58 ≤ n ∧ n ≤ 64) ∧ isPu c = true) ∨ ((65 ≤ n ∧ n ≤ 90) ∧ isPu c = false) ∨ ((91 ≤ n ∧ n ≤ 96) ∧ isPu c = true) ∨ ((97 ≤ n ∧ n ≤ 122) ∧ isPu c = false) ∨ ((123 ≤ n ∧ n ≤ 126) ∧ isPu c = true) ∨ ((127 ≤ n) ∧ isPu c = false) := by
    simp only [isPu, Bool.or_eq_false_iff, Bool.or_eq_true, decide_eq_true_eq, decide_eq_false_iff_not]; omega
  rw [← hn]
  clear hn h1
  generalize isPu c = r at hc ⊢
  rcases hc with ⟨q, rfl⟩ | ⟨⟨q, q2⟩, rfl⟩ | ⟨⟨q, q2⟩, rfl⟩ | ⟨⟨q, q2⟩, rfl⟩ | ⟨⟨q, q2⟩, rfl⟩ | ⟨⟨q, q2⟩, rfl⟩ | ⟨⟨q, q2⟩, rfl⟩ | ⟨⟨q, q2⟩, rfl⟩ | ⟨q, rfl⟩
  all_goals
    go_enter Tryz.func243, Tryz.ntmps243
    go_wp2
    go_ret
    exact ⟨ret_boolS (by first | rfl | (simp; omega)), rfl⟩

set_option maxHeartbeats 1600000 in
theorem isPunctR_any (c : UInt8) (w : World) :
    Calls Tryz.prog 158 #[.int .u8 (c.toNat : Int)] w fun e w' => e = .returned (.bool (isPu c)) ∧ w = w' := by
  have h1 := c.toNat_lt
  obtain ⟨n, hn⟩ : ∃ n : Int, n = (c.toNat : Int) := ⟨_, rfl⟩
  have hc : ((n ≤ 32) ∧ isPu c = false) ∨ ((33 ≤ n ∧ n ≤ 47) ∧ isPu c = true) ∨ ((48 ≤ n ∧ n ≤ 57) ∧ isPu c = false) ∨ ((58 ≤ n ∧ n ≤ 64) ∧ isPu c = true) ∨ ((65 ≤ n ∧ n ≤ 90) ∧ isPu c = false) ∨ ((91 ≤ n ∧ n ≤ 96) ∧ isPu c = true) ∨ ((97 ≤ n ∧ n ≤ 122) ∧ isPu c = false) ∨ ((123 ≤ n ∧ n ≤ 126) ∧ isPu c = true) ∨ ((127 ≤ n) ∧ isPu c = false) := by
    simp only [isPu, Bool.or_eq_false_iff, Bool.or_eq_true, decide_eq_true_eq, decide_eq_false_iff_not]; omega
  rw [← hn]
  clear hn h1
  generalize isPu c = r at hc ⊢
  rcases hc with ⟨q, rfl⟩ | ⟨⟨q, q2⟩, rfl⟩ | ⟨⟨q, q2⟩, rfl⟩ | ⟨⟨q, q2⟩, rfl⟩ | ⟨⟨q, q2⟩, rfl⟩ | ⟨⟨q, q2⟩, rfl⟩ | ⟨⟨q, q2⟩, rfl⟩ | ⟨⟨q, q2⟩, rfl⟩ | ⟨q, rfl⟩
  all_goals
    go_enter Tryz.func158, Tryz.ntmps158
    go_wp2
    go_ret
    exact ⟨ret_boolS (by first | rfl | (simp; omega)), rfl⟩

theorem u8_int (c : UInt8) (k : Nat) : ((c.toNat : Int) != (k : Int)) = (c.toNat != k) := by
  rw [Bool.eq_iff_iff, bne_iff_ne, bne_iff_ne]; omega

theorem u8_ieq (c : UInt8) (k : Nat) : ((c.toNat : Int) == (k : Int)) = (c.toNat == k) := by
  rw [Bool.eq_iff_iff, beq_iff_eq, beq_iff_eq]; omega

set_option maxHeartbeats 1600000 in
theorem inTarget_any (c : UInt8) (w : World) :
    Calls Tryz.prog 244 #[.int .u8 (c.toNat : Int)] w fun e w' => e = .returned (.bool (inTr c)) ∧ w = w' := by
  unfold inTr
  have e1 := u8_int c 91
  have e2 := u8_int c 93
  have e3 := u8_int c 124
  have e4 := u8_int c 96
  have h32 : (decide (32 ≤ c.toNat) = true ∧ (32 : Int) ≤ (c.toNat : Int)) ∨ (decide (32 ≤ c.toNat) = false ∧ ¬ (32 : Int) ≤ (c.toNat : Int)) := by
    by_cases h : 32 ≤ c.toNat
    · exact .inl ⟨decide_eq_true h, by omega⟩
    · exact .inr ⟨decide_eq_false h, by omega⟩
  simp only [Int.cast_ofNat_Int] at e1 e2 e3 e4
  generalize decide (32 ≤ c.toNat) = b0 at *
  generalize (c.toNat != 91) = b1 at *
  generalize (c.toNat != 93) = b2 at *
  generalize (c.toNat != 124) = b3 at *
  generalize (c.toNat != 96) = b4 at *
  generalize (c.toNat : Int) = n at *
  rcases h32 with ⟨rfl, h32⟩ | ⟨rfl, h32⟩
  · cases b1 with
    | false =>
      go_enter Tryz.func244, Tryz.ntmps244
      go_wp2
      go_ret
      exact ⟨rfl, rfl⟩
    | true =>
      cases b2 with
      | false =>
        go_enter Tryz.func244, Tryz.ntmps244
        go_wp2
        go_ret
        exact ⟨rfl, rfl⟩
      | true =>
        cases b3 with
        | false =>
          go_enter Tryz.func244, Tryz.ntmps244
          go_wp2
          go_ret
          exact ⟨rfl, rfl⟩
        | true =>
          go_enter Tryz.func244, Tryz.ntmps244
          go_wp2
          go_ret
          exact ⟨rfl, rfl⟩
  · go_enter Tryz.func244, Tryz.ntmps244
    go_wp2
    go_ret
    exact ⟨rfl, rfl⟩

set_option maxHeartbeats 1600000 in
theorem inTag_any (c : UInt8) (w : World) :
    Calls Tryz.prog 248 #[.int .u8 (c.toNat : Int)] w fun e w' => e = .returned (.bool (inTg c)) ∧ w = w' := by
  unfold inTg
  have HL := hide (fun w => isLetterT_any c w)
  have HD := hide (fun w => isDigitT_any c w)
  have e1 := u8_ieq c 95
  have e2 := u8_ieq c 45
  have e3 := u8_ieq c 47
  simp only [Int.cast_ofNat_Int] at e1 e2 e3
  generalize (c.toNat == 95) = b1 at *
  generalize (c.toNat == 45) = b2 at *
  generalize (c.toNat == 47) = b3 at *
  generalize isLt c = l at *
  generalize isDg c = d at *
  generalize (c.toNat : Int) = n at *
  cases l with
  | true =>
    go_enter Tryz.func248, Tryz.ntmps248
    go_wp2_with (go_at_call 247; refine (HL.out _).mono ?_; rintro e w' ⟨rfl, rfl⟩)
    go_ret
    exact ⟨rfl, rfl⟩
  | false =>
    cases d with
    | true =>
      go_enter Tryz.func248, Tryz.ntmps248
      go_wp2_with (first | (go_at_call 247; refine (HL.out _).mono ?_; rintro e w' ⟨rfl, rfl⟩) | (go_at_call 246; refine (HD.out _).mono ?_; rintro e w' ⟨rfl, rfl⟩))
      go_ret
      exact ⟨rfl, rfl⟩
    | false =>
      cases b1 with
      | true =>
        go_enter Tryz.func248, Tryz.ntmps248
        go_wp2_with (first | (go_at_call 247; refine (HL.out _).mono ?_; rintro e w' ⟨rfl, rfl⟩) | (go_at_call 246; refine (HD.out _).mono ?_; rintro e w' ⟨rfl, rfl⟩))
        go_ret
        exact ⟨rfl, rfl⟩
      | false =>
        cases b2 with
        | true =>
          go_enter Tryz.func248, Tryz.ntmps248
          go_wp2_with (first | (go_at_call 247; refine (HL.out _).mono ?_; rintro e w' ⟨rfl, rfl⟩) | (go_at_call 246; refine (HD.out _).mono ?_; rintro e w' ⟨rfl, rfl⟩))
          go_ret
          exact ⟨rfl, rfl⟩
        | false =>
          go_enter Tryz.func248, Tryz.ntmps248
          go_wp2_with (first | (go_at_call 247; refine (HL.out _).mono ?_; rintro e w' ⟨rfl, rfl⟩) | (go_at_call 246; refine (HD.out _).mono ?_; rintro e w' ⟨rfl, rfl⟩))
          go_ret
          exact ⟨rfl, rfl⟩

end Go.Proofs.YtioppoaijehicaaGreatDoor
