/-
  PLAIN: when a word is a number as Itoa writes it: the program's reading (Atoi, then Itoa once more) and the reference's (no leading nought, no '-0') ask the same.
-/
import Derived.Lib.Atoi
import Derived.Lib.ItoaMem
import Derived.Lib.Strings
import Derived.Lib.SlTrimSet
set_option linter.all false
namespace Go.Proofs.YtioppoaijehicaaGreatDoor
open Go.Lib

/-- The ten digits. -/
def ten : List UInt8 := [48, 49, 50, 51, 52, 53, 54, 55, 56, 57]

/-- What follows a sign. -/
def dgs (l : List UInt8) : List UInt8 := trimPrefix l [45]

/-- The number that a word is. -/
def num (l : List UInt8) : Option Int := if dgs l ≠ [] ∧ (dgs l).length ≤ 9 ∧ trimS (dgs l) ten = [] then (match atoi l with | some n => if itoa n = l then some n else none | none => none) else none

theorem ten_contains (b : UInt8) : ten.contains b = true ↔ 48 ≤ b.toNat ∧ b.toNat ≤ 57 := by
  have h : ∀ b : Fin 256, ten.contains (UInt8.ofNat b.val) = decide (48 ≤ b.val ∧ b.val ≤ 57) := by decide +kernel
  have := h ⟨b.toNat, b.toNat_lt⟩
  simp only [UInt8.ofNat_toNat] at this
  rw [this]
  simp

theorem dropWhile_nil {α : Type} (p : α → Bool) : ∀ l : List α, l.dropWhile p = [] → ∀ x ∈ l, p x = true
  | [], _, x, hx => by cases hx
  | a :: t, h, x, hx => by
    by_cases ha : p a = true
    · rw [List.dropWhile_cons_of_pos ha] at h
      rcases List.mem_cons.1 hx with rfl | hx
      · exact ha
      · exact dropWhile_nil p t h x hx
    · rw [List.dropWhile_cons_of_neg ha] at h
      cases h

theorem dropWhile_head {α : Type} (p : α → Bool) : ∀ (l : List α) (a : α) (t : List α), l.dropWhile p = a :: t → p a = false
  | [], a, t, h => by cases h
  | b :: l, a, t, h => by
    by_cases hb : p b = true
    · rw [List.dropWhile_cons_of_pos hb] at h
      exact dropWhile_head p l a t h
    · rw [List.dropWhile_cons_of_neg hb] at h
      cases h
      simpa using hb

theorem trimS_nil {d : List UInt8} (h : trimS d ten = []) : ∀ b ∈ d, 48 ≤ b.toNat ∧ b.toNat ≤ 57 := by
  unfold trimS trimLeftS trimRightS at h
  have h1 := dropWhile_nil _ _ h
  cases h2 : d.reverse.dropWhile (ten.contains ·) with
  | nil =>
    intro b hb
    exact (ten_contains b).1 (dropWhile_nil _ _ h2 b (List.mem_reverse.2 hb))
  | cons a t =>
    have h3 := dropWhile_head _ _ _ _ h2
    have h4 := h1 a (by rw [h2]; simp)
    rw [h3] at h4
    cases h4

theorem decFrom_all : ∀ (l : List UInt8) (acc : Nat), (∀ b ∈ l, 48 ≤ b.toNat ∧ b.toNat ≤ 57) → ∃ m, decFrom acc l = some m
  | [], acc, _ => ⟨acc, rfl⟩
  | b :: r, acc, h => by
    have hb := h b (by simp)
    unfold decFrom digitVal
    rw [if_pos hb]
    exact decFrom_all r _ (fun x hx => h x (by simp [hx]))

theorem decFrom_cons (acc : Nat) (b : UInt8) (r : List UInt8) : decFrom acc (b :: r) = match digitVal b with
    | some d => decFrom (acc * 10 + d) r
    | none => none := rfl

theorem decFrom_append : ∀ (l r : List UInt8) (acc m : Nat), decFrom acc (l ++ r) = some m → ∃ k, decFrom acc l = some k ∧ decFrom k r = some m
  | [], r, acc, m, h => ⟨acc, rfl, h⟩
  | b :: l, r, acc, m, h => by
    rw [List.cons_append, decFrom_cons] at h
    rw [decFrom_cons]
    cases hd : digitVal b with
    | none => rw [hd] at h; cases h
    | some d => rw [hd] at h; exact decFrom_append l r _ m h

theorem decFrom_ge : ∀ (l : List UInt8) (acc m : Nat), decFrom acc l = some m → acc ≤ m
  | [], acc, m, h => by simp only [decFrom, Option.some.injEq] at h; omega
  | b :: l, acc, m, h => by
    unfold decFrom at h
    cases hd : digitVal b with
    | none => rw [hd] at h; cases h
    | some d => rw [hd] at h; have := decFrom_ge l _ m h; omega

/-- A number with a digit ahead that is no nought is 1 or more. -/
theorem head_pos {b : UInt8} {r : List UInt8} {m : Nat} (hb : b ≠ 48) (h : decFrom 0 (b :: r) = some m) : 1 ≤ m := by
  unfold decFrom at h
  cases hd : digitVal b with
  | none => rw [hd] at h; cases h
  | some d =>
    rw [hd] at h
    have h1 := decFrom_ge _ _ _ h
    have h2 := digitVal_eq hd
    have h3 : b.toNat ≠ 48 := fun e => hb (by rw [← UInt8.ofNat_toNat (x := b), e]; rfl)
    omega

theorem nDigits_le : ∀ (k m : Nat), 1 ≤ k → m < 10 ^ k → nDigits m ≤ k
  | 0, _, h, _ => by omega
  | 1, m, _, h => by rw [nDigits_small (by simpa using h)]; exact Nat.le_refl _
  | k + 2, m, _, h => by
    by_cases hm : m < 10
    · rw [nDigits_small hm]; omega
    · rw [nDigits_big hm]
      have := nDigits_le (k + 1) (m / 10) (by omega) (by rw [Nat.pow_succ] at h; omega)
      omega

/-- Where no nought leads, the numeral is the row of digits itself. -/
theorem decDigits_of_dec : ∀ (n : Nat) (d : List UInt8) (m : Nat), d.length = n → d ≠ [] → decFrom 0 d = some m → (∀ r, d = 48 :: r → r = []) → decDigits m = d
  | n, d, m, hn, hd, h, hz => by
    obtain ⟨d', b, rfl⟩ : ∃ d' b, d = d' ++ [b] := ⟨d.dropLast, d.getLast hd, (List.dropLast_concat_getLast hd).symm⟩
    obtain ⟨k, h1, h2⟩ := decFrom_append _ _ _ _ h
    unfold decFrom at h2
    cases he : digitVal b with
    | none => rw [he] at h2; cases h2
    | some e =>
      rw [he] at h2
      simp only [decFrom, Option.some.injEq] at h2
      obtain ⟨b1, b2, rfl⟩ := digitVal_eq he
      have hb : UInt8.ofNat (48 + (b.toNat - 48)) = b := by rw [show 48 + (b.toNat - 48) = b.toNat by omega, UInt8.ofNat_toNat]
      subst h2
      cases d' with
      | nil =>
        simp only [decFrom, Option.some.injEq] at h1
        subst h1
        rw [decDigits, dif_pos (by omega)]
        simp only [Nat.zero_mul, Nat.zero_add, hb, List.nil_append]
      | cons c t =>
        have hc : c ≠ 48 := by
          rintro rfl
          have := hz (t ++ [b]) rfl
          simp at this
        have hk := head_pos hc h1
        rw [decDigits, dif_neg (by omega), show (k * 10 + (b.toNat - 48)) / 10 = k by omega, show (k * 10 + (b.toNat - 48)) % 10 = b.toNat - 48 by omega, hb]
        rw [decDigits_of_dec (n - 1) (c :: t) k (by simp at hn ⊢; omega) (by simp) h1 (fun r hr => by cases hr; exact absurd rfl hc)]
  termination_by n => n
  decreasing_by simp at hn; omega

/-- Where a nought leads before more, it is not. -/
theorem decDigits_lead {r : List UInt8} {m : Nat} (hr : r ≠ []) (h : decFrom 0 (48 :: r) = some m) : decDigits m ≠ 48 :: r := by
  have h1 : decFrom 0 r = some m := by
    unfold decFrom at h
    rw [show digitVal 48 = some 0 from rfl] at h
    exact h
  have h2 := decFrom_lt _ _ _ h1
  intro e
  have h3 := decDigits_length m
  rw [e] at h3
  have h4 : 1 ≤ r.length := List.length_pos_iff.2 hr
  have h5 := nDigits_le r.length m h4 (by simpa using h2)
  simp at h3
  omega

theorem dgs_cases (l : List UInt8) : (l = 45 :: dgs l) ∨ (l = dgs l ∧ ∀ r, l ≠ 45 :: r) := by
  unfold dgs trimPrefix hasPrefix
  cases l with
  | nil => right; simp
  | cons b r =>
    by_cases hb : b = 45
    · left; subst hb; simp
    · right
      have : ¬ (45 = b) := fun e => hb e.symm
      simp [hb, this]

/-- What a word is, case by case. -/
theorem num_cases (l : List UInt8) :
    (dgs l = [] ∧ num l = none) ∨
    (dgs l ≠ [] ∧ 9 < (dgs l).length ∧ num l = none) ∨
    (dgs l ≠ [] ∧ (dgs l).length ≤ 9 ∧ trimS (dgs l) ten ≠ [] ∧ num l = none) ∨
    (dgs l ≠ [] ∧ (dgs l).length ≤ 9 ∧ trimS (dgs l) ten = [] ∧ ∃ n, atoi l = some n ∧ l.length ≤ 10 ∧ -1000000000 < n ∧ n < 1000000000 ∧
      ((itoa n ≠ l ∧ num l = none ∧ ((∃ r, dgs l = 48 :: r ∧ r ≠ []) ∨ (dgs l = [48] ∧ l ≠ [48]))) ∨
       (itoa n = l ∧ num l = some n ∧ ((dgs l = [48] ∧ l = [48]) ∨ (∃ b r, dgs l = b :: r ∧ b ≠ 48))))) := by
  by_cases h0 : dgs l = []
  · exact .inl ⟨h0, by simp [num, h0]⟩
  · refine .inr ?_
    by_cases h1 : (dgs l).length ≤ 9
    · refine .inr ?_
      by_cases h2 : trimS (dgs l) ten = []
      · refine .inr ⟨h0, h1, h2, ?_⟩
        have hall := trimS_nil h2
        obtain ⟨m, hm⟩ := decFrom_all (dgs l) 0 hall
        have hlt := decFrom_lt _ _ _ hm
        have hpw : 10 ^ (dgs l).length ≤ 10 ^ 9 := Nat.pow_le_pow_right (by decide) h1
        have hlt' : m < 1000000000 := by
          have e : (10 : Nat) ^ 9 = 1000000000 := by decide
          simp only [Nat.zero_add, Nat.one_mul] at hlt
          omega
        have hnum : ∀ n, atoi l = some n → num l = if itoa n = l then some n else none := fun n hn => by
          unfold num
          rw [if_pos ⟨h0, h1, h2⟩, hn]
        rcases dgs_cases l with hl | ⟨hl, hno⟩
        · have hat : atoi l = some (-(m : Int)) := by
            rw [hl]
            unfold atoi decNat
            have : (dgs l).isEmpty = false := by simpa using h0
            simp [this, hm]
          refine ⟨_, hat, by rw [hl]; simp; omega, by omega, by omega, ?_⟩
          rw [hnum _ hat]
          obtain ⟨b, r, hbr⟩ : ∃ b r, dgs l = b :: r := by
            cases hc : dgs l with
            | nil => exact absurd hc h0
            | cons b r => exact ⟨b, r, rfl⟩
          by_cases hb : b = 48
          · subst hb
            left
            have hne : itoa (-(m : Int)) ≠ l := by
              by_cases hm0 : m = 0
              · subst hm0
                rw [show (-((0 : Nat) : Int)) = 0 from rfl, show itoa 0 = [48] from by rw [show (0 : Int) = ((0 : Nat) : Int) from rfl, itoa_nonneg, decDigits_one (by decide)]; rfl]
                rw [hl]
                simp
              · rw [itoa_neg m (by omega)]
                intro e
                rw [hl] at e
                have e2 : decDigits m = 48 :: r := by rw [← hbr]; exact (List.cons.inj e).2
                by_cases hr : r = []
                · subst hr
                  rw [hbr] at hm
                  simp [decFrom, show digitVal 48 = some 0 from rfl] at hm
                  exact hm0 hm.symm
                · rw [hbr] at hm
                  exact decDigits_lead hr hm e2
            refine ⟨hne, by rw [if_neg hne], ?_⟩
            by_cases hr : r = []
            · right
              subst hr
              refine ⟨hbr, ?_⟩
              rw [hl]; simp
            · left; exact ⟨r, hbr, hr⟩
          · right
            have hm1 : 1 ≤ m := head_pos hb (by rw [← hbr]; exact hm)
            have hd : decDigits m = dgs l := decDigits_of_dec _ (dgs l) m rfl h0 hm (fun r' hr' => by rw [hbr] at hr'; cases hr'; exact absurd rfl hb)
            have he : itoa (-(m : Int)) = l := by rw [itoa_neg m hm1, hd]; exact hl.symm
            exact ⟨he, by rw [if_pos he], .inr ⟨b, r, hbr, hb⟩⟩
        · have hat : atoi l = some (m : Int) := by
            obtain ⟨b, r, hbr⟩ : ∃ b r, l = b :: r := by
              cases hc : l with
              | nil => rw [hc] at hl h0; exact absurd hl.symm h0
              | cons b r => exact ⟨b, r, rfl⟩
            have hb := hall b (by rw [← hl, hbr]; simp)
            have h45 : (b == 45) = false := by
              rw [beq_eq_false_iff_ne]; rintro rfl; revert hb; decide
            have h43 : (b == 43) = false := by
              rw [beq_eq_false_iff_ne]; rintro rfl; revert hb; decide
            rw [← hl, hbr] at hm
            rw [hbr]
            unfold atoi decNat
            simp [h45, h43, hm]
          refine ⟨_, hat, by rw [hl]; omega, by omega, by omega, ?_⟩
          rw [hnum _ hat, itoa_nonneg]
          obtain ⟨b, r, hbr⟩ : ∃ b r, dgs l = b :: r := by
            cases hc : dgs l with
            | nil => exact absurd hc h0
            | cons b r => exact ⟨b, r, rfl⟩
          by_cases hb : b = 48
          · subst hb
            by_cases hr : r = []
            · subst hr
              right
              have hd : decDigits m = l := (decDigits_of_dec _ (dgs l) m rfl h0 hm (fun r' hr' => by rw [hbr] at hr'; cases hr'; rfl)).trans hl.symm
              exact ⟨hd, by rw [if_pos hd], .inl ⟨hbr, hl.trans hbr⟩⟩
            · left
              have hne : decDigits m ≠ l := by
                rw [hl, hbr]
                exact decDigits_lead hr (by rw [← hbr]; exact hm)
              exact ⟨hne, by rw [if_neg hne], .inl ⟨r, hbr, hr⟩⟩
          · right
            have hd : decDigits m = l := (decDigits_of_dec _ (dgs l) m rfl h0 hm (fun r' hr' => by rw [hbr] at hr'; cases hr'; exact absurd rfl hb)).trans hl.symm
            exact ⟨hd, by rw [if_pos hd], .inr ⟨b, r, hbr, hb⟩⟩
      · exact .inl ⟨h0, h1, h2, by simp [num, h2]⟩
    · exact .inl ⟨h0, by omega, by simp [num, h1]⟩

#print axioms num_cases
end Go.Proofs.YtioppoaijehicaaGreatDoor
