/-
  PLAIN: how a row of bytes is parted at one byte; when a row of bytes is a date, and which.
-/
import Derived.Test.YtioppoaijehicaaGreatDoorNum
import Derived.Test.YtioppoaijehicaaGreatDoorDayE
import Derived.Lib.SplitLaws
set_option linter.all false
namespace Go.Proofs.YtioppoaijehicaaGreatDoor
open Go.Lib

/-- A row of bytes, parted at a byte. -/
def partC (c : UInt8) : List UInt8 → List (List UInt8)
  | [] => [[]]
  | b :: l => if b = c then [] :: partC c l else match partC c l with
    | h :: t => (b :: h) :: t
    | [] => [[b]]

theorem partC_ne (c : UInt8) : ∀ l : List UInt8, partC c l ≠ []
  | [] => by simp [partC]
  | b :: l => by
    unfold partC
    split
    · simp
    · split <;> simp

theorem split_partC (c : UInt8) : ∀ l : List UInt8, split l [c] = partC c l
  | [] => by
    unfold split
    rw [count_one]
    rfl
  | b :: l => by
    by_cases h : b = c
    · subst h
      rw [partC, if_pos rfl, ← split_partC b l]
      unfold split
      have hix : index (b :: l) [b] = ((0 : Nat) : Int) := by rw [index]; simp [List.isPrefixOf]
      rw [count_cons_eq, Nat.add_comm 1, splitK, hix]
      simp
    · rw [partC, if_neg h, ← split_partC c l]
      unfold split
      rw [count_cons_ne b c l h]
      have hp : ([c] : List UInt8).isPrefixOf (b :: l) = false := by simp [List.isPrefixOf, Ne.symm h]
      have hix : index (b :: l) [c] = if index l [c] == -1 then -1 else index l [c] + 1 := by rw [index, hp]; simp
      by_cases hm : index l [c] = -1
      · rw [count_miss hm]
        rfl
      · have hge := index_ge l [c]
        obtain ⟨j, hj⟩ : ∃ j : Nat, index l [c] = j := ⟨(index l [c]).toNat, by omega⟩
        have hix' : index (b :: l) [c] = ((j + 1 : Nat) : Int) := by rw [hix, if_neg (fun e => hm (beq_iff_eq.1 e)), hj]; omega
        rw [count_hit (by simp) hj, Nat.add_comm 1, splitK, splitK, hj, hix']
        have n1 : ¬ (((j + 1 : Nat) : Int) == -1) = true := fun e => by have := beq_iff_eq.1 e; omega
        have n2 : ¬ (((j : Nat) : Int) == -1) = true := fun e => by have := beq_iff_eq.1 e; omega
        rw [if_neg n1, if_neg n2]
        simp

theorem partC_clean (c : UInt8) : ∀ l : List UInt8, c ∉ l → partC c l = [l]
  | [], _ => rfl
  | b :: l, h => by
    have h1 : ¬ b = c := fun e => h (by simp [e])
    rw [partC, if_neg h1, partC_clean c l (fun e => h (by simp [e]))]

theorem partC_at (c : UInt8) (l : List UInt8) : ∀ p : List UInt8, c ∉ p → partC c (p ++ c :: l) = p :: partC c l
  | [], _ => by rw [List.nil_append, partC, if_pos rfl]
  | b :: p, h => by
    have h1 : ¬ b = c := fun e => h (by simp [e])
    rw [List.cons_append, partC, if_neg h1, partC_at c l p (fun e => h (by simp [e]))]

theorem partC_cons (c : UInt8) : ∀ (l p : List UInt8) (t : List (List UInt8)), partC c l = p :: t → c ∉ p ∧ ((t = [] ∧ l = p) ∨ ∃ l', l = p ++ c :: l' ∧ partC c l' = t)
  | [], p, t, h => by
    simp only [partC, List.cons.injEq] at h
    obtain ⟨rfl, rfl⟩ := h
    exact ⟨by simp, .inl ⟨rfl, rfl⟩⟩
  | b :: l, p, t, h => by
    by_cases hb : b = c
    · subst hb
      rw [partC, if_pos rfl] at h
      simp only [List.cons.injEq] at h
      obtain ⟨rfl, rfl⟩ := h
      exact ⟨by simp, .inr ⟨l, rfl, rfl⟩⟩
    · rw [partC, if_neg hb] at h
      cases hl : partC c l with
      | nil => exact absurd hl (partC_ne c l)
      | cons p' t' =>
        rw [hl] at h
        simp only [List.cons.injEq] at h
        obtain ⟨rfl, rfl⟩ := h
        obtain ⟨k1, k2⟩ := partC_cons c l p' t' hl
        refine ⟨by simp [k1, Ne.symm hb], ?_⟩
        rcases k2 with ⟨rfl, rfl⟩ | ⟨l', rfl, k3⟩
        · exact .inl ⟨rfl, rfl⟩
        · exact .inr ⟨l', rfl, k3⟩

theorem partC_le (c : UInt8) : ∀ (l : List UInt8), ∀ p ∈ partC c l, p.length ≤ l.length
  | [], p, h => by
    simp only [partC, List.mem_singleton] at h
    subst h
    exact Nat.le_refl _
  | b :: l, p, h => by
    have ih := partC_le c l
    by_cases hb : b = c
    · rw [partC, if_pos hb] at h
      rcases List.mem_cons.1 h with rfl | h
      · simp
      · have := ih p h
        simp only [List.length_cons]; omega
    · rw [partC, if_neg hb] at h
      cases hl : partC c l with
      | nil => exact absurd hl (partC_ne c l)
      | cons p' t' =>
        rw [hl] at h ih
        rcases List.mem_cons.1 h with rfl | h
        · have := ih p' (by simp)
          simp only [List.length_cons]; omega
        · have := ih p (by simp [h])
          simp only [List.length_cons]; omega

/-- Digits alone. -/
def dgAll (l : List UInt8) : Bool := l.all fun b => decide (48 ≤ b.toNat ∧ b.toNat ≤ 57)

theorem dgAll_mem {l : List UInt8} : dgAll l = true ↔ ∀ b ∈ l, 48 ≤ b.toNat ∧ b.toNat ≤ 57 := by
  unfold dgAll
  rw [List.all_eq_true]
  exact ⟨fun h b hb => of_decide_eq_true (h b hb), fun h b hb => decide_eq_true (h b hb)⟩

theorem dgAll_append (a b : List UInt8) : dgAll (a ++ b) = (dgAll a && dgAll b) := List.all_append

theorem dgAll_no45 {l : List UInt8} (h : dgAll l = true) : (45 : UInt8) ∉ l := fun hm => by
  have := (dgAll_mem.1 h 45 hm).1
  revert this
  decide

theorem dropWhile_allC {α : Type} (p : α → Bool) : ∀ l : List α, (∀ x ∈ l, p x = true) → l.dropWhile p = []
  | [], _ => rfl
  | a :: t, h => by rw [List.dropWhile_cons_of_pos (h a (by simp))]; exact dropWhile_allC p t fun x hx => h x (by simp [hx])

theorem trimS_dg (d : List UInt8) : (trimS d ten == []) = dgAll d := by
  cases h : dgAll d with
  | true =>
    rw [beq_iff_eq]
    unfold trimS trimLeftS trimRightS
    rw [dropWhile_allC _ d.reverse (fun x hx => (ten_contains x).2 (dgAll_mem.1 h x (List.mem_reverse.1 hx)))]
    rfl
  | false =>
    rw [beq_eq_false_iff_ne]
    intro e
    rw [dgAll_mem.2 (trimS_nil e)] at h
    cases h

/-- The number that digits spell. -/
def dgv (l : List UInt8) : Int := (((decFrom 0 l).getD 0 : Nat) : Int)

theorem atoi_dg {l : List UInt8} (h : dgAll l = true) (h0 : l ≠ []) : atoi l = some (dgv l) := by
  obtain ⟨m, hm⟩ := decFrom_all l 0 (dgAll_mem.1 h)
  cases l with
  | nil => exact absurd rfl h0
  | cons b r =>
    have hb := dgAll_mem.1 h b (by simp)
    have h1 : (b == 45) = false := beq_eq_false_iff_ne.2 (fun e => by subst e; revert hb; decide)
    have h2 : (b == 43) = false := beq_eq_false_iff_ne.2 (fun e => by subst e; revert hb; decide)
    unfold atoi dgv
    simp only [h1, h2, Bool.false_eq_true, if_false]
    unfold decNat
    rw [if_neg (by simp), hm]
    rfl

/-- The form of a date. -/
def isDateF (l : List UInt8) : Bool := decide (l.length = 10) && (l.getD 4 0 == 45 && (l.getD 7 0 == 45 && dgAll ((l.take 4 ++ (l.drop 5).take 2) ++ l.drop 8)))

/-- What a string is as a date: its day, and what is wrong. -/
def dateR (l : List UInt8) : Int × Int := if isDateF l = true then dayOfR (dgv (l.take 4)) (dgv ((l.drop 5).take 2)) (dgv (l.drop 8)) else (0, 8)

theorem isDateF_parts {l : List UInt8} (h : isDateF l = true) : ∃ p q r, l = p ++ 45 :: (q ++ 45 :: r) ∧ p.length = 4 ∧ q.length = 2 ∧ r.length = 2 ∧ dgAll p = true ∧ dgAll q = true ∧ dgAll r = true := by
  unfold isDateF at h
  simp only [Bool.and_eq_true, decide_eq_true_eq, beq_iff_eq, dgAll_append] at h
  obtain ⟨h1, h2, h3, ⟨h4, h5⟩, h6⟩ := h
  match l, h1 with
  | [a0, a1, a2, a3, a4, a5, a6, a7, a8, a9], _ =>
    simp only [List.getD_cons_succ, List.getD_cons_zero] at h2 h3
    subst h2 h3
    exact ⟨[a0, a1, a2, a3], [a5, a6], [a8, a9], rfl, rfl, rfl, rfl, h4, h5, h6⟩

theorem isDateF_of {p q r : List UInt8} (h1 : p.length = 4) (h2 : q.length = 2) (h3 : r.length = 2) (k1 : dgAll p = true) (k2 : dgAll q = true) (k3 : dgAll r = true) : isDateF (p ++ 45 :: (q ++ 45 :: r)) = true := by
  match p, h1, q, h2, r, h3 with
  | [a0, a1, a2, a3], _, [a5, a6], _, [a8, a9], _ =>
    unfold isDateF
    simp only [Bool.and_eq_true, decide_eq_true_eq, beq_iff_eq, dgAll_append]
    exact ⟨rfl, rfl, rfl, ⟨k1, k2⟩, k3⟩

theorem dateR_of {p q r : List UInt8} (h1 : p.length = 4) (h2 : q.length = 2) (h3 : r.length = 2) (k1 : dgAll p = true) (k2 : dgAll q = true) (k3 : dgAll r = true) : dateR (p ++ 45 :: (q ++ 45 :: r)) = dayOfR (dgv p) (dgv q) (dgv r) := by
  unfold dateR
  rw [if_pos (isDateF_of h1 h2 h3 k1 k2 k3)]
  match p, h1, q, h2, r, h3 with
  | [a0, a1, a2, a3], _, [a5, a6], _, [a8, a9], _ => rfl

/-- So many digits. -/
def dgN (l : List UInt8) (n : Nat) : Bool := decide (l.length = n) && dgAll l

/-- The reference's way: three parts, of so many digits each. -/
theorem date_cases (l : List UInt8) : ((partC 45 l).length ≠ 3 ∧ dateR l = (0, 8)) ∨ ∃ p q r, partC 45 l = [p, q, r] ∧ (((dgN p 4 && (dgN q 2 && dgN r 2)) = false ∧ dateR l = (0, 8)) ∨ (dgN p 4 = true ∧ dgN q 2 = true ∧ dgN r 2 = true ∧ dateR l = dayOfR (dgv p) (dgv q) (dgv r))) := by
  by_cases h3 : (partC 45 l).length = 3
  · right
    match hp : partC 45 l, h3 with
    | [p, q, r], _ =>
      refine ⟨p, q, r, rfl, ?_⟩
      obtain ⟨c1, ⟨e, _⟩ | ⟨l1, rfl, hq⟩⟩ := partC_cons 45 l p _ hp
      · cases e
      obtain ⟨c2, ⟨e, _⟩ | ⟨l2, rfl, hr⟩⟩ := partC_cons 45 l1 q _ hq
      · cases e
      obtain ⟨c3, ⟨_, rfl⟩ | ⟨l3, rfl, hx⟩⟩ := partC_cons 45 l2 r _ hr
      · cases hd : (dgN p 4 && (dgN q 2 && dgN l2 2)) with
        | true =>
          simp only [dgN, Bool.and_eq_true, decide_eq_true_eq] at hd
          obtain ⟨⟨a1, a2⟩, ⟨b1, b2⟩, d1, d2⟩ := hd
          exact .inr ⟨by simp [dgN, a1, a2], by simp [dgN, b1, b2], by simp [dgN, d1, d2], dateR_of a1 b1 d1 a2 b2 d2⟩
        | false =>
          refine .inl ⟨rfl, ?_⟩
          unfold dateR
          rw [if_neg]
          intro hf
          obtain ⟨p', q', r', e, a1, b1, d1, a2, b2, d2⟩ := isDateF_parts hf
          have hs := partC_at 45 (q' ++ 45 :: r') p' (dgAll_no45 a2)
          rw [partC_at 45 r' q' (dgAll_no45 b2), partC_clean 45 r' (dgAll_no45 d2), ← e, hp] at hs
          simp only [List.cons.injEq, and_true] at hs
          obtain ⟨rfl, rfl, rfl⟩ := hs
          simp [dgN, a1, a2, b1, b2, d1, d2] at hd
      · exact absurd hx (partC_ne 45 l3)
  · left
    refine ⟨h3, ?_⟩
    unfold dateR
    rw [if_neg]
    intro hf
    obtain ⟨p', q', r', rfl, a1, b1, d1, a2, b2, d2⟩ := isDateF_parts hf
    apply h3
    rw [partC_at 45 (q' ++ 45 :: r') p' (dgAll_no45 a2), partC_at 45 r' q' (dgAll_no45 b2), partC_clean 45 r' (dgAll_no45 d2)]
    rfl

end Go.Proofs.YtioppoaijehicaaGreatDoor
