/-
  PLAIN: spans: the tokens of a string, what is within bold parts, and plain bytes put together.
-/
import Derived.Test.YtioppoaijehicaaGreatDoorFta
import Derived.Lib.Strings
import Derived.Lib.IndexMore
import Derived.Lib.Atoi
set_option linter.all false
namespace Go.Proofs.YtioppoaijehicaaGreatDoor
open Go.RowKit

/-! ### Bytes -/
def isLt (c : UInt8) : Bool := decide (97 ≤ c.toNat ∧ c.toNat ≤ 122) || (decide (65 ≤ c.toNat ∧ c.toNat ≤ 90) || decide (128 ≤ c.toNat))

def isDg (c : UInt8) : Bool := decide (48 ≤ c.toNat ∧ c.toNat ≤ 57)

def isPu (c : UInt8) : Bool := decide (33 ≤ c.toNat ∧ c.toNat ≤ 47) || (decide (58 ≤ c.toNat ∧ c.toNat ≤ 64) || (decide (91 ≤ c.toNat ∧ c.toNat ≤ 96) || decide (123 ≤ c.toNat ∧ c.toNat ≤ 126)))

def inTr (c : UInt8) : Bool := decide (32 ≤ c.toNat) && (c.toNat != 91 && (c.toNat != 93 && (c.toNat != 124 && c.toNat != 96)))

def inTg (c : UInt8) : Bool := isLt c || (isDg c || (c.toNat == 95 || (c.toNat == 45 || c.toNat == 47)))

def noBr (c : UInt8) : Bool := c.toNat != 91 && c.toNat != 93

def noTk (c : UInt8) : Bool := c.toNat != 96

/-! ### Where a run of bytes ends -/
def scn (p : UInt8 → Bool) (s : ByteArray) (k : Nat) : Nat := k + ((s.data.toList.drop k).takeWhile p).length

theorem dropS_at (s : ByteArray) {k : Nat} (h : k < s.size) : s.data.toList.drop k = s[k] :: s.data.toList.drop (k + 1) := by
  have hl : k < s.data.toList.length := by rw [← Lib.size_eq]; exact h
  rw [List.drop_eq_getElem_cons hl]
  rfl

theorem scn_step {p : UInt8 → Bool} {s : ByteArray} {k : Nat} (h : k < s.size) (hb : p s[k] = true) : scn p s (k + 1) = scn p s k := by
  unfold scn
  rw [dropS_at s h, List.takeWhile_cons, if_pos hb, List.length_cons]
  omega

theorem scn_stop {p : UInt8 → Bool} {s : ByteArray} {k : Nat} (h : k < s.size) (hb : p s[k] = false) : scn p s k = k := by
  unfold scn
  rw [dropS_at s h, List.takeWhile_cons, if_neg (by rw [hb]; exact Bool.false_ne_true)]
  rfl

theorem scn_over {p : UInt8 → Bool} {s : ByteArray} {k : Nat} (h : s.size ≤ k) : scn p s k = k := by
  unfold scn
  rw [List.drop_eq_nil_of_le (by rw [← Lib.size_eq]; exact h)]
  rfl

theorem scn_ge (p : UInt8 → Bool) (s : ByteArray) (k : Nat) : k ≤ scn p s k := Nat.le_add_right _ _

theorem scn_le {p : UInt8 → Bool} {s : ByteArray} {k : Nat} (h : k ≤ s.size) : scn p s k ≤ s.size := by
  unfold scn
  have h1 : ((s.data.toList.drop k).takeWhile p).length ≤ (s.data.toList.drop k).length := List.takeWhile_prefix _ |>.length_le
  rw [List.length_drop, ← Lib.size_eq] at h1
  omega

theorem scn_all {p : UInt8 → Bool} {s : ByteArray} : ∀ (n k : Nat), s.size - k ≤ n → ∀ j, k ≤ j → ∀ h : j < s.size, j < scn p s k → p s[j] = true
  | 0, k, hn, j, h1, h, _ => absurd h (by omega)
  | n + 1, k, hn, j, h1, h, h2 => by
    cases hb : p s[k] with
    | false => rw [scn_stop (by omega) hb] at h2; omega
    | true =>
      by_cases e : j = k
      · subst e; exact hb
      · exact scn_all n (k + 1) (by omega) j (by omega) h (by rw [scn_step (by omega) hb]; exact h2)

theorem scn_mid {p : UInt8 → Bool} {s : ByteArray} {k j : Nat} (h1 : k ≤ j) (h2 : j < scn p s k) (h : j < s.size) : p s[j] = true := scn_all _ k (Nat.le_refl _) j h1 h h2

theorem scn_end {p : UInt8 → Bool} {s : ByteArray} : ∀ (n k : Nat), s.size - k ≤ n → ∀ h : scn p s k < s.size, p (s[scn p s k]'h) = false
  | 0, k, hn, h => by have := scn_ge p s k; omega
  | n + 1, k, hn, h => by
    have hk := scn_ge p s k
    cases hb : p (s[k]'(by omega)) with
    | false =>
      have e := scn_stop (by omega) hb
      simp only [e]
      exact hb
    | true =>
      have e := scn_step (by omega) hb
      simp only [← e] at h ⊢
      exact scn_end n (k + 1) (by omega) h

theorem scn_out {p : UInt8 → Bool} {s : ByteArray} {k : Nat} (h : scn p s k < s.size) : p (s[scn p s k]'h) = false := scn_end _ k (Nat.le_refl _) h

/-- The run's end is the one place with yes before and no (or nothing) at it. -/
theorem scn_eq {p : UInt8 → Bool} {s : ByteArray} {k e : Nat} (h1 : k ≤ e) (h2 : e ≤ s.size) (h3 : ∀ j, k ≤ j → j < e → ∀ h : j < s.size, p s[j] = true) (h4 : ∀ h : e < s.size, p s[e] = false) : scn p s k = e := by
  have hge := scn_ge p s k
  have hle := scn_le (p := p) (s := s) (k := k) (by omega)
  rcases Nat.lt_trichotomy (scn p s k) e with h | h | h
  · have a := scn_out (p := p) (s := s) (k := k) (by omega)
    rw [h3 _ hge h (by omega)] at a
    cases a
  · exact h
  · have a := scn_mid (p := p) (s := s) h1 h (by omega)
    rw [h4 (by omega)] at a
    cases a

def two (s : ByteArray) (i : Nat) (c : Nat) : Bool := if h : i + 1 < s.size then s[i].toNat == c && s[i + 1].toNat == c else false

theorem two_lt {s : ByteArray} {i c : Nat} (h : two s i c = true) : i + 1 < s.size := by
  unfold two at h
  split at h
  · assumption
  · cases h

theorem two_at {s : ByteArray} {i c : Nat} (h : two s i c = true) : ∃ h1 : i + 1 < s.size, s[i].toNat = c ∧ s[i + 1].toNat = c := by
  have h1 := two_lt h
  unfold two at h
  rw [dif_pos h1, Bool.and_eq_true, beq_iff_eq, beq_iff_eq] at h
  exact ⟨h1, h.1, h.2⟩

theorem u8_be {a : UInt8} {c : Nat} (hc : c < 256) : (a == UInt8.ofNat c) = (a.toNat == c) := by
  have h1 : (UInt8.ofNat c).toNat = c := by simp; omega
  rw [Bool.eq_iff_iff, beq_iff_eq, beq_iff_eq]
  constructor
  · intro h; rw [h, h1]
  · intro h; exact UInt8.toNat.inj (by rw [h1, h])

theorem two_has (s : ByteArray) (i : Nat) (c : Nat) (hc : c < 256) : Lib.hasPrefix (s.data.toList.drop i) [UInt8.ofNat c, UInt8.ofNat c] = two s i c := by
  unfold two
  by_cases h : i + 1 < s.size
  · rw [dif_pos h, dropS_at s (show i < s.size by omega), dropS_at s h]
    unfold Lib.hasPrefix
    simp only [List.isPrefixOf, Bool.and_true]
    rw [← u8_be hc, ← u8_be hc, Bool.beq_comm (a := s[i]), Bool.beq_comm (a := s[i + 1])]
  · rw [dif_neg h]
    have hl : (s.data.toList.drop i).length ≤ 1 := by rw [List.length_drop, ← Lib.size_eq]; omega
    cases hx : s.data.toList.drop i with
    | nil => rfl
    | cons a t =>
      rw [hx] at hl
      have : t = [] := List.length_eq_zero_iff.1 (by rw [List.length_cons] at hl; omega)
      subst this
      unfold Lib.hasPrefix
      simp [List.isPrefixOf]

/-- One byte at a place. -/
def one (s : ByteArray) (i : Nat) (c : Nat) : Bool := if h : i < s.size then s[i].toNat == c else false

theorem one_has (s : ByteArray) (i : Nat) (c : Nat) (hc : c < 256) : Lib.hasPrefix (s.data.toList.drop i) [UInt8.ofNat c] = one s i c := by
  unfold one
  by_cases h : i < s.size
  · rw [dif_pos h, dropS_at s h]
    unfold Lib.hasPrefix
    simp only [List.isPrefixOf, Bool.and_true]
    rw [← u8_be hc, Bool.beq_comm (a := s[i])]
  · rw [dif_neg h, List.drop_eq_nil_of_le (by rw [← Lib.size_eq]; omega)]
    rfl

/-! ### Tokens -/
structure Sp where
  kind : Int
  fr : Nat
  to : Nat
  txt : ByteArray
  sho : ByteArray
  id : Int
  strong : Bool

def Sp.vals (x : Sp) : List Value := [.int .i64 x.kind, .int .i64 x.fr, .int .i64 x.to, .string x.txt, .string x.sho, .int .i64 x.id, .bool x.strong]

def flatS (l : List Sp) : List Value := l.flatMap Sp.vals

theorem flatS_snoc (l : List Sp) (g : Sp) : flatS (l ++ [g]) = flatS l ++ g.vals := by simp [flatS]

theorem flatS_len (l : List Sp) : (flatS l).length = l.length * 7 := by
  induction l with
  | nil => rfl
  | cons x t ih =>
    rw [flatS, List.flatMap_cons, List.length_append]
    show 7 + (flatS t).length = _
    rw [ih, List.length_cons]
    omega

def isTgt (t : ByteArray) : Bool := decide (1 ≤ t.size ∧ t.size ≤ 100) && (t.data.toList.all inTr && (!one t 0 32 && !one t (t.size - 1) 32))

def escP (s : ByteArray) (i : Nat) : Option Sp := if h : i + 1 < s.size then (if s[i].toNat = 92 ∧ isPu s[i + 1] = true then some ⟨2, i, i + 2, s.extract (i + 1) (i + 2), ByteArray.empty, 0, false⟩ else none) else none

def codeP (s : ByteArray) (i : Nat) : Option Sp := if one s i 96 = true ∧ i + 1 < scn noTk s (i + 1) ∧ scn noTk s (i + 1) < s.size then some ⟨3, i, scn noTk s (i + 1) + 1, s.extract (i + 1) (scn noTk s (i + 1)), ByteArray.empty, 0, false⟩ else none

def linkP (s : ByteArray) (i : Nat) : Option Sp :=
  if two s i 91 = true ∧ isTgt (s.extract (i + 2) (scn inTr s (i + 2))) = true then
    (if two s (scn inTr s (i + 2)) 93 = true then some ⟨4, i, scn inTr s (i + 2) + 2, s.extract (i + 2) (scn inTr s (i + 2)), ByteArray.empty, 0, false⟩
    else if one s (scn inTr s (i + 2)) 124 = true ∧ scn inTr s (i + 2) + 1 < scn noBr s (scn inTr s (i + 2) + 1) ∧ two s (scn noBr s (scn inTr s (i + 2) + 1)) 93 = true then
      some ⟨4, i, scn noBr s (scn inTr s (i + 2) + 1) + 2, s.extract (i + 2) (scn inTr s (i + 2)), s.extract (scn inTr s (i + 2) + 1) (scn noBr s (scn inTr s (i + 2) + 1)), 0, false⟩
    else none)
  else none

/-- The number that digits tell. -/
def dgN (l : List UInt8) : Nat := l.foldl (fun n c => 10 * n + (c.toNat - 48)) 0

def refP (s : ByteArray) (i : Nat) : Option Sp :=
  if two s i 40 = true ∧ i + 2 < scn isDg s (i + 2) ∧ scn isDg s (i + 2) ≤ i + 9 ∧ one s (i + 2) 48 = false ∧ two s (scn isDg s (i + 2)) 41 = true ∧ dgN (s.extract (i + 2) (scn isDg s (i + 2))).data.toList ≤ 1000000 then
    some ⟨5, i, scn isDg s (i + 2) + 2, s.extract (i + 2) (scn isDg s (i + 2)), ByteArray.empty, dgN (s.extract (i + 2) (scn isDg s (i + 2))).data.toList, false⟩
  else none

/-- A byte behind which no tag begins. -/
def badP (c : UInt8) : Bool := isLt c || (isDg c || (c.toNat == 35 || c.toNat == 38))

def tagP (s : ByteArray) (i : Nat) : Option Sp :=
  if one s i 35 = true ∧ (∀ h : i - 1 < s.size, 0 < i → badP s[i - 1] = false) ∧ (s.extract (i + 1) (scn inTg s (i + 1))).data.toList.any isLt = true ∧ scn inTg s (i + 1) ≤ i + 101 ∧ one s (i + 1) 47 = false ∧ one s (scn inTg s (i + 1) - 1) 47 = false then
    some ⟨6, i, scn inTg s (i + 1), s.extract (i + 1) (scn inTg s (i + 1)), ByteArray.empty, 0, false⟩
  else none

def boldP (s : ByteArray) (i : Nat) : Option Sp := if two s i 42 = true then some ⟨7, i, i + 2, ⟨#[42, 42]⟩, ByteArray.empty, 0, false⟩ else none

def tokO (s : ByteArray) (i : Nat) : Option Sp := (escP s i).or ((codeP s i).or ((linkP s i).or ((refP s i).or ((tagP s i).or (boldP s i)))))

def tokP (s : ByteArray) (i : Nat) : Sp := (tokO s i).getD ⟨1, i, i + 1, ByteArray.empty, ByteArray.empty, 0, false⟩

theorem escP_in {s : ByteArray} {i : Nat} {x : Sp} (h : escP s i = some x) : x.fr = i ∧ i < x.to ∧ x.to ≤ s.size ∧ x.kind = 2 ∧ x.strong = false := by
  unfold escP at h
  split at h
  · split at h
    · obtain rfl := Option.some.inj h
      exact ⟨rfl, by simp only; omega, by simp only; omega, rfl, rfl⟩
    · cases h
  · cases h

theorem codeP_in {s : ByteArray} {i : Nat} {x : Sp} (h : codeP s i = some x) : x.fr = i ∧ i < x.to ∧ x.to ≤ s.size ∧ x.kind = 3 ∧ x.strong = false := by
  unfold codeP at h
  split at h
  · obtain rfl := Option.some.inj h
    exact ⟨rfl, by simp only; omega, by simp only; omega, rfl, rfl⟩
  · cases h

theorem linkP_in {s : ByteArray} {i : Nat} {x : Sp} (h : linkP s i = some x) : x.fr = i ∧ i < x.to ∧ x.to ≤ s.size ∧ x.kind = 4 ∧ x.strong = false := by
  have h1 := scn_ge inTr s (i + 2)
  unfold linkP at h
  split at h
  · split at h
    · rename_i h2
      have := two_lt h2
      obtain rfl := Option.some.inj h
      exact ⟨rfl, by simp only; omega, by simp only; omega, rfl, rfl⟩
    · split at h
      · rename_i h2
        have := two_lt h2.2.2
        obtain rfl := Option.some.inj h
        exact ⟨rfl, by simp only; omega, by simp only; omega, rfl, rfl⟩
      · cases h
  · cases h

theorem refP_in {s : ByteArray} {i : Nat} {x : Sp} (h : refP s i = some x) : x.fr = i ∧ i < x.to ∧ x.to ≤ s.size ∧ x.kind = 5 ∧ x.strong = false := by
  unfold refP at h
  split at h
  · rename_i h2
    have := two_lt h2.2.2.2.2.1
    obtain rfl := Option.some.inj h
    exact ⟨rfl, by simp only; omega, by simp only; omega, rfl, rfl⟩
  · cases h

theorem any_ne {s : ByteArray} {a b : Nat} {p : UInt8 → Bool} (h : (s.extract a b).data.toList.any p = true) : a < b ∧ a < s.size := by
  rcases Nat.lt_or_ge a b with h1 | h1
  · rcases Nat.lt_or_ge a s.size with h2 | h2
    · exact ⟨h1, h2⟩
    · rw [Lib.extract_data, List.drop_eq_nil_of_le (by rw [← Lib.size_eq]; exact h2)] at h
      simp at h
  · rw [Lib.extract_data, show b - a = 0 by omega] at h
    simp at h

theorem tagP_in {s : ByteArray} {i : Nat} {x : Sp} (h : tagP s i = some x) : x.fr = i ∧ i < x.to ∧ x.to ≤ s.size ∧ x.kind = 6 ∧ x.strong = false := by
  unfold tagP at h
  split at h
  · rename_i h2
    have h3 := any_ne h2.2.2.1
    have h4 := scn_le (p := inTg) (s := s) (k := i + 1) (by omega)
    obtain rfl := Option.some.inj h
    exact ⟨rfl, by simp only; omega, by simp only; omega, rfl, rfl⟩
  · cases h

theorem boldP_in {s : ByteArray} {i : Nat} {x : Sp} (h : boldP s i = some x) : x.fr = i ∧ i < x.to ∧ x.to ≤ s.size ∧ x.kind = 7 ∧ x.strong = false ∧ x.txt = ⟨#[42, 42]⟩ ∧ x.to = i + 2 ∧ two s i 42 = true := by
  unfold boldP at h
  split at h
  · rename_i h2
    have := two_lt h2
    obtain rfl := Option.some.inj h
    exact ⟨rfl, by simp only; omega, by simp only; omega, rfl, rfl, rfl, rfl, h2⟩
  · cases h

/-- What is known of a token. -/
structure Tok (s : ByteArray) (i : Nat) (x : Sp) : Prop where
  fr : x.fr = i
  up : i < x.to
  le : x.to ≤ s.size
  weak : x.strong = false
  bold : x.kind = 7 → x.txt = ⟨#[42, 42]⟩ ∧ x.to = i + 2 ∧ two s i 42 = true
  pl : x.kind = 1 → x.txt = ByteArray.empty ∧ x.to = i + 1

theorem tokP_in {s : ByteArray} {i : Nat} (hi : i < s.size) : Tok s i (tokP s i) := by
  unfold tokP tokO
  cases h1 : escP s i with
  | some x =>
    obtain ⟨a, b, c, d, e⟩ := escP_in h1
    exact ⟨a, b, c, e, fun h => absurd (d.symm.trans h) (by decide), fun h => absurd (d.symm.trans h) (by decide)⟩
  | none =>
    cases h2 : codeP s i with
    | some x =>
      obtain ⟨a, b, c, d, e⟩ := codeP_in h2
      exact ⟨a, b, c, e, fun h => absurd (d.symm.trans h) (by decide), fun h => absurd (d.symm.trans h) (by decide)⟩
    | none =>
      cases h3 : linkP s i with
      | some x =>
        obtain ⟨a, b, c, d, e⟩ := linkP_in h3
        exact ⟨a, b, c, e, fun h => absurd (d.symm.trans h) (by decide), fun h => absurd (d.symm.trans h) (by decide)⟩
      | none =>
        cases h4 : refP s i with
        | some x =>
          obtain ⟨a, b, c, d, e⟩ := refP_in h4
          exact ⟨a, b, c, e, fun h => absurd (d.symm.trans h) (by decide), fun h => absurd (d.symm.trans h) (by decide)⟩
        | none =>
          cases h5 : tagP s i with
          | some x =>
            obtain ⟨a, b, c, d, e⟩ := tagP_in h5
            exact ⟨a, b, c, e, fun h => absurd (d.symm.trans h) (by decide), fun h => absurd (d.symm.trans h) (by decide)⟩
          | none =>
            cases h6 : boldP s i with
            | some x =>
              obtain ⟨a, b, c, d, e, f⟩ := boldP_in h6
              exact ⟨a, b, c, e, fun _ => f, fun h => absurd (d.symm.trans h) (by decide)⟩
            | none => exact ⟨rfl, Nat.lt_succ_self _, hi, rfl, fun h => absurd (show (1 : Int) = 7 from h) (by decide), fun _ => ⟨rfl, rfl⟩⟩

def toksF (s : ByteArray) : Nat → Nat → List Sp
  | 0, _ => []
  | f + 1, i => if i < s.size then tokP s i :: toksF s f (tokP s i).to else []

theorem toksF_more (s : ByteArray) : ∀ (f f' i : Nat), s.size - i ≤ f → s.size - i ≤ f' → toksF s f i = toksF s f' i
  | 0, 0, _, _, _ => rfl
  | 0, f' + 1, i, h, _ => by
    rw [toksF, toksF, if_neg (by omega)]
  | f + 1, 0, i, _, h => by
    rw [toksF, toksF, if_neg (by omega)]
  | f + 1, f' + 1, i, h, h' => by
    rw [toksF, toksF]
    by_cases hi : i < s.size
    · have := (tokP_in hi).up
      rw [if_pos hi, if_pos hi, toksF_more s f f' (tokP s i).to (by omega) (by omega)]
    · rw [if_neg hi, if_neg hi]

def toksAt (s : ByteArray) (i : Nat) : List Sp := toksF s (s.size - i) i

theorem toksAt_cons {s : ByteArray} {i : Nat} (h : i < s.size) : toksAt s i = tokP s i :: toksAt s (tokP s i).to := by
  have := (tokP_in h).up
  unfold toksAt
  rw [show s.size - i = (s.size - (i + 1)) + 1 by omega, toksF, if_pos h, toksF_more s (s.size - (i + 1)) (s.size - (tokP s i).to) _ (by omega) (by omega)]

theorem toksAt_over {s : ByteArray} {i : Nat} (h : s.size ≤ i) : toksAt s i = [] := by
  unfold toksAt
  rw [show s.size - i = 0 by omega, toksF]

theorem toksF_len (s : ByteArray) : ∀ (f i : Nat), (toksF s f i).length ≤ f
  | 0, _ => Nat.le_refl _
  | f + 1, i => by
    rw [toksF]
    split
    · have := toksF_len s f (tokP s i).to
      rw [List.length_cons]; omega
    · exact Nat.zero_le _

theorem toks_len (s : ByteArray) (i : Nat) : (toksAt s i).length ≤ s.size - i := toksF_len s _ i

/-! ### Bold parts -/
def cntB (l : List Sp) : Nat := l.countP (fun x => x.kind == 7)

def strEl (q c : Nat) (x : Sp) : Sp := { x with kind := if x.kind = 7 ∧ q < c then 1 else x.kind, strong := decide (x.kind = 7 ∧ c ≤ q) || decide (c % 2 = 1 ∧ c ≤ q) }

def strL (l : List Sp) : List Sp := l.mapIdx fun j x => strEl (cntB l / 2 * 2) (cntB (l.take (j + 1))) x

theorem strL_len (l : List Sp) : (strL l).length = l.length := by unfold strL; simp

theorem strL_get {l : List Sp} {j : Nat} (h : j < l.length) : (strL l)[j]'(by rw [strL_len]; exact h) = strEl (cntB l / 2 * 2) (cntB (l.take (j + 1))) l[j] := by
  unfold strL
  rw [List.getElem_mapIdx]

theorem cntB_snoc {l : List Sp} {j : Nat} (h : j < l.length) : cntB (l.take (j + 1)) = cntB (l.take j) + if l[j].kind = 7 then 1 else 0 := by
  unfold cntB
  rw [List.take_succ_eq_append_getElem h, List.countP_append, List.countP_singleton]
  by_cases hk : l[j].kind = 7
  · rw [if_pos hk, if_pos (beq_iff_eq.2 hk)]
  · rw [if_neg hk, if_neg (by rw [beq_iff_eq]; exact hk)]

theorem cntB_mono (l : List Sp) {a b : Nat} (h : a ≤ b) : cntB (l.take a) ≤ cntB (l.take b) := by
  unfold cntB
  exact List.Sublist.countP_le (List.take_sublist_take_left h)

/-! ### Plain bytes put together -/
def mrg1 (out : List Sp) (x : Sp) : List Sp := match out.getLast? with
  | some y => if x.kind = 1 ∧ y.kind = 1 ∧ y.strong = x.strong then out.dropLast ++ [{ y with to := x.to }] else out ++ [x]
  | none => out ++ [x]

def mrgL (l : List Sp) : List Sp := l.foldl mrg1 []

def fill1 (s : ByteArray) (x : Sp) : Sp := if x.kind = 1 then { x with txt := s.extract x.fr x.to } else x

def spansL (s : ByteArray) : List Sp := (mrgL (strL (toksAt s 0))).map (fill1 s)

/-- The reference's way: a plain span has its text at once. -/
def rmrg1 (out : List Sp) (x : Sp) : List Sp := match out.getLast? with
  | some y => if x.kind = 1 ∧ y.kind = 1 ∧ y.strong = x.strong then out.dropLast ++ [{ y with to := x.to, txt := y.txt ++ x.txt }] else out ++ [x]
  | none => out ++ [x]

end Go.Proofs.YtioppoaijehicaaGreatDoor
/-
  PLAIN: spans: the reference's way is the program's; bold parts in place.
-/
namespace Go.Proofs.YtioppoaijehicaaGreatDoor
open Go.RowKit

theorem bytesS_ext {a b : ByteArray} (h : a.data.toList = b.data.toList) : a = b := by
  cases a; cases b
  simp only at h
  exact congrArg ByteArray.mk (Array.toList_inj.1 h)
/-! ### Plain spans have their text at once, or at last -/
def ChS (s : ByteArray) : Nat → List Sp → Prop
  | _, [] => True
  | i, x :: t => Tok s i x ∧ ChS s x.to t

theorem toks_ch (s : ByteArray) : ∀ (n i : Nat), s.size - i ≤ n → ChS s i (toksAt s i)
  | 0, i, h => by rw [toksAt_over (by omega)]; exact trivial
  | n + 1, i, h => by
    rcases Nat.lt_or_ge i s.size with hi | hi
    · rw [toksAt_cons hi]
      have := (tokP_in hi).up
      exact ⟨tokP_in hi, toks_ch s n _ (by omega)⟩
    · rw [toksAt_over hi]; exact trivial

theorem ChS.tok {s : ByteArray} : ∀ {l : List Sp} {i : Nat}, ChS s i l → ∀ j (h : j < l.length), Tok s l[j].fr l[j]
  | x :: t, i, h, 0, _ => by
    have := h.1
    rw [← h.1.fr] at this
    exact this
  | x :: t, i, h, j + 1, hj => ChS.tok h.2 j (Nat.lt_of_succ_lt_succ hj)

theorem fill1_kind (s : ByteArray) (x : Sp) : (fill1 s x).kind = x.kind := by unfold fill1; split <;> rfl

theorem fill1_to (s : ByteArray) (x : Sp) : (fill1 s x).to = x.to := by unfold fill1; split <;> rfl

theorem fill1_strong (s : ByteArray) (x : Sp) : (fill1 s x).strong = x.strong := by unfold fill1; split <;> rfl

theorem two_ext {s : ByteArray} {i c : Nat} (hc : c < 256) (h : two s i c = true) : s.extract i (i + 2) = ⟨#[UInt8.ofNat c, UInt8.ofNat c]⟩ := by
  obtain ⟨h1, a, b⟩ := two_at h
  apply bytesS_ext
  rw [Lib.extract_data, show i + 2 - i = 2 by omega, dropS_at s (by omega : i < s.size), dropS_at s h1]
  have e : ∀ x : UInt8, x.toNat = c → x = UInt8.ofNat c := fun x hx => by rw [← hx, UInt8.ofNat_toNat]
  rw [e _ a, e _ b]
  rfl

theorem strEl_fill {s : ByteArray} {i : Nat} {x : Sp} (h : Tok s i x) (q c : Nat) : strEl q c (fill1 s x) = fill1 s (strEl q c x) := by
  obtain ⟨k, a, b, t, sh, id, st⟩ := x
  have hf : a = i := h.fr
  subst hf
  by_cases h1 : k = 1
  · subst h1
    simp [strEl, fill1]
  · by_cases h7 : k = 7
    · subst h7
      obtain ⟨e1, e2, e3⟩ := h.bold rfl
      simp only at e1 e2
      have := two_ext (by decide) e3
      subst e1 e2
      by_cases hq : q < c
      · simp [strEl, fill1, hq]
        rw [this]
        rfl
      · simp [strEl, fill1, hq]
    · simp [strEl, fill1, h1, h7]

theorem cntB_fill (s : ByteArray) (l : List Sp) : cntB (l.map (fill1 s)) = cntB l := by
  unfold cntB
  rw [List.countP_map]
  congr 1
  funext x
  simp [fill1_kind]

theorem strL_fill {s : ByteArray} {i : Nat} {l : List Sp} (h : ChS s i l) : strL (l.map (fill1 s)) = (strL l).map (fill1 s) := by
  apply List.ext_getElem
  · simp [strL_len]
  · intro j h1 h2
    rw [strL_len, List.length_map] at h1
    rw [strL_get (by simpa using h1), List.getElem_map, List.getElem_map, strL_get h1, cntB_fill, ← List.map_take, cntB_fill]
    exact strEl_fill (h.tok j h1) _ _

def Ch2 (s : ByteArray) : Nat → List Sp → Prop
  | _, [] => True
  | i, x :: t => x.fr = i ∧ i ≤ x.to ∧ x.to ≤ s.size ∧ Ch2 s x.to t

theorem strG_ch {s : ByteArray} (q : Nat) : ∀ (l : List Sp) (f : Nat → Nat) (i : Nat), ChS s i l → Ch2 s i (l.mapIdx fun j x => strEl q (f j) x)
  | [], _, _, _ => trivial
  | x :: t, f, i, h => by
    rw [List.mapIdx_cons]
    exact ⟨h.1.fr, Nat.le_of_lt h.1.up, h.1.le, strG_ch q t (fun j => f (j + 1)) x.to h.2⟩

theorem ext_join (s : ByteArray) {a b c : Nat} (h1 : a ≤ b) (h2 : b ≤ c) : s.extract a b ++ s.extract b c = s.extract a c := by
  rw [ByteArray.extract_append_extract, Nat.min_eq_left h1, Nat.max_eq_right h2]

theorem rmrg_fill {s : ByteArray} : ∀ (l out : List Sp) (i : Nat), Ch2 s i l → (∀ y, out.getLast? = some y → y.to = i ∧ y.fr ≤ y.to) → (l.map (fill1 s)).foldl rmrg1 (out.map (fill1 s)) = (l.foldl mrg1 out).map (fill1 s)
  | [], _, _, _, _ => rfl
  | x :: t, out, i, h, ho => by
    obtain ⟨h1, h2, h3, h4⟩ := h
    rw [List.map_cons, List.foldl_cons, List.foldl_cons]
    have key : rmrg1 (out.map (fill1 s)) (fill1 s x) = (mrg1 out x).map (fill1 s) := by
      unfold rmrg1 mrg1
      rw [List.getLast?_map]
      cases hg : out.getLast? with
      | none => simp
      | some y =>
        obtain ⟨hy1, hy2⟩ := ho y hg
        simp only [Option.map_some, fill1_kind, fill1_strong, fill1_to]
        split
        · rename_i hc
          rw [List.map_append, ← List.map_dropLast]
          congr 1
          obtain ⟨k, a, b, u, sh, id, st⟩ := y
          obtain ⟨k', a', b', u', sh', id', st'⟩ := x
          obtain ⟨hk1, hk2, hk3⟩ := hc
          simp only at hk1 hk2 hk3 h1 h2 h3 hy1 hy2
          subst hk1 hk2 hk3 h1 hy1
          simp [fill1, ext_join s hy2 h2]
        · simp
    rw [key]
    refine rmrg_fill t _ x.to h4 fun y hy => ?_
    unfold mrg1 at hy
    cases hg : out.getLast? with
    | none =>
      rw [hg] at hy
      simp only [List.getLast?_append, List.getLast?_singleton, Option.some_or] at hy
      obtain rfl := Option.some.inj hy
      exact ⟨rfl, by omega⟩
    | some z =>
      obtain ⟨hz1, hz2⟩ := ho z hg
      rw [hg] at hy
      simp only at hy
      split at hy
      · simp only [List.getLast?_append, List.getLast?_singleton, Option.some_or] at hy
        obtain rfl := Option.some.inj hy
        exact ⟨rfl, by simp only; omega⟩
      · simp only [List.getLast?_append, List.getLast?_singleton, Option.some_or] at hy
        obtain rfl := Option.some.inj hy
        exact ⟨rfl, by omega⟩

def rtoksAt (s : ByteArray) (i : Nat) : List Sp := (toksAt s i).map (fill1 s)

/-- The reference's spans are the program's. -/
theorem spans_same (s : ByteArray) : (strL (rtoksAt s 0)).foldl rmrg1 [] = spansL s := by
  have hc := toks_ch s _ 0 (Nat.le_refl _)
  unfold rtoksAt
  rw [strL_fill hc]
  exact rmrg_fill (strL (toksAt s 0)) [] 0 (strG_ch _ _ _ _ hc) (fun y hy => by cases hy)

/-! ### Bold parts in place -/
def stEl (q c : Nat) (x : Sp) : Sp := { x with strong := decide (x.kind = 7 ∧ c ≤ q) || decide (c % 2 = 1 ∧ c ≤ q) }

def stL (q : Nat) (l : List Sp) : List Sp := l.mapIdx fun j x => stEl q (cntB (l.take (j + 1))) x

theorem stL_len (q : Nat) (l : List Sp) : (stL q l).length = l.length := by unfold stL; simp

theorem stL_get (q : Nat) {l : List Sp} {j : Nat} (h : j < l.length) : (stL q l)[j]'(by rw [stL_len]; exact h) = stEl q (cntB (l.take (j + 1))) l[j] := by
  unfold stL
  rw [List.getElem_mapIdx]

/-- In the midst of a part that is made bold. -/
def miL (q o k : Nat) (l : List Sp) : List Sp := l.mapIdx fun j x => if o ≤ j ∧ j < k then { x with strong := true } else stEl q (cntB (l.take (j + 1))) x

theorem miL_len (q o k : Nat) (l : List Sp) : (miL q o k l).length = l.length := by unfold miL; simp

theorem miL_get (q o k : Nat) {l : List Sp} {j : Nat} (h : j < l.length) : (miL q o k l)[j]'(by rw [miL_len]; exact h) = if o ≤ j ∧ j < k then { l[j] with strong := true } else stEl q (cntB (l.take (j + 1))) l[j] := by
  unfold miL
  rw [List.getElem_mapIdx]

theorem miL_start (q o : Nat) (l : List Sp) : miL q o o l = stL q l := by
  apply List.ext_getElem
  · rw [miL_len, stL_len]
  · intro j h1 h2
    rw [miL_len] at h1
    rw [miL_get _ _ _ h1, stL_get _ h1, if_neg (by omega)]

theorem stEl_same (q c : Nat) (x : Sp) : (stEl q c x).kind = x.kind ∧ (stEl q c x).fr = x.fr ∧ (stEl q c x).to = x.to ∧ (stEl q c x).txt = x.txt ∧ (stEl q c x).sho = x.sho ∧ (stEl q c x).id = x.id := ⟨rfl, rfl, rfl, rfl, rfl, rfl⟩

theorem miL_step {q o k : Nat} {l : List Sp} (hk : k < l.length) (ho : o ≤ k) : (miL q o k l).set k { (miL q o k l)[k]'(by rw [miL_len]; exact hk) with strong := true } = miL q o (k + 1) l := by
  apply List.ext_getElem
  · rw [List.length_set, miL_len, miL_len]
  · intro j h1 h2
    rw [List.length_set, miL_len] at h1
    rw [List.getElem_set]
    by_cases e : k = j
    · subst e
      rw [if_pos rfl, miL_get q o (k + 1) h1, if_pos ⟨ho, Nat.lt_succ_self _⟩]
      have e9 := miL_get q o k h1
      rw [if_neg (by omega)] at e9
      rw [e9]
      rfl
    · rw [if_neg e, miL_get q o k h1, miL_get q o (k + 1) h1]
      by_cases hc : o ≤ j ∧ j < k
      · rw [if_pos hc, if_pos (by omega)]
      · rw [if_neg hc, if_neg (by omega)]

/-- What is known when the loop is at i: 'o' is where a part is open, -1 if none is. -/
def OpJ (l : List Sp) (i : Nat) (o : Int) : Prop := (o = -1 ∧ cntB (l.take i) % 2 = 0) ∨ ∃ k : Nat, o = k ∧ k < i ∧ ∃ h : k < l.length, l[k].kind = 7 ∧ cntB (l.take k) + 1 = cntB (l.take i) ∧ cntB (l.take i) % 2 = 1

theorem OpJ.start (l : List Sp) : OpJ l 0 (-1) := .inl ⟨rfl, by simp [cntB]⟩

theorem OpJ.skip {l : List Sp} {i : Nat} {o : Int} (h : OpJ l i o) (hi : i < l.length) (hk : l[i].kind ≠ 7) : OpJ l (i + 1) o ∧ cntB (l.take (i + 1)) / 2 * 2 = cntB (l.take i) / 2 * 2 := by
  have e0 := cntB_snoc hi
  rw [if_neg hk] at e0
  have e : cntB (l.take (i + 1)) = cntB (l.take i) := by omega
  clear e0
  refine ⟨?_, by rw [e]⟩
  rcases h with ⟨h1, h2⟩ | ⟨k, h1, h2, h3, h4, h5, h6⟩
  · exact .inl ⟨h1, by rw [e]; exact h2⟩
  · exact .inr ⟨k, h1, by omega, h3, h4, by rw [e]; exact h5, by rw [e]; exact h6⟩

theorem OpJ.opens {l : List Sp} {i : Nat} (h : OpJ l i (-1)) (hi : i < l.length) (hk : l[i].kind = 7) : OpJ l (i + 1) i ∧ cntB (l.take (i + 1)) / 2 * 2 = cntB (l.take i) / 2 * 2 := by
  have e := cntB_snoc hi
  rw [if_pos hk] at e
  rcases h with ⟨-, h2⟩ | ⟨k, h1, -⟩
  · exact ⟨.inr ⟨i, rfl, Nat.lt_succ_self _, hi, hk, by omega, by omega⟩, by omega⟩
  · omega

theorem OpJ.shuts {l : List Sp} {i k : Nat} (h : OpJ l i k) (hi : i < l.length) (hk : l[i].kind = 7) : k ≤ i ∧ OpJ l (i + 1) (-1) ∧ miL (cntB (l.take i) / 2 * 2) k (i + 1) l = stL (cntB (l.take (i + 1)) / 2 * 2) l := by
  have e := cntB_snoc hi
  rw [if_pos hk] at e
  rcases h with ⟨h1, -⟩ | ⟨k', h1, h2, h3, h4, h5, h6⟩
  · omega
  · obtain rfl : k' = k := by omega
    refine ⟨by omega, .inl ⟨rfl, by omega⟩, ?_⟩
    have e3 := cntB_snoc h3
    rw [if_pos h4] at e3
    apply List.ext_getElem
    · rw [miL_len, stL_len]
    · intro j j1 j2
      rw [miL_len] at j1
      rw [miL_get _ _ _ j1, stL_get _ j1]
      have ej := cntB_snoc j1
      by_cases hc : k' ≤ j ∧ j < i + 1
      · rw [if_pos hc]
        have a1 := cntB_mono l (show k' + 1 ≤ j + 1 by omega)
        have a2 := cntB_mono l (show j + 1 ≤ i + 1 by omega)
        unfold stEl
        have : (decide (l[j].kind = 7 ∧ cntB (l.take (j + 1)) ≤ cntB (l.take (i + 1)) / 2 * 2) || decide (cntB (l.take (j + 1)) % 2 = 1 ∧ cntB (l.take (j + 1)) ≤ cntB (l.take (i + 1)) / 2 * 2)) = true := by
          rw [Bool.or_eq_true, decide_eq_true_eq, decide_eq_true_eq]
          by_cases ji : j = i
          · subst ji
            exact .inl ⟨hk, by omega⟩
          · have a3 := cntB_mono l (show j + 1 ≤ i by omega)
            exact .inr ⟨by omega, by omega⟩
        rw [this]
      · rw [if_neg hc]
        unfold stEl
        congr 1
        rcases Nat.lt_or_ge j k' with hj | hj
        · have a1 := cntB_mono l (show j + 1 ≤ k' by omega)
          congr 1 <;> exact decide_eq_decide.2 (by constructor <;> rintro ⟨x, y⟩ <;> exact ⟨x, by omega⟩)
        · have a1 := cntB_mono l (show i + 1 ≤ j by omega)
          congr 1
          · refine decide_eq_decide.2 ⟨fun ⟨x, y⟩ => ?_, fun ⟨x, y⟩ => ?_⟩ <;> rw [if_pos x] at ej <;> omega
          · refine decide_eq_decide.2 ⟨fun ⟨x, y⟩ => ?_, fun ⟨x, y⟩ => ?_⟩ <;> omega

theorem stL_zero {l : List Sp} (hw : ∀ j (h : j < l.length), l[j].strong = false) : stL 0 l = l := by
  apply List.ext_getElem
  · rw [stL_len]
  · intro j h1 h2
    rw [stL_len] at h1
    rw [stL_get _ h1]
    have e := cntB_snoc h1
    have : (decide (l[j].kind = 7 ∧ cntB (l.take (j + 1)) ≤ 0) || decide (cntB (l.take (j + 1)) % 2 = 1 ∧ cntB (l.take (j + 1)) ≤ 0)) = false := by
      rw [Bool.or_eq_false_iff, decide_eq_false_iff_not, decide_eq_false_iff_not]
      refine ⟨fun ⟨x, y⟩ => ?_, fun ⟨x, y⟩ => by omega⟩
      rw [if_pos x] at e
      omega
    unfold stEl
    rw [this, ← hw j h1]

theorem OpJ.endN {l : List Sp} (h : OpJ l l.length (-1)) : stL (cntB (l.take l.length) / 2 * 2) l = strL l := by
  rcases h with ⟨-, h2⟩ | ⟨k, h1, -⟩
  · rw [List.take_length] at h2 ⊢
    apply List.ext_getElem
    · rw [stL_len, strL_len]
    · intro j h1 _
      rw [stL_len] at h1
      rw [stL_get _ h1, strL_get h1]
      have a := cntB_mono l (show j + 1 ≤ l.length by omega)
      rw [List.take_length] at a
      unfold stEl strEl
      rw [if_neg (by rintro ⟨-, y⟩; omega)]
  · omega

theorem OpJ.endO {l : List Sp} {k : Nat} (h : OpJ l l.length k) : ∃ hk : k < l.length, (stL (cntB (l.take l.length) / 2 * 2) l).set k { (stL (cntB (l.take l.length) / 2 * 2) l)[k]'(by rw [stL_len]; exact hk) with kind := 1 } = strL l := by
  rcases h with ⟨h1, -⟩ | ⟨k', h1, h2, h3, h4, h5, h6⟩
  · omega
  · obtain rfl : k' = k := by omega
    refine ⟨h3, ?_⟩
    rw [List.take_length] at h5 h6 ⊢
    have e3 := cntB_snoc h3
    rw [if_pos h4] at e3
    apply List.ext_getElem
    · rw [List.length_set, stL_len, strL_len]
    · intro j h1 _
      rw [List.length_set, stL_len] at h1
      have a := cntB_mono l (show j + 1 ≤ l.length by omega)
      rw [List.take_length] at a
      have ej := cntB_snoc h1
      rw [List.getElem_set, strL_get h1]
      by_cases e : k' = j
      · subst e
        rw [if_pos rfl, stL_get _ h1]
        unfold stEl strEl
        rw [if_pos ⟨h4, by omega⟩]
      · rw [if_neg e, stL_get _ h1]
        unfold stEl strEl
        rw [if_neg]
        rintro ⟨x, y⟩
        rw [if_pos x] at ej
        rcases Nat.lt_or_ge j k' with hj | hj
        · have := cntB_mono l (show j + 1 ≤ k' by omega)
          omega
        · have := cntB_mono l (show k' + 1 ≤ j by omega)
          omega

theorem mrg1_len (out : List Sp) (x : Sp) : (mrg1 out x).length ≤ out.length + 1 := by
  unfold mrg1
  split
  · split
    · rw [List.length_append, List.length_dropLast, List.length_singleton]; omega
    · simp
  · simp

end Go.Proofs.YtioppoaijehicaaGreatDoor
/-
  PLAIN: spans: the reference's link is the program's; the number of a reference.
-/
namespace Go.Proofs.YtioppoaijehicaaGreatDoor
open Go.RowKit

theorem scn_reach {p : UInt8 → Bool} {s : ByteArray} {k f : Nat} (h1 : k ≤ f) (h2 : f ≤ s.size) (h3 : ∀ j, k ≤ j → j < f → ∀ h : j < s.size, p s[j] = true) : f ≤ scn p s k := by
  rcases Nat.lt_or_ge (scn p s k) f with h | h
  · have hge := scn_ge p s k
    have a := scn_out (p := p) (s := s) (k := k) (by omega)
    rw [h3 _ hge h (by omega)] at a
    cases a
  · exact h

theorem inTr_facts {c : UInt8} (h : inTr c = true) : noBr c = true ∧ (c.toNat != 124) = true := by
  unfold inTr at h
  simp only [Bool.and_eq_true] at h
  unfold noBr
  rw [h.2.1, h.2.2.1]
  exact ⟨rfl, h.2.2.2.1⟩

theorem ext_all {s : ByteArray} {a b : Nat} {p : UInt8 → Bool} (h : (s.extract a b).data.toList.all p = true) : ∀ j, a ≤ j → j < b → ∀ hj : j < s.size, p s[j] = true := by
  intro j h1 h2 hj
  rw [Lib.extract_data, List.all_eq_true] at h
  apply h
  have hl : j < s.data.toList.length := by rw [← Lib.size_eq]; exact hj
  rw [List.mem_iff_getElem]
  refine ⟨j - a, by rw [List.length_take, List.length_drop]; omega, ?_⟩
  rw [List.getElem_take, List.getElem_drop]
  show s.data.toList[a + (j - a)] = s.data.toList[j]
  congr 1
  omega

theorem isTgt_all {t : ByteArray} (h : isTgt t = true) : t.data.toList.all inTr = true := by
  unfold isTgt at h
  simp only [Bool.and_eq_true] at h
  exact h.2.1

def noPi (c : UInt8) : Bool := c.toNat != 124

def linkR (s : ByteArray) (i : Nat) : Option Sp :=
  if two s i 91 = true ∧ two s (scn noBr s (i + 2)) 93 = true ∧ isTgt (s.extract (i + 2) (min (scn noPi s (i + 2)) (scn noBr s (i + 2)))) = true ∧ (scn noPi s (i + 2) < scn noBr s (i + 2) → scn noPi s (i + 2) + 1 < scn noBr s (i + 2)) then
    some ⟨4, i, scn noBr s (i + 2) + 2, s.extract (i + 2) (min (scn noPi s (i + 2)) (scn noBr s (i + 2))), if scn noPi s (i + 2) < scn noBr s (i + 2) then s.extract (scn noPi s (i + 2) + 1) (scn noBr s (i + 2)) else ByteArray.empty, 0, false⟩
  else none

theorem two_ne {s : ByteArray} {i c d : Nat} (h : i < s.size) (hc : s[i].toNat = d) (hn : d ≠ c) : two s i c = false := by
  cases h9 : two s i c with
  | false => rfl
  | true =>
    obtain ⟨h1, h2, -⟩ := two_at h9
    omega

theorem linkR_is (s : ByteArray) (i : Nat) : linkR s i = linkP s i := by
  unfold linkR linkP
  cases h91 : two s i 91 with
  | false => rw [if_neg (fun h => absurd h.1 Bool.false_ne_true), if_neg (fun h => absurd h.1 Bool.false_ne_true)]
  | true =>
    have hsz := two_lt h91
    have g1 := scn_ge inTr s (i + 2)
    have g2 := scn_le (p := inTr) (s := s) (k := i + 2) (by omega)
    have e1 := scn_ge noBr s (i + 2)
    have e2 := scn_le (p := noBr) (s := s) (k := i + 2) (by omega)
    have p1 := scn_ge noPi s (i + 2)
    have p2 := scn_le (p := noPi) (s := s) (k := i + 2) (by omega)
    have ge : scn inTr s (i + 2) ≤ scn noBr s (i + 2) := scn_reach g1 g2 fun j h1 h2 h => (inTr_facts (scn_mid h1 h2 h)).1
    have gp : scn inTr s (i + 2) ≤ scn noPi s (i + 2) := scn_reach g1 g2 fun j h1 h2 h => (inTr_facts (scn_mid h1 h2 h)).2
    by_cases hT : isTgt (s.extract (i + 2) (min (scn noPi s (i + 2)) (scn noBr s (i + 2)))) = true
    · have hfg : min (scn noPi s (i + 2)) (scn noBr s (i + 2)) ≤ scn inTr s (i + 2) := scn_reach (by omega) (by omega) fun j h1 h2 h => ext_all (isTgt_all hT) j h1 h2 h
      have hg : scn inTr s (i + 2) = min (scn noPi s (i + 2)) (scn noBr s (i + 2)) := by omega
      rw [hg, if_pos (⟨rfl, hT⟩ : true = true ∧ _)]
      by_cases hpe : scn noPi s (i + 2) < scn noBr s (i + 2)
      · rw [Nat.min_eq_left (by omega)]
        have hlt9 : scn noPi s (i + 2) < s.size := by omega
        have hb : (s[scn noPi s (i + 2)]'hlt9).toNat = 124 := by
          have h9 := scn_out (p := noPi) (s := s) (k := i + 2) hlt9
          generalize s[scn noPi s (i + 2)]'hlt9 = c at h9 ⊢
          unfold noPi at h9
          exact bne_eq_false_iff_eq.1 h9
        have hone : one s (scn noPi s (i + 2)) 124 = true := by
          unfold one
          rw [dif_pos (by omega)]
          exact beq_iff_eq.2 hb
        have hs : scn noBr s (scn noPi s (i + 2) + 1) = scn noBr s (i + 2) := scn_eq (by omega) (by omega) (fun j h1 h2 h => scn_mid (by omega) h2 h) (fun h => scn_out h)
        rw [two_ne (c := 93) (by omega) hb (by decide), if_neg Bool.false_ne_true, hone, hs]
        cases h93 : two s (scn noBr s (i + 2)) 93 with
        | false => rw [if_neg (fun h => absurd h.2.1 Bool.false_ne_true), if_neg (fun h => absurd h.2.2 Bool.false_ne_true)]
        | true =>
          by_cases hlt : scn noPi s (i + 2) + 1 < scn noBr s (i + 2)
          · rw [if_pos ⟨rfl, rfl, by rw [Nat.min_eq_left (by omega)] at hT; exact hT, fun _ => hlt⟩, if_pos hpe, if_pos ⟨rfl, hlt, rfl⟩]
          · rw [if_neg (fun h => hlt (h.2.2.2 hpe)), if_neg (fun h => hlt h.2.1)]
      · rw [Nat.min_eq_right (by omega)]
        rw [Nat.min_eq_right (by omega)] at hT
        cases h93 : two s (scn noBr s (i + 2)) 93 with
        | true => rw [if_pos ⟨rfl, rfl, hT, fun h => absurd h hpe⟩, if_pos rfl, if_neg hpe]
        | false =>
          have hone : one s (scn noBr s (i + 2)) 124 = false := by
            unfold one
            split
            · rename_i h9
              have hb := scn_out (p := noBr) (s := s) (k := i + 2) h9
              rw [beq_eq_false_iff_ne]
              intro h8
              generalize s[scn noBr s (i + 2)]'h9 = c at hb h8
              unfold noBr at hb
              rw [h8] at hb
              exact absurd hb (by decide)
            · rfl
          rw [if_neg (fun h => absurd h.2.1 Bool.false_ne_true), if_neg Bool.false_ne_true, hone, if_neg (fun h => absurd h.1 Bool.false_ne_true)]
    · rw [if_neg (fun h => hT h.2.2.1)]
      by_cases hG : isTgt (s.extract (i + 2) (scn inTr s (i + 2))) = true
      · rw [if_pos (⟨rfl, hG⟩ : true = true ∧ _)]
        cases h93 : two s (scn inTr s (i + 2)) 93 with
        | true =>
          obtain ⟨q1, q2, q3⟩ := two_at h93
          have a : scn noBr s (i + 2) = scn inTr s (i + 2) := scn_eq g1 g2 (fun j h1 h2 h => (inTr_facts (scn_mid h1 h2 h)).1) (fun h => by unfold noBr; rw [q2]; decide)
          exact absurd (by rw [Nat.min_eq_right (by omega), a]; exact hG) hT
        | false =>
          cases h124 : one s (scn inTr s (i + 2)) 124 with
          | false => rw [if_neg Bool.false_ne_true, if_neg (fun h => absurd h.1 Bool.false_ne_true)]
          | true =>
            have h9 : ∃ h : scn inTr s (i + 2) < s.size, s[scn inTr s (i + 2)].toNat = 124 := by
              unfold one at h124
              split at h124
              · exact ⟨‹_›, beq_iff_eq.1 h124⟩
              · cases h124
            obtain ⟨h8, h7⟩ := h9
            have a : scn noPi s (i + 2) = scn inTr s (i + 2) := scn_eq g1 g2 (fun j h1 h2 h => (inTr_facts (scn_mid h1 h2 h)).2) (fun h => by unfold noPi; rw [h7]; decide)
            exact absurd (by rw [Nat.min_eq_left (by omega), a]; exact hG) hT
      · rw [if_neg (fun h => hG h.2)]

/-! ### The number of a reference -/
theorem dgN_snoc (l : List UInt8) (c : UInt8) : dgN (l ++ [c]) = 10 * dgN l + (c.toNat - 48) := by
  unfold dgN
  rw [List.foldl_append]
  rfl

theorem ext_snoc {s : ByteArray} {a b : Nat} (h1 : a ≤ b) (h2 : b < s.size) : (s.extract a (b + 1)).data.toList = (s.extract a b).data.toList ++ [s[b]] := by
  have hl : b < s.data.toList.length := by rw [← Lib.size_eq]; exact h2
  rw [Lib.extract_data, Lib.extract_data, show b + 1 - a = (b - a) + 1 by omega, List.take_succ, List.getElem?_drop, show a + (b - a) = b by omega, List.getElem?_eq_getElem hl]
  rfl

theorem decFrom_dg : ∀ (l : List UInt8) (acc : Nat), (∀ c ∈ l, isDg c = true) → Lib.decFrom acc l = some (l.foldl (fun n c => 10 * n + (c.toNat - 48)) acc)
  | [], _, _ => rfl
  | c :: t, acc, h => by
    have hc := of_decide_eq_true (h c (List.mem_cons_self ..))
    rw [Lib.decFrom, Lib.digitVal, if_pos hc]
    simp only
    rw [decFrom_dg t _ (fun x hx => h x (List.mem_cons_of_mem _ hx)), List.foldl_cons, Nat.mul_comm]

theorem dgN_lt : ∀ (l : List UInt8) (acc : Nat), (∀ c ∈ l, isDg c = true) → l.foldl (fun n c => 10 * n + (c.toNat - 48)) acc < (acc + 1) * 10 ^ l.length
  | [], acc, _ => by simp
  | c :: t, acc, h => by
    have hc := of_decide_eq_true (h c (List.mem_cons_self ..))
    have ih := dgN_lt t (10 * acc + (c.toNat - 48)) (fun x hx => h x (List.mem_cons_of_mem _ hx))
    rw [List.foldl_cons, List.length_cons, Nat.pow_succ]
    refine Nat.lt_of_lt_of_le ih ?_
    rw [Nat.mul_comm (10 ^ t.length) 10, ← Nat.mul_assoc]
    exact Nat.mul_le_mul_right _ (by omega)

end Go.Proofs.YtioppoaijehicaaGreatDoor
