/-
  PLAIN: the words of a string. WALKS: is a byte one of a word?
-/
import Derived.Test.YtfpcfpjnafnjiaaLow
import Derived.Test.YtfpcfpjnafnjiaaRowI
set_option linter.all false
namespace Go.Proofs.Ytfpcfpjnafnjiaa
open Go.RowKit

def isWI (c : Int) : Bool := decide ((97 ≤ c ∧ c ≤ 122) ∨ (65 ≤ c ∧ c ≤ 90) ∨ (48 ≤ c ∧ c ≤ 57) ∨ 128 ≤ c)

set_option maxHeartbeats 1600000 in
theorem isWordByte_any (c : Int) (w : World) (h0 : 0 ≤ c) (h1 : c ≤ 255) :
    Calls Try.prog 65 #[.int .u8 c] w fun e w' => e = .returned (.bool (isWI c)) ∧ w = w' := by
  have hc : (c < 48 ∧ isWI c = false) ∨ ((48 ≤ c ∧ c ≤ 57) ∧ isWI c = true) ∨ ((58 ≤ c ∧ c ≤ 64) ∧ isWI c = false) ∨ ((65 ≤ c ∧ c ≤ 90) ∧ isWI c = true) ∨ ((91 ≤ c ∧ c ≤ 96) ∧ isWI c = false) ∨ ((97 ≤ c ∧ c ≤ 122) ∧ isWI c = true) ∨ ((123 ≤ c ∧ c ≤ 127) ∧ isWI c = false) ∨ (128 ≤ c ∧ isWI c = true) := by
    simp only [isWI, decide_eq_false_iff_not, decide_eq_true_eq]; omega
  generalize isWI c = r at hc ⊢
  rcases hc with ⟨q, rfl⟩ | ⟨⟨q, q2⟩, rfl⟩ | ⟨⟨q, q2⟩, rfl⟩ | ⟨⟨q, q2⟩, rfl⟩ | ⟨⟨q, q2⟩, rfl⟩ | ⟨⟨q, q2⟩, rfl⟩ | ⟨⟨q, q2⟩, rfl⟩ | ⟨q, rfl⟩
  all_goals
    go_enter Try.func65, Try.ntmps65
    go_wp2
    go_ret
    exact ⟨ret_bool (by first | rfl | (simp; omega)), rfl⟩

set_option maxHeartbeats 1600000 in
theorem isWordR_any (c : Int) (w : World) (h0 : 0 ≤ c) (h1 : c ≤ 255) :
    Calls Try.prog 41 #[.int .u8 c] w fun e w' => e = .returned (.bool (isWI c)) ∧ w = w' := by
  have hc : (c < 48 ∧ isWI c = false) ∨ ((48 ≤ c ∧ c ≤ 57) ∧ isWI c = true) ∨ ((58 ≤ c ∧ c ≤ 64) ∧ isWI c = false) ∨ ((65 ≤ c ∧ c ≤ 90) ∧ isWI c = true) ∨ ((91 ≤ c ∧ c ≤ 96) ∧ isWI c = false) ∨ ((97 ≤ c ∧ c ≤ 122) ∧ isWI c = true) ∨ ((123 ≤ c ∧ c ≤ 127) ∧ isWI c = false) ∨ (128 ≤ c ∧ isWI c = true) := by
    simp only [isWI, decide_eq_false_iff_not, decide_eq_true_eq]; omega
  generalize isWI c = r at hc ⊢
  rcases hc with ⟨q, rfl⟩ | ⟨⟨q, q2⟩, rfl⟩ | ⟨⟨q, q2⟩, rfl⟩ | ⟨⟨q, q2⟩, rfl⟩ | ⟨⟨q, q2⟩, rfl⟩ | ⟨⟨q, q2⟩, rfl⟩ | ⟨⟨q, q2⟩, rfl⟩ | ⟨q, rfl⟩
  all_goals
    go_enter Try.func41, Try.ntmps41
    go_wp2
    go_ret
    exact ⟨ret_bool (by first | rfl | (simp; omega)), rfl⟩


/-- Where the word bytes from a place on end. -/
def wEndF (s : ByteArray) : Nat → Nat → Nat
  | 0, k => k
  | f + 1, k => if h : k < s.size then (if isWI s[k].toNat then wEndF s f (k + 1) else k) else k
def wEnd (s : ByteArray) (i : Nat) : Nat := wEndF s (s.size - i) i
theorem wEnd_step {s : ByteArray} {k : Nat} (h : k < s.size) (hw : isWI s[k].toNat = true) : wEnd s k = wEnd s (k + 1) := by
  unfold wEnd
  rw [show s.size - k = (s.size - (k + 1)) + 1 by omega, wEndF, dif_pos h, if_pos hw]
theorem wEnd_stop {s : ByteArray} {k : Nat} (h : k < s.size) (hw : isWI s[k].toNat = false) : wEnd s k = k := by
  unfold wEnd
  rw [show s.size - k = (s.size - (k + 1)) + 1 by omega, wEndF, dif_pos h, if_neg (by rw [hw]; exact Bool.false_ne_true)]
theorem wEnd_over {s : ByteArray} {k : Nat} (h : s.size ≤ k) : wEnd s k = k := by
  unfold wEnd
  rw [show s.size - k = 0 by omega, wEndF]

/-- A word, and where it lies. -/
structure Wd where
  t : ByteArray
  f : Nat
  u : Nat
def wdHere (s : ByteArray) (i k : Nat) : List Wd := if i < k ∧ k ≤ i + 30 then [⟨lowS (s.extract i k), i, k⟩] else []
def wordsF (s : ByteArray) : Nat → Nat → List Wd
  | 0, _ => []
  | f + 1, i => if i < s.size then wdHere s i (wEnd s i) ++ wordsF s f (max (wEnd s i) (i + 1)) else []
theorem wordsF_more (s : ByteArray) : ∀ (f i : Nat), s.size - i ≤ f → wordsF s f i = wordsF s (s.size - i) i
  | 0, i, h => by rw [show s.size - i = 0 by omega]
  | f + 1, i, h => by
    by_cases hi : i < s.size
    · obtain ⟨n, hn⟩ : ∃ n, s.size - i = n + 1 := ⟨s.size - i - 1, by omega⟩
      rw [hn, wordsF, wordsF, if_pos hi, if_pos hi, wordsF_more s f (max (wEnd s i) (i + 1)) (by omega), wordsF_more s n (max (wEnd s i) (i + 1)) (by omega)]
    · rw [show s.size - i = 0 by omega, wordsF, wordsF, if_neg hi]
termination_by f => f
decreasing_by
  · omega
  · omega
/-- The words from a place on. -/
def wordsAt (s : ByteArray) (i : Nat) : List Wd := wordsF s (s.size - i) i
theorem wordsAt_step {s : ByteArray} {i : Nat} (h : i < s.size) : wordsAt s i = wdHere s i (wEnd s i) ++ wordsAt s (max (wEnd s i) (i + 1)) := by
  unfold wordsAt
  obtain ⟨n, hn⟩ : ∃ n, s.size - i = n + 1 := ⟨s.size - i - 1, by omega⟩
  rw [hn, wordsF, if_pos h, wordsF_more s n _ (by omega)]
theorem wordsAt_over {s : ByteArray} {i : Nat} (h : s.size ≤ i) : wordsAt s i = [] := by
  unfold wordsAt
  rw [show s.size - i = 0 by omega, wordsF]
def Wd.cells (x : Wd) : List Value := [.string x.t, .int .i64 x.f, .int .i64 x.u]
def flatW (l : List Wd) : List Value := l.flatMap Wd.cells
theorem flatW_snoc (l : List Wd) (x : Wd) : flatW (l ++ [x]) = flatW l ++ x.cells := by simp [flatW]
theorem flatW_len (l : List Wd) : (flatW l).length = l.length * 3 := by
  induction l with
  | nil => rfl
  | cons x xs ih => simp [flatW, Wd.cells] at ih ⊢; omega
theorem info_wd : (Try.prog.info? 55).map (fun i => (i.zero, i.size, i.bytes)) = some (some (.agg #[.string ByteArray.empty, .int .i64 0, .int .i64 0]), 3, 32) := by kernel_rfl

end Go.Proofs.Ytfpcfpjnafnjiaa
