/-
  WALKS: ContainsFunc at strings over any function; isWord; what is wrong with a part; its text; how many parts.
-/
import Derived.Test.YtfpcfpjnafnjiaaSna
import Derived.Lib.Join
import Derived.Deep.QuietTactic
import Derived.BigQuiet
set_option linter.all false
namespace Go.Proofs.Ytfpcfpjnafnjiaa
open Go.RowKit Go.Lib

set_option maxHeartbeats 400000 in
theorem outside_any (n lo hi : Int) (w : World) :
    Calls Try.prog 31 #[.int .i64 n, .int .i64 lo, .int .i64 hi] w fun e w' => e = .returned (.bool (decide (n < lo ∨ hi < n))) ∧ w = w' := by
  by_cases h1 : n < lo
  · go_enter Try.func31, Try.ntmps31
    go_wp2
    go_ret
    exact ⟨by simp [h1], rfl⟩
  · by_cases h2 : hi < n
    · go_enter Try.func31, Try.ntmps31
      go_wp2
      go_ret
      exact ⟨by simp [h2], rfl⟩
    · go_enter Try.func31, Try.ntmps31
      go_wp2
      go_ret
      exact ⟨by simp; omega, rfl⟩
theorem outside_yes (n lo hi : Int) (w : World) (h : n < lo ∨ hi < n) :
    Calls Try.prog 31 #[.int .i64 n, .int .i64 lo, .int .i64 hi] w fun e w' => e = .returned (.bool true) ∧ w = w' :=
  (outside_any n lo hi w).mono fun _ _ ⟨he, hw⟩ => ⟨by rw [he, decide_eq_true h], hw⟩
theorem outside_no (n lo hi : Int) (w : World) (h1 : lo ≤ n) (h2 : n ≤ hi) :
    Calls Try.prog 31 #[.int .i64 n, .int .i64 lo, .int .i64 hi] w fun e w' => e = .returned (.bool false) ∧ w = w' :=
  (outside_any n lo hi w).mono fun _ _ ⟨he, hw⟩ => ⟨by rw [he, decide_eq_false (by omega)], hw⟩

theorem pl_drewN {w : World} {os : Array Obj} {n k : Nat} : (plus w os n).drewN k = plus w os (n + k) := rfl
/-- What IndexFunc says: the first place at which the function says yes, or -1. -/
def IdxIs (P : ByteArray → Bool) (ss : List ByteArray) (r : Int) : Prop := (∃ k : Nat, ∃ h : k < ss.length, r = k ∧ P ss[k] = true) ∨ (r = -1 ∧ ∀ x ∈ ss, P x = false)
def IdxOut (P : ByteArray → Bool) (ss : List ByteArray) (w : World) (e : Ending) (w' : World) : Prop := ∃ r : Int, e = .returned (.int .i64 r) ∧ IdxIs P ss r ∧ Below w.heap.size w w'

set_option maxHeartbeats 1600000 in
set_option maxRecDepth 100000 in
theorem isWord_any (x : ByteArray) (w : World) (hx : x.size ≤ 1900000) :
    Calls Try.prog 9 #[.string x] w fun e w' => e = .returned (.bool (isWordS x)) ∧ Below w.heap.size w w' := by
  have HW := hide (fun w => words_any x w hx)
  have hcnt := wordsAt_count x
  have hS : (∃ y, wordsAt x 0 = [y] ∧ isWordS x = (y.t.toList == x.toList)) ∨ ((wordsAt x 0).length ≠ 1 ∧ isWordS x = false) := by
    unfold isWordS
    cases h : wordsAt x 0 with
    | nil => exact .inr ⟨by simp, rfl⟩
    | cons y l =>
      cases l with
      | nil => exact .inl ⟨y, rfl, rfl⟩
      | cons z l => exact .inr ⟨by simp, rfl⟩
  unfold WordsOut at HW
  generalize isWordS x = R at *
  generalize wordsAt x 0 = l at *
  rcases hS with ⟨y, rfl, rfl⟩ | ⟨h1, rfl⟩
  · obtain ⟨yt, yf, yu⟩ := y
    go_enter Try.func9, Try.ntmps9
    go_wp2_with (go_at_call 30; refine (HW.out _).mono ?_; rintro e w' ⟨A, c, rfl, hr, hbl⟩; obtain ⟨b, off, rfl, hlt, hc⟩ := hr (by simp); have e0 := (hc 0 (by simp)).1; simp only [List.getElem_cons_zero, Nat.zero_mul, Nat.add_zero, List.length_cons, List.length_nil] at e0 ⊢; have HBL := hide hbl; clear hbl hr hc)
    go_ret
    exact ⟨rfl, HBL.out⟩
  · have i1 : ((l.length : Int) == 1) = false := beq_eq_false_iff_ne.2 (by omega)
    go_enter Try.func9, Try.ntmps9
    go_wp2_with (go_at_call 30; refine (HW.out _).mono ?_; rintro e w' ⟨A, c, rfl, hr, hbl⟩; have HBL := hide hbl; clear hbl hr)
    go_ret
    exact ⟨rfl, HBL.out⟩

theorem Pq.err_cases (p : Pq) : (p.k < 0 ∨ 3 < p.k) ∧ p.err = 10 ∨ ((0 ≤ p.k ∧ p.k ≤ 3) ∧ ((p.ws.length = 0 ∧ p.err = 1) ∨ (p.ws.length ≠ 0 ∧ p.k ≠ 3 ∧ p.ws.length ≠ 1 ∧ p.err = 1) ∨
    (p.ws.length ≠ 0 ∧ (p.k = 3 ∨ (p.k ≠ 3 ∧ p.ws.length = 1)) ∧ p.err = if p.ws.any (fun x => !isWordS x) = true then 1 else 0))) := by
  unfold Pq.err
  by_cases h1 : p.k < 0 ∨ 3 < p.k
  · exact .inl ⟨h1, if_pos h1⟩
  rw [if_neg h1]
  refine .inr ⟨by omega, ?_⟩
  by_cases h2 : p.ws.length = 0
  · exact .inl ⟨h2, if_pos (.inl h2)⟩
  by_cases h3 : p.k ≠ 3 ∧ p.ws.length ≠ 1
  · exact .inr (.inl ⟨h2, h3.1, h3.2, if_pos (.inr (.inl h3))⟩)
  refine .inr (.inr ⟨h2, by omega, ?_⟩)
  by_cases h4 : p.ws.any (fun x => !isWordS x) = true
  · rw [if_pos h4, if_pos (.inr (.inr h4))]
  · rw [if_neg h4, if_neg (fun h => by rcases h with h | h | h <;> contradiction)]

end Go.Proofs.Ytfpcfpjnafnjiaa
