/-
  PLAIN AND WALKS: what is wrong with a value by itself: its form, its numbers, its text.
-/
import Derived.Test.YtidpfjdlchffcaaDoorPvb
import Derived.Test.YtidpfjdlchffcaaDoorVal
set_option linter.all false
namespace Go.Proofs.YtidpfjdlchffcaaDoor
open Go.RowKit Go.Lib

def sqAny (s : ByteArray) : Bool := Lib.containsAny s.data.toList [91, 93, 124]

def blankEnd (s : ByteArray) : Bool := decide (s.data.toList[0]? = some 32) || decide (s.data.toList[s.size - 1]? = some 32)

def formB (k i t : Int) (m n : Nat) : Bool :=
  (decide (k = 1 ∨ k = 2 ∨ k = 4 ∨ k = 5) || decide (i = 0)) && ((decide (k = 5) || decide (t = 0)) && ((decide (k = 3 ∨ k = 6) || decide (m = 0)) && (decide (k = 7) || decide (n = 0))))

def V.formOk (v : V) : Bool := formB v.k v.i v.t v.s.size v.l.length

def V.numErr (v : V) : Int :=
  if v.k = 1 then (if v.i < 0 ∨ 1 < v.i then 2 else 0) else
  if v.k = 2 then (if v.i < -1000000000 ∨ 1000000000 < v.i then 2 else 0) else
  if v.k = 4 then (if v.i < 0 ∨ 100000 < v.i then 2 else 0) else
  if v.k = 5 then (if (v.i < 0 ∨ 100000 < v.i) ∨ (v.t < 0 ∨ 100000 < v.t) then 2 else if v.t < v.i then 5 else 0) else 0

def V.textErr (v : V) : Int :=
  if 2000 < v.s.size ∨ (v.k = 6 ∧ 100 < v.s.size) then 4 else if ctl v.s = true then 9 else
  if v.k = 6 ∧ (v.s.size = 0 ∨ blankEnd v.s = true ∨ sqAny v.s = true) then 1 else 0

def V.selfErr (v : V) : Int :=
  if v.k < 0 ∨ 7 < v.k then 10 else if v.formOk = false then 1 else if v.numErr ≠ 0 then v.numErr else if v.textErr ≠ 0 then v.textErr else if 20 < v.l.length then 4 else 0

theorem kinds {k : Int} (h : 0 ≤ k) (h7 : k ≤ 7) : k = 0 ∨ k = 1 ∨ k = 2 ∨ k = 3 ∨ k = 4 ∨ k = 5 ∨ k = 6 ∨ k = 7 := by omega

set_option maxHeartbeats 3200000 in
set_option maxRecDepth 100000 in
theorem usesForm_any (v : V) (A : Option Addr) (c : Nat) (w : World) (h0 : 0 ≤ v.k) (h7 : v.k ≤ 7) (hl : v.l.length ≤ maxLen) :
    Calls Tryd.prog 57 #[v.arg A c] w fun e w' => e = .returned (.bool v.formOk) ∧ Below w.heap.size w w' := by
  have hemp := toList_empty v.s
  unfold V.formOk
  obtain ⟨k, i, t, s, l⟩ := v
  simp only [V.arg, V.k, V.i, V.t, V.s, V.l] at *
  unfold maxLen at hl
  generalize l.length = n at *
  have hk := kinds h0 h7
  clear h0 h7
  obtain ⟨B, m, hB, hm⟩ : ∃ (B : Bool) (m : Nat), s.toList.isEmpty = B ∧ s.size = m ∧ ((B = true ∧ m = 0) ∨ (B = false ∧ 0 < m)) := ⟨_, _, rfl, rfl, by rw [hemp]; rcases Nat.eq_zero_or_pos s.size with h | h; exact .inl ⟨decide_eq_true h, h⟩; exact .inr ⟨decide_eq_false (by omega), h⟩⟩
  obtain ⟨hm1, hm⟩ := hm
  rw [hm1]
  clear hm1 hemp
  rcases hk with rfl | rfl | rfl | rfl | rfl | rfl | rfl | rfl
  · go_enter Tryd.func57, Tryd.ntmps57
    by_cases hi : i = 0
    case neg =>
      have hi2 : (i == 0) = false := beq_eq_false_iff_ne.2 hi
      go_wp2
      go_ret
      exact ⟨by first | rfl | (simp [formB, *] <;> omega), (by repeat (first | exact Below.refl _ _ | refine bl_plus ?_ | refine bl_alloc ?_ _ | refine bl_drew ?_))⟩
    subst hi
    by_cases ht : t = 0
    case neg =>
      have ht2 : (t == 0) = false := beq_eq_false_iff_ne.2 ht
      go_wp2
      go_ret
      exact ⟨by first | rfl | (simp [formB, *] <;> omega), (by repeat (first | exact Below.refl _ _ | refine bl_plus ?_ | refine bl_alloc ?_ _ | refine bl_drew ?_))⟩
    subst ht
    rcases hm with ⟨rfl, rfl⟩ | ⟨rfl, hm⟩
    case inr =>
      go_wp2
      go_ret
      exact ⟨by first | rfl | (simp [formB, *] <;> omega), (by repeat (first | exact Below.refl _ _ | refine bl_plus ?_ | refine bl_alloc ?_ _ | refine bl_drew ?_))⟩
    rcases Nat.eq_zero_or_pos n with hn | hn
    case inr =>
      have hn2 : ((n : Int) == 0) = false := beq_eq_false_iff_ne.2 (by omega)
      go_wp2
      go_ret
      exact ⟨by first | rfl | (simp [formB, *] <;> omega), (by repeat (first | exact Below.refl _ _ | refine bl_plus ?_ | refine bl_alloc ?_ _ | refine bl_drew ?_))⟩
    subst hn
    go_wp2
    go_ret
    exact ⟨by first | rfl | (simp [formB, *] <;> omega), (by repeat (first | exact Below.refl _ _ | refine bl_plus ?_ | refine bl_alloc ?_ _ | refine bl_drew ?_))⟩
  · go_enter Tryd.func57, Tryd.ntmps57
    by_cases ht : t = 0
    case neg =>
      have ht2 : (t == 0) = false := beq_eq_false_iff_ne.2 ht
      go_wp2
      go_ret
      exact ⟨by first | rfl | (simp [formB, *] <;> omega), (by repeat (first | exact Below.refl _ _ | refine bl_plus ?_ | refine bl_alloc ?_ _ | refine bl_drew ?_))⟩
    subst ht
    rcases hm with ⟨rfl, rfl⟩ | ⟨rfl, hm⟩
    case inr =>
      go_wp2
      go_ret
      exact ⟨by first | rfl | (simp [formB, *] <;> omega), (by repeat (first | exact Below.refl _ _ | refine bl_plus ?_ | refine bl_alloc ?_ _ | refine bl_drew ?_))⟩
    rcases Nat.eq_zero_or_pos n with hn | hn
    case inr =>
      have hn2 : ((n : Int) == 0) = false := beq_eq_false_iff_ne.2 (by omega)
      go_wp2
      go_ret
      exact ⟨by first | rfl | (simp [formB, *] <;> omega), (by repeat (first | exact Below.refl _ _ | refine bl_plus ?_ | refine bl_alloc ?_ _ | refine bl_drew ?_))⟩
    subst hn
    go_wp2
    go_ret
    exact ⟨by first | rfl | (simp [formB, *] <;> omega), (by repeat (first | exact Below.refl _ _ | refine bl_plus ?_ | refine bl_alloc ?_ _ | refine bl_drew ?_))⟩
  · go_enter Tryd.func57, Tryd.ntmps57
    by_cases ht : t = 0
    case neg =>
      have ht2 : (t == 0) = false := beq_eq_false_iff_ne.2 ht
      go_wp2
      go_ret
      exact ⟨by first | rfl | (simp [formB, *] <;> omega), (by repeat (first | exact Below.refl _ _ | refine bl_plus ?_ | refine bl_alloc ?_ _ | refine bl_drew ?_))⟩
    subst ht
    rcases hm with ⟨rfl, rfl⟩ | ⟨rfl, hm⟩
    case inr =>
      go_wp2
      go_ret
      exact ⟨by first | rfl | (simp [formB, *] <;> omega), (by repeat (first | exact Below.refl _ _ | refine bl_plus ?_ | refine bl_alloc ?_ _ | refine bl_drew ?_))⟩
    rcases Nat.eq_zero_or_pos n with hn | hn
    case inr =>
      have hn2 : ((n : Int) == 0) = false := beq_eq_false_iff_ne.2 (by omega)
      go_wp2
      go_ret
      exact ⟨by first | rfl | (simp [formB, *] <;> omega), (by repeat (first | exact Below.refl _ _ | refine bl_plus ?_ | refine bl_alloc ?_ _ | refine bl_drew ?_))⟩
    subst hn
    go_wp2
    go_ret
    exact ⟨by first | rfl | (simp [formB, *] <;> omega), (by repeat (first | exact Below.refl _ _ | refine bl_plus ?_ | refine bl_alloc ?_ _ | refine bl_drew ?_))⟩
  · go_enter Tryd.func57, Tryd.ntmps57
    by_cases hi : i = 0
    case neg =>
      have hi2 : (i == 0) = false := beq_eq_false_iff_ne.2 hi
      go_wp2
      go_ret
      exact ⟨by first | rfl | (simp [formB, *] <;> omega), (by repeat (first | exact Below.refl _ _ | refine bl_plus ?_ | refine bl_alloc ?_ _ | refine bl_drew ?_))⟩
    subst hi
    by_cases ht : t = 0
    case neg =>
      have ht2 : (t == 0) = false := beq_eq_false_iff_ne.2 ht
      go_wp2
      go_ret
      exact ⟨by first | rfl | (simp [formB, *] <;> omega), (by repeat (first | exact Below.refl _ _ | refine bl_plus ?_ | refine bl_alloc ?_ _ | refine bl_drew ?_))⟩
    subst ht
    rcases Nat.eq_zero_or_pos n with hn | hn
    case inr =>
      have hn2 : ((n : Int) == 0) = false := beq_eq_false_iff_ne.2 (by omega)
      go_wp2
      go_ret
      exact ⟨by first | rfl | (simp [formB, *] <;> omega), (by repeat (first | exact Below.refl _ _ | refine bl_plus ?_ | refine bl_alloc ?_ _ | refine bl_drew ?_))⟩
    subst hn
    go_wp2
    go_ret
    exact ⟨by first | rfl | (simp [formB, *] <;> omega), (by repeat (first | exact Below.refl _ _ | refine bl_plus ?_ | refine bl_alloc ?_ _ | refine bl_drew ?_))⟩
  · go_enter Tryd.func57, Tryd.ntmps57
    by_cases ht : t = 0
    case neg =>
      have ht2 : (t == 0) = false := beq_eq_false_iff_ne.2 ht
      go_wp2
      go_ret
      exact ⟨by first | rfl | (simp [formB, *] <;> omega), (by repeat (first | exact Below.refl _ _ | refine bl_plus ?_ | refine bl_alloc ?_ _ | refine bl_drew ?_))⟩
    subst ht
    rcases hm with ⟨rfl, rfl⟩ | ⟨rfl, hm⟩
    case inr =>
      go_wp2
      go_ret
      exact ⟨by first | rfl | (simp [formB, *] <;> omega), (by repeat (first | exact Below.refl _ _ | refine bl_plus ?_ | refine bl_alloc ?_ _ | refine bl_drew ?_))⟩
    rcases Nat.eq_zero_or_pos n with hn | hn
    case inr =>
      have hn2 : ((n : Int) == 0) = false := beq_eq_false_iff_ne.2 (by omega)
      go_wp2
      go_ret
      exact ⟨by first | rfl | (simp [formB, *] <;> omega), (by repeat (first | exact Below.refl _ _ | refine bl_plus ?_ | refine bl_alloc ?_ _ | refine bl_drew ?_))⟩
    subst hn
    go_wp2
    go_ret
    exact ⟨by first | rfl | (simp [formB, *] <;> omega), (by repeat (first | exact Below.refl _ _ | refine bl_plus ?_ | refine bl_alloc ?_ _ | refine bl_drew ?_))⟩
  · go_enter Tryd.func57, Tryd.ntmps57
    rcases hm with ⟨rfl, rfl⟩ | ⟨rfl, hm⟩
    case inr =>
      go_wp2
      go_ret
      exact ⟨by first | rfl | (simp [formB, *] <;> omega), (by repeat (first | exact Below.refl _ _ | refine bl_plus ?_ | refine bl_alloc ?_ _ | refine bl_drew ?_))⟩
    rcases Nat.eq_zero_or_pos n with hn | hn
    case inr =>
      have hn2 : ((n : Int) == 0) = false := beq_eq_false_iff_ne.2 (by omega)
      go_wp2
      go_ret
      exact ⟨by first | rfl | (simp [formB, *] <;> omega), (by repeat (first | exact Below.refl _ _ | refine bl_plus ?_ | refine bl_alloc ?_ _ | refine bl_drew ?_))⟩
    subst hn
    go_wp2
    go_ret
    exact ⟨by first | rfl | (simp [formB, *] <;> omega), (by repeat (first | exact Below.refl _ _ | refine bl_plus ?_ | refine bl_alloc ?_ _ | refine bl_drew ?_))⟩
  · go_enter Tryd.func57, Tryd.ntmps57
    by_cases hi : i = 0
    case neg =>
      have hi2 : (i == 0) = false := beq_eq_false_iff_ne.2 hi
      go_wp2
      go_ret
      exact ⟨by first | rfl | (simp [formB, *] <;> omega), (by repeat (first | exact Below.refl _ _ | refine bl_plus ?_ | refine bl_alloc ?_ _ | refine bl_drew ?_))⟩
    subst hi
    by_cases ht : t = 0
    case neg =>
      have ht2 : (t == 0) = false := beq_eq_false_iff_ne.2 ht
      go_wp2
      go_ret
      exact ⟨by first | rfl | (simp [formB, *] <;> omega), (by repeat (first | exact Below.refl _ _ | refine bl_plus ?_ | refine bl_alloc ?_ _ | refine bl_drew ?_))⟩
    subst ht
    rcases Nat.eq_zero_or_pos n with hn | hn
    case inr =>
      have hn2 : ((n : Int) == 0) = false := beq_eq_false_iff_ne.2 (by omega)
      go_wp2
      go_ret
      exact ⟨by first | rfl | (simp [formB, *] <;> omega), (by repeat (first | exact Below.refl _ _ | refine bl_plus ?_ | refine bl_alloc ?_ _ | refine bl_drew ?_))⟩
    subst hn
    go_wp2
    go_ret
    exact ⟨by first | rfl | (simp [formB, *] <;> omega), (by repeat (first | exact Below.refl _ _ | refine bl_plus ?_ | refine bl_alloc ?_ _ | refine bl_drew ?_))⟩
  · go_enter Tryd.func57, Tryd.ntmps57
    by_cases hi : i = 0
    case neg =>
      have hi2 : (i == 0) = false := beq_eq_false_iff_ne.2 hi
      go_wp2
      go_ret
      exact ⟨by first | rfl | (simp [formB, *] <;> omega), (by repeat (first | exact Below.refl _ _ | refine bl_plus ?_ | refine bl_alloc ?_ _ | refine bl_drew ?_))⟩
    subst hi
    by_cases ht : t = 0
    case neg =>
      have ht2 : (t == 0) = false := beq_eq_false_iff_ne.2 ht
      go_wp2
      go_ret
      exact ⟨by first | rfl | (simp [formB, *] <;> omega), (by repeat (first | exact Below.refl _ _ | refine bl_plus ?_ | refine bl_alloc ?_ _ | refine bl_drew ?_))⟩
    subst ht
    rcases hm with ⟨rfl, rfl⟩ | ⟨rfl, hm⟩
    case inr =>
      go_wp2
      go_ret
      exact ⟨by first | rfl | (simp [formB, *] <;> omega), (by repeat (first | exact Below.refl _ _ | refine bl_plus ?_ | refine bl_alloc ?_ _ | refine bl_drew ?_))⟩
    go_wp2
    go_ret
    exact ⟨by first | rfl | (simp [formB, *] <;> omega), (by repeat (first | exact Below.refl _ _ | refine bl_plus ?_ | refine bl_alloc ?_ _ | refine bl_drew ?_))⟩

end Go.Proofs.YtidpfjdlchffcaaDoor
