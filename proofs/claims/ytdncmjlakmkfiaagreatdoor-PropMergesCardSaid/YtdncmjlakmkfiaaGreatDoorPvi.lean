/-
  PLAIN: a text that has a blank at an end, and strings.Trim.
-/
import Derived.Test.YtdncmjlakmkfiaaGreatDoorPvg
import Derived.Test.YtdncmjlakmkfiaaGreatDoorDayC
import Derived.Deep.CutBlock
import Derived.Deep.QuietTactic
import Derived.BigQuiet
set_option linter.all false
namespace Go.Proofs.YtdncmjlakmkfiaaGreatDoor
open Go.RowKit Go.Lib

theorem dropWhile_len {α : Type} (p : α → Bool) : ∀ l : List α, (l.dropWhile p).length ≤ l.length
  | [] => Nat.le_refl _
  | a :: t => by
    by_cases ha : p a = true
    · rw [List.dropWhile_cons_of_pos ha]
      have := dropWhile_len p t
      simp only [List.length_cons]
      omega
    · rw [List.dropWhile_cons_of_neg ha]
      exact Nat.le_refl _

theorem dropWhile_keep {α : Type} (p : α → Bool) {l : List α} (h : ∀ a, l[0]? = some a → p a = false) : l.dropWhile p = l := by
  cases l with
  | nil => rfl
  | cons a t => exact List.dropWhile_cons_of_neg (by rw [h a rfl]; exact Bool.false_ne_true)

theorem dropWhile_less {α : Type} (p : α → Bool) {l : List α} {a : α} (h : l[0]? = some a) (ha : p a = true) : (l.dropWhile p).length < l.length := by
  cases l with
  | nil => cases h
  | cons b t =>
    simp only [List.getElem?_cons_zero, Option.some.injEq] at h
    subst h
    rw [List.dropWhile_cons_of_pos ha]
    have := dropWhile_len p t
    simp only [List.length_cons]
    omega

theorem trim_blank {l : List UInt8} {m : Nat} {x y : UInt8} (hm : l.length = m + 1) (hx : l[0]? = some x) (hy : l[m]? = some y) :
    (Lib.trimS l [32] == l) = !(decide (x.toNat = 32) || decide (y.toNat = 32)) := by
  have n32 : ∀ x : UInt8, ([32] : List UInt8).contains x = decide (x.toNat = 32) := fun x => by
    by_cases h : x.toNat = 32
    · have : x = 32 := UInt8.toNat_inj.1 h
      subst this; rfl
    · have : x ≠ 32 := fun e => h (by rw [e]; rfl)
      simp [h, this]
  have hrev : l.reverse[0]? = some y := by
    rw [List.getElem?_reverse (by omega), hm]
    exact hy
  unfold Lib.trimS Lib.trimLeftS Lib.trimRightS
  by_cases h2 : y.toNat = 32
  · have h3 := dropWhile_less (fun b => ([32] : List UInt8).contains b) hrev (by rw [n32, decide_eq_true h2])
    have h4 := dropWhile_len (fun b => ([32] : List UInt8).contains b) (l.reverse.dropWhile (fun b => ([32] : List UInt8).contains b)).reverse
    rw [decide_eq_true h2, Bool.or_true, Bool.not_true]
    refine beq_eq_false_iff_ne.2 (fun he => ?_)
    have := congrArg List.length he
    rw [List.length_reverse] at h3 h4
    omega
  · rw [dropWhile_keep (fun b => ([32] : List UInt8).contains b) (l := l.reverse) (fun a ha => by rw [hrev] at ha; cases ha; rw [n32, decide_eq_false h2]), List.reverse_reverse, decide_eq_false h2, Bool.or_false]
    by_cases h1 : x.toNat = 32
    · have h3 := dropWhile_less (fun b => ([32] : List UInt8).contains b) hx (by rw [n32, decide_eq_true h1])
      rw [decide_eq_true h1, Bool.not_true]
      refine beq_eq_false_iff_ne.2 (fun he => ?_)
      have := congrArg List.length he
      omega
    · rw [dropWhile_keep (fun b => ([32] : List UInt8).contains b) (l := l) (fun a ha => by rw [hx] at ha; cases ha; rw [n32, decide_eq_false h1]), decide_eq_false h1]
      simp

end Go.Proofs.YtdncmjlakmkfiaaGreatDoor
/-
  WALK: a value's error, in the reference, where there are no items.
-/
namespace Go.Proofs.YtdncmjlakmkfiaaGreatDoor
open Go.RowKit Go.Lib

theorem V.self_form {v : V} (h : 0 ≤ v.k ∧ v.k ≤ 7) (hf : v.formOk = false) : v.selfErr = 1 := by
  rcases v.self_cases with ⟨_, _⟩ | ⟨_, ⟨_, e⟩ | ⟨g, _⟩⟩
  · omega
  · exact e
  · rw [hf] at g; cases g

theorem V.self_num {v : V} {e : Int} (h : 0 ≤ v.k ∧ v.k ≤ 7) (hf : v.formOk = true) (hn : v.numErr = e) (he : e ≠ 0) : v.selfErr = e := by
  rcases v.self_cases with ⟨_, _⟩ | ⟨_, ⟨g, _⟩ | ⟨_, ⟨_, e'⟩ | ⟨g, _⟩⟩⟩
  · omega
  · rw [hf] at g; cases g
  · rw [e', hn]
  · omega

theorem V.self_text {v : V} {e : Int} (h : 0 ≤ v.k ∧ v.k ≤ 7) (hf : v.formOk = true) (hn : v.numErr = 0) (ht : v.textErr = e) (he : e ≠ 0) : v.selfErr = e := by
  rcases v.self_cases with ⟨_, _⟩ | ⟨_, ⟨g, _⟩ | ⟨_, ⟨g, _⟩ | ⟨_, ⟨_, e'⟩ | ⟨g, _⟩⟩⟩⟩
  · omega
  · rw [hf] at g; cases g
  · omega
  · rw [e', ht]
  · omega

theorem V.self_ok {v : V} (h : 0 ≤ v.k ∧ v.k ≤ 7) (hf : v.formOk = true) (hn : v.numErr = 0) (ht : v.textErr = 0) (hl : v.l.length = 0) : v.selfErr = 0 := by
  rcases v.self_cases with ⟨_, _⟩ | ⟨_, ⟨g, _⟩ | ⟨_, ⟨g, _⟩ | ⟨_, ⟨g, _⟩ | ⟨_, ⟨g, _⟩ | ⟨_, e⟩⟩⟩⟩⟩
  · omega
  · rw [hf] at g; cases g
  · omega
  · omega
  · omega
  · exact e

theorem V.self_len {v : V} (h : 0 ≤ v.k ∧ v.k ≤ 7) (hf : v.formOk = true) (hn : v.numErr = 0) (ht : v.textErr = 0) (hl : 20 < v.l.length) : v.selfErr = 4 := by
  rcases v.self_cases with ⟨_, _⟩ | ⟨_, ⟨g, _⟩ | ⟨_, ⟨g, _⟩ | ⟨_, ⟨g, _⟩ | ⟨_, ⟨_, e⟩ | ⟨g, _⟩⟩⟩⟩⟩
  · omega
  · rw [hf] at g; cases g
  · omega
  · omega
  · exact e
  · omega

theorem V.self_fine {v : V} (h : 0 ≤ v.k ∧ v.k ≤ 7) (hf : v.formOk = true) (hn : v.numErr = 0) (ht : v.textErr = 0) (hl : v.l.length ≤ 20) : v.selfErr = 0 := by
  rcases v.self_cases with ⟨_, _⟩ | ⟨_, ⟨g, _⟩ | ⟨_, ⟨g, _⟩ | ⟨_, ⟨g, _⟩ | ⟨_, ⟨g, _⟩ | ⟨_, e⟩⟩⟩⟩⟩
  · omega
  · rw [hf] at g; cases g
  · omega
  · omega
  · omega
  · exact e

end Go.Proofs.YtdncmjlakmkfiaaGreatDoor
