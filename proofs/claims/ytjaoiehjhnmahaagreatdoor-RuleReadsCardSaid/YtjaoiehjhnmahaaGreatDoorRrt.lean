/-
  PLAIN: a unit's number as the reference finds it; what is right in place of what is bad.
-/
import Derived.Test.YtjaoiehjhnmahaaGreatDoorRrd
set_option linter.all false
namespace Go.Proofs.YtjaoiehjhnmahaaGreatDoor
open Go.RowKit

/-- Whether a word is this unit, with s behind it if it is not every one. -/
def mU (e : Int) (x w : ByteArray) : Prop := (x = w ∧ e = 1) ∨ (x = w ++ wS ∧ e ≠ 1)
instance (e : Int) (x w : ByteArray) : Decidable (mU e x w) := inferInstanceAs (Decidable ((x = w ∧ e = 1) ∨ (x = w ++ wS ∧ e ≠ 1)))
def unitAt (k : Nat) : ByteArray := unitsL.getD k ByteArray.empty
/-- The last of the first k units that the word is, from 1 on. -/
def uUp (e : Int) (x : ByteArray) : Nat → Int
  | 0 => 0
  | k + 1 => if mU e x (unitAt k) then (k : Int) + 1 else uUp e x k
theorem unitAt_inj {i j : Nat} (hi : i < 4) (hj : j < 4) (h : unitAt i = unitAt j) : i = j := by
  have h1 : ∀ i j : Fin 4, unitAt i = unitAt j → i = j := by decide
  exact congrArg Fin.val (h1 ⟨i, hi⟩ ⟨j, hj⟩ h)
theorem append_right_inj {a b c : ByteArray} (h : a ++ c = b ++ c) : a = b := by
  have := congrArg ByteArray.data h
  simp only [ByteArray.data_append] at this
  exact ByteArray.ext ((Array.append_left_inj _).1 this)
theorem mU_one {e : Int} {x : ByteArray} {i j : Nat} (hi : i < 4) (hj : j < 4) (h1 : mU e x (unitAt i)) (h2 : mU e x (unitAt j)) : i = j := by
  rcases h1 with ⟨a, b⟩ | ⟨a, b⟩ <;> rcases h2 with ⟨c, d⟩ | ⟨c, d⟩
  · exact unitAt_inj hi hj (a.symm.trans c)
  · exact absurd b d
  · exact absurd d b
  · exact unitAt_inj hi hj (append_right_inj (a.symm.trans c))
theorem uUp_none {e : Int} {x : ByteArray} : ∀ k : Nat, (∀ i, i < k → ¬ mU e x (unitAt i)) → uUp e x k = 0
  | 0, _ => rfl
  | k + 1, h => by rw [uUp, if_neg (h k (by omega))]; exact uUp_none k fun i hi => h i (by omega)
theorem uUp_some {e : Int} {x : ByteArray} {i : Nat} (hm : mU e x (unitAt i)) : ∀ k : Nat, k ≤ 4 → i < k → uUp e x k = (i : Int) + 1
  | 0, _, h => by omega
  | k + 1, hk, h => by
    rw [uUp]
    by_cases hi : i = k
    · subst hi; rw [if_pos hm]
    · rw [if_neg fun h2 => hi (mU_one (by omega) (by omega) hm h2)]
      exact uUp_some hm k (by omega) (by omega)
theorem first_unit {x : ByteArray} : (Lib.idxOfS unitsL x < 0 ∧ ∀ i, i < 4 → unitAt i ≠ x) ∨ ∃ i : Nat, i < 4 ∧ unitAt i = x ∧ Lib.idxOfS unitsL x = i := by
  rcases Classical.em (x ∈ unitsL) with h | h
  · right
    obtain ⟨k, hk, he, hn⟩ := first_at h
    have e := Lib.idxOfS_hit unitsL unitsL.length k x hk (Nat.le_refl _) he hn
    rw [List.take_length] at e
    exact ⟨k, hk, he, e⟩
  · left
    have hne : ∀ i, i < 4 → unitAt i ≠ x := fun j hj e => h (by
      have hj2 : j < unitsL.length := hj
      rw [← e, unitAt, List.getD_eq_getElem?_getD, List.getElem?_eq_getElem hj2]
      exact List.getElem_mem hj2)
    have e := Lib.idxOfS_miss unitsL unitsL.length x (fun j hj => hne j hj)
    rw [List.take_length] at e
    exact ⟨by omega, hne⟩
theorem suffix_cut {x : ByteArray} : (hasS x wS = true → x = cutS x wS ++ wS) ∧ (∀ w : ByteArray, x = w ++ wS → hasS x wS = true ∧ cutS x wS = w) := by
  refine ⟨fun h => ?_, fun w h => ?_⟩
  · unfold hasS Lib.hasSuffix at h
    have h2 := List.isSuffixOf_iff_suffix.1 h
    obtain ⟨t, ht⟩ := h2
    unfold cutS Lib.trimSuffix
    rw [show Lib.hasSuffix x.data.toList wS.data.toList = true from h, if_pos rfl]
    apply ByteArray.ext
    apply Array.ext'
    rw [ByteArray.data_append, Array.toList_append, ← ht]
    simp [wS]
  · subst h
    have hs : hasS (w ++ wS) wS = true := by
      unfold hasS Lib.hasSuffix
      rw [ByteArray.data_append, Array.toList_append]
      exact List.isSuffixOf_iff_suffix.2 ⟨_, rfl⟩
    refine ⟨hs, ?_⟩
    unfold cutS Lib.trimSuffix
    rw [show Lib.hasSuffix (w ++ wS).data.toList wS.data.toList = true from hs, if_pos rfl]
    apply ByteArray.ext
    apply Array.ext'
    rw [ByteArray.data_append, Array.toList_append]
    simp [wS]
/-- Both find one unit. -/
theorem un_up (e : Int) (x : ByteArray) : un e x = if 0 < uUp e x 4 then some (uUp e x 4) else none := by
  by_cases he : e = 1
  · have hc := un_cases e x
    rcases first_unit (x := x) with ⟨h1, h2⟩ | ⟨i, hi, h1, h2⟩
    · rw [uUp_none 4 fun i hi hm => by
        rcases hm with ⟨a, _⟩ | ⟨_, b⟩
        · exact h2 i hi a.symm
        · exact b he]
      rcases hc with ⟨_, ⟨_, hu⟩ | ⟨h3, _⟩⟩ | ⟨h3, _⟩
      · rw [hu]; rfl
      · omega
      · exact absurd he h3
    · rw [uUp_some (i := i) (.inl ⟨h1.symm, he⟩) 4 (by omega) hi, if_pos (by omega)]
      rcases hc with ⟨_, ⟨h3, _⟩ | ⟨_, hu⟩⟩ | ⟨h3, _⟩
      · omega
      · rw [hu, h2]
      · exact absurd he h3
  · have hc := un_cases e x
    rcases hc with ⟨h3, _⟩ | ⟨_, ⟨h3, hu⟩ | ⟨h3, hc⟩⟩
    · exact absurd h3 he
    · rw [hu, uUp_none 4 fun i hi hm => by
        rcases hm with ⟨_, b⟩ | ⟨a, _⟩
        · exact he b
        · rw [(suffix_cut.2 _ a).1] at h3; cases h3]
      rfl
    · have hx := suffix_cut.1 h3
      rcases first_unit (x := cutS x wS) with ⟨h1, h2⟩ | ⟨i, hi, h1, h2⟩
      · rw [uUp_none 4 fun i hi hm => by
          rcases hm with ⟨_, b⟩ | ⟨a, _⟩
          · exact he b
          · exact h2 i hi (suffix_cut.2 _ a).2.symm]
        rcases hc with ⟨_, hu⟩ | ⟨h4, _⟩
        · rw [hu]; rfl
        · omega
      · rw [uUp_some (i := i) (.inr ⟨by rw [h1]; exact hx, he⟩) 4 (by omega) hi, if_pos (by omega)]
        rcases hc with ⟨h4, _⟩ | ⟨_, hu⟩
        · omega
        · rw [hu, h2]

/-- A word is read by f, or it is not right any more. -/
theorem goes_readR {O : Option Rul} {b : Bool} {o : Option Int} {P : Int → Option Rul} (h : Goes O (!b) (match o with | some k => P k | none => none)) (k : Int) (hk : ∀ n, o = some n → k = n) : Goes O (!(b && o.isSome)) (P k) := by
  unfold Goes at *
  cases b with
  | false => exact h
  | true =>
    cases o with
    | none => exact h
    | some n =>
      obtain rfl := hk n rfl
      exact h

end Go.Proofs.YtjaoiehjhnmahaaGreatDoor
