/-
  WALKS: a word that is read as a number of at most ten digits, in the program and in the reference.
-/
import Derived.Test.YtdncmjlakmkfiaaGreatDoorRra
import Derived.Test.YtdncmjlakmkfiaaGreatDoorNut
set_option linter.all false
namespace Go.Proofs.YtdncmjlakmkfiaaGreatDoor
open Go.RowKit

attribute [local go_sem high] strOf_toList lit_none lit_nought idx0

/-- What a reading of a number hands out. -/
def NumOutT (l : List UInt8) (w : World) (e : Ending) (w' : World) : Prop := (∃ k, e = .returned (.tuple #[.int .i64 k, .bool (num10 l).isSome]) ∧ ∀ n, num10 l = some n → k = n) ∧ Below w.heap.size w w'

set_option maxHeartbeats 3200000 in
set_option maxRecDepth 100000 in
theorem plainNumberT_any (s : ByteArray) (w : World) (ht : PowTab w) : Calls Tryz.prog 150 #[.string s] w (NumOutT s.data.toList w) := by
  have hp := fun w => Tryz.trimPrefix_any s ⟨#[45]⟩ w
  have hpe : (⟨(Lib.trimPrefix s.data.toList (⟨#[45]⟩ : ByteArray).data.toList).toArray⟩ : ByteArray) = strOf (dgs s.data.toList) := rfl
  rw [hpe] at hp
  have htr := fun hs w => Tryz.trim_any (strOf (dgs s.data.toList)) ⟨#[48, 49, 50, 51, 52, 53, 54, 55, 56, 57]⟩ w hs (by decide) (by decide)
  have hte : (⟨(Lib.trimS (strOf (dgs s.data.toList)).data.toList (⟨#[48, 49, 50, 51, 52, 53, 54, 55, 56, 57]⟩ : ByteArray).data.toList).toArray⟩ : ByteArray) = strOf (Lib.trimS (dgs s.data.toList) ten) := by rw [strOf_data]; rfl
  rw [hte] at htr
  have hat := fun n hl h w => Tryz.atoi_any s n hl h w
  have hsz := strOf_size (dgs s.data.toList)
  have hsl : s.size = s.data.toList.length := Lib.size_eq s
  have hse : s = strOf s.data.toList := (strOf_self s).symm
  rcases num10_cases s.data.toList with ⟨h1, hn⟩ | ⟨h1, h2, hn⟩ | ⟨h1, h2, h3, hn⟩ | ⟨h1, h2, h3, n, h4, h5, h6, h7, h8⟩
  · generalize dgs s.data.toList = d at *
    subst h1
    have HP := hide hp
    clear hp htr hat hpe hte hse
    go_enter Tryz.func150, Tryz.ntmps150
    go_wp2_with (first | (go_at_call 110; refine (HP.out _).mono ?_; rintro e w' ⟨rfl, hw⟩; subst hw))
    go_returns
    unfold NumOutT
    rw [hn]
    exact ⟨⟨_, rfl, fun n h => by cases h⟩, by repeat (first | exact Below.refl _ _ | refine bl_plus ?_ | refine bl_alloc ?_ _ | refine bl_drew ?_)⟩
  · generalize dgs s.data.toList = d at *
    have h1' : (d == []) = false := beq_eq_false_iff_ne.2 h1
    have HP := hide hp
    clear hp htr hat hpe hte hse h1
    go_enter Tryz.func150, Tryz.ntmps150
    go_wp2_with (first | (go_at_call 110; refine (HP.out _).mono ?_; rintro e w' ⟨rfl, hw⟩; subst hw))
    go_returns
    unfold NumOutT
    rw [hn]
    exact ⟨⟨_, rfl, fun n h => by cases h⟩, by repeat (first | exact Below.refl _ _ | refine bl_plus ?_ | refine bl_alloc ?_ _ | refine bl_drew ?_)⟩
  · have hdl : (strOf (dgs s.data.toList)).size ≤ 9223372036854775807 := by omega
    generalize dgs s.data.toList = d at *
    have h1' : (d == []) = false := beq_eq_false_iff_ne.2 h1
    have htr := htr hdl
    generalize Lib.trimS d ten = t at *
    have h3' : (t == []) = false := beq_eq_false_iff_ne.2 h3
    have HP := hide hp
    have HTR := hide htr
    clear hp htr hat hpe hte hse h1 h3
    go_enter Tryz.func150, Tryz.ntmps150
    go_wp2_with (first | (go_at_call 110; refine (HP.out _).mono ?_; rintro e w' ⟨rfl, hw⟩; subst hw) | (go_at_call 67; refine (HTR.out _).mono ?_; rintro e w' ⟨rfl, hbl⟩; obtain ⟨os1, n1, rfl⟩ := below_plus hbl; clear hbl))
    go_returns
    unfold NumOutT
    rw [hn]
    exact ⟨⟨_, rfl, fun n h => by cases h⟩, by repeat (first | exact Below.refl _ _ | refine bl_plus ?_ | refine bl_alloc ?_ _ | refine bl_drew ?_)⟩
  · have hat := hat n (by omega) h4
    have hit := fun w ht => Tryz.itoa_any n (by omega) (by omega) w ht
    change ∀ (w : World), PowTab w → Calls Tryz.prog 191 #[.int .i64 n] w fun e w' => e = .returned (.string (strOf (Lib.itoa n))) ∧ ∃ os n, w' = plus w os n at hit
    have htr := htr (by omega)
    have HT := hide ht
    have hsd : s.toList = s.data.toList := Lib.toList_data s
    rcases h8 with ⟨k1, hn, -⟩ | ⟨k1, hn, -⟩
    · generalize dgs s.data.toList = d at *
      have h1' : (d == []) = false := beq_eq_false_iff_ne.2 h1
      rw [h3] at htr
      have k2 : (Lib.itoa n == s.toList) = false := by rw [hsd]; exact beq_eq_false_iff_ne.2 k1
      generalize Lib.itoa n = I at *
      have HP := hide hp
      have HTR := hide htr
      have HAT := hide hat
      have HIT := hide hit
      clear hp htr hat hit hpe hte hse hsd k1 h1 h3 ht
      go_enter Tryz.func150, Tryz.ntmps150
      go_wp2_with (first | (go_at_call 110; refine (HP.out _).mono ?_; rintro e w' ⟨rfl, hw⟩; subst hw) | (go_at_call 67; refine (HTR.out _).mono ?_; rintro e w' ⟨rfl, hbl⟩; obtain ⟨os1, n1, rfl⟩ := below_plus hbl; clear hbl) | (go_at_call 111; refine (HAT.out _).mono ?_; rintro e w' ⟨rfl, hbl⟩; obtain ⟨os2, n2, rfl⟩ := below_plus hbl; clear hbl) | (go_at_call 191; refine (HIT.out _ (powTab_below HT.out (by repeat (first | exact Below.refl _ _ | refine bl_plus ?_ | refine bl_alloc ?_ _ | refine bl_drew ?_)))).mono ?_; rintro e w' ⟨rfl, os3, n3, rfl⟩))
      go_returns
      unfold NumOutT
      rw [hn]
      exact ⟨⟨_, rfl, fun n h => by cases h⟩, by repeat (first | exact Below.refl _ _ | refine bl_plus ?_ | refine bl_alloc ?_ _ | refine bl_drew ?_)⟩
    · generalize dgs s.data.toList = d at *
      have h1' : (d == []) = false := beq_eq_false_iff_ne.2 h1
      rw [h3] at htr
      have k2 : (Lib.itoa n == s.toList) = true := by rw [hsd]; exact beq_iff_eq.2 k1
      generalize Lib.itoa n = I at *
      have HP := hide hp
      have HTR := hide htr
      have HAT := hide hat
      have HIT := hide hit
      clear hp htr hat hit hpe hte hse hsd k1 h1 h3 ht
      go_enter Tryz.func150, Tryz.ntmps150
      go_wp2_with (first | (go_at_call 110; refine (HP.out _).mono ?_; rintro e w' ⟨rfl, hw⟩; subst hw) | (go_at_call 67; refine (HTR.out _).mono ?_; rintro e w' ⟨rfl, hbl⟩; obtain ⟨os1, n1, rfl⟩ := below_plus hbl; clear hbl) | (go_at_call 111; refine (HAT.out _).mono ?_; rintro e w' ⟨rfl, hbl⟩; obtain ⟨os2, n2, rfl⟩ := below_plus hbl; clear hbl) | (go_at_call 191; refine (HIT.out _ (powTab_below HT.out (by repeat (first | exact Below.refl _ _ | refine bl_plus ?_ | refine bl_alloc ?_ _ | refine bl_drew ?_)))).mono ?_; rintro e w' ⟨rfl, os3, n3, rfl⟩))
      go_returns
      unfold NumOutT
      rw [hn]
      exact ⟨⟨_, rfl, fun n h => by cases h; rfl⟩, by repeat (first | exact Below.refl _ _ | refine bl_plus ?_ | refine bl_alloc ?_ _ | refine bl_drew ?_)⟩

set_option maxHeartbeats 3200000 in
set_option maxRecDepth 100000 in
theorem digitsT_any (s : ByteArray) (w : World) : Calls Tryz.prog 63 #[.string s, .int .i64 10] w (NumOutT s.data.toList w) := by
  have hp := fun w => Tryz.trimPrefix_any s ⟨#[45]⟩ w
  have hpe : (⟨(Lib.trimPrefix s.data.toList (⟨#[45]⟩ : ByteArray).data.toList).toArray⟩ : ByteArray) = strOf (dgs s.data.toList) := rfl
  rw [hpe] at hp
  have htr := fun hs w => Tryz.trim_any (strOf (dgs s.data.toList)) ⟨#[48, 49, 50, 51, 52, 53, 54, 55, 56, 57]⟩ w hs (by decide) (by decide)
  have hte : (⟨(Lib.trimS (strOf (dgs s.data.toList)).data.toList (⟨#[48, 49, 50, 51, 52, 53, 54, 55, 56, 57]⟩ : ByteArray).data.toList).toArray⟩ : ByteArray) = strOf (Lib.trimS (dgs s.data.toList) ten) := by rw [strOf_data]; rfl
  rw [hte] at htr
  have hat := fun n hl h w => Tryz.atoi_any s n hl h w
  have hsz := strOf_size (dgs s.data.toList)
  have hsl : s.size = s.data.toList.length := Lib.size_eq s
  have hse : s = strOf s.data.toList := (strOf_self s).symm
  rcases num10_cases s.data.toList with ⟨h1, hn⟩ | ⟨h1, h2, hn⟩ | ⟨h1, h2, h3, hn⟩ | ⟨h1, h2, h3, n, h4, h5, h6, h7, h8⟩
  · generalize dgs s.data.toList = d at *
    subst h1
    have HP := hide hp
    clear hp htr hat hpe hte hse
    go_enter Tryz.func63, Tryz.ntmps63
    go_wp2_with (first | (go_at_call 110; refine (HP.out _).mono ?_; rintro e w' ⟨rfl, hw⟩; subst hw))
    go_returns
    unfold NumOutT
    rw [hn]
    exact ⟨⟨_, rfl, fun n h => by cases h⟩, by repeat (first | exact Below.refl _ _ | refine bl_plus ?_ | refine bl_alloc ?_ _ | refine bl_drew ?_)⟩
  · generalize dgs s.data.toList = d at *
    have h1' : (d == []) = false := beq_eq_false_iff_ne.2 h1
    have HP := hide hp
    clear hp htr hat hpe hte hse h1
    go_enter Tryz.func63, Tryz.ntmps63
    go_wp2_with (first | (go_at_call 110; refine (HP.out _).mono ?_; rintro e w' ⟨rfl, hw⟩; subst hw))
    go_returns
    unfold NumOutT
    rw [hn]
    exact ⟨⟨_, rfl, fun n h => by cases h⟩, by repeat (first | exact Below.refl _ _ | refine bl_plus ?_ | refine bl_alloc ?_ _ | refine bl_drew ?_)⟩
  · have hdl : (strOf (dgs s.data.toList)).size ≤ 9223372036854775807 := by omega
    generalize dgs s.data.toList = d at *
    have h1' : (d == []) = false := beq_eq_false_iff_ne.2 h1
    have htr := htr hdl
    generalize Lib.trimS d ten = t at *
    have h3' : (t == []) = false := beq_eq_false_iff_ne.2 h3
    have HP := hide hp
    have HTR := hide htr
    clear hp htr hat hpe hte hse h1 h3
    go_enter Tryz.func63, Tryz.ntmps63
    go_wp2_with (first | (go_at_call 110; refine (HP.out _).mono ?_; rintro e w' ⟨rfl, hw⟩; subst hw) | (go_at_call 67; refine (HTR.out _).mono ?_; rintro e w' ⟨rfl, hbl⟩; obtain ⟨os1, n1, rfl⟩ := below_plus hbl; clear hbl))
    go_returns
    unfold NumOutT
    rw [hn]
    exact ⟨⟨_, rfl, fun n h => by cases h⟩, by repeat (first | exact Below.refl _ _ | refine bl_plus ?_ | refine bl_alloc ?_ _ | refine bl_drew ?_)⟩
  · have hat := hat n (by omega) h4
    have htr := htr (by omega)
    have hsd : s.toList = s.data.toList := Lib.toList_data s
    rcases h8 with ⟨k1, hn, ⟨r, hr, hr2⟩ | ⟨hr, hr2⟩⟩ | ⟨k1, hn, ⟨hr, hr2⟩ | ⟨b, r, hr, hr2⟩⟩
    · rw [hr] at h1 h2 h3 hsz htr hp
      have h1' : ((48 :: r : List UInt8) == []) = false := beq_eq_false_iff_ne.2 h1
      rw [h3] at htr
      have hl1 : 1 ≤ r.length := List.length_pos_iff.2 hr2
      have hl2 : r.length + 1 ≤ 10 := h2
      have HP := hide hp
      have HTR := hide htr
      have HAT := hide hat
      clear hp htr hat hpe hte hse hsd h1 h3 k1
      go_enter Tryz.func63, Tryz.ntmps63
      go_wp2_with (first | (go_at_call 110; refine (HP.out _).mono ?_; rintro e w' ⟨rfl, hw⟩; subst hw) | (go_at_call 67; refine (HTR.out _).mono ?_; rintro e w' ⟨rfl, hbl⟩; obtain ⟨os1, n1, rfl⟩ := below_plus hbl; clear hbl) | (go_at_call 111; refine (HAT.out _).mono ?_; rintro e w' ⟨rfl, hbl⟩; obtain ⟨os2, n2, rfl⟩ := below_plus hbl; clear hbl))
      go_returns
      unfold NumOutT
      rw [hn]
      exact ⟨⟨_, rfl, fun n h => by cases h⟩, by repeat (first | exact Below.refl _ _ | refine bl_plus ?_ | refine bl_alloc ?_ _ | refine bl_drew ?_)⟩
    · rw [hr] at h1 h2 h3 hsz htr hp
      have h1' : (([48] : List UInt8) == []) = false := beq_eq_false_iff_ne.2 h1
      rw [h3] at htr
      have k2 : (s.toList == [48]) = false := by rw [hsd]; exact beq_eq_false_iff_ne.2 hr2
      have HP := hide hp
      have HTR := hide htr
      have HAT := hide hat
      clear hp htr hat hpe hte hse hsd h1 h3 k1
      go_enter Tryz.func63, Tryz.ntmps63
      go_wp2_with (first | (go_at_call 110; refine (HP.out _).mono ?_; rintro e w' ⟨rfl, hw⟩; subst hw) | (go_at_call 67; refine (HTR.out _).mono ?_; rintro e w' ⟨rfl, hbl⟩; obtain ⟨os1, n1, rfl⟩ := below_plus hbl; clear hbl) | (go_at_call 111; refine (HAT.out _).mono ?_; rintro e w' ⟨rfl, hbl⟩; obtain ⟨os2, n2, rfl⟩ := below_plus hbl; clear hbl))
      go_returns
      unfold NumOutT
      rw [hn]
      exact ⟨⟨_, rfl, fun n h => by cases h⟩, by repeat (first | exact Below.refl _ _ | refine bl_plus ?_ | refine bl_alloc ?_ _ | refine bl_drew ?_)⟩
    · rw [hr] at h1 h2 h3 hsz htr hp
      have h1' : (([48] : List UInt8) == []) = false := beq_eq_false_iff_ne.2 h1
      rw [h3] at htr
      have k2 : (s.toList == [48]) = true := by rw [hsd]; exact beq_iff_eq.2 hr2
      have HP := hide hp
      have HTR := hide htr
      have HAT := hide hat
      clear hp htr hat hpe hte hse hsd h1 h3 k1
      go_enter Tryz.func63, Tryz.ntmps63
      go_wp2_with (first | (go_at_call 110; refine (HP.out _).mono ?_; rintro e w' ⟨rfl, hw⟩; subst hw) | (go_at_call 67; refine (HTR.out _).mono ?_; rintro e w' ⟨rfl, hbl⟩; obtain ⟨os1, n1, rfl⟩ := below_plus hbl; clear hbl) | (go_at_call 111; refine (HAT.out _).mono ?_; rintro e w' ⟨rfl, hbl⟩; obtain ⟨os2, n2, rfl⟩ := below_plus hbl; clear hbl))
      go_big_region
      go_wp2
      go_returns
      unfold NumOutT
      rw [hn]
      exact ⟨⟨_, rfl, fun n h => by cases h; rfl⟩, by repeat (first | exact Below.refl _ _ | refine bl_plus ?_ | refine bl_alloc ?_ _ | refine bl_drew ?_)⟩
    · rw [hr] at h1 h2 h3 hsz htr hp
      have h1' : ((b :: r : List UInt8) == []) = false := beq_eq_false_iff_ne.2 h1
      rw [h3] at htr
      have hl2 : r.length + 1 ≤ 10 := h2
      have k2 : ((b :: r : List UInt8) == [48]) = false := beq_eq_false_iff_ne.2 (by intro e; cases e; exact hr2 rfl)
      have k3 : ((b.toNat : Int) == 48) = false := by rw [beq_eq_false_iff_ne]; intro e; exact hr2 (by rw [← UInt8.ofNat_toNat (x := b), show b.toNat = 48 by omega]; rfl)
      rcases Nat.eq_zero_or_pos r.length with hl1 | hl1
      all_goals
        have HP := hide hp
        have HTR := hide htr
        have HAT := hide hat
        clear hp htr hat hpe hte hse hsd h1 h3 k1
        go_enter Tryz.func63, Tryz.ntmps63
        go_wp2_with (first | (go_at_call 110; refine (HP.out _).mono ?_; rintro e w' ⟨rfl, hw⟩; subst hw) | (go_at_call 67; refine (HTR.out _).mono ?_; rintro e w' ⟨rfl, hbl⟩; obtain ⟨os1, n1, rfl⟩ := below_plus hbl; clear hbl) | (go_at_call 111; refine (HAT.out _).mono ?_; rintro e w' ⟨rfl, hbl⟩; obtain ⟨os2, n2, rfl⟩ := below_plus hbl; clear hbl))
        go_big_region
        go_wp2
        go_returns
        unfold NumOutT
        rw [hn]
        exact ⟨⟨_, rfl, fun n h => by cases h; rfl⟩, by repeat (first | exact Below.refl _ _ | refine bl_plus ?_ | refine bl_alloc ?_ _ | refine bl_drew ?_)⟩

end Go.Proofs.YtdncmjlakmkfiaaGreatDoor
