/-
  WALKS: Bury.
-/
import Derived.Test.YtokghdcfbbogdaaWalkO
namespace Go.Proofs.Ytokghdcfbbogdaa
open Go.RowKit

set_option maxHeartbeats 1600000 in
set_option maxRecDepth 100000 in
theorem bury_bad (A : Option Addr) (c : Nat) (xs : List St) (p d : Int) (w : World) (hA : StsAt w A xs) (h : statesErr xs ≠ 0) :
    Calls Try.prog 22 #[.slice A xs.length c, .int .i64 p, .int .i64 d] w (StsOut (bury xs p d) w) := by
  have hck := fun w h => checkStates_any A c xs w h
  have hR : bury xs p d = ([], statesErr xs) := by unfold bury; rw [if_neg h]
  rw [hR]
  clear hR
  generalize statesErr xs = r at hck h ⊢
  have hr : (r == 0) = false := by simp [h]
  have H1 := hide hck
  have HA := hide hA
  clear hck h hA
  go_enter Try.func22, Try.ntmps22
  go_wp2_with ((go_at_call 48; refine (H1.out _ HA.out).mono ?_; rintro e w' ⟨rfl, hb⟩; obtain ⟨os1, n1, rfl⟩ := below_plus hb; clear hb))
  go_returns
  exact stsOut_err (by repeat (first | exact Below.refl _ _ | refine bl_plus ?_ | refine bl_alloc ?_ _ | refine bl_drew ?_))

set_option maxHeartbeats 1600000 in
set_option maxRecDepth 100000 in
theorem bury_out (A : Option Addr) (c : Nat) (xs : List St) (p d : Int) (w : World) (hA : StsAt w A xs) (h : statesErr xs = 0) (hp : p < 0 ∨ (xs.length : Int) ≤ p) :
    Calls Try.prog 22 #[.slice A xs.length c, .int .i64 p, .int .i64 d] w (StsOut (bury xs p d) w) := by
  have hck := fun w h => checkStates_any A c xs w h
  have hl := len_of_statesErr h
  have hR : bury xs p d = ([], 7) := by unfold bury; rw [if_pos h, if_pos hp]
  rw [hR]
  rw [h] at hck
  clear hR h
  have H1 := hide hck
  have HA := hide hA
  clear hck hA
  have hp2 : p < 0 ∨ (0 ≤ p ∧ (xs.length : Int) ≤ p) := by omega
  clear hp
  rcases hp2 with hp | ⟨hp0, hp⟩
  all_goals
    go_enter Try.func22, Try.ntmps22
    go_wp2_with (first | (go_at_call 48; refine (H1.out _ HA.out).mono ?_; rintro e w' ⟨rfl, hb⟩; obtain ⟨os1, n1, rfl⟩ := below_plus hb; clear hb) | (go_at_call 61; refine (outside_yes _ _ _ _ (by omega)).mono ?_; rintro e w' ⟨rfl, rfl⟩))
    go_returns
    exact stsOut_err (by repeat (first | exact Below.refl _ _ | refine bl_plus ?_ | refine bl_alloc ?_ _ | refine bl_drew ?_))

set_option maxHeartbeats 1600000 in
set_option maxRecDepth 100000 in
theorem bury_err (A : Option Addr) (c : Nat) (xs : List St) (p d : Int) (w : World) (hA : StsAt w A xs) (h : statesErr xs = 0) (k : Nat) (hk : k < xs.length) (hpk : p = (k : Int)) (hd : d < 0 ∨ 100000 < d) :
    Calls Try.prog 22 #[.slice A xs.length c, .int .i64 p, .int .i64 d] w (StsOut (bury xs p d) w) := by
  have hck := fun w h => checkStates_any A c xs w h
  subst hpk
  have hl := len_of_statesErr h
  have hR : bury xs (k : Int) d = ([], 2) := by unfold bury; rw [if_pos h, if_neg (by omega), if_pos hd]
  rw [hR]
  rw [h] at hck
  clear hR h
  have H1 := hide hck
  have HA := hide hA
  clear hck hA
  go_enter Try.func22, Try.ntmps22
  go_wp2_with (first | (go_at_call 48; refine (H1.out _ HA.out).mono ?_; rintro e w' ⟨rfl, hb⟩; obtain ⟨os1, n1, rfl⟩ := below_plus hb; clear hb) | (go_at_call 61; refine (outside_no _ _ _ _ (by omega) (by omega)).mono ?_; rintro e w' ⟨rfl, rfl⟩) | (go_at_call 64; refine (checkDay_no _ _ (by omega)).mono ?_; rintro e w' ⟨rfl, rfl⟩))
  go_returns
  exact stsOut_err (by repeat (first | exact Below.refl _ _ | refine bl_plus ?_ | refine bl_alloc ?_ _ | refine bl_drew ?_))

set_option maxHeartbeats 1600000 in
set_option maxRecDepth 100000 in
theorem bury_ok (A : Option Addr) (c : Nat) (xs : List St) (p d : Int) (w : World) (hA : StsAt w A xs) (h : statesErr xs = 0) (k : Nat) (hk : k < xs.length) (hpk : p = (k : Int)) (hd1 : 0 ≤ d) (hd2 : d ≤ 100000) :
    Calls Try.prog 22 #[.slice A xs.length c, .int .i64 p, .int .i64 d] w (StsOut (bury xs p d) w) := by
  have hck := fun w h => checkStates_any A c xs w h
  subst hpk
  have hl := len_of_statesErr h
  obtain ⟨b, off, rfl, hb, hcell⟩ := hA (by omega)
  have hxk : xs[k]? = some xs[k] := List.getElem?_eq_getElem hk
  have hc0 := hcell k hk
  clear hcell
  have hcl := fun w (hA : StsAt w (some ⟨b, off, none⟩) xs) => cloneSts_any (some ⟨b, off, none⟩) c xs w hA (fun h => by cases h) hl
  have hR : bury xs (k : Int) d = (xs.set k { xs[k] with bu := d }, 0) := by
    unfold bury; rw [if_pos h, if_neg (by omega), if_neg (by omega)]; simp only [Int.toNat_natCast, hxk]
  rw [hR]
  rw [h] at hck
  clear hR h hxk hc0
  generalize hx : xs[k] = x
  have HX := hide hx
  have H1 := hide hck
  have HA := hide hA
  have HCl := hide hcl
  clear hck hA hcl hx
  go_enter Try.func22, Try.ntmps22
  go_wp2_with (first | (go_at_call 48; refine (H1.out _ HA.out).mono ?_; rintro e w' ⟨rfl, hb⟩; obtain ⟨os1, n1, rfl⟩ := below_plus hb; clear hb) | (go_at_call 61; refine (outside_no _ _ _ _ (by omega) (by omega)).mono ?_; rintro e w' ⟨rfl, rfl⟩) | (go_at_call 64; refine (checkDay_yes _ _ (by omega) (by omega)).mono ?_; rintro e w' ⟨rfl, rfl⟩) | (go_at_call 62; refine (HCl.out _ (HA.out.plus _ _)).mono ?_; rintro e w' ⟨v, rfl, hown, hb2⟩; obtain ⟨g2, cs, cap, rfl, hge, hB, hnc, _, hrow⟩ := own_bare hown (by omega); obtain ⟨os3, n3, os4, n4, rfl, rfl⟩ := bare hb2 hB hge; obtain ⟨s0, s1, s2, s3, s4, s5, s6, s7, s8⟩ := hrow.at_ hk HX.out; have HRow := hide hrow; clear hown hb2 hB hge hrow) | (go_at_call 63; refine (clipSts_any _ _ _ _ (by assumption)).mono ?_; rintro e w' ⟨rfl, rfl⟩))
  go_returns
  have hx := HX.out
  subst hx
  refine stsOut_ok rfl List.length_set ?_ ?_ ?_
  · first | assumption | exact Nat.le_refl _
  · refine StsAt.at_ (stsAt_of_cells (Blk.new _ _ _).plus (HRow.out.set_bu hk d)) ?_
    symm; simp only [plus_size]
  · exact (by repeat (first | exact Below.refl _ _ | refine bl_plus ?_ | refine bl_alloc ?_ _ | refine bl_drew ?_))

theorem bury_any (A : Option Addr) (c : Nat) (xs : List St) (p d : Int) (w : World) (hA : StsAt w A xs) :
    Calls Try.prog 22 #[.slice A xs.length c, .int .i64 p, .int .i64 d] w (StsOut (bury xs p d) w) := by
  by_cases h : statesErr xs = 0
  · by_cases hp : p < 0 ∨ (xs.length : Int) ≤ p
    · exact bury_out A c xs p d w hA h hp
    · obtain ⟨k, rfl⟩ := Int.eq_ofNat_of_zero_le (a := p) (by omega)
      by_cases hd : d < 0 ∨ 100000 < d
      · exact bury_err A c xs k d w hA h k (by omega) rfl hd
      · exact bury_ok A c xs k d w hA h k (by omega) rfl (by omega) (by omega)
  · exact bury_bad A c xs p d w hA h

end Go.Proofs.Ytokghdcfbbogdaa
