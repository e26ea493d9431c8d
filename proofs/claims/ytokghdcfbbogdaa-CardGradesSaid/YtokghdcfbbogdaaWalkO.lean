/-
  WALKS: GradeAt.
-/
import Derived.Test.YtokghdcfbbogdaaWalkM
import Derived.Test.YtokghdcfbbogdaaWalkN
import Derived.Test.YtokghdcfbbogdaaWalkK
import Derived.Test.YtokghdcfbbogdaaSet
namespace Go.Proofs.Ytokghdcfbbogdaa
open Go.RowKit

/-- What a function of a list of states hands back. -/
def StsOut (r : List St × Int) (w : World) (e : Ending) (w' : World) : Prop :=
  ∃ A c, e = .returned (.tuple #[.slice A r.1.length c, .int .i64 r.2]) ∧ r.1.length ≤ c ∧ StsAt w' A r.1 ∧ Below w.heap.size w w'
theorem stsOut_ok {A : Option Addr} {n c : Nat} {d : Int} {xs : List St} {w w' : World} {e : Ending} (he : e = .returned (.tuple #[.slice A n c, .int .i64 d])) (hn : xs.length = n) (hc : n ≤ c) (hs : StsAt w' A xs) (hb : Below w.heap.size w w') : StsOut (xs, d) w e w' := by
  subst hn; exact ⟨A, c, he, hc, hs, hb⟩
theorem StsAt.at_ {w : World} {g g' : Nat} {xs : List St} (h : StsAt w (some ⟨g, 0, none⟩) xs) (e : g' = g) : StsAt w (some ⟨g', 0, none⟩) xs := by
  subst e; exact h
theorem stsOut_err {r : Int} {w w' : World} (hb : Below w.heap.size w w') : StsOut ([], r) w (.returned (.tuple #[.slice none 0 0, .int .i64 r])) w' := ⟨none, 0, rfl, Nat.le_refl _, StsAt.nil, hb⟩

set_option maxHeartbeats 1600000 in
set_option maxRecDepth 100000 in
theorem gradeAt_bad (A : Option Addr) (c : Nat) (xs : List St) (p g d : Int) (w : World) (hA : StsAt w A xs) (h : statesErr xs ≠ 0) :
    Calls Try.prog 20 #[.slice A xs.length c, .int .i64 p, .int .i64 g, .int .i64 d] w (StsOut (gradeAt xs p g d) w) := by
  have hck := fun w h => checkStates_any A c xs w h
  have hR : gradeAt xs p g d = ([], statesErr xs) := by unfold gradeAt; rw [if_neg h]
  rw [hR]
  clear hR
  generalize statesErr xs = r at hck h ⊢
  have hr : (r == 0) = false := by simp [h]
  have H1 := hide hck
  have HA := hide hA
  clear hck h hA
  go_enter Try.func20, Try.ntmps20
  go_wp2_with ((go_at_call 48; refine (H1.out _ HA.out).mono ?_; rintro e w' ⟨rfl, hb⟩; obtain ⟨os1, n1, rfl⟩ := below_plus hb; clear hb))
  go_returns
  exact stsOut_err (by repeat (first | exact Below.refl _ _ | refine bl_plus ?_ | refine bl_alloc ?_ _ | refine bl_drew ?_))

set_option maxHeartbeats 1600000 in
set_option maxRecDepth 100000 in
theorem gradeAt_out (A : Option Addr) (c : Nat) (xs : List St) (p g d : Int) (w : World) (hA : StsAt w A xs) (h : statesErr xs = 0) (hp : p < 0 ∨ (xs.length : Int) ≤ p) :
    Calls Try.prog 20 #[.slice A xs.length c, .int .i64 p, .int .i64 g, .int .i64 d] w (StsOut (gradeAt xs p g d) w) := by
  have hck := fun w h => checkStates_any A c xs w h
  have hl := len_of_statesErr h
  have hR : gradeAt xs p g d = ([], 7) := by unfold gradeAt; rw [if_pos h, if_pos hp]
  rw [hR]
  rw [h] at hck
  clear hR h
  have H1 := hide hck
  have HA := hide hA
  clear hck hA
  have hp2 : p < 0 ∨ (0 ≤ p ∧ (xs.length : Int) ≤ p) := by omega
  clear hp
  rcases hp2 with hp | ⟨hp0, hp⟩
  all_goals
    go_enter Try.func20, Try.ntmps20
    go_wp2_with (first | (go_at_call 48; refine (H1.out _ HA.out).mono ?_; rintro e w' ⟨rfl, hb⟩; obtain ⟨os1, n1, rfl⟩ := below_plus hb; clear hb) | (go_at_call 61; refine (outside_yes _ _ _ _ (by omega)).mono ?_; rintro e w' ⟨rfl, rfl⟩))
    go_returns
    exact stsOut_err (by repeat (first | exact Below.refl _ _ | refine bl_plus ?_ | refine bl_alloc ?_ _ | refine bl_drew ?_))

set_option maxHeartbeats 1600000 in
set_option maxRecDepth 100000 in
theorem gradeAt_err (A : Option Addr) (c : Nat) (xs : List St) (p g d : Int) (w : World) (hA : StsAt w A xs) (h : statesErr xs = 0) (k : Nat) (hk : k < xs.length) (hpk : p = (k : Int)) (hr : (xs[k].grade g d).2 ≠ 0) :
    Calls Try.prog 20 #[.slice A xs.length c, .int .i64 p, .int .i64 g, .int .i64 d] w (StsOut (gradeAt xs p g d) w) := by
  have hck := fun w h => checkStates_any A c xs w h
  subst hpk
  have hl := len_of_statesErr h
  obtain ⟨b, off, rfl, hb, hcell⟩ := hA (by omega)
  have hxk : xs[k]? = some xs[k] := List.getElem?_eq_getElem hk
  have hc0 := hcell k hk
  clear hcell
  have hcl := fun w (hA : StsAt w (some ⟨b, off, none⟩) xs) => cloneSts_any (some ⟨b, off, none⟩) c xs w hA (fun h => by cases h) hl
  have hgr := fun w => grade_any xs[k] g d w
  have hR : gradeAt xs (k : Int) g d = ([], (xs[k].grade g d).2) := by
    unfold gradeAt; rw [if_pos h, if_neg (by omega)]; simp only [Int.toNat_natCast, hxk, if_neg hr]
  rw [hR]
  rw [h] at hck
  clear hR h hxk hcl
  generalize xs[k] = x at hc0 hgr hr ⊢
  obtain ⟨c0, c1, c2, c3, c4, c5, c6, c7, c8⟩ := hc0
  generalize x.grade g d = q at hgr hr ⊢
  obtain ⟨y, r⟩ := q
  simp only [St.val] at hgr hr ⊢
  have hr0 : (r == 0) = false := by simp [hr]
  have H1 := hide hck
  have H2 := hide hgr
  have HA := hide hA
  clear hck hgr hA hr
  go_enter Try.func20, Try.ntmps20
  go_wp2_with (first | (go_at_call 48; refine (H1.out _ HA.out).mono ?_; rintro e w' ⟨rfl, hb⟩; obtain ⟨os1, n1, rfl⟩ := below_plus hb; clear hb) | (go_at_call 61; refine (outside_no _ _ _ _ (by omega) (by omega)).mono ?_; rintro e w' ⟨rfl, rfl⟩) | (go_at_call 15; refine (H2.out _).mono ?_; rintro e w' ⟨rfl, hb⟩; obtain ⟨os2, n2, rfl⟩ := below_plus hb; clear hb))
  go_returns
  exact stsOut_err (by repeat (first | exact Below.refl _ _ | refine bl_plus ?_ | refine bl_alloc ?_ _ | refine bl_drew ?_))

set_option maxHeartbeats 1600000 in
set_option maxRecDepth 100000 in
theorem gradeAt_ok (A : Option Addr) (c : Nat) (xs : List St) (p g d : Int) (w : World) (hA : StsAt w A xs) (h : statesErr xs = 0) (k : Nat) (hk : k < xs.length) (hpk : p = (k : Int)) (hr : (xs[k].grade g d).2 = 0) :
    Calls Try.prog 20 #[.slice A xs.length c, .int .i64 p, .int .i64 g, .int .i64 d] w (StsOut (gradeAt xs p g d) w) := by
  have hck := fun w h => checkStates_any A c xs w h
  subst hpk
  have hl := len_of_statesErr h
  obtain ⟨b, off, rfl, hb, hcell⟩ := hA (by omega)
  have hxk : xs[k]? = some xs[k] := List.getElem?_eq_getElem hk
  have hc0 := hcell k hk
  clear hcell
  have hcl := fun w (hA : StsAt w (some ⟨b, off, none⟩) xs) => cloneSts_any (some ⟨b, off, none⟩) c xs w hA (fun h => by cases h) hl
  have hgr := fun w => grade_any xs[k] g d w
  have hR : gradeAt xs (k : Int) g d = (xs.set k (xs[k].grade g d).1, 0) := by
    unfold gradeAt; rw [if_pos h, if_neg (by omega)]; simp only [Int.toNat_natCast, hxk, if_pos hr]
  rw [hR]
  rw [h] at hck
  clear hR h hxk
  generalize hx : xs[k] = x at hc0 hgr hr ⊢
  obtain ⟨c0, c1, c2, c3, c4, c5, c6, c7, c8⟩ := hc0
  generalize x.grade g d = q at hgr hr ⊢
  obtain ⟨y, r⟩ := q
  simp only [St.val] at hgr hr ⊢
  subst hr
  have HX := hide hx
  have H1 := hide hck
  have H2 := hide hgr
  have HA := hide hA
  have HCl := hide hcl
  clear hck hgr hA hcl hx
  go_enter Try.func20, Try.ntmps20
  go_wp2_with (first | (go_at_call 48; refine (H1.out _ HA.out).mono ?_; rintro e w' ⟨rfl, hb⟩; obtain ⟨os1, n1, rfl⟩ := below_plus hb; clear hb) | (go_at_call 61; refine (outside_no _ _ _ _ (by omega) (by omega)).mono ?_; rintro e w' ⟨rfl, rfl⟩) | (go_at_call 15; refine (H2.out _).mono ?_; rintro e w' ⟨rfl, hb⟩; obtain ⟨os2, n2, rfl⟩ := below_plus hb; clear hb) | (go_at_call 62; refine (HCl.out _ (((HA.out.plus _ _).plus _ _).alloc _)).mono ?_; rintro e w' ⟨v, rfl, hown, hb2⟩; obtain ⟨g2, cs, cap, rfl, hge, hB, hnc, _, hrow⟩ := own_bare hown (by omega); obtain ⟨os3, n3, os4, n4, rfl, rfl⟩ := bare hb2 hB hge; obtain ⟨s0, s1, s2, s3, s4, s5, s6, s7, s8⟩ := hrow.at_ hk HX.out; have HRow := hide hrow; clear hown hb2 hB hge hrow) | (go_at_call 63; refine (clipSts_any _ _ _ _ (by assumption)).mono ?_; rintro e w' ⟨rfl, rfl⟩))
  go_returns
  refine stsOut_ok rfl List.length_set ?_ ?_ ?_
  · exact Nat.le_refl _
  · refine StsAt.at_ (stsAt_of_cells (Blk.new _ _ _).plus (HRow.out.set9 hk y)) ?_
    symm; simp only [plus_size, World.size_alloc]
  · exact (by repeat (first | exact Below.refl _ _ | refine bl_plus ?_ | refine bl_alloc ?_ _ | refine bl_drew ?_))

theorem gradeAt_any (A : Option Addr) (c : Nat) (xs : List St) (p g d : Int) (w : World) (hA : StsAt w A xs) :
    Calls Try.prog 20 #[.slice A xs.length c, .int .i64 p, .int .i64 g, .int .i64 d] w (StsOut (gradeAt xs p g d) w) := by
  by_cases h : statesErr xs = 0
  · by_cases hp : p < 0 ∨ (xs.length : Int) ≤ p
    · exact gradeAt_out A c xs p g d w hA h hp
    · obtain ⟨k, rfl⟩ := Int.eq_ofNat_of_zero_le (a := p) (by omega)
      by_cases hr : (xs[k]'(by omega) |>.grade g d).2 = 0
      · exact gradeAt_ok A c xs k g d w hA h k (by omega) rfl hr
      · exact gradeAt_err A c xs k g d w hA h k (by omega) rfl hr
  · exact gradeAt_bad A c xs p g d w hA h

end Go.Proofs.Ytokghdcfbbogdaa
