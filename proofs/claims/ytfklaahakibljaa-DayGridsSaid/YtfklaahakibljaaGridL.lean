/-
  PROVED: DayGrids returns true for every year, month, list of days and day, and turns nothing: Grid and Streak compute what the reference's do. No condition.
-/
import Derived.Test.YtfklaahakibljaaRows
import Derived.Test.YtfklaahakibljaaGridC
import Derived.Test.YtfklaahakibljaaStreakB
import Derived.Test.YtfklaahakibljaaAlikeI
import Derived.Test.YtfklaahakibljaaOpenI
namespace Go.Proofs.Ytfklaahakibljaa
open Go.ChangeShapes Go.WideShapes Go.ChangeAt Go.Deep Go.RowKit

theorem gridR_bd (y m : Int) : (gridR y m).1.length ≤ 1000000 ∧ ∀ r ∈ (gridR y m).1, r.length ≤ maxLen := by
  unfold gridR
  split
  · rename_i h
    refine ⟨?_, fun r hr => by rw [weeksTo_seven _ _ _ r hr]; simp [maxLen]⟩
    rw [weeksTo_len]
    have h1 := Cal.mlen_bd y m
    unfold weekCount
    omega
  · simp

set_option maxHeartbeats 3200000 in
set_option maxRecDepth 100000 in
theorem dayGrids_any (y m : Int) (A : Option Addr) (c : Nat) (l : List Int) (d : Int) (w : World) (hA : IntsAt w A l) (hm : l.length ≤ maxLen) :
    Calls Try.prog 6 #[.int .i64 y, .int .i64 m, .slice A l.length c, .int .i64 d] w fun e w' => e = .returned (.bool true) ∧ Below w.heap.size w w' := by
  have h1 := fun w => grid_any y m w
  have h2 := fun w => gridOf_any y m w
  have h3 := fun w h => streak_any A c l d w h hm
  have h4 := fun w h => streakOf_any A c l d w h hm
  have hb := gridR_bd y m
  generalize gridR y m = q at *
  generalize streakR l d = s at *
  obtain ⟨rows, r⟩ := q
  obtain ⟨s1, s2⟩ := s
  have h5 := fun A B c d w hA hB => alikeRows_same A B c d rows w hA hB hb.1 hb.2
  have H1 := hide h1
  have H2 := hide h2
  have H3 := hide h3
  have H4 := hide h4
  have H5 := hide h5
  have HA := hide hA
  clear h1 h2 h3 h4 h5 hb hA hm
  go_enter Try.func6, Try.ntmps6
  go_wp2_with (first
    | (go_at_call 27; refine (H1.out _).mono ?_; rintro e w' ⟨A1, c1, rfl, hr, hbl⟩; obtain ⟨os1, n1, rfl⟩ := below_plus hbl; clear hbl; have HR1 := hide hr; clear hr)
    | (go_at_call 28; refine (H2.out _).mono ?_; rintro e w' ⟨A2, c2, rfl, hr, hbl⟩; obtain ⟨os2, n2, rfl⟩ := below_plus hbl; clear hbl; have HR2 := hide hr; clear hr)
    | (go_at_call 29; refine (H3.out _ (HA.out.below (by repeat (first | exact Below.refl _ _ | refine bl_plus ?_ | refine bl_alloc ?_ _ | refine bl_drew ?_)))).mono ?_; rintro e w' ⟨rfl, hbl⟩; obtain ⟨os3, n3, rfl⟩ := below_plus hbl; clear hbl)
    | (go_at_call 30; refine (H4.out _ (HA.out.below (by repeat (first | exact Below.refl _ _ | refine bl_plus ?_ | refine bl_alloc ?_ _ | refine bl_drew ?_)))).mono ?_; rintro e w' ⟨rfl, hbl⟩; obtain ⟨os4, n4, rfl⟩ := below_plus hbl; clear hbl)
    | (go_at_call 26; refine (H5.out _ _ _ _ _ (HR1.out.below (by repeat (first | exact Below.refl _ _ | refine bl_plus ?_ | refine bl_alloc ?_ _ | refine bl_drew ?_))) (HR2.out.below (by repeat (first | exact Below.refl _ _ | refine bl_plus ?_ | refine bl_alloc ?_ _ | refine bl_drew ?_)))).mono ?_; rintro e w' ⟨rfl, hbl⟩; obtain ⟨os5, n5, rfl⟩ := below_plus hbl; clear hbl))
  go_ret
  exact ⟨rfl, by repeat (first | exact Below.refl _ _ | refine bl_plus ?_ | refine bl_alloc ?_ _ | refine bl_drew ?_)⟩

set_option maxRecDepth 100000 in
theorem dayGrids_lifted (os : Os) (started : os.Started) (H : Type) (enc : TypeId × Value → H) :
    ReturnsInHanded {} Try.checked os 6 .any (Rows.dayGridsSpec.pre6 enc Try.prog Try.f6 [] false) (Rows.dayGridsSpec.post enc Try.prog Try.f6 false true false false) := by
  refine law_lifted started (by kernel_rfl) Try.func6 rfl (by kernel_rfl) Try.underlying4 (fun t ht => ?_) (fun ds hds => ?_)
    (ChangeSpec.witness6 (enc := enc) (C := Try.checked) false ⟨#[], #[.int .i64 0, .int .i64 0, .slice none 0 0, .int .i64 0], []⟩ 8 (by kernel_rfl) (by kernel_rfl) (by kernel_rfl) (by kernel_rfl)) ?_
  · rw [Try.params6] at ht
    simp only [List.mem_cons, List.not_mem_nil, or_false] at ht
    rcases ht with rfl | rfl | rfl | rfl <;> exact ⟨by kernel_rfl, of_decide_eq_true (by kernel_rfl)⟩
  · rw [Try.params6] at hds
    match ds, hds with
    | [d1, d2, d3, d4], _ => rfl
  · intro W b0 args ds p hval hA hlt hsz
    rw [Try.params6] at hA hval
    obtain ⟨v0, v1, v2, v3, d0, d1, d2, d3, p0, p1, p2, p3, rfl, rfl, rfl, h0, h1, h2, h3⟩ := trodAll_four hA
    obtain ⟨y, rfl, rfl, rfl, wy⟩ := open_int Try.underlying3 (hval 0 _ v0 rfl rfl) h0
    obtain ⟨m, rfl, rfl, rfl, wm⟩ := open_int Try.underlying3 (hval 1 _ v1 rfl rfl) h1
    obtain ⟨A, l, cap, rfl, hl, hc, hi, _⟩ := open_intlist (hval 2 _ v2 rfl rfl) h2
    obtain ⟨d, rfl, rfl, rfl, wd⟩ := open_int Try.underlying3 (hval 3 _ v3 rfl rfl) h3
    exact dayGrids_any y m A cap l d W hi (by omega)

set_option maxRecDepth 100000 in
theorem dayGrids_holds : Rows.DayGridsSaid :=
  OpenClaim.holds_of_wide 6 Try.f6 rfl rfl rfl rfl rfl rfl rfl ⟨rfl, rfl, rfl, rfl, rfl⟩ rfl rfl rfl rfl rfl (by kernel_rfl) Try.func6 (by kernel_rfl)
    (of_decide_eq_true (by kernel_rfl)) (by unfold Func.isWrapper; first | (rw [if_pos (by decide +kernel)]; kernel_rfl) | (rw [if_neg (by decide +kernel)]; exact ⟨rfl, rfl⟩))
    (fun os started H enc _ => dayGrids_lifted os started H enc)

#print axioms dayGrids_holds
end Go.Proofs.Ytfklaahakibljaa
