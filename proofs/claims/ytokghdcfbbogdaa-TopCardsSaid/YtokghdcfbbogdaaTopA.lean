/-
  PLAIN AND WALKS: a better grade never gives an earlier day; slices.IsSorted at ints; slices.Clone at reviews; awakeCard.
-/
import Derived.Test.YtokghdcfbbogdaaWalkK
import Derived.Test.YtokghdcfbbogdaaWalkJ
import Derived.Test.YtokghdcfbbogdaaCmp
import Derived.Test.YtokghdcfbbogdaaClone
import Derived.BigQuiet
import Derived.Deep.RegionHeld3
namespace Go.Proofs.Ytokghdcfbbogdaa
open Go.RowKit

/-- The numbers do not fall. -/
def NoFall (ns : List Int) : Prop := ∀ j (h : j + 1 < ns.length), ns[j] ≤ ns[j + 1]

theorem St.steps_up (x : St) (d : Int) (hx : x.Good) : 0 ≤ x.sh d ∧ x.sh d ≤ x.sg d ∧ x.sg d ≤ x.se d := by
  have := hx.st
  unfold St.sh St.sg St.se
  by_cases h : x.st = 0
  · rw [if_pos h, if_pos h, if_pos h]; omega
  · rw [if_neg h, if_neg h, if_neg h]
    have h1 : 1 ≤ x.hard d := by unfold St.hard; omega
    have h2 : x.hard d + 1 ≤ x.good d := by unfold St.good; omega
    have h3 : x.good d + 1 ≤ x.easy d := by unfold St.easy; omega
    omega
theorem dueOf_1 (x : St) (d : Int) : dueOf x d 0 = min (d + max (min 0 3650) 1) 100000 := by simp [dueOf, St.graded, St.stepOf]
theorem dueOf_2 (x : St) (d : Int) : dueOf x d 1 = min (d + max (min (x.sh d) 3650) 1) 100000 := by simp [dueOf, St.graded, St.stepOf, St.sh]
theorem dueOf_3 (x : St) (d : Int) : dueOf x d 2 = min (d + max (min (x.sg d) 3650) 1) 100000 := by simp [dueOf, St.graded, St.stepOf, St.sg]
theorem dueOf_4 (x : St) (d : Int) : dueOf x d 3 = min (d + max (min (x.se d) 3650) 1) 100000 := by simp [dueOf, St.graded, St.stepOf, St.se]
theorem dues_nofall (x : St) (d : Int) (hx : x.Good) : NoFall (dues x d 4) := by
  obtain ⟨h0, h1, h2⟩ := St.steps_up x d hx
  have e : dues x d 4 = [dueOf x d 0, dueOf x d 1, dueOf x d 2, dueOf x d 3] := rfl
  rw [e]
  have q1 := dueOf_1 x d
  have q2 := dueOf_2 x d
  have q3 := dueOf_3 x d
  have q4 := dueOf_4 x d
  intro j hj
  match j, hj with
  | 0, _ => show dueOf x d 0 ≤ dueOf x d 1; omega
  | 1, _ => show dueOf x d 1 ≤ dueOf x d 2; omega
  | 2, _ => show dueOf x d 2 ≤ dueOf x d 3; omega
  | j + 3, hj => exact absurd hj (by simp)

set_option maxHeartbeats 400000 in
theorem less_any (a b : Int) (w : World) :
    Calls Try.prog 84 #[.int .i64 a, .int .i64 b] w fun e w' => e = .returned (.bool (decide (a < b))) ∧ w = w' := by
  go_enter Try.func84, Try.ntmps84
  go_wp2_with (go_at_call 96; refine (isNaN_any _ _).mono ?_; rintro e w' ⟨rfl, rfl⟩)
  go_ret
  exact ⟨rfl, rfl⟩

set_option maxHeartbeats 1600000 in
set_option maxRecDepth 100000 in
theorem isSorted_any (A : Option Addr) (c : Nat) (ns : List Int) (w : World) (hA : IntsAt w A ns) (hs : NoFall ns) (hm : ns.length ≤ maxLen) :
    Calls Try.prog 42 #[.slice A ns.length c] w fun e w' => e = .returned (.bool true) ∧ Below w.heap.size w w' := by
  unfold maxLen at hm
  have HA := hide hA
  have HS := hide hs
  clear hA hs
  go_enter Try.func42, Try.ntmps42
  go_wp2
  go_loopw [3] (fun i wr => ∃ (z : Int) (n : Nat), z < ns.length ∧ (-1) ≤ z ∧ i = .int .i64 z ∧ wr = w.drewN n) (fun i _ => (intOf i + 1).toNat)
  case atStart => exact ⟨(ns.length : Int) - 1, 0, by omega, by omega, rfl, rfl⟩
  case round =>
    obtain ⟨z, n, hz, hz1, rfl, rfl⟩ := hrel
    by_cases h0 : 0 < z
    · obtain ⟨k, rfl⟩ : ∃ k : Nat, z = (k : Int) + 1 := ⟨(z - 1).toNat, by omega⟩
      have hk : k + 1 < ns.length := by omega
      obtain ⟨b, off, rfl, hb, hcell⟩ := HA.out (by omega)
      have c1 := hcell (k + 1) hk
      have c2 := hcell k (by omega)
      have hle := HS.out k hk
      generalize ns[k + 1] = x at c1 hle
      generalize ns[k] = y at c2 hle
      clear hcell
      have hdl : decide (x < y) = false := by simp; omega
      have hlt := fun w => less_any x y w
      rw [hdl] at hlt
      have e0 : ((k : Int) + 1).toNat = k + 1 := by omega
      go_wp2
      have i1 : (k : Int) + 1 < (ns.length : Int) := by omega
      have i2 : (0 : Int) ≤ (k : Int) + 1 := by omega
      have i3 : IntKind.i64.wrap ((k : Int) + 1) = (k : Int) + 1 := IntWalk.i64_in _ (by omega)
      have i4 : IntKind.i64.wrap (k : Int) = (k : Int) := IntWalk.i64_in _ (by omega)
      have i5 : IntKind.i64.wrap ((k : Int) + 1 - 1) = (k : Int) := by rw [show (k : Int) + 1 - 1 = (k : Int) by omega]; exact i4
      have i6 : (k : Int) < (ns.length : Int) := by omega
      have i7 : (0 : Int) ≤ (k : Int) := by omega
      have c3 : (w.drewN n).drew.cell? ⟨b, off + (k + 1), none⟩ = some (.int .i64 x) := c1
      have c4 : (w.drewN n).drew.cell? ⟨b, off + k, none⟩ = some (.int .i64 y) := c2
      have HLT := hide hlt
      clear hlt c1 c2
      go_region_held3 (fun w' => w'.cell? ⟨b, off + (k + 1), none⟩ = some (.int .i64 x) ∧ w'.cell? ⟨b, off + k, none⟩ = some (.int .i64 y)) (first | (exact ⟨c3, c4⟩) | (exact ⟨by assumption, by assumption⟩) | go_keep)
        (first | (go_at_call 84; refine (HLT.out _).mono ?_; rintro e w' ⟨rfl, rfl⟩))
      go_wp2
      go_roundw
      case rel => exact ⟨(k : Int), _, by omega, by omega, by go_num, rfl⟩
      case measure => simp [intOf]; omega
    · go_wp2
      go_returns
      exact ⟨rfl, bl_drewN (Below.refl _ _) _⟩

theorem new_zero : St.new 0 0 = (St.zero, 2) := by rfl
set_option maxHeartbeats 400000 in
theorem awake_any (w : World) :
    Calls Try.prog 41 #[] w fun e w' => e = .returned (.bool true) ∧ Below w.heap.size w w' := by
  have hn := fun w => new_any 0 0 w
  rw [new_zero] at hn
  simp only [St.val, St.zero] at hn
  have HN := hide hn
  clear hn
  go_enter Try.func41, Try.ntmps41
  go_wp2_with (go_at_call 44; refine (HN.out _).mono ?_; rintro e w' ⟨rfl, hb⟩; obtain ⟨os1, n1, rfl⟩ := below_plus hb; clear hb)
  go_ret
  exact ⟨rfl, by repeat (first | exact Below.refl _ _ | refine bl_plus ?_ | refine bl_alloc ?_ _ | refine bl_drew ?_)⟩

end Go.Proofs.Ytokghdcfbbogdaa
