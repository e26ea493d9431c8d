/-
  WALKS: the order by which due cards are asked: the closures of due and of the reference's.
-/
import Derived.Test.YtokghdcfbbogdaaOrder
import Derived.Test.YtokghdcfbbogdaaWalkL
import Derived.Test.YtokghdcfbbogdaaStabE
namespace Go.Proofs.Ytokghdcfbbogdaa
open Go.RowKit

/-- By the day, then by the ease. -/
def byDue (x y : St) : Int := or2 (cmp3 x.du y.du) (cmp3 x.ea y.ea)

set_option maxHeartbeats 4000000 in
set_option maxRecDepth 100000 in
theorem dueLess_any (g0 : Nat) (A : Option Addr) (c : Nat) (xs : List St) (i j : Nat) (hi : i < xs.length) (hj : j < xs.length) (w : World) (hbox : w.cell? ⟨g0, 0, none⟩ = some (.slice A xs.length c)) (hA : StsAt w A xs) :
    Calls Try.prog 94 #[.int .i64 i, .int .i64 j, .pointer (some ⟨g0, 0, none⟩)] w fun e w' => e = .returned (.int .i64 (byDue xs[i] xs[j])) ∧ ∃ q os, w' = Sort.grow (w.drewN q) os := by
  obtain ⟨b, off, rfl, hb, hcell⟩ := hA (by omega)
  have hc0 := hcell i hi
  have hd0 := hcell j hj
  clear hcell hA
  generalize xs[i] = x at hc0 ⊢
  generalize xs[j] = y at hd0 ⊢
  obtain ⟨_, _, _, c3, c4, _, _, _, _⟩ := hc0
  obtain ⟨_, _, _, d3, d4, _, _, _, _⟩ := hd0
  have hiz : (i : Int) < (xs.length : Int) := by omega
  have hjz : (j : Int) < (xs.length : Int) := by omega
  unfold byDue
  go_enter Try.func94, Try.ntmps94
  go_wp2_with fail
  go_region_held3 (fun w' => w'.cell? ⟨g0, 0, none⟩ = some (.slice (some ⟨b, off, none⟩) xs.length c) ∧ w'.cell? ⟨b, off + i * 9 + 3, none⟩ = some (.int .i64 x.ea) ∧ w'.cell? ⟨b, off + i * 9 + 4, none⟩ = some (.int .i64 x.du) ∧ w'.cell? ⟨b, off + j * 9 + 3, none⟩ = some (.int .i64 y.ea) ∧ w'.cell? ⟨b, off + j * 9 + 4, none⟩ = some (.int .i64 y.du)) (go_keep)
    (first | (go_at_call 77; refine (compare_any _ _ _).mono ?_; rintro e w' ⟨rfl, rfl⟩) | (go_at_call 76; refine (or2_any _ (cmp3 x.du y.du) (cmp3 x.ea y.ea) _ ?_ ?_).mono ?_; go_simp; go_simp; rintro e w' ⟨rfl, rfl⟩))
  go_wp2
  go_ret
  exact ⟨rfl, 1, #[_], rfl⟩

set_option maxHeartbeats 4000000 in
set_option maxRecDepth 100000 in
theorem dueAtLess_any (g0 : Nat) (A : Option Addr) (c : Nat) (xs : List St) (i j : Nat) (hi : i < xs.length) (hj : j < xs.length) (w : World) (hbox : w.cell? ⟨g0, 0, none⟩ = some (.slice A xs.length c)) (hA : StsAt w A xs) :
    Calls Try.prog 95 #[.int .i64 i, .int .i64 j, .pointer (some ⟨g0, 0, none⟩)] w fun e w' => e = .returned (.int .i64 (byDue xs[i] xs[j])) ∧ ∃ q os, w' = Sort.grow (w.drewN q) os := by
  obtain ⟨b, off, rfl, hb, hcell⟩ := hA (by omega)
  have hc0 := hcell i hi
  have hd0 := hcell j hj
  clear hcell hA
  generalize xs[i] = x at hc0 ⊢
  generalize xs[j] = y at hd0 ⊢
  obtain ⟨_, _, _, c3, c4, _, _, _, _⟩ := hc0
  obtain ⟨_, _, _, d3, d4, _, _, _, _⟩ := hd0
  have hiz : (i : Int) < (xs.length : Int) := by omega
  have hjz : (j : Int) < (xs.length : Int) := by omega
  unfold byDue
  go_enter Try.func95, Try.ntmps95
  go_wp2_with fail
  go_region_held3 (fun w' => w'.cell? ⟨g0, 0, none⟩ = some (.slice (some ⟨b, off, none⟩) xs.length c) ∧ w'.cell? ⟨b, off + i * 9 + 3, none⟩ = some (.int .i64 x.ea) ∧ w'.cell? ⟨b, off + i * 9 + 4, none⟩ = some (.int .i64 x.du) ∧ w'.cell? ⟨b, off + j * 9 + 3, none⟩ = some (.int .i64 y.ea) ∧ w'.cell? ⟨b, off + j * 9 + 4, none⟩ = some (.int .i64 y.du)) (go_keep)
    (first | (go_at_call 77; refine (compare_any _ _ _).mono ?_; rintro e w' ⟨rfl, rfl⟩) | (go_at_call 76; refine (or2_any _ (cmp3 x.du y.du) (cmp3 x.ea y.ea) _ ?_ ?_).mono ?_; go_simp; go_simp; rintro e w' ⟨rfl, rfl⟩))
  go_wp2
  go_ret
  exact ⟨rfl, 1, #[_], rfl⟩

end Go.Proofs.Ytokghdcfbbogdaa
