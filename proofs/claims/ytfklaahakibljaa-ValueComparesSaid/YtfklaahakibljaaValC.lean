/-
  WALKS: the comparison of two values, case by case; by induction on the values.
-/
import Derived.Test.YtfklaahakibljaaValB
namespace Go.Proofs.Ytfklaahakibljaa
open Go.RowKit

set_option maxHeartbeats 6400000 in
set_option maxRecDepth 100000 in
theorem compareStepP (x : V) (H : ∀ z ∈ x.l, CmpBy 11 z) : CmpBy 11 x := by
  intro y A B c d w hA hB
  generalize hR : cmpV x y = R
  obtain ⟨xk, xi, xt, xs, xl⟩ := x
  obtain ⟨yk, yi, yt, ys, yl⟩ := y
  rw [cmpV] at hR
  simp only [V.k, V.i, V.t, V.s, V.l, V.arg] at hA hB H ⊢
  by_cases hk : xk = yk
  · subst hk
    rw [if_pos rfl] at hR
    have hcl := fun w hA hB => compareListP xl yl H A B c d w hA hB
    have HCL := hide hcl
    have HA := hide hA
    have HB := hide hB
    clear hcl hA hB H
    have hc3 : cmp3 xk xk = 0 := cmp3_eq xk
    have hkc : xk = 1 ∨ xk = 2 ∨ xk = 4 ∨ xk = 5 ∨ xk = 3 ∨ xk = 6 ∨ xk = 7 ∨ ((xk == 1) = false ∧ (xk == 2) = false ∧ (xk == 4) = false ∧ (xk == 5) = false ∧ (xk == 3) = false ∧ (xk == 6) = false ∧ (xk == 7) = false) := by
      simp only [beq_eq_false_iff_ne]; omega
    have hcc := fun w => compare_any xk xk w
    rw [hc3] at hcc
    rcases hkc with rfl | rfl | rfl | rfl | rfl | rfl | rfl | ⟨h1, h2, h4, h5, h3, h6, h7⟩
    iterate 3
      · simp only [true_or, or_true, if_true, Int.reduceEq] at hR
        subst hR
        have HCC := hide hcc
        clear hcc hc3 HCL HA HB
        go_enter Try.func11, Try.ntmps11
        go_wp2_with (first | (go_at_call_of 49 (Value.int IntKind.i64 xi); refine (compare_any _ _ _).mono ?_; rintro e w' ⟨rfl, rfl⟩) | (go_at_call 49; refine (HCC.out _).mono ?_; rintro e w' ⟨rfl, rfl⟩))
        go_ret
        exact ⟨rfl, by repeat (first | exact Below.refl _ _ | refine bl_plus ?_ | refine bl_alloc ?_ _ | refine bl_drew ?_)⟩
    · simp only [Int.reduceEq, or_self, if_true, if_false] at hR
      subst hR
      have HCC := hide hcc
      clear hcc hc3 HCL HA HB
      go_enter Try.func11, Try.ntmps11
      go_wp2_with (first | (go_at_call_of 49 (Value.int IntKind.i64 5); refine (HCC.out _).mono ?_; rintro e w' ⟨rfl, rfl⟩))
      go_region_held3 (fun w' => w'.cell? ⟨w.heap.size, 1, none⟩ = some (.int .i64 xi) ∧ w'.cell? ⟨w.heap.size, 2, none⟩ = some (.int .i64 xt) ∧ w'.cell? ⟨w.heap.size + 1, 1, none⟩ = some (.int .i64 yi) ∧ w'.cell? ⟨w.heap.size + 1, 2, none⟩ = some (.int .i64 yt)) (go_keep)
        (first | (go_at_call 49; refine (compare_any _ _ _).mono ?_; rintro e w' ⟨rfl, rfl⟩) | (go_at_call 50; refine (or2_any _ (cmp3 xi yi) (cmp3 xt yt) _ ?_ ?_).mono ?_; go_simp; go_simp; rintro e w' ⟨rfl, rfl⟩))
      go_wp2
      go_ret
      exact ⟨rfl, by repeat (first | exact Below.refl _ _ | refine bl_plus ?_ | refine bl_alloc ?_ _ | refine bl_drew ?_)⟩
    iterate 2
      · simp only [true_or, or_true, if_true, Int.reduceEq, or_self, if_false] at hR
        subst hR
        have HCC := hide hcc
        clear hcc hc3 HCL HA HB
        go_enter Try.func11, Try.ntmps11
        go_wp2_with (first | (go_at_call 49; refine (HCC.out _).mono ?_; rintro e w' ⟨rfl, rfl⟩) | (go_at_call 51; refine (compareS_any _ _ _).mono ?_; rintro e w' ⟨rfl, rfl⟩))
        go_ret
        exact ⟨rfl, by repeat (first | exact Below.refl _ _ | refine bl_plus ?_ | refine bl_alloc ?_ _ | refine bl_drew ?_)⟩
    · simp only [Int.reduceEq, or_self, if_true, if_false] at hR
      subst hR
      have HCC := hide hcc
      clear hcc hc3
      go_enter Try.func11, Try.ntmps11
      go_wp2_with (first | (go_at_call 49; refine (HCC.out _).mono ?_; rintro e w' ⟨rfl, rfl⟩) | (go_at_call 52; refine (HCL.out _ (HA.out.below (by repeat (first | exact Below.refl _ _ | refine bl_plus ?_ | refine bl_alloc ?_ _ | refine bl_drew ?_))) (HB.out.below (by repeat (first | exact Below.refl _ _ | refine bl_plus ?_ | refine bl_alloc ?_ _ | refine bl_drew ?_)))).mono ?_; rintro e w' ⟨rfl, hb⟩; obtain ⟨os1, n1, rfl⟩ := below_plus hb; clear hb))
      go_ret
      exact ⟨rfl, by repeat (first | exact Below.refl _ _ | refine bl_plus ?_ | refine bl_alloc ?_ _ | refine bl_drew ?_)⟩
    · simp only [beq_eq_false_iff_ne, ne_eq] at h1 h2 h3 h4 h5 h6 h7
      simp only [h1, h2, h3, h4, h5, h6, h7, or_self, if_false] at hR
      subst hR
      have g1 : (xk == 1) = false := by simp [h1]
      have g2 : (xk == 2) = false := by simp [h2]
      have g3 : (xk == 3) = false := by simp [h3]
      have g4 : (xk == 4) = false := by simp [h4]
      have g5 : (xk == 5) = false := by simp [h5]
      have g6 : (xk == 6) = false := by simp [h6]
      have g7 : (xk == 7) = false := by simp [h7]
      have HCC := hide hcc
      clear hcc hc3 HCL HA HB h1 h2 h3 h4 h5 h6 h7
      go_enter Try.func11, Try.ntmps11
      go_wp2_with (go_at_call 49; refine (HCC.out _).mono ?_; rintro e w' ⟨rfl, rfl⟩)
      go_ret
      exact ⟨rfl, by repeat (first | exact Below.refl _ _ | refine bl_plus ?_ | refine bl_alloc ?_ _ | refine bl_drew ?_)⟩
  · rw [if_neg hk] at hR
    have hne := cmp3_ne hk
    have hcc := fun w => compare_any xk yk w
    rw [hR] at hcc hne
    have g1 : (R == 0) = false := by simp [hne]
    have g2 : (R != 0) = true := by simp [hne]
    have g3 : (xk != yk) = true := by simp [hk]
    have g4 : (xk == yk) = false := by simp [hk]
    have HCC := hide hcc
    clear hcc hR hk hne hA hB H
    go_enter Try.func11, Try.ntmps11
    go_wp2_with (go_at_call 49; refine (HCC.out _).mono ?_; rintro e w' ⟨rfl, rfl⟩)
    go_ret
    exact ⟨rfl, by repeat (first | exact Below.refl _ _ | refine bl_plus ?_ | refine bl_alloc ?_ _ | refine bl_drew ?_)⟩

theorem compareByP : ∀ (n : Nat) (x : V), SizeOf.sizeOf x ≤ n → CmpBy 11 x
  | 0, .mk _ _ _ _ _, h => by simp only [V.mk.sizeOf_spec] at h; omega
  | n + 1, .mk k i t s l, h => compareStepP _ fun z hz => compareByP n z (by
      have := List.sizeOf_lt_of_mem hz
      simp only [V.mk.sizeOf_spec, V.l] at h this
      omega)
theorem compareP (x y : V) (A B : Option Addr) (c d : Nat) (w : World) (hA : LAt w A x.l) (hB : LAt w B y.l) : Calls Try.prog 11 #[x.arg A c, y.arg B d] w (CmpOut (cmpV x y) w) :=
  compareByP (SizeOf.sizeOf x) x (Nat.le_refl _) y A B c d w hA hB

set_option maxHeartbeats 6400000 in
set_option maxRecDepth 100000 in
theorem compareStepR (x : V) (H : ∀ z ∈ x.l, CmpBy 12 z) : CmpBy 12 x := by
  intro y A B c d w hA hB
  generalize hR : cmpV x y = R
  obtain ⟨xk, xi, xt, xs, xl⟩ := x
  obtain ⟨yk, yi, yt, ys, yl⟩ := y
  rw [cmpV] at hR
  simp only [V.k, V.i, V.t, V.s, V.l, V.arg] at hA hB H ⊢
  by_cases hk : xk = yk
  · subst hk
    rw [if_pos rfl] at hR
    have hcl := fun w hA hB => compareListR xl yl H A B c d w hA hB
    have HCL := hide hcl
    have HA := hide hA
    have HB := hide hB
    clear hcl hA hB H
    have hc3 : cmp3 xk xk = 0 := cmp3_eq xk
    have hkc : xk = 1 ∨ xk = 2 ∨ xk = 4 ∨ xk = 5 ∨ xk = 3 ∨ xk = 6 ∨ xk = 7 ∨ ((xk == 1) = false ∧ (xk == 2) = false ∧ (xk == 4) = false ∧ (xk == 5) = false ∧ (xk == 3) = false ∧ (xk == 6) = false ∧ (xk == 7) = false) := by
      simp only [beq_eq_false_iff_ne]; omega
    have hcc := fun w => compare_any xk xk w
    rw [hc3] at hcc
    rcases hkc with rfl | rfl | rfl | rfl | rfl | rfl | rfl | ⟨h1, h2, h4, h5, h3, h6, h7⟩
    iterate 3
      · simp only [true_or, or_true, if_true, Int.reduceEq] at hR
        subst hR
        have HCC := hide hcc
        clear hcc hc3 HCL HA HB
        go_enter Try.func12, Try.ntmps12
        go_wp2_with (first | (go_at_call_of 49 (Value.int IntKind.i64 xi); refine (compare_any _ _ _).mono ?_; rintro e w' ⟨rfl, rfl⟩) | (go_at_call 49; refine (HCC.out _).mono ?_; rintro e w' ⟨rfl, rfl⟩))
        go_ret
        exact ⟨rfl, by repeat (first | exact Below.refl _ _ | refine bl_plus ?_ | refine bl_alloc ?_ _ | refine bl_drew ?_)⟩
    · simp only [Int.reduceEq, or_self, if_true, if_false] at hR
      subst hR
      have HCC := hide hcc
      clear hcc hc3 HCL HA HB
      go_enter Try.func12, Try.ntmps12
      go_wp2_with (first | (go_at_call_of 49 (Value.int IntKind.i64 5); refine (HCC.out _).mono ?_; rintro e w' ⟨rfl, rfl⟩))
      go_region_held3 (fun w' => w'.cell? ⟨w.heap.size, 1, none⟩ = some (.int .i64 xi) ∧ w'.cell? ⟨w.heap.size, 2, none⟩ = some (.int .i64 xt) ∧ w'.cell? ⟨w.heap.size + 1, 1, none⟩ = some (.int .i64 yi) ∧ w'.cell? ⟨w.heap.size + 1, 2, none⟩ = some (.int .i64 yt)) (go_keep)
        (first | (go_at_call 49; refine (compare_any _ _ _).mono ?_; rintro e w' ⟨rfl, rfl⟩) | (go_at_call 50; refine (or2_any _ (cmp3 xi yi) (cmp3 xt yt) _ ?_ ?_).mono ?_; go_simp; go_simp; rintro e w' ⟨rfl, rfl⟩))
      go_wp2
      go_ret
      exact ⟨rfl, by repeat (first | exact Below.refl _ _ | refine bl_plus ?_ | refine bl_alloc ?_ _ | refine bl_drew ?_)⟩
    iterate 2
      · simp only [true_or, or_true, if_true, Int.reduceEq, or_self, if_false] at hR
        subst hR
        have HCC := hide hcc
        clear hcc hc3 HCL HA HB
        go_enter Try.func12, Try.ntmps12
        go_wp2_with (first | (go_at_call 49; refine (HCC.out _).mono ?_; rintro e w' ⟨rfl, rfl⟩) | (go_at_call 53; refine (stringsCompare_any _ _ _).mono ?_; rintro e w' ⟨rfl, rfl⟩))
        go_ret
        exact ⟨rfl, by repeat (first | exact Below.refl _ _ | refine bl_plus ?_ | refine bl_alloc ?_ _ | refine bl_drew ?_)⟩
    · simp only [Int.reduceEq, or_self, if_true, if_false] at hR
      subst hR
      have HCC := hide hcc
      clear hcc hc3
      go_enter Try.func12, Try.ntmps12
      go_wp2_with (first | (go_at_call 49; refine (HCC.out _).mono ?_; rintro e w' ⟨rfl, rfl⟩) | (go_at_call 52; refine (HCL.out _ (HA.out.below (by repeat (first | exact Below.refl _ _ | refine bl_plus ?_ | refine bl_alloc ?_ _ | refine bl_drew ?_))) (HB.out.below (by repeat (first | exact Below.refl _ _ | refine bl_plus ?_ | refine bl_alloc ?_ _ | refine bl_drew ?_)))).mono ?_; rintro e w' ⟨rfl, hb⟩; obtain ⟨os1, n1, rfl⟩ := below_plus hb; clear hb))
      go_ret
      exact ⟨rfl, by repeat (first | exact Below.refl _ _ | refine bl_plus ?_ | refine bl_alloc ?_ _ | refine bl_drew ?_)⟩
    · simp only [beq_eq_false_iff_ne, ne_eq] at h1 h2 h3 h4 h5 h6 h7
      simp only [h1, h2, h3, h4, h5, h6, h7, or_self, if_false] at hR
      subst hR
      have g1 : (xk == 1) = false := by simp [h1]
      have g2 : (xk == 2) = false := by simp [h2]
      have g3 : (xk == 3) = false := by simp [h3]
      have g4 : (xk == 4) = false := by simp [h4]
      have g5 : (xk == 5) = false := by simp [h5]
      have g6 : (xk == 6) = false := by simp [h6]
      have g7 : (xk == 7) = false := by simp [h7]
      have HCC := hide hcc
      clear hcc hc3 HCL HA HB h1 h2 h3 h4 h5 h6 h7
      go_enter Try.func12, Try.ntmps12
      go_wp2_with (go_at_call 49; refine (HCC.out _).mono ?_; rintro e w' ⟨rfl, rfl⟩)
      go_ret
      exact ⟨rfl, by repeat (first | exact Below.refl _ _ | refine bl_plus ?_ | refine bl_alloc ?_ _ | refine bl_drew ?_)⟩
  · rw [if_neg hk] at hR
    have hne := cmp3_ne hk
    have hcc := fun w => compare_any xk yk w
    rw [hR] at hcc hne
    have g1 : (R == 0) = false := by simp [hne]
    have g2 : (R != 0) = true := by simp [hne]
    have g3 : (xk != yk) = true := by simp [hk]
    have g4 : (xk == yk) = false := by simp [hk]
    have HCC := hide hcc
    clear hcc hR hk hne hA hB H
    go_enter Try.func12, Try.ntmps12
    go_wp2_with (go_at_call 49; refine (HCC.out _).mono ?_; rintro e w' ⟨rfl, rfl⟩)
    go_ret
    exact ⟨rfl, by repeat (first | exact Below.refl _ _ | refine bl_plus ?_ | refine bl_alloc ?_ _ | refine bl_drew ?_)⟩

theorem compareByR : ∀ (n : Nat) (x : V), SizeOf.sizeOf x ≤ n → CmpBy 12 x
  | 0, .mk _ _ _ _ _, h => by simp only [V.mk.sizeOf_spec] at h; omega
  | n + 1, .mk k i t s l, h => compareStepR _ fun z hz => compareByR n z (by
      have := List.sizeOf_lt_of_mem hz
      simp only [V.mk.sizeOf_spec, V.l] at h this
      omega)
theorem compareR (x y : V) (A B : Option Addr) (c d : Nat) (w : World) (hA : LAt w A x.l) (hB : LAt w B y.l) : Calls Try.prog 12 #[x.arg A c, y.arg B d] w (CmpOut (cmpV x y) w) :=
  compareByR (SizeOf.sizeOf x) x (Nat.le_refl _) y A B c d w hA hB

end Go.Proofs.Ytfklaahakibljaa
