/-
  WALKS: the comparison of two values, the program's and the reference's; the comparison of two lists of values.
-/
import Derived.Test.YtdncmjlakmkfiaaGreatDoorVal
import Derived.Deep.RegionHeld3
set_option linter.all false
namespace Go.Proofs.YtdncmjlakmkfiaaGreatDoor
open Go.RowKit

set_option maxHeartbeats 400000 in
theorem isNaNs_any (a : ByteArray) (w : World) :
    Calls Tryz.prog 177 #[.string a] w fun e w' => e = .returned (.bool false) ∧ w = w' := by
  go_enter Tryz.func177, Tryz.ntmps177
  go_wp2
  go_ret
  exact ⟨by simp, rfl⟩

set_option maxHeartbeats 800000 in
theorem compareS_any (a b : ByteArray) (w : World) :
    Calls Tryz.prog 170 #[.string a, .string b] w fun e w' => e = .returned (.int .i64 (Lib.compareBytes a.data.toList b.data.toList)) ∧ w = w' := by
  have hc := less_cmp a.data.toList b.data.toList
  rw [← ByteArray.toList_eq a, ← ByteArray.toList_eq b] at hc ⊢
  generalize Lib.compareBytes a.toList b.toList = r at hc ⊢
  rcases hc with ⟨rfl, h1, h2, h3⟩ | ⟨rfl, h1, h2, h3⟩ | ⟨rfl, h1, h2, h3⟩
  all_goals
    go_enter Tryz.func170, Tryz.ntmps170
    go_wp2_with (go_at_call 177; refine (isNaNs_any _ _).mono ?_; rintro e w' ⟨rfl, rfl⟩)
    go_ret
    exact ⟨rfl, rfl⟩

set_option maxHeartbeats 1000000 in
set_option maxRecDepth 100000 in
theorem bytealgCompare_any (a b : ByteArray) (w : World) :
    Calls Tryz.prog 145 #[.string a, .string b] w fun e w' => e = .returned (.int .i64 (Lib.compareBytes a.data.toList b.data.toList)) ∧ w = w' := by
  go_enter Tryz.func145, Tryz.ntmps145
  go_wp2
  rw [run_callFunc_extern Tryz.func187 (by kernel_rfl) (by kernel_rfl) (by kernel_rfl) (e := Extern.BytealgCompare.compare) (by kernel_rfl), Lib.run_compareString]
  simp only [Result.andThen]
  rw [Oper.upon_value]
  go_wp2
  go_ret
  exact ⟨rfl, rfl⟩

set_option maxHeartbeats 1000000 in
theorem stringsCompare_any (a b : ByteArray) (w : World) :
    Calls Tryz.prog 94 #[.string a, .string b] w fun e w' => e = .returned (.int .i64 (Lib.compareBytes a.data.toList b.data.toList)) ∧ w = w' := by
  go_enter Tryz.func94, Tryz.ntmps94
  go_wp2_with (go_at_call 145; refine (bytealgCompare_any _ _ _).mono ?_; rintro e w' ⟨rfl, rfl⟩)
  go_ret
  exact ⟨rfl, rfl⟩

def CmpOut (r : Int) (w : World) (e : Ending) (w' : World) : Prop := e = .returned (.int .i64 r) ∧ Below w.heap.size w w'

/-- A function of two values answers as their order, whatever the second one is. -/
def CmpBy (f : FuncId) (x : V) : Prop := ∀ (y : V) (A B : Option Addr) (c d : Nat) (w : World), LAt w A x.l → LAt w B y.l → Calls Tryz.prog f #[x.arg A c, y.arg B d] w (CmpOut (cmpV x y) w)

set_option maxHeartbeats 3200000 in
set_option maxRecDepth 100000 in
theorem compareListP (xs ys : List V) (H : ∀ x ∈ xs, CmpBy 126 x) (A B : Option Addr) (c d : Nat) (w : World) (hA : LAt w A xs) (hB : LAt w B ys) :
    Calls Tryz.prog 142 #[.slice A xs.length c, .slice B ys.length d, .func (.func 126) #[] #[]] w (CmpOut (cmpL xs ys) w) := by
  have hm := hA.1
  have hm2 := hB.1
  unfold maxLen at hm hm2
  generalize hR : cmpL xs ys = R
  have HR := hide hR
  have HA := hide hA
  have HB := hide hB
  have HH := hide H
  clear hA hB hR H
  go_enter Tryz.func142, Tryz.ntmps142
  go_wp2
  go_loopw [13] (fun i wr => ∃ (k : Nat) (os : Array Obj) (n : Nat), k ≤ xs.length ∧ i = .int .i64 k ∧ Hid (cmpL (xs.drop k) (ys.drop k) = R) ∧ wr = plus w os n) (fun i _ => xs.length - (intOf i).toNat)
  case atStart => exact ⟨0, #[], _, Nat.zero_le _, rfl, hide (by simpa using HR.out), plus_nil.symm⟩
  case round =>
    obtain ⟨k, os, n, hk, rfl, HI, rfl⟩ := hrel
    by_cases hlt : k < xs.length
    · obtain ⟨b, off, rfl, hb, hcell⟩ := HA.out.2 (by omega)
      have hx := hcell k hlt
      clear hcell
      by_cases hlt2 : k < ys.length
      · obtain ⟨b2, off2, rfl, hb2, hcell2⟩ := HB.out.2 (by omega)
        have hy := hcell2 k hlt2
        clear hcell2
        have hc := HH.out _ (List.getElem_mem hlt)
        have hi := HI.out
        rw [cmpL_step hlt hlt2] at hi
        clear HI
        generalize xs[k] = x at hx hc hi
        generalize ys[k] = y at hy hi
        obtain ⟨x0, x1, x2, x3, Ax, cx, x4, hlx⟩ := VAt_iff.1 hx
        obtain ⟨y0, y1, y2, y3, Ay, cy, y4, hly⟩ := VAt_iff.1 hy
        have HX := hide hlx
        have HY := hide hly
        have HC := hide (fun w h h' => hc y Ax Ay cx cy w h h')
        clear hx hy hlx hly hc
        generalize hr : cmpV x y = r at hi HC
        obtain ⟨xk, xi, xt, xs', xl⟩ := x
        obtain ⟨yk, yi, yt, ys', yl⟩ := y
        clear hr
        simp only [V.k, V.i, V.t, V.s, V.l, V.arg] at x0 x1 x2 x3 x4 y0 y1 y2 y3 y4 HC HX HY
        have i1 : (k : Int) < (ys.length : Int) := by omega
        by_cases hr0 : r = 0
        · subst hr0
          rw [if_pos rfl] at hi
          have HI := hide hi
          clear hi
          go_wp2_with (go_at_call 126; refine (HC.out _ (HX.out.below (by repeat (first | exact Below.refl _ _ | refine bl_plus ?_ | refine bl_alloc ?_ _ | refine bl_drew ?_))) (HY.out.below (by repeat (first | exact Below.refl _ _ | refine bl_plus ?_ | refine bl_alloc ?_ _ | refine bl_drew ?_)))).mono ?_; rintro e w' ⟨rfl, hb⟩; obtain ⟨os1, n1, rfl⟩ := below_plus hb; clear hb)
          go_roundw
          case rel => exact ⟨k + 1, _, _, hlt, by go_num, HI, by rw [plus_alloc, plus_alloc, plus_plus]⟩
          case measure => simp [intOf]; omega
        · rw [if_neg hr0] at hi
          subst hi
          have hr1 : (r == 0) = false := by simp [hr0]
          have hr2 : (r != 0) = true := by simp [hr0]
          clear hr0
          go_wp2_with (go_at_call 126; refine (HC.out _ (HX.out.below (by repeat (first | exact Below.refl _ _ | refine bl_plus ?_ | refine bl_alloc ?_ _ | refine bl_drew ?_))) (HY.out.below (by repeat (first | exact Below.refl _ _ | refine bl_plus ?_ | refine bl_alloc ?_ _ | refine bl_drew ?_)))).mono ?_; rintro e w' ⟨rfl, hb⟩; obtain ⟨os1, n1, rfl⟩ := below_plus hb; clear hb)
          go_ret
          exact ⟨rfl, by repeat (first | exact Below.refl _ _ | refine bl_plus ?_ | refine bl_alloc ?_ _ | refine bl_drew ?_)⟩
      · have hi := HI.out
        rw [cmpL_over hlt (by omega)] at hi
        subst hi
        clear HI HR
        generalize xs[k] = x at hx
        obtain ⟨x0, x1, x2, x3, Ax, cx, x4, hlx⟩ := VAt_iff.1 hx
        clear hx hlx
        obtain ⟨xk, xi, xt, xs', xl⟩ := x
        simp only [V.k, V.i, V.t, V.s, V.l] at x0 x1 x2 x3 x4
        have i1 : (ys.length : Int) ≤ (k : Int) := by omega
        go_wp2
        go_ret
        exact ⟨rfl, by repeat (first | exact Below.refl _ _ | refine bl_plus ?_ | refine bl_alloc ?_ _ | refine bl_drew ?_)⟩
    · have hi := HI.out
      rw [cmpL_end (by omega)] at hi
      have hkl : k = xs.length := by omega
      subst hkl
      by_cases hl : ys.length ≤ xs.length
      · rw [if_pos hl] at hi
        subst hi
        go_wp2
        go_ret
        exact ⟨rfl, by repeat (first | exact Below.refl _ _ | refine bl_plus ?_ | refine bl_alloc ?_ _ | refine bl_drew ?_)⟩
      · rw [if_neg hl] at hi
        subst hi
        go_wp2
        go_ret
        exact ⟨rfl, by repeat (first | exact Below.refl _ _ | refine bl_plus ?_ | refine bl_alloc ?_ _ | refine bl_drew ?_)⟩

set_option maxHeartbeats 3200000 in
set_option maxRecDepth 100000 in
theorem compareListR (xs ys : List V) (H : ∀ x ∈ xs, CmpBy 84 x) (A B : Option Addr) (c d : Nat) (w : World) (hA : LAt w A xs) (hB : LAt w B ys) :
    Calls Tryz.prog 142 #[.slice A xs.length c, .slice B ys.length d, .func (.func 84) #[] #[]] w (CmpOut (cmpL xs ys) w) := by
  have hm := hA.1
  have hm2 := hB.1
  unfold maxLen at hm hm2
  generalize hR : cmpL xs ys = R
  have HR := hide hR
  have HA := hide hA
  have HB := hide hB
  have HH := hide H
  clear hA hB hR H
  go_enter Tryz.func142, Tryz.ntmps142
  go_wp2
  go_loopw [13] (fun i wr => ∃ (k : Nat) (os : Array Obj) (n : Nat), k ≤ xs.length ∧ i = .int .i64 k ∧ Hid (cmpL (xs.drop k) (ys.drop k) = R) ∧ wr = plus w os n) (fun i _ => xs.length - (intOf i).toNat)
  case atStart => exact ⟨0, #[], _, Nat.zero_le _, rfl, hide (by simpa using HR.out), plus_nil.symm⟩
  case round =>
    obtain ⟨k, os, n, hk, rfl, HI, rfl⟩ := hrel
    by_cases hlt : k < xs.length
    · obtain ⟨b, off, rfl, hb, hcell⟩ := HA.out.2 (by omega)
      have hx := hcell k hlt
      clear hcell
      by_cases hlt2 : k < ys.length
      · obtain ⟨b2, off2, rfl, hb2, hcell2⟩ := HB.out.2 (by omega)
        have hy := hcell2 k hlt2
        clear hcell2
        have hc := HH.out _ (List.getElem_mem hlt)
        have hi := HI.out
        rw [cmpL_step hlt hlt2] at hi
        clear HI
        generalize xs[k] = x at hx hc hi
        generalize ys[k] = y at hy hi
        obtain ⟨x0, x1, x2, x3, Ax, cx, x4, hlx⟩ := VAt_iff.1 hx
        obtain ⟨y0, y1, y2, y3, Ay, cy, y4, hly⟩ := VAt_iff.1 hy
        have HX := hide hlx
        have HY := hide hly
        have HC := hide (fun w h h' => hc y Ax Ay cx cy w h h')
        clear hx hy hlx hly hc
        generalize hr : cmpV x y = r at hi HC
        obtain ⟨xk, xi, xt, xs', xl⟩ := x
        obtain ⟨yk, yi, yt, ys', yl⟩ := y
        clear hr
        simp only [V.k, V.i, V.t, V.s, V.l, V.arg] at x0 x1 x2 x3 x4 y0 y1 y2 y3 y4 HC HX HY
        have i1 : (k : Int) < (ys.length : Int) := by omega
        by_cases hr0 : r = 0
        · subst hr0
          rw [if_pos rfl] at hi
          have HI := hide hi
          clear hi
          go_wp2_with (go_at_call 84; refine (HC.out _ (HX.out.below (by repeat (first | exact Below.refl _ _ | refine bl_plus ?_ | refine bl_alloc ?_ _ | refine bl_drew ?_))) (HY.out.below (by repeat (first | exact Below.refl _ _ | refine bl_plus ?_ | refine bl_alloc ?_ _ | refine bl_drew ?_)))).mono ?_; rintro e w' ⟨rfl, hb⟩; obtain ⟨os1, n1, rfl⟩ := below_plus hb; clear hb)
          go_roundw
          case rel => exact ⟨k + 1, _, _, hlt, by go_num, HI, by rw [plus_alloc, plus_alloc, plus_plus]⟩
          case measure => simp [intOf]; omega
        · rw [if_neg hr0] at hi
          subst hi
          have hr1 : (r == 0) = false := by simp [hr0]
          have hr2 : (r != 0) = true := by simp [hr0]
          clear hr0
          go_wp2_with (go_at_call 84; refine (HC.out _ (HX.out.below (by repeat (first | exact Below.refl _ _ | refine bl_plus ?_ | refine bl_alloc ?_ _ | refine bl_drew ?_))) (HY.out.below (by repeat (first | exact Below.refl _ _ | refine bl_plus ?_ | refine bl_alloc ?_ _ | refine bl_drew ?_)))).mono ?_; rintro e w' ⟨rfl, hb⟩; obtain ⟨os1, n1, rfl⟩ := below_plus hb; clear hb)
          go_ret
          exact ⟨rfl, by repeat (first | exact Below.refl _ _ | refine bl_plus ?_ | refine bl_alloc ?_ _ | refine bl_drew ?_)⟩
      · have hi := HI.out
        rw [cmpL_over hlt (by omega)] at hi
        subst hi
        clear HI HR
        generalize xs[k] = x at hx
        obtain ⟨x0, x1, x2, x3, Ax, cx, x4, hlx⟩ := VAt_iff.1 hx
        clear hx hlx
        obtain ⟨xk, xi, xt, xs', xl⟩ := x
        simp only [V.k, V.i, V.t, V.s, V.l] at x0 x1 x2 x3 x4
        have i1 : (ys.length : Int) ≤ (k : Int) := by omega
        go_wp2
        go_ret
        exact ⟨rfl, by repeat (first | exact Below.refl _ _ | refine bl_plus ?_ | refine bl_alloc ?_ _ | refine bl_drew ?_)⟩
    · have hi := HI.out
      rw [cmpL_end (by omega)] at hi
      have hkl : k = xs.length := by omega
      subst hkl
      by_cases hl : ys.length ≤ xs.length
      · rw [if_pos hl] at hi
        subst hi
        go_wp2
        go_ret
        exact ⟨rfl, by repeat (first | exact Below.refl _ _ | refine bl_plus ?_ | refine bl_alloc ?_ _ | refine bl_drew ?_)⟩
      · rw [if_neg hl] at hi
        subst hi
        go_wp2
        go_ret
        exact ⟨rfl, by repeat (first | exact Below.refl _ _ | refine bl_plus ?_ | refine bl_alloc ?_ _ | refine bl_drew ?_)⟩

end Go.Proofs.YtdncmjlakmkfiaaGreatDoor
/-
  WALKS: the comparison of two values, case by case; by induction on the values.
-/
namespace Go.Proofs.YtdncmjlakmkfiaaGreatDoor
open Go.RowKit

set_option maxHeartbeats 6400000 in
set_option maxRecDepth 100000 in
theorem compareStepP (x : V) (H : ∀ z ∈ x.l, CmpBy 126 z) : CmpBy 126 x := by
  intro y A B c d w hA hB
  generalize hR : cmpV x y = R
  obtain ⟨xk, xi, xt, xs, xl⟩ := x
  obtain ⟨yk, yi, yt, ys, yl⟩ := y
  rw [cmpV] at hR
  simp only [V.k, V.i, V.t, V.s, V.l, V.arg] at hA hB H ⊢
  by_cases hk : xk = yk
  · subst hk
    rw [if_pos rfl] at hR
    have hcl := fun w hA hB => compareListP xl yl H A B c d w hA hB
    have HCL := hide hcl
    have HA := hide hA
    have HB := hide hB
    clear hcl hA hB H
    have hc3 : cmp3 xk xk = 0 := cmp3_eq xk
    have hkc : xk = 1 ∨ xk = 2 ∨ xk = 4 ∨ xk = 5 ∨ xk = 3 ∨ xk = 6 ∨ xk = 7 ∨ ((xk == 1) = false ∧ (xk == 2) = false ∧ (xk == 4) = false ∧ (xk == 5) = false ∧ (xk == 3) = false ∧ (xk == 6) = false ∧ (xk == 7) = false) := by
      simp only [beq_eq_false_iff_ne]; omega
    have hcc := fun w => compare_any xk xk w
    rw [hc3] at hcc
    rcases hkc with rfl | rfl | rfl | rfl | rfl | rfl | rfl | ⟨h1, h2, h4, h5, h3, h6, h7⟩
    iterate 3
      · simp only [true_or, or_true, if_true, Int.reduceEq] at hR
        subst hR
        have HCC := hide hcc
        clear hcc hc3 HCL HA HB
        go_enter Tryz.func126, Tryz.ntmps126
        go_wp2_with (first | (go_at_call_of 140 (Value.int IntKind.i64 xi); refine (compare_any _ _ _).mono ?_; rintro e w' ⟨rfl, rfl⟩) | (go_at_call 140; refine (HCC.out _).mono ?_; rintro e w' ⟨rfl, rfl⟩))
        go_ret
        exact ⟨rfl, by repeat (first | exact Below.refl _ _ | refine bl_plus ?_ | refine bl_alloc ?_ _ | refine bl_drew ?_)⟩
    · simp only [Int.reduceEq, or_self, if_true, if_false] at hR
      subst hR
      have HCC := hide hcc
      clear hcc hc3 HCL HA HB
      go_enter Tryz.func126, Tryz.ntmps126
      go_wp2_with (first | (go_at_call_of 140 (Value.int IntKind.i64 5); refine (HCC.out _).mono ?_; rintro e w' ⟨rfl, rfl⟩))
      go_region_held3 (fun w' => w'.cell? ⟨w.heap.size, 1, none⟩ = some (.int .i64 xi) ∧ w'.cell? ⟨w.heap.size, 2, none⟩ = some (.int .i64 xt) ∧ w'.cell? ⟨w.heap.size + 1, 1, none⟩ = some (.int .i64 yi) ∧ w'.cell? ⟨w.heap.size + 1, 2, none⟩ = some (.int .i64 yt)) (go_keep)
        (first | (go_at_call 140; refine (compare_any _ _ _).mono ?_; rintro e w' ⟨rfl, rfl⟩) | (go_at_call 141; refine (or2_any _ (cmp3 xi yi) (cmp3 xt yt) _ ?_ ?_).mono ?_; go_simp; go_simp; rintro e w' ⟨rfl, rfl⟩))
      go_wp2
      go_ret
      exact ⟨rfl, by repeat (first | exact Below.refl _ _ | refine bl_plus ?_ | refine bl_alloc ?_ _ | refine bl_drew ?_)⟩
    iterate 2
      · simp only [true_or, or_true, if_true, Int.reduceEq, or_self, if_false] at hR
        subst hR
        have HCC := hide hcc
        clear hcc hc3 HCL HA HB
        go_enter Tryz.func126, Tryz.ntmps126
        go_wp2_with (first | (go_at_call 140; refine (HCC.out _).mono ?_; rintro e w' ⟨rfl, rfl⟩) | (go_at_call 170; refine (compareS_any _ _ _).mono ?_; rintro e w' ⟨rfl, rfl⟩))
        go_ret
        exact ⟨rfl, by repeat (first | exact Below.refl _ _ | refine bl_plus ?_ | refine bl_alloc ?_ _ | refine bl_drew ?_)⟩
    · simp only [Int.reduceEq, or_self, if_true, if_false] at hR
      subst hR
      have HCC := hide hcc
      clear hcc hc3
      go_enter Tryz.func126, Tryz.ntmps126
      go_wp2_with (first | (go_at_call 140; refine (HCC.out _).mono ?_; rintro e w' ⟨rfl, rfl⟩) | (go_at_call 142; refine (HCL.out _ (HA.out.below (by repeat (first | exact Below.refl _ _ | refine bl_plus ?_ | refine bl_alloc ?_ _ | refine bl_drew ?_))) (HB.out.below (by repeat (first | exact Below.refl _ _ | refine bl_plus ?_ | refine bl_alloc ?_ _ | refine bl_drew ?_)))).mono ?_; rintro e w' ⟨rfl, hb⟩; obtain ⟨os1, n1, rfl⟩ := below_plus hb; clear hb))
      go_ret
      exact ⟨rfl, by repeat (first | exact Below.refl _ _ | refine bl_plus ?_ | refine bl_alloc ?_ _ | refine bl_drew ?_)⟩
    · simp only [beq_eq_false_iff_ne, ne_eq] at h1 h2 h3 h4 h5 h6 h7
      simp only [h1, h2, h3, h4, h5, h6, h7, or_self, if_false] at hR
      subst hR
      have g1 : (xk == 1) = false := by simp [h1]
      have g2 : (xk == 2) = false := by simp [h2]
      have g3 : (xk == 3) = false := by simp [h3]
      have g4 : (xk == 4) = false := by simp [h4]
      have g5 : (xk == 5) = false := by simp [h5]
      have g6 : (xk == 6) = false := by simp [h6]
      have g7 : (xk == 7) = false := by simp [h7]
      have HCC := hide hcc
      clear hcc hc3 HCL HA HB h1 h2 h3 h4 h5 h6 h7
      go_enter Tryz.func126, Tryz.ntmps126
      go_wp2_with (go_at_call 140; refine (HCC.out _).mono ?_; rintro e w' ⟨rfl, rfl⟩)
      go_ret
      exact ⟨rfl, by repeat (first | exact Below.refl _ _ | refine bl_plus ?_ | refine bl_alloc ?_ _ | refine bl_drew ?_)⟩
  · rw [if_neg hk] at hR
    have hne := cmp3_ne hk
    have hcc := fun w => compare_any xk yk w
    rw [hR] at hcc hne
    have g1 : (R == 0) = false := by simp [hne]
    have g2 : (R != 0) = true := by simp [hne]
    have g3 : (xk != yk) = true := by simp [hk]
    have g4 : (xk == yk) = false := by simp [hk]
    have HCC := hide hcc
    clear hcc hR hk hne hA hB H
    go_enter Tryz.func126, Tryz.ntmps126
    go_wp2_with (go_at_call 140; refine (HCC.out _).mono ?_; rintro e w' ⟨rfl, rfl⟩)
    go_ret
    exact ⟨rfl, by repeat (first | exact Below.refl _ _ | refine bl_plus ?_ | refine bl_alloc ?_ _ | refine bl_drew ?_)⟩

theorem compareByP : ∀ (n : Nat) (x : V), SizeOf.sizeOf x ≤ n → CmpBy 126 x
  | 0, .mk _ _ _ _ _, h => by simp only [V.mk.sizeOf_spec] at h; omega
  | n + 1, .mk k i t s l, h => compareStepP _ fun z hz => compareByP n z (by
      have := List.sizeOf_lt_of_mem hz
      simp only [V.mk.sizeOf_spec, V.l] at h this
      omega)

theorem compareP (x y : V) (A B : Option Addr) (c d : Nat) (w : World) (hA : LAt w A x.l) (hB : LAt w B y.l) : Calls Tryz.prog 126 #[x.arg A c, y.arg B d] w (CmpOut (cmpV x y) w) :=
  compareByP (SizeOf.sizeOf x) x (Nat.le_refl _) y A B c d w hA hB

set_option maxHeartbeats 6400000 in
set_option maxRecDepth 100000 in
theorem compareStepR (x : V) (H : ∀ z ∈ x.l, CmpBy 84 z) : CmpBy 84 x := by
  intro y A B c d w hA hB
  generalize hR : cmpV x y = R
  obtain ⟨xk, xi, xt, xs, xl⟩ := x
  obtain ⟨yk, yi, yt, ys, yl⟩ := y
  rw [cmpV] at hR
  simp only [V.k, V.i, V.t, V.s, V.l, V.arg] at hA hB H ⊢
  by_cases hk : xk = yk
  · subst hk
    rw [if_pos rfl] at hR
    have hcl := fun w hA hB => compareListR xl yl H A B c d w hA hB
    have HCL := hide hcl
    have HA := hide hA
    have HB := hide hB
    clear hcl hA hB H
    have hc3 : cmp3 xk xk = 0 := cmp3_eq xk
    have hkc : xk = 1 ∨ xk = 2 ∨ xk = 4 ∨ xk = 5 ∨ xk = 3 ∨ xk = 6 ∨ xk = 7 ∨ ((xk == 1) = false ∧ (xk == 2) = false ∧ (xk == 4) = false ∧ (xk == 5) = false ∧ (xk == 3) = false ∧ (xk == 6) = false ∧ (xk == 7) = false) := by
      simp only [beq_eq_false_iff_ne]; omega
    have hcc := fun w => compare_any xk xk w
    rw [hc3] at hcc
    rcases hkc with rfl | rfl | rfl | rfl | rfl | rfl | rfl | ⟨h1, h2, h4, h5, h3, h6, h7⟩
    iterate 3
      · simp only [true_or, or_true, if_true, Int.reduceEq] at hR
        subst hR
        have HCC := hide hcc
        clear hcc hc3 HCL HA HB
        go_enter Tryz.func84, Tryz.ntmps84
        go_wp2_with (first | (go_at_call_of 140 (Value.int IntKind.i64 xi); refine (compare_any _ _ _).mono ?_; rintro e w' ⟨rfl, rfl⟩) | (go_at_call 140; refine (HCC.out _).mono ?_; rintro e w' ⟨rfl, rfl⟩))
        go_ret
        exact ⟨rfl, by repeat (first | exact Below.refl _ _ | refine bl_plus ?_ | refine bl_alloc ?_ _ | refine bl_drew ?_)⟩
    · simp only [Int.reduceEq, or_self, if_true, if_false] at hR
      subst hR
      have HCC := hide hcc
      clear hcc hc3 HCL HA HB
      go_enter Tryz.func84, Tryz.ntmps84
      go_wp2_with (first | (go_at_call_of 140 (Value.int IntKind.i64 5); refine (HCC.out _).mono ?_; rintro e w' ⟨rfl, rfl⟩))
      go_region_held3 (fun w' => w'.cell? ⟨w.heap.size, 1, none⟩ = some (.int .i64 xi) ∧ w'.cell? ⟨w.heap.size, 2, none⟩ = some (.int .i64 xt) ∧ w'.cell? ⟨w.heap.size + 1, 1, none⟩ = some (.int .i64 yi) ∧ w'.cell? ⟨w.heap.size + 1, 2, none⟩ = some (.int .i64 yt)) (go_keep)
        (first | (go_at_call 140; refine (compare_any _ _ _).mono ?_; rintro e w' ⟨rfl, rfl⟩) | (go_at_call 141; refine (or2_any _ (cmp3 xi yi) (cmp3 xt yt) _ ?_ ?_).mono ?_; go_simp; go_simp; rintro e w' ⟨rfl, rfl⟩))
      go_wp2
      go_ret
      exact ⟨rfl, by repeat (first | exact Below.refl _ _ | refine bl_plus ?_ | refine bl_alloc ?_ _ | refine bl_drew ?_)⟩
    iterate 2
      · simp only [true_or, or_true, if_true, Int.reduceEq, or_self, if_false] at hR
        subst hR
        have HCC := hide hcc
        clear hcc hc3 HCL HA HB
        go_enter Tryz.func84, Tryz.ntmps84
        go_wp2_with (first | (go_at_call 140; refine (HCC.out _).mono ?_; rintro e w' ⟨rfl, rfl⟩) | (go_at_call 94; refine (stringsCompare_any _ _ _).mono ?_; rintro e w' ⟨rfl, rfl⟩))
        go_ret
        exact ⟨rfl, by repeat (first | exact Below.refl _ _ | refine bl_plus ?_ | refine bl_alloc ?_ _ | refine bl_drew ?_)⟩
    · simp only [Int.reduceEq, or_self, if_true, if_false] at hR
      subst hR
      have HCC := hide hcc
      clear hcc hc3
      go_enter Tryz.func84, Tryz.ntmps84
      go_wp2_with (first | (go_at_call 140; refine (HCC.out _).mono ?_; rintro e w' ⟨rfl, rfl⟩) | (go_at_call 142; refine (HCL.out _ (HA.out.below (by repeat (first | exact Below.refl _ _ | refine bl_plus ?_ | refine bl_alloc ?_ _ | refine bl_drew ?_))) (HB.out.below (by repeat (first | exact Below.refl _ _ | refine bl_plus ?_ | refine bl_alloc ?_ _ | refine bl_drew ?_)))).mono ?_; rintro e w' ⟨rfl, hb⟩; obtain ⟨os1, n1, rfl⟩ := below_plus hb; clear hb))
      go_ret
      exact ⟨rfl, by repeat (first | exact Below.refl _ _ | refine bl_plus ?_ | refine bl_alloc ?_ _ | refine bl_drew ?_)⟩
    · simp only [beq_eq_false_iff_ne, ne_eq] at h1 h2 h3 h4 h5 h6 h7
      simp only [h1, h2, h3, h4, h5, h6, h7, or_self, if_false] at hR
      subst hR
      have g1 : (xk == 1) = false := by simp [h1]
      have g2 : (xk == 2) = false := by simp [h2]
      have g3 : (xk == 3) = false := by simp [h3]
      have g4 : (xk == 4) = false := by simp [h4]
      have g5 : (xk == 5) = false := by simp [h5]
      have g6 : (xk == 6) = false := by simp [h6]
      have g7 : (xk == 7) = false := by simp [h7]
      have HCC := hide hcc
      clear hcc hc3 HCL HA HB h1 h2 h3 h4 h5 h6 h7
      go_enter Tryz.func84, Tryz.ntmps84
      go_wp2_with (go_at_call 140; refine (HCC.out _).mono ?_; rintro e w' ⟨rfl, rfl⟩)
      go_ret
      exact ⟨rfl, by repeat (first | exact Below.refl _ _ | refine bl_plus ?_ | refine bl_alloc ?_ _ | refine bl_drew ?_)⟩
  · rw [if_neg hk] at hR
    have hne := cmp3_ne hk
    have hcc := fun w => compare_any xk yk w
    rw [hR] at hcc hne
    have g1 : (R == 0) = false := by simp [hne]
    have g2 : (R != 0) = true := by simp [hne]
    have g3 : (xk != yk) = true := by simp [hk]
    have g4 : (xk == yk) = false := by simp [hk]
    have HCC := hide hcc
    clear hcc hR hk hne hA hB H
    go_enter Tryz.func84, Tryz.ntmps84
    go_wp2_with (go_at_call 140; refine (HCC.out _).mono ?_; rintro e w' ⟨rfl, rfl⟩)
    go_ret
    exact ⟨rfl, by repeat (first | exact Below.refl _ _ | refine bl_plus ?_ | refine bl_alloc ?_ _ | refine bl_drew ?_)⟩

theorem compareByR : ∀ (n : Nat) (x : V), SizeOf.sizeOf x ≤ n → CmpBy 84 x
  | 0, .mk _ _ _ _ _, h => by simp only [V.mk.sizeOf_spec] at h; omega
  | n + 1, .mk k i t s l, h => compareStepR _ fun z hz => compareByR n z (by
      have := List.sizeOf_lt_of_mem hz
      simp only [V.mk.sizeOf_spec, V.l] at h this
      omega)

theorem compareR (x y : V) (A B : Option Addr) (c d : Nat) (w : World) (hA : LAt w A x.l) (hB : LAt w B y.l) : Calls Tryz.prog 84 #[x.arg A c, y.arg B d] w (CmpOut (cmpV x y) w) :=
  compareByR (SizeOf.sizeOf x) x (Nat.le_refl _) y A B c d w hA hB

end Go.Proofs.YtdncmjlakmkfiaaGreatDoor
