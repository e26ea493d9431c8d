/-
  WALKS: the comparison of two values once more: the call draws on, and lays blocks of its own behind those that there were.
-/
import Derived.Test.YtfnooipkghfmoaaDoorValB
import Derived.Sort.Grow
set_option linter.all false
namespace Go.Proofs.YtfnooipkghfmoaaDoor
open Go.RowKit

def Grw (w w' : World) : Prop := ∃ q os, w' = Sort.grow (w.drewN q) os
theorem Grw.refl (w : World) : Grw w w := ⟨0, #[], by simp [Sort.grow, World.drewN]⟩
theorem Grw.alloc {a w : World} (h : Grw a w) (o : Obj) : Grw a (w.alloc o) := by
  obtain ⟨q, os, rfl⟩ := h
  exact ⟨q, os.push o, by unfold Sort.grow World.alloc; simp only [Array.append_push]⟩
theorem Grw.drew {a w : World} (h : Grw a w) : Grw a w.drew := by
  obtain ⟨q, os, rfl⟩ := h
  exact ⟨q + 1, os, rfl⟩
theorem grw_plus {W w' : World} (h : Grw W w') : ∃ os n, w' = plus W os n ∧ W.drawn ≤ n := by
  obtain ⟨q, os, rfl⟩ := h
  exact ⟨os, W.drawn + q, rfl, Nat.le_add_right _ _⟩
theorem gr_plus {a w : World} {os : Array Obj} {n : Nat} (hn : w.drawn ≤ n) (h : Grw a w) : Grw a (plus w os n) := by
  obtain ⟨q, os', rfl⟩ := h
  have hn' : a.drawn + q ≤ n := hn
  refine ⟨n - a.drawn, os' ++ os, ?_⟩
  unfold plus Sort.grow World.drewN
  simp only [Array.append_assoc]
  congr 1
  omega
theorem Grw.below {w w' : World} (h : Grw w w') : Below w.heap.size w w' := by
  obtain ⟨os, n, rfl, _⟩ := grw_plus h
  exact bl_plus (Below.refl _ _)

def CmpOutG (r : Int) (w : World) (e : Ending) (w' : World) : Prop := e = .returned (.int .i64 r) ∧ Grw w w'
/-- A function of two values answers as their order, whatever the second one is. -/
def CmpByG (f : FuncId) (x : V) : Prop := ∀ (y : V) (A B : Option Addr) (c d : Nat) (w : World), LAt w A x.l → LAt w B y.l → Calls Tryd.prog f #[x.arg A c, y.arg B d] w (CmpOutG (cmpV x y) w)

set_option maxHeartbeats 3200000 in
set_option maxRecDepth 100000 in
theorem compareListPG (xs ys : List V) (H : ∀ x ∈ xs, CmpByG 52 x) (A B : Option Addr) (c d : Nat) (w : World) (hA : LAt w A xs) (hB : LAt w B ys) :
    Calls Tryd.prog 63 #[.slice A xs.length c, .slice B ys.length d, .func (.func 52) #[] #[]] w (CmpOutG (cmpL xs ys) w) := by
  have hm := hA.1
  have hm2 := hB.1
  unfold maxLen at hm hm2
  generalize hR : cmpL xs ys = R
  have HR := hide hR
  have HA := hide hA
  have HB := hide hB
  have HH := hide H
  clear hA hB hR H
  go_enter Tryd.func63, Tryd.ntmps63
  go_wp2
  go_loopw [13] (fun i wr => ∃ (k : Nat) (os : Array Obj) (n : Nat), k ≤ xs.length ∧ i = .int .i64 k ∧ Hid (cmpL (xs.drop k) (ys.drop k) = R) ∧ wr = plus w os n ∧ Hid (w.drawn ≤ n)) (fun i _ => xs.length - (intOf i).toNat)
  case atStart => exact ⟨0, #[], _, Nat.zero_le _, rfl, hide (by simpa using HR.out), plus_nil.symm, hide (Nat.le_refl _)⟩
  case round =>
    obtain ⟨k, os, n, hk, rfl, HI, rfl, HN⟩ := hrel
    by_cases hlt : k < xs.length
    · obtain ⟨b, off, rfl, hb, hcell⟩ := HA.out.2 (by omega)
      have hx := hcell k hlt
      clear hcell
      by_cases hlt2 : k < ys.length
      · obtain ⟨b2, off2, rfl, hb2, hcell2⟩ := HB.out.2 (by omega)
        have hy := hcell2 k hlt2
        clear hcell2
        have hc := HH.out _ (List.getElem_mem hlt)
        have hi := HI.out
        rw [cmpL_step hlt hlt2] at hi
        clear HI
        generalize xs[k] = x at hx hc hi
        generalize ys[k] = y at hy hi
        obtain ⟨x0, x1, x2, x3, Ax, cx, x4, hlx⟩ := VAt_iff.1 hx
        obtain ⟨y0, y1, y2, y3, Ay, cy, y4, hly⟩ := VAt_iff.1 hy
        have HX := hide hlx
        have HY := hide hly
        have HC := hide (fun w h h' => hc y Ax Ay cx cy w h h')
        clear hx hy hlx hly hc
        generalize hr : cmpV x y = r at hi HC
        obtain ⟨xk, xi, xt, xs', xl⟩ := x
        obtain ⟨yk, yi, yt, ys', yl⟩ := y
        clear hr
        simp only [V.k, V.i, V.t, V.s, V.l, V.arg] at x0 x1 x2 x3 x4 y0 y1 y2 y3 y4 HC HX HY
        have i1 : (k : Int) < (ys.length : Int) := by omega
        by_cases hr0 : r = 0
        · subst hr0
          rw [if_pos rfl] at hi
          have HI := hide hi
          clear hi
          go_wp2_with (go_at_call 52; refine (HC.out _ (HX.out.below (by repeat (first | exact Below.refl _ _ | refine bl_plus ?_ | refine bl_alloc ?_ _ | refine bl_drew ?_))) (HY.out.below (by repeat (first | exact Below.refl _ _ | refine bl_plus ?_ | refine bl_alloc ?_ _ | refine bl_drew ?_)))).mono ?_; rintro e w' ⟨rfl, hb⟩; obtain ⟨os1, n1, rfl, hn1⟩ := grw_plus hb; have HN1 := hide hn1; clear hb hn1)
          go_roundw
          case rel => exact ⟨k + 1, _, _, hlt, by go_num, HI, by rw [plus_alloc, plus_alloc, plus_plus], hide (Nat.le_trans HN.out HN1.out)⟩
          case measure => simp [intOf]; omega
        · rw [if_neg hr0] at hi
          subst hi
          have hr1 : (r == 0) = false := by simp [hr0]
          have hr2 : (r != 0) = true := by simp [hr0]
          clear hr0
          go_wp2_with (go_at_call 52; refine (HC.out _ (HX.out.below (by repeat (first | exact Below.refl _ _ | refine bl_plus ?_ | refine bl_alloc ?_ _ | refine bl_drew ?_))) (HY.out.below (by repeat (first | exact Below.refl _ _ | refine bl_plus ?_ | refine bl_alloc ?_ _ | refine bl_drew ?_)))).mono ?_; rintro e w' ⟨rfl, hb⟩; obtain ⟨os1, n1, rfl, hn1⟩ := grw_plus hb; have HN1 := hide hn1; clear hb hn1)
          go_ret
          exact ⟨rfl, by repeat (first | exact Grw.refl _ | refine gr_plus HN1.out ?_ | refine gr_plus HN.out ?_ | refine Grw.alloc ?_ _ | refine Grw.drew ?_)⟩
      · have hi := HI.out
        rw [cmpL_over hlt (by omega)] at hi
        subst hi
        clear HI HR
        generalize xs[k] = x at hx
        obtain ⟨x0, x1, x2, x3, Ax, cx, x4, hlx⟩ := VAt_iff.1 hx
        clear hx hlx
        obtain ⟨xk, xi, xt, xs', xl⟩ := x
        simp only [V.k, V.i, V.t, V.s, V.l] at x0 x1 x2 x3 x4
        have i1 : (ys.length : Int) ≤ (k : Int) := by omega
        go_wp2
        go_ret
        exact ⟨rfl, by repeat (first | exact Grw.refl _ | refine gr_plus HN1.out ?_ | refine gr_plus HN.out ?_ | refine Grw.alloc ?_ _ | refine Grw.drew ?_)⟩
    · have hi := HI.out
      rw [cmpL_end (by omega)] at hi
      have hkl : k = xs.length := by omega
      subst hkl
      by_cases hl : ys.length ≤ xs.length
      · rw [if_pos hl] at hi
        subst hi
        go_wp2
        go_ret
        exact ⟨rfl, by repeat (first | exact Grw.refl _ | refine gr_plus HN1.out ?_ | refine gr_plus HN.out ?_ | refine Grw.alloc ?_ _ | refine Grw.drew ?_)⟩
      · rw [if_neg hl] at hi
        subst hi
        go_wp2
        go_ret
        exact ⟨rfl, by repeat (first | exact Grw.refl _ | refine gr_plus HN1.out ?_ | refine gr_plus HN.out ?_ | refine Grw.alloc ?_ _ | refine Grw.drew ?_)⟩

set_option maxHeartbeats 3200000 in
set_option maxRecDepth 100000 in
theorem compareListRG (xs ys : List V) (H : ∀ x ∈ xs, CmpByG 18 x) (A B : Option Addr) (c d : Nat) (w : World) (hA : LAt w A xs) (hB : LAt w B ys) :
    Calls Tryd.prog 63 #[.slice A xs.length c, .slice B ys.length d, .func (.func 18) #[] #[]] w (CmpOutG (cmpL xs ys) w) := by
  have hm := hA.1
  have hm2 := hB.1
  unfold maxLen at hm hm2
  generalize hR : cmpL xs ys = R
  have HR := hide hR
  have HA := hide hA
  have HB := hide hB
  have HH := hide H
  clear hA hB hR H
  go_enter Tryd.func63, Tryd.ntmps63
  go_wp2
  go_loopw [13] (fun i wr => ∃ (k : Nat) (os : Array Obj) (n : Nat), k ≤ xs.length ∧ i = .int .i64 k ∧ Hid (cmpL (xs.drop k) (ys.drop k) = R) ∧ wr = plus w os n ∧ Hid (w.drawn ≤ n)) (fun i _ => xs.length - (intOf i).toNat)
  case atStart => exact ⟨0, #[], _, Nat.zero_le _, rfl, hide (by simpa using HR.out), plus_nil.symm, hide (Nat.le_refl _)⟩
  case round =>
    obtain ⟨k, os, n, hk, rfl, HI, rfl, HN⟩ := hrel
    by_cases hlt : k < xs.length
    · obtain ⟨b, off, rfl, hb, hcell⟩ := HA.out.2 (by omega)
      have hx := hcell k hlt
      clear hcell
      by_cases hlt2 : k < ys.length
      · obtain ⟨b2, off2, rfl, hb2, hcell2⟩ := HB.out.2 (by omega)
        have hy := hcell2 k hlt2
        clear hcell2
        have hc := HH.out _ (List.getElem_mem hlt)
        have hi := HI.out
        rw [cmpL_step hlt hlt2] at hi
        clear HI
        generalize xs[k] = x at hx hc hi
        generalize ys[k] = y at hy hi
        obtain ⟨x0, x1, x2, x3, Ax, cx, x4, hlx⟩ := VAt_iff.1 hx
        obtain ⟨y0, y1, y2, y3, Ay, cy, y4, hly⟩ := VAt_iff.1 hy
        have HX := hide hlx
        have HY := hide hly
        have HC := hide (fun w h h' => hc y Ax Ay cx cy w h h')
        clear hx hy hlx hly hc
        generalize hr : cmpV x y = r at hi HC
        obtain ⟨xk, xi, xt, xs', xl⟩ := x
        obtain ⟨yk, yi, yt, ys', yl⟩ := y
        clear hr
        simp only [V.k, V.i, V.t, V.s, V.l, V.arg] at x0 x1 x2 x3 x4 y0 y1 y2 y3 y4 HC HX HY
        have i1 : (k : Int) < (ys.length : Int) := by omega
        by_cases hr0 : r = 0
        · subst hr0
          rw [if_pos rfl] at hi
          have HI := hide hi
          clear hi
          go_wp2_with (go_at_call 18; refine (HC.out _ (HX.out.below (by repeat (first | exact Below.refl _ _ | refine bl_plus ?_ | refine bl_alloc ?_ _ | refine bl_drew ?_))) (HY.out.below (by repeat (first | exact Below.refl _ _ | refine bl_plus ?_ | refine bl_alloc ?_ _ | refine bl_drew ?_)))).mono ?_; rintro e w' ⟨rfl, hb⟩; obtain ⟨os1, n1, rfl, hn1⟩ := grw_plus hb; have HN1 := hide hn1; clear hb hn1)
          go_roundw
          case rel => exact ⟨k + 1, _, _, hlt, by go_num, HI, by rw [plus_alloc, plus_alloc, plus_plus], hide (Nat.le_trans HN.out HN1.out)⟩
          case measure => simp [intOf]; omega
        · rw [if_neg hr0] at hi
          subst hi
          have hr1 : (r == 0) = false := by simp [hr0]
          have hr2 : (r != 0) = true := by simp [hr0]
          clear hr0
          go_wp2_with (go_at_call 18; refine (HC.out _ (HX.out.below (by repeat (first | exact Below.refl _ _ | refine bl_plus ?_ | refine bl_alloc ?_ _ | refine bl_drew ?_))) (HY.out.below (by repeat (first | exact Below.refl _ _ | refine bl_plus ?_ | refine bl_alloc ?_ _ | refine bl_drew ?_)))).mono ?_; rintro e w' ⟨rfl, hb⟩; obtain ⟨os1, n1, rfl, hn1⟩ := grw_plus hb; have HN1 := hide hn1; clear hb hn1)
          go_ret
          exact ⟨rfl, by repeat (first | exact Grw.refl _ | refine gr_plus HN1.out ?_ | refine gr_plus HN.out ?_ | refine Grw.alloc ?_ _ | refine Grw.drew ?_)⟩
      · have hi := HI.out
        rw [cmpL_over hlt (by omega)] at hi
        subst hi
        clear HI HR
        generalize xs[k] = x at hx
        obtain ⟨x0, x1, x2, x3, Ax, cx, x4, hlx⟩ := VAt_iff.1 hx
        clear hx hlx
        obtain ⟨xk, xi, xt, xs', xl⟩ := x
        simp only [V.k, V.i, V.t, V.s, V.l] at x0 x1 x2 x3 x4
        have i1 : (ys.length : Int) ≤ (k : Int) := by omega
        go_wp2
        go_ret
        exact ⟨rfl, by repeat (first | exact Grw.refl _ | refine gr_plus HN1.out ?_ | refine gr_plus HN.out ?_ | refine Grw.alloc ?_ _ | refine Grw.drew ?_)⟩
    · have hi := HI.out
      rw [cmpL_end (by omega)] at hi
      have hkl : k = xs.length := by omega
      subst hkl
      by_cases hl : ys.length ≤ xs.length
      · rw [if_pos hl] at hi
        subst hi
        go_wp2
        go_ret
        exact ⟨rfl, by repeat (first | exact Grw.refl _ | refine gr_plus HN1.out ?_ | refine gr_plus HN.out ?_ | refine Grw.alloc ?_ _ | refine Grw.drew ?_)⟩
      · rw [if_neg hl] at hi
        subst hi
        go_wp2
        go_ret
        exact ⟨rfl, by repeat (first | exact Grw.refl _ | refine gr_plus HN1.out ?_ | refine gr_plus HN.out ?_ | refine Grw.alloc ?_ _ | refine Grw.drew ?_)⟩

set_option maxHeartbeats 6400000 in
set_option maxRecDepth 100000 in
theorem compareStepPG (x : V) (H : ∀ z ∈ x.l, CmpByG 52 z) : CmpByG 52 x := by
  intro y A B c d w hA hB
  generalize hR : cmpV x y = R
  obtain ⟨xk, xi, xt, xs, xl⟩ := x
  obtain ⟨yk, yi, yt, ys, yl⟩ := y
  rw [cmpV] at hR
  simp only [V.k, V.i, V.t, V.s, V.l, V.arg] at hA hB H ⊢
  by_cases hk : xk = yk
  · subst hk
    rw [if_pos rfl] at hR
    have hcl := fun w hA hB => compareListPG xl yl H A B c d w hA hB
    have HCL := hide hcl
    have HA := hide hA
    have HB := hide hB
    clear hcl hA hB H
    have hc3 : cmp3 xk xk = 0 := cmp3_eq xk
    have hkc : xk = 1 ∨ xk = 2 ∨ xk = 4 ∨ xk = 5 ∨ xk = 3 ∨ xk = 6 ∨ xk = 7 ∨ ((xk == 1) = false ∧ (xk == 2) = false ∧ (xk == 4) = false ∧ (xk == 5) = false ∧ (xk == 3) = false ∧ (xk == 6) = false ∧ (xk == 7) = false) := by
      simp only [beq_eq_false_iff_ne]; omega
    have hcc := fun w => compare_any xk xk w
    rw [hc3] at hcc
    rcases hkc with rfl | rfl | rfl | rfl | rfl | rfl | rfl | ⟨h1, h2, h4, h5, h3, h6, h7⟩
    iterate 3
      · simp only [true_or, or_true, if_true, Int.reduceEq] at hR
        subst hR
        have HCC := hide hcc
        clear hcc hc3 HCL HA HB
        go_enter Tryd.func52, Tryd.ntmps52
        go_wp2_with (first | (go_at_call_of 60 (Value.int IntKind.i64 xi); refine (compare_any _ _ _).mono ?_; rintro e w' ⟨rfl, rfl⟩) | (go_at_call 60; refine (HCC.out _).mono ?_; rintro e w' ⟨rfl, rfl⟩))
        go_ret
        exact ⟨rfl, by repeat (first | exact Grw.refl _ | refine gr_plus HN1.out ?_ | refine gr_plus HN.out ?_ | refine Grw.alloc ?_ _ | refine Grw.drew ?_)⟩
    · simp only [Int.reduceEq, or_self, if_true, if_false] at hR
      subst hR
      have HCC := hide hcc
      clear hcc hc3 HCL HA HB
      go_enter Tryd.func52, Tryd.ntmps52
      go_wp2_with (first | (go_at_call_of 60 (Value.int IntKind.i64 5); refine (HCC.out _).mono ?_; rintro e w' ⟨rfl, rfl⟩))
      go_region_held3 (fun w' => w'.cell? ⟨w.heap.size, 1, none⟩ = some (.int .i64 xi) ∧ w'.cell? ⟨w.heap.size, 2, none⟩ = some (.int .i64 xt) ∧ w'.cell? ⟨w.heap.size + 1, 1, none⟩ = some (.int .i64 yi) ∧ w'.cell? ⟨w.heap.size + 1, 2, none⟩ = some (.int .i64 yt)) (go_keep)
        (first | (go_at_call 60; refine (compare_any _ _ _).mono ?_; rintro e w' ⟨rfl, rfl⟩) | (go_at_call 61; refine (or2_any _ (cmp3 xi yi) (cmp3 xt yt) _ ?_ ?_).mono ?_; go_simp; go_simp; rintro e w' ⟨rfl, rfl⟩))
      go_wp2
      go_ret
      exact ⟨rfl, by repeat (first | exact Grw.refl _ | refine gr_plus HN1.out ?_ | refine gr_plus HN.out ?_ | refine Grw.alloc ?_ _ | refine Grw.drew ?_)⟩
    iterate 2
      · simp only [true_or, or_true, if_true, Int.reduceEq, or_self, if_false] at hR
        subst hR
        have HCC := hide hcc
        clear hcc hc3 HCL HA HB
        go_enter Tryd.func52, Tryd.ntmps52
        go_wp2_with (first | (go_at_call 60; refine (HCC.out _).mono ?_; rintro e w' ⟨rfl, rfl⟩) | (go_at_call 92; refine (compareS_any _ _ _).mono ?_; rintro e w' ⟨rfl, rfl⟩))
        go_ret
        exact ⟨rfl, by repeat (first | exact Grw.refl _ | refine gr_plus HN1.out ?_ | refine gr_plus HN.out ?_ | refine Grw.alloc ?_ _ | refine Grw.drew ?_)⟩
    · simp only [Int.reduceEq, or_self, if_true, if_false] at hR
      subst hR
      have HCC := hide hcc
      clear hcc hc3
      go_enter Tryd.func52, Tryd.ntmps52
      go_wp2_with (first | (go_at_call 60; refine (HCC.out _).mono ?_; rintro e w' ⟨rfl, rfl⟩) | (go_at_call 63; refine (HCL.out _ (HA.out.below (by repeat (first | exact Below.refl _ _ | refine bl_plus ?_ | refine bl_alloc ?_ _ | refine bl_drew ?_))) (HB.out.below (by repeat (first | exact Below.refl _ _ | refine bl_plus ?_ | refine bl_alloc ?_ _ | refine bl_drew ?_)))).mono ?_; rintro e w' ⟨rfl, hb⟩; obtain ⟨os1, n1, rfl, hn1⟩ := grw_plus hb; have HN1 := hide hn1; clear hb hn1))
      go_ret
      exact ⟨rfl, by repeat (first | exact Grw.refl _ | refine gr_plus HN1.out ?_ | refine gr_plus HN.out ?_ | refine Grw.alloc ?_ _ | refine Grw.drew ?_)⟩
    · simp only [beq_eq_false_iff_ne, ne_eq] at h1 h2 h3 h4 h5 h6 h7
      simp only [h1, h2, h3, h4, h5, h6, h7, or_self, if_false] at hR
      subst hR
      have g1 : (xk == 1) = false := by simp [h1]
      have g2 : (xk == 2) = false := by simp [h2]
      have g3 : (xk == 3) = false := by simp [h3]
      have g4 : (xk == 4) = false := by simp [h4]
      have g5 : (xk == 5) = false := by simp [h5]
      have g6 : (xk == 6) = false := by simp [h6]
      have g7 : (xk == 7) = false := by simp [h7]
      have HCC := hide hcc
      clear hcc hc3 HCL HA HB h1 h2 h3 h4 h5 h6 h7
      go_enter Tryd.func52, Tryd.ntmps52
      go_wp2_with (go_at_call 60; refine (HCC.out _).mono ?_; rintro e w' ⟨rfl, rfl⟩)
      go_ret
      exact ⟨rfl, by repeat (first | exact Grw.refl _ | refine gr_plus HN1.out ?_ | refine gr_plus HN.out ?_ | refine Grw.alloc ?_ _ | refine Grw.drew ?_)⟩
  · rw [if_neg hk] at hR
    have hne := cmp3_ne hk
    have hcc := fun w => compare_any xk yk w
    rw [hR] at hcc hne
    have g1 : (R == 0) = false := by simp [hne]
    have g2 : (R != 0) = true := by simp [hne]
    have g3 : (xk != yk) = true := by simp [hk]
    have g4 : (xk == yk) = false := by simp [hk]
    have HCC := hide hcc
    clear hcc hR hk hne hA hB H
    go_enter Tryd.func52, Tryd.ntmps52
    go_wp2_with (go_at_call 60; refine (HCC.out _).mono ?_; rintro e w' ⟨rfl, rfl⟩)
    go_ret
    exact ⟨rfl, by repeat (first | exact Grw.refl _ | refine gr_plus HN1.out ?_ | refine gr_plus HN.out ?_ | refine Grw.alloc ?_ _ | refine Grw.drew ?_)⟩

theorem compareByPG : ∀ (n : Nat) (x : V), SizeOf.sizeOf x ≤ n → CmpByG 52 x
  | 0, .mk _ _ _ _ _, h => by simp only [V.mk.sizeOf_spec] at h; omega
  | n + 1, .mk k i t s l, h => compareStepPG _ fun z hz => compareByPG n z (by
      have := List.sizeOf_lt_of_mem hz
      simp only [V.mk.sizeOf_spec, V.l] at h this
      omega)
theorem comparePG (x y : V) (A B : Option Addr) (c d : Nat) (w : World) (hA : LAt w A x.l) (hB : LAt w B y.l) : Calls Tryd.prog 52 #[x.arg A c, y.arg B d] w (CmpOutG (cmpV x y) w) :=
  compareByPG (SizeOf.sizeOf x) x (Nat.le_refl _) y A B c d w hA hB

set_option maxHeartbeats 6400000 in
set_option maxRecDepth 100000 in
theorem compareStepRG (x : V) (H : ∀ z ∈ x.l, CmpByG 18 z) : CmpByG 18 x := by
  intro y A B c d w hA hB
  generalize hR : cmpV x y = R
  obtain ⟨xk, xi, xt, xs, xl⟩ := x
  obtain ⟨yk, yi, yt, ys, yl⟩ := y
  rw [cmpV] at hR
  simp only [V.k, V.i, V.t, V.s, V.l, V.arg] at hA hB H ⊢
  by_cases hk : xk = yk
  · subst hk
    rw [if_pos rfl] at hR
    have hcl := fun w hA hB => compareListRG xl yl H A B c d w hA hB
    have HCL := hide hcl
    have HA := hide hA
    have HB := hide hB
    clear hcl hA hB H
    have hc3 : cmp3 xk xk = 0 := cmp3_eq xk
    have hkc : xk = 1 ∨ xk = 2 ∨ xk = 4 ∨ xk = 5 ∨ xk = 3 ∨ xk = 6 ∨ xk = 7 ∨ ((xk == 1) = false ∧ (xk == 2) = false ∧ (xk == 4) = false ∧ (xk == 5) = false ∧ (xk == 3) = false ∧ (xk == 6) = false ∧ (xk == 7) = false) := by
      simp only [beq_eq_false_iff_ne]; omega
    have hcc := fun w => compare_any xk xk w
    rw [hc3] at hcc
    rcases hkc with rfl | rfl | rfl | rfl | rfl | rfl | rfl | ⟨h1, h2, h4, h5, h3, h6, h7⟩
    iterate 3
      · simp only [true_or, or_true, if_true, Int.reduceEq] at hR
        subst hR
        have HCC := hide hcc
        clear hcc hc3 HCL HA HB
        go_enter Tryd.func18, Tryd.ntmps18
        go_wp2_with (first | (go_at_call_of 60 (Value.int IntKind.i64 xi); refine (compare_any _ _ _).mono ?_; rintro e w' ⟨rfl, rfl⟩) | (go_at_call 60; refine (HCC.out _).mono ?_; rintro e w' ⟨rfl, rfl⟩))
        go_ret
        exact ⟨rfl, by repeat (first | exact Grw.refl _ | refine gr_plus HN1.out ?_ | refine gr_plus HN.out ?_ | refine Grw.alloc ?_ _ | refine Grw.drew ?_)⟩
    · simp only [Int.reduceEq, or_self, if_true, if_false] at hR
      subst hR
      have HCC := hide hcc
      clear hcc hc3 HCL HA HB
      go_enter Tryd.func18, Tryd.ntmps18
      go_wp2_with (first | (go_at_call_of 60 (Value.int IntKind.i64 5); refine (HCC.out _).mono ?_; rintro e w' ⟨rfl, rfl⟩))
      go_region_held3 (fun w' => w'.cell? ⟨w.heap.size, 1, none⟩ = some (.int .i64 xi) ∧ w'.cell? ⟨w.heap.size, 2, none⟩ = some (.int .i64 xt) ∧ w'.cell? ⟨w.heap.size + 1, 1, none⟩ = some (.int .i64 yi) ∧ w'.cell? ⟨w.heap.size + 1, 2, none⟩ = some (.int .i64 yt)) (go_keep)
        (first | (go_at_call 60; refine (compare_any _ _ _).mono ?_; rintro e w' ⟨rfl, rfl⟩) | (go_at_call 61; refine (or2_any _ (cmp3 xi yi) (cmp3 xt yt) _ ?_ ?_).mono ?_; go_simp; go_simp; rintro e w' ⟨rfl, rfl⟩))
      go_wp2
      go_ret
      exact ⟨rfl, by repeat (first | exact Grw.refl _ | refine gr_plus HN1.out ?_ | refine gr_plus HN.out ?_ | refine Grw.alloc ?_ _ | refine Grw.drew ?_)⟩
    iterate 2
      · simp only [true_or, or_true, if_true, Int.reduceEq, or_self, if_false] at hR
        subst hR
        have HCC := hide hcc
        clear hcc hc3 HCL HA HB
        go_enter Tryd.func18, Tryd.ntmps18
        go_wp2_with (first | (go_at_call 60; refine (HCC.out _).mono ?_; rintro e w' ⟨rfl, rfl⟩) | (go_at_call 62; refine (stringsCompare_any _ _ _).mono ?_; rintro e w' ⟨rfl, rfl⟩))
        go_ret
        exact ⟨rfl, by repeat (first | exact Grw.refl _ | refine gr_plus HN1.out ?_ | refine gr_plus HN.out ?_ | refine Grw.alloc ?_ _ | refine Grw.drew ?_)⟩
    · simp only [Int.reduceEq, or_self, if_true, if_false] at hR
      subst hR
      have HCC := hide hcc
      clear hcc hc3
      go_enter Tryd.func18, Tryd.ntmps18
      go_wp2_with (first | (go_at_call 60; refine (HCC.out _).mono ?_; rintro e w' ⟨rfl, rfl⟩) | (go_at_call 63; refine (HCL.out _ (HA.out.below (by repeat (first | exact Below.refl _ _ | refine bl_plus ?_ | refine bl_alloc ?_ _ | refine bl_drew ?_))) (HB.out.below (by repeat (first | exact Below.refl _ _ | refine bl_plus ?_ | refine bl_alloc ?_ _ | refine bl_drew ?_)))).mono ?_; rintro e w' ⟨rfl, hb⟩; obtain ⟨os1, n1, rfl, hn1⟩ := grw_plus hb; have HN1 := hide hn1; clear hb hn1))
      go_ret
      exact ⟨rfl, by repeat (first | exact Grw.refl _ | refine gr_plus HN1.out ?_ | refine gr_plus HN.out ?_ | refine Grw.alloc ?_ _ | refine Grw.drew ?_)⟩
    · simp only [beq_eq_false_iff_ne, ne_eq] at h1 h2 h3 h4 h5 h6 h7
      simp only [h1, h2, h3, h4, h5, h6, h7, or_self, if_false] at hR
      subst hR
      have g1 : (xk == 1) = false := by simp [h1]
      have g2 : (xk == 2) = false := by simp [h2]
      have g3 : (xk == 3) = false := by simp [h3]
      have g4 : (xk == 4) = false := by simp [h4]
      have g5 : (xk == 5) = false := by simp [h5]
      have g6 : (xk == 6) = false := by simp [h6]
      have g7 : (xk == 7) = false := by simp [h7]
      have HCC := hide hcc
      clear hcc hc3 HCL HA HB h1 h2 h3 h4 h5 h6 h7
      go_enter Tryd.func18, Tryd.ntmps18
      go_wp2_with (go_at_call 60; refine (HCC.out _).mono ?_; rintro e w' ⟨rfl, rfl⟩)
      go_ret
      exact ⟨rfl, by repeat (first | exact Grw.refl _ | refine gr_plus HN1.out ?_ | refine gr_plus HN.out ?_ | refine Grw.alloc ?_ _ | refine Grw.drew ?_)⟩
  · rw [if_neg hk] at hR
    have hne := cmp3_ne hk
    have hcc := fun w => compare_any xk yk w
    rw [hR] at hcc hne
    have g1 : (R == 0) = false := by simp [hne]
    have g2 : (R != 0) = true := by simp [hne]
    have g3 : (xk != yk) = true := by simp [hk]
    have g4 : (xk == yk) = false := by simp [hk]
    have HCC := hide hcc
    clear hcc hR hk hne hA hB H
    go_enter Tryd.func18, Tryd.ntmps18
    go_wp2_with (go_at_call 60; refine (HCC.out _).mono ?_; rintro e w' ⟨rfl, rfl⟩)
    go_ret
    exact ⟨rfl, by repeat (first | exact Grw.refl _ | refine gr_plus HN1.out ?_ | refine gr_plus HN.out ?_ | refine Grw.alloc ?_ _ | refine Grw.drew ?_)⟩

theorem compareByRG : ∀ (n : Nat) (x : V), SizeOf.sizeOf x ≤ n → CmpByG 18 x
  | 0, .mk _ _ _ _ _, h => by simp only [V.mk.sizeOf_spec] at h; omega
  | n + 1, .mk k i t s l, h => compareStepRG _ fun z hz => compareByRG n z (by
      have := List.sizeOf_lt_of_mem hz
      simp only [V.mk.sizeOf_spec, V.l] at h this
      omega)
theorem compareRG (x y : V) (A B : Option Addr) (c d : Nat) (w : World) (hA : LAt w A x.l) (hB : LAt w B y.l) : Calls Tryd.prog 18 #[x.arg A c, y.arg B d] w (CmpOutG (cmpV x y) w) :=
  compareByRG (SizeOf.sizeOf x) x (Nat.le_refl _) y A B c d w hA hB

end Go.Proofs.YtfnooipkghfmoaaDoor
