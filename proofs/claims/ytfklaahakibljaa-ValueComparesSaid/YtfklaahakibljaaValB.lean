/-
  WALKS: the comparison of two values, the program's and the reference's; the comparison of two lists of values.
-/
import Derived.Test.YtfklaahakibljaaVal
import Derived.Deep.RegionHeld3
namespace Go.Proofs.Ytfklaahakibljaa
open Go.RowKit

set_option maxHeartbeats 400000 in
theorem isNaNs_any (a : ByteArray) (w : World) :
    Calls Try.prog 130 #[.string a] w fun e w' => e = .returned (.bool false) ∧ w = w' := by
  go_enter Try.func130, Try.ntmps130
  go_wp2
  go_ret
  exact ⟨by simp, rfl⟩

set_option maxHeartbeats 800000 in
theorem compareS_any (a b : ByteArray) (w : World) :
    Calls Try.prog 51 #[.string a, .string b] w fun e w' => e = .returned (.int .i64 (Lib.compareBytes a.data.toList b.data.toList)) ∧ w = w' := by
  have hc := less_cmp a.data.toList b.data.toList
  rw [← ByteArray.toList_eq a, ← ByteArray.toList_eq b] at hc ⊢
  generalize Lib.compareBytes a.toList b.toList = r at hc ⊢
  rcases hc with ⟨rfl, h1, h2, h3⟩ | ⟨rfl, h1, h2, h3⟩ | ⟨rfl, h1, h2, h3⟩
  all_goals
    go_enter Try.func51, Try.ntmps51
    go_wp2_with (go_at_call 130; refine (isNaNs_any _ _).mono ?_; rintro e w' ⟨rfl, rfl⟩)
    go_ret
    exact ⟨rfl, rfl⟩

set_option maxHeartbeats 1000000 in
set_option maxRecDepth 100000 in
theorem bytealgCompare_any (a b : ByteArray) (w : World) :
    Calls Try.prog 131 #[.string a, .string b] w fun e w' => e = .returned (.int .i64 (Lib.compareBytes a.data.toList b.data.toList)) ∧ w = w' := by
  go_enter Try.func131, Try.ntmps131
  go_wp2
  rw [run_callFunc_extern Try.func171 (by kernel_rfl) (by kernel_rfl) (by kernel_rfl) (e := Extern.BytealgCompare.compare) (by kernel_rfl), Lib.run_compareString]
  simp only [Result.andThen]
  rw [Oper.upon_value]
  go_wp2
  go_ret
  exact ⟨rfl, rfl⟩

set_option maxHeartbeats 1000000 in
theorem stringsCompare_any (a b : ByteArray) (w : World) :
    Calls Try.prog 53 #[.string a, .string b] w fun e w' => e = .returned (.int .i64 (Lib.compareBytes a.data.toList b.data.toList)) ∧ w = w' := by
  go_enter Try.func53, Try.ntmps53
  go_wp2_with (go_at_call 131; refine (bytealgCompare_any _ _ _).mono ?_; rintro e w' ⟨rfl, rfl⟩)
  go_ret
  exact ⟨rfl, rfl⟩

def CmpOut (r : Int) (w : World) (e : Ending) (w' : World) : Prop := e = .returned (.int .i64 r) ∧ Below w.heap.size w w'
/-- A function of two values answers as their order, whatever the second one is. -/
def CmpBy (f : FuncId) (x : V) : Prop := ∀ (y : V) (A B : Option Addr) (c d : Nat) (w : World), LAt w A x.l → LAt w B y.l → Calls Try.prog f #[x.arg A c, y.arg B d] w (CmpOut (cmpV x y) w)

set_option maxHeartbeats 3200000 in
set_option maxRecDepth 100000 in
theorem compareListP (xs ys : List V) (H : ∀ x ∈ xs, CmpBy 11 x) (A B : Option Addr) (c d : Nat) (w : World) (hA : LAt w A xs) (hB : LAt w B ys) :
    Calls Try.prog 52 #[.slice A xs.length c, .slice B ys.length d, .func (.func 11) #[] #[]] w (CmpOut (cmpL xs ys) w) := by
  have hm := hA.1
  have hm2 := hB.1
  unfold maxLen at hm hm2
  generalize hR : cmpL xs ys = R
  have HR := hide hR
  have HA := hide hA
  have HB := hide hB
  have HH := hide H
  clear hA hB hR H
  go_enter Try.func52, Try.ntmps52
  go_wp2
  go_loopw [13] (fun i wr => ∃ (k : Nat) (os : Array Obj) (n : Nat), k ≤ xs.length ∧ i = .int .i64 k ∧ Hid (cmpL (xs.drop k) (ys.drop k) = R) ∧ wr = plus w os n) (fun i _ => xs.length - (intOf i).toNat)
  case atStart => exact ⟨0, #[], _, Nat.zero_le _, rfl, hide (by simpa using HR.out), plus_nil.symm⟩
  case round =>
    obtain ⟨k, os, n, hk, rfl, HI, rfl⟩ := hrel
    by_cases hlt : k < xs.length
    · obtain ⟨b, off, rfl, hb, hcell⟩ := HA.out.2 (by omega)
      have hx := hcell k hlt
      clear hcell
      by_cases hlt2 : k < ys.length
      · obtain ⟨b2, off2, rfl, hb2, hcell2⟩ := HB.out.2 (by omega)
        have hy := hcell2 k hlt2
        clear hcell2
        have hc := HH.out _ (List.getElem_mem hlt)
        have hi := HI.out
        rw [cmpL_step hlt hlt2] at hi
        clear HI
        generalize xs[k] = x at hx hc hi
        generalize ys[k] = y at hy hi
        obtain ⟨x0, x1, x2, x3, Ax, cx, x4, hlx⟩ := VAt_iff.1 hx
        obtain ⟨y0, y1, y2, y3, Ay, cy, y4, hly⟩ := VAt_iff.1 hy
        have HX := hide hlx
        have HY := hide hly
        have HC := hide (fun w h h' => hc y Ax Ay cx cy w h h')
        clear hx hy hlx hly hc
        generalize hr : cmpV x y = r at hi HC
        obtain ⟨xk, xi, xt, xs', xl⟩ := x
        obtain ⟨yk, yi, yt, ys', yl⟩ := y
        clear hr
        simp only [V.k, V.i, V.t, V.s, V.l, V.arg] at x0 x1 x2 x3 x4 y0 y1 y2 y3 y4 HC HX HY
        have i1 : (k : Int) < (ys.length : Int) := by omega
        by_cases hr0 : r = 0
        · subst hr0
          rw [if_pos rfl] at hi
          have HI := hide hi
          clear hi
          go_wp2_with (go_at_call 11; refine (HC.out _ (HX.out.below (by repeat (first | exact Below.refl _ _ | refine bl_plus ?_ | refine bl_alloc ?_ _ | refine bl_drew ?_))) (HY.out.below (by repeat (first | exact Below.refl _ _ | refine bl_plus ?_ | refine bl_alloc ?_ _ | refine bl_drew ?_)))).mono ?_; rintro e w' ⟨rfl, hb⟩; obtain ⟨os1, n1, rfl⟩ := below_plus hb; clear hb)
          go_roundw
          case rel => exact ⟨k + 1, _, _, hlt, by go_num, HI, by rw [plus_alloc, plus_alloc, plus_plus]⟩
          case measure => simp [intOf]; omega
        · rw [if_neg hr0] at hi
          subst hi
          have hr1 : (r == 0) = false := by simp [hr0]
          have hr2 : (r != 0) = true := by simp [hr0]
          clear hr0
          go_wp2_with (go_at_call 11; refine (HC.out _ (HX.out.below (by repeat (first | exact Below.refl _ _ | refine bl_plus ?_ | refine bl_alloc ?_ _ | refine bl_drew ?_))) (HY.out.below (by repeat (first | exact Below.refl _ _ | refine bl_plus ?_ | refine bl_alloc ?_ _ | refine bl_drew ?_)))).mono ?_; rintro e w' ⟨rfl, hb⟩; obtain ⟨os1, n1, rfl⟩ := below_plus hb; clear hb)
          go_ret
          exact ⟨rfl, by repeat (first | exact Below.refl _ _ | refine bl_plus ?_ | refine bl_alloc ?_ _ | refine bl_drew ?_)⟩
      · have hi := HI.out
        rw [cmpL_over hlt (by omega)] at hi
        subst hi
        clear HI HR
        generalize xs[k] = x at hx
        obtain ⟨x0, x1, x2, x3, Ax, cx, x4, hlx⟩ := VAt_iff.1 hx
        clear hx hlx
        obtain ⟨xk, xi, xt, xs', xl⟩ := x
        simp only [V.k, V.i, V.t, V.s, V.l] at x0 x1 x2 x3 x4
        have i1 : (ys.length : Int) ≤ (k : Int) := by omega
        go_wp2
        go_ret
        exact ⟨rfl, by repeat (first | exact Below.refl _ _ | refine bl_plus ?_ | refine bl_alloc ?_ _ | refine bl_drew ?_)⟩
    · have hi := HI.out
      rw [cmpL_end (by omega)] at hi
      have hkl : k = xs.length := by omega
      subst hkl
      by_cases hl : ys.length ≤ xs.length
      · rw [if_pos hl] at hi
        subst hi
        go_wp2
        go_ret
        exact ⟨rfl, by repeat (first | exact Below.refl _ _ | refine bl_plus ?_ | refine bl_alloc ?_ _ | refine bl_drew ?_)⟩
      · rw [if_neg hl] at hi
        subst hi
        go_wp2
        go_ret
        exact ⟨rfl, by repeat (first | exact Below.refl _ _ | refine bl_plus ?_ | refine bl_alloc ?_ _ | refine bl_drew ?_)⟩

set_option maxHeartbeats 3200000 in
set_option maxRecDepth 100000 in
theorem compareListR (xs ys : List V) (H : ∀ x ∈ xs, CmpBy 12 x) (A B : Option Addr) (c d : Nat) (w : World) (hA : LAt w A xs) (hB : LAt w B ys) :
    Calls Try.prog 52 #[.slice A xs.length c, .slice B ys.length d, .func (.func 12) #[] #[]] w (CmpOut (cmpL xs ys) w) := by
  have hm := hA.1
  have hm2 := hB.1
  unfold maxLen at hm hm2
  generalize hR : cmpL xs ys = R
  have HR := hide hR
  have HA := hide hA
  have HB := hide hB
  have HH := hide H
  clear hA hB hR H
  go_enter Try.func52, Try.ntmps52
  go_wp2
  go_loopw [13] (fun i wr => ∃ (k : Nat) (os : Array Obj) (n : Nat), k ≤ xs.length ∧ i = .int .i64 k ∧ Hid (cmpL (xs.drop k) (ys.drop k) = R) ∧ wr = plus w os n) (fun i _ => xs.length - (intOf i).toNat)
  case atStart => exact ⟨0, #[], _, Nat.zero_le _, rfl, hide (by simpa using HR.out), plus_nil.symm⟩
  case round =>
    obtain ⟨k, os, n, hk, rfl, HI, rfl⟩ := hrel
    by_cases hlt : k < xs.length
    · obtain ⟨b, off, rfl, hb, hcell⟩ := HA.out.2 (by omega)
      have hx := hcell k hlt
      clear hcell
      by_cases hlt2 : k < ys.length
      · obtain ⟨b2, off2, rfl, hb2, hcell2⟩ := HB.out.2 (by omega)
        have hy := hcell2 k hlt2
        clear hcell2
        have hc := HH.out _ (List.getElem_mem hlt)
        have hi := HI.out
        rw [cmpL_step hlt hlt2] at hi
        clear HI
        generalize xs[k] = x at hx hc hi
        generalize ys[k] = y at hy hi
        obtain ⟨x0, x1, x2, x3, Ax, cx, x4, hlx⟩ := VAt_iff.1 hx
        obtain ⟨y0, y1, y2, y3, Ay, cy, y4, hly⟩ := VAt_iff.1 hy
        have HX := hide hlx
        have HY := hide hly
        have HC := hide (fun w h h' => hc y Ax Ay cx cy w h h')
        clear hx hy hlx hly hc
        generalize hr : cmpV x y = r at hi HC
        obtain ⟨xk, xi, xt, xs', xl⟩ := x
        obtain ⟨yk, yi, yt, ys', yl⟩ := y
        clear hr
        simp only [V.k, V.i, V.t, V.s, V.l, V.arg] at x0 x1 x2 x3 x4 y0 y1 y2 y3 y4 HC HX HY
        have i1 : (k : Int) < (ys.length : Int) := by omega
        by_cases hr0 : r = 0
        · subst hr0
          rw [if_pos rfl] at hi
          have HI := hide hi
          clear hi
          go_wp2_with (go_at_call 12; refine (HC.out _ (HX.out.below (by repeat (first | exact Below.refl _ _ | refine bl_plus ?_ | refine bl_alloc ?_ _ | refine bl_drew ?_))) (HY.out.below (by repeat (first | exact Below.refl _ _ | refine bl_plus ?_ | refine bl_alloc ?_ _ | refine bl_drew ?_)))).mono ?_; rintro e w' ⟨rfl, hb⟩; obtain ⟨os1, n1, rfl⟩ := below_plus hb; clear hb)
          go_roundw
          case rel => exact ⟨k + 1, _, _, hlt, by go_num, HI, by rw [plus_alloc, plus_alloc, plus_plus]⟩
          case measure => simp [intOf]; omega
        · rw [if_neg hr0] at hi
          subst hi
          have hr1 : (r == 0) = false := by simp [hr0]
          have hr2 : (r != 0) = true := by simp [hr0]
          clear hr0
          go_wp2_with (go_at_call 12; refine (HC.out _ (HX.out.below (by repeat (first | exact Below.refl _ _ | refine bl_plus ?_ | refine bl_alloc ?_ _ | refine bl_drew ?_))) (HY.out.below (by repeat (first | exact Below.refl _ _ | refine bl_plus ?_ | refine bl_alloc ?_ _ | refine bl_drew ?_)))).mono ?_; rintro e w' ⟨rfl, hb⟩; obtain ⟨os1, n1, rfl⟩ := below_plus hb; clear hb)
          go_ret
          exact ⟨rfl, by repeat (first | exact Below.refl _ _ | refine bl_plus ?_ | refine bl_alloc ?_ _ | refine bl_drew ?_)⟩
      · have hi := HI.out
        rw [cmpL_over hlt (by omega)] at hi
        subst hi
        clear HI HR
        generalize xs[k] = x at hx
        obtain ⟨x0, x1, x2, x3, Ax, cx, x4, hlx⟩ := VAt_iff.1 hx
        clear hx hlx
        obtain ⟨xk, xi, xt, xs', xl⟩ := x
        simp only [V.k, V.i, V.t, V.s, V.l] at x0 x1 x2 x3 x4
        have i1 : (ys.length : Int) ≤ (k : Int) := by omega
        go_wp2
        go_ret
        exact ⟨rfl, by repeat (first | exact Below.refl _ _ | refine bl_plus ?_ | refine bl_alloc ?_ _ | refine bl_drew ?_)⟩
    · have hi := HI.out
      rw [cmpL_end (by omega)] at hi
      have hkl : k = xs.length := by omega
      subst hkl
      by_cases hl : ys.length ≤ xs.length
      · rw [if_pos hl] at hi
        subst hi
        go_wp2
        go_ret
        exact ⟨rfl, by repeat (first | exact Below.refl _ _ | refine bl_plus ?_ | refine bl_alloc ?_ _ | refine bl_drew ?_)⟩
      · rw [if_neg hl] at hi
        subst hi
        go_wp2
        go_ret
        exact ⟨rfl, by repeat (first | exact Below.refl _ _ | refine bl_plus ?_ | refine bl_alloc ?_ _ | refine bl_drew ?_)⟩

end Go.Proofs.Ytfklaahakibljaa
