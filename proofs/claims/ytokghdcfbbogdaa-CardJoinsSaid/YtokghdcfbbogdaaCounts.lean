/-
  WALKS: Counts and the reference's.
-/
import Derived.Test.YtokghdcfbbogdaaDueD
namespace Go.Proofs.Ytokghdcfbbogdaa
open Go.RowKit

def isNew (x : St) : Bool := decide (x.du < 0)
def isLearn (x : St) : Bool := decide (¬ x.du < 0 ∧ x.st = 0)
def isYoung (x : St) : Bool := decide (¬ x.du < 0 ∧ ¬ x.st = 0 ∧ x.st ≤ 20)
def isOld (x : St) : Bool := decide (¬ x.du < 0 ∧ ¬ x.st = 0 ∧ ¬ x.st ≤ 20)
/-- How many of the first k. -/
def np (p : St → Bool) (xs : List St) (k : Nat) : Int := ((pick p xs k).length : Int)
theorem np_yes {p : St → Bool} {xs : List St} {k : Nat} {x : St} (h : xs[k]? = some x) (hp : p x = true) : np p xs (k + 1) = np p xs k + 1 := by unfold np; rw [pick_yes h hp]; simp
theorem np_no {p : St → Bool} {xs : List St} {k : Nat} {x : St} (h : xs[k]? = some x) (hp : p x = false) : np p xs (k + 1) = np p xs k := by unfold np; rw [pick_no h hp]

structure Cnt where
  a : Int
  b : Int
  c : Int
  d : Int
  e : Int
def countVal (x : Cnt) : Value := .agg #[.int .i64 x.a, .int .i64 x.b, .int .i64 x.c, .int .i64 x.d, .int .i64 x.e]
def counts (xs : List St) (d : Int) : Cnt × Int :=
  if onErr xs d = 0 then (⟨np isNew xs xs.length, np isLearn xs xs.length, np isYoung xs xs.length, np isOld xs xs.length, np (asked d) xs xs.length⟩, 0) else (⟨0, 0, 0, 0, 0⟩, onErr xs d)

set_option maxHeartbeats 3200000 in
set_option maxRecDepth 100000 in
theorem counts_ok (A : Option Addr) (c : Nat) (xs : List St) (d : Int) (w : World) (hA : StsAt w A xs) (h : statesErr xs = 0) (hd : 0 ≤ d ∧ d ≤ 100000) :
    Calls Try.prog 33 #[.slice A xs.length c, .int .i64 d] w fun e w' => e = .returned (.tuple #[countVal (counts xs d).1, .int .i64 (counts xs d).2]) ∧ Below w.heap.size w w' := by
  have hR : counts xs d = (⟨np isNew xs xs.length, np isLearn xs xs.length, np isYoung xs xs.length, np isOld xs xs.length, np (asked d) xs xs.length⟩, 0) := by unfold counts; rw [if_pos (onErr_ok h hd)]
  rw [hR]
  have hl := len_of_statesErr h
  have hck := fun w h => checkOn_any A c xs d w h
  rw [show onErr xs d = 0 by unfold onErr; rw [if_pos h, if_neg (by omega)]] at hck
  have H1 := hide hck
  have HA := hide hA
  clear hck hA hR h hd
  go_enter Try.func33, Try.ntmps33
  go_wp2_with (go_at_call 65; refine (H1.out _ (HA.out.alloc _)).mono ?_; rintro e w' ⟨rfl, hb⟩; obtain ⟨os1, n1, rfl⟩ := below_plus hb; clear hb)
  go_loopw [19] (fun i wr => ∃ (k : Nat) (a0 a1 a2 a3 a4 : Int) (os : Array Obj) (n : Nat), k ≤ xs.length ∧ i = .int .i64 k ∧ a0 = np isNew xs k ∧ a1 = np isLearn xs k ∧ a2 = np isYoung xs k ∧ a3 = np isOld xs k ∧ a4 = np (asked d) xs k ∧ wr = plus ((plus (w.alloc (.cells #[.int .i64 0, .int .i64 0, .int .i64 0, .int .i64 0, .int .i64 0] 49)) os1 n1).alloc (.cells #[.int .i64 a0, .int .i64 a1, .int .i64 a2, .int .i64 a3, .int .i64 a4] 49)) os n)
    (fun i _ => xs.length - (intOf i).toNat)
  case atStart => exact ⟨0, 0, 0, 0, 0, 0, #[], _, Nat.zero_le _, rfl, rfl, rfl, rfl, rfl, rfl, plus_nil.symm⟩
  case round =>
    obtain ⟨k, a0, a1, a2, a3, a4, os, n, hk, rfl, e0, e1, e2, e3, e4, rfl⟩ := hrel
    have b0 : 0 ≤ a0 ∧ a0 ≤ 5000 := by have := pick_le isNew xs k; rw [e0]; unfold np; omega
    have E0 := hide e0
    clear e0
    have b1 : 0 ≤ a1 ∧ a1 ≤ 5000 := by have := pick_le isLearn xs k; rw [e1]; unfold np; omega
    have E1 := hide e1
    clear e1
    have b2 : 0 ≤ a2 ∧ a2 ≤ 5000 := by have := pick_le isYoung xs k; rw [e2]; unfold np; omega
    have E2 := hide e2
    clear e2
    have b3 : 0 ≤ a3 ∧ a3 ≤ 5000 := by have := pick_le isOld xs k; rw [e3]; unfold np; omega
    have E3 := hide e3
    clear e3
    have b4 : 0 ≤ a4 ∧ a4 ≤ 5000 := by have := pick_le (asked d) xs k; rw [e4]; unfold np; omega
    have E4 := hide e4
    clear e4
    by_cases hlt : k < xs.length
    · obtain ⟨b, off, rfl, hb, hcell⟩ := HA.out (by omega)
      have hxk : xs[k]? = some xs[k] := List.getElem?_eq_getElem hlt
      have hc0 := hcell k hlt
      clear hcell
      generalize xs[k] = x at hc0 hxk
      have hask := fun w => askedFor_any x d w
      simp only [St.val] at hask
      have hcases : ((x.du < 0) ∧ isNew x = true ∧ isLearn x = false ∧ isYoung x = false ∧ isOld x = false) ∨ ((¬ x.du < 0 ∧ (x.st == 0) = true) ∧ isNew x = false ∧ isLearn x = true ∧ isYoung x = false ∧ isOld x = false) ∨
          ((¬ x.du < 0 ∧ (x.st == 0) = false ∧ x.st ≤ 20) ∧ isNew x = false ∧ isLearn x = false ∧ isYoung x = true ∧ isOld x = false) ∨ ((¬ x.du < 0 ∧ (x.st == 0) = false ∧ ¬ x.st ≤ 20) ∧ isNew x = false ∧ isLearn x = false ∧ isYoung x = false ∧ isOld x = true) := by
        unfold isNew isLearn isYoung isOld
        simp only [decide_eq_true_eq, decide_eq_false_iff_not, beq_iff_eq, beq_eq_false_iff_ne, ne_eq]
        omega
      obtain ⟨c0, c1, c2, c3, c4, c5, c6, c7, c8⟩ := hc0
      have HX := hide hxk
      clear hxk
      rcases hcases with ⟨g1, p0, p1, p2, p3⟩ | ⟨⟨g1, g2⟩, p0, p1, p2, p3⟩ | ⟨⟨g1, g2, g3⟩, p0, p1, p2, p3⟩ | ⟨⟨g1, g2, g3⟩, p0, p1, p2, p3⟩
      · have P0 := hide p0
        have P1 := hide p1
        have P2 := hide p2
        have P3 := hide p3
        clear p0 p1 p2 p3
        cases hq : asked d x
        case true =>
          rw [hq] at hask
          have HK := hide hask
          have P4 := hide hq
          clear hq hask
          go_wp2_with (go_at_call 73; refine (HK.out _).mono ?_; rintro e w' ⟨rfl, hb⟩; obtain ⟨os3, n3, rfl⟩ := below_plus hb; clear hb)
          go_roundw
          case rel => exact ⟨k + 1, a0 + 1, a1, a2, a3, a4 + 1, _, _, hlt, by go_num, by rw [np_yes HX.out P0.out, ← E0.out], by rw [np_no HX.out P1.out, ← E1.out], by rw [np_no HX.out P2.out, ← E2.out], by rw [np_no HX.out P3.out, ← E3.out], by rw [np_yes HX.out P4.out, ← E4.out], by rw [plus_alloc, plus_plus]⟩
          case measure => simp [intOf]; omega
        case false =>
          rw [hq] at hask
          have HK := hide hask
          have P4 := hide hq
          clear hq hask
          go_wp2_with (go_at_call 73; refine (HK.out _).mono ?_; rintro e w' ⟨rfl, hb⟩; obtain ⟨os3, n3, rfl⟩ := below_plus hb; clear hb)
          go_roundw
          case rel => exact ⟨k + 1, a0 + 1, a1, a2, a3, a4, _, _, hlt, by go_num, by rw [np_yes HX.out P0.out, ← E0.out], by rw [np_no HX.out P1.out, ← E1.out], by rw [np_no HX.out P2.out, ← E2.out], by rw [np_no HX.out P3.out, ← E3.out], by rw [np_no HX.out P4.out, ← E4.out], by rw [plus_alloc, plus_plus]⟩
          case measure => simp [intOf]; omega
      · have P0 := hide p0
        have P1 := hide p1
        have P2 := hide p2
        have P3 := hide p3
        clear p0 p1 p2 p3
        cases hq : asked d x
        case true =>
          rw [hq] at hask
          have HK := hide hask
          have P4 := hide hq
          clear hq hask
          go_wp2_with (go_at_call 73; refine (HK.out _).mono ?_; rintro e w' ⟨rfl, hb⟩; obtain ⟨os3, n3, rfl⟩ := below_plus hb; clear hb)
          go_roundw
          case rel => exact ⟨k + 1, a0, a1 + 1, a2, a3, a4 + 1, _, _, hlt, by go_num, by rw [np_no HX.out P0.out, ← E0.out], by rw [np_yes HX.out P1.out, ← E1.out], by rw [np_no HX.out P2.out, ← E2.out], by rw [np_no HX.out P3.out, ← E3.out], by rw [np_yes HX.out P4.out, ← E4.out], by rw [plus_alloc, plus_plus]⟩
          case measure => simp [intOf]; omega
        case false =>
          rw [hq] at hask
          have HK := hide hask
          have P4 := hide hq
          clear hq hask
          go_wp2_with (go_at_call 73; refine (HK.out _).mono ?_; rintro e w' ⟨rfl, hb⟩; obtain ⟨os3, n3, rfl⟩ := below_plus hb; clear hb)
          go_roundw
          case rel => exact ⟨k + 1, a0, a1 + 1, a2, a3, a4, _, _, hlt, by go_num, by rw [np_no HX.out P0.out, ← E0.out], by rw [np_yes HX.out P1.out, ← E1.out], by rw [np_no HX.out P2.out, ← E2.out], by rw [np_no HX.out P3.out, ← E3.out], by rw [np_no HX.out P4.out, ← E4.out], by rw [plus_alloc, plus_plus]⟩
          case measure => simp [intOf]; omega
      · have P0 := hide p0
        have P1 := hide p1
        have P2 := hide p2
        have P3 := hide p3
        clear p0 p1 p2 p3
        cases hq : asked d x
        case true =>
          rw [hq] at hask
          have HK := hide hask
          have P4 := hide hq
          clear hq hask
          go_wp2_with (go_at_call 73; refine (HK.out _).mono ?_; rintro e w' ⟨rfl, hb⟩; obtain ⟨os3, n3, rfl⟩ := below_plus hb; clear hb)
          go_roundw
          case rel => exact ⟨k + 1, a0, a1, a2 + 1, a3, a4 + 1, _, _, hlt, by go_num, by rw [np_no HX.out P0.out, ← E0.out], by rw [np_no HX.out P1.out, ← E1.out], by rw [np_yes HX.out P2.out, ← E2.out], by rw [np_no HX.out P3.out, ← E3.out], by rw [np_yes HX.out P4.out, ← E4.out], by rw [plus_alloc, plus_plus]⟩
          case measure => simp [intOf]; omega
        case false =>
          rw [hq] at hask
          have HK := hide hask
          have P4 := hide hq
          clear hq hask
          go_wp2_with (go_at_call 73; refine (HK.out _).mono ?_; rintro e w' ⟨rfl, hb⟩; obtain ⟨os3, n3, rfl⟩ := below_plus hb; clear hb)
          go_roundw
          case rel => exact ⟨k + 1, a0, a1, a2 + 1, a3, a4, _, _, hlt, by go_num, by rw [np_no HX.out P0.out, ← E0.out], by rw [np_no HX.out P1.out, ← E1.out], by rw [np_yes HX.out P2.out, ← E2.out], by rw [np_no HX.out P3.out, ← E3.out], by rw [np_no HX.out P4.out, ← E4.out], by rw [plus_alloc, plus_plus]⟩
          case measure => simp [intOf]; omega
      · have P0 := hide p0
        have P1 := hide p1
        have P2 := hide p2
        have P3 := hide p3
        clear p0 p1 p2 p3
        cases hq : asked d x
        case true =>
          rw [hq] at hask
          have HK := hide hask
          have P4 := hide hq
          clear hq hask
          go_wp2_with (go_at_call 73; refine (HK.out _).mono ?_; rintro e w' ⟨rfl, hb⟩; obtain ⟨os3, n3, rfl⟩ := below_plus hb; clear hb)
          go_roundw
          case rel => exact ⟨k + 1, a0, a1, a2, a3 + 1, a4 + 1, _, _, hlt, by go_num, by rw [np_no HX.out P0.out, ← E0.out], by rw [np_no HX.out P1.out, ← E1.out], by rw [np_no HX.out P2.out, ← E2.out], by rw [np_yes HX.out P3.out, ← E3.out], by rw [np_yes HX.out P4.out, ← E4.out], by rw [plus_alloc, plus_plus]⟩
          case measure => simp [intOf]; omega
        case false =>
          rw [hq] at hask
          have HK := hide hask
          have P4 := hide hq
          clear hq hask
          go_wp2_with (go_at_call 73; refine (HK.out _).mono ?_; rintro e w' ⟨rfl, hb⟩; obtain ⟨os3, n3, rfl⟩ := below_plus hb; clear hb)
          go_roundw
          case rel => exact ⟨k + 1, a0, a1, a2, a3 + 1, a4, _, _, hlt, by go_num, by rw [np_no HX.out P0.out, ← E0.out], by rw [np_no HX.out P1.out, ← E1.out], by rw [np_no HX.out P2.out, ← E2.out], by rw [np_yes HX.out P3.out, ← E3.out], by rw [np_no HX.out P4.out, ← E4.out], by rw [plus_alloc, plus_plus]⟩
          case measure => simp [intOf]; omega
    · have hkl : k = xs.length := by omega
      subst hkl
      go_wp2
      go_returns
      exact ⟨by rw [countVal, ← E0.out, ← E1.out, ← E2.out, ← E3.out, ← E4.out], (by repeat (first | exact Below.refl _ _ | refine bl_plus ?_ | refine bl_alloc ?_ _ | refine bl_drew ?_))⟩

set_option maxHeartbeats 1600000 in
set_option maxRecDepth 100000 in
theorem counts_bad (A : Option Addr) (c : Nat) (xs : List St) (d : Int) (w : World) (hA : StsAt w A xs) (h : onErr xs d ≠ 0) :
    Calls Try.prog 33 #[.slice A xs.length c, .int .i64 d] w fun e w' => e = .returned (.tuple #[countVal (counts xs d).1, .int .i64 (counts xs d).2]) ∧ Below w.heap.size w w' := by
  have hck := fun w h => checkOn_any A c xs d w h
  have hR : counts xs d = (⟨0, 0, 0, 0, 0⟩, onErr xs d) := by unfold counts; rw [if_neg h]
  rw [hR]
  generalize onErr xs d = r at hck h ⊢
  have hr : (r == 0) = false := by simp [h]
  have H1 := hide hck
  have HA := hide hA
  clear hck h hA hR
  go_enter Try.func33, Try.ntmps33
  go_wp2_with (go_at_call 65; refine (H1.out _ (HA.out.alloc _)).mono ?_; rintro e w' ⟨rfl, hb⟩; obtain ⟨os1, n1, rfl⟩ := below_plus hb; clear hb)
  go_returns
  exact ⟨rfl, (by repeat (first | exact Below.refl _ _ | refine bl_plus ?_ | refine bl_alloc ?_ _ | refine bl_drew ?_))⟩

theorem counts_any (A : Option Addr) (c : Nat) (xs : List St) (d : Int) (w : World) (hA : StsAt w A xs) :
    Calls Try.prog 33 #[.slice A xs.length c, .int .i64 d] w fun e w' => e = .returned (.tuple #[countVal (counts xs d).1, .int .i64 (counts xs d).2]) ∧ Below w.heap.size w w' := by
  by_cases h : onErr xs d = 0
  · have h2 : statesErr xs = 0 ∧ 0 ≤ d ∧ d ≤ 100000 := by
      unfold onErr at h
      split at h
      · rename_i h0
        split at h
        · omega
        · exact ⟨h0, by omega, by omega⟩
      · rename_i h0; exact absurd h h0
    exact counts_ok A c xs d w hA h2.1 h2.2
  · exact counts_bad A c xs d w hA h

set_option maxHeartbeats 3200000 in
set_option maxRecDepth 100000 in
theorem countsOf_ok (A : Option Addr) (c : Nat) (xs : List St) (d : Int) (w : World) (hA : StsAt w A xs) (h : statesErr xs = 0) (hd : 0 ≤ d ∧ d ≤ 100000) :
    Calls Try.prog 34 #[.slice A xs.length c, .int .i64 d] w fun e w' => e = .returned (.tuple #[countVal (counts xs d).1, .int .i64 (counts xs d).2]) ∧ Below w.heap.size w w' := by
  have hR : counts xs d = (⟨np isNew xs xs.length, np isLearn xs xs.length, np isYoung xs xs.length, np isOld xs xs.length, np (asked d) xs xs.length⟩, 0) := by unfold counts; rw [if_pos (onErr_ok h hd)]
  rw [hR]
  have hl := len_of_statesErr h
  have hck := fun w h => statesFault_any A c xs w h
  rw [h] at hck
  have hgood := fun k (hk : k < xs.length) => asked_of_err (err_of_statesErr h k hk)
  have hday := fun w => isDay_yes d w hd.1 hd.2
  have hdue := fun w hA => dueAt_any A c xs d w hA h
  have HD := hide hday
  have HDu := hide hdue
  have HG := hide hgood
  have hdl := dueList_len xs d
  have hdle := pick_le (asked d) xs xs.length
  clear hgood hday hdue
  have H1 := hide hck
  have HA := hide hA
  clear hck hA hR h hd
  go_enter Try.func34, Try.ntmps34
  go_wp2_with (first
    | (go_at_call 49; refine (H1.out _ (HA.out.alloc _)).mono ?_; rintro e w' ⟨rfl, hb⟩; obtain ⟨os1, n1, rfl⟩ := below_plus hb; clear hb)
    | (go_at_call 59; refine (HD.out _).mono ?_; rintro e w' ⟨rfl, rfl⟩)
    | (go_at_call 67; refine (HDu.out _ ((HA.out.alloc _).plus _ _)).mono ?_; rintro e w' ⟨v, rfl, ⟨Ad, cd, rfl, hhalf⟩, hb⟩; obtain ⟨os2, n2, rfl⟩ := below_plus hb; clear hb hhalf))
  go_loopw [27] (fun i wr => ∃ (k : Nat) (a0 a1 a2 a3 : Int) (os : Array Obj) (n : Nat), k ≤ xs.length ∧ i = .int .i64 k ∧ a0 = np isNew xs k ∧ a1 = np isLearn xs k ∧ a2 = np isYoung xs k ∧ a3 = np isOld xs k ∧ wr = plus ((plus (plus (w.alloc (.cells #[.int .i64 0, .int .i64 0, .int .i64 0, .int .i64 0, .int .i64 0] 49)) os1 n1) os2 n2).alloc (.cells #[.int .i64 a0, .int .i64 a1, .int .i64 a2, .int .i64 a3, .int .i64 ((pick (asked d) xs xs.length).length : Int)] 49)) os n)
    (fun i _ => xs.length - (intOf i).toNat)
  case atStart => exact ⟨0, 0, 0, 0, 0, #[], _, Nat.zero_le _, rfl, rfl, rfl, rfl, rfl, plus_nil.symm⟩
  case round =>
    obtain ⟨k, a0, a1, a2, a3, os, n, hk, rfl, e0, e1, e2, e3, rfl⟩ := hrel
    have b0 : 0 ≤ a0 ∧ a0 ≤ 5000 := by have := pick_le isNew xs k; rw [e0]; unfold np; omega
    have E0 := hide e0
    clear e0
    have b1 : 0 ≤ a1 ∧ a1 ≤ 5000 := by have := pick_le isLearn xs k; rw [e1]; unfold np; omega
    have E1 := hide e1
    clear e1
    have b2 : 0 ≤ a2 ∧ a2 ≤ 5000 := by have := pick_le isYoung xs k; rw [e2]; unfold np; omega
    have E2 := hide e2
    clear e2
    have b3 : 0 ≤ a3 ∧ a3 ≤ 5000 := by have := pick_le isOld xs k; rw [e3]; unfold np; omega
    have E3 := hide e3
    clear e3
    by_cases hlt : k < xs.length
    · obtain ⟨b, off, rfl, hb, hcell⟩ := HA.out (by omega)
      have hxk : xs[k]? = some xs[k] := List.getElem?_eq_getElem hlt
      have hc0 := hcell k hlt
      clear hcell
      have hgk := HG.out k hlt
      generalize xs[k] = x at hc0 hxk hgk
      have hcases : (((x.ti == 0) = true) ∧ isNew x = true ∧ isLearn x = false ∧ isYoung x = false ∧ isOld x = false) ∨ (((x.ti == 0) = false ∧ (x.st == 0) = true) ∧ isNew x = false ∧ isLearn x = true ∧ isYoung x = false ∧ isOld x = false) ∨
          (((x.ti == 0) = false ∧ (x.st == 0) = false ∧ x.st ≤ 20) ∧ isNew x = false ∧ isLearn x = false ∧ isYoung x = true ∧ isOld x = false) ∨ (((x.ti == 0) = false ∧ (x.st == 0) = false ∧ ¬ x.st ≤ 20) ∧ isNew x = false ∧ isLearn x = false ∧ isYoung x = false ∧ isOld x = true) := by
        have h0 := hgk.2
        unfold isNew isLearn isYoung isOld
        simp only [decide_eq_true_eq, decide_eq_false_iff_not, beq_iff_eq, beq_eq_false_iff_ne, ne_eq]
        omega
      clear hgk
      obtain ⟨c0, c1, c2, c3, c4, c5, c6, c7, c8⟩ := hc0
      have HX := hide hxk
      clear hxk
      rcases hcases with ⟨g1, p0, p1, p2, p3⟩ | ⟨⟨g1, g2⟩, p0, p1, p2, p3⟩ | ⟨⟨g1, g2, g3⟩, p0, p1, p2, p3⟩ | ⟨⟨g1, g2, g3⟩, p0, p1, p2, p3⟩
      · have P0 := hide p0
        have P1 := hide p1
        have P2 := hide p2
        have P3 := hide p3
        clear p0 p1 p2 p3
        go_wp2
        go_roundw
        case rel => exact ⟨k + 1, a0 + 1, a1, a2, a3, _, _, hlt, by go_num, by rw [np_yes HX.out P0.out, ← E0.out], by rw [np_no HX.out P1.out, ← E1.out], by rw [np_no HX.out P2.out, ← E2.out], by rw [np_no HX.out P3.out, ← E3.out], by rw [plus_alloc]⟩
        case measure => simp [intOf]; omega
      · have P0 := hide p0
        have P1 := hide p1
        have P2 := hide p2
        have P3 := hide p3
        clear p0 p1 p2 p3
        go_wp2
        go_roundw
        case rel => exact ⟨k + 1, a0, a1 + 1, a2, a3, _, _, hlt, by go_num, by rw [np_no HX.out P0.out, ← E0.out], by rw [np_yes HX.out P1.out, ← E1.out], by rw [np_no HX.out P2.out, ← E2.out], by rw [np_no HX.out P3.out, ← E3.out], by rw [plus_alloc]⟩
        case measure => simp [intOf]; omega
      · have P0 := hide p0
        have P1 := hide p1
        have P2 := hide p2
        have P3 := hide p3
        clear p0 p1 p2 p3
        go_wp2
        go_roundw
        case rel => exact ⟨k + 1, a0, a1, a2 + 1, a3, _, _, hlt, by go_num, by rw [np_no HX.out P0.out, ← E0.out], by rw [np_no HX.out P1.out, ← E1.out], by rw [np_yes HX.out P2.out, ← E2.out], by rw [np_no HX.out P3.out, ← E3.out], by rw [plus_alloc]⟩
        case measure => simp [intOf]; omega
      · have P0 := hide p0
        have P1 := hide p1
        have P2 := hide p2
        have P3 := hide p3
        clear p0 p1 p2 p3
        go_wp2
        go_roundw
        case rel => exact ⟨k + 1, a0, a1, a2, a3 + 1, _, _, hlt, by go_num, by rw [np_no HX.out P0.out, ← E0.out], by rw [np_no HX.out P1.out, ← E1.out], by rw [np_no HX.out P2.out, ← E2.out], by rw [np_yes HX.out P3.out, ← E3.out], by rw [plus_alloc]⟩
        case measure => simp [intOf]; omega
    · have hkl : k = xs.length := by omega
      subst hkl
      go_wp2
      go_returns
      exact ⟨by rw [countVal, ← E0.out, ← E1.out, ← E2.out, ← E3.out]; rfl, (by repeat (first | exact Below.refl _ _ | refine bl_plus ?_ | refine bl_alloc ?_ _ | refine bl_drew ?_))⟩

set_option maxHeartbeats 1600000 in
set_option maxRecDepth 100000 in
theorem countsOf_bad (A : Option Addr) (c : Nat) (xs : List St) (d : Int) (w : World) (hA : StsAt w A xs) (h : statesErr xs ≠ 0) :
    Calls Try.prog 34 #[.slice A xs.length c, .int .i64 d] w fun e w' => e = .returned (.tuple #[countVal (counts xs d).1, .int .i64 (counts xs d).2]) ∧ Below w.heap.size w w' := by
  have hck := fun w h => statesFault_any A c xs w h
  have hR : counts xs d = (⟨0, 0, 0, 0, 0⟩, statesErr xs) := by unfold counts; rw [show onErr xs d = statesErr xs by unfold onErr; rw [if_neg h], if_neg h]
  rw [hR]
  generalize statesErr xs = r at hck h ⊢
  have hr : (r == 0) = false := by simp [h]
  have H1 := hide hck
  have HA := hide hA
  clear hck h hA hR
  go_enter Try.func34, Try.ntmps34
  go_wp2_with (go_at_call 49; refine (H1.out _ (HA.out.alloc _)).mono ?_; rintro e w' ⟨rfl, hb⟩; obtain ⟨os1, n1, rfl⟩ := below_plus hb; clear hb)
  go_returns
  exact ⟨rfl, (by repeat (first | exact Below.refl _ _ | refine bl_plus ?_ | refine bl_alloc ?_ _ | refine bl_drew ?_))⟩

set_option maxHeartbeats 1600000 in
set_option maxRecDepth 100000 in
theorem countsOf_day (A : Option Addr) (c : Nat) (xs : List St) (d : Int) (w : World) (hA : StsAt w A xs) (h : statesErr xs = 0) (hd : d < 0 ∨ 100000 < d) :
    Calls Try.prog 34 #[.slice A xs.length c, .int .i64 d] w fun e w' => e = .returned (.tuple #[countVal (counts xs d).1, .int .i64 (counts xs d).2]) ∧ Below w.heap.size w w' := by
  have hck := fun w h => statesFault_any A c xs w h
  have hday := fun w => isDay_no d w hd
  have hR : counts xs d = (⟨0, 0, 0, 0, 0⟩, 2) := by unfold counts; rw [show onErr xs d = 2 by unfold onErr; rw [if_pos h, if_pos hd], if_neg (by decide)]
  rw [hR]
  rw [h] at hck
  have H1 := hide hck
  have HD := hide hday
  have HA := hide hA
  clear hck h hA hR hday hd
  go_enter Try.func34, Try.ntmps34
  go_wp2_with (first | (go_at_call 49; refine (H1.out _ (HA.out.alloc _)).mono ?_; rintro e w' ⟨rfl, hb⟩; obtain ⟨os1, n1, rfl⟩ := below_plus hb; clear hb) | (go_at_call 59; refine (HD.out _).mono ?_; rintro e w' ⟨rfl, rfl⟩))
  go_returns
  exact ⟨rfl, (by repeat (first | exact Below.refl _ _ | refine bl_plus ?_ | refine bl_alloc ?_ _ | refine bl_drew ?_))⟩

theorem countsOf_any (A : Option Addr) (c : Nat) (xs : List St) (d : Int) (w : World) (hA : StsAt w A xs) :
    Calls Try.prog 34 #[.slice A xs.length c, .int .i64 d] w fun e w' => e = .returned (.tuple #[countVal (counts xs d).1, .int .i64 (counts xs d).2]) ∧ Below w.heap.size w w' := by
  by_cases h : statesErr xs = 0
  · by_cases hd : d < 0 ∨ 100000 < d
    · exact countsOf_day A c xs d w hA h hd
    · exact countsOf_ok A c xs d w hA h (by omega)
  · exact countsOf_bad A c xs d w hA h

end Go.Proofs.Ytokghdcfbbogdaa
/-
  WALKS: Loads and the reference's.
-/
namespace Go.Proofs.Ytokghdcfbbogdaa
open Go.RowKit
attribute [local go_sem high] run_max_i

theorem make_ints (N : Nat) (w : World) (h : N ≤ 100000) : (Instr.makeSlice 31 (.int .i64 N) (.int .i64 N)).run Try.prog w = .ok (.slice (some ⟨w.heap.size, 0, none⟩) N N) (w.alloc (.cells (ints (List.replicate N 0)) 3)) := by
  obtain ⟨i0, hi, hz0, hz1, hz2⟩ := info_parts info_int
  have := run_make (P := Try.prog) w 31 3 i0 (.int .i64 0) Try.underlying31 hi hz0 .i64 .i64 N N (by omega) (Int.le_refl _) (by rw [hz2]; omega) (by omega)
  rw [this, hz1, ← ints_zero]
  rfl
theorem IntsAt.at_ {w : World} {g g' : Nat} {l : List Int} (h : IntsAt w (some ⟨g, 0, none⟩) l) (e : g' = g) : IntsAt w (some ⟨g', 0, none⟩) l := by
  subst e; exact h

set_option maxHeartbeats 3200000 in
set_option maxRecDepth 100000 in
theorem loads_ok (A : Option Addr) (c : Nat) (xs : List St) (fr : Int) (N : Nat) (w : World) (hA : StsAt w A xs) (h : statesErr xs = 0) (hd : 0 ≤ fr ∧ fr ≤ 100000) (hN : N ≤ 1500) :
    Calls Try.prog 29 #[.slice A xs.length c, .int .i64 fr, .int .i64 N] w (IntsOut (loads xs fr N) w) := by
  have hR : loads xs fr N = (tally (slotOf fr N) N xs xs.length, 0) := by unfold loads; rw [if_pos (onErr_ok h hd), if_neg (by omega)]; simp
  rw [hR]
  have hl := len_of_statesErr h
  have hgood := fun k (hk : k < xs.length) => err_of_statesErr h k hk
  have hmk := fun w => make_ints N w (by omega)
  have hck := fun w h => checkOn_any A c xs fr w h
  rw [onErr_ok h hd] at hck
  have HG := hide hgood
  have H1 := hide hck
  have HA := hide hA
  clear hck hA hR h hgood
  go_enter Try.func29, Try.ntmps29
  go_wp2_with (first | (go_at_call 65; refine (H1.out _ HA.out).mono ?_; rintro e w' ⟨rfl, hb⟩; obtain ⟨os1, n1, rfl⟩ := below_plus hb; clear hb) | (go_at_call 61; refine (outside_no _ _ _ _ (by omega) (by omega)).mono ?_; rintro e w' ⟨rfl, rfl⟩))
  clear hmk
  go_loopw [25] (fun i wr => ∃ (k : Nat) (l : List Int) (os : Array Obj) (n : Nat), k ≤ xs.length ∧ i = .int .i64 k ∧ l = tally (slotOf fr N) N xs k ∧ wr = plus ((plus w os1 n1).alloc (.cells (ints l) 3)) os n)
    (fun i _ => xs.length - (intOf i).toNat)
  case atStart => exact ⟨0, _, #[], _, Nat.zero_le _, rfl, rfl, plus_nil.symm⟩
  case round =>
    obtain ⟨k, l, os, n, hk, rfl, hL, rfl⟩ := hrel
    have hll : l.length = N := by rw [hL]; exact tally_len _ _ _ _
    by_cases hlt : k < xs.length
    · obtain ⟨b, off, rfl, hb, hcell⟩ := HA.out (by omega)
      have hxk : xs[k]? = some xs[k] := List.getElem?_eq_getElem hlt
      have hc0 := hcell k hlt
      have hbd := fun i (hi : i < l.length) => (show 0 ≤ l[i] ∧ l[i] ≤ k by subst hL; exact tally_bd _ _ _ _ i hi)
      have HL := hide hL
      have hgk := HG.out k hlt
      clear hcell hL
      generalize xs[k] = x at hc0 hxk hgk
      have hgd := (St.good_of_err hgk).du
      have has := (asked_of_err hgk).1
      clear hgk
      obtain ⟨c0, c1, c2, c3, c4, c5, c6, c7, c8⟩ := hc0
      have HX := hide hxk
      clear hxk
      obtain ⟨z, hz⟩ : ∃ z : Nat, max x.du fr - fr = (z : Int) := ⟨(max x.du fr - fr).toNat, by omega⟩
      have hzd : slotOf fr N x = if 0 ≤ x.du ∧ (z : Int) < N then some z else none := by unfold slotOf; rw [hz]; simp
      have HZ := hide hzd
      clear hzd
      have hz2 : IntKind.i64.wrap (max x.du fr - fr) = (z : Int) := by rw [hz, IntKind.wrap_i64]; omega
      have hz3 : (z : Int) ≤ 100000 := by omega
      have hcases : (0 ≤ x.du ∧ z < N ∧ 0 ≤ x.du) ∨ (0 ≤ x.du ∧ ¬ z < N) ∨ (¬ 0 ≤ x.du ∧ ¬ 0 ≤ x.du) := by omega
      clear has
      rcases hcases with ⟨q1, q2, q3⟩ | ⟨q1, q2⟩ | ⟨q1, q2⟩
      · have q2z : (z : Int) < (N : Int) := by omega
        have hzl : z < l.length := by omega
        have hgt : (ints l)[z]? = some (.int .i64 l[z]) := ints_get hzl
        have hyb := hbd z hzl
        have hyl : l[z]? = some l[z] := List.getElem?_eq_getElem hzl
        clear hbd
        generalize l[z] = y at hgt hyb hyl
        have HS : Hid (slotOf fr N x = some z) := by show _ = _; rw [HZ.out, if_pos ⟨q3, q2z⟩]
        have HY := hide hyl
        clear hyl
        go_wp2
        go_roundw
        case rel => exact ⟨k + 1, bump l z, _, _, hlt, by go_num, by rw [tally_yes HX.out HS.out, ← HL.out], by rw [plus_alloc, ints_set]; unfold bump; rw [HY.out]; rfl⟩
        case measure => simp [intOf]; omega
      · have q2z : ¬ (z : Int) < (N : Int) := by omega
        have HS : Hid (slotOf fr N x = none) := by show _ = _; rw [HZ.out, if_neg (fun h => q2z h.2)]
        clear hbd
        go_wp2
        go_roundw
        case rel => exact ⟨k + 1, l, _, _, hlt, by go_num, by rw [tally_no HX.out HS.out, ← HL.out], by rw [plus_alloc]⟩
        case measure => simp [intOf]; omega
      · have HS : Hid (slotOf fr N x = none) := by show _ = _; rw [HZ.out, if_neg (fun h => q2 h.1)]
        clear hbd
        go_wp2
        go_roundw
        case rel => exact ⟨k + 1, l, _, _, hlt, by go_num, by rw [tally_no HX.out HS.out, ← HL.out], by rw [plus_alloc]⟩
        case measure => simp [intOf]; omega
    · have hkl : k = xs.length := by omega
      subst hkl
      have HL := hide hL
      have HLL := hide hll
      clear hL hll
      go_wp2
      go_returns
      rw [← HL.out]
      refine intsOut_ok rfl HLL.out (Nat.le_refl _) (IntsAt.at_ (intsAt_new (Blk.new _ _ _).plus) ?_) (by repeat (first | exact Below.refl _ _ | refine bl_plus ?_ | refine bl_alloc ?_ _ | refine bl_drew ?_))
      symm; simp only [plus_size]

set_option maxHeartbeats 1600000 in
set_option maxRecDepth 100000 in
theorem loads_bad (A : Option Addr) (c : Nat) (xs : List St) (fr days : Int) (w : World) (hA : StsAt w A xs) (h : onErr xs fr ≠ 0) :
    Calls Try.prog 29 #[.slice A xs.length c, .int .i64 fr, .int .i64 days] w (IntsOut (loads xs fr days) w) := by
  have hck := fun w h => checkOn_any A c xs fr w h
  have hR : loads xs fr days = ([], onErr xs fr) := by unfold loads; rw [if_neg h]
  rw [hR]
  generalize onErr xs fr = r at hck h ⊢
  have hr : (r == 0) = false := by simp [h]
  have H1 := hide hck
  have HA := hide hA
  clear hck h hA hR
  go_enter Try.func29, Try.ntmps29
  go_wp2_with (go_at_call 65; refine (H1.out _ HA.out).mono ?_; rintro e w' ⟨rfl, hb⟩; obtain ⟨os1, n1, rfl⟩ := below_plus hb; clear hb)
  go_returns
  exact intsOut_err (by repeat (first | exact Below.refl _ _ | refine bl_plus ?_ | refine bl_alloc ?_ _ | refine bl_drew ?_))

set_option maxHeartbeats 1600000 in
set_option maxRecDepth 100000 in
theorem loads_out (A : Option Addr) (c : Nat) (xs : List St) (fr days : Int) (w : World) (hA : StsAt w A xs) (h : onErr xs fr = 0) (hd : days < 0 ∨ 1500 < days) :
    Calls Try.prog 29 #[.slice A xs.length c, .int .i64 fr, .int .i64 days] w (IntsOut (loads xs fr days) w) := by
  have hck := fun w h => checkOn_any A c xs fr w h
  have hR : loads xs fr days = ([], 2) := by unfold loads; rw [if_pos h, if_pos hd]
  rw [hR]
  rw [h] at hck
  have hout := fun w => outside_yes days 0 1500 w hd
  have HO := hide hout
  have H1 := hide hck
  have HA := hide hA
  clear hck h hA hR hout hd
  go_enter Try.func29, Try.ntmps29
  go_wp2_with (first | (go_at_call 65; refine (H1.out _ HA.out).mono ?_; rintro e w' ⟨rfl, hb⟩; obtain ⟨os1, n1, rfl⟩ := below_plus hb; clear hb) | (go_at_call 61; refine (HO.out _).mono ?_; rintro e w' ⟨rfl, rfl⟩))
  go_returns
  exact intsOut_err (by repeat (first | exact Below.refl _ _ | refine bl_plus ?_ | refine bl_alloc ?_ _ | refine bl_drew ?_))

theorem loads_any (A : Option Addr) (c : Nat) (xs : List St) (fr days : Int) (w : World) (hA : StsAt w A xs) :
    Calls Try.prog 29 #[.slice A xs.length c, .int .i64 fr, .int .i64 days] w (IntsOut (loads xs fr days) w) := by
  by_cases h : onErr xs fr = 0
  · by_cases hd : days < 0 ∨ 1500 < days
    · exact loads_out A c xs fr days w hA h hd
    · obtain ⟨N, rfl⟩ := Int.eq_ofNat_of_zero_le (a := days) (by omega)
      have h2 := onErr_zero h
      exact loads_ok A c xs fr N w hA h2.1 h2.2 (by omega)
  · exact loads_bad A c xs fr days w hA h

set_option maxHeartbeats 3200000 in
set_option maxRecDepth 100000 in
theorem loadsOf_ok (A : Option Addr) (c : Nat) (xs : List St) (fr : Int) (N : Nat) (w : World) (hA : StsAt w A xs) (h : statesErr xs = 0) (hd : 0 ≤ fr ∧ fr ≤ 100000) (hN : N ≤ 1500) :
    Calls Try.prog 30 #[.slice A xs.length c, .int .i64 fr, .int .i64 N] w (IntsOut (loads xs fr N) w) := by
  have hR : loads xs fr N = (tally (slotOf fr N) N xs xs.length, 0) := by unfold loads; rw [if_pos (onErr_ok h hd), if_neg (by omega)]; simp
  rw [hR]
  have hl := len_of_statesErr h
  have hgood := fun k (hk : k < xs.length) => err_of_statesErr h k hk
  have hmk := fun w => make_ints N w (by omega)
  have hck := fun w h => statesFault_any A c xs w h
  rw [h] at hck
  have hday := fun w => isDay_yes fr w hd.1 hd.2
  have HD := hide hday
  clear hday
  have HG := hide hgood
  have H1 := hide hck
  have HA := hide hA
  clear hck hA hR h hgood
  go_enter Try.func30, Try.ntmps30
  go_wp2_with (first | (go_at_call 49; refine (H1.out _ HA.out).mono ?_; rintro e w' ⟨rfl, hb⟩; obtain ⟨os1, n1, rfl⟩ := below_plus hb; clear hb) | (go_at_call 59; refine (HD.out _).mono ?_; rintro e w' ⟨rfl, rfl⟩))
  clear hmk
  go_loopw [33] (fun i wr => ∃ (k : Nat) (l : List Int) (os : Array Obj) (n : Nat), k ≤ xs.length ∧ i = .int .i64 k ∧ l = tally (slotOf fr N) N xs k ∧ wr = plus ((plus w os1 n1).alloc (.cells (ints l) 3)) os n)
    (fun i _ => xs.length - (intOf i).toNat)
  case atStart => exact ⟨0, _, #[], _, Nat.zero_le _, rfl, rfl, plus_nil.symm⟩
  case round =>
    obtain ⟨k, l, os, n, hk, rfl, hL, rfl⟩ := hrel
    have hll : l.length = N := by rw [hL]; exact tally_len _ _ _ _
    by_cases hlt : k < xs.length
    · obtain ⟨b, off, rfl, hb, hcell⟩ := HA.out (by omega)
      have hxk : xs[k]? = some xs[k] := List.getElem?_eq_getElem hlt
      have hc0 := hcell k hlt
      have hbd := fun i (hi : i < l.length) => (show 0 ≤ l[i] ∧ l[i] ≤ k by subst hL; exact tally_bd _ _ _ _ i hi)
      have HL := hide hL
      have hgk := HG.out k hlt
      clear hcell hL
      generalize xs[k] = x at hc0 hxk hgk
      have hgd := (St.good_of_err hgk).du
      have has := (asked_of_err hgk).1
      clear hgk
      obtain ⟨c0, c1, c2, c3, c4, c5, c6, c7, c8⟩ := hc0
      have HX := hide hxk
      clear hxk
      obtain ⟨z, hz⟩ : ∃ z : Nat, max x.du fr - fr = (z : Int) := ⟨(max x.du fr - fr).toNat, by omega⟩
      have hzd : slotOf fr N x = if 0 ≤ x.du ∧ (z : Int) < N then some z else none := by unfold slotOf; rw [hz]; simp
      have HZ := hide hzd
      clear hzd
      have hz2 : max 0 (x.du - fr) = (z : Int) := by omega
      have hz3 : (z : Int) ≤ 100000 := by omega
      clear hz
      have hcases : (0 < x.ti ∧ z < N ∧ 0 ≤ x.du) ∨ (0 < x.ti ∧ ¬ z < N) ∨ (¬ 0 < x.ti ∧ ¬ 0 ≤ x.du) := by omega
      clear has
      rcases hcases with ⟨q1, q2, q3⟩ | ⟨q1, q2⟩ | ⟨q1, q2⟩
      · have q2z : (z : Int) < (N : Int) := by omega
        have hzl : z < l.length := by omega
        have hgt : (ints l)[z]? = some (.int .i64 l[z]) := ints_get hzl
        have hyb := hbd z hzl
        have hyl : l[z]? = some l[z] := List.getElem?_eq_getElem hzl
        clear hbd
        generalize l[z] = y at hgt hyb hyl
        have HS : Hid (slotOf fr N x = some z) := by show _ = _; rw [HZ.out, if_pos ⟨q3, q2z⟩]
        have HY := hide hyl
        clear hyl
        go_wp2
        go_roundw
        case rel => exact ⟨k + 1, bump l z, _, _, hlt, by go_num, by rw [tally_yes HX.out HS.out, ← HL.out], by rw [plus_alloc, ints_set]; unfold bump; rw [HY.out]; rfl⟩
        case measure => simp [intOf]; omega
      · have q2z : ¬ (z : Int) < (N : Int) := by omega
        have HS : Hid (slotOf fr N x = none) := by show _ = _; rw [HZ.out, if_neg (fun h => q2z h.2)]
        clear hbd
        go_wp2
        go_roundw
        case rel => exact ⟨k + 1, l, _, _, hlt, by go_num, by rw [tally_no HX.out HS.out, ← HL.out], by rw [plus_alloc]⟩
        case measure => simp [intOf]; omega
      · have HS : Hid (slotOf fr N x = none) := by show _ = _; rw [HZ.out, if_neg (fun h => q2 h.1)]
        clear hbd
        go_wp2
        go_roundw
        case rel => exact ⟨k + 1, l, _, _, hlt, by go_num, by rw [tally_no HX.out HS.out, ← HL.out], by rw [plus_alloc]⟩
        case measure => simp [intOf]; omega
    · have hkl : k = xs.length := by omega
      subst hkl
      have HL := hide hL
      have HLL := hide hll
      clear hL hll
      go_wp2
      go_returns
      rw [← HL.out]
      refine intsOut_ok rfl HLL.out (Nat.le_refl _) (IntsAt.at_ (intsAt_new (Blk.new _ _ _).plus) ?_) (by repeat (first | exact Below.refl _ _ | refine bl_plus ?_ | refine bl_alloc ?_ _ | refine bl_drew ?_))
      symm; simp only [plus_size]

set_option maxHeartbeats 1600000 in
set_option maxRecDepth 100000 in
theorem loadsOf_bad (A : Option Addr) (c : Nat) (xs : List St) (fr days : Int) (w : World) (hA : StsAt w A xs) (h : statesErr xs ≠ 0) :
    Calls Try.prog 30 #[.slice A xs.length c, .int .i64 fr, .int .i64 days] w (IntsOut (loads xs fr days) w) := by
  have hck := fun w h => statesFault_any A c xs w h
  have hR : loads xs fr days = ([], statesErr xs) := by unfold loads; rw [show onErr xs fr = statesErr xs by unfold onErr; rw [if_neg h], if_neg h]
  rw [hR]
  generalize statesErr xs = r at hck h ⊢
  have hr : (r == 0) = false := by simp [h]
  have H1 := hide hck
  have HA := hide hA
  clear hck h hA hR
  go_enter Try.func30, Try.ntmps30
  go_wp2_with (go_at_call 49; refine (H1.out _ HA.out).mono ?_; rintro e w' ⟨rfl, hb⟩; obtain ⟨os1, n1, rfl⟩ := below_plus hb; clear hb)
  go_returns
  exact intsOut_err (by repeat (first | exact Below.refl _ _ | refine bl_plus ?_ | refine bl_alloc ?_ _ | refine bl_drew ?_))

set_option maxHeartbeats 1600000 in
set_option maxRecDepth 100000 in
theorem loadsOf_out (A : Option Addr) (c : Nat) (xs : List St) (fr days : Int) (w : World) (hA : StsAt w A xs) (h : statesErr xs = 0) (hd : (fr < 0 ∨ 100000 < fr) ∨ ((0 ≤ fr ∧ fr ≤ 100000) ∧ (days < 0 ∨ (0 ≤ days ∧ 1500 < days)))) :
    Calls Try.prog 30 #[.slice A xs.length c, .int .i64 fr, .int .i64 days] w (IntsOut (loads xs fr days) w) := by
  have hck := fun w h => statesFault_any A c xs w h
  have hR : loads xs fr days = ([], 2) := by
    unfold loads
    rcases hd with hd | ⟨hd, h2⟩
    · rw [show onErr xs fr = 2 by unfold onErr; rw [if_pos h, if_pos hd], if_neg (by decide)]
    · rw [if_pos (onErr_ok h hd), if_pos (by omega)]
  rw [hR]
  rw [h] at hck
  have H1 := hide hck
  have HA := hide hA
  clear hck h hA hR
  rcases hd with hd | ⟨hd, h2 | ⟨h2, h3⟩⟩
  · have hday := fun w => isDay_no fr w hd
    have HD := hide hday
    clear hday
    go_enter Try.func30, Try.ntmps30
    go_wp2_with (first | (go_at_call 49; refine (H1.out _ HA.out).mono ?_; rintro e w' ⟨rfl, hb⟩; obtain ⟨os1, n1, rfl⟩ := below_plus hb; clear hb) | (go_at_call 59; refine (HD.out _).mono ?_; rintro e w' ⟨rfl, rfl⟩))
    go_returns
    exact intsOut_err (by repeat (first | exact Below.refl _ _ | refine bl_plus ?_ | refine bl_alloc ?_ _ | refine bl_drew ?_))
  all_goals
    have hday := fun w => isDay_yes fr w hd.1 hd.2
    have HD := hide hday
    clear hday
    go_enter Try.func30, Try.ntmps30
    go_wp2_with (first | (go_at_call 49; refine (H1.out _ HA.out).mono ?_; rintro e w' ⟨rfl, hb⟩; obtain ⟨os1, n1, rfl⟩ := below_plus hb; clear hb) | (go_at_call 59; refine (HD.out _).mono ?_; rintro e w' ⟨rfl, rfl⟩))
    go_returns
    exact intsOut_err (by repeat (first | exact Below.refl _ _ | refine bl_plus ?_ | refine bl_alloc ?_ _ | refine bl_drew ?_))

theorem loadsOf_any (A : Option Addr) (c : Nat) (xs : List St) (fr days : Int) (w : World) (hA : StsAt w A xs) :
    Calls Try.prog 30 #[.slice A xs.length c, .int .i64 fr, .int .i64 days] w (IntsOut (loads xs fr days) w) := by
  by_cases h : statesErr xs = 0
  · by_cases hd : (fr < 0 ∨ 100000 < fr) ∨ ((0 ≤ fr ∧ fr ≤ 100000) ∧ (days < 0 ∨ (0 ≤ days ∧ 1500 < days)))
    · exact loadsOf_out A c xs fr days w hA h hd
    · obtain ⟨N, rfl⟩ := Int.eq_ofNat_of_zero_le (a := days) (by omega)
      exact loadsOf_ok A c xs fr N w hA h (by omega) (by omega)
  · exact loadsOf_bad A c xs fr days w hA h

end Go.Proofs.Ytokghdcfbbogdaa
