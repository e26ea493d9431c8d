/-
  WALKS: Counts and the reference's.
-/
import Derived.Test.YtokghdcfbbogdaaDueD
namespace Go.Proofs.Ytokghdcfbbogdaa
open Go.RowKit

def isNew (x : St) : Bool := decide (x.du < 0)
def isLearn (x : St) : Bool := decide (¬ x.du < 0 ∧ x.st = 0)
def isYoung (x : St) : Bool := decide (¬ x.du < 0 ∧ ¬ x.st = 0 ∧ x.st ≤ 20)
def isOld (x : St) : Bool := decide (¬ x.du < 0 ∧ ¬ x.st = 0 ∧ ¬ x.st ≤ 20)
/-- How many of the first k. -/
def np (p : St → Bool) (xs : List St) (k : Nat) : Int := ((pick p xs k).length : Int)
theorem np_yes {p : St → Bool} {xs : List St} {k : Nat} {x : St} (h : xs[k]? = some x) (hp : p x = true) : np p xs (k + 1) = np p xs k + 1 := by unfold np; rw [pick_yes h hp]; simp
theorem np_no {p : St → Bool} {xs : List St} {k : Nat} {x : St} (h : xs[k]? = some x) (hp : p x = false) : np p xs (k + 1) = np p xs k := by unfold np; rw [pick_no h hp]

structure Cnt where
  a : Int
  b : Int
  c : Int
  d : Int
  e : Int
def countVal (x : Cnt) : Value := .agg #[.int .i64 x.a, .int .i64 x.b, .int .i64 x.c, .int .i64 x.d, .int .i64 x.e]
theorem onErr_ok {xs : List St} {d : Int} (h : statesErr xs = 0) (hd : 0 ≤ d ∧ d ≤ 100000) : onErr xs d = 0 := by unfold onErr; rw [if_pos h, if_neg (by omega)]
def counts (xs : List St) (d : Int) : Cnt × Int :=
  if onErr xs d = 0 then (⟨np isNew xs xs.length, np isLearn xs xs.length, np isYoung xs xs.length, np isOld xs xs.length, np (asked d) xs xs.length⟩, 0) else (⟨0, 0, 0, 0, 0⟩, onErr xs d)

set_option maxHeartbeats 3200000 in
set_option maxRecDepth 100000 in
theorem counts_ok (A : Option Addr) (c : Nat) (xs : List St) (d : Int) (w : World) (hA : StsAt w A xs) (h : statesErr xs = 0) (hd : 0 ≤ d ∧ d ≤ 100000) :
    Calls Try.prog 33 #[.slice A xs.length c, .int .i64 d] w fun e w' => e = .returned (.tuple #[countVal (counts xs d).1, .int .i64 (counts xs d).2]) ∧ Below w.heap.size w w' := by
  have hR : counts xs d = (⟨np isNew xs xs.length, np isLearn xs xs.length, np isYoung xs xs.length, np isOld xs xs.length, np (asked d) xs xs.length⟩, 0) := by unfold counts; rw [if_pos (onErr_ok h hd)]
  rw [hR]
  have hl := len_of_statesErr h
  have hck := fun w h => checkOn_any A c xs d w h
  rw [show onErr xs d = 0 by unfold onErr; rw [if_pos h, if_neg (by omega)]] at hck
  have H1 := hide hck
  have HA := hide hA
  clear hck hA hR h hd
  go_enter Try.func33, Try.ntmps33
  go_wp2_with (go_at_call 65; refine (H1.out _ (HA.out.alloc _)).mono ?_; rintro e w' ⟨rfl, hb⟩; obtain ⟨os1, n1, rfl⟩ := below_plus hb; clear hb)
  go_loopw [19] (fun i wr => ∃ (k : Nat) (a0 a1 a2 a3 a4 : Int) (os : Array Obj) (n : Nat), k ≤ xs.length ∧ i = .int .i64 k ∧ a0 = np isNew xs k ∧ a1 = np isLearn xs k ∧ a2 = np isYoung xs k ∧ a3 = np isOld xs k ∧ a4 = np (asked d) xs k ∧ wr = plus ((plus (w.alloc (.cells #[.int .i64 0, .int .i64 0, .int .i64 0, .int .i64 0, .int .i64 0] 49)) os1 n1).alloc (.cells #[.int .i64 a0, .int .i64 a1, .int .i64 a2, .int .i64 a3, .int .i64 a4] 49)) os n)
    (fun i _ => xs.length - (intOf i).toNat)
  case atStart => exact ⟨0, 0, 0, 0, 0, 0, #[], _, Nat.zero_le _, rfl, rfl, rfl, rfl, rfl, rfl, plus_nil.symm⟩
  case round =>
    obtain ⟨k, a0, a1, a2, a3, a4, os, n, hk, rfl, e0, e1, e2, e3, e4, rfl⟩ := hrel
    have b0 : 0 ≤ a0 ∧ a0 ≤ 5000 := by have := pick_le isNew xs k; rw [e0]; unfold np; omega
    have E0 := hide e0
    clear e0
    have b1 : 0 ≤ a1 ∧ a1 ≤ 5000 := by have := pick_le isLearn xs k; rw [e1]; unfold np; omega
    have E1 := hide e1
    clear e1
    have b2 : 0 ≤ a2 ∧ a2 ≤ 5000 := by have := pick_le isYoung xs k; rw [e2]; unfold np; omega
    have E2 := hide e2
    clear e2
    have b3 : 0 ≤ a3 ∧ a3 ≤ 5000 := by have := pick_le isOld xs k; rw [e3]; unfold np; omega
    have E3 := hide e3
    clear e3
    have b4 : 0 ≤ a4 ∧ a4 ≤ 5000 := by have := pick_le (asked d) xs k; rw [e4]; unfold np; omega
    have E4 := hide e4
    clear e4
    by_cases hlt : k < xs.length
    · obtain ⟨b, off, rfl, hb, hcell⟩ := HA.out (by omega)
      have hxk : xs[k]? = some xs[k] := List.getElem?_eq_getElem hlt
      have hc0 := hcell k hlt
      clear hcell
      generalize xs[k] = x at hc0 hxk
      have hask := fun w => askedFor_any x d w
      simp only [St.val] at hask
      have hcases : ((x.du < 0) ∧ isNew x = true ∧ isLearn x = false ∧ isYoung x = false ∧ isOld x = false) ∨ ((¬ x.du < 0 ∧ (x.st == 0) = true) ∧ isNew x = false ∧ isLearn x = true ∧ isYoung x = false ∧ isOld x = false) ∨
          ((¬ x.du < 0 ∧ (x.st == 0) = false ∧ x.st ≤ 20) ∧ isNew x = false ∧ isLearn x = false ∧ isYoung x = true ∧ isOld x = false) ∨ ((¬ x.du < 0 ∧ (x.st == 0) = false ∧ ¬ x.st ≤ 20) ∧ isNew x = false ∧ isLearn x = false ∧ isYoung x = false ∧ isOld x = true) := by
        unfold isNew isLearn isYoung isOld
        simp only [decide_eq_true_eq, decide_eq_false_iff_not, beq_iff_eq, beq_eq_false_iff_ne, ne_eq]
        omega
      obtain ⟨c0, c1, c2, c3, c4, c5, c6, c7, c8⟩ := hc0
      have HX := hide hxk
      clear hxk
      rcases hcases with ⟨g1, p0, p1, p2, p3⟩ | ⟨⟨g1, g2⟩, p0, p1, p2, p3⟩ | ⟨⟨g1, g2, g3⟩, p0, p1, p2, p3⟩ | ⟨⟨g1, g2, g3⟩, p0, p1, p2, p3⟩
      · have P0 := hide p0
        have P1 := hide p1
        have P2 := hide p2
        have P3 := hide p3
        clear p0 p1 p2 p3
        cases hq : asked d x
        case true =>
          rw [hq] at hask
          have HK := hide hask
          have P4 := hide hq
          clear hq hask
          go_wp2_with (go_at_call 73; refine (HK.out _).mono ?_; rintro e w' ⟨rfl, hb⟩; obtain ⟨os3, n3, rfl⟩ := below_plus hb; clear hb)
          go_roundw
          case rel => exact ⟨k + 1, a0 + 1, a1, a2, a3, a4 + 1, _, _, hlt, by go_num, by rw [np_yes HX.out P0.out, ← E0.out], by rw [np_no HX.out P1.out, ← E1.out], by rw [np_no HX.out P2.out, ← E2.out], by rw [np_no HX.out P3.out, ← E3.out], by rw [np_yes HX.out P4.out, ← E4.out], by rw [plus_alloc, plus_plus]⟩
          case measure => simp [intOf]; omega
        case false =>
          rw [hq] at hask
          have HK := hide hask
          have P4 := hide hq
          clear hq hask
          go_wp2_with (go_at_call 73; refine (HK.out _).mono ?_; rintro e w' ⟨rfl, hb⟩; obtain ⟨os3, n3, rfl⟩ := below_plus hb; clear hb)
          go_roundw
          case rel => exact ⟨k + 1, a0 + 1, a1, a2, a3, a4, _, _, hlt, by go_num, by rw [np_yes HX.out P0.out, ← E0.out], by rw [np_no HX.out P1.out, ← E1.out], by rw [np_no HX.out P2.out, ← E2.out], by rw [np_no HX.out P3.out, ← E3.out], by rw [np_no HX.out P4.out, ← E4.out], by rw [plus_alloc, plus_plus]⟩
          case measure => simp [intOf]; omega
      · have P0 := hide p0
        have P1 := hide p1
        have P2 := hide p2
        have P3 := hide p3
        clear p0 p1 p2 p3
        cases hq : asked d x
        case true =>
          rw [hq] at hask
          have HK := hide hask
          have P4 := hide hq
          clear hq hask
          go_wp2_with (go_at_call 73; refine (HK.out _).mono ?_; rintro e w' ⟨rfl, hb⟩; obtain ⟨os3, n3, rfl⟩ := below_plus hb; clear hb)
          go_roundw
          case rel => exact ⟨k + 1, a0, a1 + 1, a2, a3, a4 + 1, _, _, hlt, by go_num, by rw [np_no HX.out P0.out, ← E0.out], by rw [np_yes HX.out P1.out, ← E1.out], by rw [np_no HX.out P2.out, ← E2.out], by rw [np_no HX.out P3.out, ← E3.out], by rw [np_yes HX.out P4.out, ← E4.out], by rw [plus_alloc, plus_plus]⟩
          case measure => simp [intOf]; omega
        case false =>
          rw [hq] at hask
          have HK := hide hask
          have P4 := hide hq
          clear hq hask
          go_wp2_with (go_at_call 73; refine (HK.out _).mono ?_; rintro e w' ⟨rfl, hb⟩; obtain ⟨os3, n3, rfl⟩ := below_plus hb; clear hb)
          go_roundw
          case rel => exact ⟨k + 1, a0, a1 + 1, a2, a3, a4, _, _, hlt, by go_num, by rw [np_no HX.out P0.out, ← E0.out], by rw [np_yes HX.out P1.out, ← E1.out], by rw [np_no HX.out P2.out, ← E2.out], by rw [np_no HX.out P3.out, ← E3.out], by rw [np_no HX.out P4.out, ← E4.out], by rw [plus_alloc, plus_plus]⟩
          case measure => simp [intOf]; omega
      · have P0 := hide p0
        have P1 := hide p1
        have P2 := hide p2
        have P3 := hide p3
        clear p0 p1 p2 p3
        cases hq : asked d x
        case true =>
          rw [hq] at hask
          have HK := hide hask
          have P4 := hide hq
          clear hq hask
          go_wp2_with (go_at_call 73; refine (HK.out _).mono ?_; rintro e w' ⟨rfl, hb⟩; obtain ⟨os3, n3, rfl⟩ := below_plus hb; clear hb)
          go_roundw
          case rel => exact ⟨k + 1, a0, a1, a2 + 1, a3, a4 + 1, _, _, hlt, by go_num, by rw [np_no HX.out P0.out, ← E0.out], by rw [np_no HX.out P1.out, ← E1.out], by rw [np_yes HX.out P2.out, ← E2.out], by rw [np_no HX.out P3.out, ← E3.out], by rw [np_yes HX.out P4.out, ← E4.out], by rw [plus_alloc, plus_plus]⟩
          case measure => simp [intOf]; omega
        case false =>
          rw [hq] at hask
          have HK := hide hask
          have P4 := hide hq
          clear hq hask
          go_wp2_with (go_at_call 73; refine (HK.out _).mono ?_; rintro e w' ⟨rfl, hb⟩; obtain ⟨os3, n3, rfl⟩ := below_plus hb; clear hb)
          go_roundw
          case rel => exact ⟨k + 1, a0, a1, a2 + 1, a3, a4, _, _, hlt, by go_num, by rw [np_no HX.out P0.out, ← E0.out], by rw [np_no HX.out P1.out, ← E1.out], by rw [np_yes HX.out P2.out, ← E2.out], by rw [np_no HX.out P3.out, ← E3.out], by rw [np_no HX.out P4.out, ← E4.out], by rw [plus_alloc, plus_plus]⟩
          case measure => simp [intOf]; omega
      · have P0 := hide p0
        have P1 := hide p1
        have P2 := hide p2
        have P3 := hide p3
        clear p0 p1 p2 p3
        cases hq : asked d x
        case true =>
          rw [hq] at hask
          have HK := hide hask
          have P4 := hide hq
          clear hq hask
          go_wp2_with (go_at_call 73; refine (HK.out _).mono ?_; rintro e w' ⟨rfl, hb⟩; obtain ⟨os3, n3, rfl⟩ := below_plus hb; clear hb)
          go_roundw
          case rel => exact ⟨k + 1, a0, a1, a2, a3 + 1, a4 + 1, _, _, hlt, by go_num, by rw [np_no HX.out P0.out, ← E0.out], by rw [np_no HX.out P1.out, ← E1.out], by rw [np_no HX.out P2.out, ← E2.out], by rw [np_yes HX.out P3.out, ← E3.out], by rw [np_yes HX.out P4.out, ← E4.out], by rw [plus_alloc, plus_plus]⟩
          case measure => simp [intOf]; omega
        case false =>
          rw [hq] at hask
          have HK := hide hask
          have P4 := hide hq
          clear hq hask
          go_wp2_with (go_at_call 73; refine (HK.out _).mono ?_; rintro e w' ⟨rfl, hb⟩; obtain ⟨os3, n3, rfl⟩ := below_plus hb; clear hb)
          go_roundw
          case rel => exact ⟨k + 1, a0, a1, a2, a3 + 1, a4, _, _, hlt, by go_num, by rw [np_no HX.out P0.out, ← E0.out], by rw [np_no HX.out P1.out, ← E1.out], by rw [np_no HX.out P2.out, ← E2.out], by rw [np_yes HX.out P3.out, ← E3.out], by rw [np_no HX.out P4.out, ← E4.out], by rw [plus_alloc, plus_plus]⟩
          case measure => simp [intOf]; omega
    · have hkl : k = xs.length := by omega
      subst hkl
      go_wp2
      go_returns
      exact ⟨by rw [countVal, ← E0.out, ← E1.out, ← E2.out, ← E3.out, ← E4.out], (by repeat (first | exact Below.refl _ _ | refine bl_plus ?_ | refine bl_alloc ?_ _ | refine bl_drew ?_))⟩

set_option maxHeartbeats 1600000 in
set_option maxRecDepth 100000 in
theorem counts_bad (A : Option Addr) (c : Nat) (xs : List St) (d : Int) (w : World) (hA : StsAt w A xs) (h : onErr xs d ≠ 0) :
    Calls Try.prog 33 #[.slice A xs.length c, .int .i64 d] w fun e w' => e = .returned (.tuple #[countVal (counts xs d).1, .int .i64 (counts xs d).2]) ∧ Below w.heap.size w w' := by
  have hck := fun w h => checkOn_any A c xs d w h
  have hR : counts xs d = (⟨0, 0, 0, 0, 0⟩, onErr xs d) := by unfold counts; rw [if_neg h]
  rw [hR]
  generalize onErr xs d = r at hck h ⊢
  have hr : (r == 0) = false := by simp [h]
  have H1 := hide hck
  have HA := hide hA
  clear hck h hA hR
  go_enter Try.func33, Try.ntmps33
  go_wp2_with (go_at_call 65; refine (H1.out _ (HA.out.alloc _)).mono ?_; rintro e w' ⟨rfl, hb⟩; obtain ⟨os1, n1, rfl⟩ := below_plus hb; clear hb)
  go_returns
  exact ⟨rfl, (by repeat (first | exact Below.refl _ _ | refine bl_plus ?_ | refine bl_alloc ?_ _ | refine bl_drew ?_))⟩

theorem counts_any (A : Option Addr) (c : Nat) (xs : List St) (d : Int) (w : World) (hA : StsAt w A xs) :
    Calls Try.prog 33 #[.slice A xs.length c, .int .i64 d] w fun e w' => e = .returned (.tuple #[countVal (counts xs d).1, .int .i64 (counts xs d).2]) ∧ Below w.heap.size w w' := by
  by_cases h : onErr xs d = 0
  · have h2 : statesErr xs = 0 ∧ 0 ≤ d ∧ d ≤ 100000 := by
      unfold onErr at h
      split at h
      · rename_i h0
        split at h
        · omega
        · exact ⟨h0, by omega, by omega⟩
      · rename_i h0; exact absurd h h0
    exact counts_ok A c xs d w hA h2.1 h2.2
  · exact counts_bad A c xs d w hA h

set_option maxHeartbeats 3200000 in
set_option maxRecDepth 100000 in
theorem countsOf_ok (A : Option Addr) (c : Nat) (xs : List St) (d : Int) (w : World) (hA : StsAt w A xs) (h : statesErr xs = 0) (hd : 0 ≤ d ∧ d ≤ 100000) :
    Calls Try.prog 34 #[.slice A xs.length c, .int .i64 d] w fun e w' => e = .returned (.tuple #[countVal (counts xs d).1, .int .i64 (counts xs d).2]) ∧ Below w.heap.size w w' := by
  have hR : counts xs d = (⟨np isNew xs xs.length, np isLearn xs xs.length, np isYoung xs xs.length, np isOld xs xs.length, np (asked d) xs xs.length⟩, 0) := by unfold counts; rw [if_pos (onErr_ok h hd)]
  rw [hR]
  have hl := len_of_statesErr h
  have hck := fun w h => statesFault_any A c xs w h
  rw [h] at hck
  have hgood := fun k (hk : k < xs.length) => asked_of_err (err_of_statesErr h k hk)
  have hday := fun w => isDay_yes d w hd.1 hd.2
  have hdue := fun w hA => dueAt_any A c xs d w hA h
  have HD := hide hday
  have HDu := hide hdue
  have HG := hide hgood
  have hdl := dueList_len xs d
  have hdle := pick_le (asked d) xs xs.length
  clear hgood hday hdue
  have H1 := hide hck
  have HA := hide hA
  clear hck hA hR h hd
  go_enter Try.func34, Try.ntmps34
  go_wp2_with (first
    | (go_at_call 49; refine (H1.out _ (HA.out.alloc _)).mono ?_; rintro e w' ⟨rfl, hb⟩; obtain ⟨os1, n1, rfl⟩ := below_plus hb; clear hb)
    | (go_at_call 59; refine (HD.out _).mono ?_; rintro e w' ⟨rfl, rfl⟩)
    | (go_at_call 67; refine (HDu.out _ ((HA.out.alloc _).plus _ _)).mono ?_; rintro e w' ⟨v, rfl, ⟨Ad, cd, rfl, hhalf⟩, hb⟩; obtain ⟨os2, n2, rfl⟩ := below_plus hb; clear hb hhalf))
  go_loopw [27] (fun i wr => ∃ (k : Nat) (a0 a1 a2 a3 : Int) (os : Array Obj) (n : Nat), k ≤ xs.length ∧ i = .int .i64 k ∧ a0 = np isNew xs k ∧ a1 = np isLearn xs k ∧ a2 = np isYoung xs k ∧ a3 = np isOld xs k ∧ wr = plus ((plus (plus (w.alloc (.cells #[.int .i64 0, .int .i64 0, .int .i64 0, .int .i64 0, .int .i64 0] 49)) os1 n1) os2 n2).alloc (.cells #[.int .i64 a0, .int .i64 a1, .int .i64 a2, .int .i64 a3, .int .i64 ((pick (asked d) xs xs.length).length : Int)] 49)) os n)
    (fun i _ => xs.length - (intOf i).toNat)
  case atStart => exact ⟨0, 0, 0, 0, 0, #[], _, Nat.zero_le _, rfl, rfl, rfl, rfl, rfl, plus_nil.symm⟩
  case round =>
    obtain ⟨k, a0, a1, a2, a3, os, n, hk, rfl, e0, e1, e2, e3, rfl⟩ := hrel
    have b0 : 0 ≤ a0 ∧ a0 ≤ 5000 := by have := pick_le isNew xs k; rw [e0]; unfold np; omega
    have E0 := hide e0
    clear e0
    have b1 : 0 ≤ a1 ∧ a1 ≤ 5000 := by have := pick_le isLearn xs k; rw [e1]; unfold np; omega
    have E1 := hide e1
    clear e1
    have b2 : 0 ≤ a2 ∧ a2 ≤ 5000 := by have := pick_le isYoung xs k; rw [e2]; unfold np; omega
    have E2 := hide e2
    clear e2
    have b3 : 0 ≤ a3 ∧ a3 ≤ 5000 := by have := pick_le isOld xs k; rw [e3]; unfold np; omega
    have E3 := hide e3
    clear e3
    by_cases hlt : k < xs.length
    · obtain ⟨b, off, rfl, hb, hcell⟩ := HA.out (by omega)
      have hxk : xs[k]? = some xs[k] := List.getElem?_eq_getElem hlt
      have hc0 := hcell k hlt
      clear hcell
      have hgk := HG.out k hlt
      generalize xs[k] = x at hc0 hxk hgk
      have hcases : (((x.ti == 0) = true) ∧ isNew x = true ∧ isLearn x = false ∧ isYoung x = false ∧ isOld x = false) ∨ (((x.ti == 0) = false ∧ (x.st == 0) = true) ∧ isNew x = false ∧ isLearn x = true ∧ isYoung x = false ∧ isOld x = false) ∨
          (((x.ti == 0) = false ∧ (x.st == 0) = false ∧ x.st ≤ 20) ∧ isNew x = false ∧ isLearn x = false ∧ isYoung x = true ∧ isOld x = false) ∨ (((x.ti == 0) = false ∧ (x.st == 0) = false ∧ ¬ x.st ≤ 20) ∧ isNew x = false ∧ isLearn x = false ∧ isYoung x = false ∧ isOld x = true) := by
        have h0 := hgk.2
        unfold isNew isLearn isYoung isOld
        simp only [decide_eq_true_eq, decide_eq_false_iff_not, beq_iff_eq, beq_eq_false_iff_ne, ne_eq]
        omega
      clear hgk
      obtain ⟨c0, c1, c2, c3, c4, c5, c6, c7, c8⟩ := hc0
      have HX := hide hxk
      clear hxk
      rcases hcases with ⟨g1, p0, p1, p2, p3⟩ | ⟨⟨g1, g2⟩, p0, p1, p2, p3⟩ | ⟨⟨g1, g2, g3⟩, p0, p1, p2, p3⟩ | ⟨⟨g1, g2, g3⟩, p0, p1, p2, p3⟩
      · have P0 := hide p0
        have P1 := hide p1
        have P2 := hide p2
        have P3 := hide p3
        clear p0 p1 p2 p3
        go_wp2
        go_roundw
        case rel => exact ⟨k + 1, a0 + 1, a1, a2, a3, _, _, hlt, by go_num, by rw [np_yes HX.out P0.out, ← E0.out], by rw [np_no HX.out P1.out, ← E1.out], by rw [np_no HX.out P2.out, ← E2.out], by rw [np_no HX.out P3.out, ← E3.out], by rw [plus_alloc]⟩
        case measure => simp [intOf]; omega
      · have P0 := hide p0
        have P1 := hide p1
        have P2 := hide p2
        have P3 := hide p3
        clear p0 p1 p2 p3
        go_wp2
        go_roundw
        case rel => exact ⟨k + 1, a0, a1 + 1, a2, a3, _, _, hlt, by go_num, by rw [np_no HX.out P0.out, ← E0.out], by rw [np_yes HX.out P1.out, ← E1.out], by rw [np_no HX.out P2.out, ← E2.out], by rw [np_no HX.out P3.out, ← E3.out], by rw [plus_alloc]⟩
        case measure => simp [intOf]; omega
      · have P0 := hide p0
        have P1 := hide p1
        have P2 := hide p2
        have P3 := hide p3
        clear p0 p1 p2 p3
        go_wp2
        go_roundw
        case rel => exact ⟨k + 1, a0, a1, a2 + 1, a3, _, _, hlt, by go_num, by rw [np_no HX.out P0.out, ← E0.out], by rw [np_no HX.out P1.out, ← E1.out], by rw [np_yes HX.out P2.out, ← E2.out], by rw [np_no HX.out P3.out, ← E3.out], by rw [plus_alloc]⟩
        case measure => simp [intOf]; omega
      · have P0 := hide p0
        have P1 := hide p1
        have P2 := hide p2
        have P3 := hide p3
        clear p0 p1 p2 p3
        go_wp2
        go_roundw
        case rel => exact ⟨k + 1, a0, a1, a2, a3 + 1, _, _, hlt, by go_num, by rw [np_no HX.out P0.out, ← E0.out], by rw [np_no HX.out P1.out, ← E1.out], by rw [np_no HX.out P2.out, ← E2.out], by rw [np_yes HX.out P3.out, ← E3.out], by rw [plus_alloc]⟩
        case measure => simp [intOf]; omega
    · have hkl : k = xs.length := by omega
      subst hkl
      go_wp2
      go_returns
      exact ⟨by rw [countVal, ← E0.out, ← E1.out, ← E2.out, ← E3.out]; rfl, (by repeat (first | exact Below.refl _ _ | refine bl_plus ?_ | refine bl_alloc ?_ _ | refine bl_drew ?_))⟩

set_option maxHeartbeats 1600000 in
set_option maxRecDepth 100000 in
theorem countsOf_bad (A : Option Addr) (c : Nat) (xs : List St) (d : Int) (w : World) (hA : StsAt w A xs) (h : statesErr xs ≠ 0) :
    Calls Try.prog 34 #[.slice A xs.length c, .int .i64 d] w fun e w' => e = .returned (.tuple #[countVal (counts xs d).1, .int .i64 (counts xs d).2]) ∧ Below w.heap.size w w' := by
  have hck := fun w h => statesFault_any A c xs w h
  have hR : counts xs d = (⟨0, 0, 0, 0, 0⟩, statesErr xs) := by unfold counts; rw [show onErr xs d = statesErr xs by unfold onErr; rw [if_neg h], if_neg h]
  rw [hR]
  generalize statesErr xs = r at hck h ⊢
  have hr : (r == 0) = false := by simp [h]
  have H1 := hide hck
  have HA := hide hA
  clear hck h hA hR
  go_enter Try.func34, Try.ntmps34
  go_wp2_with (go_at_call 49; refine (H1.out _ (HA.out.alloc _)).mono ?_; rintro e w' ⟨rfl, hb⟩; obtain ⟨os1, n1, rfl⟩ := below_plus hb; clear hb)
  go_returns
  exact ⟨rfl, (by repeat (first | exact Below.refl _ _ | refine bl_plus ?_ | refine bl_alloc ?_ _ | refine bl_drew ?_))⟩

set_option maxHeartbeats 1600000 in
set_option maxRecDepth 100000 in
theorem countsOf_day (A : Option Addr) (c : Nat) (xs : List St) (d : Int) (w : World) (hA : StsAt w A xs) (h : statesErr xs = 0) (hd : d < 0 ∨ 100000 < d) :
    Calls Try.prog 34 #[.slice A xs.length c, .int .i64 d] w fun e w' => e = .returned (.tuple #[countVal (counts xs d).1, .int .i64 (counts xs d).2]) ∧ Below w.heap.size w w' := by
  have hck := fun w h => statesFault_any A c xs w h
  have hday := fun w => isDay_no d w hd
  have hR : counts xs d = (⟨0, 0, 0, 0, 0⟩, 2) := by unfold counts; rw [show onErr xs d = 2 by unfold onErr; rw [if_pos h, if_pos hd], if_neg (by decide)]
  rw [hR]
  rw [h] at hck
  have H1 := hide hck
  have HD := hide hday
  have HA := hide hA
  clear hck h hA hR hday hd
  go_enter Try.func34, Try.ntmps34
  go_wp2_with (first | (go_at_call 49; refine (H1.out _ (HA.out.alloc _)).mono ?_; rintro e w' ⟨rfl, hb⟩; obtain ⟨os1, n1, rfl⟩ := below_plus hb; clear hb) | (go_at_call 59; refine (HD.out _).mono ?_; rintro e w' ⟨rfl, rfl⟩))
  go_returns
  exact ⟨rfl, (by repeat (first | exact Below.refl _ _ | refine bl_plus ?_ | refine bl_alloc ?_ _ | refine bl_drew ?_))⟩

theorem countsOf_any (A : Option Addr) (c : Nat) (xs : List St) (d : Int) (w : World) (hA : StsAt w A xs) :
    Calls Try.prog 34 #[.slice A xs.length c, .int .i64 d] w fun e w' => e = .returned (.tuple #[countVal (counts xs d).1, .int .i64 (counts xs d).2]) ∧ Below w.heap.size w w' := by
  by_cases h : statesErr xs = 0
  · by_cases hd : d < 0 ∨ 100000 < d
    · exact countsOf_day A c xs d w hA h hd
    · exact countsOf_ok A c xs d w hA h (by omega)
  · exact countsOf_bad A c xs d w hA h

end Go.Proofs.Ytokghdcfbbogdaa
