/-
  WALKS: a value's numbers and its text.
-/
import Derived.Test.YtidpfjdlchffcaaDoorPvc
import Derived.Test.YtidpfjdlchffcaaDoorDayA
set_option linter.all false
namespace Go.Proofs.YtidpfjdlchffcaaDoor
open Go.RowKit Go.Lib

theorem V.num_cases (v : V) :
    (v.k = 1 ∧ (((v.i < 0 ∨ 1 < v.i) ∧ v.numErr = 2) ∨ ((0 ≤ v.i ∧ v.i ≤ 1) ∧ v.numErr = 0))) ∨
    (v.k = 2 ∧ (((v.i < -1000000000 ∨ 1000000000 < v.i) ∧ v.numErr = 2) ∨ ((-1000000000 ≤ v.i ∧ v.i ≤ 1000000000) ∧ v.numErr = 0))) ∨
    (v.k = 4 ∧ (((v.i < 0 ∨ 100000 < v.i) ∧ v.numErr = 2) ∨ ((0 ≤ v.i ∧ v.i ≤ 100000) ∧ v.numErr = 0))) ∨
    (v.k = 5 ∧ (((v.i < 0 ∨ 100000 < v.i) ∧ v.numErr = 2) ∨ ((0 ≤ v.i ∧ v.i ≤ 100000) ∧ (((v.t < 0 ∨ 100000 < v.t) ∧ v.numErr = 2) ∨ ((0 ≤ v.t ∧ v.t ≤ 100000) ∧ ((v.t < v.i ∧ v.numErr = 5) ∨ (v.i ≤ v.t ∧ v.numErr = 0))))))) ∨
    ((v.k ≠ 1 ∧ v.k ≠ 2 ∧ v.k ≠ 4 ∧ v.k ≠ 5) ∧ v.numErr = 0) := by
  unfold V.numErr
  have c : ∀ n lo hi : Int, (n < lo ∨ hi < n) ∨ (lo ≤ n ∧ n ≤ hi) := fun n lo hi => by omega
  by_cases h1 : v.k = 1
  · refine .inl ⟨h1, ?_⟩
    rw [if_pos h1]
    rcases c v.i 0 1 with h | h
    · exact .inl ⟨h, if_pos h⟩
    · exact .inr ⟨h, if_neg (by omega)⟩
  by_cases h2 : v.k = 2
  · refine .inr (.inl ⟨h2, ?_⟩)
    rw [if_neg h1, if_pos h2]
    rcases c v.i (-1000000000) 1000000000 with h | h
    · exact .inl ⟨h, if_pos h⟩
    · exact .inr ⟨h, if_neg (by omega)⟩
  by_cases h4 : v.k = 4
  · refine .inr (.inr (.inl ⟨h4, ?_⟩))
    rw [if_neg h1, if_neg h2, if_pos h4]
    rcases c v.i 0 100000 with h | h
    · exact .inl ⟨h, if_pos h⟩
    · exact .inr ⟨h, if_neg (by omega)⟩
  by_cases h5 : v.k = 5
  · refine .inr (.inr (.inr (.inl ⟨h5, ?_⟩)))
    rw [if_neg h1, if_neg h2, if_neg h4, if_pos h5]
    rcases c v.i 0 100000 with h | h
    · exact .inl ⟨h, if_pos (.inl h)⟩
    · refine .inr ⟨h, ?_⟩
      rcases c v.t 0 100000 with g | g
      · exact .inl ⟨g, if_pos (.inr g)⟩
      · refine .inr ⟨g, ?_⟩
        rw [if_neg (by omega)]
        by_cases e : v.t < v.i
        · exact .inl ⟨e, if_pos e⟩
        · exact .inr ⟨by omega, if_neg e⟩
  · exact .inr (.inr (.inr (.inr ⟨⟨h1, h2, h4, h5⟩, by rw [if_neg h1, if_neg h2, if_neg h4, if_neg h5]⟩)))

set_option maxHeartbeats 3200000 in
set_option maxRecDepth 100000 in
theorem checkNumbers_any (v : V) (A : Option Addr) (c : Nat) (w : World) :
    Calls Tryd.prog 58 #[v.arg A c] w fun e w' => e = .returned (.int .i64 v.numErr) ∧ Below w.heap.size w w' := by
  have hc := v.num_cases
  generalize v.numErr = E at *
  obtain ⟨k, i, t, s, l⟩ := v
  simp only [V.arg, V.k, V.i, V.t, V.s, V.l] at *
  go_enter Tryd.func58, Tryd.ntmps58
  rcases hc with ⟨rfl, ⟨h, rfl⟩ | ⟨⟨h, h'⟩, rfl⟩⟩ | ⟨rfl, ⟨h, rfl⟩ | ⟨⟨h, h'⟩, rfl⟩⟩ | ⟨rfl, ⟨h, rfl⟩ | ⟨⟨h, h'⟩, rfl⟩⟩ | ⟨rfl, ⟨h, rfl⟩ | ⟨⟨h, h'⟩, ⟨g, rfl⟩ | ⟨⟨g, g'⟩, ⟨e, rfl⟩ | ⟨e, rfl⟩⟩⟩⟩ | ⟨⟨n1, n2, n4, n5⟩, rfl⟩
  all_goals
    (try have m1 : (k == 1) = false := beq_eq_false_iff_ne.2 n1)
    (try have m2 : (k == 2) = false := beq_eq_false_iff_ne.2 n2)
    (try have m4 : (k == 4) = false := beq_eq_false_iff_ne.2 n4)
    (try have m5 : (k == 5) = false := beq_eq_false_iff_ne.2 n5)
    go_wp2_with (go_at_call 56; first
          | (with_reducible refine Calls.mono (outsideP_yes _ _ _ _ (by omega)) ?_; rintro e w' ⟨rfl, rfl⟩)
          | (with_reducible refine Calls.mono (outsideP_no _ _ _ _ (by omega) (by omega)) ?_; rintro e w' ⟨rfl, rfl⟩))
    go_ret
    exact ⟨rfl, (by repeat (first | exact Below.refl _ _ | refine bl_plus ?_ | refine bl_alloc ?_ _ | refine bl_drew ?_))⟩

theorem V.text_cases (v : V) : (2000 < v.s.size ∧ v.textErr = 4) ∨ (v.s.size ≤ 2000 ∧ v.k = 6 ∧ 100 < v.s.size ∧ v.textErr = 4) ∨
    ((v.s.size ≤ 2000 ∧ v.k ≠ 6) ∧ ((ctl v.s = true ∧ v.textErr = 9) ∨ (ctl v.s = false ∧ v.textErr = 0))) ∨
    ((v.k = 6 ∧ v.s.size ≤ 100) ∧ ((ctl v.s = true ∧ v.textErr = 9) ∨ (ctl v.s = false ∧ (
      (v.s.size = 0 ∧ v.textErr = 1) ∨ (∃ (m : Nat) (x y : UInt8), v.s.size = m + 1 ∧ v.s.data.toList[0]? = some x ∧ v.s.data.toList[m]? = some y ∧ (
        (x.toNat = 32 ∧ v.textErr = 1) ∨ (x.toNat ≠ 32 ∧ y.toNat = 32 ∧ v.textErr = 1) ∨ (x.toNat ≠ 32 ∧ y.toNat ≠ 32 ∧ sqAny v.s = true ∧ v.textErr = 1) ∨ (x.toNat ≠ 32 ∧ y.toNat ≠ 32 ∧ sqAny v.s = false ∧ v.textErr = 0))))))) := by
  unfold V.textErr
  have n32 : ∀ x : UInt8, x.toNat = 32 ↔ x = 32 := fun x => ⟨fun h => UInt8.toNat_inj.1 h, fun h => by rw [h]; rfl⟩
  by_cases h1 : 2000 < v.s.size
  · exact .inl ⟨h1, if_pos (.inl h1)⟩
  by_cases h6 : v.k = 6
  · by_cases h2 : 100 < v.s.size
    · exact .inr (.inl ⟨by omega, h6, h2, if_pos (.inr ⟨h6, h2⟩)⟩)
    · refine .inr (.inr (.inr ⟨⟨h6, by omega⟩, ?_⟩))
      rw [if_neg (by omega)]
      cases hc : ctl v.s with
      | true => exact .inl ⟨rfl, if_pos rfl⟩
      | false =>
        refine .inr ⟨rfl, ?_⟩
        rw [if_neg Bool.false_ne_true]
        rcases Nat.eq_zero_or_pos v.s.size with h0 | h0
        · exact .inl ⟨h0, if_pos ⟨h6, .inl h0⟩⟩
        · have hlen : v.s.data.toList.length = v.s.size := by rw [Array.length_toList]; rfl
          have hx : v.s.data.toList[0]? = some (v.s.data.toList[0]'(by omega)) := List.getElem?_eq_getElem (by omega)
          have hy : v.s.data.toList[v.s.size - 1]? = some (v.s.data.toList[v.s.size - 1]'(by omega)) := List.getElem?_eq_getElem (by omega)
          refine .inr ⟨v.s.size - 1, _, _, by omega, hx, hy, ?_⟩
          have hbe : blankEnd v.s = (decide ((v.s.data.toList[0]'(by omega)).toNat = 32) || decide ((v.s.data.toList[v.s.size - 1]'(by omega)).toNat = 32)) := by
            unfold blankEnd
            rw [hx, hy]
            simp only [Option.some.injEq, n32]
          rw [hbe]
          generalize v.s.data.toList[0]'(by omega) = x
          generalize v.s.data.toList[v.s.size - 1]'(by omega) = y
          by_cases e1 : x.toNat = 32
          · exact .inl ⟨e1, if_pos ⟨h6, .inr (.inl (by simp [e1]))⟩⟩
          · by_cases e2 : y.toNat = 32
            · exact .inr (.inl ⟨e1, e2, if_pos ⟨h6, .inr (.inl (by simp [e2]))⟩⟩)
            · cases hq : sqAny v.s with
              | true => exact .inr (.inr (.inl ⟨e1, e2, rfl, if_pos ⟨h6, .inr (.inr rfl)⟩⟩))
              | false => exact .inr (.inr (.inr ⟨e1, e2, rfl, if_neg (by rintro ⟨_, h | h | h⟩; omega; (simp [e1, e2] at h); cases h)⟩))
  · refine .inr (.inr (.inl ⟨⟨by omega, h6⟩, ?_⟩))
    rw [if_neg (by rintro (h | h); exact h1 h; exact h6 h.1)]
    cases hc : ctl v.s with
    | true => exact .inl ⟨rfl, if_pos rfl⟩
    | false => exact .inr ⟨rfl, by rw [if_neg Bool.false_ne_true, if_neg (fun h => h6 h.1)]⟩

end Go.Proofs.YtidpfjdlchffcaaDoor
