/-
  WALK: a value's error, in the reference, where there are no items: kind 0.
-/
import Derived.Test.YtdncmjlakmkfiaaGreatDoorPvi
set_option linter.all false
namespace Go.Proofs.YtdncmjlakmkfiaaGreatDoor
open Go.RowKit Go.Lib

set_option maxHeartbeats 6400000 in
set_option maxRecDepth 100000 in
theorem valueFault_0 (i t : Int) (s : ByteArray) (l : List V) (A : Option Addr) (c : Nat) (w : World) (hm : l.length ≤ maxLen) (hsh : (V.mk 0 i t s l).selfErr ≠ 0 ∨ l.length = 0) :
    Calls Tryz.prog 18 #[(V.mk 0 i t s l).arg A c] w fun e w' => e = .returned (.int .i64 (V.mk 0 i t s l).selfErr) ∧ Below w.heap.size w w' := by
  have hemp := toList_empty s
  have HCT := hide (fun w => lowByte_any s w)
  have hF : (V.mk 0 i t s l).formOk = formB 0 i t s.size l.length := rfl
  have hE1 := fun h => V.self_form (v := V.mk 0 i t s l) ⟨show (0 : Int) ≤ 0 by decide, show (0 : Int) ≤ 7 by decide⟩ h
  have hE4 := fun e h1 h2 h3 => V.self_num (v := V.mk 0 i t s l) (e := e) ⟨show (0 : Int) ≤ 0 by decide, show (0 : Int) ≤ 7 by decide⟩ h1 h2 h3
  have hE2 := fun e h1 hN h2 h3 => V.self_text (v := V.mk 0 i t s l) (e := e) ⟨show (0 : Int) ≤ 0 by decide, show (0 : Int) ≤ 7 by decide⟩ h1 hN h2 h3
  have hE3 := fun h1 hN h2 h3 => V.self_ok (v := V.mk 0 i t s l) ⟨show (0 : Int) ≤ 0 by decide, show (0 : Int) ≤ 7 by decide⟩ h1 hN h2 h3
  have hE5 := fun h1 hN h2 h3 => V.self_len (v := V.mk 0 i t s l) ⟨show (0 : Int) ≤ 0 by decide, show (0 : Int) ≤ 7 by decide⟩ h1 hN h2 h3
  have hT := (V.mk 0 i t s l).text_cases
  have hN := (V.mk 0 i t s l).num_cases
  generalize (V.mk 0 i t s l).selfErr = E at *
  generalize (V.mk 0 i t s l).textErr = T at *
  generalize (V.mk 0 i t s l).numErr = N at *
  rw [hF] at hE1 hE2 hE3 hE4 hE5
  simp only [V.arg, V.k, V.i, V.t, V.s, V.l] at *
  unfold maxLen at hm
  generalize l.length = n at *
  clear hF
  by_cases hi : i = 0
  case neg =>
    have hi2 : (i == 0) = false := beq_eq_false_iff_ne.2 hi
    have hi3 : (i != 0) = true := bne_iff_ne.2 hi
    obtain rfl := hE1 (by simp [formB, hi])
    clear hE2 hE3 hE4 hE5 hT hN hsh
    clear hemp
    go_enter Tryz.func18, Tryz.ntmps18
    go_wp2
    all_goals go_ret
    all_goals exact ⟨rfl, (by repeat (first | exact Below.refl _ _ | refine bl_plus ?_ | refine bl_alloc ?_ _ | refine bl_drew ?_ | refine bl_drewN ?_ _))⟩
  subst hi
  by_cases ht : t = 0
  case neg =>
    have ht2 : (t == 0) = false := beq_eq_false_iff_ne.2 ht
    have ht3 : (t != 0) = true := bne_iff_ne.2 ht
    obtain rfl := hE1 (by simp [formB, ht])
    clear hE2 hE3 hE4 hE5 hT hN hsh
    clear hemp
    go_enter Tryz.func18, Tryz.ntmps18
    go_wp2
    all_goals go_ret
    all_goals exact ⟨rfl, (by repeat (first | exact Below.refl _ _ | refine bl_plus ?_ | refine bl_alloc ?_ _ | refine bl_drew ?_ | refine bl_drewN ?_ _))⟩
  subst ht
  rcases Nat.eq_zero_or_pos s.size with hs | hs
  case inr =>
    rw [decide_eq_false (by omega)] at hemp
    obtain rfl := hE1 (by unfold formB; rw [decide_eq_false (show ¬ s.size = 0 by omega)]; simp)
    clear hE2 hE3 hE4 hE5 hT hN hsh
    go_enter Tryz.func18, Tryz.ntmps18
    go_wp2
    all_goals go_ret
    all_goals exact ⟨rfl, (by repeat (first | exact Below.refl _ _ | refine bl_plus ?_ | refine bl_alloc ?_ _ | refine bl_drew ?_ | refine bl_drewN ?_ _))⟩
  rw [decide_eq_true hs] at hemp
  rcases Nat.eq_zero_or_pos n with hn | hn
  case inr =>
    have hn2 : (0 : Int) < (n : Int) := by omega
    obtain rfl := hE1 (by unfold formB; rw [decide_eq_false (show ¬ n = 0 by omega)]; simp)
    clear hE2 hE3 hE4 hE5 hT hN hsh
    go_enter Tryz.func18, Tryz.ntmps18
    go_wp2
    all_goals go_ret
    all_goals exact ⟨rfl, (by repeat (first | exact Below.refl _ _ | refine bl_plus ?_ | refine bl_alloc ?_ _ | refine bl_drew ?_ | refine bl_drewN ?_ _))⟩
  subst hn
  have hF1 : formB 0 0 0 s.size 0 = true := by simp [formB, hs]
  clear hE1
  obtain rfl : N = 0 := by rcases hN with ⟨h1, _⟩ | ⟨h1, _⟩ | ⟨h1, _⟩ | ⟨h1, _⟩ | ⟨_, h⟩ <;> first | exact h | cases h1
  clear hE4
  rcases hT with ⟨h1, hx⟩ | ⟨_, h1, _⟩ | ⟨⟨h1, _⟩, ⟨hc, rfl⟩ | ⟨hc, rfl⟩⟩ | ⟨⟨h1, _⟩, _⟩
  · omega
  · cases h1
  · obtain rfl := hE2 9 hF1 rfl rfl (by decide)
    have hs2 : ¬ (2000 : Int) < (s.size : Int) := by rw [hs]; decide
    rw [hc] at HCT
    clear hE3 hE5 hF1 hc hsh
    go_enter Tryz.func18, Tryz.ntmps18
    go_wp2_with (first | (go_at_call 66; refine (HCT.out _).mono ?_; rintro e w' ⟨rfl, hbl⟩; obtain ⟨os1, n1, rfl⟩ := below_plus hbl; clear hbl) | (go_at_call 65; first | (with_reducible refine Calls.mono (isDay_no _ _ (by omega)) ?_; rintro e w' ⟨rfl, rfl⟩) | (with_reducible refine Calls.mono (isDay_yes _ _ (by omega) (by omega)) ?_; rintro e w' ⟨rfl, rfl⟩)))
    all_goals go_ret
    all_goals exact ⟨rfl, (by repeat (first | exact Below.refl _ _ | refine bl_plus ?_ | refine bl_alloc ?_ _ | refine bl_drew ?_ | refine bl_drewN ?_ _))⟩
  · obtain rfl := hE3 hF1 rfl rfl rfl
    have hs2 : ¬ (2000 : Int) < (s.size : Int) := by rw [hs]; decide
    rw [hc] at HCT
    clear hE2 hE5 hF1 hc hsh
    go_enter Tryz.func18, Tryz.ntmps18
    go_upto_region 24 with (first | (go_at_call 66; refine (HCT.out _).mono ?_; rintro e w' ⟨rfl, hbl⟩; obtain ⟨os1, n1, rfl⟩ := below_plus hbl; clear hbl) | (go_at_call 65; first | (with_reducible refine Calls.mono (isDay_no _ _ (by omega)) ?_; rintro e w' ⟨rfl, rfl⟩) | (with_reducible refine Calls.mono (isDay_yes _ _ (by omega) (by omega)) ?_; rintro e w' ⟨rfl, rfl⟩)))
    all_goals
      go_quiet (fail)
      go_wp2
      go_loopw [179] (fun i wr => i = .int .i64 0 ∧ Hid (Below w.heap.size w wr)) (fun _ _ => 0)
      case atStart => exact ⟨rfl, hide (by repeat (first | exact Below.refl _ _ | refine bl_plus ?_ | refine bl_alloc ?_ _ | refine bl_drew ?_ | refine bl_drewN ?_ _))⟩
      case round =>
        obtain ⟨rfl, HB⟩ := hrel
        go_wp2
        go_ret
        exact ⟨rfl, HB.out⟩
  · cases h1

end Go.Proofs.YtdncmjlakmkfiaaGreatDoor
/-
  WALK: a value's error, in the reference, where there are no items: kind 1.
-/
namespace Go.Proofs.YtdncmjlakmkfiaaGreatDoor
open Go.RowKit Go.Lib

set_option maxHeartbeats 6400000 in
set_option maxRecDepth 100000 in
theorem valueFault_1 (i t : Int) (s : ByteArray) (l : List V) (A : Option Addr) (c : Nat) (w : World) (hm : l.length ≤ maxLen) (hsh : (V.mk 1 i t s l).selfErr ≠ 0 ∨ l.length = 0) :
    Calls Tryz.prog 18 #[(V.mk 1 i t s l).arg A c] w fun e w' => e = .returned (.int .i64 (V.mk 1 i t s l).selfErr) ∧ Below w.heap.size w w' := by
  have hemp := toList_empty s
  have HCT := hide (fun w => lowByte_any s w)
  have hF : (V.mk 1 i t s l).formOk = formB 1 i t s.size l.length := rfl
  have hE1 := fun h => V.self_form (v := V.mk 1 i t s l) ⟨show (0 : Int) ≤ 1 by decide, show (1 : Int) ≤ 7 by decide⟩ h
  have hE4 := fun e h1 h2 h3 => V.self_num (v := V.mk 1 i t s l) (e := e) ⟨show (0 : Int) ≤ 1 by decide, show (1 : Int) ≤ 7 by decide⟩ h1 h2 h3
  have hE2 := fun e h1 hN h2 h3 => V.self_text (v := V.mk 1 i t s l) (e := e) ⟨show (0 : Int) ≤ 1 by decide, show (1 : Int) ≤ 7 by decide⟩ h1 hN h2 h3
  have hE3 := fun h1 hN h2 h3 => V.self_ok (v := V.mk 1 i t s l) ⟨show (0 : Int) ≤ 1 by decide, show (1 : Int) ≤ 7 by decide⟩ h1 hN h2 h3
  have hE5 := fun h1 hN h2 h3 => V.self_len (v := V.mk 1 i t s l) ⟨show (0 : Int) ≤ 1 by decide, show (1 : Int) ≤ 7 by decide⟩ h1 hN h2 h3
  have hT := (V.mk 1 i t s l).text_cases
  have hN := (V.mk 1 i t s l).num_cases
  generalize (V.mk 1 i t s l).selfErr = E at *
  generalize (V.mk 1 i t s l).textErr = T at *
  generalize (V.mk 1 i t s l).numErr = N at *
  rw [hF] at hE1 hE2 hE3 hE4 hE5
  simp only [V.arg, V.k, V.i, V.t, V.s, V.l] at *
  unfold maxLen at hm
  generalize l.length = n at *
  clear hF
  by_cases ht : t = 0
  case neg =>
    have ht2 : (t == 0) = false := beq_eq_false_iff_ne.2 ht
    have ht3 : (t != 0) = true := bne_iff_ne.2 ht
    obtain rfl := hE1 (by simp [formB, ht])
    clear hE2 hE3 hE4 hE5 hT hN hsh
    clear hemp
    go_enter Tryz.func18, Tryz.ntmps18
    go_wp2
    all_goals go_ret
    all_goals exact ⟨rfl, (by repeat (first | exact Below.refl _ _ | refine bl_plus ?_ | refine bl_alloc ?_ _ | refine bl_drew ?_ | refine bl_drewN ?_ _))⟩
  subst ht
  rcases Nat.eq_zero_or_pos s.size with hs | hs
  case inr =>
    rw [decide_eq_false (by omega)] at hemp
    obtain rfl := hE1 (by unfold formB; rw [decide_eq_false (show ¬ s.size = 0 by omega)]; simp)
    clear hE2 hE3 hE4 hE5 hT hN hsh
    go_enter Tryz.func18, Tryz.ntmps18
    go_wp2
    all_goals go_ret
    all_goals exact ⟨rfl, (by repeat (first | exact Below.refl _ _ | refine bl_plus ?_ | refine bl_alloc ?_ _ | refine bl_drew ?_ | refine bl_drewN ?_ _))⟩
  rw [decide_eq_true hs] at hemp
  rcases Nat.eq_zero_or_pos n with hn | hn
  case inr =>
    have hn2 : (0 : Int) < (n : Int) := by omega
    obtain rfl := hE1 (by unfold formB; rw [decide_eq_false (show ¬ n = 0 by omega)]; simp)
    clear hE2 hE3 hE4 hE5 hT hN hsh
    go_enter Tryz.func18, Tryz.ntmps18
    go_wp2
    all_goals go_ret
    all_goals exact ⟨rfl, (by repeat (first | exact Below.refl _ _ | refine bl_plus ?_ | refine bl_alloc ?_ _ | refine bl_drew ?_ | refine bl_drewN ?_ _))⟩
  subst hn
  have hF1 : formB 1 i 0 s.size 0 = true := by simp [formB, hs]
  clear hE1
  rcases hN with ⟨_, ⟨hi, rfl⟩ | ⟨hi, rfl⟩⟩ | ⟨h1, _⟩ | ⟨h1, _⟩ | ⟨h1, _⟩ | ⟨⟨g1, g2, g4, g5⟩, _⟩
  · obtain rfl := hE4 2 hF1 rfl (by decide)
    have hi2 : (i != 0) = true := bne_iff_ne.2 (by omega)
    have hi3 : (i != 1) = true := bne_iff_ne.2 (by omega)
    clear hE2 hE3 hE5 hT hsh
    go_enter Tryz.func18, Tryz.ntmps18
    go_wp2_with (go_at_call 65; first | (with_reducible refine Calls.mono (isDay_no _ _ (by omega)) ?_; rintro e w' ⟨rfl, rfl⟩) | (with_reducible refine Calls.mono (isDay_yes _ _ (by omega) (by omega)) ?_; rintro e w' ⟨rfl, rfl⟩))
    all_goals go_ret
    all_goals exact ⟨rfl, (by repeat (first | exact Below.refl _ _ | refine bl_plus ?_ | refine bl_alloc ?_ _ | refine bl_drew ?_ | refine bl_drewN ?_ _))⟩
  · have hi01 : i = 0 ∨ i = 1 := by omega
    clear hE4
    rcases hT with ⟨h1, hx⟩ | ⟨_, h1, _⟩ | ⟨⟨h1, _⟩, ⟨hc, rfl⟩ | ⟨hc, rfl⟩⟩ | ⟨⟨h1, _⟩, _⟩
    · omega
    · cases h1
    · obtain rfl := hE2 9 hF1 rfl rfl (by decide)
      have hs2 : ¬ (2000 : Int) < (s.size : Int) := by rw [hs]; decide
      rw [hc] at HCT
      clear hE3 hE5 hF1 hc hsh
      rcases hi01 with rfl | rfl
      all_goals
        go_enter Tryz.func18, Tryz.ntmps18
        go_wp2_with (first | (go_at_call 66; refine (HCT.out _).mono ?_; rintro e w' ⟨rfl, hbl⟩; obtain ⟨os1, n1, rfl⟩ := below_plus hbl; clear hbl) | (go_at_call 65; first | (with_reducible refine Calls.mono (isDay_no _ _ (by omega)) ?_; rintro e w' ⟨rfl, rfl⟩) | (with_reducible refine Calls.mono (isDay_yes _ _ (by omega) (by omega)) ?_; rintro e w' ⟨rfl, rfl⟩)))
        all_goals go_ret
        all_goals exact ⟨rfl, (by repeat (first | exact Below.refl _ _ | refine bl_plus ?_ | refine bl_alloc ?_ _ | refine bl_drew ?_ | refine bl_drewN ?_ _))⟩
    · obtain rfl := hE3 hF1 rfl rfl rfl
      have hs2 : ¬ (2000 : Int) < (s.size : Int) := by rw [hs]; decide
      rw [hc] at HCT
      clear hE2 hE5 hF1 hc hsh
      rcases hi01 with rfl | rfl
      all_goals
        go_enter Tryz.func18, Tryz.ntmps18
        go_upto_region 24 with (first | (go_at_call 66; refine (HCT.out _).mono ?_; rintro e w' ⟨rfl, hbl⟩; obtain ⟨os1, n1, rfl⟩ := below_plus hbl; clear hbl) | (go_at_call 65; first | (with_reducible refine Calls.mono (isDay_no _ _ (by omega)) ?_; rintro e w' ⟨rfl, rfl⟩) | (with_reducible refine Calls.mono (isDay_yes _ _ (by omega) (by omega)) ?_; rintro e w' ⟨rfl, rfl⟩)))
        all_goals
          go_quiet (fail)
          go_wp2
          go_loopw [179] (fun i wr => i = .int .i64 0 ∧ Hid (Below w.heap.size w wr)) (fun _ _ => 0)
          case atStart => exact ⟨rfl, hide (by repeat (first | exact Below.refl _ _ | refine bl_plus ?_ | refine bl_alloc ?_ _ | refine bl_drew ?_ | refine bl_drewN ?_ _))⟩
          case round =>
            obtain ⟨rfl, HB⟩ := hrel
            go_wp2
            go_ret
            exact ⟨rfl, HB.out⟩
    · cases h1
  · cases h1
  · cases h1
  · cases h1
  · exact absurd rfl g1

end Go.Proofs.YtdncmjlakmkfiaaGreatDoor
