/-
  WALKS: Simulate on no states, and on bad input.
-/
import Derived.Test.YtokghdcfbbogdaaSimC
namespace Go.Proofs.Ytokghdcfbbogdaa
open Go.RowKit

theorem simOut_err {r : Int} {w w' : World} (hb : Below w.heap.size w w') : SimOut (([], []), r) w (.returned (.tuple #[.slice none 0 0, .slice none 0 0, .int .i64 r])) w' := ⟨none, 0, none, 0, rfl, StsAt.nil, IntsAt.nil, ⟨fun _ => rfl, fun _ => rfl⟩, hb⟩
theorem pick_nil (p : St → Bool) (k : Nat) : pick p [] k = [] := by
  induction k with
  | zero => rfl
  | succ k ih => simp [pick, ih]
theorem today_nil (d first all bn ba : Int) : todayList [] d first all bn ba = [] := by
  unfold todayList tdTo tdOut dueList
  rw [dif_neg (by simp)]
  simp [pick]
theorem simDays_nil (gs : List Int) (bn ba : Int) : ∀ (n : Nat) (d : Int) (g : Nat) (cs : List Int), simDays gs bn ba n d [] g cs = some ([], cs ++ List.replicate n 0) := by
  intro n
  induction n with
  | zero => intro d g cs; simp [simDays]
  | succ n ih =>
    intro d g cs
    simp only [simDays, today_nil, simAsk, List.length_nil]
    rw [ih]
    simp [List.replicate_succ]

set_option maxHeartbeats 3200000 in
set_option maxRecDepth 100000 in
theorem simulate_bad (A A2 : Option Addr) (c c2 : Nat) (xs : List St) (gs : List Int) (fr days bn ba : Int) (w : World) (hA : StsAt w A xs) (h : statesErr xs ≠ 0) :
    Calls Try.prog 37 #[.slice A xs.length c, .slice A2 gs.length c2, .int .i64 fr, .int .i64 days, .agg #[.int .i64 bn, .int .i64 ba]] w (SimOut (simulate xs gs fr days bn ba) w) := by
  have hR : simulate xs gs fr days bn ba = (([], []), statesErr xs) := by unfold simulate; rw [if_neg h]
  rw [hR]
  have hck := fun w h => checkStates_any A c xs w h
  generalize statesErr xs = r at hck h ⊢
  have hr : (r == 0) = false := by simp [h]
  have H1 := hide hck
  have HA := hide hA
  clear hck h hA hR
  go_enter Try.func37, Try.ntmps37
  go_wp2_with (go_at_call 48; refine (H1.out _ (HA.out.alloc _)).mono ?_; rintro e w' ⟨rfl, hb⟩; obtain ⟨os1, n1, rfl⟩ := below_plus hb; clear hb)
  go_returns
  exact simOut_err (by repeat (first | exact Below.refl _ _ | refine bl_plus ?_ | refine bl_alloc ?_ _ | refine bl_drew ?_))

set_option maxHeartbeats 3200000 in
set_option maxRecDepth 100000 in
theorem simulate_err (A A2 : Option Addr) (c c2 : Nat) (xs : List St) (gs : List Int) (fr days bn ba : Int) (w : World) (hA : StsAt w A xs) (hG : IntsAt w A2 gs) (h : statesErr xs = 0) (hs : simErr gs fr days bn ba ≠ 0) :
    Calls Try.prog 37 #[.slice A xs.length c, .slice A2 gs.length c2, .int .i64 fr, .int .i64 days, .agg #[.int .i64 bn, .int .i64 ba]] w (SimOut (simulate xs gs fr days bn ba) w) := by
  have hR : simulate xs gs fr days bn ba = (([], []), simErr gs fr days bn ba) := by unfold simulate; rw [if_pos h, if_neg hs]
  rw [hR]
  have hck := fun w h => checkStates_any A c xs w h
  rw [h] at hck
  have hcs := fun w h => checkSimulate_any A2 c2 gs fr days bn ba w h
  generalize simErr gs fr days bn ba = r at hcs hs ⊢
  have hr : (r == 0) = false := by simp [hs]
  have H1 := hide hck
  have H2 := hide hcs
  have HA := hide hA
  have HG := hide hG
  clear hck h hA hR hcs hs hG
  go_enter Try.func37, Try.ntmps37
  go_wp2_with (first | (go_at_call 48; refine (H1.out _ (HA.out.alloc _)).mono ?_; rintro e w' ⟨rfl, hb⟩; obtain ⟨os1, n1, rfl⟩ := below_plus hb; clear hb) | (go_at_call 74; refine (H2.out _ ((HG.out.alloc _).plus _ _)).mono ?_; rintro e w' ⟨rfl, hb⟩; obtain ⟨os2, n2, rfl⟩ := below_plus hb; clear hb))
  go_returns
  exact simOut_err (by repeat (first | exact Below.refl _ _ | refine bl_plus ?_ | refine bl_alloc ?_ _ | refine bl_drew ?_))

set_option maxHeartbeats 3200000 in
set_option maxRecDepth 100000 in
theorem simulate_none (A A2 : Option Addr) (c c2 : Nat) (gs : List Int) (fr : Int) (N : Nat) (bn ba : Int) (w : World) (hnil : A = none → c = 0) (hG : IntsAt w A2 gs) (hse : simErr gs fr N bn ba = 0)
    (hfr : 0 ≤ fr ∧ fr ≤ 100000) (hN : N ≤ 1500) (hfN : fr + N ≤ 100000) (hbd : bndOk bn ba) :
    Calls Try.prog 37 #[.slice A 0 c, .slice A2 gs.length c2, .int .i64 fr, .int .i64 N, .agg #[.int .i64 bn, .int .i64 ba]] w (SimOut (simulate [] gs fr N bn ba) w) := by
  have h : statesErr [] = 0 := rfl
  have hR := simulate_eq h hse
  rw [hR, simDays_nil]
  have hck := hide (fun w => checkStates_any A c [] w StsAt.nil)
  have hcs := fun w h => checkSimulate_any A2 c2 gs fr N bn ba w h
  rw [hse] at hcs
  have hcl := hide (fun w => cloneSts_any A c [] w StsAt.nil (fun h => ⟨rfl, hnil h⟩) (by simp))
  have hmk := fun w => make_ints N w (by omega)
  have htd := hide (fun d (A : Option Addr) c w => today_ok A c [] d 0 0 bn ba w StsAt.nil h (by omega) (by omega) hbd.1 hbd.2)
  simp only [today_nil, List.length_nil] at htd
  simp only [h, List.length_nil] at hck hcl
  have H2 := hide hcs
  have HG := hide hG
  clear hcs hG hR hse hbd hnil
  go_enter Try.func37, Try.ntmps37
  go_upto_region 7 with (first | (go_at_call 48; refine (hck.out _).mono ?_; rintro e w' ⟨rfl, hb⟩; obtain ⟨os1, n1, rfl⟩ := below_plus hb; clear hb) | (go_at_call 74; refine (H2.out _ ((HG.out.alloc _).plus _ _)).mono ?_; rintro e w' ⟨rfl, hb⟩; obtain ⟨os2, n2, rfl⟩ := below_plus hb; clear hb))
  have hv0 : (plus (plus (w.alloc (.cells #[.int .i64 bn, .int .i64 ba] 43)) os1 n1) os2 n2).cell? ⟨w.heap.size, 0, none⟩ = some (.int .i64 bn) ∧ (plus (plus (w.alloc (.cells #[.int .i64 bn, .int .i64 ba] 43)) os1 n1) os2 n2).cell? ⟨w.heap.size, 1, none⟩ = some (.int .i64 ba) := by
    rw [plus_cell (by rw [plus_size, World.size_alloc]; omega), plus_cell (by rw [World.size_alloc]; omega), plus_cell (by rw [plus_size, World.size_alloc]; omega), plus_cell (by rw [World.size_alloc]; omega)]
    simp
  have hVb : Below w.heap.size w (plus (plus (w.alloc (.cells #[.int .i64 bn, .int .i64 ba] 43)) os1 n1) os2 n2) := by repeat (first | exact Below.refl _ _ | refine bl_plus ?_ | refine bl_alloc ?_ _ | refine bl_drew ?_)
  have hvlt : w.heap.size < (plus (plus (w.alloc (.cells #[.int .i64 bn, .int .i64 ba] 43)) os1 n1) os2 n2).heap.size := by rw [plus_size, plus_size, World.size_alloc]; omega
  generalize plus (plus (w.alloc (.cells #[.int .i64 bn, .int .i64 ba] 43)) os1 n1) os2 n2 = V at hv0 hVb hvlt ⊢
  obtain ⟨hv0, hv1⟩ := hv0
  have HV := hide hVb
  clear hVb
  go_wp2_with (go_at_call 62; refine (hcl.out _).mono ?_; rintro e w' ⟨v, rfl, hown, hb⟩; obtain ⟨B, cb, rfl, hcb, _⟩ := own_form hown; obtain ⟨os3, n3, rfl⟩ := below_plus hb; clear hb hown)
  clear hmk
  go_loopw [40] (fun i wr => ∃ (k : Nat) (os : Array Obj) (n : Nat), k ≤ N ∧ i = .int .i64 k ∧ wr = plus ((plus V os3 n3).alloc (.cells (ints (List.replicate N 0)) 3)) os n)
    (fun i _ => N - (intOf i).toNat)
  case atStart => exact ⟨0, #[], _, Nat.zero_le _, rfl, plus_nil.symm⟩
  case round =>
    obtain ⟨k, os, n, hk, rfl, rfl⟩ := hrel
    by_cases hlt : k < N
    · go_wp2_with (go_at_call 69; refine (htd.out _ _ _ _).mono ?_; rintro e w' ⟨v, rfl, hh, hb⟩; obtain ⟨os5, n5, rfl⟩ := below_plus hb; obtain ⟨A5, c5, rfl, _⟩ := hh.form; clear hb hh)
      refine wp_loop_rounds 1 ?_
      rw [rounds_succ]
      go_wp2
      go_roundw
      case rel => exact ⟨k + 1, _, _, hlt, by go_num, by rw [plus_plus]⟩
      case measure => simp [intOf]; omega
    · have hkN : k = N := by omega
      subst hkN
      go_wp2_with (go_at_call 63; refine (clipSts_any _ _ _ _ (by assumption)).mono ?_; rintro e w' ⟨rfl, rfl⟩)
      go_returns
      refine simOut_mk rfl rfl (by simp) StsAt.nil (IntsAt.at_ (intsAt_new (Blk.new _ _ _).plus) ?_) ⟨(fun _ => rfl), (fun h => by cases h)⟩ (by repeat (first | exact HV.out | exact Below.refl _ _ | refine bl_plus ?_ | refine bl_alloc ?_ _ | refine bl_drew ?_))
      symm; simp only [plus_size]

theorem simErr_zero {gs : List Int} {fr days bn ba : Int} (h : simErr gs fr days bn ba = 0) : 0 < gs.length ∧ gs.length ≤ 20000 ∧ gradesOk gs = true ∧ (0 ≤ fr ∧ fr ≤ 100000) ∧ (0 ≤ days ∧ days ≤ 1500) ∧ fr + days ≤ 100000 ∧ bndOk bn ba := by
  unfold simErr at h
  split at h
  · omega
  · split at h
    · omega
    · split at h
      · omega
      · split at h
        · rename_i h1 h2 h3 h4
          exact ⟨by omega, by omega, by simpa using h2, by omega, by omega, by omega, h4⟩
        · omega

theorem simulate_any (A A2 : Option Addr) (c c2 : Nat) (xs : List St) (gs : List Int) (fr days bn ba : Int) (w : World) (hA : StsAt w A xs) (hnil : A = none → xs = [] ∧ c = 0) (hG : IntsAt w A2 gs) :
    Calls Try.prog 37 #[.slice A xs.length c, .slice A2 gs.length c2, .int .i64 fr, .int .i64 days, .agg #[.int .i64 bn, .int .i64 ba]] w (SimOut (simulate xs gs fr days bn ba) w) := by
  by_cases h : statesErr xs = 0
  · by_cases hs : simErr gs fr days bn ba = 0
    · obtain ⟨h1, h2, h3, h4, h5, h6, h7⟩ := simErr_zero hs
      obtain ⟨N, rfl⟩ := Int.eq_ofNat_of_zero_le (a := days) (by omega)
      by_cases hx : 0 < xs.length
      · exact simulate_ok A A2 c c2 xs gs fr N bn ba w hA hnil hG h hs hx h1 h2 h3 h4 (by omega) h6 h7
      · have hx2 : xs = [] := List.length_eq_zero_iff.1 (by omega)
        subst hx2
        exact simulate_none A A2 c c2 gs fr N bn ba w (fun h => (hnil h).2) hG hs h4 (by omega) h6 h7
    · exact simulate_err A A2 c c2 xs gs fr days bn ba w hA hG h hs
  · exact simulate_bad A A2 c c2 xs gs fr days bn ba w hA h

end Go.Proofs.Ytokghdcfbbogdaa
