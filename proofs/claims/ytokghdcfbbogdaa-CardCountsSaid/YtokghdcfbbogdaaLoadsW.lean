/-
  WALKS: Loads and the reference's.
-/
import Derived.Test.YtokghdcfbbogdaaCounts
namespace Go.Proofs.Ytokghdcfbbogdaa
open Go.RowKit
attribute [local go_sem high] run_max_i

theorem make_ints (N : Nat) (w : World) (h : N ≤ 100000) : (Instr.makeSlice 31 (.int .i64 N) (.int .i64 N)).run Try.prog w = .ok (.slice (some ⟨w.heap.size, 0, none⟩) N N) (w.alloc (.cells (ints (List.replicate N 0)) 3)) := by
  obtain ⟨i0, hi, hz0, hz1, hz2⟩ := info_parts info_int
  have := run_make (P := Try.prog) w 31 3 i0 (.int .i64 0) Try.underlying31 hi hz0 .i64 .i64 N N (by omega) (Int.le_refl _) (by rw [hz2]; omega) (by omega)
  rw [this, hz1, ← ints_zero]
  rfl
theorem IntsAt.at_ {w : World} {g g' : Nat} {l : List Int} (h : IntsAt w (some ⟨g, 0, none⟩) l) (e : g' = g) : IntsAt w (some ⟨g', 0, none⟩) l := by
  subst e; exact h
theorem onErr_zero {xs : List St} {d : Int} (h : onErr xs d = 0) : statesErr xs = 0 ∧ 0 ≤ d ∧ d ≤ 100000 := by
  unfold onErr at h
  split at h
  · rename_i h0
    split at h
    · omega
    · exact ⟨h0, by omega, by omega⟩
  · rename_i h0; exact absurd h h0

set_option maxHeartbeats 3200000 in
set_option maxRecDepth 100000 in
theorem loads_ok (A : Option Addr) (c : Nat) (xs : List St) (fr : Int) (N : Nat) (w : World) (hA : StsAt w A xs) (h : statesErr xs = 0) (hd : 0 ≤ fr ∧ fr ≤ 100000) (hN : N ≤ 1500) :
    Calls Try.prog 29 #[.slice A xs.length c, .int .i64 fr, .int .i64 N] w (IntsOut (loads xs fr N) w) := by
  have hR : loads xs fr N = (tally (slotOf fr N) N xs xs.length, 0) := by unfold loads; rw [if_pos (onErr_ok h hd), if_neg (by omega)]; simp
  rw [hR]
  have hl := len_of_statesErr h
  have hgood := fun k (hk : k < xs.length) => err_of_statesErr h k hk
  have hmk := fun w => make_ints N w (by omega)
  have hck := fun w h => checkOn_any A c xs fr w h
  rw [onErr_ok h hd] at hck
  have HG := hide hgood
  have H1 := hide hck
  have HA := hide hA
  clear hck hA hR h hgood
  go_enter Try.func29, Try.ntmps29
  go_wp2_with (first | (go_at_call 65; refine (H1.out _ HA.out).mono ?_; rintro e w' ⟨rfl, hb⟩; obtain ⟨os1, n1, rfl⟩ := below_plus hb; clear hb) | (go_at_call 61; refine (outside_no _ _ _ _ (by omega) (by omega)).mono ?_; rintro e w' ⟨rfl, rfl⟩))
  clear hmk
  go_loopw [25] (fun i wr => ∃ (k : Nat) (l : List Int) (os : Array Obj) (n : Nat), k ≤ xs.length ∧ i = .int .i64 k ∧ l = tally (slotOf fr N) N xs k ∧ wr = plus ((plus w os1 n1).alloc (.cells (ints l) 3)) os n)
    (fun i _ => xs.length - (intOf i).toNat)
  case atStart => exact ⟨0, _, #[], _, Nat.zero_le _, rfl, rfl, plus_nil.symm⟩
  case round =>
    obtain ⟨k, l, os, n, hk, rfl, hL, rfl⟩ := hrel
    have hll : l.length = N := by rw [hL]; exact tally_len _ _ _ _
    by_cases hlt : k < xs.length
    · obtain ⟨b, off, rfl, hb, hcell⟩ := HA.out (by omega)
      have hxk : xs[k]? = some xs[k] := List.getElem?_eq_getElem hlt
      have hc0 := hcell k hlt
      have hbd := fun i (hi : i < l.length) => (show 0 ≤ l[i] ∧ l[i] ≤ k by subst hL; exact tally_bd _ _ _ _ i hi)
      have HL := hide hL
      have hgk := HG.out k hlt
      clear hcell hL
      generalize xs[k] = x at hc0 hxk hgk
      have hgd := (St.good_of_err hgk).du
      have has := (asked_of_err hgk).1
      clear hgk
      obtain ⟨c0, c1, c2, c3, c4, c5, c6, c7, c8⟩ := hc0
      have HX := hide hxk
      clear hxk
      obtain ⟨z, hz⟩ : ∃ z : Nat, max x.du fr - fr = (z : Int) := ⟨(max x.du fr - fr).toNat, by omega⟩
      have hzd : slotOf fr N x = if 0 ≤ x.du ∧ (z : Int) < N then some z else none := by unfold slotOf; rw [hz]; simp
      have HZ := hide hzd
      clear hzd
      have hz2 : IntKind.i64.wrap (max x.du fr - fr) = (z : Int) := by rw [hz, IntKind.wrap_i64]; omega
      have hz3 : (z : Int) ≤ 100000 := by omega
      have hcases : (0 ≤ x.du ∧ z < N ∧ 0 ≤ x.du) ∨ (0 ≤ x.du ∧ ¬ z < N) ∨ (¬ 0 ≤ x.du ∧ ¬ 0 ≤ x.du) := by omega
      clear has
      rcases hcases with ⟨q1, q2, q3⟩ | ⟨q1, q2⟩ | ⟨q1, q2⟩
      · have q2z : (z : Int) < (N : Int) := by omega
        have hzl : z < l.length := by omega
        have hgt : (ints l)[z]? = some (.int .i64 l[z]) := ints_get hzl
        have hyb := hbd z hzl
        have hyl : l[z]? = some l[z] := List.getElem?_eq_getElem hzl
        clear hbd
        generalize l[z] = y at hgt hyb hyl
        have HS : Hid (slotOf fr N x = some z) := by show _ = _; rw [HZ.out, if_pos ⟨q3, q2z⟩]
        have HY := hide hyl
        clear hyl
        go_wp2
        go_roundw
        case rel => exact ⟨k + 1, bump l z, _, _, hlt, by go_num, by rw [tally_yes HX.out HS.out, ← HL.out], by rw [plus_alloc, ints_set]; unfold bump; rw [HY.out]; rfl⟩
        case measure => simp [intOf]; omega
      · have q2z : ¬ (z : Int) < (N : Int) := by omega
        have HS : Hid (slotOf fr N x = none) := by show _ = _; rw [HZ.out, if_neg (fun h => q2z h.2)]
        clear hbd
        go_wp2
        go_roundw
        case rel => exact ⟨k + 1, l, _, _, hlt, by go_num, by rw [tally_no HX.out HS.out, ← HL.out], by rw [plus_alloc]⟩
        case measure => simp [intOf]; omega
      · have HS : Hid (slotOf fr N x = none) := by show _ = _; rw [HZ.out, if_neg (fun h => q2 h.1)]
        clear hbd
        go_wp2
        go_roundw
        case rel => exact ⟨k + 1, l, _, _, hlt, by go_num, by rw [tally_no HX.out HS.out, ← HL.out], by rw [plus_alloc]⟩
        case measure => simp [intOf]; omega
    · have hkl : k = xs.length := by omega
      subst hkl
      have HL := hide hL
      have HLL := hide hll
      clear hL hll
      go_wp2
      go_returns
      rw [← HL.out]
      refine intsOut_ok rfl HLL.out (Nat.le_refl _) (IntsAt.at_ (intsAt_new (Blk.new _ _ _).plus) ?_) (by repeat (first | exact Below.refl _ _ | refine bl_plus ?_ | refine bl_alloc ?_ _ | refine bl_drew ?_))
      symm; simp only [plus_size]

set_option maxHeartbeats 1600000 in
set_option maxRecDepth 100000 in
theorem loads_bad (A : Option Addr) (c : Nat) (xs : List St) (fr days : Int) (w : World) (hA : StsAt w A xs) (h : onErr xs fr ≠ 0) :
    Calls Try.prog 29 #[.slice A xs.length c, .int .i64 fr, .int .i64 days] w (IntsOut (loads xs fr days) w) := by
  have hck := fun w h => checkOn_any A c xs fr w h
  have hR : loads xs fr days = ([], onErr xs fr) := by unfold loads; rw [if_neg h]
  rw [hR]
  generalize onErr xs fr = r at hck h ⊢
  have hr : (r == 0) = false := by simp [h]
  have H1 := hide hck
  have HA := hide hA
  clear hck h hA hR
  go_enter Try.func29, Try.ntmps29
  go_wp2_with (go_at_call 65; refine (H1.out _ HA.out).mono ?_; rintro e w' ⟨rfl, hb⟩; obtain ⟨os1, n1, rfl⟩ := below_plus hb; clear hb)
  go_returns
  exact intsOut_err (by repeat (first | exact Below.refl _ _ | refine bl_plus ?_ | refine bl_alloc ?_ _ | refine bl_drew ?_))

set_option maxHeartbeats 1600000 in
set_option maxRecDepth 100000 in
theorem loads_out (A : Option Addr) (c : Nat) (xs : List St) (fr days : Int) (w : World) (hA : StsAt w A xs) (h : onErr xs fr = 0) (hd : days < 0 ∨ 1500 < days) :
    Calls Try.prog 29 #[.slice A xs.length c, .int .i64 fr, .int .i64 days] w (IntsOut (loads xs fr days) w) := by
  have hck := fun w h => checkOn_any A c xs fr w h
  have hR : loads xs fr days = ([], 2) := by unfold loads; rw [if_pos h, if_pos hd]
  rw [hR]
  rw [h] at hck
  have hout := fun w => outside_yes days 0 1500 w hd
  have HO := hide hout
  have H1 := hide hck
  have HA := hide hA
  clear hck h hA hR hout hd
  go_enter Try.func29, Try.ntmps29
  go_wp2_with (first | (go_at_call 65; refine (H1.out _ HA.out).mono ?_; rintro e w' ⟨rfl, hb⟩; obtain ⟨os1, n1, rfl⟩ := below_plus hb; clear hb) | (go_at_call 61; refine (HO.out _).mono ?_; rintro e w' ⟨rfl, rfl⟩))
  go_returns
  exact intsOut_err (by repeat (first | exact Below.refl _ _ | refine bl_plus ?_ | refine bl_alloc ?_ _ | refine bl_drew ?_))

theorem loads_any (A : Option Addr) (c : Nat) (xs : List St) (fr days : Int) (w : World) (hA : StsAt w A xs) :
    Calls Try.prog 29 #[.slice A xs.length c, .int .i64 fr, .int .i64 days] w (IntsOut (loads xs fr days) w) := by
  by_cases h : onErr xs fr = 0
  · by_cases hd : days < 0 ∨ 1500 < days
    · exact loads_out A c xs fr days w hA h hd
    · obtain ⟨N, rfl⟩ := Int.eq_ofNat_of_zero_le (a := days) (by omega)
      have h2 := onErr_zero h
      exact loads_ok A c xs fr N w hA h2.1 h2.2 (by omega)
  · exact loads_bad A c xs fr days w hA h

set_option maxHeartbeats 3200000 in
set_option maxRecDepth 100000 in
theorem loadsOf_ok (A : Option Addr) (c : Nat) (xs : List St) (fr : Int) (N : Nat) (w : World) (hA : StsAt w A xs) (h : statesErr xs = 0) (hd : 0 ≤ fr ∧ fr ≤ 100000) (hN : N ≤ 1500) :
    Calls Try.prog 30 #[.slice A xs.length c, .int .i64 fr, .int .i64 N] w (IntsOut (loads xs fr N) w) := by
  have hR : loads xs fr N = (tally (slotOf fr N) N xs xs.length, 0) := by unfold loads; rw [if_pos (onErr_ok h hd), if_neg (by omega)]; simp
  rw [hR]
  have hl := len_of_statesErr h
  have hgood := fun k (hk : k < xs.length) => err_of_statesErr h k hk
  have hmk := fun w => make_ints N w (by omega)
  have hck := fun w h => statesFault_any A c xs w h
  rw [h] at hck
  have hday := fun w => isDay_yes fr w hd.1 hd.2
  have HD := hide hday
  clear hday
  have HG := hide hgood
  have H1 := hide hck
  have HA := hide hA
  clear hck hA hR h hgood
  go_enter Try.func30, Try.ntmps30
  go_wp2_with (first | (go_at_call 49; refine (H1.out _ HA.out).mono ?_; rintro e w' ⟨rfl, hb⟩; obtain ⟨os1, n1, rfl⟩ := below_plus hb; clear hb) | (go_at_call 59; refine (HD.out _).mono ?_; rintro e w' ⟨rfl, rfl⟩))
  clear hmk
  go_loopw [33] (fun i wr => ∃ (k : Nat) (l : List Int) (os : Array Obj) (n : Nat), k ≤ xs.length ∧ i = .int .i64 k ∧ l = tally (slotOf fr N) N xs k ∧ wr = plus ((plus w os1 n1).alloc (.cells (ints l) 3)) os n)
    (fun i _ => xs.length - (intOf i).toNat)
  case atStart => exact ⟨0, _, #[], _, Nat.zero_le _, rfl, rfl, plus_nil.symm⟩
  case round =>
    obtain ⟨k, l, os, n, hk, rfl, hL, rfl⟩ := hrel
    have hll : l.length = N := by rw [hL]; exact tally_len _ _ _ _
    by_cases hlt : k < xs.length
    · obtain ⟨b, off, rfl, hb, hcell⟩ := HA.out (by omega)
      have hxk : xs[k]? = some xs[k] := List.getElem?_eq_getElem hlt
      have hc0 := hcell k hlt
      have hbd := fun i (hi : i < l.length) => (show 0 ≤ l[i] ∧ l[i] ≤ k by subst hL; exact tally_bd _ _ _ _ i hi)
      have HL := hide hL
      have hgk := HG.out k hlt
      clear hcell hL
      generalize xs[k] = x at hc0 hxk hgk
      have hgd := (St.good_of_err hgk).du
      have has := (asked_of_err hgk).1
      clear hgk
      obtain ⟨c0, c1, c2, c3, c4, c5, c6, c7, c8⟩ := hc0
      have HX := hide hxk
      clear hxk
      obtain ⟨z, hz⟩ : ∃ z : Nat, max x.du fr - fr = (z : Int) := ⟨(max x.du fr - fr).toNat, by omega⟩
      have hzd : slotOf fr N x = if 0 ≤ x.du ∧ (z : Int) < N then some z else none := by unfold slotOf; rw [hz]; simp
      have HZ := hide hzd
      clear hzd
      have hz2 : max 0 (x.du - fr) = (z : Int) := by omega
      have hz3 : (z : Int) ≤ 100000 := by omega
      clear hz
      have hcases : (0 < x.ti ∧ z < N ∧ 0 ≤ x.du) ∨ (0 < x.ti ∧ ¬ z < N) ∨ (¬ 0 < x.ti ∧ ¬ 0 ≤ x.du) := by omega
      clear has
      rcases hcases with ⟨q1, q2, q3⟩ | ⟨q1, q2⟩ | ⟨q1, q2⟩
      · have q2z : (z : Int) < (N : Int) := by omega
        have hzl : z < l.length := by omega
        have hgt : (ints l)[z]? = some (.int .i64 l[z]) := ints_get hzl
        have hyb := hbd z hzl
        have hyl : l[z]? = some l[z] := List.getElem?_eq_getElem hzl
        clear hbd
        generalize l[z] = y at hgt hyb hyl
        have HS : Hid (slotOf fr N x = some z) := by show _ = _; rw [HZ.out, if_pos ⟨q3, q2z⟩]
        have HY := hide hyl
        clear hyl
        go_wp2
        go_roundw
        case rel => exact ⟨k + 1, bump l z, _, _, hlt, by go_num, by rw [tally_yes HX.out HS.out, ← HL.out], by rw [plus_alloc, ints_set]; unfold bump; rw [HY.out]; rfl⟩
        case measure => simp [intOf]; omega
      · have q2z : ¬ (z : Int) < (N : Int) := by omega
        have HS : Hid (slotOf fr N x = none) := by show _ = _; rw [HZ.out, if_neg (fun h => q2z h.2)]
        clear hbd
        go_wp2
        go_roundw
        case rel => exact ⟨k + 1, l, _, _, hlt, by go_num, by rw [tally_no HX.out HS.out, ← HL.out], by rw [plus_alloc]⟩
        case measure => simp [intOf]; omega
      · have HS : Hid (slotOf fr N x = none) := by show _ = _; rw [HZ.out, if_neg (fun h => q2 h.1)]
        clear hbd
        go_wp2
        go_roundw
        case rel => exact ⟨k + 1, l, _, _, hlt, by go_num, by rw [tally_no HX.out HS.out, ← HL.out], by rw [plus_alloc]⟩
        case measure => simp [intOf]; omega
    · have hkl : k = xs.length := by omega
      subst hkl
      have HL := hide hL
      have HLL := hide hll
      clear hL hll
      go_wp2
      go_returns
      rw [← HL.out]
      refine intsOut_ok rfl HLL.out (Nat.le_refl _) (IntsAt.at_ (intsAt_new (Blk.new _ _ _).plus) ?_) (by repeat (first | exact Below.refl _ _ | refine bl_plus ?_ | refine bl_alloc ?_ _ | refine bl_drew ?_))
      symm; simp only [plus_size]

set_option maxHeartbeats 1600000 in
set_option maxRecDepth 100000 in
theorem loadsOf_bad (A : Option Addr) (c : Nat) (xs : List St) (fr days : Int) (w : World) (hA : StsAt w A xs) (h : statesErr xs ≠ 0) :
    Calls Try.prog 30 #[.slice A xs.length c, .int .i64 fr, .int .i64 days] w (IntsOut (loads xs fr days) w) := by
  have hck := fun w h => statesFault_any A c xs w h
  have hR : loads xs fr days = ([], statesErr xs) := by unfold loads; rw [show onErr xs fr = statesErr xs by unfold onErr; rw [if_neg h], if_neg h]
  rw [hR]
  generalize statesErr xs = r at hck h ⊢
  have hr : (r == 0) = false := by simp [h]
  have H1 := hide hck
  have HA := hide hA
  clear hck h hA hR
  go_enter Try.func30, Try.ntmps30
  go_wp2_with (go_at_call 49; refine (H1.out _ HA.out).mono ?_; rintro e w' ⟨rfl, hb⟩; obtain ⟨os1, n1, rfl⟩ := below_plus hb; clear hb)
  go_returns
  exact intsOut_err (by repeat (first | exact Below.refl _ _ | refine bl_plus ?_ | refine bl_alloc ?_ _ | refine bl_drew ?_))

set_option maxHeartbeats 1600000 in
set_option maxRecDepth 100000 in
theorem loadsOf_out (A : Option Addr) (c : Nat) (xs : List St) (fr days : Int) (w : World) (hA : StsAt w A xs) (h : statesErr xs = 0) (hd : (fr < 0 ∨ 100000 < fr) ∨ ((0 ≤ fr ∧ fr ≤ 100000) ∧ (days < 0 ∨ (0 ≤ days ∧ 1500 < days)))) :
    Calls Try.prog 30 #[.slice A xs.length c, .int .i64 fr, .int .i64 days] w (IntsOut (loads xs fr days) w) := by
  have hck := fun w h => statesFault_any A c xs w h
  have hR : loads xs fr days = ([], 2) := by
    unfold loads
    rcases hd with hd | ⟨hd, h2⟩
    · rw [show onErr xs fr = 2 by unfold onErr; rw [if_pos h, if_pos hd], if_neg (by decide)]
    · rw [if_pos (onErr_ok h hd), if_pos (by omega)]
  rw [hR]
  rw [h] at hck
  have H1 := hide hck
  have HA := hide hA
  clear hck h hA hR
  rcases hd with hd | ⟨hd, h2 | ⟨h2, h3⟩⟩
  · have hday := fun w => isDay_no fr w hd
    have HD := hide hday
    clear hday
    go_enter Try.func30, Try.ntmps30
    go_wp2_with (first | (go_at_call 49; refine (H1.out _ HA.out).mono ?_; rintro e w' ⟨rfl, hb⟩; obtain ⟨os1, n1, rfl⟩ := below_plus hb; clear hb) | (go_at_call 59; refine (HD.out _).mono ?_; rintro e w' ⟨rfl, rfl⟩))
    go_returns
    exact intsOut_err (by repeat (first | exact Below.refl _ _ | refine bl_plus ?_ | refine bl_alloc ?_ _ | refine bl_drew ?_))
  all_goals
    have hday := fun w => isDay_yes fr w hd.1 hd.2
    have HD := hide hday
    clear hday
    go_enter Try.func30, Try.ntmps30
    go_wp2_with (first | (go_at_call 49; refine (H1.out _ HA.out).mono ?_; rintro e w' ⟨rfl, hb⟩; obtain ⟨os1, n1, rfl⟩ := below_plus hb; clear hb) | (go_at_call 59; refine (HD.out _).mono ?_; rintro e w' ⟨rfl, rfl⟩))
    go_returns
    exact intsOut_err (by repeat (first | exact Below.refl _ _ | refine bl_plus ?_ | refine bl_alloc ?_ _ | refine bl_drew ?_))

theorem loadsOf_any (A : Option Addr) (c : Nat) (xs : List St) (fr days : Int) (w : World) (hA : StsAt w A xs) :
    Calls Try.prog 30 #[.slice A xs.length c, .int .i64 fr, .int .i64 days] w (IntsOut (loads xs fr days) w) := by
  by_cases h : statesErr xs = 0
  · by_cases hd : (fr < 0 ∨ 100000 < fr) ∨ ((0 ≤ fr ∧ fr ≤ 100000) ∧ (days < 0 ∨ (0 ≤ days ∧ 1500 < days)))
    · exact loadsOf_out A c xs fr days w hA h hd
    · obtain ⟨N, rfl⟩ := Int.eq_ofNat_of_zero_le (a := days) (by omega)
      exact loadsOf_ok A c xs fr N w hA h (by omega) (by omega)
  · exact loadsOf_bad A c xs fr days w hA h

end Go.Proofs.Ytokghdcfbbogdaa
