/-
  WALKS: Streak.
-/
import Derived.Test.YtfklaahakibljaaStreak
namespace Go.Proofs.Ytfklaahakibljaa
open Go.RowKit
attribute [local go_sem high] run_makeMap

theorem zero_bool (w : World) : (zeroValue 4).run Try.prog w = .ok (.bool false) w := Try.zeroValue4 w
/-- The set of the first k numbers. -/
def seenKV (l : List Int) : Nat → List (Int × Value)
  | 0 => []
  | k + 1 => match l[k]? with
    | none => seenKV l k
    | some x => gPut x (.bool true) (seenKV l k)
theorem seenKV_set (l : List Int) : ∀ k, gSet (seenKV l k)
  | 0 => fun p hp => by cases hp
  | k + 1 => by
    unfold seenKV
    split
    · exact seenKV_set l k
    · exact gSet_put (seenKV_set l k)
theorem seenKV_has (l : List Int) (y : Int) : ∀ k, gHas y (seenKV l k) = decide (y ∈ l.take k)
  | 0 => by simp [seenKV, gHas, gFind]
  | k + 1 => by
    unfold seenKV
    by_cases h : k < l.length
    · rw [List.getElem?_eq_getElem h]
      simp only []
      have hm : (y ∈ l.take k ++ [l[k]]) ↔ (y = l[k] ∨ y ∈ l.take k) := by rw [List.mem_append, List.mem_singleton, or_comm]
      rw [gHas_put, seenKV_has l y k, List.take_succ_eq_append_getElem h, decide_eq_decide.2 hm, Bool.decide_or]
    · rw [List.getElem?_eq_none (by omega)]
      simp only []
      rw [seenKV_has l y k, List.take_of_length_le (by omega), List.take_of_length_le (by omega)]
theorem seenKV_succ {l : List Int} {k : Nat} {x : Int} (h : l[k]? = some x) : seenKV l (k + 1) = gPut x (.bool true) (seenKV l k) := by rw [seenKV, h]
theorem badDay_err {x : Int} : dayErr x = if badDay x then 2 else 0 := by
  unfold dayErr badDay
  by_cases h : x < 0 ∨ 100000 < x
  · rw [if_pos h, if_pos (decide_eq_true h)]
  · rw [if_neg h, if_neg (by simpa using h)]

set_option maxHeartbeats 6400000 in
set_option maxRecDepth 100000 in
theorem streak_any (A : Option Addr) (c : Nat) (l : List Int) (d : Int) (w : World) (hA : IntsAt w A l) (hm : l.length ≤ maxLen) :
    Calls Try.prog 29 #[.slice A l.length c, .int .i64 d] w (TwoOut (streakR l d) w) := by
  unfold maxLen at hm
  by_cases hl : 5000 < l.length
  · have hr : streakR l d = (0, 4) := if_pos hl
    rw [hr]
    clear hr
    have hl2 : (5000 : Int) < (l.length : Int) := by omega
    go_enter Try.func29, Try.ntmps29
    go_wp2
    go_returns
    exact ⟨rfl, Below.refl _ _⟩
  have hl2 : ¬ (5000 : Int) < (l.length : Int) := by omega
  have hr : streakR l d = if l.any badDay || badDay d then ((0 : Int), (2 : Int)) else ((runDays l (if d ∈ l then d else d - 1) : Int), 0) := if_neg hl
  generalize hRR : streakR l d = RR at hr ⊢
  have HRR := hide hr
  have HA := hide hA
  clear hr hA hRR
  go_enter Try.func29, Try.ntmps29
  go_wp2
  go_loopw [16] (fun i wr => ∃ k : Nat, k ≤ l.length ∧ i = .int .i64 k ∧ Hid ((l.take k).any badDay = false) ∧ wr = w.alloc (.map (gEnts intV (seenKV l k)) (seenKV l k).length)) (fun i _ => l.length - (intOf i).toNat)
  case atStart => exact ⟨0, Nat.zero_le _, rfl, hide (by simp), rfl⟩
  case round =>
    obtain ⟨k, hk, rfl, HN, rfl⟩ := hrel
    by_cases hlt : k < l.length
    · obtain ⟨b, off, rfl, hb, hcell⟩ := HA.out (by omega)
      have c1 := hcell k hlt
      clear hcell
      have hi : (k : Int) < (l.length : Int) := by omega
      have hs := fun w => checkDay_any l[k] w
      rw [badDay_err] at hs
      cases he : badDay l[k] with
      | true =>
        rw [he] at hs
        have hany : l.any badDay = true := List.any_eq_true.2 ⟨l[k], List.getElem_mem hlt, he⟩
        have hr := HRR.out
        rw [hany, Bool.true_or, if_pos rfl] at hr
        subst hr
        simp only [if_true] at hs
        have HS := hide hs
        clear hs he hany HRR
        generalize l[k] = x at *
        go_wp2_with (go_at_call 87; refine (HS.out _).mono ?_; rintro e w' ⟨rfl, rfl⟩)
        go_returns
        exact ⟨rfl, by repeat (first | exact Below.refl _ _ | refine bl_plus ?_ | refine bl_alloc ?_ _ | refine bl_drew ?_)⟩
      | false =>
        rw [he] at hs
        have HM := hide (show (l.take (k + 1)).any badDay = false by rw [List.take_succ_eq_append_getElem hlt, List.any_append, HN.out]; simp [he])
        simp only [Bool.false_eq_true, if_false] at hs
        have HS := hide hs
        have hsc := seenKV_succ (List.getElem?_eq_getElem hlt)
        have HSC := hide hsc
        have hup := update_g int_key Try.underlying158 l[k] (.bool true) w.heap.size (seenKV l k) (w.alloc (.map (gEnts intV (seenKV l k)) (seenKV l k).length)) (heap_alloc_new w _)
        rw [alloc_setMap_new, ← hsc] at hup
        simp only [intV] at hup
        clear hs he hsc
        generalize l[k] = x at *
        go_wp2_with (go_at_call 87; refine (HS.out _).mono ?_; rintro e w' ⟨rfl, rfl⟩)
        go_roundw
        case rel => exact ⟨k + 1, by omega, by go_num, HM, rfl⟩
        case measure => simp [intOf]; omega
    · have hkl : k = l.length := by omega
      subst hkl
      have hi : ¬ (l.length : Int) < (l.length : Int) := by omega
      have hany : l.any badDay = false := by have := HN.out; rwa [List.take_of_length_le (Nat.le_refl _)] at this
      have hr := HRR.out
      rw [hany, Bool.false_or] at hr
      have hW : Below w.heap.size w (w.alloc (.map (gEnts intV (seenKV l l.length)) (seenKV l l.length).length)) := by repeat (first | exact Below.refl _ _ | refine bl_plus ?_ | refine bl_alloc ?_ _ | refine bl_drew ?_)
      have hlk : ∀ y : Int, (Instr.lookup 158 (.map (some w.heap.size)) (intV y) false).run Try.prog (w.alloc (.map (gEnts intV (seenKV l l.length)) (seenKV l l.length).length)) = .ok (.bool (decide (y ∈ l))) (w.alloc (.map (gEnts intV (seenKV l l.length)) (seenKV l l.length).length)) := fun y => by
        rw [lookup_g int_key Try.underlying158 zero_bool y w.heap.size _ (seenKV l l.length) (heap_alloc_new w _), gSet_find (seenKV_set l _), seenKV_has, List.take_of_length_le (Nat.le_refl _)]
      generalize w.alloc (.map (gEnts intV (seenKV l l.length)) (seenKV l l.length).length) = W at hW hlk ⊢
      generalize w.heap.size = g at hlk ⊢
      simp only [intV] at hlk
      have HLK := hide hlk
      have HNB := hide (fun x hx => notBad hany (x := x) hx)
      clear hlk hany HN HRR
      have hs := fun w => checkDay_any d w
      rw [badDay_err] at hs
      cases hd : badDay d with
      | true =>
        rw [hd] at hs hr
        simp only [if_true] at hs hr
        subst hr
        have HS := hide hs
        clear hs hd
        go_wp2_with (go_at_call 87; refine (HS.out _).mono ?_; rintro e w' ⟨rfl, rfl⟩)
        go_returns
        exact ⟨rfl, hW⟩
      | false =>
        rw [hd] at hs hr
        simp only [Bool.false_eq_true, if_false] at hs hr
        have HS := hide hs
        have hdb : 0 ≤ d ∧ d ≤ 100000 := by simp only [badDay, decide_eq_false_iff_not] at hd; omega
        obtain ⟨hd0, hd1⟩ := hdb
        obtain ⟨s, hs2⟩ : ∃ s, s = if d ∈ l then d else d - 1 := ⟨_, rfl⟩
        rw [← hs2] at hr
        have hsb : -1 ≤ s ∧ s ≤ 100000 := by rw [hs2]; split <;> omega
        generalize hR : runDays l s = R at hr
        have HR := hide hR
        subst hr
        obtain ⟨s0, s1⟩ := hsb
        have hcase : (decide (d ∈ l) = true ∧ s = d) ∨ (decide (d ∈ l) = false ∧ s = d - 1) := by
          by_cases h : d ∈ l
          · exact .inl ⟨by simp [h], by rw [hs2, if_pos h]⟩
          · exact .inr ⟨by simp [h], by rw [hs2, if_neg h]⟩
        have hl1 := HLK.out d
        clear hs hd hs2 hR
        rcases hcase with ⟨h1, rfl⟩ | ⟨h1, h2⟩
        all_goals
          rw [h1] at hl1
          clear h1
          try (have H2 := hide h2; clear h2)
          go_wp2_with (go_at_call 87; refine (HS.out _).mono ?_; rintro e w' ⟨rfl, rfl⟩)
          try rw [← H2.out]
          clear hl1
          go_loop [9] (fun i => ∃ n : Nat, (n : Int) ≤ s + 1 ∧ i = .int .i64 n ∧ Hid (R = n + runDays l (s - n))) (fun i => (s + 1 - intOf i).toNat)
          case atStart => exact ⟨0, by omega, rfl, hide (by rw [← HR.out]; simp)⟩
          case round =>
            obtain ⟨n, hn, rfl, HI⟩ := hrel
            have hlx := HLK.out (s - n)
            by_cases hin : s - n ∈ l
            · have hge := HNB.out _ hin
              have hi2 := HI.out
              rw [runDays_yes hin hge.1] at hi2
              have HI2 := hide hi2
              rw [decide_eq_true hin] at hlx
              obtain ⟨hge0, hge1⟩ := hge
              clear hi2 hin
              go_wp2
              go_round
              case rel => exact ⟨n + 1, by omega, by go_num, hide (by rw [HI2.out, show s - ((n + 1 : Nat) : Int) = s - n - 1 by omega]; omega)⟩
              case measure => simp [intOf]; omega
            · have hi2 := HI.out
              rw [runDays_no hin, Nat.add_zero] at hi2
              rw [decide_eq_false hin] at hlx
              have HI2 := hide hi2
              clear hi2 hin
              go_wp2
              go_returns
              refine ⟨?_, hW⟩
              rw [HI2.out]
              rfl

end Go.Proofs.Ytfklaahakibljaa
