/-
  PLAIN: days in a row. WALKS: Streak and the reference's.
-/
import Derived.Test.YtfklaahakibljaaDayC
import Derived.Test.YtfklaahakibljaaMapI
namespace Go.Proofs.Ytfklaahakibljaa
open Go.RowKit
attribute [local go_sem high] run_makeMap

def badDay (d : Int) : Bool := decide (d < 0 ∨ 100000 < d)
def runFrom (l : List Int) (d : Int) : Nat → Nat
  | 0 => 0
  | f + 1 => if d ∈ l then runFrom l (d - 1) f + 1 else 0
/-- How many days in a row are in a list, back from a day. -/
def runDays (l : List Int) (d : Int) : Nat := runFrom l d (d + 1).toNat
theorem runDays_yes {l : List Int} {d : Int} (h : d ∈ l) (h0 : 0 ≤ d) : runDays l d = runDays l (d - 1) + 1 := by
  unfold runDays
  have e : (d + 1).toNat = (d - 1 + 1).toNat + 1 := by omega
  rw [e, runFrom, if_pos h]
theorem runDays_no {l : List Int} {d : Int} (h : d ∉ l) : runDays l d = 0 := by
  unfold runDays
  cases (d + 1).toNat with
  | zero => rfl
  | succ f => rw [runFrom, if_neg h]
def streakR (l : List Int) (d : Int) : Int × Int :=
  if 5000 < l.length then (0, 4) else if l.any badDay || badDay d then (0, 2) else (runDays l (if d ∈ l then d else d - 1), 0)
def TwoOut (r : Int × Int) (w : World) (e : Ending) (w' : World) : Prop := e = .returned (.tuple #[.int .i64 r.1, .int .i64 r.2]) ∧ Below w.heap.size w w'

def AnyBad (l : List Int) : Prop := l.any badDay = true
instance (l : List Int) : Decidable (AnyBad l) := by unfold AnyBad; infer_instance
theorem anyBad_dec (l : List Int) : decide (AnyBad l) = l.any badDay := by
  cases h : l.any badDay with
  | true => exact decide_eq_true h
  | false => exact decide_eq_false (by unfold AnyBad; rw [h]; exact Bool.false_ne_true)
theorem notBad {l : List Int} (h : l.any badDay = false) {x : Int} (hx : x ∈ l) : 0 ≤ x ∧ x ≤ 100000 := by
  have := List.any_eq_false.1 h x hx
  simp only [badDay, decide_eq_true_eq] at this
  omega

def IdxOut (P : Prop) (w : World) (e : Ending) (w' : World) : Prop := ∃ r : Int, e = .returned (.int .i64 r) ∧ (0 ≤ r ↔ P) ∧ w = w'
theorem idxOut_some {P : Prop} {w : World} {k : Nat} (h : P) : IdxOut P w (.returned (.int .i64 k)) w := ⟨k, rfl, ⟨fun _ => h, fun _ => by omega⟩, rfl⟩
theorem idxOut_none {P : Prop} {w : World} (h : ¬ P) : IdxOut P w (.returned (.int .i64 (-1))) w := ⟨-1, rfl, ⟨fun hh => absurd hh (by omega), fun hh => absurd hh h⟩, rfl⟩
theorem idxOut_cases {P : Prop} [Decidable P] {w : World} {e : Ending} {w' : World} (h : IdxOut P w e w') : ∃ r : Int, e = .returned (.int .i64 r) ∧ w = w' ∧ decide (0 ≤ r) = decide P := by
  obtain ⟨r, h1, h2, h3⟩ := h
  exact ⟨r, h1, h3, by rw [decide_eq_decide]; exact h2⟩

set_option maxHeartbeats 1600000 in
set_option maxRecDepth 100000 in
theorem indexI_any (A : Option Addr) (c : Nat) (l : List Int) (y : Int) (w : World) (hA : IntsAt w A l) (hm : l.length ≤ 1000000) :
    Calls Try.prog 150 #[.slice A l.length c, .int .i64 y] w (IdxOut (y ∈ l) w) := by
  have HA := hide hA
  clear hA
  go_enter Try.func150, Try.ntmps150
  go_wp2
  go_loop [8] (fun i => ∃ k : Nat, k ≤ l.length ∧ i = .int .i64 k ∧ Hid (y ∉ l.take k)) (fun i => l.length - (intOf i).toNat)
  case atStart => exact ⟨0, Nat.zero_le _, rfl, hide (by simp)⟩
  case round =>
    obtain ⟨k, hk, rfl, HN⟩ := hrel
    by_cases hlt : k < l.length
    · obtain ⟨b, off, rfl, hb, hcell⟩ := HA.out (by omega)
      have c1 := hcell k hlt
      clear hcell
      have hi : (k : Int) < (l.length : Int) := by omega
      by_cases he : y = l[k]
      · have HM := hide (he ▸ List.getElem_mem hlt : y ∈ l)
        rw [← he] at c1
        clear he
        go_wp2
        go_ret
        exact idxOut_some HM.out
      · have HM := hide (show y ∉ l.take (k + 1) by
          rw [List.take_succ_eq_append_getElem hlt, List.mem_append]
          intro h
          rcases h with h | h
          · exact HN.out h
          · exact he (by simpa using h))
        have hb2 : (y == l[k]) = false := by simp [he]
        generalize l[k] = x at *
        clear he
        go_wp2
        go_round
        case rel => exact ⟨k + 1, by omega, by go_num, HM⟩
        case measure => simp [intOf]; omega
    · have HM := hide (show y ∉ l by have := HN.out; rwa [List.take_of_length_le (by omega)] at this)
      have hi : ¬ (k : Int) < (l.length : Int) := by omega
      go_wp2
      go_ret
      exact idxOut_none HM.out

set_option maxHeartbeats 1600000 in
theorem containsI_any (A : Option Addr) (c : Nat) (l : List Int) (y : Int) (w : World) (hA : IntsAt w A l) (hm : l.length ≤ 1000000) :
    Calls Try.prog 94 #[.slice A l.length c, .int .i64 y] w fun e w' => e = .returned (.bool (decide (y ∈ l))) ∧ w = w' := by
  have HI := hide (indexI_any A c l y w hA hm)
  generalize hq : decide (y ∈ l) = q
  have HQ := hide hq
  clear hA hq
  go_enter Try.func94, Try.ntmps94
  go_wp2_with (go_at_call 150; refine HI.out.mono ?_; intro e w' hq; obtain ⟨r, rfl, rfl, hr⟩ := idxOut_cases hq; have HR := hide hr; clear hr hq)
  go_ret
  exact ⟨ret_bool (by rw [HR.out, HQ.out]), rfl⟩

set_option maxHeartbeats 800000 in
theorem streakClo_any (n : Int) (w : World) :
    Calls Try.prog 93 #[.int .i64 n] w fun e w' => e = .returned (.bool (badDay n)) ∧ w = w' := by
  by_cases h : 0 ≤ n ∧ n ≤ 100000
  · have hb : badDay n = false := by simp [badDay]; omega
    rw [hb]
    have HX := hide (fun w => isDay_yes n w h.1 h.2)
    clear h hb
    go_enter Try.func93, Try.ntmps93
    go_wp2_with (go_at_call 91; refine (HX.out _).mono ?_; rintro e w' ⟨rfl, rfl⟩)
    go_ret
    exact ⟨rfl, rfl⟩
  · have hb : badDay n = true := by simp [badDay]; omega
    rw [hb]
    have HX := hide (fun w => isDay_no n w (by omega))
    clear h hb
    go_enter Try.func93, Try.ntmps93
    go_wp2_with (go_at_call 91; refine (HX.out _).mono ?_; rintro e w' ⟨rfl, rfl⟩)
    go_ret
    exact ⟨rfl, rfl⟩

set_option maxHeartbeats 1600000 in
set_option maxRecDepth 100000 in
theorem indexBad_any (A : Option Addr) (c : Nat) (l : List Int) (w : World) (hA : IntsAt w A l) (hm : l.length ≤ 1000000) :
    Calls Try.prog 149 #[.slice A l.length c, .func (.func 93) #[] #[]] w (IdxOut (AnyBad l) w) := by
  have HA := hide hA
  clear hA
  go_enter Try.func149, Try.ntmps149
  go_wp2
  go_loop [8] (fun i => ∃ k : Nat, k ≤ l.length ∧ i = .int .i64 k ∧ Hid ((l.take k).any badDay = false)) (fun i => l.length - (intOf i).toNat)
  case atStart => exact ⟨0, Nat.zero_le _, rfl, hide (by simp)⟩
  case round =>
    obtain ⟨k, hk, rfl, HN⟩ := hrel
    by_cases hlt : k < l.length
    · obtain ⟨b, off, rfl, hb, hcell⟩ := HA.out (by omega)
      have c1 := hcell k hlt
      clear hcell
      have hi : (k : Int) < (l.length : Int) := by omega
      have hs := streakClo_any l[k]
      cases he : badDay l[k] with
      | true =>
        rw [he] at hs
        have HM := hide (show AnyBad l from List.any_eq_true.2 ⟨l[k], List.getElem_mem hlt, he⟩)
        have HS := hide hs
        clear hs he
        generalize l[k] = x at *
        go_wp2_with (go_at_call 93; refine (HS.out _).mono ?_; rintro e w' ⟨rfl, rfl⟩)
        go_ret
        exact idxOut_some HM.out
      | false =>
        rw [he] at hs
        have HM := hide (show (l.take (k + 1)).any badDay = false by rw [List.take_succ_eq_append_getElem hlt, List.any_append, HN.out]; simp [he])
        have HS := hide hs
        clear hs he
        generalize l[k] = x at *
        go_wp2_with (go_at_call 93; refine (HS.out _).mono ?_; rintro e w' ⟨rfl, rfl⟩)
        go_round
        case rel => exact ⟨k + 1, by omega, by go_num, HM⟩
        case measure => simp [intOf]; omega
    · have HM := hide (show ¬ AnyBad l by have := HN.out; rw [List.take_of_length_le (by omega)] at this; unfold AnyBad; rw [this]; exact Bool.false_ne_true)
      have hi : ¬ (k : Int) < (l.length : Int) := by omega
      go_wp2
      go_ret
      exact idxOut_none HM.out

set_option maxHeartbeats 1600000 in
theorem containsBad_any (A : Option Addr) (c : Nat) (l : List Int) (w : World) (hA : IntsAt w A l) (hm : l.length ≤ 1000000) :
    Calls Try.prog 92 #[.slice A l.length c, .func (.func 93) #[] #[]] w fun e w' => e = .returned (.bool (l.any badDay)) ∧ w = w' := by
  have HI := hide (indexBad_any A c l w hA hm)
  have hq0 := anyBad_dec l
  have HQ0 := hide hq0
  generalize hq : l.any badDay = q
  have HQ := hide hq
  clear hA hq hq0
  go_enter Try.func92, Try.ntmps92
  go_wp2_with (go_at_call 149; refine HI.out.mono ?_; intro e w' hq; obtain ⟨r, rfl, rfl, hr⟩ := idxOut_cases hq; have HR := hide hr; clear hr hq)
  go_ret
  exact ⟨ret_bool (by rw [HR.out, HQ0.out, HQ.out]), rfl⟩

set_option maxHeartbeats 3200000 in
set_option maxRecDepth 100000 in
theorem streakOf_any (A : Option Addr) (c : Nat) (l : List Int) (d : Int) (w : World) (hA : IntsAt w A l) (hm : l.length ≤ maxLen) :
    Calls Try.prog 30 #[.slice A l.length c, .int .i64 d] w (TwoOut (streakR l d) w) := by
  unfold maxLen at hm
  by_cases hl : 5000 < l.length
  · have hr : streakR l d = (0, 4) := if_pos hl
    rw [hr]
    clear hr
    have hl2 : (5000 : Int) < (l.length : Int) := by omega
    go_enter Try.func30, Try.ntmps30
    go_wp2
    go_returns
    exact ⟨rfl, Below.refl _ _⟩
  have hl2 : ¬ (5000 : Int) < (l.length : Int) := by omega
  have hr : streakR l d = if l.any badDay || badDay d then ((0 : Int), (2 : Int)) else ((runDays l (if d ∈ l then d else d - 1) : Int), 0) := if_neg hl
  have hcb := fun w h => containsBad_any A c l w h (by omega)
  have hci := fun y w h => containsI_any A c l y w h (by omega)
  have HCI := hide hci
  clear hci
  have HA := hide hA
  by_cases hd : 0 ≤ d ∧ d ≤ 100000
  · have hbd : badDay d = false := by simp [badDay]; omega
    rw [hbd, Bool.or_false] at hr
    have HX := hide (fun w => isDay_yes d w hd.1 hd.2)
    obtain ⟨hd0, hd1⟩ := hd
    cases hb : l.any badDay with
    | true =>
      rw [hb] at hr hcb
      rw [hr, if_pos rfl]
      have HCB := hide hcb
      clear hr hcb hA hb hbd
      go_enter Try.func30, Try.ntmps30
      go_wp2_with (first | (go_at_call 91; refine (HX.out _).mono ?_; rintro e w' ⟨rfl, rfl⟩) | (go_at_call 92; refine (HCB.out _ HA.out).mono ?_; rintro e w' ⟨rfl, rfl⟩))
      go_returns
      exact ⟨rfl, Below.refl _ _⟩
    | false =>
      rw [hb] at hr hcb
      rw [if_neg (by simp)] at hr
      rw [hr]
      have HCB := hide hcb
      have HNB := hide (fun x hx => notBad hb (x := x) hx)
      obtain ⟨s, hs⟩ : ∃ s, s = if d ∈ l then d else d - 1 := ⟨_, rfl⟩
      rw [← hs]
      have hsb : -1 ≤ s ∧ s ≤ 100000 := by rw [hs]; split <;> omega
      generalize hR : runDays l s = R
      have HR := hide hR
      obtain ⟨s0, s1⟩ := hsb
      have hcase : (decide (d ∈ l) = true ∧ s = d) ∨ (decide (d ∈ l) = false ∧ s = d - 1) := by
        by_cases h : d ∈ l
        · exact .inl ⟨by simp [h], by rw [hs, if_pos h]⟩
        · exact .inr ⟨by simp [h], by rw [hs, if_neg h]⟩
      have hc1 := fun w => HCI.out d w
      clear hr hcb hA hb hbd hR hs
      rcases hcase with ⟨h1, rfl⟩ | ⟨h1, h2⟩
      all_goals
        rw [h1] at hc1
        have HC1 := hide hc1
        clear hc1 h1
        try (have H2 := hide h2; clear h2)
        go_enter Try.func30, Try.ntmps30
        go_wp2_with (first | (go_at_call 91; refine (HX.out _).mono ?_; rintro e w' ⟨rfl, rfl⟩) | (go_at_call 92; refine (HCB.out _ HA.out).mono ?_; rintro e w' ⟨rfl, rfl⟩) | (go_at_call 94; refine (HC1.out _ HA.out).mono ?_; rintro e w' ⟨rfl, rfl⟩))
        try rw [← H2.out]
        go_loop [6] (fun i => ∃ n : Nat, (n : Int) ≤ s + 1 ∧ i = .int .i64 n ∧ Hid (R = n + runDays l (s - n))) (fun i => (s + 1 - intOf i).toNat)
        case atStart => exact ⟨0, by omega, rfl, hide (by rw [← HR.out]; simp)⟩
        case round =>
          obtain ⟨n, hn, rfl, HI⟩ := hrel
          by_cases hin : s - n ∈ l
          · have hge := HNB.out _ hin
            have hi := HI.out
            rw [runDays_yes hin hge.1] at hi
            have HI2 := hide hi
            have hcx := fun w => HCI.out (s - n) w
            rw [decide_eq_true hin] at hcx
            have HCX := hide hcx
            obtain ⟨hge0, hge1⟩ := hge
            clear hcx hi hin
            go_wp2_with (first | (go_at_call 94; refine (HCX.out _ HA.out).mono ?_; rintro e w' ⟨rfl, rfl⟩))
            go_round
            case rel => exact ⟨n + 1, by omega, by go_num, hide (by rw [HI2.out, show s - ((n + 1 : Nat) : Int) = s - n - 1 by omega]; omega)⟩
            case measure => simp [intOf]; omega
          · have hi := HI.out
            rw [runDays_no hin, Nat.add_zero] at hi
            have hcx := fun w => HCI.out (s - n) w
            rw [decide_eq_false hin] at hcx
            have HCX := hide hcx
            have HI2 := hide hi
            clear hcx hi hin
            go_wp2_with (first | (go_at_call 94; refine (HCX.out _ HA.out).mono ?_; rintro e w' ⟨rfl, rfl⟩))
            go_returns
            refine ⟨?_, Below.refl _ _⟩
            rw [HI2.out]
            rfl
  · have hbd : badDay d = true := by simp [badDay]; omega
    rw [hbd, Bool.or_true, if_pos rfl] at hr
    rw [hr]
    have HX := hide (fun w => isDay_no d w (by omega))
    have HCB := hide hcb
    clear hr hcb hA hbd hd
    go_enter Try.func30, Try.ntmps30
    go_wp2_with (first | (go_at_call 91; refine (HX.out _).mono ?_; rintro e w' ⟨rfl, rfl⟩))
    go_returns
    exact ⟨rfl, Below.refl _ _⟩

end Go.Proofs.Ytfklaahakibljaa
