/-
  PLAIN AND WALKS: what is wrong with a value, by a type; faults.
-/
import Derived.Test.YtpbkidjbbhkjnaaDoorPph
import Derived.Test.YtpbkidjbbhkjnaaDoorOwnK
namespace Go.Proofs.YtpbkidjbbhkjnaaDoor
open Go.RowKit Go.Lib

/-- What is wrong with a value, by a type. -/
def TY.fault (t : TY) (v : V) : Int :=
  if v.k ≠ t.k then 10 else if t.k = 3 ∧ 0 < t.ch.length ∧ hasS t.ch v.s = false then 3 else if t.k = 2 ∧ (t.lo ≠ 0 ∨ t.hi ≠ 0) ∧ (v.i < t.lo ∨ t.hi < v.i) then 2 else 0
theorem TY.fault_cases (t : TY) (v : V) : (v.k ≠ t.k ∧ t.fault v = 10) ∨ (v.k = t.k ∧ ((t.k = 3 ∧ ((t.ch.length = 0 ∧ t.fault v = 0) ∨ (0 < t.ch.length ∧ ((hasS t.ch v.s = false ∧ t.fault v = 3) ∨ (hasS t.ch v.s = true ∧ t.fault v = 0))))) ∨
    (t.k = 2 ∧ ((t.lo = 0 ∧ t.hi = 0 ∧ t.fault v = 0) ∨ ((t.lo ≠ 0 ∨ (t.lo = 0 ∧ t.hi ≠ 0)) ∧ ((v.i < t.lo ∧ t.fault v = 2) ∨ (t.lo ≤ v.i ∧ t.hi < v.i ∧ t.fault v = 2) ∨ (t.lo ≤ v.i ∧ v.i ≤ t.hi ∧ t.fault v = 0))))) ∨ (t.k ≠ 3 ∧ t.k ≠ 2 ∧ t.fault v = 0))) := by
  unfold TY.fault
  by_cases h1 : v.k = t.k
  · refine .inr ⟨h1, ?_⟩
    rw [if_neg (by omega)]
    by_cases h3 : t.k = 3
    · refine .inl ⟨h3, ?_⟩
      have h2 : ¬ t.k = 2 := by omega
      rcases Nat.eq_zero_or_pos t.ch.length with hz | hz
      · exact .inl ⟨hz, by rw [if_neg (by omega), if_neg (fun h => h2 h.1)]⟩
      · refine .inr ⟨hz, ?_⟩
        cases hh : hasS t.ch v.s with
        | true => exact .inr ⟨rfl, by rw [if_neg (fun h => by cases h.2.2), if_neg (fun h => h2 h.1)]⟩
        | false => exact .inl ⟨rfl, if_pos ⟨h3, hz, rfl⟩⟩
    · rw [if_neg (fun h => h3 h.1)]
      by_cases h2 : t.k = 2
      · refine .inr (.inl ⟨h2, ?_⟩)
        by_cases h4 : t.lo ≠ 0 ∨ t.hi ≠ 0
        · refine .inr ⟨by omega, ?_⟩
          by_cases h5 : v.i < t.lo
          · exact .inl ⟨h5, if_pos ⟨h2, h4, .inl h5⟩⟩
          · by_cases h6 : t.hi < v.i
            · exact .inr (.inl ⟨by omega, h6, if_pos ⟨h2, h4, .inr h6⟩⟩)
            · exact .inr (.inr ⟨by omega, by omega, if_neg (by omega)⟩)
        · exact .inl ⟨by omega, by omega, if_neg (fun h => h4 h.2.1)⟩
      · exact .inr (.inr ⟨h3, h2, if_neg (fun h => h2 h.1)⟩)
  · exact .inl ⟨h1, if_pos h1⟩

set_option maxHeartbeats 12800000 in
set_option maxRecDepth 100000 in
theorem faultOf_any (t : TY) (v : V) (A A2 : Option Addr) (c c2 : Nat) (w : World) (hS : SAt w A t.ch) (hlen : v.l.length ≤ maxLen) :
    Calls Tryd.prog 15 #[t.arg A c, v.arg A2 c2] w fun e w' => e = .returned (.int .i64 (t.fault v)) ∧ Below w.heap.size w w' := by
  have hcs := t.fault_cases v
  have HS := hide (fun W (hbw : Below w.heap.size w W) => containsS_any A c t.ch v.s t.ch.length W rfl (hS.below hbw))
  have hm := hS.1
  unfold maxLen at hm hlen
  generalize t.fault v = E at *
  generalize hasS t.ch v.s = HB at *
  clear hS
  obtain ⟨tn, k, need, ch, lo, hi⟩ := t
  obtain ⟨vk, vi, vt, vs, vl⟩ := v
  simp only [TY.arg, V.arg, V.k, V.i, V.t, V.s, V.l] at *
  rcases hcs with ⟨h, rfl⟩ | ⟨rfl, ⟨h3, ⟨hz, rfl⟩ | ⟨hz, ⟨hB, rfl⟩ | ⟨hB, rfl⟩⟩⟩ | ⟨h2, ⟨h0, h1, rfl⟩ | ⟨h0, hcs⟩⟩ | ⟨h3, h2, rfl⟩⟩
  · have i1 : (vk != k) = true := bne_iff_ne.2 h
    go_enter Tryd.func15, Tryd.ntmps15
    go_wp2_with (first | (go_at_call 19; refine (HS.out _ ?hbw).mono ?_; (case hbw => repeat (first | exact Below.refl _ _ | refine bl_plus ?_ | refine bl_alloc ?_ _ | refine bl_drew ?_ | refine bl_drewN ?_ _)); rintro e w' ⟨rfl, rfl⟩) | (go_at_call 26; first | ((with_reducible refine Calls.mono (outsideP_yes _ _ _ _ (by omega)) ?_); rintro e w' ⟨rfl, rfl⟩) | ((with_reducible refine Calls.mono (outsideP_no _ _ _ _ (by omega) (by omega)) ?_); rintro e w' ⟨rfl, rfl⟩)))
    go_ret
    exact ⟨rfl, (by repeat (first | exact Below.refl _ _ | refine bl_plus ?_ | refine bl_alloc ?_ _ | refine bl_drew ?_ | refine bl_drewN ?_ _))⟩
  · subst h3
    have i1 : decide (0 < ch.length) = false := decide_eq_false (by omega)
    go_enter Tryd.func15, Tryd.ntmps15
    go_wp2_with (first | (go_at_call 19; refine (HS.out _ ?hbw).mono ?_; (case hbw => repeat (first | exact Below.refl _ _ | refine bl_plus ?_ | refine bl_alloc ?_ _ | refine bl_drew ?_ | refine bl_drewN ?_ _)); rintro e w' ⟨rfl, rfl⟩) | (go_at_call 26; first | ((with_reducible refine Calls.mono (outsideP_yes _ _ _ _ (by omega)) ?_); rintro e w' ⟨rfl, rfl⟩) | ((with_reducible refine Calls.mono (outsideP_no _ _ _ _ (by omega) (by omega)) ?_); rintro e w' ⟨rfl, rfl⟩)))
    go_ret
    exact ⟨rfl, (by repeat (first | exact Below.refl _ _ | refine bl_plus ?_ | refine bl_alloc ?_ _ | refine bl_drew ?_ | refine bl_drewN ?_ _))⟩
  · subst h3 hB
    have i1 : decide (0 < ch.length) = true := decide_eq_true hz
    go_enter Tryd.func15, Tryd.ntmps15
    go_wp2_with (first | (go_at_call 19; refine (HS.out _ ?hbw).mono ?_; (case hbw => repeat (first | exact Below.refl _ _ | refine bl_plus ?_ | refine bl_alloc ?_ _ | refine bl_drew ?_ | refine bl_drewN ?_ _)); rintro e w' ⟨rfl, rfl⟩) | (go_at_call 26; first | ((with_reducible refine Calls.mono (outsideP_yes _ _ _ _ (by omega)) ?_); rintro e w' ⟨rfl, rfl⟩) | ((with_reducible refine Calls.mono (outsideP_no _ _ _ _ (by omega) (by omega)) ?_); rintro e w' ⟨rfl, rfl⟩)))
    go_ret
    exact ⟨rfl, (by repeat (first | exact Below.refl _ _ | refine bl_plus ?_ | refine bl_alloc ?_ _ | refine bl_drew ?_ | refine bl_drewN ?_ _))⟩
  · subst h3 hB
    have i1 : decide (0 < ch.length) = true := decide_eq_true hz
    go_enter Tryd.func15, Tryd.ntmps15
    go_wp2_with (first | (go_at_call 19; refine (HS.out _ ?hbw).mono ?_; (case hbw => repeat (first | exact Below.refl _ _ | refine bl_plus ?_ | refine bl_alloc ?_ _ | refine bl_drew ?_ | refine bl_drewN ?_ _)); rintro e w' ⟨rfl, rfl⟩) | (go_at_call 26; first | ((with_reducible refine Calls.mono (outsideP_yes _ _ _ _ (by omega)) ?_); rintro e w' ⟨rfl, rfl⟩) | ((with_reducible refine Calls.mono (outsideP_no _ _ _ _ (by omega) (by omega)) ?_); rintro e w' ⟨rfl, rfl⟩)))
    go_ret
    exact ⟨rfl, (by repeat (first | exact Below.refl _ _ | refine bl_plus ?_ | refine bl_alloc ?_ _ | refine bl_drew ?_ | refine bl_drewN ?_ _))⟩
  · subst h2 h0 h1
    go_enter Tryd.func15, Tryd.ntmps15
    go_wp2_with (first | (go_at_call 19; refine (HS.out _ ?hbw).mono ?_; (case hbw => repeat (first | exact Below.refl _ _ | refine bl_plus ?_ | refine bl_alloc ?_ _ | refine bl_drew ?_ | refine bl_drewN ?_ _)); rintro e w' ⟨rfl, rfl⟩) | (go_at_call 26; first | ((with_reducible refine Calls.mono (outsideP_yes _ _ _ _ (by omega)) ?_); rintro e w' ⟨rfl, rfl⟩) | ((with_reducible refine Calls.mono (outsideP_no _ _ _ _ (by omega) (by omega)) ?_); rintro e w' ⟨rfl, rfl⟩)))
    go_ret
    exact ⟨rfl, (by repeat (first | exact Below.refl _ _ | refine bl_plus ?_ | refine bl_alloc ?_ _ | refine bl_drew ?_ | refine bl_drewN ?_ _))⟩
  · subst h2
    rcases h0 with h0 | ⟨h0, h1⟩
    · have i1 : (lo != 0) = true := bne_iff_ne.2 h0
      rcases hcs with ⟨h4, rfl⟩ | ⟨h4, h5, rfl⟩ | ⟨h4, h5, rfl⟩
      all_goals
        go_enter Tryd.func15, Tryd.ntmps15
        go_wp2_with (first | (go_at_call 19; refine (HS.out _ ?hbw).mono ?_; (case hbw => repeat (first | exact Below.refl _ _ | refine bl_plus ?_ | refine bl_alloc ?_ _ | refine bl_drew ?_ | refine bl_drewN ?_ _)); rintro e w' ⟨rfl, rfl⟩) | (go_at_call 26; first | ((with_reducible refine Calls.mono (outsideP_yes _ _ _ _ (by omega)) ?_); rintro e w' ⟨rfl, rfl⟩) | ((with_reducible refine Calls.mono (outsideP_no _ _ _ _ (by omega) (by omega)) ?_); rintro e w' ⟨rfl, rfl⟩)))
        go_ret
        exact ⟨rfl, (by repeat (first | exact Below.refl _ _ | refine bl_plus ?_ | refine bl_alloc ?_ _ | refine bl_drew ?_ | refine bl_drewN ?_ _))⟩
    · subst h0
      have i1 : (hi != 0) = true := bne_iff_ne.2 h1
      rcases hcs with ⟨h4, rfl⟩ | ⟨h4, h5, rfl⟩ | ⟨h4, h5, rfl⟩
      all_goals
        go_enter Tryd.func15, Tryd.ntmps15
        go_wp2_with (first | (go_at_call 19; refine (HS.out _ ?hbw).mono ?_; (case hbw => repeat (first | exact Below.refl _ _ | refine bl_plus ?_ | refine bl_alloc ?_ _ | refine bl_drew ?_ | refine bl_drewN ?_ _)); rintro e w' ⟨rfl, rfl⟩) | (go_at_call 26; first | ((with_reducible refine Calls.mono (outsideP_yes _ _ _ _ (by omega)) ?_); rintro e w' ⟨rfl, rfl⟩) | ((with_reducible refine Calls.mono (outsideP_no _ _ _ _ (by omega) (by omega)) ?_); rintro e w' ⟨rfl, rfl⟩)))
        go_ret
        exact ⟨rfl, (by repeat (first | exact Below.refl _ _ | refine bl_plus ?_ | refine bl_alloc ?_ _ | refine bl_drew ?_ | refine bl_drewN ?_ _))⟩
  · have i1 : (vk == 3) = false := beq_eq_false_iff_ne.2 h3
    have i2 : (vk == 2) = false := beq_eq_false_iff_ne.2 h2
    go_enter Tryd.func15, Tryd.ntmps15
    go_wp2_with (first | (go_at_call 19; refine (HS.out _ ?hbw).mono ?_; (case hbw => repeat (first | exact Below.refl _ _ | refine bl_plus ?_ | refine bl_alloc ?_ _ | refine bl_drew ?_ | refine bl_drewN ?_ _)); rintro e w' ⟨rfl, rfl⟩) | (go_at_call 26; first | ((with_reducible refine Calls.mono (outsideP_yes _ _ _ _ (by omega)) ?_); rintro e w' ⟨rfl, rfl⟩) | ((with_reducible refine Calls.mono (outsideP_no _ _ _ _ (by omega) (by omega)) ?_); rintro e w' ⟨rfl, rfl⟩)))
    go_ret
    exact ⟨rfl, (by repeat (first | exact Below.refl _ _ | refine bl_plus ?_ | refine bl_alloc ?_ _ | refine bl_drew ?_ | refine bl_drewN ?_ _))⟩

/-- Where faults lie. -/
def FAt (w : World) (A : Option Addr) (fs : List (ByteArray × Int)) : Prop :=
  fs.length ≤ maxLen ∧ (0 < fs.length → ∃ b' o', A = some ⟨b', o', none⟩ ∧ b' < w.heap.size ∧ ∀ j (h : j < fs.length), w.cell? ⟨b', o' + j * 2, none⟩ = some (.string fs[j].1) ∧ w.cell? ⟨b', o' + j * 2 + 1, none⟩ = some (.int .i64 fs[j].2))
theorem FAt.below {w w' : World} {A : Option Addr} {l : List (ByteArray × Int)} (h : FAt w A l) (hb : Below w.heap.size w w') : FAt w' A l :=
  ⟨h.1, fun hl => by
    obtain ⟨b', o', hA, hb', hj⟩ := h.2 hl
    exact ⟨b', o', hA, Nat.lt_of_lt_of_le hb' hb.size, fun j h => ⟨(hb.cell (p := ⟨b', o' + j * 2, none⟩) hb').trans (hj j h).1, (hb.cell (p := ⟨b', o' + j * 2 + 1, none⟩) hb').trans (hj j h).2⟩⟩⟩
theorem FAt.nil {w : World} {A : Option Addr} : FAt w A [] := ⟨by simp [maxLen], fun h => absurd h (by simp)⟩

set_option maxHeartbeats 800000 in
theorem clipF_any (A : Option Addr) (n c : Nat) (w : World) (hn : n ≤ c) (hc : c ≤ maxLen) (h0 : A = none → c = 0) (hf : ∀ a, A = some a → ∃ g, a = ⟨g, 0, none⟩) :
    Calls Tryd.prog 16 #[.slice A n c] w fun e w' => e = .returned (.slice A n n) ∧ w' = w := by
  unfold maxLen at hc
  cases A with
  | none =>
    obtain rfl := h0 rfl
    obtain rfl : n = 0 := by omega
    go_enter Tryd.func16, Tryd.ntmps16
    go_wp2
    go_ret
    exact ⟨rfl, rfl⟩
  | some a =>
    obtain ⟨g, rfl⟩ := hf a rfl
    clear h0 hf
    go_enter Tryd.func16, Tryd.ntmps16
    go_wp2
    go_ret
    exact ⟨rfl, rfl⟩

theorem run_neq_fault (s : ByteArray) (i : Int) (w : World) : (binOp .neq 30 (.agg #[.string s, .int .i64 i]) (.agg #[.string s, .int .i64 i])).run Tryd.prog w = .ok (.bool false) w := by
  simp [go_sem]
attribute [local go_sem ↓] run_neq_fault

set_option maxHeartbeats 1600000 in
set_option maxRecDepth 100000 in
theorem equalF_same (A B : Option Addr) (c c' : Nat) (fs : List (ByteArray × Int)) (w : World) (hA : FAt w A fs) (hB : FAt w B fs) :
    Calls Tryd.prog 7 #[.slice A fs.length c, .slice B fs.length c'] w fun e w' => e = .returned (.bool true) ∧ Below w.heap.size w w' := by
  have hm := hA.1
  unfold maxLen at hm
  have HA := hide hA
  have HB := hide hB
  clear hA hB
  go_enter Tryd.func7, Tryd.ntmps7
  go_wp2
  go_loopw [13] (fun i wr => ∃ (k n : Nat), k ≤ fs.length ∧ i = .int .i64 k ∧ wr = w.drewN n) (fun i _ => fs.length - (intOf i).toNat)
  case atStart => exact ⟨0, 0, Nat.zero_le _, rfl, rfl⟩
  case round =>
    obtain ⟨k, n, hk, rfl, rfl⟩ := hrel
    by_cases hlt : k < fs.length
    · obtain ⟨b, off, rfl, hb, hcell⟩ := HA.out.2 (by omega)
      obtain ⟨b', off', rfl, hb', hcell'⟩ := HB.out.2 (by omega)
      obtain ⟨c0, c1⟩ := hcell k hlt
      obtain ⟨d0, d1⟩ := hcell' k hlt
      generalize fs[k] = x at c0 c1 d0 d1
      clear hcell hcell'
      obtain ⟨xs, xi⟩ := x
      simp only [] at c0 c1 d0 d1
      have i1 : (k : Int) < (fs.length : Int) := by omega
      go_wp2
      go_quiet (fail)
      go_wp2
      go_roundw
      case rel => exact ⟨k + 1, _, hlt, by go_num, rfl⟩
      case measure => simp [intOf]; omega
    · have hkl : k = fs.length := by omega
      go_wp2
      go_ret
      exact ⟨rfl, (by repeat (first | exact Below.refl _ _ | refine bl_plus ?_ | refine bl_alloc ?_ _ | refine bl_drew ?_ | refine bl_drewN ?_ _))⟩

end Go.Proofs.YtpbkidjbbhkjnaaDoor
