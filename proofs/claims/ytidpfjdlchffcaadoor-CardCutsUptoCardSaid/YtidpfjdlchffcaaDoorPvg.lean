/-
  WALK: a value's error, in the program, with its items.
-/
import Derived.Test.YtidpfjdlchffcaaDoorPvf
set_option linter.all false
namespace Go.Proofs.YtidpfjdlchffcaaDoor
open Go.RowKit Go.Lib

theorem item_cases (x : V) : (x.k = 0 → itemErr x = 10) ∧ (x.k = 7 → itemErr x = 10) ∧ (x.k ≠ 0 → x.k ≠ 7 → itemErr x = x.selfErr) :=
  ⟨fun h => if_pos (.inl h), fun h => if_pos (.inr h), fun h h' => if_neg (by rintro (g | g); exact h g; exact h' g)⟩

set_option maxHeartbeats 6400000 in
set_option maxRecDepth 100000 in
theorem checkValue_list (v : V) (A : Option Addr) (c : Nat) (w : World) (hL : LAt w A v.l) (hs : v.selfErr = 0) :
    Calls Tryd.prog 43 #[v.arg A c] w fun e w' => e = .returned (.int .i64 (itemsErr v.l)) ∧ Below w.heap.size w w' := by
  have hc := v.self_cases
  rw [hs] at hc
  have hm := hL.1
  have H1 := hide (fun w h0 h7 => usesForm_any v A c w h0 h7 hm)
  have H2 := hide (fun w => checkNumbers_any v A c w)
  have H3 := hide (fun w => checkText_any v A c w)
  have HN := hide (fun h => itemsErr_none (l := v.l) h)
  have HF := hide (fun k hk h hne => itemsErr_first (l := v.l) (k := k) hk h hne)
  have HL := hide hL
  clear hL hs
  generalize itemsErr v.l = R at *
  generalize v.formOk = F at *
  generalize v.numErr = N at *
  generalize v.textErr = T at *
  obtain ⟨k, i, t, s, l⟩ := v
  simp only [V.arg, V.k, V.i, V.t, V.s, V.l] at *
  unfold maxLen at hm
  rcases hc with ⟨h, h'⟩ | ⟨⟨a1, a2⟩, ⟨rfl, h'⟩ | ⟨rfl, ⟨h, h'⟩ | ⟨rfl, ⟨h, h'⟩ | ⟨rfl, ⟨h, h'⟩ | ⟨h, -⟩⟩⟩⟩⟩
  all_goals try (exfalso; omega)
  go_enter Tryd.func43, Tryd.ntmps43
  go_wp2_with (first
      | (go_at_call 56; with_reducible refine Calls.mono (outsideP_no _ _ _ _ (by omega) (by omega)) ?_; rintro e w' ⟨rfl, rfl⟩)
      | (go_at_call 57; refine (H1.out _ a1 a2).mono ?_; rintro e w' ⟨rfl, hbl⟩; obtain ⟨os1, n1, rfl⟩ := below_plus hbl; clear hbl)
      | (go_at_call 58; refine (H2.out _).mono ?_; rintro e w' ⟨rfl, hbl⟩; obtain ⟨os2, n2, rfl⟩ := below_plus hbl; clear hbl)
      | (go_at_call 59; refine (H3.out _).mono ?_; rintro e w' ⟨rfl, hbl⟩; obtain ⟨os3, n3, rfl⟩ := below_plus hbl; clear hbl))
  clear H1 H2 H3
  have hbw : Below w.heap.size w (plus (plus (plus (w.alloc (.cells #[.int .i64 k, .int .i64 i, .int .i64 t, .string s, .slice A l.length c] 83)) os1 n1) os2 n2) os3 n3) := (by repeat (first | exact Below.refl _ _ | refine bl_plus ?_ | refine bl_alloc ?_ _ | refine bl_drew ?_))
  generalize (plus (plus (plus (w.alloc (.cells #[.int .i64 k, .int .i64 i, .int .i64 t, .string s, .slice A l.length c] 83)) os1 n1) os2 n2) os3 n3) = W at *
  have HW := hide (HL.out.below hbw)
  have HBW := hide hbw
  clear HL hbw
  go_loopw [31] (fun i wr => ∃ (k : Nat) (os : Array Obj) (n : Nat), k ≤ l.length ∧ i = .int .i64 k ∧ Hid (∀ j (hj : j < l.length), j < k → itemErr l[j] = 0) ∧ wr = plus W os n) (fun i _ => l.length - (intOf i).toNat)
  case atStart => exact ⟨0, #[], _, Nat.zero_le _, rfl, hide (fun j _ hj => by omega), plus_nil.symm⟩
  case round =>
    obtain ⟨q, os, n, hq, rfl, HK, rfl⟩ := hrel
    by_cases hlt : q < l.length
    · obtain ⟨b, o, rfl, hb, hv⟩ := HW.out.2 (by omega)
      have hf := HF.out q hlt HK.out
      obtain ⟨c0, c1, c2, c3, A2, e2, c4, hL2⟩ := VAt_iff.1 (hv q hlt)
      have HI := hide (item_cases l[q])
      have HNXT := hide (fun (h : itemErr l[q] = 0) j (hj : j < l.length) (hjq : j < q + 1) => (by
        rcases Nat.lt_or_ge j q with g | g
        · exact HK.out j hj g
        · obtain rfl : j = q := by omega
          exact h : itemErr l[j] = 0))
      have HS := hide (fun w (h7 : l[q].k ≠ 7) => checkValue_short l[q] A2 e2 w hL2.1 (V.leaf h7))
      clear hv hL2 HK
      generalize itemErr l[q] = IE at *
      generalize l[q].selfErr = SE at *
      generalize l[q] = x at *
      obtain ⟨xk, xi, xt, xs, xl⟩ := x
      simp only [V.arg, V.k, V.i, V.t, V.s, V.l] at *
      by_cases h0 : xk = 0
      · subst h0
        have hIE : IE = 10 := HI.out.1 rfl
        subst hIE
        obtain rfl := hf (by decide)
        clear HI
        go_wp2
        go_ret
        exact ⟨rfl, HBW.out.trans (Below.mono (by repeat (first | exact Below.refl _ _ | refine bl_plus ?_ | refine bl_alloc ?_ _ | refine bl_drew ?_)) HBW.out.size)⟩
      · by_cases h7 : xk = 7
        · subst h7
          have hIE : IE = 10 := HI.out.2.1 rfl
          subst hIE
          obtain rfl := hf (by decide)
          clear HI h0
          go_wp2
          go_ret
          exact ⟨rfl, HBW.out.trans (Below.mono (by repeat (first | exact Below.refl _ _ | refine bl_plus ?_ | refine bl_alloc ?_ _ | refine bl_drew ?_)) HBW.out.size)⟩
        · have hIE : IE = SE := HI.out.2.2 h0 h7
          subst hIE
          have j0 : (xk == 0) = false := beq_eq_false_iff_ne.2 h0
          have j7 : (xk == 7) = false := beq_eq_false_iff_ne.2 h7
          by_cases hz : IE = 0
          · subst hz
            clear hf HI h0
            go_wp2_with (go_at_call 43; refine (HS.out _ h7).mono ?_; rintro e w' ⟨rfl, hbl⟩; obtain ⟨os5, n5, rfl⟩ := below_plus hbl; clear hbl)
            go_roundw
            case rel => exact ⟨q + 1, _, _, hlt, by go_num, hide (HNXT.out (by trivial)), by first | rfl | (rw [plus_alloc, plus_plus])⟩
            case measure => simp [intOf]; omega
          · obtain rfl := hf hz
            have q1 := bne_iff_ne.2 hz
            clear HI h0 hz
            go_wp2_with (go_at_call 43; refine (HS.out _ h7).mono ?_; rintro e w' ⟨rfl, hbl⟩; obtain ⟨os5, n5, rfl⟩ := below_plus hbl; clear hbl)
            go_ret
            exact ⟨rfl, HBW.out.trans (Below.mono (by repeat (first | exact Below.refl _ _ | refine bl_plus ?_ | refine bl_alloc ?_ _ | refine bl_drew ?_)) HBW.out.size)⟩
    · have hR : R = 0 := HN.out (fun j hj => HK.out j hj (by omega))
      subst hR
      obtain rfl : q = l.length := by omega
      go_wp2
      go_ret
      exact ⟨rfl, HBW.out.trans (Below.mono (by repeat (first | exact Below.refl _ _ | refine bl_plus ?_ | refine bl_alloc ?_ _ | refine bl_drew ?_)) HBW.out.size)⟩

theorem checkValue_any (v : V) (A : Option Addr) (c : Nat) (w : World) (hL : LAt w A v.l) :
    Calls Tryd.prog 43 #[v.arg A c] w fun e w' => e = .returned (.int .i64 v.err) ∧ Below w.heap.size w w' := by
  unfold V.err
  by_cases h : v.selfErr = 0
  · rw [if_neg (by omega)]
    exact checkValue_list v A c w hL h
  · rw [if_pos h]
    exact checkValue_short v A c w hL.1 (.inl h)

end Go.Proofs.YtidpfjdlchffcaaDoor
