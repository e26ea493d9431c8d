/-
  WALK: a value's error, in the reference.
-/
import Derived.Test.YtdncmjlakmkfiaaGreatDoorCpv
import Derived.Test.YtdncmjlakmkfiaaGreatDoorPvj1
import Derived.Test.YtdncmjlakmkfiaaGreatDoorPvj3
import Derived.Test.YtdncmjlakmkfiaaGreatDoorPvj5
import Derived.Test.YtdncmjlakmkfiaaGreatDoorPvj7
import Derived.Test.YtdncmjlakmkfiaaGreatDoorPvl
set_option linter.all false
namespace Go.Proofs.YtdncmjlakmkfiaaGreatDoor
open Go.RowKit Go.Lib

theorem valueFault_short (v : V) (A : Option Addr) (c : Nat) (w : World) (hm : v.l.length ≤ maxLen) (hs : v.selfErr ≠ 0 ∨ v.l.length = 0) :
    Calls Tryz.prog 18 #[v.arg A c] w fun e w' => e = .returned (.int .i64 v.selfErr) ∧ Below w.heap.size w w' := by
  by_cases hf : v.k < 0 ∨ 7 < v.k
  · exact valueFault_far v A c w hf
  obtain ⟨k, i, t, s, l⟩ := v
  simp only [V.k] at hf
  have hk : k = 0 ∨ k = 1 ∨ k = 2 ∨ k = 3 ∨ k = 4 ∨ k = 5 ∨ k = 6 ∨ k = 7 := by omega
  rcases hk with rfl | rfl | rfl | rfl | rfl | rfl | rfl | rfl
  · exact valueFault_0 i t s l A c w hm hs
  · exact valueFault_1 i t s l A c w hm hs
  · exact valueFault_2 i t s l A c w hm hs
  · exact valueFault_3 i t s l A c w hm hs
  · exact valueFault_4 i t s l A c w hm hs
  · exact valueFault_5 i t s l A c w hm hs
  · exact valueFault_6 i t s l A c w hm hs
  · exact valueFault_7 i t s l A c w hm hs

theorem V.self_list {v : V} (h : v.selfErr = 0) (h7 : v.k = 7) : v.i = 0 ∧ v.t = 0 ∧ v.s.size = 0 ∧ ctl v.s = false ∧ v.l.length ≤ 20 := by
  rcases v.self_cases with ⟨_, e⟩ | ⟨_, ⟨_, e⟩ | ⟨hf, ⟨e1, e⟩ | ⟨_, ⟨e1, e⟩ | ⟨ht, ⟨_, e⟩ | ⟨hl, _⟩⟩⟩⟩⟩ <;> try omega
  unfold V.formOk formB at hf
  simp only [Bool.and_eq_true, Bool.or_eq_true, decide_eq_true_eq, h7] at hf
  obtain ⟨f1, f2, f3, -⟩ := hf
  refine ⟨by omega, by omega, by omega, ?_, hl⟩
  rcases v.text_cases with ⟨h1, _⟩ | ⟨_, h1, _⟩ | ⟨_, ⟨_, e⟩ | ⟨hc, _⟩⟩ | ⟨⟨h1, _⟩, _⟩ <;> try omega

set_option maxHeartbeats 6400000 in
set_option maxRecDepth 100000 in
theorem valueFault_list (v : V) (A : Option Addr) (c : Nat) (w : World) (hL : LAt w A v.l) (hs : v.selfErr = 0) (h7 : v.k = 7) (hp : 0 < v.l.length) :
    Calls Tryz.prog 18 #[v.arg A c] w fun e w' => e = .returned (.int .i64 (itemsErr v.l)) ∧ Below w.heap.size w w' := by
  obtain ⟨hi, ht, hsz, hc, hl⟩ := V.self_list hs h7
  have hm := hL.1
  have hemp := toList_empty v.s
  rw [decide_eq_true hsz] at hemp
  have hlow := fun w => lowByte_any v.s w
  rw [hc] at hlow
  have HCT := hide hlow
  have HN := hide (fun h => itemsErr_none (l := v.l) h)
  have HF := hide (fun k hk h hne => itemsErr_first (l := v.l) (k := k) hk h hne)
  have HL := hide hL
  clear hL hs hlow hc
  generalize itemsErr v.l = R at *
  obtain ⟨k, i, t, s, l⟩ := v
  simp only [V.arg, V.k, V.i, V.t, V.s, V.l] at *
  subst hi ht h7
  unfold maxLen at hm
  have hs2 : ¬ (2000 : Int) < (s.size : Int) := by rw [hsz]; decide
  have hp2 : (0 : Int) < (l.length : Int) := by omega
  have hl2 : ¬ (20 : Int) < (l.length : Int) := by omega
  clear hl hsz hp
  go_enter Tryz.func18, Tryz.ntmps18
  go_upto_region 24 with (go_at_call 66; refine (HCT.out _).mono ?_; rintro e w' ⟨rfl, hbl⟩; obtain ⟨os1, n1, rfl⟩ := below_plus hbl; clear hbl)
  go_quiet (fail)
  go_wp2
  clear HCT
  have hbw : Below w.heap.size w ((plus (w.alloc (.cells #[.int .i64 7, .int .i64 0, .int .i64 0, .string s, .slice A l.length c] 24)) os1 n1).drewN nq) := (by repeat (first | exact Below.refl _ _ | refine bl_plus ?_ | refine bl_alloc ?_ _ | refine bl_drew ?_ | refine bl_drewN ?_ _))
  generalize ((plus (w.alloc (.cells #[.int .i64 7, .int .i64 0, .int .i64 0, .string s, .slice A l.length c] 24)) os1 n1).drewN nq) = W at *
  have HW := hide (HL.out.below hbw)
  have HBW := hide hbw
  clear HL hbw
  go_loopw [179] (fun i wr => ∃ (k : Nat) (os : Array Obj) (n : Nat), k ≤ l.length ∧ i = .int .i64 k ∧ Hid (∀ j (hj : j < l.length), j < k → itemErr l[j] = 0) ∧ wr = plus W os n) (fun i _ => l.length - (intOf i).toNat)
  case atStart => exact ⟨0, #[], _, Nat.zero_le _, rfl, hide (fun j _ hj => by omega), plus_nil.symm⟩
  case round =>
    obtain ⟨q, os, n, hq, rfl, HK, rfl⟩ := hrel
    by_cases hlt : q < l.length
    · obtain ⟨b, o, rfl, hb, hv⟩ := HW.out.2 (by omega)
      have hf := HF.out q hlt HK.out
      obtain ⟨c0, c1, c2, c3, A2, e2, c4, hL2⟩ := VAt_iff.1 (hv q hlt)
      have HI := hide (item_cases l[q])
      have HNXT := hide (fun (h : itemErr l[q] = 0) j (hj : j < l.length) (hjq : j < q + 1) => (by
        rcases Nat.lt_or_ge j q with g | g
        · exact HK.out j hj g
        · obtain rfl : j = q := by omega
          exact h : itemErr l[j] = 0))
      have HS := hide (fun w (h7 : l[q].k ≠ 7) => valueFault_short l[q] A2 e2 w hL2.1 (V.leaf h7))
      clear hv hL2 HK
      generalize itemErr l[q] = IE at *
      generalize l[q].selfErr = SE at *
      generalize l[q] = x at *
      obtain ⟨xk, xi, xt, xs, xl⟩ := x
      simp only [V.arg, V.k, V.i, V.t, V.s, V.l] at *
      by_cases h0 : xk = 0
      · subst h0
        have hIE : IE = 10 := HI.out.1 rfl
        subst hIE
        obtain rfl := hf (by decide)
        clear HI
        go_wp2
        go_ret
        exact ⟨rfl, HBW.out.trans (Below.mono (by repeat (first | exact Below.refl _ _ | refine bl_plus ?_ | refine bl_alloc ?_ _ | refine bl_drew ?_ | refine bl_drewN ?_ _)) HBW.out.size)⟩
      · by_cases h7 : xk = 7
        · subst h7
          have hIE : IE = 10 := HI.out.2.1 rfl
          subst hIE
          obtain rfl := hf (by decide)
          clear HI h0
          go_wp2
          go_ret
          exact ⟨rfl, HBW.out.trans (Below.mono (by repeat (first | exact Below.refl _ _ | refine bl_plus ?_ | refine bl_alloc ?_ _ | refine bl_drew ?_ | refine bl_drewN ?_ _)) HBW.out.size)⟩
        · have hIE : IE = SE := HI.out.2.2 h0 h7
          subst hIE
          have j0 : (xk == 0) = false := beq_eq_false_iff_ne.2 h0
          have j7 : (xk == 7) = false := beq_eq_false_iff_ne.2 h7
          by_cases hz : IE = 0
          · subst hz
            clear hf HI h0
            go_wp2_with (go_at_call 18; refine (HS.out _ h7).mono ?_; rintro e w' ⟨rfl, hbl⟩; obtain ⟨os5, n5, rfl⟩ := below_plus hbl; clear hbl)
            go_roundw
            case rel => exact ⟨q + 1, _, _, hlt, by go_num, hide (HNXT.out (by trivial)), by first | rfl | (rw [plus_alloc, plus_plus])⟩
            case measure => simp [intOf]; omega
          · obtain rfl := hf hz
            have q1 := bne_iff_ne.2 hz
            clear HI h0 hz
            go_wp2_with (go_at_call 18; refine (HS.out _ h7).mono ?_; rintro e w' ⟨rfl, hbl⟩; obtain ⟨os5, n5, rfl⟩ := below_plus hbl; clear hbl)
            go_ret
            exact ⟨rfl, HBW.out.trans (Below.mono (by repeat (first | exact Below.refl _ _ | refine bl_plus ?_ | refine bl_alloc ?_ _ | refine bl_drew ?_ | refine bl_drewN ?_ _)) HBW.out.size)⟩
    · have hR : R = 0 := HN.out (fun j hj => HK.out j hj (by omega))
      subst hR
      obtain rfl : q = l.length := by omega
      go_wp2
      go_ret
      exact ⟨rfl, HBW.out.trans (Below.mono (by repeat (first | exact Below.refl _ _ | refine bl_plus ?_ | refine bl_alloc ?_ _ | refine bl_drew ?_ | refine bl_drewN ?_ _)) HBW.out.size)⟩

theorem valueFault_any (v : V) (A : Option Addr) (c : Nat) (w : World) (hL : LAt w A v.l) :
    Calls Tryz.prog 18 #[v.arg A c] w fun e w' => e = .returned (.int .i64 v.err) ∧ Below w.heap.size w w' := by
  unfold V.err
  by_cases h : v.selfErr = 0
  · rw [if_neg (by omega)]
    by_cases h7 : v.k = 7 ∧ 0 < v.l.length
    · exact valueFault_list v A c w hL h h7.1 h7.2
    · have hl : v.l.length = 0 := by
        by_cases hk : v.k = 7
        · exact Nat.eq_zero_of_not_pos (fun hp => h7 ⟨hk, hp⟩)
        · exact (V.leaf hk).resolve_left (by omega)
      have := valueFault_short v A c w hL.1 (.inr hl)
      rw [h] at this
      rw [itemsErr_none (fun j hj => by omega)]
      exact this
  · rw [if_pos h]
    exact valueFault_short v A c w hL.1 (.inl h)

end Go.Proofs.YtdncmjlakmkfiaaGreatDoor
