/-
  WALK: a rule's error in the reference, where its parts go together.
-/
import Derived.Test.YtjaoiehjhnmahaaGreatDoorRlb
set_option linter.all false
namespace Go.Proofs.YtjaoiehjhnmahaaGreatDoor
open Go.RowKit

set_option maxHeartbeats 6400000 in
set_option maxRecDepth 100000 in
theorem ruleFault_near (r : Rul) (v : Value) (w : World) (h : RulAt w r v) (a : 1 ≤ r.u ∧ r.u ≤ 4) (b : 1 ≤ r.e ∧ r.e ≤ 1000) (c : 0 ≤ r.f ∧ r.f ≤ 100000) (d : -1 ≤ r.t ∧ r.t ≤ 100000) (e : 0 ≤ r.c ∧ r.c ≤ 5000)
    (hP : r.partsErr = 0) (hc : (rise r.wd 0 6 true ≠ 0 ∧ r.err = rise r.wd 0 6 true) ∨ (rise r.wd 0 6 true = 0 ∧ (
    (rise r.da (-31) 31 false ≠ 0 ∧ r.err = rise r.da (-31) 31 false) ∨ (rise r.da (-31) 31 false = 0 ∧ (
    ((r.n < -5 ∨ 5 < r.n) ∧ r.err = 2) ∨ ((-5 ≤ r.n ∧ r.n ≤ 5) ∧ (
    (100 < r.sk.length ∧ r.err = 4) ∨ (r.sk.length ≤ 100 ∧ r.err = rise r.sk 0 100000 true)))))))) :
    Calls Tryz.prog 34 #[v] w fun e w' => e = .returned (.int .i64 r.err) ∧ Below w.heap.size w w' := by
  obtain ⟨A, B, C, a', b', c', rfl, h1, h2, h3, h4, h5, h6⟩ := h.ex
  obtain ⟨lw, ld, hlw, hld, hp⟩ := r.parts_cases
  have H1 := hide (fun w' hb => rising_any A a' r.wd 0 6 w' (h1.below hb) h4)
  have H3 := hide (fun w' hb => rising_any C c' r.sk 0 100000 w' (h3.below hb) h6)
  have HN := hide (fun h => rise_none (l := r.da) (lo := -31) (hi := 31) (zero := false) h)
  have HF := hide (fun k hk h hne => rise_first (l := r.da) (lo := -31) (hi := 31) (zero := false) (k := k) hk h hne)
  have HB := hide h2
  unfold maxLen at h4 h5 h6
  clear h h1 h2 h3
  generalize r.err = E at *
  generalize r.partsErr = P at *
  generalize rise r.wd 0 6 true = R1 at *
  generalize rise r.da (-31) 31 false = R2 at *
  generalize rise r.sk 0 100000 true = R3 at *
  obtain ⟨u, e, f, t, cc, n, wd, da, sk⟩ := r
  simp only at hP hc h4 h5 h6 hlw hld hp HB H1 H3 HN HF a b c d e ⊢
  rw [hlw] at h4 H1 ⊢
  rw [hld] at h5 HN HF ⊢
  generalize hls : sk.length = ls at *
  clear hls
  obtain ⟨a1, a2⟩ := a
  obtain ⟨b1, b2⟩ := b
  obtain ⟨c1, c2⟩ := c
  obtain ⟨d1, d2⟩ := d
  obtain ⟨e1, e2⟩ := e
  have HLD := hide hld
  clear hld hlw
  have HI := hide (fun w => isDay_yes f w c1 c2)
  go_enter Tryz.func34, Tryz.ntmps34
  rcases hp with ⟨⟨k1, k2, k3⟩, rfl⟩ | ⟨⟨k1, rfl⟩, k2, rfl⟩ | ⟨⟨k1, rfl⟩, rfl, rfl, rfl⟩ | ⟨⟨k1, rfl⟩, rfl, k2, rfl⟩ | ⟨⟨k1, rfl⟩, k2, rfl⟩ | ⟨⟨k1, rfl⟩, rfl, rfl, rfl⟩ | ⟨⟨k1, rfl⟩, rfl, k2, rfl⟩ | ⟨rfl, k1, k2, rfl⟩ | ⟨rfl, k1, rfl, rfl, rfl⟩ | ⟨rfl, k1, rfl, k2, rfl⟩ | ⟨rfl, rfl, rfl, rfl, rfl⟩ | ⟨rfl, rfl, rfl, k2, rfl⟩ | ⟨rfl, rfl, k1, rfl, rfl⟩ | ⟨rfl, rfl, k1, k2, rfl⟩
  all_goals try (exfalso; omega)
  all_goals
    try have q2 : (u != 2) = true := by rw [bne, k2]; rfl
    try have q3 : (u != 3) = true := by first | (rw [bne, k3]; rfl) | (rw [bne, k2]; rfl) | (rw [bne, k1]; rfl)
    try have q9 : (n != 0) = true := by rw [bne, k2]; rfl
    clear hP
    rcases hc with ⟨hR, rfl⟩ | ⟨rfl, hc⟩
    · have q1 := bne_iff_ne.2 hR
      go_wp2_with (first
        | (go_at_call 84; refine (HI.out _).mono ?_; rintro e w' ⟨rfl, rfl⟩)
        | (go_at_call 110; (with_reducible refine Calls.mono (H1.out _ (by repeat (first | exact Below.refl _ _ | refine bl_plus ?_ | refine bl_alloc ?_ _ | refine bl_drew ?_))) ?_); rintro e w' ⟨rfl, rfl⟩))
      go_ret
      exact ⟨rfl, (by repeat (first | exact Below.refl _ _ | refine bl_plus ?_ | refine bl_alloc ?_ _ | refine bl_drew ?_))⟩
    · go_wp2_with (first
        | (go_at_call 84; refine (HI.out _).mono ?_; rintro e w' ⟨rfl, rfl⟩)
        | (go_at_call 110; (with_reducible refine Calls.mono (H1.out _ (by repeat (first | exact Below.refl _ _ | refine bl_plus ?_ | refine bl_alloc ?_ _ | refine bl_drew ?_))) ?_); rintro e w' ⟨rfl, rfl⟩))
      go_loop [102] (fun i => ∃ k : Nat, k ≤ da.length ∧ i = .int .i64 k ∧ Hid (∀ j, j < k → riseAt da (-31) 31 false j = 0)) (fun i => da.length - (intOf i).toNat)
      case atStart => exact ⟨0, Nat.zero_le _, rfl, hide (fun j hj => by omega)⟩
      case round =>
        obtain ⟨k, hk, rfl, HK⟩ := hrel
        have hL := HLD.out
        by_cases hlt : k < da.length
        · have hlt2 := hlt
          rw [hL] at hlt2
          first
          | (exfalso; omega)
          | (obtain ⟨b, off, rfl, hb, hcell⟩ := HB.out (by omega)
             have c1 := hcell k hlt
             have hd : da.getD k 0 = da[k] := by rw [List.getD_eq_getElem?_getD, List.getElem?_eq_getElem hlt]; rfl
             rw [← hd] at c1
             have hf := HF.out k hlt2 HK.out
             have HC := hide hcell
             have hcases := riseAt_cases da (-31) 31 false k
             have hprev : ∀ m, k = m + 1 → w.cell? ⟨b, off + m, none⟩ = some (.int .i64 (da.getD m 0)) := fun m hm => by
               have hm2 : m < da.length := by omega
               rw [List.getD_eq_getElem?_getD, List.getElem?_eq_getElem hm2]
               exact HC.out m hm2
             have HP := hide hprev
             have HCC := hide hc
             clear hcell hd hprev hc
             rw [Bool.or_eq_true, Bool.or_eq_false_iff, decide_eq_true_eq, decide_eq_true_eq, decide_eq_false_iff_not, decide_eq_false_iff_not] at hcases
             rcases hcases with ⟨hr, h1⟩ | ⟨⟨h1, h1'⟩, ⟨hr, h2, -⟩ | ⟨h2, ⟨hr, m, rfl, h3⟩ | ⟨hr, ⟨m, rfl, h3⟩ | rfl⟩⟩⟩
             · rw [hr] at hf
               have hE : E = 2 := by have := hf (by decide); rcases HCC.out with ⟨_, h⟩ | ⟨h, _⟩ <;> omega
               subst hE
               clear hr hf hL
               generalize da.getD k 0 = x at *
               by_cases h4 : x < -31
               all_goals
                 go_wp2
                 go_ret
                 exact ⟨rfl, (by repeat (first | exact Below.refl _ _ | refine bl_plus ?_ | refine bl_alloc ?_ _ | refine bl_drew ?_))⟩
             · rw [hr] at hf
               have hE : E = 2 := by have := hf (by decide); rcases HCC.out with ⟨_, h⟩ | ⟨h, _⟩ <;> omega
               subst hE
               clear hr hf hL
               rw [h2] at c1
               go_wp2
               go_ret
               exact ⟨rfl, (by repeat (first | exact Below.refl _ _ | refine bl_plus ?_ | refine bl_alloc ?_ _ | refine bl_drew ?_))⟩
             · rw [hr] at hf
               have hE : E = 5 := by have := hf (by decide); rcases HCC.out with ⟨_, h⟩ | ⟨h, _⟩ <;> omega
               subst hE
               clear hr hf hL
               have c0 := HP.out m rfl
               generalize da.getD (m + 1) 0 = x at *
               generalize da.getD m 0 = y at *
               rcases h2 with h2 | ⟨-, h2⟩
               · have h2' := beq_eq_false_iff_ne.2 h2
                 go_wp2
                 go_ret
                 exact ⟨rfl, (by repeat (first | exact Below.refl _ _ | refine bl_plus ?_ | refine bl_alloc ?_ _ | refine bl_drew ?_))⟩
               · cases h2
             · clear hf
               have c0 := HP.out m rfl
               have HR := hide hr
               clear hr hL
               generalize da.getD (m + 1) 0 = x at *
               generalize da.getD m 0 = y at *
               rcases h2 with h2 | ⟨-, h2⟩
               · have h2' := beq_eq_false_iff_ne.2 h2
                 go_wp2
                 go_round
                 case rel =>
                   refine ⟨m + 2, by omega, by go_num, hide (fun j hj => ?_)⟩
                   rcases Nat.lt_or_ge j (m + 1) with h | h
                   · exact HK.out j h
                   · rw [show j = m + 1 by omega]; exact HR.out
                 case measure => simp [intOf]; omega
               · cases h2
             · clear hf
               have HR := hide hr
               clear hr hL
               generalize da.getD 0 0 = x at *
               rw [Nat.add_zero] at c1
               rcases h2 with h2 | ⟨-, h2⟩
               · have h2' := beq_eq_false_iff_ne.2 h2
                 go_wp2
                 go_round
                 case rel => exact ⟨1, by omega, by go_num, hide (fun j hj => by rw [show j = 0 by omega]; exact HR.out)⟩
                 case measure => simp [intOf]; omega
               · cases h2)
        · have hr : R2 = 0 := HN.out (fun j hj => HK.out j (by omega))
          have hk2 : k = da.length := by omega
          rw [hL] at hk2
          subst hk2
          have hc2 := hc.resolve_left (fun h => h.1 hr)
          obtain ⟨-, hc2⟩ := hc2
          clear hc hr hL hlt
          rcases hc2 with ⟨k1 | k1, rfl⟩ | ⟨⟨f1, f2⟩, ⟨k1, rfl⟩ | ⟨k1, rfl⟩⟩
          all_goals try (exfalso; omega)
          all_goals
            go_wp2_with (go_at_call 110; (with_reducible refine Calls.mono (H3.out _ (by repeat (first | exact Below.refl _ _ | refine bl_plus ?_ | refine bl_alloc ?_ _ | refine bl_drew ?_))) ?_); rintro e w' ⟨rfl, rfl⟩)
            go_ret
            exact ⟨rfl, (by repeat (first | exact Below.refl _ _ | refine bl_plus ?_ | refine bl_alloc ?_ _ | refine bl_drew ?_))⟩

end Go.Proofs.YtjaoiehjhnmahaaGreatDoor
