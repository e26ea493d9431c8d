/-
  WALK: a list of properties is right, in the program.
-/
import Derived.Test.YtioppoaijehicaaGreatDoorPpa
import Derived.Deep.CutBlock
import Derived.Deep.QuietTactic
import Derived.BigQuiet
import Derived.WalkLawsBesides
set_option linter.all false
namespace Go.Proofs.YtioppoaijehicaaGreatDoor
open Go.RowKit Go.Lib

set_option maxHeartbeats 12800000 in
set_option maxRecDepth 100000 in
theorem checkProps_any (l : List PR) (A : Option Addr) (c : Nat) (w : World) (hA : PsAt w A l) :
    Calls Tryz.prog 64 #[.slice A l.length c] w fun e w' => e = .returned (.int .i64 (propsErr l)) ∧ Below w.heap.size w w' := by
  have hm := hA.1
  unfold maxLen at hm
  by_cases h20 : 20 < l.length
  · rw [propErr_large h20]
    have hn : (20 : Int) < (l.length : Int) := by omega
    clear hA
    go_enter Tryz.func64, Tryz.ntmps64
    go_wp2
    go_ret
    exact ⟨rfl, (by repeat (first | exact Below.refl _ _ | refine bl_plus ?_ | refine bl_alloc ?_ _ | refine bl_drew ?_ | refine bl_drewN ?_ _))⟩
  have HN := hide (fun h => propErr_none (l := l) h (by omega))
  have HF := hide (fun k hk h hne => propErr_first (l := l) (k := k) (by omega) hk h hne)
  have HA := hide hA
  clear hA
  generalize propsErr l = R at *
  have hn : ¬ (20 : Int) < (l.length : Int) := by omega
  go_enter Tryz.func64, Tryz.ntmps64
  go_wp2
  clear h20 hn
  go_loopw [12] (fun i wr => ∃ (k : Nat) (os : Array Obj) (n : Nat), k ≤ l.length ∧ i = .int .i64 k ∧ Hid (∀ j, j < k → propErrAt l j = 0) ∧ wr = plus w os n) (fun i _ => l.length - (intOf i).toNat)
  case atStart => exact ⟨0, #[], _, Nat.zero_le _, rfl, hide (fun j hj => by omega), plus_nil.symm⟩
  case round =>
    obtain ⟨q, os, n, hq, rfl, HK, rfl⟩ := hrel
    by_cases hlt : q < l.length
    · obtain ⟨b, o, rfl, hb, hv⟩ := HA.out.2 (by omega)
      have hf := HF.out q hlt HK.out
      have HNXT := hide (fun (h : propErrAt l q = 0) j (hj : j < q + 1) => (by
        rcases Nat.lt_or_ge j q with g | g
        · exact HK.out j g
        · obtain rfl : j = q := by omega
          exact h : propErrAt l j = 0))
      obtain ⟨c0, hns, c1, c2, c3, c4, A2, e2, c5, hL2⟩ := (hv q hlt).cells
      unfold maxLen at hns
      have HCN := hide (fun w => checkName_any l[q].n w)
      have HCV := hide (fun w' (hbw : Below w.heap.size w w') => checkValue_any l[q].v A2 e2 w' (hL2.below hbw))
      have HV := hide hv
      clear hv hL2 HK HA HN HF hns
      rcases Nat.eq_zero_or_pos q with hq0 | hq0
      · have hcs := propErr_zero hlt hq0
        have hg : decide (0 < q) = false := decide_eq_false (by omega)
        clear HV hq0
        generalize propErrAt l q = E at *
        have hne2 := nameErr_cases l[q].n
        generalize nameErr l[q].n = NE at *
        generalize hbn : isName l[q].n.data.toList = NB at *
        clear hbn
        generalize l[q].v.err = VE at *
        generalize l[q] = x at *
        obtain ⟨xn, ⟨xk, xi, xt, xs, xl⟩⟩ := x
        simp only [V.arg, V.k, V.i, V.t, V.s, V.l] at *
        rcases hcs with ⟨hN, hE⟩ | ⟨hN, ⟨hk0, hE⟩ | ⟨hk0, hE⟩⟩
        all_goals (subst hN; rcases hne2 with ⟨g1, g2⟩ | ⟨g1, g2⟩ <;> (try (exfalso; omega)); subst g2; clear g1)
        · subst hE
          obtain rfl := hf (by decide)
          clear HNXT HCV
          go_wp2_with (go_at_call 99; refine (HCN.out _).mono ?_; rintro e w' ⟨rfl, hbl⟩; obtain ⟨os1, n1, rfl⟩ := below_plus hbl; clear hbl)
          go_ret
          exact ⟨rfl, (by repeat (first | exact Below.refl _ _ | refine bl_plus ?_ | refine bl_alloc ?_ _ | refine bl_drew ?_ | refine bl_drewN ?_ _))⟩
        · subst hE
          obtain rfl := hf (by decide)
          clear HNXT HCV
          subst hk0
          go_upto_region 9 with (go_at_call 99; refine (HCN.out _).mono ?_; rintro e w' ⟨rfl, hbl⟩; obtain ⟨os1, n1, rfl⟩ := below_plus hbl; clear hbl)
          go_quiet (fail)
          go_wp2
          go_ret
          exact ⟨rfl, (by repeat (first | exact Below.refl _ _ | refine bl_plus ?_ | refine bl_alloc ?_ _ | refine bl_drew ?_ | refine bl_drewN ?_ _))⟩
        · have j0 : (xk == 0) = false := beq_eq_false_iff_ne.2 hk0
          clear hk0
          subst hE
          by_cases hz : E = 0
          · subst hz
            clear hf
            go_upto_region 9 with (go_at_call 99; refine (HCN.out _).mono ?_; rintro e w' ⟨rfl, hbl⟩; obtain ⟨os1, n1, rfl⟩ := below_plus hbl; clear hbl)
            go_quiet (fail)
            go_wp2_with (go_at_call 100; refine (HCV.out _ ?hbw).mono ?_; (case hbw => repeat (first | exact Below.refl _ _ | refine bl_plus ?_ | refine bl_alloc ?_ _ | refine bl_drew ?_ | refine bl_drewN ?_ _)); rintro e w' ⟨rfl, hbl⟩; obtain ⟨os2, n2, rfl⟩ := below_plus hbl; clear hbl)
            go_roundw
            case rel => exact ⟨q + 1, _, _, hlt, by go_num, hide (HNXT.out (by trivial)), by first | rfl | (rw [plus_alloc, plus_plus, plus_drewN, plus_plus]) | (rw [plus_alloc, plus_plus])⟩
            case measure => simp [intOf]; omega
          · obtain rfl := hf hz
            have q1 := bne_iff_ne.2 hz
            clear hz HNXT
            go_upto_region 9 with (go_at_call 99; refine (HCN.out _).mono ?_; rintro e w' ⟨rfl, hbl⟩; obtain ⟨os1, n1, rfl⟩ := below_plus hbl; clear hbl)
            go_quiet (fail)
            go_wp2_with (go_at_call 100; refine (HCV.out _ ?hbw).mono ?_; (case hbw => repeat (first | exact Below.refl _ _ | refine bl_plus ?_ | refine bl_alloc ?_ _ | refine bl_drew ?_ | refine bl_drewN ?_ _)); rintro e w' ⟨rfl, hbl⟩; obtain ⟨os2, n2, rfl⟩ := below_plus hbl; clear hbl)
            go_ret
            exact ⟨rfl, (by repeat (first | exact Below.refl _ _ | refine bl_plus ?_ | refine bl_alloc ?_ _ | refine bl_drew ?_ | refine bl_drewN ?_ _))⟩
      · obtain ⟨m, rfl⟩ : ∃ m, q = m + 1 := ⟨q - 1, by omega⟩
        have hcs := propErr_more (l := l) (i := m) hlt
        have d0 := (HV.out m (by omega)).1
        have hg : (0 : Int) < ((m + 1 : Nat) : Int) := by omega
        unfold nameLe at hcs
        clear HV hq0
        generalize propErrAt l (m + 1) = E at *
        have hne2 := nameErr_cases l[m + 1].n
        generalize nameErr l[m + 1].n = NE at *
        generalize hbn : isName l[m + 1].n.data.toList = NB at *
        clear hbn
        generalize l[m + 1].v.err = VE at *
        generalize l[m + 1] = x at *
        generalize l[m] = y at *
        obtain ⟨xn, ⟨xk, xi, xt, xs, xl⟩⟩ := x
        obtain ⟨yn, yv⟩ := y
        simp only [V.arg, V.k, V.i, V.t, V.s, V.l] at *
        rcases hcs with ⟨hN, hE⟩ | ⟨hN, ⟨hle, hE⟩ | ⟨hle, ⟨hk0, hE⟩ | ⟨hk0, hE⟩⟩⟩
        all_goals (subst hN; rcases hne2 with ⟨g1, g2⟩ | ⟨g1, g2⟩ <;> (try (exfalso; omega)); subst g2; clear g1)
        · subst hE
          obtain rfl := hf (by decide)
          clear HNXT HCV
          go_wp2_with (go_at_call 99; refine (HCN.out _).mono ?_; rintro e w' ⟨rfl, hbl⟩; obtain ⟨os1, n1, rfl⟩ := below_plus hbl; clear hbl)
          go_ret
          exact ⟨rfl, (by repeat (first | exact Below.refl _ _ | refine bl_plus ?_ | refine bl_alloc ?_ _ | refine bl_drew ?_ | refine bl_drewN ?_ _))⟩
        · subst hE
          obtain rfl := hf (by decide)
          clear HNXT HCV
          go_upto_region 9 with (go_at_call 99; refine (HCN.out _).mono ?_; rintro e w' ⟨rfl, hbl⟩; obtain ⟨os1, n1, rfl⟩ := below_plus hbl; clear hbl)
          go_quiet (fail)
          go_wp2
          go_ret
          exact ⟨rfl, (by repeat (first | exact Below.refl _ _ | refine bl_plus ?_ | refine bl_alloc ?_ _ | refine bl_drew ?_ | refine bl_drewN ?_ _))⟩
        · subst hE
          obtain rfl := hf (by decide)
          clear HNXT HCV
          subst hk0
          go_upto_region 9 with (go_at_call 99; refine (HCN.out _).mono ?_; rintro e w' ⟨rfl, hbl⟩; obtain ⟨os1, n1, rfl⟩ := below_plus hbl; clear hbl)
          go_quiet (fail)
          go_wp2
          go_ret
          exact ⟨rfl, (by repeat (first | exact Below.refl _ _ | refine bl_plus ?_ | refine bl_alloc ?_ _ | refine bl_drew ?_ | refine bl_drewN ?_ _))⟩
        · have j0 : (xk == 0) = false := beq_eq_false_iff_ne.2 hk0
          clear hk0
          subst hE
          by_cases hz : E = 0
          · subst hz
            clear hf
            go_upto_region 9 with (go_at_call 99; refine (HCN.out _).mono ?_; rintro e w' ⟨rfl, hbl⟩; obtain ⟨os1, n1, rfl⟩ := below_plus hbl; clear hbl)
            go_quiet (fail)
            go_wp2_with (go_at_call 100; refine (HCV.out _ ?hbw).mono ?_; (case hbw => repeat (first | exact Below.refl _ _ | refine bl_plus ?_ | refine bl_alloc ?_ _ | refine bl_drew ?_ | refine bl_drewN ?_ _)); rintro e w' ⟨rfl, hbl⟩; obtain ⟨os2, n2, rfl⟩ := below_plus hbl; clear hbl)
            go_roundw
            case rel => exact ⟨m + 2, _, _, hlt, by go_num, hide (HNXT.out (by trivial)), by first | rfl | (rw [plus_alloc, plus_plus, plus_drewN, plus_plus]) | (rw [plus_alloc, plus_plus])⟩
            case measure => simp [intOf]; omega
          · obtain rfl := hf hz
            have q1 := bne_iff_ne.2 hz
            clear hz HNXT
            go_upto_region 9 with (go_at_call 99; refine (HCN.out _).mono ?_; rintro e w' ⟨rfl, hbl⟩; obtain ⟨os1, n1, rfl⟩ := below_plus hbl; clear hbl)
            go_quiet (fail)
            go_wp2_with (go_at_call 100; refine (HCV.out _ ?hbw).mono ?_; (case hbw => repeat (first | exact Below.refl _ _ | refine bl_plus ?_ | refine bl_alloc ?_ _ | refine bl_drew ?_ | refine bl_drewN ?_ _)); rintro e w' ⟨rfl, hbl⟩; obtain ⟨os2, n2, rfl⟩ := below_plus hbl; clear hbl)
            go_ret
            exact ⟨rfl, (by repeat (first | exact Below.refl _ _ | refine bl_plus ?_ | refine bl_alloc ?_ _ | refine bl_drew ?_ | refine bl_drewN ?_ _))⟩
    · have hR : R = 0 := HN.out (fun j hj => HK.out j (by omega))
      subst hR
      obtain rfl : q = l.length := by omega
      go_wp2
      go_ret
      exact ⟨rfl, (by repeat (first | exact Below.refl _ _ | refine bl_plus ?_ | refine bl_alloc ?_ _ | refine bl_drew ?_ | refine bl_drewN ?_ _))⟩

end Go.Proofs.YtioppoaijehicaaGreatDoor
