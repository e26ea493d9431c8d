/-
  WALK: the entries of an index are right.
-/
import Derived.Test.YtfpcfpjnafnjiaaSga
import Derived.Test.YtfpcfpjnafnjiaaSnb
import Derived.Deep.CutBlock
import Derived.Deep.QuietTactic
import Derived.BigQuiet
import Derived.WalkLawsBesides
set_option linter.all false
namespace Go.Proofs.Ytfpcfpjnafnjiaa
open Go.RowKit Go.Lib

set_option maxHeartbeats 12800000 in
set_option maxRecDepth 100000 in
theorem checkEntries_any (l : List En) (A : Option Addr) (c : Nat) (w : World) (hA : EnsAt w A l) :
    Calls Try.prog 28 #[.slice A l.length c] w fun e w' => e = .returned (.int .i64 (entsErr l)) ∧ Below w.heap.size w w' := by
  have hm := hA.1
  unfold maxLen at hm
  by_cases h20 : 2000 < l.length
  · rw [entsErr_many h20]
    have hn : (2000 : Int) < (l.length : Int) := by omega
    clear hA
    go_enter Try.func28, Try.ntmps28
    go_wp2
    go_ret
    exact ⟨rfl, (by repeat (first | exact Below.refl _ _ | refine bl_plus ?_ | refine bl_alloc ?_ _ | refine bl_drew ?_ | refine bl_drewN ?_ _))⟩
  have HN := hide (fun h => entsErr_none (l := l) h20 h)
  have HF := hide (fun k hk h hne => entsErr_first (l := l) (k := k) h20 hk h hne)
  have HA := hide hA
  clear hA
  generalize entsErr l = R at *
  have hn : ¬ (2000 : Int) < (l.length : Int) := by omega
  go_enter Try.func28, Try.ntmps28
  go_wp2
  clear h20 hn
  go_loopw [10] (fun i wr => ∃ (k : Nat) (os : Array Obj) (n : Nat), k ≤ l.length ∧ i = .int .i64 k ∧ Hid (∀ j, j < k → entErr l j = 0) ∧ wr = plus w os n) (fun i _ => l.length - (RowKit.intOf i).toNat)
  case atStart => exact ⟨0, #[], _, Nat.zero_le _, rfl, hide (fun j hj => by omega), plus_nil.symm⟩
  case round =>
    obtain ⟨q, os, n, hq, rfl, HK, rfl⟩ := hrel
    by_cases hlt : q < l.length
    · obtain ⟨b, o, rfl, hb, hv⟩ := HA.out.2 (by omega)
      have hf := HF.out q hlt HK.out
      have HNXT := hide (fun (h : entErr l q = 0) j (hj : j < q + 1) => (by
        rcases Nat.lt_or_ge j q with g | g
        · exact HK.out j g
        · obtain rfl : j = q := by omega
          exact h : entErr l j = 0))
      obtain ⟨c0, c1⟩ := hv q hlt
      have hcs := entErr_cases hlt
      have HV := hide hv
      clear hv HK HA HN HF
      rcases Nat.eq_zero_or_pos q with hq0 | hq0
      · have hg : decide (0 < q) = false := decide_eq_false (by omega)
        clear HV
        generalize entErr l q = E at *
        generalize gE l (q - 1) = z at *
        generalize l[q] = x at *
        obtain ⟨xid, xsz⟩ := x
        simp only at c0 c1 hcs
        rcases hcs with ⟨h1, hE⟩ | ⟨h1, ⟨hlt0, hle, hE⟩ | ⟨hgt, ⟨h2, hE⟩ | ⟨h2, hE⟩⟩⟩
        · clear hq0; have HO1 := hide (fun w => outside_yes xid 1 1000000 w h1)
          obtain rfl := hf (by omega)
          subst hE
          go_wp2_with (go_at_call 31; refine (HO1.out _).mono ?_; rintro e w' ⟨rfl, rfl⟩)
          go_ret
          exact ⟨rfl, (by repeat (first | exact Below.refl _ _ | refine bl_plus ?_ | refine bl_alloc ?_ _ | refine bl_drew ?_ | refine bl_drewN ?_ _))⟩
        · exact absurd hlt0 (by omega)
        · clear hgt hq0; have HO1 := hide (fun w => outside_no xid 1 1000000 w h1.1 h1.2)
          have HO2 := hide (fun w => outside_yes xsz 0 2000 w h2)
          obtain rfl := hf (by omega)
          subst hE
          go_upto_region 8 with (go_at_call 31; refine (HO1.out _).mono ?_; rintro e w' ⟨rfl, rfl⟩)
          go_quiet (fail)
          go_wp2_with (go_at_call 31; refine (HO2.out _).mono ?_; rintro e w' ⟨rfl, rfl⟩)
          go_ret
          exact ⟨rfl, (by repeat (first | exact Below.refl _ _ | refine bl_plus ?_ | refine bl_alloc ?_ _ | refine bl_drew ?_ | refine bl_drewN ?_ _))⟩
        · clear hgt hq0; have HO1 := hide (fun w => outside_no xid 1 1000000 w h1.1 h1.2)
          have HO2 := hide (fun w => outside_no xsz 0 2000 w h2.1 h2.2)
          subst hE
          go_upto_region 8 with (go_at_call 31; refine (HO1.out _).mono ?_; rintro e w' ⟨rfl, rfl⟩)
          go_quiet (fail)
          go_wp2_with (go_at_call 31; refine (HO2.out _).mono ?_; rintro e w' ⟨rfl, rfl⟩)
          go_roundw
          case rel => exact ⟨q + 1, _, _, hlt, by go_num, hide (HNXT.out (by trivial)), by first | rfl | (rw [plus_alloc, plus_plus, plus_drewN, plus_plus]) | (rw [plus_alloc, plus_plus]) | (simp only [plus_alloc, plus_plus, plus_drewN, plus_drew]; rfl)⟩
          case measure => simp [RowKit.intOf]; omega
      · obtain ⟨m, rfl⟩ : ∃ m, q = m + 1 := ⟨q - 1, by omega⟩
        rw [show m + 1 - 1 = m from rfl, gE_eq (show m < l.length by omega)] at hcs
        have d0 := (HV.out m (by omega)).1
        have hg : (0 : Int) < ((m + 1 : Nat) : Int) := by omega
        clear HV hq0
        generalize entErr l (m + 1) = E at *
        generalize l[m + 1] = x at *
        generalize l[m] = z at *
        obtain ⟨xid, xsz⟩ := x
        obtain ⟨zid, zsz⟩ := z
        simp only at c0 c1 d0 hcs
        rcases hcs with ⟨h1, hE⟩ | ⟨h1, ⟨hlt0, hle, hE⟩ | ⟨hgt, ⟨h2, hE⟩ | ⟨h2, hE⟩⟩⟩
        · have HO1 := hide (fun w => outside_yes xid 1 1000000 w h1)
          obtain rfl := hf (by omega)
          subst hE
          go_wp2_with (go_at_call 31; refine (HO1.out _).mono ?_; rintro e w' ⟨rfl, rfl⟩)
          go_ret
          exact ⟨rfl, (by repeat (first | exact Below.refl _ _ | refine bl_plus ?_ | refine bl_alloc ?_ _ | refine bl_drew ?_ | refine bl_drewN ?_ _))⟩
        · have HO1 := hide (fun w => outside_no xid 1 1000000 w h1.1 h1.2)
          obtain rfl := hf (by omega)
          subst hE
          clear hlt0
          go_upto_region 8 with (go_at_call 31; refine (HO1.out _).mono ?_; rintro e w' ⟨rfl, rfl⟩)
          go_quiet (fail)
          go_wp2
          go_ret
          exact ⟨rfl, (by repeat (first | exact Below.refl _ _ | refine bl_plus ?_ | refine bl_alloc ?_ _ | refine bl_drew ?_ | refine bl_drewN ?_ _))⟩
        · have hgt2 : ¬ xid ≤ zid := by omega
          clear hgt
          have HO1 := hide (fun w => outside_no xid 1 1000000 w h1.1 h1.2)
          have HO2 := hide (fun w => outside_yes xsz 0 2000 w h2)
          obtain rfl := hf (by omega)
          subst hE
          go_upto_region 8 with (go_at_call 31; refine (HO1.out _).mono ?_; rintro e w' ⟨rfl, rfl⟩)
          go_quiet (fail)
          go_wp2_with (go_at_call 31; refine (HO2.out _).mono ?_; rintro e w' ⟨rfl, rfl⟩)
          go_ret
          exact ⟨rfl, (by repeat (first | exact Below.refl _ _ | refine bl_plus ?_ | refine bl_alloc ?_ _ | refine bl_drew ?_ | refine bl_drewN ?_ _))⟩
        · have hgt2 : ¬ xid ≤ zid := by omega
          clear hgt
          have HO1 := hide (fun w => outside_no xid 1 1000000 w h1.1 h1.2)
          have HO2 := hide (fun w => outside_no xsz 0 2000 w h2.1 h2.2)
          subst hE
          go_upto_region 8 with (go_at_call 31; refine (HO1.out _).mono ?_; rintro e w' ⟨rfl, rfl⟩)
          go_quiet (fail)
          go_wp2_with (go_at_call 31; refine (HO2.out _).mono ?_; rintro e w' ⟨rfl, rfl⟩)
          go_roundw
          case rel => exact ⟨m + 2, _, _, hlt, by go_num, hide (HNXT.out (by trivial)), by first | rfl | (rw [plus_alloc, plus_plus, plus_drewN, plus_plus]) | (rw [plus_alloc, plus_plus]) | (simp only [plus_alloc, plus_plus, plus_drewN, plus_drew]; rfl)⟩
          case measure => simp [RowKit.intOf]; omega
    · have hR : R = 0 := HN.out (fun j hj => HK.out j (by omega))
      subst hR
      obtain rfl : q = l.length := by omega
      go_wp2
      go_ret
      exact ⟨rfl, (by repeat (first | exact Below.refl _ _ | refine bl_plus ?_ | refine bl_alloc ?_ _ | refine bl_drew ?_ | refine bl_drewN ?_ _))⟩

end Go.Proofs.Ytfpcfpjnafnjiaa
