/-
  WALKS: CheckStates.
-/
import Derived.Test.YtokghdcfbbogdaaStates
import Derived.Test.YtokghdcfbbogdaaWalkF
import Derived.Deep.DeepCutAuto
import Derived.Deep.RegionHeld3
namespace Go.Proofs.Ytokghdcfbbogdaa
open Go.RowKit

set_option maxHeartbeats 1600000 in
set_option maxRecDepth 100000 in
theorem checkStates_run (A : Option Addr) (c : Nat) (xs : List St) (w : World) (hA : StsAt w A xs) (hlen : xs.length ≤ 5000) :
    Calls Try.prog 48 #[.slice A xs.length c] w fun e w' => e = .returned (.int .i64 (statesErr xs)) ∧ Below w.heap.size w w' := by
  have hR : statesErr xs = statesFrom none xs := by unfold statesErr; rw [if_neg (by omega)]
  rw [hR]
  generalize hRR : statesFrom none xs = R
  have HR := hide hRR
  have HA := hide hA
  have hck := hide (fun (x : St) w => checkState_any x w)
  clear hRR hR hA
  have hlen' : ¬ (5000 : Int) < (xs.length : Int) := by omega
  go_enter Try.func48, Try.ntmps48
  go_wp2
  go_loopw [11] (fun i wr => ∃ (k : Nat) (os : Array Obj) (n : Nat), k ≤ xs.length ∧ i = .int .i64 k ∧ wr = plus w os n ∧ statesFrom (if k = 0 then none else xs[k - 1]?) (xs.drop k) = R)
    (fun i _ => xs.length - (intOf i).toNat)
  case atStart => exact ⟨0, #[], _, Nat.zero_le _, rfl, plus_nil.symm, HR.out⟩
  case round =>
    obtain ⟨k, os, n, hk, rfl, rfl, hst⟩ := hrel
    by_cases hlt : k < xs.length
    · obtain ⟨b, off, rfl, hb, hcell⟩ := HA.out (by omega)
      have hc0 := hcell k hlt
      have hdrop : xs.drop k = xs[k] :: xs.drop (k + 1) := List.drop_eq_getElem_cons hlt
      rw [hdrop] at hst
      generalize hx : xs[k] = x at hc0 hst
      obtain ⟨c0, c1, c2, c3, c4, c5, c6, c7, c8⟩ := hc0
      have hx1 := fun w => hck.out x w
      simp only [St.val] at hx1
      have Hst := hide hst
      have Hx := hide hx
      have Hc := hide hcell
      clear hst hx hcell hdrop
      by_cases he : x.err = 0
      · rw [he] at hx1
        have Hck := hide hx1
        have He := hide he
        clear hx1 he
        go_upto_region 9 with (go_at_call 43; refine (Hck.out _).mono ?_; rintro e w' ⟨rfl, hb⟩; obtain ⟨os1, n1, rfl⟩ := below_plus hb; clear hb)
        by_cases hk0 : k = 0
        · have hd : decide ((0 : Int) < (k : Int)) = false := by simp [hk0]
          have hd2 : decide (0 < k) = false := by simp [hk0]
          have Hk0 := hide hk0
          clear hk0
          go_quiet (fail)
          go_wp2
          go_roundw
          case rel => exact ⟨k + 1, _, _, hlt, by go_num, by rw [plus_alloc, plus_plus]; rfl, by have hs := Hst.out; rw [if_pos Hk0.out, statesFrom_none He.out] at hs; rw [if_neg (by omega), Nat.add_sub_cancel, List.getElem?_eq_getElem hlt, Hx.out]; exact hs⟩
          case measure => simp [intOf]; omega
        · obtain ⟨p0, p1, p2, p3, p4, p5, p6, p7, p8⟩ := Hc.out (k - 1) (by omega)
          have hprev : xs[k - 1]? = some xs[k - 1] := List.getElem?_eq_getElem (by omega)
          generalize xs[k - 1] = y at p0 p1 p2 p3 p4 p5 p6 p7 p8 hprev
          have hkp : (0 : Int) < (k : Int) := by omega
          have hd : decide ((0 : Int) < (k : Int)) = true := by simpa using hkp
          have hd2 : decide (0 < k) = true := by simpa using hkp
          have Hprev := hide hprev
          have hn1 := fun w => stateName_any y w
          have hn2 := fun w => stateName_any x w
          simp only [St.val] at hn1 hn2
          have Hn1 := hide hn1
          have Hn2 := hide hn2
          have Hk0 := hide hk0
          clear hprev hn1 hn2 hk0
          have hnc := fun w => nameCompare_any y.bl y.no x.bl x.no w
          have hge := nameCmp_ge y x
          generalize nameCmp y.bl y.no x.bl x.no = r at hnc hge
          have Hnc := hide hnc
          have hlt2 : r < 0 ∧ y.lt x ∨ 0 ≤ r ∧ ¬ y.lt x := by
            by_cases hl : y.lt x
            · exact .inl ⟨by have := mt hge.1 (by simpa using hl); omega, hl⟩
            · exact .inr ⟨hge.2 hl, hl⟩
          clear hnc hge
          rcases hlt2 with ⟨hr, hl⟩ | ⟨hr, hl⟩
          all_goals
            have Hl := hide hl
            clear hl
            have k1 : (1 : Int) ≤ (k : Int) := by omega
            have k2 : (0 : Int) ≤ (k : Int) - 1 := by omega
            have k3 : (k : Int) - 1 < (xs.length : Int) := by omega
            have k4 : ((k : Int) - 1).toNat = k - 1 := by omega
            have k5 : IntKind.i64.wrap ((k : Int) - 1) = (k : Int) - 1 := IntWalk.i64_in _ (by omega)
            go_region_held3 (fun w' => w'.cell? ⟨b, off + (k - 1) * 9, none⟩ = some (.int .i64 y.bl) ∧ w'.cell? ⟨b, off + (k - 1) * 9 + 1, none⟩ = some (.int .i64 y.no) ∧ w'.cell? ⟨b, off + (k - 1) * 9 + 2, none⟩ = some (.int .i64 y.st) ∧ w'.cell? ⟨b, off + (k - 1) * 9 + 3, none⟩ = some (.int .i64 y.ea) ∧ w'.cell? ⟨b, off + (k - 1) * 9 + 4, none⟩ = some (.int .i64 y.du) ∧ w'.cell? ⟨b, off + (k - 1) * 9 + 5, none⟩ = some (.int .i64 y.la) ∧ w'.cell? ⟨b, off + (k - 1) * 9 + 6, none⟩ = some (.int .i64 y.ti) ∧ w'.cell? ⟨b, off + (k - 1) * 9 + 7, none⟩ = some (.int .i64 y.lp) ∧ w'.cell? ⟨b, off + (k - 1) * 9 + 8, none⟩ = some (.int .i64 y.bu) ∧ w'.cell? ⟨w.heap.size + os.size, 0, none⟩ = some (.int .i64 x.bl) ∧ w'.cell? ⟨w.heap.size + os.size, 1, none⟩ = some (.int .i64 x.no) ∧ w'.cell? ⟨w.heap.size + os.size, 2, none⟩ = some (.int .i64 x.st) ∧ w'.cell? ⟨w.heap.size + os.size, 3, none⟩ = some (.int .i64 x.ea) ∧ w'.cell? ⟨w.heap.size + os.size, 4, none⟩ = some (.int .i64 x.du) ∧ w'.cell? ⟨w.heap.size + os.size, 5, none⟩ = some (.int .i64 x.la) ∧ w'.cell? ⟨w.heap.size + os.size, 6, none⟩ = some (.int .i64 x.ti) ∧ w'.cell? ⟨w.heap.size + os.size, 7, none⟩ = some (.int .i64 x.lp) ∧ w'.cell? ⟨w.heap.size + os.size, 8, none⟩ = some (.int .i64 x.bu)) (go_simp)
              (first | (go_at_call_of 54 (y.bl); refine (Hn1.out _).mono ?_; rintro e w' ⟨rfl, hb⟩; obtain ⟨os2, n2, rfl⟩ := below_plus hb; clear hb) | (go_at_call_of 54 (x.bl); refine (Hn2.out _).mono ?_; rintro e w' ⟨rfl, hb⟩; obtain ⟨os3, n3, rfl⟩ := below_plus hb; clear hb) | (go_at_call 80; refine (Hnc.out _).mono ?_; rintro e w' ⟨rfl, hb⟩; obtain ⟨os4, n4, rfl⟩ := below_plus hb; clear hb))
            clear k1 k2 k3 k4 k5 hd hd2
            go_wp2
          · go_roundw
            case rel => exact ⟨k + 1, _, _, hlt, by go_num, by rw [plus_plus, plus_plus, plus_plus, plus_alloc, plus_plus], by have hs := Hst.out; rw [if_neg Hk0.out, Hprev.out, statesFrom_lt He.out Hl.out] at hs; rw [if_neg (by omega), Nat.add_sub_cancel, List.getElem?_eq_getElem hlt, Hx.out]; exact hs⟩
            case measure => simp [intOf]; omega
          · go_returns
            exact ⟨by have hs := Hst.out; rw [if_neg Hk0.out, Hprev.out, statesFrom_ge He.out Hl.out] at hs; rw [← hs]; rfl, by repeat (first | exact Below.refl _ _ | refine bl_plus ?_ | refine bl_alloc ?_ _ | refine bl_drew ?_)⟩
      · have hs := Hst.out
        rw [statesFrom_bad he] at hs
        generalize x.err = r at hx1 he hs
        have hr0 : (r == 0) = false := by simp [he]
        have Hck := hide hx1
        clear hx1
        have Hs := hide hs
        clear he hs
        go_wp2_with (go_at_call 43; refine (Hck.out _).mono ?_; rintro e w' ⟨rfl, hb⟩; obtain ⟨os1, n1, rfl⟩ := below_plus hb; clear hb)
        go_returns
        exact ⟨by rw [← Hs.out]; rfl, by repeat (first | exact Below.refl _ _ | refine bl_plus ?_ | refine bl_alloc ?_ _ | refine bl_drew ?_)⟩
    · have hkl : k = xs.length := by omega
      have Hst := hide hst
      clear hst
      go_wp2
      go_returns
      exact ⟨by have hs := Hst.out; rw [hkl, List.drop_length] at hs; rw [← hs]; rfl, by repeat (first | exact Below.refl _ _ | refine bl_plus ?_ | refine bl_alloc ?_ _ | refine bl_drew ?_)⟩

set_option maxHeartbeats 400000 in
theorem checkStates_long (A : Option Addr) (c : Nat) (xs : List St) (w : World) (hlen : 5000 < xs.length) :
    Calls Try.prog 48 #[.slice A xs.length c] w fun e w' => e = .returned (.int .i64 (statesErr xs)) ∧ Below w.heap.size w w' := by
  have hR : statesErr xs = 4 := by unfold statesErr; rw [if_pos hlen]
  rw [hR]
  clear hR
  have hlen' : (5000 : Int) < (xs.length : Int) := by omega
  go_enter Try.func48, Try.ntmps48
  go_wp2
  go_returns
  exact ⟨rfl, Below.refl _ _⟩

theorem checkStates_any (A : Option Addr) (c : Nat) (xs : List St) (w : World) (hA : StsAt w A xs) :
    Calls Try.prog 48 #[.slice A xs.length c] w fun e w' => e = .returned (.int .i64 (statesErr xs)) ∧ Below w.heap.size w w' := by
  by_cases h : xs.length ≤ 5000
  · exact checkStates_run A c xs w hA h
  · exact checkStates_long A c xs w (by omega)

end Go.Proofs.Ytokghdcfbbogdaa
/-
  WALKS: StatesFault, the reference's CheckStates.
-/
namespace Go.Proofs.Ytokghdcfbbogdaa
open Go.RowKit

set_option maxHeartbeats 1600000 in
set_option maxRecDepth 100000 in
theorem statesFault_run (A : Option Addr) (c : Nat) (xs : List St) (w : World) (hA : StsAt w A xs) (hlen : xs.length ≤ 5000) :
    Calls Try.prog 49 #[.slice A xs.length c] w fun e w' => e = .returned (.int .i64 (statesErr xs)) ∧ Below w.heap.size w w' := by
  have hR : statesErr xs = statesFrom none xs := by unfold statesErr; rw [if_neg (by omega)]
  rw [hR]
  generalize hRR : statesFrom none xs = R
  have HR := hide hRR
  have HA := hide hA
  have hck := hide (fun (x : St) w => stateFault_any x w)
  clear hRR hR hA
  have hlen' : ¬ (5000 : Int) < (xs.length : Int) := by omega
  go_enter Try.func49, Try.ntmps49
  go_wp2
  go_loopw [11] (fun i wr => ∃ (k : Nat) (os : Array Obj) (n : Nat), k ≤ xs.length ∧ i = .int .i64 k ∧ wr = plus w os n ∧ statesFrom (if k = 0 then none else xs[k - 1]?) (xs.drop k) = R)
    (fun i _ => xs.length - (intOf i).toNat)
  case atStart => exact ⟨0, #[], _, Nat.zero_le _, rfl, plus_nil.symm, HR.out⟩
  case round =>
    obtain ⟨k, os, n, hk, rfl, rfl, hst⟩ := hrel
    by_cases hlt : k < xs.length
    · obtain ⟨b, off, rfl, hb, hcell⟩ := HA.out (by omega)
      have hc0 := hcell k hlt
      have hdrop : xs.drop k = xs[k] :: xs.drop (k + 1) := List.drop_eq_getElem_cons hlt
      rw [hdrop] at hst
      generalize hx : xs[k] = x at hc0 hst
      obtain ⟨c0, c1, c2, c3, c4, c5, c6, c7, c8⟩ := hc0
      have hx1 := fun w => hck.out x w
      simp only [St.val] at hx1
      have Hst := hide hst
      have Hx := hide hx
      have Hc := hide hcell
      clear hst hx hcell hdrop
      by_cases he : x.err = 0
      · rw [he] at hx1
        have Hck := hide hx1
        have He := hide he
        clear hx1 he
        go_upto_region 9 with (go_at_call 58; refine (Hck.out _).mono ?_; rintro e w' ⟨rfl, hb⟩; obtain ⟨os1, n1, rfl⟩ := below_plus hb; clear hb)
        by_cases hk0 : k = 0
        · have hd : decide ((0 : Int) < (k : Int)) = false := by simp [hk0]
          have hd2 : decide (0 < k) = false := by simp [hk0]
          have Hk0 := hide hk0
          clear hk0
          go_quiet (fail)
          go_wp2
          go_roundw
          case rel => exact ⟨k + 1, _, _, hlt, by go_num, by rw [plus_alloc, plus_plus]; rfl, by have hs := Hst.out; rw [if_pos Hk0.out, statesFrom_none He.out] at hs; rw [if_neg (by omega), Nat.add_sub_cancel, List.getElem?_eq_getElem hlt, Hx.out]; exact hs⟩
          case measure => simp [intOf]; omega
        · obtain ⟨p0, p1, p2, p3, p4, p5, p6, p7, p8⟩ := Hc.out (k - 1) (by omega)
          have hprev : xs[k - 1]? = some xs[k - 1] := List.getElem?_eq_getElem (by omega)
          generalize xs[k - 1] = y at p0 p1 p2 p3 p4 p5 p6 p7 p8 hprev
          have hkp : (0 : Int) < (k : Int) := by omega
          have hd : decide ((0 : Int) < (k : Int)) = true := by simpa using hkp
          have hd2 : decide (0 < k) = true := by simpa using hkp
          have Hprev := hide hprev
          have Hk0 := hide hk0
          clear hprev hk0
          have hnc := fun w => order_any y x w
          simp only [St.val] at hnc
          have hge := nameCmp_ge y x
          generalize nameCmp y.bl y.no x.bl x.no = r at hnc hge
          have Hnc := hide hnc
          have hlt2 : r < 0 ∧ y.lt x ∨ 0 ≤ r ∧ ¬ y.lt x := by
            by_cases hl : y.lt x
            · exact .inl ⟨by have := mt hge.1 (by simpa using hl); omega, hl⟩
            · exact .inr ⟨hge.2 hl, hl⟩
          clear hnc hge
          rcases hlt2 with ⟨hr, hl⟩ | ⟨hr, hl⟩
          all_goals
            have Hl := hide hl
            clear hl
            have k1 : (1 : Int) ≤ (k : Int) := by omega
            have k2 : (0 : Int) ≤ (k : Int) - 1 := by omega
            have k3 : (k : Int) - 1 < (xs.length : Int) := by omega
            have k4 : ((k : Int) - 1).toNat = k - 1 := by omega
            have k5 : IntKind.i64.wrap ((k : Int) - 1) = (k : Int) - 1 := IntWalk.i64_in _ (by omega)
            go_region_held3 (fun w' => w'.cell? ⟨b, off + (k - 1) * 9, none⟩ = some (.int .i64 y.bl) ∧ w'.cell? ⟨b, off + (k - 1) * 9 + 1, none⟩ = some (.int .i64 y.no) ∧ w'.cell? ⟨b, off + (k - 1) * 9 + 2, none⟩ = some (.int .i64 y.st) ∧ w'.cell? ⟨b, off + (k - 1) * 9 + 3, none⟩ = some (.int .i64 y.ea) ∧ w'.cell? ⟨b, off + (k - 1) * 9 + 4, none⟩ = some (.int .i64 y.du) ∧ w'.cell? ⟨b, off + (k - 1) * 9 + 5, none⟩ = some (.int .i64 y.la) ∧ w'.cell? ⟨b, off + (k - 1) * 9 + 6, none⟩ = some (.int .i64 y.ti) ∧ w'.cell? ⟨b, off + (k - 1) * 9 + 7, none⟩ = some (.int .i64 y.lp) ∧ w'.cell? ⟨b, off + (k - 1) * 9 + 8, none⟩ = some (.int .i64 y.bu) ∧ w'.cell? ⟨w.heap.size + os.size, 0, none⟩ = some (.int .i64 x.bl) ∧ w'.cell? ⟨w.heap.size + os.size, 1, none⟩ = some (.int .i64 x.no) ∧ w'.cell? ⟨w.heap.size + os.size, 2, none⟩ = some (.int .i64 x.st) ∧ w'.cell? ⟨w.heap.size + os.size, 3, none⟩ = some (.int .i64 x.ea) ∧ w'.cell? ⟨w.heap.size + os.size, 4, none⟩ = some (.int .i64 x.du) ∧ w'.cell? ⟨w.heap.size + os.size, 5, none⟩ = some (.int .i64 x.la) ∧ w'.cell? ⟨w.heap.size + os.size, 6, none⟩ = some (.int .i64 x.ti) ∧ w'.cell? ⟨w.heap.size + os.size, 7, none⟩ = some (.int .i64 x.lp) ∧ w'.cell? ⟨w.heap.size + os.size, 8, none⟩ = some (.int .i64 x.bu)) (go_simp)
              (first | (go_at_call 83; refine (Hnc.out _).mono ?_; rintro e w' ⟨rfl, hb⟩; obtain ⟨os4, n4, rfl⟩ := below_plus hb; clear hb))
            clear k1 k2 k3 k4 k5 hd hd2
            go_wp2
          · go_roundw
            case rel => exact ⟨k + 1, _, _, hlt, by go_num, by rw [plus_plus, plus_alloc, plus_plus], by have hs := Hst.out; rw [if_neg Hk0.out, Hprev.out, statesFrom_lt He.out Hl.out] at hs; rw [if_neg (by omega), Nat.add_sub_cancel, List.getElem?_eq_getElem hlt, Hx.out]; exact hs⟩
            case measure => simp [intOf]; omega
          · go_returns
            exact ⟨by have hs := Hst.out; rw [if_neg Hk0.out, Hprev.out, statesFrom_ge He.out Hl.out] at hs; rw [← hs]; rfl, by repeat (first | exact Below.refl _ _ | refine bl_plus ?_ | refine bl_alloc ?_ _ | refine bl_drew ?_)⟩
      · have hs := Hst.out
        rw [statesFrom_bad he] at hs
        generalize x.err = r at hx1 he hs
        have hr0 : (r == 0) = false := by simp [he]
        have Hck := hide hx1
        clear hx1
        have Hs := hide hs
        clear he hs
        go_wp2_with (go_at_call 58; refine (Hck.out _).mono ?_; rintro e w' ⟨rfl, hb⟩; obtain ⟨os1, n1, rfl⟩ := below_plus hb; clear hb)
        go_returns
        exact ⟨by rw [← Hs.out]; rfl, by repeat (first | exact Below.refl _ _ | refine bl_plus ?_ | refine bl_alloc ?_ _ | refine bl_drew ?_)⟩
    · have hkl : k = xs.length := by omega
      have Hst := hide hst
      clear hst
      go_wp2
      go_returns
      exact ⟨by have hs := Hst.out; rw [hkl, List.drop_length] at hs; rw [← hs]; rfl, by repeat (first | exact Below.refl _ _ | refine bl_plus ?_ | refine bl_alloc ?_ _ | refine bl_drew ?_)⟩

set_option maxHeartbeats 400000 in
theorem statesFault_long (A : Option Addr) (c : Nat) (xs : List St) (w : World) (hlen : 5000 < xs.length) :
    Calls Try.prog 49 #[.slice A xs.length c] w fun e w' => e = .returned (.int .i64 (statesErr xs)) ∧ Below w.heap.size w w' := by
  have hR : statesErr xs = 4 := by unfold statesErr; rw [if_pos hlen]
  rw [hR]
  clear hR
  have hlen' : (5000 : Int) < (xs.length : Int) := by omega
  go_enter Try.func49, Try.ntmps49
  go_wp2
  go_returns
  exact ⟨rfl, Below.refl _ _⟩

theorem statesFault_any (A : Option Addr) (c : Nat) (xs : List St) (w : World) (hA : StsAt w A xs) :
    Calls Try.prog 49 #[.slice A xs.length c] w fun e w' => e = .returned (.int .i64 (statesErr xs)) ∧ Below w.heap.size w w' := by
  by_cases h : xs.length ≤ 5000
  · exact statesFault_run A c xs w hA h
  · exact statesFault_long A c xs w (by omega)

end Go.Proofs.Ytokghdcfbbogdaa
