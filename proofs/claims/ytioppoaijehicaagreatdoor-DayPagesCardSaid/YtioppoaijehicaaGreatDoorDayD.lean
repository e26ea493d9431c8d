/-
  WALKS: the program's date of a day, its week; so many months later, in the program and in the reference.
-/
import Derived.Test.YtioppoaijehicaaGreatDoorDayE
set_option linter.all false
namespace Go.Proofs.YtioppoaijehicaaGreatDoor
open Go.RowKit Cal
attribute [local go_sem high] run_min_i

theorem lens_size (y : Int) : (lens y).size = 12 := rfl

theorem run_lens0 (x : Int) (w : World) : (Instr.index 156 (.agg #[.int .i64 31, .int .i64 x, .int .i64 31, .int .i64 30, .int .i64 31, .int .i64 30, .int .i64 31, .int .i64 31, .int .i64 30, .int .i64 31, .int .i64 30, .int .i64 31]) (.int .i64 0)).run Tryz.prog w = .ok (.int .i64 31) w := by kernel_rfl

theorem run_lens1 (x : Int) (w : World) : (Instr.index 156 (.agg #[.int .i64 31, .int .i64 x, .int .i64 31, .int .i64 30, .int .i64 31, .int .i64 30, .int .i64 31, .int .i64 31, .int .i64 30, .int .i64 31, .int .i64 30, .int .i64 31]) (.int .i64 1)).run Tryz.prog w = .ok (.int .i64 x) w := by kernel_rfl

theorem run_lens2 (x : Int) (w : World) : (Instr.index 156 (.agg #[.int .i64 31, .int .i64 x, .int .i64 31, .int .i64 30, .int .i64 31, .int .i64 30, .int .i64 31, .int .i64 31, .int .i64 30, .int .i64 31, .int .i64 30, .int .i64 31]) (.int .i64 2)).run Tryz.prog w = .ok (.int .i64 31) w := by kernel_rfl

theorem run_lens3 (x : Int) (w : World) : (Instr.index 156 (.agg #[.int .i64 31, .int .i64 x, .int .i64 31, .int .i64 30, .int .i64 31, .int .i64 30, .int .i64 31, .int .i64 31, .int .i64 30, .int .i64 31, .int .i64 30, .int .i64 31]) (.int .i64 3)).run Tryz.prog w = .ok (.int .i64 30) w := by kernel_rfl

theorem run_lens4 (x : Int) (w : World) : (Instr.index 156 (.agg #[.int .i64 31, .int .i64 x, .int .i64 31, .int .i64 30, .int .i64 31, .int .i64 30, .int .i64 31, .int .i64 31, .int .i64 30, .int .i64 31, .int .i64 30, .int .i64 31]) (.int .i64 4)).run Tryz.prog w = .ok (.int .i64 31) w := by kernel_rfl

theorem run_lens5 (x : Int) (w : World) : (Instr.index 156 (.agg #[.int .i64 31, .int .i64 x, .int .i64 31, .int .i64 30, .int .i64 31, .int .i64 30, .int .i64 31, .int .i64 31, .int .i64 30, .int .i64 31, .int .i64 30, .int .i64 31]) (.int .i64 5)).run Tryz.prog w = .ok (.int .i64 30) w := by kernel_rfl

theorem run_lens6 (x : Int) (w : World) : (Instr.index 156 (.agg #[.int .i64 31, .int .i64 x, .int .i64 31, .int .i64 30, .int .i64 31, .int .i64 30, .int .i64 31, .int .i64 31, .int .i64 30, .int .i64 31, .int .i64 30, .int .i64 31]) (.int .i64 6)).run Tryz.prog w = .ok (.int .i64 31) w := by kernel_rfl

theorem run_lens7 (x : Int) (w : World) : (Instr.index 156 (.agg #[.int .i64 31, .int .i64 x, .int .i64 31, .int .i64 30, .int .i64 31, .int .i64 30, .int .i64 31, .int .i64 31, .int .i64 30, .int .i64 31, .int .i64 30, .int .i64 31]) (.int .i64 7)).run Tryz.prog w = .ok (.int .i64 31) w := by kernel_rfl

theorem run_lens8 (x : Int) (w : World) : (Instr.index 156 (.agg #[.int .i64 31, .int .i64 x, .int .i64 31, .int .i64 30, .int .i64 31, .int .i64 30, .int .i64 31, .int .i64 31, .int .i64 30, .int .i64 31, .int .i64 30, .int .i64 31]) (.int .i64 8)).run Tryz.prog w = .ok (.int .i64 30) w := by kernel_rfl

theorem run_lens9 (x : Int) (w : World) : (Instr.index 156 (.agg #[.int .i64 31, .int .i64 x, .int .i64 31, .int .i64 30, .int .i64 31, .int .i64 30, .int .i64 31, .int .i64 31, .int .i64 30, .int .i64 31, .int .i64 30, .int .i64 31]) (.int .i64 9)).run Tryz.prog w = .ok (.int .i64 31) w := by kernel_rfl

theorem run_lens10 (x : Int) (w : World) : (Instr.index 156 (.agg #[.int .i64 31, .int .i64 x, .int .i64 31, .int .i64 30, .int .i64 31, .int .i64 30, .int .i64 31, .int .i64 31, .int .i64 30, .int .i64 31, .int .i64 30, .int .i64 31]) (.int .i64 10)).run Tryz.prog w = .ok (.int .i64 30) w := by kernel_rfl

theorem run_lens11 (x : Int) (w : World) : (Instr.index 156 (.agg #[.int .i64 31, .int .i64 x, .int .i64 31, .int .i64 30, .int .i64 31, .int .i64 30, .int .i64 31, .int .i64 31, .int .i64 30, .int .i64 31, .int .i64 30, .int .i64 31]) (.int .i64 11)).run Tryz.prog w = .ok (.int .i64 31) w := by kernel_rfl

theorem run_lens (y : Int) : ∀ (k : Nat), k < 12 → ∀ w, (Instr.index 156 (.agg (lens y)) (.int .i64 k)).run Tryz.prog w = .ok (.int .i64 (mlen y (k + 1))) w
  | 0, _, w => run_lens0 _ w
  | 1, _, w => run_lens1 _ w
  | 2, _, w => run_lens2 _ w
  | 3, _, w => run_lens3 _ w
  | 4, _, w => run_lens4 _ w
  | 5, _, w => run_lens5 _ w
  | 6, _, w => run_lens6 _ w
  | 7, _, w => run_lens7 _ w
  | 8, _, w => run_lens8 _ w
  | 9, _, w => run_lens9 _ w
  | 10, _, w => run_lens10 _ w
  | 11, _, w => run_lens11 _ w
  | k + 12, h, _ => by omega

theorem year_guess {d : Int} (h : 0 ≤ d) : yd (2001 + d / 366) ≤ d := by unfold yd; omega

theorem parts_is {d y m : Int} (h1 : 1 ≤ m) (h2 : m ≤ 12) (h3 : 0 ≤ d - yd y - cum y m) (h4 : d - yd y - cum y m < mlen y m) : parts d = ⟨y, m, d - yd y - cum y m + 1⟩ := by
  have h := parts_num (a := ⟨y, m, d - yd y - cum y m + 1⟩) ⟨h1, h2, by show 1 ≤ d - yd y - cum y m + 1; omega, by show d - yd y - cum y m + 1 ≤ mlen y m; omega⟩
  have e : Date.num ⟨y, m, d - yd y - cum y m + 1⟩ = d := by
    show num y m (d - yd y - cum y m + 1) = d
    unfold num; omega
  rwa [e] at h

def Parts3 (P : Date) (w : World) (e : Ending) (w' : World) : Prop := e = .returned (.tuple #[.int .i64 P.y, .int .i64 P.m, .int .i64 P.d]) ∧ Below w.heap.size w w'

set_option maxHeartbeats 3200000 in
set_option maxRecDepth 100000 in
theorem dateAt_any (d : Int) (w : World) (h0 : 0 ≤ d) (h1 : d ≤ 200000) :
    Calls Tryz.prog 90 #[.int .i64 d] w (Parts3 (parts d) w) := by
  have hg := year_guess h0
  have hq : 0 ≤ d / 366 ∧ d / 366 ≤ 600 := by omega
  obtain ⟨q0, q1⟩ := hq
  have HG := hide hg
  clear hg
  have hbe := fun (y : Int) (hy : 1 ≤ y) (hy2 : y ≤ 100000) w => before_any y w hy hy2
  have HBE := hide hbe
  clear hbe
  go_enter Tryz.func90, Tryz.ntmps90
  go_wp2_with fail
  go_loop [2] (fun v => ∃ y : Int, 2001 ≤ y ∧ y ≤ 3000 ∧ Hid (yd y ≤ d) ∧ v = .int .i64 y) (fun v => (3000 - intOf v).toNat)
  case atStart => exact ⟨2001 + d / 366, by omega, by omega, HG, rfl⟩
  case round =>
    clear HG
    obtain ⟨y, hy0, hy1, HY, rfl⟩ := hrel
    have hB := fun w => HBE.out (y + 1) (by omega) (by omega) w
    by_cases hc : yd (y + 1) ≤ d
    · have hy2 : y < 3000 := by
        unfold yd at hc; omega
      have HC := hide hc
      generalize hDD : yd (y + 1) = D at hc hB
      have HB := hide hB
      clear hB hDD
      go_wp2_with (go_at_call 129; refine (HB.out _).mono ?_; rintro e w' ⟨rfl, rfl⟩)
      go_round
      case rel => exact ⟨y + 1, by omega, by omega, HC, rfl⟩
      case measure => simp [intOf]; omega
    · have hs := yd_succ y
      have hlp := lp_01 y
      have hyy := HY.out
      have hA := fun w => HBE.out y (by omega) (by omega) w
      have hl := fun w => lengths_any y w (by omega) (by omega)
      have h13 := cum_13 y
      have hrest : 0 ≤ d - yd y ∧ d - yd y < cum y 13 := by omega
      have hcum1 := cum_1 y
      have hmono := fun (k : Nat) (hk : k ≤ 12) => cum_mono (y := y) (m := 1) (n := (k : Int) + 1) (by omega) (by omega) (by omega)
      have HMO := hide hmono
      have H13 := hide hrest.2
      obtain ⟨r0, _⟩ := hrest
      have hydn : 0 ≤ yd y ∧ yd y ≤ d := by unfold yd at *; omega
      obtain ⟨yn0, yn1⟩ := hydn
      have HC1 := hide hcum1
      have HPI := hide (fun (k : Nat) (hk : k < 12) (a : 0 ≤ d - yd y - cum y (k + 1)) (b : d - yd y - cum y (k + 1) < mlen y (k + 1)) => parts_is (d := d) (y := y) (m := (k : Int) + 1) (by omega) (by omega) a b)
      have HCS := hide (fun (k : Nat) (hk : k < 12) => cum_succ (y := y) (m := (k : Int) + 1) (by omega) (by omega))
      generalize yd (y + 1) = D2 at *
      generalize yd y = D at *
      have HB := hide hB
      have HA := hide hA
      have HL := hide hl
      clear hs hlp hyy hA hl h13 hmono hcum1 hB HY HBE q0 q1
      go_wp2_with (first
        | (go_at_call_of 129 (Value.int IntKind.i64 y); refine (HA.out _).mono ?_; rintro e w' ⟨rfl, rfl⟩)
        | (go_at_call 129; refine (HB.out _).mono ?_; rintro e w' ⟨rfl, rfl⟩)
        | (go_at_call 130; refine (HL.out _).mono ?_; rintro e w' ⟨rfl, hbl⟩; obtain ⟨os1, n1, rfl⟩ := below_plus hbl; clear hbl))
      go_loop [5, 3, 24] (fun r mm i => ∃ k : Nat, k ≤ 12 ∧ i = .int .i64 k ∧ mm = .int .i64 ((k : Int) + 1) ∧ r = .int .i64 (d - D - cum y (k + 1)) ∧ 0 ≤ d - D - cum y (k + 1)) (fun _ _ i => 12 - (intOf i).toNat)
      case atStart => exact ⟨0, by omega, rfl, rfl, by rw [show ((0 : Nat) : Int) + 1 = 1 by rfl, HC1.out, Int.sub_zero], by rw [show ((0 : Nat) : Int) + 1 = 1 by rfl, HC1.out]; omega⟩
      case round =>
        obtain ⟨k, hk, rfl, rfl, rfl, hr0⟩ := hrel
        by_cases hk2 : k < 12
        · have hix := run_lens y k hk2
          have hcs := HCS.out k hk2
          have hmb := mlen_bd y ((k : Int) + 1)
          have hmo := HMO.out k (by omega)
          rw [HC1.out] at hmo
          obtain ⟨mb0, mb1⟩ := hmb
          by_cases hlt : d - D - cum y (k + 1) < mlen y (k + 1)
          · have hpi := HPI.out k hk2 hr0 hlt
            have HP := hide hpi
            clear hpi hcs HCS HPI HMO H13 HC1 HA HB HL
            generalize cum y ((k : Int) + 1) = C at *
            generalize mlen y ((k : Int) + 1) = L at *
            have k3 : (k : Int) < 12 := by omega
            go_wp2
            go_ret3
            rw [HP.out]
            exact ⟨rfl, (by repeat (first | exact Below.refl _ _ | refine bl_plus ?_ | refine bl_alloc ?_ _ | refine bl_drew ?_))⟩
          · have hcs2 : d - D - cum y (k + 1) - mlen y (k + 1) = d - D - cum y ((k + 1 : Nat) + 1) := by
              have e : cum y (((k + 1 : Nat) : Int) + 1) = cum y ((k : Int) + 1) + mlen y ((k : Int) + 1) := by rw [← hcs]; congr 1
              rw [e]; omega
            have HC2 := hide hcs2
            clear hcs hcs2 HCS HPI HMO H13 HC1 HA HB HL
            have hq : 0 ≤ d - D - cum y (k + 1) - mlen y (k + 1) := by omega
            generalize cum y ((k : Int) + 1) = C at *
            generalize mlen y ((k : Int) + 1) = L at *
            have k3 : (k : Int) < 12 := by omega
            go_wp2
            go_round
            case rel => exact ⟨k + 1, by omega, by go_num, by go_num, by rw [HC2.out], by rw [← HC2.out]; exact hq⟩
            case measure => simp [intOf]; omega
        · exfalso
          have : k = 12 := by omega
          subst this
          have := H13.out
          have e : ((12 : Nat) : Int) + 1 = 13 := rfl
          rw [e] at hr0
          omega

set_option maxHeartbeats 800000 in
theorem dateOfDay_any (d : Int) (w : World) (h0 : 0 ≤ d) (h1 : d ≤ 100000) :
    Calls Tryz.prog 55 #[.int .i64 d] w fun e w' => e = .returned (.tuple #[.int .i64 (parts d).y, .int .i64 (parts d).m, .int .i64 (parts d).d, .int .i64 0]) ∧ Below w.heap.size w w' := by
  have HD := hide (fun w => dateAt_any d w h0 (by omega))
  generalize parts d = P at *
  have hn : ¬ (d < 0) := by omega
  go_enter Tryz.func55, Tryz.ntmps55
  go_wp2_with (first
    | (go_at_call 89; refine (outsideP_no _ _ _ _ (by omega) (by omega)).mono ?_; rintro e w' ⟨rfl, rfl⟩)
    | (go_at_call 90; refine (HD.out _).mono ?_; rintro e w' ⟨rfl, hbl⟩; obtain ⟨os1, n1, rfl⟩ := below_plus hbl; clear hbl))
  refine bodyPost_ret (v := .tuple #[.int .i64 P.y, .int .i64 P.m, .int .i64 P.d, .int .i64 0]) (by simp [results, Tryz.results55, go_sem]) rfl ⟨rfl, (by repeat (first | exact Below.refl _ _ | refine bl_plus ?_ | refine bl_alloc ?_ _ | refine bl_drew ?_))⟩

set_option maxHeartbeats 800000 in
theorem dateOfDay_no (d : Int) (w : World) (h : d < 0 ∨ 100000 < d) :
    Calls Tryz.prog 55 #[.int .i64 d] w fun e w' => e = .returned (.tuple #[.int .i64 0, .int .i64 0, .int .i64 0, .int .i64 2]) ∧ Below w.heap.size w w' := by
  have HO := hide (fun w => outsideP_yes d 0 100000 w h)
  clear h
  go_enter Tryz.func55, Tryz.ntmps55
  go_wp2_with (go_at_call 89; refine (HO.out _).mono ?_; rintro e w' ⟨rfl, rfl⟩)
  refine bodyPost_ret (v := .tuple #[.int .i64 0, .int .i64 0, .int .i64 0, .int .i64 2]) (by simp [results, Tryz.results55, go_sem]) rfl ⟨rfl, Below.refl _ _⟩

end Go.Proofs.YtioppoaijehicaaGreatDoor
