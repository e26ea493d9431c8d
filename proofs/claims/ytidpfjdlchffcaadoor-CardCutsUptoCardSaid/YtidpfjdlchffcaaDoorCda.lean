/-
  WALKS: a string that two colons divide.
-/
import Derived.Test.YtidpfjdlchffcaaDoorTbb
import Derived.Test.YtidpfjdlchffcaaDoorCdl
import Derived.Deep.QuietTactic
import Derived.BigQuiet
set_option linter.all false
namespace Go.Proofs.YtidpfjdlchffcaaDoor
open Go.RowKit

/-- A string without the spaces at its ends. -/
def trimB (s : ByteArray) : ByteArray := ⟨(Lib.trimB s.data.toList 32).toArray⟩

theorem trimB_any (s : ByteArray) (w : World) (hs : s.size ≤ 1100000) : Calls Tryd.prog 16 #[.string s, .string ⟨#[32]⟩] w fun e w' => e = .returned (.string (trimB s)) ∧ ∃ n, w' = w.drewN n := by
  refine (Any.strings_Trim_one Tryd.trimL s 32 (by decide) w (by omega)).mono ?_
  rintro e w' ⟨rfl, rfl | rfl⟩
  · exact ⟨rfl, 0, rfl⟩
  · exact ⟨rfl, 1, rfl⟩

theorem emp_sizeC (s : ByteArray) : s.toList.isEmpty = decide (s.size = 0) := by
  rw [Lib.toList_data, Lib.size_eq]
  cases s.data.toList <;> simp

theorem emp_nilC (s : ByteArray) : (s.toList == []) = decide (s.size = 0) := by
  rw [Lib.toList_data, Lib.size_eq]
  cases s.data.toList <;> simp

/-- Are there three colons? -/
def bth (s : ByteArray) (i : Nat) : Bool := if h : i + 2 < s.size then ((s[i + 2].toNat : Int) == 58) else false

def dvE (s : ByteArray) (i : Nat) : Nat := if bth s i = true then i + 3 else i + 2

def divA (s : ByteArray) (i : Nat) : ByteArray := trimB (s.extract 0 i)

def divB (s : ByteArray) (i : Nat) : ByteArray := trimB (s.extract (dvE s i) s.size)

def divOk (s : ByteArray) (i : Nat) : Bool := if h : i + 1 < s.size then ((s[i].toNat : Int) == 58 && (s[i + 1].toNat : Int) == 58 && decide ((divA s i).size ≠ 0) && decide ((divB s i).size ≠ 0)) else false

theorem divOk_at {s : ByteArray} {i : Nat} (h : i + 1 < s.size) : divOk s i = ((s[i].toNat : Int) == 58 && (s[i + 1].toNat : Int) == 58 && decide ((divA s i).size ≠ 0) && decide ((divB s i).size ≠ 0)) := by
  unfold divOk
  rw [dif_pos h]

def divI (s : ByteArray) : Option Nat := firstIdx (divOk s) (s.size - 1)

theorem divI_some {s : ByteArray} {i : Nat} (h : ∀ j, j < i → divOk s j = false) (hi : i + 1 < s.size) (hk : divOk s i = true) : divI s = some i := firstIdx_some h hk (by omega)

theorem divI_none {s : ByteArray} (h : ∀ j, j < s.size - 1 → divOk s j = false) : divI s = none := firstIdx_none h

def divR (s : ByteArray) : ByteArray × ByteArray × Bool × Bool := match divI s with
  | some i => (divA s i, divB s i, bth s i, true)
  | none => (⟨#[]⟩, ⟨#[]⟩, false, false)

/-- Without what it begins with. -/
def preC (x : ByteArray) : Bool := Lib.hasPrefix x.data.toList [58]

set_option maxHeartbeats 3200000 in
set_option maxRecDepth 100000 in
theorem cutPre1_any (x : ByteArray) (w : World) (hs : x.size ≤ 1100000) : Calls Tryd.prog 31 #[.string x, .string ⟨#[58]⟩] w fun e w' => e = .returned (.tuple #[.string (if preC x = true then x.extract 1 x.size else x), .bool (preC x)]) ∧ w' = w := by
  have HP : Hid (∀ w, Calls Tryd.prog 44 #[.string x, .string ⟨#[58]⟩] w fun e w' => e = .returned (.bool (preC x)) ∧ w' = w) := hide fun w => Any.stringslite_HasPrefix { Tryd.prefL with } x ⟨#[58]⟩ w
  have h1 : preC x = true → 1 ≤ x.size := fun h => by
    rw [Lib.size_eq]
    cases hx : x.data.toList with
    | nil => rw [preC, hx] at h; cases h
    | cons a t => simp
  cases hp : preC x with
  | true =>
    rw [hp] at HP
    have h2 := h1 hp
    have i2 : (1 : Int) ≤ (x.size : Int) := by omega
    clear h1 hp
    go_enter Tryd.func31, Tryd.ntmps31
    go_wp2_with (go_at_call 44; (refine (HP.out _).mono ?_); rintro e w' ⟨rfl, hw⟩; subst hw)
    go_ret2
    exact ⟨rfl, rfl⟩
  | false =>
    rw [hp] at HP
    clear h1 hp
    go_enter Tryd.func31, Tryd.ntmps31
    go_wp2_with (go_at_call 44; (refine (HP.out _).mono ?_); rintro e w' ⟨rfl, hw⟩; subst hw)
    go_ret2
    exact ⟨rfl, rfl⟩

set_option maxHeartbeats 3200000 in
set_option maxRecDepth 100000 in
theorem cutPre_any (x : ByteArray) (w : World) (hs : x.size ≤ 1100000) : Calls Tryd.prog 15 #[.string x, .string ⟨#[58]⟩] w fun e w' => e = .returned (.tuple #[.string (if preC x = true then x.extract 1 x.size else x), .bool (preC x)]) ∧ w' = w := by
  have H := hide (fun w => cutPre1_any x w hs)
  generalize (if preC x = true then x.extract 1 x.size else x) = y at *
  generalize preC x = p at *
  go_enter Tryd.func15, Tryd.ntmps15
  go_wp2_with (go_at_call 31; (refine (H.out _).mono ?_); rintro e w' ⟨rfl, hw⟩; subst hw)
  go_ret2
  exact ⟨rfl, rfl⟩

set_option maxHeartbeats 3200000 in
set_option maxRecDepth 100000 in
theorem divided_any (s : ByteArray) (w : World) (hs : s.size ≤ 1100000) :
    Calls Tryd.prog 12 #[.string s] w fun e w' => e = .returned (.tuple #[.string (divR s).1, .string (divR s).2.1, .bool (divR s).2.2.1, .bool (divR s).2.2.2]) ∧ Below w.heap.size w w' := by
  have HT := hide (fun x W hx => trimB_any x W hx)
  have HPO : Hid (∀ (a b : ByteArray) (c d : Bool) (w' : World), divR s = (a, b, c, d) → Below w.heap.size w w' → (fun e w' => e = Ending.returned (.tuple #[.string (divR s).1, .string (divR s).2.1, .bool (divR s).2.2.1, .bool (divR s).2.2.2]) ∧ Below w.heap.size w w') (.returned (.tuple #[.string a, .string b, .bool c, .bool d])) w') := hide fun a b c d w' h1 h2 => ⟨by rw [h1], h2⟩
  generalize (fun e w' => e = Ending.returned (.tuple #[.string (divR s).1, .string (divR s).2.1, .bool (divR s).2.2.1, .bool (divR s).2.2.2]) ∧ Below w.heap.size w w') = PO at *
  go_enter Tryd.func12, Tryd.ntmps12
  go_wp2
  go_loopw [6] (fun i9 wr => ∃ (i : Nat), i ≤ s.size ∧ i9 = .int .i64 i ∧ Hid (∀ j, j < i → divOk s j = false) ∧ Hid (Below w.heap.size w wr)) (fun i9 _ => s.size - (intOf i9).toNat)
  case atStart => exact ⟨0, Nat.zero_le _, rfl, hide (fun j hj => absurd hj (by omega)), hide (by repeat (first | with_reducible exact Below.refl _ _ | with_reducible refine bl_plus ?_ | with_reducible refine bl_alloc ?_ _ | with_reducible refine bl_drew ?_ | with_reducible refine bl_drewN ?_ _))⟩
  case round =>
    obtain ⟨i, hi, rfl, HN, HB⟩ := hrel
    by_cases hlt : i + 1 < s.size
    · have i1 : (i : Int) + 1 < (s.size : Int) := by omega
      have HOK := hide (divOk_at hlt)
      have HN2 := hide (fun (h : divOk s i = false) => (fun (j : Nat) (hj : j < i + 1) => (if e : j = i then (by subst e; exact h) else HN.out j (by omega) : divOk s j = false)))
      cases h1 : ((s[i].toNat : Int) == 58) with
      | false =>
        have h1' : ((s[i].toNat : Int) != 58) = true := by simp at h1; simp [h1]
        have HNX := hide (HN2.out (by rw [HOK.out, h1]; rfl))
        clear HOK HN2
        go_wp2
        go_roundw
        case rel => exact ⟨i + 1, by omega, by go_num, HNX, hide (by first | exact HB.out | exact below_chainT HB.out (by repeat (first | with_reducible exact Below.refl _ _ | with_reducible refine bl_plus ?_ | with_reducible refine bl_alloc ?_ _ | with_reducible refine bl_drew ?_ | with_reducible refine bl_drewN ?_ _)))⟩
        case measure => simp [intOf]; omega
      | true =>
        have h1' : ((s[i].toNat : Int) != 58) = false := by simp at h1; simp [h1]
        cases h2 : ((s[i + 1].toNat : Int) == 58) with
        | false =>
          have h2' : ((s[i + 1].toNat : Int) != 58) = true := by simp at h2; simp [h2]
          have HNX := hide (HN2.out (by rw [HOK.out, h1, h2]; rfl))
          clear HOK HN2
          go_wp2
          go_roundw
          case rel => exact ⟨i + 1, by omega, by go_num, HNX, hide (by first | exact HB.out | exact below_chainT HB.out (by repeat (first | with_reducible exact Below.refl _ _ | with_reducible refine bl_plus ?_ | with_reducible refine bl_alloc ?_ _ | with_reducible refine bl_drew ?_ | with_reducible refine bl_drewN ?_ _)))⟩
          case measure => simp [intOf]; omega
        | true =>
          have h2' : ((s[i + 1].toNat : Int) != 58) = false := by simp at h2; simp [h2]
          rw [h1, h2] at HOK
          simp only [Bool.true_and] at HOK
          by_cases h3 : i + 2 < s.size
          · have i2 : (i : Int) + 2 < (s.size : Int) := by omega
            have HBT0 := hide (show bth s i = ((s[i + 2].toNat : Int) == 58) by unfold bth; rw [dif_pos h3])
            cases h4 : ((s[i + 2].toNat : Int) == 58) with
            | true =>
              have HBT := hide (show bth s i = true by rw [HBT0.out, h4])
              clear HBT0
              have hx1 : (s.extract 0 i).size ≤ 1100000 := by rw [ByteArray.size_extract]; omega
              have hx2 : (s.extract (i + 3) s.size).size ≤ 1100000 := by rw [ByteArray.size_extract]; omega
              have HA := hide (show divA s i = trimB (s.extract 0 i) from rfl)
              have HBB := hide (show divB s i = trimB (s.extract (i + 3) s.size) from by unfold divB dvE; rw [HBT.out]; rfl)
              rw [HA.out, HBB.out] at HOK
              have HR := hide (fun (h : divOk s i = true) => (show divR s = (trimB (s.extract 0 i), trimB (s.extract (i + 3) s.size), bth s i, true) by unfold divR; rw [divI_some HN.out hlt h]; simp only; rw [HA.out, HBB.out]))
              clear HA HBB
              by_cases hA : (trimB (s.extract 0 i)).size = 0
              · have t1 : (trimB (s.extract 0 i)).toList.isEmpty = true := by rw [emp_sizeC]; simpa using hA
                have t2 : ((trimB (s.extract 0 i)).toList == []) = true := by rw [emp_nilC]; simpa using hA
                have HNX := hide (HN2.out (by rw [HOK.out]; simp [hA]))
                clear hA HR HOK HN2
                go_upto_region 9 with (fail)
                go_quiet ((go_at_call 16; exact Calls.quiet_of (HT.out _ _ (by first | exact hx1 | exact hx2))))
                go_wp2
                go_roundw
                case rel => exact ⟨i + 1, by omega, by go_num, HNX, hide (by first | exact HB.out | exact below_chainT HB.out (by repeat (first | with_reducible exact Below.refl _ _ | with_reducible refine bl_plus ?_ | with_reducible refine bl_alloc ?_ _ | with_reducible refine bl_drew ?_ | with_reducible refine bl_drewN ?_ _)))⟩
                case measure => simp [intOf]; omega
              · have t1 : (trimB (s.extract 0 i)).toList.isEmpty = false := by rw [emp_sizeC]; simpa using hA
                have t2 : ((trimB (s.extract 0 i)).toList == []) = false := by rw [emp_nilC]; simpa using hA
                by_cases hB : (trimB (s.extract (i + 3) s.size)).size = 0
                · have t3 : (trimB (s.extract (i + 3) s.size)).toList.isEmpty = true := by rw [emp_sizeC]; simpa using hB
                  have t4 : ((trimB (s.extract (i + 3) s.size)).toList == []) = true := by rw [emp_nilC]; simpa using hB
                  have HNX := hide (HN2.out (by rw [HOK.out]; simp [hB]))
                  clear hA hB HR HOK HN2
                  go_upto_region 9 with (fail)
                  go_quiet ((go_at_call 16; exact Calls.quiet_of (HT.out _ _ (by first | exact hx1 | exact hx2))))
                  go_wp2
                  go_roundw
                  case rel => exact ⟨i + 1, by omega, by go_num, HNX, hide (by first | exact HB.out | exact below_chainT HB.out (by repeat (first | with_reducible exact Below.refl _ _ | with_reducible refine bl_plus ?_ | with_reducible refine bl_alloc ?_ _ | with_reducible refine bl_drew ?_ | with_reducible refine bl_drewN ?_ _)))⟩
                  case measure => simp [intOf]; omega
                · have t3 : (trimB (s.extract (i + 3) s.size)).toList.isEmpty = false := by rw [emp_sizeC]; simpa using hB
                  have t4 : ((trimB (s.extract (i + 3) s.size)).toList == []) = false := by rw [emp_nilC]; simpa using hB
                  have HR2 := hide (HR.out (by rw [HOK.out]; simp [hA, hB]))
                  rw [HBT.out] at HR2
                  clear hA hB HR HOK HN2
                  go_upto_region 9 with (fail)
                  go_quiet ((go_at_call 16; exact Calls.quiet_of (HT.out _ _ (by first | exact hx1 | exact hx2))))
                  go_wp2
                  (try simp only [Exit.inBlock, Exit.then])
                  go_returns
                  exact HPO.out _ _ _ _ _ HR2.out (below_chainT HB.out (by repeat (first | with_reducible exact Below.refl _ _ | with_reducible refine bl_plus ?_ | with_reducible refine bl_alloc ?_ _ | with_reducible refine bl_drew ?_ | with_reducible refine bl_drewN ?_ _)))
            | false =>
              have HBT := hide (show bth s i = false by rw [HBT0.out, h4])
              clear HBT0
              have hx1 : (s.extract 0 i).size ≤ 1100000 := by rw [ByteArray.size_extract]; omega
              have hx2 : (s.extract (i + 2) s.size).size ≤ 1100000 := by rw [ByteArray.size_extract]; omega
              have HA := hide (show divA s i = trimB (s.extract 0 i) from rfl)
              have HBB := hide (show divB s i = trimB (s.extract (i + 2) s.size) from by unfold divB dvE; rw [HBT.out]; rfl)
              rw [HA.out, HBB.out] at HOK
              have HR := hide (fun (h : divOk s i = true) => (show divR s = (trimB (s.extract 0 i), trimB (s.extract (i + 2) s.size), bth s i, true) by unfold divR; rw [divI_some HN.out hlt h]; simp only; rw [HA.out, HBB.out]))
              clear HA HBB
              by_cases hA : (trimB (s.extract 0 i)).size = 0
              · have t1 : (trimB (s.extract 0 i)).toList.isEmpty = true := by rw [emp_sizeC]; simpa using hA
                have t2 : ((trimB (s.extract 0 i)).toList == []) = true := by rw [emp_nilC]; simpa using hA
                have HNX := hide (HN2.out (by rw [HOK.out]; simp [hA]))
                clear hA HR HOK HN2
                go_upto_region 9 with (fail)
                go_quiet ((go_at_call 16; exact Calls.quiet_of (HT.out _ _ (by first | exact hx1 | exact hx2))))
                go_wp2
                go_roundw
                case rel => exact ⟨i + 1, by omega, by go_num, HNX, hide (by first | exact HB.out | exact below_chainT HB.out (by repeat (first | with_reducible exact Below.refl _ _ | with_reducible refine bl_plus ?_ | with_reducible refine bl_alloc ?_ _ | with_reducible refine bl_drew ?_ | with_reducible refine bl_drewN ?_ _)))⟩
                case measure => simp [intOf]; omega
              · have t1 : (trimB (s.extract 0 i)).toList.isEmpty = false := by rw [emp_sizeC]; simpa using hA
                have t2 : ((trimB (s.extract 0 i)).toList == []) = false := by rw [emp_nilC]; simpa using hA
                by_cases hB : (trimB (s.extract (i + 2) s.size)).size = 0
                · have t3 : (trimB (s.extract (i + 2) s.size)).toList.isEmpty = true := by rw [emp_sizeC]; simpa using hB
                  have t4 : ((trimB (s.extract (i + 2) s.size)).toList == []) = true := by rw [emp_nilC]; simpa using hB
                  have HNX := hide (HN2.out (by rw [HOK.out]; simp [hB]))
                  clear hA hB HR HOK HN2
                  go_upto_region 9 with (fail)
                  go_quiet ((go_at_call 16; exact Calls.quiet_of (HT.out _ _ (by first | exact hx1 | exact hx2))))
                  go_wp2
                  go_roundw
                  case rel => exact ⟨i + 1, by omega, by go_num, HNX, hide (by first | exact HB.out | exact below_chainT HB.out (by repeat (first | with_reducible exact Below.refl _ _ | with_reducible refine bl_plus ?_ | with_reducible refine bl_alloc ?_ _ | with_reducible refine bl_drew ?_ | with_reducible refine bl_drewN ?_ _)))⟩
                  case measure => simp [intOf]; omega
                · have t3 : (trimB (s.extract (i + 2) s.size)).toList.isEmpty = false := by rw [emp_sizeC]; simpa using hB
                  have t4 : ((trimB (s.extract (i + 2) s.size)).toList == []) = false := by rw [emp_nilC]; simpa using hB
                  have HR2 := hide (HR.out (by rw [HOK.out]; simp [hA, hB]))
                  rw [HBT.out] at HR2
                  clear hA hB HR HOK HN2
                  go_upto_region 9 with (fail)
                  go_quiet ((go_at_call 16; exact Calls.quiet_of (HT.out _ _ (by first | exact hx1 | exact hx2))))
                  go_wp2
                  (try simp only [Exit.inBlock, Exit.then])
                  go_returns
                  exact HPO.out _ _ _ _ _ HR2.out (below_chainT HB.out (by repeat (first | with_reducible exact Below.refl _ _ | with_reducible refine bl_plus ?_ | with_reducible refine bl_alloc ?_ _ | with_reducible refine bl_drew ?_ | with_reducible refine bl_drewN ?_ _)))
          · have i2 : ¬ (i : Int) + 2 < (s.size : Int) := by omega
            have HBT := hide (show bth s i = false by unfold bth; rw [dif_neg h3])
            have hx1 : (s.extract 0 i).size ≤ 1100000 := by rw [ByteArray.size_extract]; omega
            have hx2 : (s.extract (i + 2) s.size).size ≤ 1100000 := by rw [ByteArray.size_extract]; omega
            have HA := hide (show divA s i = trimB (s.extract 0 i) from rfl)
            have HBB := hide (show divB s i = trimB (s.extract (i + 2) s.size) from by unfold divB dvE; rw [HBT.out]; rfl)
            rw [HA.out, HBB.out] at HOK
            have HR := hide (fun (h : divOk s i = true) => (show divR s = (trimB (s.extract 0 i), trimB (s.extract (i + 2) s.size), bth s i, true) by unfold divR; rw [divI_some HN.out hlt h]; simp only; rw [HA.out, HBB.out]))
            clear HA HBB
            by_cases hA : (trimB (s.extract 0 i)).size = 0
            · have t1 : (trimB (s.extract 0 i)).toList.isEmpty = true := by rw [emp_sizeC]; simpa using hA
              have t2 : ((trimB (s.extract 0 i)).toList == []) = true := by rw [emp_nilC]; simpa using hA
              have HNX := hide (HN2.out (by rw [HOK.out]; simp [hA]))
              clear hA HR HOK HN2
              go_upto_region 9 with (fail)
              go_quiet ((go_at_call 16; exact Calls.quiet_of (HT.out _ _ (by first | exact hx1 | exact hx2))))
              go_wp2
              go_roundw
              case rel => exact ⟨i + 1, by omega, by go_num, HNX, hide (by first | exact HB.out | exact below_chainT HB.out (by repeat (first | with_reducible exact Below.refl _ _ | with_reducible refine bl_plus ?_ | with_reducible refine bl_alloc ?_ _ | with_reducible refine bl_drew ?_ | with_reducible refine bl_drewN ?_ _)))⟩
              case measure => simp [intOf]; omega
            · have t1 : (trimB (s.extract 0 i)).toList.isEmpty = false := by rw [emp_sizeC]; simpa using hA
              have t2 : ((trimB (s.extract 0 i)).toList == []) = false := by rw [emp_nilC]; simpa using hA
              by_cases hB : (trimB (s.extract (i + 2) s.size)).size = 0
              · have t3 : (trimB (s.extract (i + 2) s.size)).toList.isEmpty = true := by rw [emp_sizeC]; simpa using hB
                have t4 : ((trimB (s.extract (i + 2) s.size)).toList == []) = true := by rw [emp_nilC]; simpa using hB
                have HNX := hide (HN2.out (by rw [HOK.out]; simp [hB]))
                clear hA hB HR HOK HN2
                go_upto_region 9 with (fail)
                go_quiet ((go_at_call 16; exact Calls.quiet_of (HT.out _ _ (by first | exact hx1 | exact hx2))))
                go_wp2
                go_roundw
                case rel => exact ⟨i + 1, by omega, by go_num, HNX, hide (by first | exact HB.out | exact below_chainT HB.out (by repeat (first | with_reducible exact Below.refl _ _ | with_reducible refine bl_plus ?_ | with_reducible refine bl_alloc ?_ _ | with_reducible refine bl_drew ?_ | with_reducible refine bl_drewN ?_ _)))⟩
                case measure => simp [intOf]; omega
              · have t3 : (trimB (s.extract (i + 2) s.size)).toList.isEmpty = false := by rw [emp_sizeC]; simpa using hB
                have t4 : ((trimB (s.extract (i + 2) s.size)).toList == []) = false := by rw [emp_nilC]; simpa using hB
                have HR2 := hide (HR.out (by rw [HOK.out]; simp [hA, hB]))
                rw [HBT.out] at HR2
                clear hA hB HR HOK HN2
                go_upto_region 9 with (fail)
                go_quiet ((go_at_call 16; exact Calls.quiet_of (HT.out _ _ (by first | exact hx1 | exact hx2))))
                go_wp2
                (try simp only [Exit.inBlock, Exit.then])
                go_returns
                exact HPO.out _ _ _ _ _ HR2.out (below_chainT HB.out (by repeat (first | with_reducible exact Below.refl _ _ | with_reducible refine bl_plus ?_ | with_reducible refine bl_alloc ?_ _ | with_reducible refine bl_drew ?_ | with_reducible refine bl_drewN ?_ _)))
    · have i1 : ¬ (i : Int) + 1 < (s.size : Int) := by omega
      have HR := hide (show divR s = (⟨#[]⟩, ⟨#[]⟩, false, false) by unfold divR; rw [divI_none (fun j hj => HN.out j (by omega))])
      go_wp2
      go_returns
      exact HPO.out _ _ _ _ _ HR.out HB.out

end Go.Proofs.YtidpfjdlchffcaaDoor
