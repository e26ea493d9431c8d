/-
  PLAIN AND WALKS: targets and tags, the reference's way.
-/
import Derived.Test.YtioppoaijehicaaGreatDoorSph
import Derived.Test.YtioppoaijehicaaGreatDoorPvg
set_option linter.all false
namespace Go.Proofs.YtioppoaijehicaaGreatDoor
open Go.RowKit

/-! ### Control bytes -/
def ctlU (c : UInt8) : Bool := decide (c.toNat < 32)

def anyCtl (t : ByteArray) : Bool := t.data.toList.any ctlU

theorem anyCtl_yes {t : ByteArray} {j : Nat} (hj : j < t.size) (h : ctlU t[j] = true) : anyCtl t = true := by
  unfold anyCtl
  rw [List.any_eq_true]
  exact ⟨t[j], by rw [List.mem_iff_getElem]; exact ⟨j, by rw [← Lib.size_eq]; exact hj, rfl⟩, h⟩

theorem anyCtl_no {t : ByteArray} (h : ∀ j (h : j < t.size), ctlU t[j] = false) : anyCtl t = false := by
  cases h9 : anyCtl t with
  | false => rfl
  | true =>
    unfold anyCtl at h9
    rw [List.any_eq_true] at h9
    obtain ⟨x, hx, hc⟩ := h9
    obtain ⟨j, hj, rfl⟩ := List.getElem_of_mem hx
    have := h j (by rw [Lib.size_eq]; exact hj)
    exact absurd (this.symm.trans hc) (by decide)

set_option maxHeartbeats 1600000 in
set_option maxRecDepth 100000 in
theorem controls_any (t : ByteArray) (w : World) (hs : t.size ≤ 1000000) :
    Calls Tryz.prog 202 #[.string t] w fun e w' => e = .returned (.bool (anyCtl t)) ∧ w' = w := by
  have HPO : Hid (∀ b, b = anyCtl t → (fun e w' => e = Ending.returned (.bool (anyCtl t)) ∧ w' = w) (.returned (.bool b)) w) := hide fun b h => ⟨by rw [h], rfl⟩
  generalize (fun e w' => e = Ending.returned (.bool (anyCtl t)) ∧ w' = w) = PO at *
  have HY := hide (fun j (hj : j < t.size) h => HPO.out true (anyCtl_yes hj h).symm)
  have HN := hide (fun h => HPO.out false (anyCtl_no (t := t) h).symm)
  clear HPO
  go_enter Tryz.func202, Tryz.ntmps202
  go_wp2
  go_loopw [3] (fun s3 wr => ∃ k : Nat, k ≤ t.size ∧ s3 = .int .i64 k ∧ Hid (∀ j (h : j < t.size), j < k → ctlU t[j] = false) ∧ wr = w) (fun s3 _ => t.size - (intOf s3).toNat)
  case atStart => exact ⟨0, Nat.zero_le _, rfl, hide (fun j h hj => absurd hj (by omega)), rfl⟩
  case round =>
    obtain ⟨k, hk, rfl, HA, rfl⟩ := hrel
    by_cases hlt : k < t.size
    · have j1 : (k : Int) < (t.size : Int) := by omega
      cases hb : ctlU t[k] with
      | true =>
        have hc : (t[k].toNat : Int) < 32 := by have := of_decide_eq_true hb; omega
        have HR := hide (HY.out k hlt hb)
        clear hb HA HN HY
        go_wp2
        exact HR.out
      | false =>
        have hc : ¬ (t[k].toNat : Int) < 32 := by have := of_decide_eq_false hb; omega
        have HA2 := hide (fun j (h : j < t.size) (hj : j < k + 1) => (if e : j = k then (by subst e; exact hb) else HA.out j h (by omega) : ctlU t[j] = false))
        clear hb HA HN HY
        go_wp2
        go_roundw
        case rel => exact ⟨k + 1, hlt, by go_num, HA2, by first | rfl | trivial⟩
        case measure => simp [intOf]; omega
    · obtain rfl : k = t.size := by omega
      have HR := hide (HN.out (fun j h => HA.out j h h))
      clear HA HN HY
      go_wp2
      exact HR.out

/-! ### Targets -/
def mkAny (t : ByteArray) : Bool := Lib.containsAny t.data.toList [91, 93, 124, 96]

def noMk (c : UInt8) : Bool := !(([91, 93, 124, 96] : List UInt8).contains c)

theorem tw_all (p : UInt8 → Bool) : ∀ l : List UInt8, l.all p = decide ((l.takeWhile p).length = l.length)
  | [] => rfl
  | a :: l => by
    rw [List.all_cons, List.takeWhile_cons]
    cases hp : p a with
    | false => simp
    | true =>
      rw [tw_all p l]
      simp

theorem mkAny_is (t : ByteArray) : mkAny t = !(t.data.toList.all noMk) := by
  unfold mkAny Lib.containsAny
  rw [ia_span [91, 93, 124, 96] noMk (fun _ => rfl) t.data.toList, tw_all]
  generalize t.data.toList = l
  have hle : (l.takeWhile noMk).length ≤ l.length := (List.takeWhile_prefix _).length_le
  by_cases h : (l.takeWhile noMk).length < l.length
  · rw [if_pos h, decide_eq_true (by omega), decide_eq_false (by omega)]; rfl
  · rw [if_neg h, decide_eq_false (by omega), decide_eq_true (by omega)]; rfl

theorem inTr_is (c : UInt8) : inTr c = (noMk c && !ctlU c) := by
  unfold inTr noMk ctlU
  have h1 : (c == (91 : UInt8)) = (c.toNat == 91) := u8_be (c := 91) (by decide)
  have h2 : (c == (93 : UInt8)) = (c.toNat == 93) := u8_be (c := 93) (by decide)
  have h3 : (c == (124 : UInt8)) = (c.toNat == 124) := u8_be (c := 124) (by decide)
  have h4 : (c == (96 : UInt8)) = (c.toNat == 96) := u8_be (c := 96) (by decide)
  have h5 : decide (32 ≤ c.toNat) = !decide (c.toNat < 32) := by
    by_cases h : 32 ≤ c.toNat
    · rw [decide_eq_true h, decide_eq_false (by omega)]; rfl
    · rw [decide_eq_false h, decide_eq_true (by omega)]; rfl
  simp only [List.contains_cons, List.contains_nil, Bool.or_false, h1, h2, h3, h4, h5, bne]
  cases decide (c.toNat < 32) <;> cases (c.toNat == 91) <;> cases (c.toNat == 93) <;> cases (c.toNat == 124) <;> cases (c.toNat == 96) <;> rfl

theorem all_tr (t : ByteArray) : t.data.toList.all inTr = (!mkAny t && !anyCtl t) := by
  rw [mkAny_is, Bool.not_not]
  unfold anyCtl
  induction t.data.toList with
  | nil => rfl
  | cons a l ih =>
    rw [List.all_cons, List.all_cons, List.any_cons, ih, inTr_is]
    cases noMk a <;> cases ctlU a <;> cases l.all noMk <;> cases l.any ctlU <;> rfl

theorem isTgt_eq (t : ByteArray) : isTgt t = (decide (1 ≤ t.size ∧ t.size ≤ 100) && (!mkAny t && (!one t 0 32 && (!one t (t.size - 1) 32 && !anyCtl t)))) := by
  unfold isTgt
  rw [all_tr]
  cases mkAny t <;> cases anyCtl t <;> cases one t 0 32 <;> cases one t (t.size - 1) 32 <;> simp

set_option maxHeartbeats 1600000 in
set_option maxRecDepth 100000 in
theorem isTargetR_any (t : ByteArray) (w : World) (hs : t.size ≤ 1000000) :
    Calls Tryz.prog 162 #[.string t] w fun e w' => e = .returned (.bool (isTgt t)) ∧ Below w.heap.size w w' := by
  have HPO : Hid (∀ b w', b = isTgt t → Below w.heap.size w w' → (fun e w' => e = Ending.returned (.bool (isTgt t)) ∧ Below w.heap.size w w') (.returned (.bool b)) w') := hide fun b w' h hb => ⟨by rw [h], hb⟩
  generalize (fun e w' => e = Ending.returned (.bool (isTgt t)) ∧ Below w.heap.size w w') = PO at *
  have HEQ := hide (isTgt_eq t)
  have HCT := hide (fun W => controls_any t W hs)
  have HCA : Hid (∀ W, Calls Tryz.prog 189 #[.string t, .string ⟨#[91, 93, 124, 96]⟩] W fun e w' => e = .returned (.bool (mkAny t)) ∧ Below W.heap.size W w') := hide fun W => containsAny_any t ⟨#[91, 93, 124, 96]⟩ W (by decide) (by decide) (by omega) (by
    intro j b hb
    match j, hb with
    | 0, hb => obtain rfl := Option.some.inj hb; decide
    | 1, hb => obtain rfl := Option.some.inj hb; decide
    | 2, hb => obtain rfl := Option.some.inj hb; decide
    | 3, hb => obtain rfl := Option.some.inj hb; decide)
  by_cases h0 : t.size = 0
  · have i0 : ¬ (1 : Int) ≤ (t.size : Int) := by omega
    have HF := hide (fun w' => HPO.out false w' (by rw [HEQ.out, decide_eq_false (fun h => by omega)]; rfl))
    clear HPO HEQ HCT HCA h0
    go_enter Tryz.func162, Tryz.ntmps162
    go_wp2
    exact HF.out _ (Below.refl _ _)
  · have i0 : (1 : Int) ≤ (t.size : Int) := by omega
    by_cases h100 : 100 < t.size
    · have i1 : ¬ (t.size : Int) ≤ 100 := by omega
      have HF := hide (fun w' => HPO.out false w' (by rw [HEQ.out, decide_eq_false (fun h => by omega)]; rfl))
      clear HPO HEQ HCT HCA h100
      go_enter Tryz.func162, Tryz.ntmps162
      go_wp2
      exact HF.out _ (Below.refl _ _)
    · have i1 : (t.size : Int) ≤ 100 := by omega
      have hp : 0 < t.size := by omega
      have i2 : (t.size : Int) - 1 < (t.size : Int) := by omega
      have i3 : 0 ≤ (t.size : Int) - 1 := by omega
      have i4 : (0 : Int) < (t.size : Int) := by omega
      have hq : t.size - 1 < t.size := by omega
      rw [decide_eq_true (show 1 ≤ t.size ∧ t.size ≤ 100 by omega), Bool.true_and] at HEQ
      have hb1 : ((t[0].toNat : Int) != 32) = !one t 0 32 := by
        unfold one; rw [dif_pos hp]
        have := u8_int t[0] 32
        exact this
      have hb2 : ((t[t.size - 1].toNat : Int) != 32) = !one t (t.size - 1) 32 := by
        unfold one; rw [dif_pos hq]
        have := u8_int t[t.size - 1] 32
        exact this
      generalize mkAny t = b0 at *
      generalize one t 0 32 = b1 at *
      generalize one t (t.size - 1) 32 = b2 at *
      generalize anyCtl t = b3 at *
      cases b0 with
      | true =>
        have HF := hide (fun w' => HPO.out false w' HEQ.out.symm)
        clear HPO HEQ HCT h0 h100 hb1 hb2
        go_enter Tryz.func162, Tryz.ntmps162
        go_wp2_with (go_at_call 189; refine (HCA.out _).mono ?_; rintro e w3 ⟨rfl, hb3⟩; have HB3 := hide hb3; clear hb3)
        exact HF.out _ HB3.out
      | false =>
        cases b1 with
        | true =>
          have HF := hide (fun w' => HPO.out false w' HEQ.out.symm)
          clear HPO HEQ HCT h0 h100 hb2
          go_enter Tryz.func162, Tryz.ntmps162
          go_wp2_with (go_at_call 189; refine (HCA.out _).mono ?_; rintro e w3 ⟨rfl, hb3⟩; have HB3 := hide hb3; clear hb3)
          exact HF.out _ HB3.out
        | false =>
          cases b2 with
          | true =>
            have HF := hide (fun w' => HPO.out false w' HEQ.out.symm)
            clear HPO HEQ HCT h0 h100
            go_enter Tryz.func162, Tryz.ntmps162
            go_wp2_with (go_at_call 189; refine (HCA.out _).mono ?_; rintro e w3 ⟨rfl, hb3⟩; have HB3 := hide hb3; clear hb3)
            exact HF.out _ HB3.out
          | false =>
            have HF := hide (fun w' => HPO.out (!b3) w' (by rw [HEQ.out]; rfl))
            clear HPO HEQ h0 h100
            go_enter Tryz.func162, Tryz.ntmps162
            go_wp2_with (first | (go_at_call 189; refine (HCA.out _).mono ?_; rintro e w3 ⟨rfl, hb3⟩; have HB3 := hide hb3; clear hb3) | (go_at_call 202; refine (HCT.out _).mono ?_; rintro e w' ⟨rfl, hw⟩; subst w'))
            exact HF.out _ HB3.out

/-! ### Tags -/
def tagS (t : ByteArray) : Bool := t.data.toList.all inTg && (t.data.toList.any isLt && (decide (t.size ≤ 100) && (!one t 0 47 && !one t (t.size - 1) 47)))

theorem tagS_no {t : ByteArray} {j : Nat} (hj : j < t.size) (h : inTg t[j] = false) : tagS t = false := by
  unfold tagS
  have : t.data.toList.all inTg = false := by
    cases h9 : t.data.toList.all inTg with
    | false => rfl
    | true =>
      rw [List.all_eq_true] at h9
      have h2 := h9 t[j] (by rw [List.mem_iff_getElem]; exact ⟨j, by rw [← Lib.size_eq]; exact hj, rfl⟩)
      rw [h] at h2
      cases h2
  rw [this]
  rfl

/-- Letters among the first bytes. -/
def ltrT (t : ByteArray) (k : Nat) : Bool := (t.data.toList.take k).any isLt

theorem ltrT_step {t : ByteArray} {k : Nat} (h : k < t.size) : ltrT t (k + 1) = (ltrT t k || isLt t[k]) := by
  unfold ltrT
  have hl : k < t.data.toList.length := by rw [← Lib.size_eq]; exact h
  rw [List.take_succ_eq_append_getElem hl, List.any_append]
  simp only [List.any_cons, List.any_nil, Bool.or_false]
  rfl

theorem tagS_yes {t : ByteArray} (h : ∀ j (h : j < t.size), inTg t[j] = true) : tagS t = (ltrT t t.size && (decide (t.size ≤ 100) && (!one t 0 47 && !one t (t.size - 1) 47))) := by
  unfold tagS ltrT
  have h1 : t.data.toList.all inTg = true := by
    rw [List.all_eq_true]
    intro x hx
    obtain ⟨j, hj, rfl⟩ := List.getElem_of_mem hx
    exact h j (by rw [Lib.size_eq]; exact hj)
  have h2 : t.data.toList.take t.size = t.data.toList := List.take_of_length_le (by rw [← Lib.size_eq]; exact Nat.le_refl _)
  rw [h1, h2, Bool.true_and]

theorem ltrT_pos {t : ByteArray} {k : Nat} (h : ltrT t k = true) : 0 < t.size := by
  rcases Nat.eq_zero_or_pos t.size with h0 | h0
  · unfold ltrT at h
    rw [List.length_eq_zero_iff.1 (show t.data.toList.length = 0 by rw [← Lib.size_eq]; exact h0)] at h
    simp at h
  · exact h0

set_option maxHeartbeats 6400000 in
set_option maxRecDepth 100000 in
theorem isTagR_any (t : ByteArray) (w : World) (hs : t.size ≤ 1000000) :
    Calls Tryz.prog 165 #[.string t] w fun e w' => e = .returned (.bool (tagS t)) ∧ w' = w := by
  have HPO : Hid (∀ b, b = tagS t → (fun e w' => e = Ending.returned (.bool (tagS t)) ∧ w' = w) (.returned (.bool b)) w) := hide fun b h => ⟨by rw [h], rfl⟩
  generalize (fun e w' => e = Ending.returned (.bool (tagS t)) ∧ w' = w) = PO at *
  have HN := hide (fun j (hj : j < t.size) h => HPO.out false (tagS_no hj h).symm)
  have HY := hide (fun h => (tagS_yes (t := t) h))
  have HLS := hide (fun k (h : k < t.size) => ltrT_step h)
  have HLP := hide (fun (h : ltrT t t.size = true) => ltrT_pos h)
  have HL0 := hide (show ltrT t 0 = false from rfl)
  have HLTA := hide (fun k (h : k < t.size) W => isLetterR_any t[k] W)
  have HDGA := hide (fun k (h : k < t.size) W => isDigitR_any t[k] W)
  go_enter Tryz.func165, Tryz.ntmps165
  go_wp2
  go_loopw [3, 4] (fun s3 s4 wr => ∃ k : Nat, k ≤ t.size ∧ s3 = .bool (ltrT t k) ∧ s4 = .int .i64 k ∧ Hid (∀ j (h : j < t.size), j < k → inTg t[j] = true) ∧ wr = w) (fun _ s4 _ => t.size - (intOf s4).toNat)
  case atStart => exact ⟨0, Nat.zero_le _, by rw [HL0.out], rfl, hide (fun j h hj => absurd hj (by omega)), rfl⟩
  case round =>
    obtain ⟨k, hk, rfl, rfl, HA, rfl⟩ := hrel
    by_cases hlt : k < t.size
    · have j1 : (k : Int) < (t.size : Int) := by omega
      have HLT := hide (HLTA.out k hlt)
      have HDG := hide (HDGA.out k hlt)
      have hls := HLS.out k hlt
      have hin : inTg t[k] = (isLt t[k] || (isDg t[k] || (t[k].toNat == 95 || (t[k].toNat == 45 || t[k].toNat == 47)))) := rfl
      have e1 : ((t[k].toNat : Int) != 95) = !(t[k].toNat == 95) := u8_int t[k] 95
      have e2 : ((t[k].toNat : Int) != 45) = !(t[k].toNat == 45) := u8_int t[k] 45
      have e3 : ((t[k].toNat : Int) != 47) = !(t[k].toNat == 47) := u8_int t[k] 47
      have HNO := hide (fun (h : inTg t[k] = false) => HN.out k hlt h)
      have HGO := hide (fun (h : inTg t[k] = true) j (hj9 : j < t.size) (hj : j < k + 1) => (if e : j = k then (by subst e; exact h) else HA.out j hj9 (by omega) : inTg t[j] = true))
      have HIN := hide hin
      clear HN HY HLP HL0 HLTA HDGA HA hin HPO HLS
      generalize inTg t[k] = b9 at *
      generalize hL9 : isLt t[k] = bl at *
      generalize isDg t[k] = bd at *
      generalize (t[k].toNat == 95) = b1 at *
      generalize (t[k].toNat == 45) = b2 at *
      generalize (t[k].toNat == 47) = b3 at *
      generalize ltrT t k = l1 at *
      have HLS2 := hide hls
      clear hls hL9
      cases bl with
      | true =>
        have HG := hide (HGO.out HIN.out)
        clear HNO HGO HIN
        cases l1
        all_goals
          go_wp2_with (first | (go_at_call 164; refine (HLT.out _).mono ?_; rintro e w' ⟨rfl, rfl⟩) | (go_at_call 163; refine (HDG.out _).mono ?_; rintro e w' ⟨rfl, rfl⟩))
          go_roundw
          case rel => exact ⟨k + 1, hlt, by rw [HLS2.out] <;> rfl, by go_num, HG, by first | rfl | trivial⟩
          case measure => simp [intOf]; omega
      | false =>
        cases bd with
        | true =>
          have HG := hide (HGO.out HIN.out)
          clear HNO HGO HIN
          cases l1
          all_goals
            go_wp2_with (first | (go_at_call 164; refine (HLT.out _).mono ?_; rintro e w' ⟨rfl, rfl⟩) | (go_at_call 163; refine (HDG.out _).mono ?_; rintro e w' ⟨rfl, rfl⟩))
            go_roundw
            case rel => exact ⟨k + 1, hlt, by rw [HLS2.out] <;> rfl, by go_num, HG, by first | rfl | trivial⟩
            case measure => simp [intOf]; omega
        | false =>
          cases b1 with
          | true =>
            have HG := hide (HGO.out HIN.out)
            clear HNO HGO HIN
            cases l1
            all_goals
              go_wp2_with (first | (go_at_call 164; refine (HLT.out _).mono ?_; rintro e w' ⟨rfl, rfl⟩) | (go_at_call 163; refine (HDG.out _).mono ?_; rintro e w' ⟨rfl, rfl⟩))
              go_roundw
              case rel => exact ⟨k + 1, hlt, by rw [HLS2.out] <;> rfl, by go_num, HG, by first | rfl | trivial⟩
              case measure => simp [intOf]; omega
          | false =>
            cases b2 with
            | true =>
              have HG := hide (HGO.out HIN.out)
              clear HNO HGO HIN
              cases l1
              all_goals
                go_wp2_with (first | (go_at_call 164; refine (HLT.out _).mono ?_; rintro e w' ⟨rfl, rfl⟩) | (go_at_call 163; refine (HDG.out _).mono ?_; rintro e w' ⟨rfl, rfl⟩))
                go_roundw
                case rel => exact ⟨k + 1, hlt, by rw [HLS2.out] <;> rfl, by go_num, HG, by first | rfl | trivial⟩
                case measure => simp [intOf]; omega
            | false =>
              cases b3 with
              | true =>
                have HG := hide (HGO.out HIN.out)
                clear HNO HGO HIN
                cases l1
                all_goals
                  go_wp2_with (first | (go_at_call 164; refine (HLT.out _).mono ?_; rintro e w' ⟨rfl, rfl⟩) | (go_at_call 163; refine (HDG.out _).mono ?_; rintro e w' ⟨rfl, rfl⟩))
                  go_roundw
                  case rel => exact ⟨k + 1, hlt, by rw [HLS2.out] <;> rfl, by go_num, HG, by first | rfl | trivial⟩
                  case measure => simp [intOf]; omega
              | false =>
                have HR := hide (HNO.out HIN.out)
                clear HNO HGO HIN
                go_wp2_with (first | (go_at_call 164; refine (HLT.out _).mono ?_; rintro e w' ⟨rfl, rfl⟩) | (go_at_call 163; refine (HDG.out _).mono ?_; rintro e w' ⟨rfl, rfl⟩))
                exact HR.out
    · obtain rfl : k = t.size := by omega
      have HV := hide (HY.out (fun j h => HA.out j h h))
      clear HN HY HA HLS HLTA HDGA HL0
      cases hlt2 : ltrT t t.size with
      | false =>
        rw [hlt2] at HV
        have HR := hide (HPO.out false HV.out.symm)
        clear HPO HV HLP hlt2
        go_wp2
        exact HR.out
      | true =>
        have hp := HLP.out hlt2
        rw [hlt2] at HV
        have i2 : (t.size : Int) - 1 < (t.size : Int) := by omega
        have i3 : 0 ≤ (t.size : Int) - 1 := by omega
        have i4 : (0 : Int) < (t.size : Int) := by omega
        have hq : t.size - 1 < t.size := by omega
        have hb1 : ((t[0].toNat : Int) != 47) = !one t 0 47 := by
          unfold one; rw [dif_pos hp]
          exact u8_int t[0] 47
        have hb2 : ((t[t.size - 1].toNat : Int) != 47) = !one t (t.size - 1) 47 := by
          unfold one; rw [dif_pos hq]
          exact u8_int t[t.size - 1] 47
        generalize one t 0 47 = b1 at *
        generalize one t (t.size - 1) 47 = b2 at *
        clear hlt2 HLP
        by_cases h100 : t.size ≤ 100
        · rw [decide_eq_true h100] at HV
          have i5 : (t.size : Int) ≤ 100 := by omega
          cases b1 with
          | true =>
            have HR := hide (HPO.out false HV.out.symm)
            clear HPO HV hb2 h100
            go_wp2
            exact HR.out
          | false =>
            have HR := hide (HPO.out (!b2) HV.out.symm)
            clear HPO HV h100
            go_wp2
            exact HR.out
        · rw [decide_eq_false h100] at HV
          have i5 : ¬ (t.size : Int) ≤ 100 := by omega
          have HR := hide (HPO.out false HV.out.symm)
          clear HPO HV h100 hb1 hb2
          go_wp2
          exact HR.out

end Go.Proofs.YtioppoaijehicaaGreatDoor
/-
  PLAIN AND WALKS: the reference's token: what begins at a byte; escapes, code, bold marks, other bytes.
-/
namespace Go.Proofs.YtioppoaijehicaaGreatDoor
open Go.RowKit

/-! ### What begins at a byte -/
def plSp (i : Nat) : Sp := ⟨1, i, i + 1, ByteArray.empty, ByteArray.empty, 0, false⟩

theorem escP_by {s : ByteArray} {i : Nat} (hi : i < s.size) (h : s[i].toNat ≠ 92) : escP s i = none := by
  unfold escP
  split
  · rw [if_neg (fun h9 => h h9.1)]
  · rfl

theorem one_by {s : ByteArray} {i c : Nat} (hi : i < s.size) (h : s[i].toNat ≠ c) : one s i c = false := by
  unfold one
  rw [dif_pos hi]
  exact beq_eq_false_iff_ne.2 h

theorem two_by {s : ByteArray} {i c : Nat} (hi : i < s.size) (h : s[i].toNat ≠ c) : two s i c = false := two_ne hi rfl h

theorem codeP_by {s : ByteArray} {i : Nat} (hi : i < s.size) (h : s[i].toNat ≠ 96) : codeP s i = none := by
  unfold codeP
  rw [one_by hi h, if_neg (fun h9 => absurd h9.1 Bool.false_ne_true)]

theorem linkP_by {s : ByteArray} {i : Nat} (hi : i < s.size) (h : s[i].toNat ≠ 91) : linkP s i = none := by
  unfold linkP
  rw [two_by hi h, if_neg (fun h9 => absurd h9.1 Bool.false_ne_true)]

theorem refP_by {s : ByteArray} {i : Nat} (hi : i < s.size) (h : s[i].toNat ≠ 40) : refP s i = none := by
  unfold refP
  rw [two_by hi h, if_neg (fun h9 => absurd h9.1 Bool.false_ne_true)]

theorem tagP_by {s : ByteArray} {i : Nat} (hi : i < s.size) (h : s[i].toNat ≠ 35) : tagP s i = none := by
  unfold tagP
  rw [one_by hi h, if_neg (fun h9 => absurd h9.1 Bool.false_ne_true)]

theorem boldP_by {s : ByteArray} {i : Nat} (hi : i < s.size) (h : s[i].toNat ≠ 42) : boldP s i = none := by
  unfold boldP
  rw [two_by hi h, if_neg Bool.false_ne_true]

theorem tokP_esc {s : ByteArray} {i : Nat} (hi : i < s.size) (h : s[i].toNat = 92) : tokP s i = (escP s i).getD (plSp i) := by
  unfold tokP tokO
  rw [codeP_by hi (by omega), linkP_by hi (by omega), refP_by hi (by omega), tagP_by hi (by omega), boldP_by hi (by omega)]
  cases escP s i <;> rfl

theorem tokP_code {s : ByteArray} {i : Nat} (hi : i < s.size) (h : s[i].toNat = 96) : tokP s i = (codeP s i).getD (plSp i) := by
  unfold tokP tokO
  rw [escP_by hi (by omega), linkP_by hi (by omega), refP_by hi (by omega), tagP_by hi (by omega), boldP_by hi (by omega)]
  cases codeP s i <;> rfl

theorem tokP_link {s : ByteArray} {i : Nat} (hi : i < s.size) (h : s[i].toNat = 91) : tokP s i = (linkP s i).getD (plSp i) := by
  unfold tokP tokO
  rw [escP_by hi (by omega), codeP_by hi (by omega), refP_by hi (by omega), tagP_by hi (by omega), boldP_by hi (by omega)]
  cases linkP s i <;> rfl

theorem tokP_ref {s : ByteArray} {i : Nat} (hi : i < s.size) (h : s[i].toNat = 40) : tokP s i = (refP s i).getD (plSp i) := by
  unfold tokP tokO
  rw [escP_by hi (by omega), codeP_by hi (by omega), linkP_by hi (by omega), tagP_by hi (by omega), boldP_by hi (by omega)]
  cases refP s i <;> rfl

theorem tokP_tag {s : ByteArray} {i : Nat} (hi : i < s.size) (h : s[i].toNat = 35) : tokP s i = (tagP s i).getD (plSp i) := by
  unfold tokP tokO
  rw [escP_by hi (by omega), codeP_by hi (by omega), linkP_by hi (by omega), refP_by hi (by omega), boldP_by hi (by omega)]
  cases tagP s i <;> rfl

theorem tokP_bold {s : ByteArray} {i : Nat} (hi : i < s.size) (h : s[i].toNat = 42) : tokP s i = (boldP s i).getD (plSp i) := by
  unfold tokP tokO
  rw [escP_by hi (by omega), codeP_by hi (by omega), linkP_by hi (by omega), refP_by hi (by omega), tagP_by hi (by omega)]
  cases boldP s i <;> rfl

theorem tokP_other {s : ByteArray} {i : Nat} (hi : i < s.size) (h1 : s[i].toNat ≠ 92) (h2 : s[i].toNat ≠ 96) (h3 : s[i].toNat ≠ 91) (h4 : s[i].toNat ≠ 40) (h5 : s[i].toNat ≠ 35) (h6 : s[i].toNat ≠ 42) : tokP s i = plSp i := by
  unfold tokP tokO
  rw [escP_by hi h1, codeP_by hi h2, linkP_by hi h3, refP_by hi h4, tagP_by hi h5, boldP_by hi h6]
  rfl

theorem fill1_other {s : ByteArray} {x : Sp} (h : x.kind ≠ 1) : fill1 s x = x := by
  unfold fill1
  rw [if_neg h]

theorem plSp_fill (s : ByteArray) (i : Nat) : #[.int .i64 1, .int .i64 i, .int .i64 ((i : Int) + 1), .string (s.extract i (i + 1)), .string ⟨#[]⟩, .int .i64 0, .bool false] = (fill1 s (plSp i)).vals.toArray := by
  unfold fill1 plSp
  rw [if_pos rfl]
  simp only [Sp.vals, Int.natCast_add, Int.cast_ofNat_Int]
  rfl

/-! ### The rest of a string -/
theorem rest_list (s : ByteArray) (i : Nat) : (s.extract i s.size).data.toList = s.data.toList.drop i := ext_rest s i

theorem rest_zero {s : ByteArray} {i : Nat} (hi : i < s.size) (h : 0 < (s.extract i s.size).size) : (s.extract i s.size)[0].toNat = s[i].toNat := by
  have h1 := ext_one (s := s) (a := i) (E := s.size) hi (Nat.le_refl _) s[i].toNat
  unfold one at h1
  rw [dif_pos h, dif_pos hi] at h1
  simp only [beq_self_eq_true, beq_iff_eq] at h1
  exact h1

theorem rest_get {s : ByteArray} {i k : Nat} (h : i + k < s.size) : ∃ h2 : k < (s.extract i s.size).size, (s.extract i s.size)[k] = s[i + k] := by
  have h2 : k < (s.extract i s.size).size := by rw [ByteArray.size_extract, Nat.min_self]; omega
  refine ⟨h2, ?_⟩
  have hl : i + k < s.data.toList.length := by rw [← Lib.size_eq]; exact h
  have hj : k < (s.extract i s.size).data.toList.length := by rw [← Lib.size_eq]; exact h2
  have : (s.extract i s.size).data.toList[k]? = s.data.toList[i + k]? := by rw [rest_list, List.getElem?_drop]
  rw [List.getElem?_eq_getElem hj, List.getElem?_eq_getElem hl] at this
  exact Option.some.inj this

theorem scn_rest (p : UInt8 → Bool) (s : ByteArray) (i k : Nat) : scn p s (i + k) = i + scn p (s.extract i s.size) k := by
  unfold scn
  rw [rest_list, List.drop_drop]
  omega

theorem ext_of_rest {s : ByteArray} {i a b : Nat} (h : i + b ≤ s.size) : (s.extract i s.size).extract a b = s.extract (i + a) (i + b) := by
  apply bytesS_ext
  rw [Lib.extract_data (s.extract i s.size) a b, Lib.extract_data s (i + a) (i + b), rest_list, List.drop_drop, show i + b - (i + a) = b - a by omega]

theorem two_rest {s : ByteArray} {i k : Nat} (c : Nat) (hc : c < 256) : two (s.extract i s.size) k c = two s (i + k) c := by
  rw [← two_has _ _ c hc, ← two_has _ _ c hc, rest_list, List.drop_drop]

theorem one_rest {s : ByteArray} {i k : Nat} (c : Nat) (hc : c < 256) : one (s.extract i s.size) k c = one s (i + k) c := by
  rw [← one_has _ _ c hc, ← one_has _ _ c hc, rest_list, List.drop_drop]

/-- What the reference's token hands back. -/
def RTokOut (s : ByteArray) (i : Nat) (w : World) (e : Ending) (w' : World) : Prop := e = .returned (.agg (fill1 s (tokP s i)).vals.toArray) ∧ Below w.heap.size w w'

set_option maxHeartbeats 6400000 in
set_option maxRecDepth 100000 in
theorem tokenR_esc (s : ByteArray) (i : Nat) (w : World) (hi : i < s.size) (hs : s.size ≤ 900000) (hb : s[i].toNat = 92) :
    Calls Tryz.prog 117 #[.string s, .int .i64 i] w (RTokOut s i w) := by
  have HPO : Hid (∀ (cs : Array Value) w', cs = (fill1 s (tokP s i)).vals.toArray → Below w.heap.size w w' → RTokOut s i w (.returned (.agg cs)) w') := hide fun cs w' hc hb => by rw [hc]; exact ⟨rfl, hb⟩
  generalize RTokOut s i w = PO at *
  have HPP := hide (fun (h : tokP s i = plSp i) w' (hb : Below w.heap.size w w') => HPO.out #[.int .i64 1, .int .i64 i, .int .i64 ((i : Int) + 1), .string (s.extract i (i + 1)), .string ⟨#[]⟩, .int .i64 0, .bool false] w' (by rw [h]; exact plSp_fill s i) hb)
  have HPS := hide (fun (x : Sp) (h : tokP s i = x) (hk : x.kind ≠ 1) (cs : Array Value) w' (hc : cs = x.vals.toArray) (hb : Below w.heap.size w w') => HPO.out cs w' (by rw [hc, h, fill1_other hk]) hb)
  have hRz : (s.extract i s.size).size = s.size - i := by rw [ByteArray.size_extract, Nat.min_self]
  have HR0 : Hid (∀ h : 0 < (s.extract i s.size).size, (s.extract i s.size)[0].toNat = s[i].toNat) := hide fun h => rest_zero hi h
  have HHB := hide (fun c (hc : c < 256) W => has2_at s i c hc W)
  have i0 : (i : Int) < (s.size : Int) := by omega
  have i1 : (i : Int) + 1 ≤ (s.size : Int) := by omega
  have HT := hide (tokP_esc hi hb)
  have HG1 := hide (fun (h : i + 1 < s.size) => rest_get (i := i) (k := 1) h)
  have HX1 := hide (fun (h : i + 2 ≤ s.size) => ext_of_rest (s := s) (i := i) (a := 1) (b := 2) h)
  generalize hre : s.extract i s.size = R at *
  have HRE := hide hre
  clear hre
  have H91 := hide (show ∀ W, Calls Tryz.prog 133 #[.string R, .string ⟨#[91, 91]⟩] W (fun e w' => e = .returned (.bool false) ∧ w' = W) from fun W => by have := HHB.out 91 (by decide) W; rw [show two s i 91 = false from two_by hi (by omega)] at this; exact this)
  have H40 := hide (show ∀ W, Calls Tryz.prog 133 #[.string R, .string ⟨#[40, 40]⟩] W (fun e w' => e = .returned (.bool false) ∧ w' = W) from fun W => by have := HHB.out 40 (by decide) W; rw [show two s i 40 = false from two_by hi (by omega)] at this; exact this)
  have H42 := hide (show ∀ W, Calls Tryz.prog 133 #[.string R, .string ⟨#[42, 42]⟩] W (fun e w' => e = .returned (.bool false) ∧ w' = W) from fun W => by have := HHB.out 42 (by decide) W; rw [show two s i 42 = false from two_by hi (by omega)] at this; exact this)
  have hRp : 0 < R.size := by omega
  have hr0 := HR0.out hRp
  have hRi : (0 : Int) < (R.size : Int) := by omega
  have r92 : ((R[0].toNat : Int) == 92) = true := beq_iff_eq.2 (by omega)
  have r96 : ((R[0].toNat : Int) == 96) = false := beq_eq_false_iff_ne.2 (by omega)
  have r35 : ((R[0].toNat : Int) == 35) = false := beq_eq_false_iff_ne.2 (by omega)
  clear hr0 HR0
  by_cases hl : i + 1 < s.size
  · have j1 : (1 : Int) < (R.size : Int) := by omega
    have hR1 : 1 < R.size := by omega
    obtain ⟨hg2, hg⟩ := HG1.out hl
    have hx := HX1.out hl
    have HPU := hide (fun W => isPunctR_any R[1] W)
    have hpu : isPu R[1] = isPu s[i + 1] := by rw [hg]
    rw [hpu] at HPU
    clear hpu
    have j2 : (2 : Int) ≤ (R.size : Int) := by omega
    have j3 : (i : Int) + 2 ≤ (s.size : Int) := by omega
    have HX := hide hx
    cases hp : isPu s[i + 1] with
    | true =>
      rw [hp] at HPU
      have HF := hide (HPS.out ⟨2, i, i + 2, s.extract (i + 1) (i + 2), ByteArray.empty, 0, false⟩ (by rw [HT.out]; unfold escP; rw [dif_pos hl, if_pos ⟨hb, hp⟩]; rfl) (show (2 : Int) ≠ 1 by decide))
      rw [← hx] at HF
      clear HPS HPP HPO HT hp HHB HG1 HX1 hb hx hg HX
      have HRZ := hide hRz
      clear hRz
      go_enter Tryz.func117, Tryz.ntmps117
      go_upto_region 3 with (fail)
      have HN := hide (show Blk ((w.alloc (.cells #[.int .i64 0, .int .i64 0, .int .i64 0, .string ⟨#[]⟩, .string ⟨#[]⟩, .int .i64 0, .bool false] 90)).alloc (.cells #[.int .i64 1, .int .i64 i, .int .i64 ((i : Int) + 1), .string (s.extract i (i + 1)), .string ⟨#[]⟩, .int .i64 0, .bool false] 90)) w.heap.size 90 #[.int .i64 0, .int .i64 0, .int .i64 0, .string ⟨#[]⟩, .string ⟨#[]⟩, .int .i64 0, .bool false] from (Blk.new w 90 #[.int .i64 0, .int .i64 0, .int .i64 0, .string ⟨#[]⟩, .string ⟨#[]⟩, .int .i64 0, .bool false]).alloc _)
      have HXB := hide (show Blk ((w.alloc (.cells #[.int .i64 0, .int .i64 0, .int .i64 0, .string ⟨#[]⟩, .string ⟨#[]⟩, .int .i64 0, .bool false] 90)).alloc (.cells #[.int .i64 1, .int .i64 i, .int .i64 ((i : Int) + 1), .string (s.extract i (i + 1)), .string ⟨#[]⟩, .int .i64 0, .bool false] 90)) (w.heap.size + 1) 90 #[.int .i64 1, .int .i64 i, .int .i64 ((i : Int) + 1), .string (s.extract i (i + 1)), .string ⟨#[]⟩, .int .i64 0, .bool false] from by have := Blk.new (w.alloc (.cells #[.int .i64 0, .int .i64 0, .int .i64 0, .string ⟨#[]⟩, .string ⟨#[]⟩, .int .i64 0, .bool false] 90)) 90 #[.int .i64 1, .int .i64 i, .int .i64 ((i : Int) + 1), .string (s.extract i (i + 1)), .string ⟨#[]⟩, .int .i64 0, .bool false]; simpa using this)
      have HBA := hide (bl_alloc (bl_alloc (Below.refl w.heap.size w) (.cells #[.int .i64 0, .int .i64 0, .int .i64 0, .string ⟨#[]⟩, .string ⟨#[]⟩, .int .i64 0, .bool false] 90)) (.cells #[.int .i64 1, .int .i64 i, .int .i64 ((i : Int) + 1), .string (s.extract i (i + 1)), .string ⟨#[]⟩, .int .i64 0, .bool false] 90))
      rw [HRE.out]
      generalize (w.alloc (.cells #[.int .i64 0, .int .i64 0, .int .i64 0, .string ⟨#[]⟩, .string ⟨#[]⟩, .int .i64 0, .bool false] 90)).alloc (.cells #[.int .i64 1, .int .i64 i, .int .i64 ((i : Int) + 1), .string (s.extract i (i + 1)), .string ⟨#[]⟩, .int .i64 0, .bool false] 90) = wa at *
      generalize w.heap.size + 1 = gx at *
      obtain ⟨z0, z1, z2, z3, z4, z5, z6, zf, zl⟩ := HN.out.seven
      obtain ⟨v0, v1, v2, v3, v4, v5, v6, -, vl⟩ := HXB.out.seven
      go_wp2_with (go_at_call 158; refine (HPU.out _).mono ?_; rintro e w' ⟨rfl, rfl⟩)
      refine bodyPost_ret (results_cell_row (P := Tryz.prog) (by rfl) _ _ w.heap.size 90 _ (0, 0) _ rfl (seven_set HN.out) Tryz.underlying90 rfl (by kernel_rfl)) rfl ?_
      exact HF.out _ _ (by simp only [Sp.vals, Int.natCast_add, Int.cast_ofNat_Int] <;> rfl) (below_seven HBA.out (Nat.le_refl _))
    | false =>
      rw [hp] at HPU
      have HF := hide (HPP.out (by rw [HT.out]; unfold escP; rw [dif_pos hl, if_neg (fun h => by rw [hp] at h; exact absurd h.2 Bool.false_ne_true)]; rfl))
      clear HPS HPP HPO HT hp HHB HG1 HX1 hb hx hg HX
      have HRZ := hide hRz
      clear hRz
      go_enter Tryz.func117, Tryz.ntmps117
      go_upto_region 3 with (fail)
      have HN := hide (show Blk ((w.alloc (.cells #[.int .i64 0, .int .i64 0, .int .i64 0, .string ⟨#[]⟩, .string ⟨#[]⟩, .int .i64 0, .bool false] 90)).alloc (.cells #[.int .i64 1, .int .i64 i, .int .i64 ((i : Int) + 1), .string (s.extract i (i + 1)), .string ⟨#[]⟩, .int .i64 0, .bool false] 90)) w.heap.size 90 #[.int .i64 0, .int .i64 0, .int .i64 0, .string ⟨#[]⟩, .string ⟨#[]⟩, .int .i64 0, .bool false] from (Blk.new w 90 #[.int .i64 0, .int .i64 0, .int .i64 0, .string ⟨#[]⟩, .string ⟨#[]⟩, .int .i64 0, .bool false]).alloc _)
      have HXB := hide (show Blk ((w.alloc (.cells #[.int .i64 0, .int .i64 0, .int .i64 0, .string ⟨#[]⟩, .string ⟨#[]⟩, .int .i64 0, .bool false] 90)).alloc (.cells #[.int .i64 1, .int .i64 i, .int .i64 ((i : Int) + 1), .string (s.extract i (i + 1)), .string ⟨#[]⟩, .int .i64 0, .bool false] 90)) (w.heap.size + 1) 90 #[.int .i64 1, .int .i64 i, .int .i64 ((i : Int) + 1), .string (s.extract i (i + 1)), .string ⟨#[]⟩, .int .i64 0, .bool false] from by have := Blk.new (w.alloc (.cells #[.int .i64 0, .int .i64 0, .int .i64 0, .string ⟨#[]⟩, .string ⟨#[]⟩, .int .i64 0, .bool false] 90)) 90 #[.int .i64 1, .int .i64 i, .int .i64 ((i : Int) + 1), .string (s.extract i (i + 1)), .string ⟨#[]⟩, .int .i64 0, .bool false]; simpa using this)
      have HBA := hide (bl_alloc (bl_alloc (Below.refl w.heap.size w) (.cells #[.int .i64 0, .int .i64 0, .int .i64 0, .string ⟨#[]⟩, .string ⟨#[]⟩, .int .i64 0, .bool false] 90)) (.cells #[.int .i64 1, .int .i64 i, .int .i64 ((i : Int) + 1), .string (s.extract i (i + 1)), .string ⟨#[]⟩, .int .i64 0, .bool false] 90))
      rw [HRE.out]
      generalize (w.alloc (.cells #[.int .i64 0, .int .i64 0, .int .i64 0, .string ⟨#[]⟩, .string ⟨#[]⟩, .int .i64 0, .bool false] 90)).alloc (.cells #[.int .i64 1, .int .i64 i, .int .i64 ((i : Int) + 1), .string (s.extract i (i + 1)), .string ⟨#[]⟩, .int .i64 0, .bool false] 90) = wa at *
      generalize w.heap.size + 1 = gx at *
      obtain ⟨z0, z1, z2, z3, z4, z5, z6, zf, zl⟩ := HN.out.seven
      obtain ⟨v0, v1, v2, v3, v4, v5, v6, -, vl⟩ := HXB.out.seven
      go_wp2_with (first | (go_at_call 158; refine (HPU.out _).mono ?_; rintro e w' ⟨rfl, rfl⟩) | (go_at_call 133; (first | (with_reducible refine (H91.out _).mono ?_) | (with_reducible refine (H40.out _).mono ?_) | (with_reducible refine (H42.out _).mono ?_)); rintro e w' ⟨rfl, hw⟩; subst w'))
      refine bodyPost_ret (results_cell_row (P := Tryz.prog) (by rfl) _ _ w.heap.size 90 _ (0, 0) _ rfl (seven_set HN.out) Tryz.underlying90 rfl (by kernel_rfl)) rfl ?_
      exact HF.out _ (below_seven HBA.out (Nat.le_refl _))
  · have j1 : ¬ (1 : Int) < (R.size : Int) := by omega
    have HF := hide (HPP.out (by rw [HT.out]; unfold escP; rw [dif_neg hl]; rfl))
    clear HPS HPP HPO HT HHB HG1 HX1 hb
    have HRZ := hide hRz
    clear hRz
    go_enter Tryz.func117, Tryz.ntmps117
    go_upto_region 3 with (fail)
    have HN := hide (show Blk ((w.alloc (.cells #[.int .i64 0, .int .i64 0, .int .i64 0, .string ⟨#[]⟩, .string ⟨#[]⟩, .int .i64 0, .bool false] 90)).alloc (.cells #[.int .i64 1, .int .i64 i, .int .i64 ((i : Int) + 1), .string (s.extract i (i + 1)), .string ⟨#[]⟩, .int .i64 0, .bool false] 90)) w.heap.size 90 #[.int .i64 0, .int .i64 0, .int .i64 0, .string ⟨#[]⟩, .string ⟨#[]⟩, .int .i64 0, .bool false] from (Blk.new w 90 #[.int .i64 0, .int .i64 0, .int .i64 0, .string ⟨#[]⟩, .string ⟨#[]⟩, .int .i64 0, .bool false]).alloc _)
    have HXB := hide (show Blk ((w.alloc (.cells #[.int .i64 0, .int .i64 0, .int .i64 0, .string ⟨#[]⟩, .string ⟨#[]⟩, .int .i64 0, .bool false] 90)).alloc (.cells #[.int .i64 1, .int .i64 i, .int .i64 ((i : Int) + 1), .string (s.extract i (i + 1)), .string ⟨#[]⟩, .int .i64 0, .bool false] 90)) (w.heap.size + 1) 90 #[.int .i64 1, .int .i64 i, .int .i64 ((i : Int) + 1), .string (s.extract i (i + 1)), .string ⟨#[]⟩, .int .i64 0, .bool false] from by have := Blk.new (w.alloc (.cells #[.int .i64 0, .int .i64 0, .int .i64 0, .string ⟨#[]⟩, .string ⟨#[]⟩, .int .i64 0, .bool false] 90)) 90 #[.int .i64 1, .int .i64 i, .int .i64 ((i : Int) + 1), .string (s.extract i (i + 1)), .string ⟨#[]⟩, .int .i64 0, .bool false]; simpa using this)
    have HBA := hide (bl_alloc (bl_alloc (Below.refl w.heap.size w) (.cells #[.int .i64 0, .int .i64 0, .int .i64 0, .string ⟨#[]⟩, .string ⟨#[]⟩, .int .i64 0, .bool false] 90)) (.cells #[.int .i64 1, .int .i64 i, .int .i64 ((i : Int) + 1), .string (s.extract i (i + 1)), .string ⟨#[]⟩, .int .i64 0, .bool false] 90))
    rw [HRE.out]
    generalize (w.alloc (.cells #[.int .i64 0, .int .i64 0, .int .i64 0, .string ⟨#[]⟩, .string ⟨#[]⟩, .int .i64 0, .bool false] 90)).alloc (.cells #[.int .i64 1, .int .i64 i, .int .i64 ((i : Int) + 1), .string (s.extract i (i + 1)), .string ⟨#[]⟩, .int .i64 0, .bool false] 90) = wa at *
    generalize w.heap.size + 1 = gx at *
    obtain ⟨z0, z1, z2, z3, z4, z5, z6, zf, zl⟩ := HN.out.seven
    obtain ⟨v0, v1, v2, v3, v4, v5, v6, -, vl⟩ := HXB.out.seven
    go_wp2_with (go_at_call 133; (first | (with_reducible refine (H91.out _).mono ?_) | (with_reducible refine (H40.out _).mono ?_) | (with_reducible refine (H42.out _).mono ?_)); rintro e w' ⟨rfl, hw⟩; subst w')
    refine bodyPost_ret (results_cell_row (P := Tryz.prog) (by rfl) _ _ w.heap.size 90 _ (0, 0) _ rfl (seven_set HN.out) Tryz.underlying90 rfl (by kernel_rfl)) rfl ?_
    exact HF.out _ (below_seven HBA.out (Nat.le_refl _))

set_option maxHeartbeats 6400000 in
set_option maxRecDepth 100000 in
theorem tokenR_code (s : ByteArray) (i : Nat) (w : World) (hi : i < s.size) (hs : s.size ≤ 900000) (hb : s[i].toNat = 96) :
    Calls Tryz.prog 117 #[.string s, .int .i64 i] w (RTokOut s i w) := by
  have HPO : Hid (∀ (cs : Array Value) w', cs = (fill1 s (tokP s i)).vals.toArray → Below w.heap.size w w' → RTokOut s i w (.returned (.agg cs)) w') := hide fun cs w' hc hb => by rw [hc]; exact ⟨rfl, hb⟩
  generalize RTokOut s i w = PO at *
  have HPP := hide (fun (h : tokP s i = plSp i) w' (hb : Below w.heap.size w w') => HPO.out #[.int .i64 1, .int .i64 i, .int .i64 ((i : Int) + 1), .string (s.extract i (i + 1)), .string ⟨#[]⟩, .int .i64 0, .bool false] w' (by rw [h]; exact plSp_fill s i) hb)
  have HPS := hide (fun (x : Sp) (h : tokP s i = x) (hk : x.kind ≠ 1) (cs : Array Value) w' (hc : cs = x.vals.toArray) (hb : Below w.heap.size w w') => HPO.out cs w' (by rw [hc, h, fill1_other hk]) hb)
  have hRz : (s.extract i s.size).size = s.size - i := by rw [ByteArray.size_extract, Nat.min_self]
  have HR0 : Hid (∀ h : 0 < (s.extract i s.size).size, (s.extract i s.size)[0].toNat = s[i].toNat) := hide fun h => rest_zero hi h
  have HHB := hide (fun c (hc : c < 256) W => has2_at s i c hc W)
  have i0 : (i : Int) < (s.size : Int) := by omega
  have i1 : (i : Int) + 1 ≤ (s.size : Int) := by omega
  have HT := hide (tokP_code hi hb)
  have HIX := hide (fun (h : 1 ≤ (s.extract i s.size).size) W => idxTk_at (s.extract i s.size) 1 h W)
  have HSC := hide (scn_rest noTk s i 1)
  have HXN := hide (fun n (h : i + (1 + n) ≤ s.size) => ext_of_rest (s := s) (i := i) (a := 1) (b := 1 + n) h)
  have HO : one s i 96 = true := by unfold one; rw [dif_pos hi]; exact beq_iff_eq.2 hb
  generalize hre : s.extract i s.size = R at *
  have HRE := hide hre
  clear hre
  have H91 := hide (show ∀ W, Calls Tryz.prog 133 #[.string R, .string ⟨#[91, 91]⟩] W (fun e w' => e = .returned (.bool false) ∧ w' = W) from fun W => by have := HHB.out 91 (by decide) W; rw [show two s i 91 = false from two_by hi (by omega)] at this; exact this)
  have H40 := hide (show ∀ W, Calls Tryz.prog 133 #[.string R, .string ⟨#[40, 40]⟩] W (fun e w' => e = .returned (.bool false) ∧ w' = W) from fun W => by have := HHB.out 40 (by decide) W; rw [show two s i 40 = false from two_by hi (by omega)] at this; exact this)
  have H42 := hide (show ∀ W, Calls Tryz.prog 133 #[.string R, .string ⟨#[42, 42]⟩] W (fun e w' => e = .returned (.bool false) ∧ w' = W) from fun W => by have := HHB.out 42 (by decide) W; rw [show two s i 42 = false from two_by hi (by omega)] at this; exact this)
  have hRp : 0 < R.size := by omega
  have hr0 := HR0.out hRp
  have hRi : (0 : Int) < (R.size : Int) := by omega
  have r92 : ((R[0].toNat : Int) == 92) = false := beq_eq_false_iff_ne.2 (by omega)
  have r96 : ((R[0].toNat : Int) == 96) = true := beq_iff_eq.2 (by omega)
  have r35 : ((R[0].toNat : Int) == 35) = false := beq_eq_false_iff_ne.2 (by omega)
  clear hr0 HR0
  have HIX := hide (HIX.out (by omega))
  have HC : Hid (codeP s i = if 1 < scn noTk R 1 ∧ scn noTk R 1 < R.size then some ⟨3, i, i + scn noTk R 1 + 1, s.extract (i + 1) (i + scn noTk R 1), ByteArray.empty, 0, false⟩ else none) := hide (by
    unfold codeP
    rw [HO, HSC.out]
    by_cases h : 1 < scn noTk R 1 ∧ scn noTk R 1 < R.size
    · rw [if_pos ⟨rfl, by omega, by omega⟩, if_pos h]
    · rw [if_neg (fun h9 => h ⟨by omega, by omega⟩), if_neg h])
  have hge := scn_ge noTk R 1
  have hle := scn_le (p := noTk) (s := R) (k := 1) (by omega)
  have j1 : (1 : Int) ≤ (R.size : Int) := by omega
  clear HSC HO
  generalize scn noTk R 1 = E at *
  obtain ⟨n, rfl⟩ : ∃ n, E = 1 + n := ⟨E - 1, by omega⟩
  by_cases hE : 1 + n < R.size
  · rw [if_pos hE, show (((1 + n : Nat) : Int) - ((1 : Nat) : Int)) = (n : Int) by omega] at HIX
    by_cases hn : n = 0
    · subst hn
      have HF := hide (HPP.out (by rw [HT.out, HC.out, if_neg (fun h => by omega)]; rfl))
      clear HPS HPP HPO HT HC HHB HXN hb
      have HRZ := hide hRz
      clear hRz
      go_enter Tryz.func117, Tryz.ntmps117
      go_upto_region 3 with (fail)
      have HN := hide (show Blk ((w.alloc (.cells #[.int .i64 0, .int .i64 0, .int .i64 0, .string ⟨#[]⟩, .string ⟨#[]⟩, .int .i64 0, .bool false] 90)).alloc (.cells #[.int .i64 1, .int .i64 i, .int .i64 ((i : Int) + 1), .string (s.extract i (i + 1)), .string ⟨#[]⟩, .int .i64 0, .bool false] 90)) w.heap.size 90 #[.int .i64 0, .int .i64 0, .int .i64 0, .string ⟨#[]⟩, .string ⟨#[]⟩, .int .i64 0, .bool false] from (Blk.new w 90 #[.int .i64 0, .int .i64 0, .int .i64 0, .string ⟨#[]⟩, .string ⟨#[]⟩, .int .i64 0, .bool false]).alloc _)
      have HXB := hide (show Blk ((w.alloc (.cells #[.int .i64 0, .int .i64 0, .int .i64 0, .string ⟨#[]⟩, .string ⟨#[]⟩, .int .i64 0, .bool false] 90)).alloc (.cells #[.int .i64 1, .int .i64 i, .int .i64 ((i : Int) + 1), .string (s.extract i (i + 1)), .string ⟨#[]⟩, .int .i64 0, .bool false] 90)) (w.heap.size + 1) 90 #[.int .i64 1, .int .i64 i, .int .i64 ((i : Int) + 1), .string (s.extract i (i + 1)), .string ⟨#[]⟩, .int .i64 0, .bool false] from by have := Blk.new (w.alloc (.cells #[.int .i64 0, .int .i64 0, .int .i64 0, .string ⟨#[]⟩, .string ⟨#[]⟩, .int .i64 0, .bool false] 90)) 90 #[.int .i64 1, .int .i64 i, .int .i64 ((i : Int) + 1), .string (s.extract i (i + 1)), .string ⟨#[]⟩, .int .i64 0, .bool false]; simpa using this)
      have HBA := hide (bl_alloc (bl_alloc (Below.refl w.heap.size w) (.cells #[.int .i64 0, .int .i64 0, .int .i64 0, .string ⟨#[]⟩, .string ⟨#[]⟩, .int .i64 0, .bool false] 90)) (.cells #[.int .i64 1, .int .i64 i, .int .i64 ((i : Int) + 1), .string (s.extract i (i + 1)), .string ⟨#[]⟩, .int .i64 0, .bool false] 90))
      rw [HRE.out]
      generalize (w.alloc (.cells #[.int .i64 0, .int .i64 0, .int .i64 0, .string ⟨#[]⟩, .string ⟨#[]⟩, .int .i64 0, .bool false] 90)).alloc (.cells #[.int .i64 1, .int .i64 i, .int .i64 ((i : Int) + 1), .string (s.extract i (i + 1)), .string ⟨#[]⟩, .int .i64 0, .bool false] 90) = wa at *
      generalize w.heap.size + 1 = gx at *
      obtain ⟨z0, z1, z2, z3, z4, z5, z6, zf, zl⟩ := HN.out.seven
      obtain ⟨v0, v1, v2, v3, v4, v5, v6, -, vl⟩ := HXB.out.seven
      go_wp2_with (first | (go_at_call 159; refine (HIX.out _).mono ?_; rintro e w' ⟨rfl, hw⟩; subst w') | (go_at_call 133; (first | (with_reducible refine (H91.out _).mono ?_) | (with_reducible refine (H40.out _).mono ?_) | (with_reducible refine (H42.out _).mono ?_)); rintro e w' ⟨rfl, hw⟩; subst w'))
      refine bodyPost_ret (results_cell_row (P := Tryz.prog) (by rfl) _ _ w.heap.size 90 _ (0, 0) _ rfl (seven_set HN.out) Tryz.underlying90 rfl (by kernel_rfl)) rfl ?_
      exact HF.out _ (below_seven HBA.out (Nat.le_refl _))
    · have i3 : (0 : Int) < (n : Int) := by omega
      have i4 : (1 : Int) + n ≤ (R.size : Int) := by omega
      have i5 : (i : Int) + n + 2 ≤ (s.size : Int) := by omega
      have hx := HXN.out n (by omega)
      have HF := hide (HPS.out ⟨3, i, i + n + 2, R.extract 1 (n + 1), ByteArray.empty, 0, false⟩ (by
        rw [HT.out, HC.out, if_pos ⟨by omega, hE⟩, show n + 1 = 1 + n by omega, hx]
        exact congrArg (fun q => (⟨3, i, q, s.extract (i + 1) (i + (1 + n)), ByteArray.empty, 0, false⟩ : Sp)) (by omega)) (show (3 : Int) ≠ 1 by decide))
      clear HPS HPP HPO HT HC HHB HXN hb hx
      have HRZ := hide hRz
      clear hRz
      go_enter Tryz.func117, Tryz.ntmps117
      go_upto_region 3 with (fail)
      have HN := hide (show Blk ((w.alloc (.cells #[.int .i64 0, .int .i64 0, .int .i64 0, .string ⟨#[]⟩, .string ⟨#[]⟩, .int .i64 0, .bool false] 90)).alloc (.cells #[.int .i64 1, .int .i64 i, .int .i64 ((i : Int) + 1), .string (s.extract i (i + 1)), .string ⟨#[]⟩, .int .i64 0, .bool false] 90)) w.heap.size 90 #[.int .i64 0, .int .i64 0, .int .i64 0, .string ⟨#[]⟩, .string ⟨#[]⟩, .int .i64 0, .bool false] from (Blk.new w 90 #[.int .i64 0, .int .i64 0, .int .i64 0, .string ⟨#[]⟩, .string ⟨#[]⟩, .int .i64 0, .bool false]).alloc _)
      have HXB := hide (show Blk ((w.alloc (.cells #[.int .i64 0, .int .i64 0, .int .i64 0, .string ⟨#[]⟩, .string ⟨#[]⟩, .int .i64 0, .bool false] 90)).alloc (.cells #[.int .i64 1, .int .i64 i, .int .i64 ((i : Int) + 1), .string (s.extract i (i + 1)), .string ⟨#[]⟩, .int .i64 0, .bool false] 90)) (w.heap.size + 1) 90 #[.int .i64 1, .int .i64 i, .int .i64 ((i : Int) + 1), .string (s.extract i (i + 1)), .string ⟨#[]⟩, .int .i64 0, .bool false] from by have := Blk.new (w.alloc (.cells #[.int .i64 0, .int .i64 0, .int .i64 0, .string ⟨#[]⟩, .string ⟨#[]⟩, .int .i64 0, .bool false] 90)) 90 #[.int .i64 1, .int .i64 i, .int .i64 ((i : Int) + 1), .string (s.extract i (i + 1)), .string ⟨#[]⟩, .int .i64 0, .bool false]; simpa using this)
      have HBA := hide (bl_alloc (bl_alloc (Below.refl w.heap.size w) (.cells #[.int .i64 0, .int .i64 0, .int .i64 0, .string ⟨#[]⟩, .string ⟨#[]⟩, .int .i64 0, .bool false] 90)) (.cells #[.int .i64 1, .int .i64 i, .int .i64 ((i : Int) + 1), .string (s.extract i (i + 1)), .string ⟨#[]⟩, .int .i64 0, .bool false] 90))
      rw [HRE.out]
      generalize (w.alloc (.cells #[.int .i64 0, .int .i64 0, .int .i64 0, .string ⟨#[]⟩, .string ⟨#[]⟩, .int .i64 0, .bool false] 90)).alloc (.cells #[.int .i64 1, .int .i64 i, .int .i64 ((i : Int) + 1), .string (s.extract i (i + 1)), .string ⟨#[]⟩, .int .i64 0, .bool false] 90) = wa at *
      generalize w.heap.size + 1 = gx at *
      obtain ⟨z0, z1, z2, z3, z4, z5, z6, zf, zl⟩ := HN.out.seven
      obtain ⟨v0, v1, v2, v3, v4, v5, v6, -, vl⟩ := HXB.out.seven
      go_wp2_with (go_at_call 159; refine (HIX.out _).mono ?_; rintro e w' ⟨rfl, hw⟩; subst w')
      refine bodyPost_ret (results_cell_row (P := Tryz.prog) (by rfl) _ _ w.heap.size 90 _ (0, 0) _ rfl (seven_set HN.out) Tryz.underlying90 rfl (by kernel_rfl)) rfl ?_
      exact HF.out _ _ (by simp only [Sp.vals, Int.natCast_add, Int.cast_ofNat_Int] <;> rfl) (below_seven HBA.out (Nat.le_refl _))
  · rw [if_neg hE] at HIX
    have HF := hide (HPP.out (by rw [HT.out, HC.out, if_neg (fun h => hE h.2)]; rfl))
    clear HPS HPP HPO HT HC HHB HXN hb
    have HRZ := hide hRz
    clear hRz
    go_enter Tryz.func117, Tryz.ntmps117
    go_upto_region 3 with (fail)
    have HN := hide (show Blk ((w.alloc (.cells #[.int .i64 0, .int .i64 0, .int .i64 0, .string ⟨#[]⟩, .string ⟨#[]⟩, .int .i64 0, .bool false] 90)).alloc (.cells #[.int .i64 1, .int .i64 i, .int .i64 ((i : Int) + 1), .string (s.extract i (i + 1)), .string ⟨#[]⟩, .int .i64 0, .bool false] 90)) w.heap.size 90 #[.int .i64 0, .int .i64 0, .int .i64 0, .string ⟨#[]⟩, .string ⟨#[]⟩, .int .i64 0, .bool false] from (Blk.new w 90 #[.int .i64 0, .int .i64 0, .int .i64 0, .string ⟨#[]⟩, .string ⟨#[]⟩, .int .i64 0, .bool false]).alloc _)
    have HXB := hide (show Blk ((w.alloc (.cells #[.int .i64 0, .int .i64 0, .int .i64 0, .string ⟨#[]⟩, .string ⟨#[]⟩, .int .i64 0, .bool false] 90)).alloc (.cells #[.int .i64 1, .int .i64 i, .int .i64 ((i : Int) + 1), .string (s.extract i (i + 1)), .string ⟨#[]⟩, .int .i64 0, .bool false] 90)) (w.heap.size + 1) 90 #[.int .i64 1, .int .i64 i, .int .i64 ((i : Int) + 1), .string (s.extract i (i + 1)), .string ⟨#[]⟩, .int .i64 0, .bool false] from by have := Blk.new (w.alloc (.cells #[.int .i64 0, .int .i64 0, .int .i64 0, .string ⟨#[]⟩, .string ⟨#[]⟩, .int .i64 0, .bool false] 90)) 90 #[.int .i64 1, .int .i64 i, .int .i64 ((i : Int) + 1), .string (s.extract i (i + 1)), .string ⟨#[]⟩, .int .i64 0, .bool false]; simpa using this)
    have HBA := hide (bl_alloc (bl_alloc (Below.refl w.heap.size w) (.cells #[.int .i64 0, .int .i64 0, .int .i64 0, .string ⟨#[]⟩, .string ⟨#[]⟩, .int .i64 0, .bool false] 90)) (.cells #[.int .i64 1, .int .i64 i, .int .i64 ((i : Int) + 1), .string (s.extract i (i + 1)), .string ⟨#[]⟩, .int .i64 0, .bool false] 90))
    rw [HRE.out]
    generalize (w.alloc (.cells #[.int .i64 0, .int .i64 0, .int .i64 0, .string ⟨#[]⟩, .string ⟨#[]⟩, .int .i64 0, .bool false] 90)).alloc (.cells #[.int .i64 1, .int .i64 i, .int .i64 ((i : Int) + 1), .string (s.extract i (i + 1)), .string ⟨#[]⟩, .int .i64 0, .bool false] 90) = wa at *
    generalize w.heap.size + 1 = gx at *
    obtain ⟨z0, z1, z2, z3, z4, z5, z6, zf, zl⟩ := HN.out.seven
    obtain ⟨v0, v1, v2, v3, v4, v5, v6, -, vl⟩ := HXB.out.seven
    go_wp2_with (first | (go_at_call 159; refine (HIX.out _).mono ?_; rintro e w' ⟨rfl, hw⟩; subst w') | (go_at_call 133; (first | (with_reducible refine (H91.out _).mono ?_) | (with_reducible refine (H40.out _).mono ?_) | (with_reducible refine (H42.out _).mono ?_)); rintro e w' ⟨rfl, hw⟩; subst w'))
    refine bodyPost_ret (results_cell_row (P := Tryz.prog) (by rfl) _ _ w.heap.size 90 _ (0, 0) _ rfl (seven_set HN.out) Tryz.underlying90 rfl (by kernel_rfl)) rfl ?_
    exact HF.out _ (below_seven HBA.out (Nat.le_refl _))

set_option maxHeartbeats 6400000 in
set_option maxRecDepth 100000 in
theorem tokenR_bold (s : ByteArray) (i : Nat) (w : World) (hi : i < s.size) (hs : s.size ≤ 900000) (hb : s[i].toNat = 42) :
    Calls Tryz.prog 117 #[.string s, .int .i64 i] w (RTokOut s i w) := by
  have HPO : Hid (∀ (cs : Array Value) w', cs = (fill1 s (tokP s i)).vals.toArray → Below w.heap.size w w' → RTokOut s i w (.returned (.agg cs)) w') := hide fun cs w' hc hb => by rw [hc]; exact ⟨rfl, hb⟩
  generalize RTokOut s i w = PO at *
  have HPP := hide (fun (h : tokP s i = plSp i) w' (hb : Below w.heap.size w w') => HPO.out #[.int .i64 1, .int .i64 i, .int .i64 ((i : Int) + 1), .string (s.extract i (i + 1)), .string ⟨#[]⟩, .int .i64 0, .bool false] w' (by rw [h]; exact plSp_fill s i) hb)
  have HPS := hide (fun (x : Sp) (h : tokP s i = x) (hk : x.kind ≠ 1) (cs : Array Value) w' (hc : cs = x.vals.toArray) (hb : Below w.heap.size w w') => HPO.out cs w' (by rw [hc, h, fill1_other hk]) hb)
  have hRz : (s.extract i s.size).size = s.size - i := by rw [ByteArray.size_extract, Nat.min_self]
  have HR0 : Hid (∀ h : 0 < (s.extract i s.size).size, (s.extract i s.size)[0].toNat = s[i].toNat) := hide fun h => rest_zero hi h
  have HHB := hide (fun c (hc : c < 256) W => has2_at s i c hc W)
  have i0 : (i : Int) < (s.size : Int) := by omega
  have i1 : (i : Int) + 1 ≤ (s.size : Int) := by omega
  have HT := hide (tokP_bold hi hb)
  generalize hre : s.extract i s.size = R at *
  have HRE := hide hre
  clear hre
  cases h42 : two s i 42 with
  | true =>
    have H91 := hide (show ∀ W, Calls Tryz.prog 133 #[.string R, .string ⟨#[91, 91]⟩] W (fun e w' => e = .returned (.bool false) ∧ w' = W) from fun W => by have := HHB.out 91 (by decide) W; rw [show two s i 91 = false from two_by hi (by omega)] at this; exact this)
    have H40 := hide (show ∀ W, Calls Tryz.prog 133 #[.string R, .string ⟨#[40, 40]⟩] W (fun e w' => e = .returned (.bool false) ∧ w' = W) from fun W => by have := HHB.out 40 (by decide) W; rw [show two s i 40 = false from two_by hi (by omega)] at this; exact this)
    have H42 := hide (show ∀ W, Calls Tryz.prog 133 #[.string R, .string ⟨#[42, 42]⟩] W (fun e w' => e = .returned (.bool true) ∧ w' = W) from fun W => by have := HHB.out 42 (by decide) W; rw [show two s i 42 = true from h42] at this; exact this)
    have hRp : 0 < R.size := by omega
    have hr0 := HR0.out hRp
    have hRi : (0 : Int) < (R.size : Int) := by omega
    have r92 : ((R[0].toNat : Int) == 92) = false := beq_eq_false_iff_ne.2 (by omega)
    have r96 : ((R[0].toNat : Int) == 96) = false := beq_eq_false_iff_ne.2 (by omega)
    have r35 : ((R[0].toNat : Int) == 35) = false := beq_eq_false_iff_ne.2 (by omega)
    clear hr0 HR0
    have i2 : (i : Int) + 2 ≤ (s.size : Int) := by have := two_lt h42; omega
    have HF := hide (HPS.out ⟨7, i, i + 2, ⟨#[42, 42]⟩, ByteArray.empty, 0, false⟩ (by rw [HT.out]; unfold boldP; rw [h42, if_pos rfl]; rfl) (show (7 : Int) ≠ 1 by decide))
    clear HPS HPP HPO HT HHB hb h42
    have HRZ := hide hRz
    clear hRz
    go_enter Tryz.func117, Tryz.ntmps117
    go_upto_region 3 with (fail)
    have HN := hide (show Blk ((w.alloc (.cells #[.int .i64 0, .int .i64 0, .int .i64 0, .string ⟨#[]⟩, .string ⟨#[]⟩, .int .i64 0, .bool false] 90)).alloc (.cells #[.int .i64 1, .int .i64 i, .int .i64 ((i : Int) + 1), .string (s.extract i (i + 1)), .string ⟨#[]⟩, .int .i64 0, .bool false] 90)) w.heap.size 90 #[.int .i64 0, .int .i64 0, .int .i64 0, .string ⟨#[]⟩, .string ⟨#[]⟩, .int .i64 0, .bool false] from (Blk.new w 90 #[.int .i64 0, .int .i64 0, .int .i64 0, .string ⟨#[]⟩, .string ⟨#[]⟩, .int .i64 0, .bool false]).alloc _)
    have HXB := hide (show Blk ((w.alloc (.cells #[.int .i64 0, .int .i64 0, .int .i64 0, .string ⟨#[]⟩, .string ⟨#[]⟩, .int .i64 0, .bool false] 90)).alloc (.cells #[.int .i64 1, .int .i64 i, .int .i64 ((i : Int) + 1), .string (s.extract i (i + 1)), .string ⟨#[]⟩, .int .i64 0, .bool false] 90)) (w.heap.size + 1) 90 #[.int .i64 1, .int .i64 i, .int .i64 ((i : Int) + 1), .string (s.extract i (i + 1)), .string ⟨#[]⟩, .int .i64 0, .bool false] from by have := Blk.new (w.alloc (.cells #[.int .i64 0, .int .i64 0, .int .i64 0, .string ⟨#[]⟩, .string ⟨#[]⟩, .int .i64 0, .bool false] 90)) 90 #[.int .i64 1, .int .i64 i, .int .i64 ((i : Int) + 1), .string (s.extract i (i + 1)), .string ⟨#[]⟩, .int .i64 0, .bool false]; simpa using this)
    have HBA := hide (bl_alloc (bl_alloc (Below.refl w.heap.size w) (.cells #[.int .i64 0, .int .i64 0, .int .i64 0, .string ⟨#[]⟩, .string ⟨#[]⟩, .int .i64 0, .bool false] 90)) (.cells #[.int .i64 1, .int .i64 i, .int .i64 ((i : Int) + 1), .string (s.extract i (i + 1)), .string ⟨#[]⟩, .int .i64 0, .bool false] 90))
    rw [HRE.out]
    generalize (w.alloc (.cells #[.int .i64 0, .int .i64 0, .int .i64 0, .string ⟨#[]⟩, .string ⟨#[]⟩, .int .i64 0, .bool false] 90)).alloc (.cells #[.int .i64 1, .int .i64 i, .int .i64 ((i : Int) + 1), .string (s.extract i (i + 1)), .string ⟨#[]⟩, .int .i64 0, .bool false] 90) = wa at *
    generalize w.heap.size + 1 = gx at *
    obtain ⟨z0, z1, z2, z3, z4, z5, z6, zf, zl⟩ := HN.out.seven
    obtain ⟨v0, v1, v2, v3, v4, v5, v6, -, vl⟩ := HXB.out.seven
    go_wp2_with (go_at_call 133; (first | (with_reducible refine (H91.out _).mono ?_) | (with_reducible refine (H40.out _).mono ?_) | (with_reducible refine (H42.out _).mono ?_)); rintro e w' ⟨rfl, hw⟩; subst w')
    refine bodyPost_ret (results_cell_row (P := Tryz.prog) (by rfl) _ _ w.heap.size 90 _ (0, 0) _ rfl (seven_set HN.out) Tryz.underlying90 rfl (by kernel_rfl)) rfl ?_
    exact HF.out _ _ (by simp only [Sp.vals, Int.natCast_add, Int.cast_ofNat_Int] <;> rfl) (below_seven HBA.out (Nat.le_refl _))
  | false =>
    have H91 := hide (show ∀ W, Calls Tryz.prog 133 #[.string R, .string ⟨#[91, 91]⟩] W (fun e w' => e = .returned (.bool false) ∧ w' = W) from fun W => by have := HHB.out 91 (by decide) W; rw [show two s i 91 = false from two_by hi (by omega)] at this; exact this)
    have H40 := hide (show ∀ W, Calls Tryz.prog 133 #[.string R, .string ⟨#[40, 40]⟩] W (fun e w' => e = .returned (.bool false) ∧ w' = W) from fun W => by have := HHB.out 40 (by decide) W; rw [show two s i 40 = false from two_by hi (by omega)] at this; exact this)
    have H42 := hide (show ∀ W, Calls Tryz.prog 133 #[.string R, .string ⟨#[42, 42]⟩] W (fun e w' => e = .returned (.bool false) ∧ w' = W) from fun W => by have := HHB.out 42 (by decide) W; rw [show two s i 42 = false from h42] at this; exact this)
    have hRp : 0 < R.size := by omega
    have hr0 := HR0.out hRp
    have hRi : (0 : Int) < (R.size : Int) := by omega
    have r92 : ((R[0].toNat : Int) == 92) = false := beq_eq_false_iff_ne.2 (by omega)
    have r96 : ((R[0].toNat : Int) == 96) = false := beq_eq_false_iff_ne.2 (by omega)
    have r35 : ((R[0].toNat : Int) == 35) = false := beq_eq_false_iff_ne.2 (by omega)
    clear hr0 HR0
    have HF := hide (HPP.out (by rw [HT.out]; unfold boldP; rw [h42, if_neg Bool.false_ne_true]; rfl))
    clear HPS HPP HPO HT HHB hb h42
    have HRZ := hide hRz
    clear hRz
    go_enter Tryz.func117, Tryz.ntmps117
    go_upto_region 3 with (fail)
    have HN := hide (show Blk ((w.alloc (.cells #[.int .i64 0, .int .i64 0, .int .i64 0, .string ⟨#[]⟩, .string ⟨#[]⟩, .int .i64 0, .bool false] 90)).alloc (.cells #[.int .i64 1, .int .i64 i, .int .i64 ((i : Int) + 1), .string (s.extract i (i + 1)), .string ⟨#[]⟩, .int .i64 0, .bool false] 90)) w.heap.size 90 #[.int .i64 0, .int .i64 0, .int .i64 0, .string ⟨#[]⟩, .string ⟨#[]⟩, .int .i64 0, .bool false] from (Blk.new w 90 #[.int .i64 0, .int .i64 0, .int .i64 0, .string ⟨#[]⟩, .string ⟨#[]⟩, .int .i64 0, .bool false]).alloc _)
    have HXB := hide (show Blk ((w.alloc (.cells #[.int .i64 0, .int .i64 0, .int .i64 0, .string ⟨#[]⟩, .string ⟨#[]⟩, .int .i64 0, .bool false] 90)).alloc (.cells #[.int .i64 1, .int .i64 i, .int .i64 ((i : Int) + 1), .string (s.extract i (i + 1)), .string ⟨#[]⟩, .int .i64 0, .bool false] 90)) (w.heap.size + 1) 90 #[.int .i64 1, .int .i64 i, .int .i64 ((i : Int) + 1), .string (s.extract i (i + 1)), .string ⟨#[]⟩, .int .i64 0, .bool false] from by have := Blk.new (w.alloc (.cells #[.int .i64 0, .int .i64 0, .int .i64 0, .string ⟨#[]⟩, .string ⟨#[]⟩, .int .i64 0, .bool false] 90)) 90 #[.int .i64 1, .int .i64 i, .int .i64 ((i : Int) + 1), .string (s.extract i (i + 1)), .string ⟨#[]⟩, .int .i64 0, .bool false]; simpa using this)
    have HBA := hide (bl_alloc (bl_alloc (Below.refl w.heap.size w) (.cells #[.int .i64 0, .int .i64 0, .int .i64 0, .string ⟨#[]⟩, .string ⟨#[]⟩, .int .i64 0, .bool false] 90)) (.cells #[.int .i64 1, .int .i64 i, .int .i64 ((i : Int) + 1), .string (s.extract i (i + 1)), .string ⟨#[]⟩, .int .i64 0, .bool false] 90))
    rw [HRE.out]
    generalize (w.alloc (.cells #[.int .i64 0, .int .i64 0, .int .i64 0, .string ⟨#[]⟩, .string ⟨#[]⟩, .int .i64 0, .bool false] 90)).alloc (.cells #[.int .i64 1, .int .i64 i, .int .i64 ((i : Int) + 1), .string (s.extract i (i + 1)), .string ⟨#[]⟩, .int .i64 0, .bool false] 90) = wa at *
    generalize w.heap.size + 1 = gx at *
    obtain ⟨z0, z1, z2, z3, z4, z5, z6, zf, zl⟩ := HN.out.seven
    obtain ⟨v0, v1, v2, v3, v4, v5, v6, -, vl⟩ := HXB.out.seven
    go_wp2_with (go_at_call 133; (first | (with_reducible refine (H91.out _).mono ?_) | (with_reducible refine (H40.out _).mono ?_) | (with_reducible refine (H42.out _).mono ?_)); rintro e w' ⟨rfl, hw⟩; subst w')
    refine bodyPost_ret (results_cell_row (P := Tryz.prog) (by rfl) _ _ w.heap.size 90 _ (0, 0) _ rfl (seven_set HN.out) Tryz.underlying90 rfl (by kernel_rfl)) rfl ?_
    exact HF.out _ (below_seven HBA.out (Nat.le_refl _))

set_option maxHeartbeats 6400000 in
set_option maxRecDepth 100000 in
theorem tokenR_other (s : ByteArray) (i : Nat) (w : World) (hi : i < s.size) (hs : s.size ≤ 900000) (h1 : s[i].toNat ≠ 92) (h2 : s[i].toNat ≠ 96) (h3 : s[i].toNat ≠ 91) (h4 : s[i].toNat ≠ 40) (h5 : s[i].toNat ≠ 35) (h6 : s[i].toNat ≠ 42) :
    Calls Tryz.prog 117 #[.string s, .int .i64 i] w (RTokOut s i w) := by
  have HPO : Hid (∀ (cs : Array Value) w', cs = (fill1 s (tokP s i)).vals.toArray → Below w.heap.size w w' → RTokOut s i w (.returned (.agg cs)) w') := hide fun cs w' hc hb => by rw [hc]; exact ⟨rfl, hb⟩
  generalize RTokOut s i w = PO at *
  have HPP := hide (fun (h : tokP s i = plSp i) w' (hb : Below w.heap.size w w') => HPO.out #[.int .i64 1, .int .i64 i, .int .i64 ((i : Int) + 1), .string (s.extract i (i + 1)), .string ⟨#[]⟩, .int .i64 0, .bool false] w' (by rw [h]; exact plSp_fill s i) hb)
  have HPS := hide (fun (x : Sp) (h : tokP s i = x) (hk : x.kind ≠ 1) (cs : Array Value) w' (hc : cs = x.vals.toArray) (hb : Below w.heap.size w w') => HPO.out cs w' (by rw [hc, h, fill1_other hk]) hb)
  have hRz : (s.extract i s.size).size = s.size - i := by rw [ByteArray.size_extract, Nat.min_self]
  have HR0 : Hid (∀ h : 0 < (s.extract i s.size).size, (s.extract i s.size)[0].toNat = s[i].toNat) := hide fun h => rest_zero hi h
  have HHB := hide (fun c (hc : c < 256) W => has2_at s i c hc W)
  have i0 : (i : Int) < (s.size : Int) := by omega
  have i1 : (i : Int) + 1 ≤ (s.size : Int) := by omega
  have HT := hide (tokP_other hi h1 h2 h3 h4 h5 h6)
  generalize hre : s.extract i s.size = R at *
  have HRE := hide hre
  clear hre
  have H91 := hide (show ∀ W, Calls Tryz.prog 133 #[.string R, .string ⟨#[91, 91]⟩] W (fun e w' => e = .returned (.bool false) ∧ w' = W) from fun W => by have := HHB.out 91 (by decide) W; rw [show two s i 91 = false from two_by hi h3] at this; exact this)
  have H40 := hide (show ∀ W, Calls Tryz.prog 133 #[.string R, .string ⟨#[40, 40]⟩] W (fun e w' => e = .returned (.bool false) ∧ w' = W) from fun W => by have := HHB.out 40 (by decide) W; rw [show two s i 40 = false from two_by hi h4] at this; exact this)
  have H42 := hide (show ∀ W, Calls Tryz.prog 133 #[.string R, .string ⟨#[42, 42]⟩] W (fun e w' => e = .returned (.bool false) ∧ w' = W) from fun W => by have := HHB.out 42 (by decide) W; rw [show two s i 42 = false from two_by hi h6] at this; exact this)
  have hRp : 0 < R.size := by omega
  have hr0 := HR0.out hRp
  have hRi : (0 : Int) < (R.size : Int) := by omega
  have r92 : ((R[0].toNat : Int) == 92) = false := beq_eq_false_iff_ne.2 (by omega)
  have r96 : ((R[0].toNat : Int) == 96) = false := beq_eq_false_iff_ne.2 (by omega)
  have r35 : ((R[0].toNat : Int) == 35) = false := beq_eq_false_iff_ne.2 (by omega)
  clear hr0 HR0
  have HF := hide (HPP.out HT.out)
  clear HPS HPP HPO HT HHB h1 h2 h3 h4 h5 h6
  have HRZ := hide hRz
  clear hRz
  go_enter Tryz.func117, Tryz.ntmps117
  go_upto_region 3 with (fail)
  have HN := hide (show Blk ((w.alloc (.cells #[.int .i64 0, .int .i64 0, .int .i64 0, .string ⟨#[]⟩, .string ⟨#[]⟩, .int .i64 0, .bool false] 90)).alloc (.cells #[.int .i64 1, .int .i64 i, .int .i64 ((i : Int) + 1), .string (s.extract i (i + 1)), .string ⟨#[]⟩, .int .i64 0, .bool false] 90)) w.heap.size 90 #[.int .i64 0, .int .i64 0, .int .i64 0, .string ⟨#[]⟩, .string ⟨#[]⟩, .int .i64 0, .bool false] from (Blk.new w 90 #[.int .i64 0, .int .i64 0, .int .i64 0, .string ⟨#[]⟩, .string ⟨#[]⟩, .int .i64 0, .bool false]).alloc _)
  have HXB := hide (show Blk ((w.alloc (.cells #[.int .i64 0, .int .i64 0, .int .i64 0, .string ⟨#[]⟩, .string ⟨#[]⟩, .int .i64 0, .bool false] 90)).alloc (.cells #[.int .i64 1, .int .i64 i, .int .i64 ((i : Int) + 1), .string (s.extract i (i + 1)), .string ⟨#[]⟩, .int .i64 0, .bool false] 90)) (w.heap.size + 1) 90 #[.int .i64 1, .int .i64 i, .int .i64 ((i : Int) + 1), .string (s.extract i (i + 1)), .string ⟨#[]⟩, .int .i64 0, .bool false] from by have := Blk.new (w.alloc (.cells #[.int .i64 0, .int .i64 0, .int .i64 0, .string ⟨#[]⟩, .string ⟨#[]⟩, .int .i64 0, .bool false] 90)) 90 #[.int .i64 1, .int .i64 i, .int .i64 ((i : Int) + 1), .string (s.extract i (i + 1)), .string ⟨#[]⟩, .int .i64 0, .bool false]; simpa using this)
  have HBA := hide (bl_alloc (bl_alloc (Below.refl w.heap.size w) (.cells #[.int .i64 0, .int .i64 0, .int .i64 0, .string ⟨#[]⟩, .string ⟨#[]⟩, .int .i64 0, .bool false] 90)) (.cells #[.int .i64 1, .int .i64 i, .int .i64 ((i : Int) + 1), .string (s.extract i (i + 1)), .string ⟨#[]⟩, .int .i64 0, .bool false] 90))
  rw [HRE.out]
  generalize (w.alloc (.cells #[.int .i64 0, .int .i64 0, .int .i64 0, .string ⟨#[]⟩, .string ⟨#[]⟩, .int .i64 0, .bool false] 90)).alloc (.cells #[.int .i64 1, .int .i64 i, .int .i64 ((i : Int) + 1), .string (s.extract i (i + 1)), .string ⟨#[]⟩, .int .i64 0, .bool false] 90) = wa at *
  generalize w.heap.size + 1 = gx at *
  obtain ⟨z0, z1, z2, z3, z4, z5, z6, zf, zl⟩ := HN.out.seven
  obtain ⟨v0, v1, v2, v3, v4, v5, v6, -, vl⟩ := HXB.out.seven
  go_wp2_with (go_at_call 133; (first | (with_reducible refine (H91.out _).mono ?_) | (with_reducible refine (H40.out _).mono ?_) | (with_reducible refine (H42.out _).mono ?_)); rintro e w' ⟨rfl, hw⟩; subst w')
  refine bodyPost_ret (results_cell_row (P := Tryz.prog) (by rfl) _ _ w.heap.size 90 _ (0, 0) _ rfl (seven_set HN.out) Tryz.underlying90 rfl (by kernel_rfl)) rfl ?_
  exact HF.out _ (below_seven HBA.out (Nat.le_refl _))

end Go.Proofs.YtioppoaijehicaaGreatDoor
