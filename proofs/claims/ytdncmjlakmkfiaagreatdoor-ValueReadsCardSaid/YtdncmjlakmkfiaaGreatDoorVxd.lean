/-
  WALKS: the reference reads a link.
-/
import Derived.Test.YtdncmjlakmkfiaaGreatDoorVxb
import Derived.Test.YtdncmjlakmkfiaaGreatDoorVwb
import Derived.Test.YtdncmjlakmkfiaaGreatDoorIxc
import Derived.Test.YtdncmjlakmkfiaaGreatDoorVwc
set_option linter.all false
namespace Go.Proofs.YtdncmjlakmkfiaaGreatDoor
open Go.RowKit

theorem index_bb {l : List UInt8} (h : Lib.hasPrefix l [91, 91] = true) : Lib.index l [93, 93] < 2 ↔ Lib.index l [93, 93] < 0 := by
  obtain ⟨r, rfl⟩ := hp_iff.1 h
  have hge := Lib.index_ge r [93, 93]
  have e : Lib.index ([91, 91] ++ r) [93, 93] = if Lib.index r [93, 93] = -1 then -1 else Lib.index r [93, 93] + 1 + 1 := by
    show Lib.index (91 :: 91 :: r) [93, 93] = _
    rw [Lib.index, Lib.index]
    simp only [List.isPrefixOf, show ((93 : UInt8) == 91) = false from rfl, Bool.false_and, Bool.false_eq_true, if_false]
    by_cases h1 : Lib.index r [93, 93] = -1
    · simp [h1]
    · have h2 : (Lib.index r [93, 93] == -1) = false := beq_eq_false_iff_ne.2 h1
      have h3 : (Lib.index r [93, 93] + 1 == -1) = false := beq_eq_false_iff_ne.2 (by omega)
      simp only [h2, Bool.false_eq_true, if_false, h3, if_neg h1]
  rw [e]
  split <;> omega

theorem pLk_no {l : List UInt8} (h : Lib.hasPrefix l [91, 91] = true) (hi : Lib.index l [93, 93] < 0) : pLk l = none := if_pos ((index_bb h).2 hi)

theorem pLk_yes {l : List UInt8} {n : Nat} (hi : Lib.index l [93, 93] = n) (h2 : 2 ≤ n) : pLk l = some (vLink ((l.drop 2).take (n - 2)), l.drop (n + 2), false) := by
  unfold pLk
  rw [if_neg (by omega), hi]
  rfl

set_option maxHeartbeats 3200000 in
set_option maxRecDepth 100000 in
theorem readItem_link (s : ByteArray) (it : Bool) (w : World) (hs : s.size ≤ 400000) (hm : MaxTold w) (hq : Lib.hasPrefix s.data.toList [34] = false) (h2 : Lib.hasPrefix s.data.toList [91, 91] = true) (h3 : it = true ∨ Lib.hasPrefix s.data.toList [91, 91, 91] = false) :
    Calls Tryz.prog 17 #[.string s, .bool it] w (RfLeaf s (pLk s.data.toList) w) := by
  have HA := hide (fun W => hpS_any s ⟨#[34]⟩ false W hq)
  have HB := hide (fun W => hpS_any s ⟨#[91, 91]⟩ true W h2)
  have HS := hide (Sr.start (w := w))
  obtain ⟨d0, d1, d2, d3, d4, y0, y1, y2, y3, y4, hg⟩ := HS.out.cells
  have HM := hide hm
  have HI := hide (fun W hm => Tryz.index_any s ⟨#[93, 93]⟩ W hm (by omega))
  change Hid (∀ W, MaxTold W → Calls Tryz.prog 60 #[.string s, .string ⟨#[93, 93]⟩] W fun e w' => e = .returned (.int .i64 (Lib.index s.data.toList [93, 93])) ∧ w' = W) at HI
  clear hm hq
  cases it with
  | true =>
    have HC := hide True.intro
    clear h3
    by_cases hi : Lib.index s.data.toList [93, 93] < 0
    · rw [pLk_no h2 hi]
      have hi2 : decide (Lib.index s.data.toList [93, 93] < 0) = true := decide_eq_true hi
      clear h2
      generalize Lib.index s.data.toList [93, 93] = n at *
      go_enter Tryz.func17, Tryz.ntmps17
      go_wp2_with (first | (go_at_call_of 50 (Value.string ⟨#[34]⟩); (refine (HA.out _).mono ?_); rintro e w' ⟨rfl, hw⟩; subst hw) | (go_at_call_of 50 (Value.string ⟨#[91, 91]⟩); (refine (HB.out _).mono ?_); rintro e w' ⟨rfl, hw⟩; subst hw) | (go_at_call 60; (refine (HI.out _ (maxTold_below HM.out (by repeat (first | exact Below.refl _ _ | with_reducible refine bl_plus ?_ | with_reducible refine bl_alloc ?_ _ | with_reducible refine bl_drew ?_ | with_reducible refine bl_drewN ?_ _)))).mono ?_); rintro e w' ⟨rfl, hw⟩; subst hw) | (go_at_call 58; (refine (badR_any _).mono ?_); rintro e W9 ⟨rfl, hbl⟩; have HS1 := hide (HS.out.below hbl); clear d0 d1 d2 d3 d4 y0 y1 y2 y3 y4 hg; clear HS; have HS := HS1; clear HS1; obtain ⟨d0, d1, d2, d3, d4, y0, y1, y2, y3, y4, hg⟩ := HS.out.cells; clear hbl))
      refine bodyPost_ret (res_cell3 (P := Tryz.prog) (fn := Tryz.f17) (p := 4) (u := 5) (v := 6) rfl _ _ _ 24 #[.int .i64 0, .int .i64 0, .int .i64 0, .string ⟨#[]⟩, .slice none 0 0] (0, 0) _ rfl (HS.out.end _ _ _ _ _).1 Tryz.underlying24 rfl (by kernel_rfl)) rfl ?_
      exact ⟨(HS.out.end _ _ _ _ _).2, vN, ⟨#[]⟩, 8, rfl, rfl, Nat.zero_le _, .inl ⟨rfl, rfl⟩⟩
    · obtain ⟨n, hn⟩ : ∃ n : Nat, Lib.index s.data.toList [93, 93] = n := ⟨(Lib.index s.data.toList [93, 93]).toNat, by omega⟩
      have hn2 : 2 ≤ n := by have := (index_bb h2); omega
      rw [pLk_yes hn hn2]
      rw [hn] at HI hi
      have hb := index_bd hn
      rw [size_list] at hb
      have hi2 : decide ((n : Int) < 0) = false := decide_eq_false (by omega)
      have hX := hide (extract_strOf s 0 n hn2)
      have a1 : (2 : Int) ≤ (n : Int) := by omega
      have a2 : (n : Int) ≤ (s.size : Int) := by omega
      have a3 : IntKind.i64.wrap ((n : Int) + 2) = (n : Int) + 2 := IntWalk.i64_in _ (by omega)
      have a4 : (0 : Int) ≤ (n : Int) + 2 := by omega
      have a5 : (n : Int) + 2 ≤ (s.size : Int) := by omega
      have a6 : ((n : Int) + 2).toNat = n + 2 := by omega
      have HNS := hide hb
      clear h2 hn hi hb
      go_enter Tryz.func17, Tryz.ntmps17
      go_wp2_with (first | (go_at_call_of 50 (Value.string ⟨#[34]⟩); (refine (HA.out _).mono ?_); rintro e w' ⟨rfl, hw⟩; subst hw) | (go_at_call_of 50 (Value.string ⟨#[91, 91]⟩); (refine (HB.out _).mono ?_); rintro e w' ⟨rfl, hw⟩; subst hw) | (go_at_call 60; (refine (HI.out _ (maxTold_below HM.out (by repeat (first | exact Below.refl _ _ | with_reducible refine bl_plus ?_ | with_reducible refine bl_alloc ?_ _ | with_reducible refine bl_drew ?_ | with_reducible refine bl_drewN ?_ _)))).mono ?_); rintro e w' ⟨rfl, hw⟩; subst hw))
      go_region
      go_wp2
      go_returns
      have hx := hX.out
      simp only [Nat.zero_add] at hx
      exact ⟨(by repeat (first | exact Below.refl _ _ | with_reducible refine bl_plus ?_ | with_reducible refine bl_alloc ?_ _ | with_reducible refine bl_drew ?_ | with_reducible refine bl_drewN ?_ _)), .mk 6 0 0 (s.extract 2 n) [], s.extract (n + 2) s.size, 0, rfl, rfl, by rw [ByteArray.size_extract]; omega, .inr ⟨false, by rw [hx, rst_ext]; rfl, rfl⟩⟩
  | false =>
    have h33 : Lib.hasPrefix s.data.toList [91, 91, 91] = false := by
      rcases h3 with h | h
      · cases h
      · exact h
    have HC := hide (fun W => hpS_any s ⟨#[91, 91, 91]⟩ false W h33)
    clear h3 h33
    by_cases hi : Lib.index s.data.toList [93, 93] < 0
    · rw [pLk_no h2 hi]
      have hi2 : decide (Lib.index s.data.toList [93, 93] < 0) = true := decide_eq_true hi
      clear h2
      generalize Lib.index s.data.toList [93, 93] = n at *
      go_enter Tryz.func17, Tryz.ntmps17
      go_wp2_with (first | (go_at_call_of 50 (Value.string ⟨#[34]⟩); (refine (HA.out _).mono ?_); rintro e w' ⟨rfl, hw⟩; subst hw) | (go_at_call_of 50 (Value.string ⟨#[91, 91]⟩); (refine (HB.out _).mono ?_); rintro e w' ⟨rfl, hw⟩; subst hw) | (go_at_call_of 50 (Value.string ⟨#[91, 91, 91]⟩); (refine (HC.out _).mono ?_); rintro e w' ⟨rfl, hw⟩; subst hw) | (go_at_call 60; (refine (HI.out _ (maxTold_below HM.out (by repeat (first | exact Below.refl _ _ | with_reducible refine bl_plus ?_ | with_reducible refine bl_alloc ?_ _ | with_reducible refine bl_drew ?_ | with_reducible refine bl_drewN ?_ _)))).mono ?_); rintro e w' ⟨rfl, hw⟩; subst hw) | (go_at_call 58; (refine (badR_any _).mono ?_); rintro e W9 ⟨rfl, hbl⟩; have HS1 := hide (HS.out.below hbl); clear d0 d1 d2 d3 d4 y0 y1 y2 y3 y4 hg; clear HS; have HS := HS1; clear HS1; obtain ⟨d0, d1, d2, d3, d4, y0, y1, y2, y3, y4, hg⟩ := HS.out.cells; clear hbl))
      refine bodyPost_ret (res_cell3 (P := Tryz.prog) (fn := Tryz.f17) (p := 4) (u := 5) (v := 6) rfl _ _ _ 24 #[.int .i64 0, .int .i64 0, .int .i64 0, .string ⟨#[]⟩, .slice none 0 0] (0, 0) _ rfl (HS.out.end _ _ _ _ _).1 Tryz.underlying24 rfl (by kernel_rfl)) rfl ?_
      exact ⟨(HS.out.end _ _ _ _ _).2, vN, ⟨#[]⟩, 8, rfl, rfl, Nat.zero_le _, .inl ⟨rfl, rfl⟩⟩
    · obtain ⟨n, hn⟩ : ∃ n : Nat, Lib.index s.data.toList [93, 93] = n := ⟨(Lib.index s.data.toList [93, 93]).toNat, by omega⟩
      have hn2 : 2 ≤ n := by have := (index_bb h2); omega
      rw [pLk_yes hn hn2]
      rw [hn] at HI hi
      have hb := index_bd hn
      rw [size_list] at hb
      have hi2 : decide ((n : Int) < 0) = false := decide_eq_false (by omega)
      have hX := hide (extract_strOf s 0 n hn2)
      have a1 : (2 : Int) ≤ (n : Int) := by omega
      have a2 : (n : Int) ≤ (s.size : Int) := by omega
      have a3 : IntKind.i64.wrap ((n : Int) + 2) = (n : Int) + 2 := IntWalk.i64_in _ (by omega)
      have a4 : (0 : Int) ≤ (n : Int) + 2 := by omega
      have a5 : (n : Int) + 2 ≤ (s.size : Int) := by omega
      have a6 : ((n : Int) + 2).toNat = n + 2 := by omega
      have HNS := hide hb
      clear h2 hn hi hb
      go_enter Tryz.func17, Tryz.ntmps17
      go_wp2_with (first | (go_at_call_of 50 (Value.string ⟨#[34]⟩); (refine (HA.out _).mono ?_); rintro e w' ⟨rfl, hw⟩; subst hw) | (go_at_call_of 50 (Value.string ⟨#[91, 91]⟩); (refine (HB.out _).mono ?_); rintro e w' ⟨rfl, hw⟩; subst hw) | (go_at_call_of 50 (Value.string ⟨#[91, 91, 91]⟩); (refine (HC.out _).mono ?_); rintro e w' ⟨rfl, hw⟩; subst hw) | (go_at_call 60; (refine (HI.out _ (maxTold_below HM.out (by repeat (first | exact Below.refl _ _ | with_reducible refine bl_plus ?_ | with_reducible refine bl_alloc ?_ _ | with_reducible refine bl_drew ?_ | with_reducible refine bl_drewN ?_ _)))).mono ?_); rintro e w' ⟨rfl, hw⟩; subst hw))
      go_region
      go_wp2
      go_returns
      have hx := hX.out
      simp only [Nat.zero_add] at hx
      exact ⟨(by repeat (first | exact Below.refl _ _ | with_reducible refine bl_plus ?_ | with_reducible refine bl_alloc ?_ _ | with_reducible refine bl_drew ?_ | with_reducible refine bl_drewN ?_ _)), .mk 6 0 0 (s.extract 2 n) [], s.extract (n + 2) s.size, 0, rfl, rfl, by rw [ByteArray.size_extract]; omega, .inr ⟨false, by rw [hx, rst_ext]; rfl, rfl⟩⟩


end Go.Proofs.YtdncmjlakmkfiaaGreatDoor
/-
  WALKS: the reference reads a word.
-/
namespace Go.Proofs.YtdncmjlakmkfiaaGreatDoor
open Go.RowKit

theorem lit45 : (ByteArray.mk #[45]).toList = [45] := by rw [Lib.toList_data]

theorem litYes : (ByteArray.mk #[121, 101, 115]).toList = [121, 101, 115] := by rw [Lib.toList_data]

theorem litNo : (ByteArray.mk #[110, 111]).toList = [110, 111] := by rw [Lib.toList_data]
attribute [local go_sem high] lit45 litYes litNo run_max_i

theorem dayOfR_code (a b c : Int) : (dayOfR a b c).2 = 0 ∨ (dayOfR a b c).2 = 2 := by
  unfold dayOfR
  split
  · exact .inl rfl
  · exact .inr rfl

theorem dateR_yes {l : List UInt8} (h : isDateF l = true) : (dateR l).2 = if farB l = true then 2 else 0 := by
  have e : (dateR l).2 = 0 ∨ (dateR l).2 = 2 := by
    unfold dateR
    rw [if_pos h]
    exact dayOfR_code _ _ _
  unfold farB
  rcases e with e | e <;> rw [e] <;> rfl

theorem dateR_no {l : List UInt8} (h : isDateF l = false) : dateR l = (0, 8) := by
  unfold dateR
  rw [h]
  rfl

/-- What a word, and what follows it, come to. -/
def wdO (x rest : ByteArray) : Got := match lf x.data.toList with
  | some (v, f) => some (v, rest.data.toList, f)
  | none => none

theorem beq_no {a b : List UInt8} (h : a ≠ b) : (a == b) = false := beq_eq_false_iff_ne.2 h

end Go.Proofs.YtdncmjlakmkfiaaGreatDoor
