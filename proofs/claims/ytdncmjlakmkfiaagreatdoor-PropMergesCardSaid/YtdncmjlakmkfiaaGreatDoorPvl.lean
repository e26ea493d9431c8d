/-
  WALK: a value's error, in the reference: a kind that there is not.
-/
import Derived.Test.YtdncmjlakmkfiaaGreatDoorPvi
import Derived.Deep.RegionHeld3
set_option linter.all false
namespace Go.Proofs.YtdncmjlakmkfiaaGreatDoor
open Go.RowKit Go.Lib

set_option maxHeartbeats 1600000 in
set_option maxRecDepth 100000 in
theorem valueFault_far (v : V) (A : Option Addr) (c : Nat) (w : World) (h : v.k < 0 ∨ 7 < v.k) :
    Calls Tryz.prog 18 #[v.arg A c] w fun e w' => e = .returned (.int .i64 v.selfErr) ∧ Below w.heap.size w w' := by
  have hE : v.selfErr = 10 := if_pos h
  rw [hE]
  clear hE
  obtain ⟨k, i, t, s, l⟩ := v
  simp only [V.arg, V.k, V.i, V.t, V.s, V.l] at *
  rcases h with h | h
  all_goals
    go_enter Tryz.func18, Tryz.ntmps18
    go_wp2
    go_ret
    exact ⟨rfl, (by repeat (first | exact Below.refl _ _ | refine bl_plus ?_ | refine bl_alloc ?_ _ | refine bl_drew ?_))⟩

end Go.Proofs.YtdncmjlakmkfiaaGreatDoor
/-
  WALK: a value's error, in the reference, where there are no items: links.
-/
namespace Go.Proofs.YtdncmjlakmkfiaaGreatDoor
open Go.RowKit Go.Lib

theorem trim_same {s : ByteArray} {m : Nat} {x y : UInt8} (hm : s.size = m + 1) (hx : s.data.toList[0]? = some x) (hy : s.data.toList[m]? = some y) :
    ((⟨(Lib.trimS s.data.toList [32]).toArray⟩ : ByteArray).toList == s.toList) = !(decide (x.toNat = 32) || decide (y.toNat = 32)) := by
  rw [Lib.toList_data, Lib.toList_data]
  exact trim_blank (by rw [Array.length_toList]; exact hm) hx hy

set_option maxHeartbeats 64000000 in
set_option maxRecDepth 100000 in
theorem valueFault_6link (s : ByteArray) (A : Option Addr) (c : Nat) (w : World) (E : Int) (h1 : s.size ≤ 100) (hc : ctl s = false) (m : Nat) (x y : UInt8) (hm : s.size = m + 1) (hx : s.data.toList[0]? = some x) (hy : s.data.toList[m]? = some y)
    (hE : (x.toNat = 32 ∧ E = 1) ∨ (x.toNat ≠ 32 ∧ y.toNat = 32 ∧ E = 1) ∨ (x.toNat ≠ 32 ∧ y.toNat ≠ 32 ∧ sqAny s = true ∧ E = 1) ∨ (x.toNat ≠ 32 ∧ y.toNat ≠ 32 ∧ sqAny s = false ∧ E = 0)) :
    Calls Tryz.prog 18 #[.agg #[.int .i64 6, .int .i64 0, .int .i64 0, .string s, .slice A 0 c]] w fun e w' => e = .returned (.int .i64 E) ∧ Below w.heap.size w w' := by
  have hemp := toList_empty s
  rw [decide_eq_false (by omega)] at hemp
  have hlow := fun w => lowByte_any s w
  rw [hc] at hlow
  have HCT := hide hlow
  have hts := trim_same hm hx hy
  have htr := fun w => Tryz.trim_any s ⟨#[32]⟩ w (by omega) (by decide) (by decide)
  have HTR : Hid (∀ w, Calls Tryz.prog 67 #[.string s, .string ⟨#[32]⟩] w fun e w' => e = .returned (.string ⟨(Lib.trimS s.data.toList [32]).toArray⟩) ∧ Below w.heap.size w w') := hide htr
  have HQ := hide (fun w => containsAny_any s ⟨#[91, 93, 124]⟩ w (by decide) (by decide) (by omega) (by
        intro j b hb
        have hmem : b ∈ [(91 : UInt8), 93, 124] := List.mem_of_getElem? hb
        simp only [List.mem_cons, List.not_mem_nil, or_false] at hmem
        rcases hmem with rfl | rfl | rfl <;> decide))
  change Hid (∀ w, Calls Tryz.prog 68 #[.string s, .string ⟨#[91, 93, 124]⟩] w fun e w' => e = .returned (.bool (sqAny s)) ∧ Below w.heap.size w w') at HQ
  generalize (⟨(Lib.trimS s.data.toList [32]).toArray⟩ : ByteArray) = T at *
  generalize sqAny s = Q at *
  have hs2 : ¬ (100 : Int) < (s.size : Int) := by omega
  clear htr hlow hx hy hc hm
  have hts2 : ((T.toList == s.toList) = false ∧ E = 1) ∨ ((T.toList == s.toList) = true ∧ ((Q = true ∧ E = 1) ∨ (Q = false ∧ E = 0))) := by
    rw [hts]
    rcases hE with ⟨e1, e⟩ | ⟨e1, e2, e⟩ | ⟨e1, e2, q, e⟩ | ⟨e1, e2, q, e⟩
    · exact .inl ⟨by simp [e1], e⟩
    · exact .inl ⟨by simp [e2], e⟩
    · exact .inr ⟨by simp [e1, e2], .inl ⟨q, e⟩⟩
    · exact .inr ⟨by simp [e1, e2], .inr ⟨q, e⟩⟩
  clear hts hE
  rcases hts2 with ⟨hts, rfl⟩ | ⟨hts, ⟨rfl, rfl⟩ | ⟨rfl, rfl⟩⟩
  all_goals
    go_enter Tryz.func18, Tryz.ntmps18
    go_upto_region 24 with (go_at_call 66; refine (HCT.out _).mono ?_; rintro e w' ⟨rfl, hbl⟩; obtain ⟨os1, n1, rfl⟩ := below_plus hbl; clear hbl)
    have hb3 := ((Blk.new w 24 #[.int .i64 6, .int .i64 0, .int .i64 0, .string s, .slice A 0 c]).plus (os := os1) (n := n1)).cell 3
    have hb0 := ((Blk.new w 24 #[.int .i64 6, .int .i64 0, .int .i64 0, .string s, .slice A 0 c]).plus (os := os1) (n := n1)).cell 0
    first
      | (go_region_with (first
      | (go_at_call 67; refine (HTR.out _).mono ?_; rintro e w' ⟨rfl, hbl⟩; obtain ⟨os2, n2, rfl⟩ := below_plus hbl; clear hbl)
      | (go_at_call 68; refine (HQ.out _).mono ?_; rintro e w' ⟨rfl, hbl⟩; obtain ⟨os3, n3, rfl⟩ := below_plus hbl; clear hbl)))
      | fail
    all_goals go_wp2
    all_goals first
      | (go_ret; exact ⟨rfl, (by repeat (first | exact Below.refl _ _ | refine bl_plus ?_ | refine bl_alloc ?_ _ | refine bl_drew ?_ | refine bl_drewN ?_ _))⟩)
      | (go_loopw [179] (fun i wr => i = .int .i64 0 ∧ Hid (Below w.heap.size w wr)) (fun _ _ => 0)
         case atStart => exact ⟨rfl, hide (by repeat (first | exact Below.refl _ _ | refine bl_plus ?_ | refine bl_alloc ?_ _ | refine bl_drew ?_ | refine bl_drewN ?_ _))⟩
         case round =>
           obtain ⟨rfl, HB⟩ := hrel
           go_wp2
           go_ret
           exact ⟨rfl, HB.out⟩)

end Go.Proofs.YtdncmjlakmkfiaaGreatDoor
/-
  WALK: a value's error, in the reference, where there are no items: kind 6.
-/
namespace Go.Proofs.YtdncmjlakmkfiaaGreatDoor
open Go.RowKit Go.Lib

set_option maxHeartbeats 6400000 in
set_option maxRecDepth 100000 in
theorem valueFault_6 (i t : Int) (s : ByteArray) (l : List V) (A : Option Addr) (c : Nat) (w : World) (hm : l.length ≤ maxLen) (hsh : (V.mk 6 i t s l).selfErr ≠ 0 ∨ l.length = 0) :
    Calls Tryz.prog 18 #[(V.mk 6 i t s l).arg A c] w fun e w' => e = .returned (.int .i64 (V.mk 6 i t s l).selfErr) ∧ Below w.heap.size w w' := by
  have hemp := toList_empty s
  have HCT := hide (fun w => lowByte_any s w)
  have hF : (V.mk 6 i t s l).formOk = formB 6 i t s.size l.length := rfl
  have hE1 := fun h => V.self_form (v := V.mk 6 i t s l) ⟨show (0 : Int) ≤ 6 by decide, show (6 : Int) ≤ 7 by decide⟩ h
  have hE4 := fun e h1 h2 h3 => V.self_num (v := V.mk 6 i t s l) (e := e) ⟨show (0 : Int) ≤ 6 by decide, show (6 : Int) ≤ 7 by decide⟩ h1 h2 h3
  have hE2 := fun e h1 hN h2 h3 => V.self_text (v := V.mk 6 i t s l) (e := e) ⟨show (0 : Int) ≤ 6 by decide, show (6 : Int) ≤ 7 by decide⟩ h1 hN h2 h3
  have hE3 := fun h1 hN h2 h3 => V.self_ok (v := V.mk 6 i t s l) ⟨show (0 : Int) ≤ 6 by decide, show (6 : Int) ≤ 7 by decide⟩ h1 hN h2 h3
  have hE5 := fun h1 hN h2 h3 => V.self_len (v := V.mk 6 i t s l) ⟨show (0 : Int) ≤ 6 by decide, show (6 : Int) ≤ 7 by decide⟩ h1 hN h2 h3
  have hT := (V.mk 6 i t s l).text_cases
  have hN := (V.mk 6 i t s l).num_cases
  generalize (V.mk 6 i t s l).selfErr = E at *
  generalize (V.mk 6 i t s l).textErr = T at *
  generalize (V.mk 6 i t s l).numErr = N at *
  rw [hF] at hE1 hE2 hE3 hE4 hE5
  simp only [V.arg, V.k, V.i, V.t, V.s, V.l] at *
  unfold maxLen at hm
  generalize l.length = n at *
  clear hF
  by_cases hi : i = 0
  case neg =>
    have hi2 : (i == 0) = false := beq_eq_false_iff_ne.2 hi
    have hi3 : (i != 0) = true := bne_iff_ne.2 hi
    obtain rfl := hE1 (by simp [formB, hi])
    clear hE2 hE3 hE4 hE5 hT hN hsh
    clear hemp
    go_enter Tryz.func18, Tryz.ntmps18
    go_wp2
    all_goals go_ret
    all_goals exact ⟨rfl, (by repeat (first | exact Below.refl _ _ | refine bl_plus ?_ | refine bl_alloc ?_ _ | refine bl_drew ?_ | refine bl_drewN ?_ _))⟩
  subst hi
  by_cases ht : t = 0
  case neg =>
    have ht2 : (t == 0) = false := beq_eq_false_iff_ne.2 ht
    have ht3 : (t != 0) = true := bne_iff_ne.2 ht
    obtain rfl := hE1 (by simp [formB, ht])
    clear hE2 hE3 hE4 hE5 hT hN hsh
    clear hemp
    go_enter Tryz.func18, Tryz.ntmps18
    go_wp2
    all_goals go_ret
    all_goals exact ⟨rfl, (by repeat (first | exact Below.refl _ _ | refine bl_plus ?_ | refine bl_alloc ?_ _ | refine bl_drew ?_ | refine bl_drewN ?_ _))⟩
  subst ht
  rcases Nat.eq_zero_or_pos n with hn | hn
  case inr =>
    have hn2 : (0 : Int) < (n : Int) := by omega
    obtain rfl := hE1 (by unfold formB; rw [decide_eq_false (show ¬ n = 0 by omega)]; simp)
    clear hE2 hE3 hE4 hE5 hT hN hsh
    go_enter Tryz.func18, Tryz.ntmps18
    go_wp2
    all_goals go_ret
    all_goals exact ⟨rfl, (by repeat (first | exact Below.refl _ _ | refine bl_plus ?_ | refine bl_alloc ?_ _ | refine bl_drew ?_ | refine bl_drewN ?_ _))⟩
  subst hn
  have hF1 : formB 6 0 0 s.size 0 = true := by simp [formB]
  clear hE1
  obtain rfl : N = 0 := by rcases hN with ⟨h1, _⟩ | ⟨h1, _⟩ | ⟨h1, _⟩ | ⟨h1, _⟩ | ⟨_, h⟩ <;> first | exact h | cases h1
  clear hE4
  rcases hT with ⟨h1, hx⟩ | ⟨_, h1, h2, hx⟩ | ⟨⟨_, h1⟩, _⟩ | ⟨⟨_, h1⟩, ⟨hc, rfl⟩ | ⟨hc, hx⟩⟩
  · subst hx
    obtain rfl := hE2 4 hF1 rfl rfl (by decide)
    have hs2 : (100 : Int) < (s.size : Int) := by omega
    rw [decide_eq_false (by omega)] at hemp
    clear hE3 hE5 hsh
    go_enter Tryz.func18, Tryz.ntmps18
    go_wp2
    go_ret
    exact ⟨rfl, (by repeat (first | exact Below.refl _ _ | refine bl_plus ?_ | refine bl_alloc ?_ _ | refine bl_drew ?_ | refine bl_drewN ?_ _))⟩
  · subst hx
    obtain rfl := hE2 4 hF1 rfl rfl (by decide)
    have hs2 : (100 : Int) < (s.size : Int) := by omega
    rw [decide_eq_false (by omega)] at hemp
    clear hE3 hE5 hsh
    go_enter Tryz.func18, Tryz.ntmps18
    go_wp2
    go_ret
    exact ⟨rfl, (by repeat (first | exact Below.refl _ _ | refine bl_plus ?_ | refine bl_alloc ?_ _ | refine bl_drew ?_ | refine bl_drewN ?_ _))⟩
  · exact absurd rfl h1
  · obtain rfl := hE2 9 hF1 rfl rfl (by decide)
    have hs2 : ¬ (100 : Int) < (s.size : Int) := by omega
    rw [hc] at HCT
    rcases Nat.eq_zero_or_pos s.size with hz | hz
    · rw [decide_eq_true hz] at hemp
      clear hE3 hE5 hF1 hc hsh
      go_enter Tryz.func18, Tryz.ntmps18
      go_wp2_with (go_at_call 66; refine (HCT.out _).mono ?_; rintro e w' ⟨rfl, hbl⟩; obtain ⟨os1, n1, rfl⟩ := below_plus hbl; clear hbl)
      go_ret
      exact ⟨rfl, (by repeat (first | exact Below.refl _ _ | refine bl_plus ?_ | refine bl_alloc ?_ _ | refine bl_drew ?_ | refine bl_drewN ?_ _))⟩
    · rw [decide_eq_false (by omega)] at hemp
      clear hE3 hE5 hF1 hc hsh
      go_enter Tryz.func18, Tryz.ntmps18
      go_wp2_with (go_at_call 66; refine (HCT.out _).mono ?_; rintro e w' ⟨rfl, hbl⟩; obtain ⟨os1, n1, rfl⟩ := below_plus hbl; clear hbl)
      go_ret
      exact ⟨rfl, (by repeat (first | exact Below.refl _ _ | refine bl_plus ?_ | refine bl_alloc ?_ _ | refine bl_drew ?_ | refine bl_drewN ?_ _))⟩
  · rcases hx with ⟨h0, hx⟩ | ⟨m, x, y, hm2, hx, hy, hE⟩
    · subst hx
      obtain rfl := hE2 1 hF1 rfl rfl (by decide)
      have hs2 : ¬ (100 : Int) < (s.size : Int) := by omega
      rw [hc] at HCT
      rw [decide_eq_true h0] at hemp
      clear hE3 hE5 hF1 hc hsh
      go_enter Tryz.func18, Tryz.ntmps18
      go_upto_region 24 with (go_at_call 66; refine (HCT.out _).mono ?_; rintro e w' ⟨rfl, hbl⟩; obtain ⟨os1, n1, rfl⟩ := below_plus hbl; clear hbl)
      go_quiet (fail)
      go_wp2
      go_ret
      exact ⟨rfl, (by repeat (first | exact Below.refl _ _ | refine bl_plus ?_ | refine bl_alloc ?_ _ | refine bl_drew ?_ | refine bl_drewN ?_ _))⟩
    · refine valueFault_6link s A c w E h1 hc m x y hm2 hx hy ?_
      rcases hE with ⟨e1, e⟩ | ⟨e1, e2, e⟩ | ⟨e1, e2, q, e⟩ | ⟨e1, e2, q, e⟩
      · subst e
        exact .inl ⟨e1, hE2 1 hF1 rfl rfl (by decide)⟩
      · subst e
        exact .inr (.inl ⟨e1, e2, hE2 1 hF1 rfl rfl (by decide)⟩)
      · subst e
        exact .inr (.inr (.inl ⟨e1, e2, q, hE2 1 hF1 rfl rfl (by decide)⟩))
      · subst e
        exact .inr (.inr (.inr ⟨e1, e2, q, hE3 hF1 rfl rfl rfl⟩))

end Go.Proofs.YtdncmjlakmkfiaaGreatDoor
