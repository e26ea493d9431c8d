/-
  WALKS: a date that is read, in the program and in the reference.
-/
import Derived.Test.YtioppoaijehicaaGreatDoorRra
import Derived.Test.YtioppoaijehicaaGreatDoorDrp
import Derived.Deep.QuietTactic
import Derived.BigQuiet
set_option linter.all false
namespace Go.Proofs.YtioppoaijehicaaGreatDoor
open Go.RowKit

attribute [local go_sem high] strOf_toList lit_none lit_nought

theorem tenB : (⟨#[48, 49, 50, 51, 52, 53, 54, 55, 56, 57]⟩ : ByteArray).data.toList = ten := rfl

theorem trim_ten (s : ByteArray) (w : World) (hs : s.size ≤ 9223372036854775807) :
    Calls Tryz.prog 141 #[.string s, .string ⟨#[48, 49, 50, 51, 52, 53, 54, 55, 56, 57]⟩] w fun e w' => e = .returned (.string (strOf (Lib.trimS s.data.toList ten))) ∧ Below w.heap.size w w' :=
  Tryz.trim_any s ⟨#[48, 49, 50, 51, 52, 53, 54, 55, 56, 57]⟩ w hs (by decide) (by decide)

theorem toList_nil {s : ByteArray} (h : s.data.toList ≠ []) : (s.toList == []) = false := by rw [Lib.toList_data]; exact beq_eq_false_iff_ne.2 h

theorem trim_dgT {l : List UInt8} (h : dgAll l = true) : Lib.trimS l ten = [] := beq_iff_eq.1 ((trimS_dg l).trans h)

theorem trim_dgF {l : List UInt8} (h : dgAll l = false) : (Lib.trimS l ten == []) = false := (trimS_dg l).trans h

set_option maxHeartbeats 3200000 in
set_option maxRecDepth 100000 in
theorem digitsAt_good (s : ByteArray) (w : World) (h : dgAll s.data.toList = true) (h0 : s.data.toList ≠ []) (hl : s.size ≤ 18) :
    Calls Tryz.prog 96 #[.string s] w fun e w' => e = .returned (.tuple #[.int .i64 (dgv s.data.toList), .bool true]) ∧ Below w.heap.size w w' := by
  have HT := hide (fun w => trim_ten s w (by omega))
  rw [trim_dgT h] at HT
  have HA := hide (fun w => Tryz.atoi_any s (dgv s.data.toList) hl (atoi_dg h h0) w)
  have h1 := toList_nil h0
  generalize dgv s.data.toList = V at *
  clear h h0 hl
  go_enter Tryz.func96, Tryz.ntmps96
  go_wp2_with (first | (go_at_call 141; with_reducible refine (HT.out _).mono ?_; rintro e w' ⟨rfl, hbl⟩; obtain ⟨os1, n1, rfl⟩ := below_plus hbl; clear hbl) | (go_at_call 142; with_reducible refine (HA.out _).mono ?_; rintro e w' ⟨rfl, hbl⟩; obtain ⟨os2, n2, rfl⟩ := below_plus hbl; clear hbl))
  go_quiet (fail)
  go_wp2
  go_returns
  exact ⟨rfl, (by repeat (first | exact Below.refl _ _ | with_reducible refine bl_plus ?_ | with_reducible refine bl_alloc ?_ _ | with_reducible refine bl_drew ?_ | with_reducible refine bl_drewN ?_ _))⟩

set_option maxHeartbeats 3200000 in
set_option maxRecDepth 100000 in
theorem allDigits_any (s : ByteArray) (m : Nat) (w : World) (hs : s.size ≤ 400000) (hm0 : 0 < m) (hm : m ≤ 18) :
    Calls Tryz.prog 103 #[.string s, .int .i64 m] w fun e w' => e = .returned (.tuple #[.int .i64 (if dgN s.data.toList m = true then dgv s.data.toList else 0), .bool (dgN s.data.toList m)]) ∧ Below w.heap.size w w' := by
  have hsl : s.size = s.data.toList.length := Lib.size_eq s
  have HT := hide (fun w => trim_ten s w (by omega))
  by_cases hl : s.data.toList.length = m
  · have e1 : ((s.size : Int) != (m : Int)) = false := by rw [hsl, hl]; simp
    have e2 : (s.size : Int) = (m : Int) := by omega
    cases hd : dgAll s.data.toList with
    | true =>
      have hN : dgN s.data.toList m = true := by simp [dgN, hl, hd]
      rw [hN, if_pos rfl]
      rw [trim_dgT hd] at HT
      have HA := hide (fun w => Tryz.atoi_any s (dgv s.data.toList) (by omega) (atoi_dg hd (fun e => by rw [e] at hl; simp at hl; omega)) w)
      generalize dgv s.data.toList = V at *
      clear hd hN
      go_enter Tryz.func103, Tryz.ntmps103
      go_wp2_with (first | (go_at_call 141; with_reducible refine (HT.out _).mono ?_; rintro e w' ⟨rfl, hbl⟩; obtain ⟨os1, n1, rfl⟩ := below_plus hbl; clear hbl) | (go_at_call 142; with_reducible refine (HA.out _).mono ?_; rintro e w' ⟨rfl, hbl⟩; obtain ⟨os2, n2, rfl⟩ := below_plus hbl; clear hbl))
      go_quiet (fail)
      go_wp2
      go_returns
      exact ⟨rfl, (by repeat (first | exact Below.refl _ _ | with_reducible refine bl_plus ?_ | with_reducible refine bl_alloc ?_ _ | with_reducible refine bl_drew ?_ | with_reducible refine bl_drewN ?_ _))⟩
    | false =>
      have hN : dgN s.data.toList m = false := by simp [dgN, hd]
      rw [hN, if_neg (by decide)]
      have e3 := trim_dgF hd
      generalize Lib.trimS s.data.toList ten = TT at *
      clear hd hN
      go_enter Tryz.func103, Tryz.ntmps103
      go_wp2_with (go_at_call 141; with_reducible refine (HT.out _).mono ?_; rintro e w' ⟨rfl, hbl⟩; obtain ⟨os1, n1, rfl⟩ := below_plus hbl; clear hbl)
      go_returns
      exact ⟨rfl, (by repeat (first | exact Below.refl _ _ | with_reducible refine bl_plus ?_ | with_reducible refine bl_alloc ?_ _ | with_reducible refine bl_drew ?_ | with_reducible refine bl_drewN ?_ _))⟩
  · have e1 : ((s.size : Int) != (m : Int)) = true := bne_iff_ne.2 (by omega)
    have e2 : ¬ s.size = m := by omega
    have e3 : ¬ (s.size : Int) = (m : Int) := by omega
    have hN : dgN s.data.toList m = false := by unfold dgN; rw [decide_eq_false hl]; rfl
    rw [hN, if_neg (by decide)]
    clear HT hN hsl hl
    go_enter Tryz.func103, Tryz.ntmps103
    go_wp2
    go_returns
    exact ⟨rfl, (by repeat (first | exact Below.refl _ _ | with_reducible refine bl_plus ?_ | with_reducible refine bl_alloc ?_ _ | with_reducible refine bl_drew ?_ | with_reducible refine bl_drewN ?_ _))⟩

theorem idx_at (s : ByteArray) (k : Nat) (h : k < s.size) (w : World) : (Instr.index 9 (.string s) (.int .i64 k)).run Tryz.prog w = .ok (.int .u8 (s.data.toList.getD k 0).toNat) w := by
  rw [run_index_string (h := Tryz.underlying9)]
  rw [dif_pos ⟨by omega, by omega⟩]
  have h2 : k < s.data.toList.length := by rw [← Lib.size_eq]; exact h
  rw [List.getD_eq_getElem?_getD, List.getElem?_eq_getElem h2]
  rfl

theorem u8_45 (b : UInt8) : ((b.toNat : Int) != 45) = !(b == 45) := by
  have h : ∀ b : Fin 256, (((UInt8.ofNat b.val).toNat : Int) != 45) = !(UInt8.ofNat b.val == 45) := by decide +kernel
  have := h ⟨b.toNat, b.toNat_lt⟩
  simpa only [UInt8.ofNat_toNat] using this

/-- The digits of a date. -/
def dpart (s : ByteArray) : ByteArray := (s.extract 0 4 ++ s.extract 5 7) ++ s.extract 8 10

theorem dpart_data (s : ByteArray) (h : s.size = 10) : (dpart s).data.toList = (s.data.toList.take 4 ++ (s.data.toList.drop 5).take 2) ++ s.data.toList.drop 8 := by
  unfold dpart
  rw [ByteArray.data_append, Array.toList_append, ByteArray.data_append, Array.toList_append, Lib.extract_from_zero, Lib.extract_data, Lib.extract_data]
  congr 1
  rw [List.take_of_length_le]
  rw [List.length_drop, ← Lib.size_eq]
  omega

set_option maxHeartbeats 3200000 in
set_option maxRecDepth 100000 in
theorem isDateForm_any (s : ByteArray) (w : World) (hs : s.size ≤ 400000) :
    Calls Tryz.prog 95 #[.string s] w fun e w' => e = .returned (.bool (isDateF s.data.toList)) ∧ Below w.heap.size w w' := by
  have hsl : s.size = s.data.toList.length := Lib.size_eq s
  by_cases h10 : s.size = 10
  · have i4 : ∀ w, (Instr.index 9 (.string s) (.int .i64 4)).run Tryz.prog w = .ok (.int .u8 (s.data.toList.getD 4 0).toNat) w := idx_at s 4 (by omega)
    have i7 : ∀ w, (Instr.index 9 (.string s) (.int .i64 7)).run Tryz.prog w = .ok (.int .u8 (s.data.toList.getD 7 0).toNat) w := idx_at s 7 (by omega)
    have hF : isDateF s.data.toList = (s.data.toList.getD 4 0 == 45 && (s.data.toList.getD 7 0 == 45 && dgAll (dpart s).data.toList)) := by
      unfold isDateF
      rw [dpart_data s h10, decide_eq_true (show s.data.toList.length = 10 by omega)]
      rfl
    have hz : (s.size : Int) = 10 := by omega
    have HT := hide (fun w => trim_ten (dpart s) w (by unfold dpart; simp only [ByteArray.size_append, ByteArray.size_extract]; omega))
    rw [hF]
    generalize hV4 : s.data.toList.getD 4 0 = V4 at *
    generalize hV7 : s.data.toList.getD 7 0 = V7 at *
    have a4 := u8_45 V4
    have a7 := u8_45 V7
    have hdp : dpart s = (s.extract 0 4 ++ s.extract 5 7) ++ s.extract 8 10 := rfl
    rw [hdp] at HT
    have p1 : (s.extract 0 4).size = 4 := by rw [ByteArray.size_extract]; omega
    have p2 : (s.extract 5 7).size = 2 := by rw [ByteArray.size_extract]; omega
    have p3 : (s.extract 8 10).size = 2 := by rw [ByteArray.size_extract]; omega
    clear hF hsl hs hV4 hV7
    cases b4 : (V4 == 45) with
    | false =>
      rw [b4] at a4
      go_enter Tryz.func95, Tryz.ntmps95
      go_wp2
      go_returns
      exact ⟨rfl, (by repeat (first | exact Below.refl _ _ | with_reducible refine bl_plus ?_ | with_reducible refine bl_alloc ?_ _ | with_reducible refine bl_drew ?_ | with_reducible refine bl_drewN ?_ _))⟩
    | true =>
      rw [b4] at a4
      cases b7 : (V7 == 45) with
      | false =>
        rw [b7] at a7
        go_enter Tryz.func95, Tryz.ntmps95
        go_wp2
        go_returns
        exact ⟨rfl, (by repeat (first | exact Below.refl _ _ | with_reducible refine bl_plus ?_ | with_reducible refine bl_alloc ?_ _ | with_reducible refine bl_drew ?_ | with_reducible refine bl_drewN ?_ _))⟩
      | true =>
        rw [b7] at a7
        rw [← trimS_dg, hdp]
        generalize Lib.trimS ((s.extract 0 4 ++ s.extract 5 7) ++ s.extract 8 10).data.toList ten = TT at *
        go_enter Tryz.func95, Tryz.ntmps95
        go_wp2_with fail
        go_region_with (go_at_call 141; with_reducible refine (HT.out _).mono ?_; rintro e w' ⟨rfl, hbl⟩; obtain ⟨os1, n1, rfl⟩ := below_plus hbl; clear hbl)
        all_goals
          go_wp2
          go_returns
          exact ⟨by simp [go_sem], (by repeat (first | exact Below.refl _ _ | with_reducible refine bl_plus ?_ | with_reducible refine bl_alloc ?_ _ | with_reducible refine bl_drew ?_ | with_reducible refine bl_drewN ?_ _))⟩
  · have hF : isDateF s.data.toList = false := by
      unfold isDateF
      rw [decide_eq_false (show ¬ s.data.toList.length = 10 by omega)]
      rfl
    rw [hF]
    have e1 : ((s.size : Int) != 10) = true := bne_iff_ne.2 (by omega)
    clear hF hsl
    go_enter Tryz.func95, Tryz.ntmps95
    go_wp2
    go_returns
    exact ⟨rfl, (by repeat (first | exact Below.refl _ _ | with_reducible refine bl_plus ?_ | with_reducible refine bl_alloc ?_ _ | with_reducible refine bl_drew ?_ | with_reducible refine bl_drewN ?_ _))⟩

set_option maxHeartbeats 3200000 in
set_option maxRecDepth 100000 in
theorem readDate_any (s : ByteArray) (w : World) (hs : s.size ≤ 400000) :
    Calls Tryz.prog 61 #[.string s] w fun e w' => e = .returned (.tuple #[.int .i64 (dateR s.data.toList).1, .int .i64 (dateR s.data.toList).2]) ∧ Below w.heap.size w w' := by
  have HF := hide (fun w => isDateForm_any s w hs)
  have hsl : s.size = s.data.toList.length := Lib.size_eq s
  unfold dateR
  cases hf : isDateF s.data.toList with
  | false =>
    rw [hf] at HF
    rw [if_neg (by decide)]
    clear hf
    go_enter Tryz.func61, Tryz.ntmps61
    go_wp2_with (go_at_call 95; with_reducible refine (HF.out _).mono ?_; rintro e w' ⟨rfl, hbl⟩; obtain ⟨os1, n1, rfl⟩ := below_plus hbl; clear hbl)
    go_returns
    exact ⟨rfl, (by repeat (first | exact Below.refl _ _ | with_reducible refine bl_plus ?_ | with_reducible refine bl_alloc ?_ _ | with_reducible refine bl_drew ?_ | with_reducible refine bl_drewN ?_ _))⟩
  | true =>
    rw [hf] at HF
    rw [if_pos rfl]
    obtain ⟨p, q, r, hl, l1, l2, l3, d1, d2, d3⟩ := isDateF_parts hf
    have h10 : s.size = 10 := by rw [hsl, hl]; simp [l1, l2, l3]
    have hz : (s.size : Int) = 10 := by omega
    have x1 : (s.extract 0 4).data.toList = p := by rw [Lib.extract_from_zero, hl, List.take_append_of_le_length (by omega), List.take_of_length_le (by omega)]
    have x2 : (s.extract 5 7).data.toList = q := by
      rw [Lib.extract_data, hl]
      match p, l1, q, l2 with
      | [a0, a1, a2, a3], _, [a5, a6], _ => rfl
    have x3 : (s.extract 8 10).data.toList = r := by
      rw [Lib.extract_data, hl]
      match p, l1, q, l2, r, l3 with
      | [a0, a1, a2, a3], _, [a5, a6], _, [a8, a9], _ => rfl
    have t1 : s.data.toList.take 4 = p := by rw [← x1, Lib.extract_from_zero]
    have t2 : (s.data.toList.drop 5).take 2 = q := by rw [← x2, Lib.extract_data]
    have t3 : s.data.toList.drop 8 = r := by
      rw [hl]
      match p, l1, q, l2 with
      | [a0, a1, a2, a3], _, [a5, a6], _ => rfl
    rw [t1, t2, t3]
    have H1 := hide (fun w => digitsAt_good (s.extract 0 4) w (by rw [x1]; exact d1) (by rw [x1]; intro e; rw [e] at l1; cases l1) (by rw [ByteArray.size_extract]; omega))
    have H2 := hide (fun w => digitsAt_good (s.extract 5 7) w (by rw [x2]; exact d2) (by rw [x2]; intro e; rw [e] at l2; cases l2) (by rw [ByteArray.size_extract]; omega))
    have H3 := hide (fun w => digitsAt_good (s.extract 8 10) w (by rw [x3]; exact d3) (by rw [x3]; intro e; rw [e] at l3; cases l3) (by rw [ByteArray.size_extract]; omega))
    rw [x1] at H1
    rw [x2] at H2
    rw [x3] at H3
    have HD := hide (fun w => dayOf_any (dgv p) (dgv q) (dgv r) w)
    unfold DayOfOut at HD
    generalize dgv p = P at *
    generalize dgv q = Q at *
    generalize dgv r = R at *
    generalize dayOfR P Q R = O at *
    obtain ⟨O1, O2⟩ := O
    clear hf hl l1 l2 l3 d1 d2 d3 x1 x2 x3 t1 t2 t3 hsl hs
    go_enter Tryz.func61, Tryz.ntmps61
    go_wp2_with (first
      | (go_at_call 95; with_reducible refine (HF.out _).mono ?_; rintro e w' ⟨rfl, hbl⟩; obtain ⟨os1, n1, rfl⟩ := below_plus hbl; clear hbl)
      | (go_at_call 96; first
          | (with_reducible refine (H1.out _).mono ?_; rintro e w' ⟨rfl, hbl⟩; obtain ⟨os2, n2, rfl⟩ := below_plus hbl; clear hbl)
          | (with_reducible refine (H2.out _).mono ?_; rintro e w' ⟨rfl, hbl⟩; obtain ⟨os3, n3, rfl⟩ := below_plus hbl; clear hbl)
          | (with_reducible refine (H3.out _).mono ?_; rintro e w' ⟨rfl, hbl⟩; obtain ⟨os4, n4, rfl⟩ := below_plus hbl; clear hbl))
      | (go_at_call 97; with_reducible refine (HD.out _).mono ?_; rintro e w' ⟨rfl, hbl⟩; obtain ⟨os5, n5, rfl⟩ := below_plus hbl; clear hbl))
    go_returns
    exact ⟨rfl, (by repeat (first | exact Below.refl _ _ | with_reducible refine bl_plus ?_ | with_reducible refine bl_alloc ?_ _ | with_reducible refine bl_drew ?_ | with_reducible refine bl_drewN ?_ _))⟩

theorem pieces_data (s : ByteArray) : (Lib.splitB ⟨#[45]⟩ 0 (Lib.countB s ⟨#[45]⟩) s).map (·.data.toList) = partC 45 s.data.toList := by
  rw [Lib.splitB_data]
  exact split_partC 45 s.data.toList

set_option maxHeartbeats 3200000 in
set_option maxRecDepth 100000 in
theorem dateRead_any (s : ByteArray) (w : World) (hs : s.size ≤ 400000) (hm : MaxTold w) :
    Calls Tryz.prog 69 #[.string s] w fun e w' => e = .returned (.tuple #[.int .i64 (dateR s.data.toList).1, .int .i64 (dateR s.data.toList).2]) ∧ Below w.heap.size w w' := by
  have hsp := fun w hm => Tryz.split_any s ⟨#[45]⟩ w hm (by omega) (by decide)
  have hwl : (Lib.splitB ⟨#[45]⟩ 0 (Lib.countB s ⟨#[45]⟩) s).length = Lib.countB s ⟨#[45]⟩ + 1 := Lib.splitB_all ⟨#[45]⟩ (by decide) 0 _ s rfl
  rw [← hwl] at hsp
  have hpd := pieces_data s
  have hsz : ∀ x ∈ Lib.splitB ⟨#[45]⟩ 0 (Lib.countB s ⟨#[45]⟩) s, x.size ≤ 400000 := fun x hx => by
    have h1 : x.data.toList ∈ (Lib.splitB ⟨#[45]⟩ 0 (Lib.countB s ⟨#[45]⟩) s).map (·.data.toList) := List.mem_map.2 ⟨x, hx, rfl⟩
    rw [hpd] at h1
    have := partC_le 45 s.data.toList _ h1
    have e1 : x.size = x.data.toList.length := Lib.size_eq x
    have e2 : s.size = s.data.toList.length := Lib.size_eq s
    omega
  generalize Lib.splitB ⟨#[45]⟩ 0 (Lib.countB s ⟨#[45]⟩) s = PB at *
  have HM := hide hm
  rcases date_cases s.data.toList with ⟨h3, hr⟩ | ⟨p, q, r, hp, hc⟩
  · rw [hr]
    have hn : ((PB.length : Int) != 3) = true := bne_iff_ne.2 (fun e => h3 (by rw [← hpd, List.length_map]; omega))
    have HSP := hide hsp
    generalize (PB.map Value.string).toArray = ws at *
    generalize PB.length = n at *
    clear hsp hwl hpd hsz h3 hr hm
    go_enter Tryz.func69, Tryz.ntmps69
    go_wp2_with (go_at_call 102; refine (HSP.out _ (maxTold_below HM.out (by repeat (first | exact Below.refl _ _ | with_reducible refine bl_plus ?_ | with_reducible refine bl_alloc ?_ _ | with_reducible refine bl_drew ?_ | with_reducible refine bl_drewN ?_ _)))).mono ?_; rintro e w' ⟨rfl, rfl⟩)
    go_returns
    exact ⟨rfl, (by repeat (first | exact Below.refl _ _ | with_reducible refine bl_plus ?_ | with_reducible refine bl_alloc ?_ _ | with_reducible refine bl_drew ?_ | with_reducible refine bl_drewN ?_ _))⟩
  · rw [hp] at hpd
    match PB, hpd, hsp, hsz with
    | [x, y, z], hpd, hsp, hsz =>
      simp only [List.map_cons, List.map_nil, List.cons.injEq, and_true] at hpd
      obtain ⟨rfl, rfl, rfl⟩ := hpd
      have H1 := hide (fun w => allDigits_any x 4 w (hsz x (by simp)) (by decide) (by decide))
      have H2 := hide (fun w => allDigits_any y 2 w (hsz y (by simp)) (by decide) (by decide))
      have H3 := hide (fun w => allDigits_any z 2 w (hsz z (by simp)) (by decide) (by decide))
      rw [show ((4 : Nat) : Int) = 4 from rfl] at H1
      rw [show ((2 : Nat) : Int) = 2 from rfl] at H2 H3
      have HD := hide (fun P Q R w => dayFrom_any P Q R w)
      unfold DayOfOut at HD
      simp only [List.map_cons, List.map_nil, List.length_cons, List.length_nil] at hsp
      change ∀ w, MaxTold w → Calls Tryz.prog 102 #[.string s, .string ⟨#[45]⟩] w (fun e w' => e = .returned (.slice (some ⟨w.heap.size, 0, none⟩) 3 3) ∧ w' = w.alloc (.cells #[.string x, .string y, .string z] 9)) at hsp
      have HSP := hide hsp
      clear hsp hwl hsz hm hp
      rcases hc with ⟨hn, hr⟩ | ⟨n1, n2, n3, hr⟩
      · rw [hr]
        clear hr
        generalize (if dgN x.data.toList 4 = true then dgv x.data.toList else 0) = V1 at *
        generalize (if dgN y.data.toList 2 = true then dgv y.data.toList else 0) = V2 at *
        generalize (if dgN z.data.toList 2 = true then dgv z.data.toList else 0) = V3 at *
        generalize dgN x.data.toList 4 = b1 at *
        generalize dgN y.data.toList 2 = b2 at *
        generalize dgN z.data.toList 2 = b3 at *
        cases b1 <;> cases b2 <;> cases b3 <;> first | (cases hn; done) | (
          clear hn
          go_enter Tryz.func69, Tryz.ntmps69
          go_wp2_with (first
            | (go_at_call 102; refine (HSP.out _ (maxTold_below HM.out (by repeat (first | exact Below.refl _ _ | with_reducible refine bl_plus ?_ | with_reducible refine bl_alloc ?_ _ | with_reducible refine bl_drew ?_ | with_reducible refine bl_drewN ?_ _)))).mono ?_; rintro e w' ⟨rfl, rfl⟩)
            | (go_at_call 103; first
              | (with_reducible refine (H1.out _).mono ?_; rintro e w' ⟨rfl, hbl⟩; obtain ⟨os2, n2, rfl⟩ := below_plus hbl; clear hbl)
              | (with_reducible refine (H2.out _).mono ?_; rintro e w' ⟨rfl, hbl⟩; obtain ⟨os3, n3, rfl⟩ := below_plus hbl; clear hbl)
              | (with_reducible refine (H3.out _).mono ?_; rintro e w' ⟨rfl, hbl⟩; obtain ⟨os4, n4, rfl⟩ := below_plus hbl; clear hbl)))
          go_returns
          exact ⟨rfl, (by repeat (first | exact Below.refl _ _ | with_reducible refine bl_plus ?_ | with_reducible refine bl_alloc ?_ _ | with_reducible refine bl_drew ?_ | with_reducible refine bl_drewN ?_ _))⟩)
      · rw [hr]
        rw [n1, if_pos rfl] at H1
        rw [n2, if_pos rfl] at H2
        rw [n3, if_pos rfl] at H3
        clear hr n1 n2 n3
        have HD := hide (fun w => HD.out (dgv x.data.toList) (dgv y.data.toList) (dgv z.data.toList) w)
        generalize dgv x.data.toList = V1 at *
        generalize dgv y.data.toList = V2 at *
        generalize dgv z.data.toList = V3 at *
        generalize dayOfR V1 V2 V3 = O at *
        obtain ⟨O1, O2⟩ := O
        go_enter Tryz.func69, Tryz.ntmps69
        go_wp2_with (first
            | (go_at_call 102; refine (HSP.out _ (maxTold_below HM.out (by repeat (first | exact Below.refl _ _ | with_reducible refine bl_plus ?_ | with_reducible refine bl_alloc ?_ _ | with_reducible refine bl_drew ?_ | with_reducible refine bl_drewN ?_ _)))).mono ?_; rintro e w' ⟨rfl, rfl⟩)
            | (go_at_call 103; first
              | (with_reducible refine (H1.out _).mono ?_; rintro e w' ⟨rfl, hbl⟩; obtain ⟨os2, n2, rfl⟩ := below_plus hbl; clear hbl)
              | (with_reducible refine (H2.out _).mono ?_; rintro e w' ⟨rfl, hbl⟩; obtain ⟨os3, n3, rfl⟩ := below_plus hbl; clear hbl)
              | (with_reducible refine (H3.out _).mono ?_; rintro e w' ⟨rfl, hbl⟩; obtain ⟨os4, n4, rfl⟩ := below_plus hbl; clear hbl))
            | (go_at_call 104; with_reducible refine (HD.out _).mono ?_; rintro e w' ⟨rfl, hbl⟩; obtain ⟨os5, n5, rfl⟩ := below_plus hbl; clear hbl))
        go_returns
        exact ⟨rfl, (by repeat (first | exact Below.refl _ _ | with_reducible refine bl_plus ?_ | with_reducible refine bl_alloc ?_ _ | with_reducible refine bl_drew ?_ | with_reducible refine bl_drewN ?_ _))⟩

end Go.Proofs.YtioppoaijehicaaGreatDoor
