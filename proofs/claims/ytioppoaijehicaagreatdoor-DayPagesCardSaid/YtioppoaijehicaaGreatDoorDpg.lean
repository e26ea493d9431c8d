/-
  WALKS: the law DayPages.
-/
import Derived.Test.YtioppoaijehicaaGreatDoorDpf
set_option linter.all false
namespace Go.Proofs.YtioppoaijehicaaGreatDoor
open Go.RowKit Go.Lib Go.Maps Go.WideElems Go.WideMaps Go.Shelf Cal

/-- The title of a day's page. -/
noncomputable def tiRes (d : Int) : ByteArray × Int := if 0 ≤ d ∧ d ≤ 100000 then (dateS (parts d), 0) else (⟨#[]⟩, 2)

set_option maxHeartbeats 800000 in
set_option maxRecDepth 100000 in
theorem title_any (d : Int) (w : World) (ht : PowTab w) :
    Calls Tryz.prog 5 #[.int .i64 d] w fun e w' => e = .returned (.tuple #[.string (tiRes d).1, .int .i64 (tiRes d).2]) ∧ Below w.heap.size w w' := by
  have HD : Hid (∀ W, Below w.heap.size w W → Calls Tryz.prog 22 #[.int .i64 d] W fun e w' => e = .returned (.tuple #[.string (tiRes d).1, .int .i64 (tiRes d).2]) ∧ Below W.heap.size W w') := hide fun W hb => by
    unfold tiRes
    by_cases h : 0 ≤ d ∧ d ≤ 100000
    · rw [if_pos h]; exact dateText_any d W h.1 h.2 (powTab_below ht hb)
    · rw [if_neg h]; exact dateText_no d W (by omega)
  have HPO : Hid (∀ w', Below w.heap.size w w' → (fun (e : Ending) (w' : World) => e = .returned (.tuple #[.string (tiRes d).1, .int .i64 (tiRes d).2]) ∧ Below w.heap.size w w') (.returned (.tuple #[.string (tiRes d).1, .int .i64 (tiRes d).2])) w') := hide fun w' h2 => ⟨rfl, h2⟩
  generalize (fun (e : Ending) (w' : World) => e = .returned (.tuple #[.string (tiRes d).1, .int .i64 (tiRes d).2]) ∧ Below w.heap.size w w') = PO at *
  generalize tiRes d = r at *
  obtain ⟨r1, r2⟩ := r
  (try simp only at *)
  clear ht
  go_enter Tryz.func5, Tryz.ntmps5
  go_wp2_with (go_at_call 22; refine (HD.out _ (Below.refl _ _)).mono ?_; rintro e w1 ⟨rfl, hb1⟩)
  exact HPO.out _ hb1

theorem dlsRes_len (l : List BK) : (dlsRes l).1.length ≤ maxLen := by
  unfold dlsRes maxLen
  by_cases he : baseErr l = 0
  · rw [if_neg (fun h => h he)]
    have h1 := tidy_le (dsL l (l.drop 1).length)
    have h2 := dsL_len l (l.drop 1).length
    have h3 := (right_of he).len
    rw [List.length_drop] at h1 h2
    simp only [List.length_drop]
    omega
  · rw [if_pos he]
    simp

set_option maxHeartbeats 3200000 in
set_option maxRecDepth 100000 in
theorem dayPages_any (l : List BK) (A : Option Addr) (c : Nat) (d : Int) (w : World) (hA : BsAt w A l) (hk : ∀ b ∈ l, ∀ k ∈ b.kids, In64 k) (hc : l.length ≤ c) (hmt : MaxTold w) (ht : PowTab w) (h64 : In64 d) :
    Calls Tryz.prog 3 #[.slice A l.length c, .int .i64 d] w fun e w' => e = .returned (.bool true) ∧ Below w.heap.size w w' := by
  have HMT := hide (fun W (hb : Below w.heap.size w W) => maxTold_below hmt hb)
  have H1 := hide (fun W (hb : Below w.heap.size w W) => title_any d W (powTab_below ht hb))
  have H2 := hide (fun W (hb : Below w.heap.size w W) => daily_any l A c W (hA.below hb) hk (HMT.out W hb) d h64)
  have H3 := hide (fun W (hb : Below w.heap.size w W) => dailyFor_any l A c W (hA.below hb) hc d)
  have H4 := hide (fun W (hb : Below w.heap.size w W) => dailiesP_any l A c W (hA.below hb) hk (HMT.out W hb))
  have H5 := hide (fun W (hb : Below w.heap.size w W) => dailiesFor_any l A c W (hA.below hb) hk hc (HMT.out W hb))
  have H6 := hide (fun W => isDay_any d W)
  have H7 := hide (fun (h : 0 ≤ d ∧ d ≤ 100000) W => dateString_any d W h.1 h.2)
  unfold DlOut at H2 H3
  unfold DlsOut at H4 H5
  have HPO : Hid (∀ w', Below w.heap.size w w' → (fun (e : Ending) (w' : World) => e = .returned (.bool true) ∧ Below w.heap.size w w') (.returned (.bool true)) w') := hide fun w' h2 => ⟨rfl, h2⟩
  generalize (fun (e : Ending) (w' : World) => e = .returned (.bool true) ∧ Below w.heap.size w w') = PO at *
  have hzl := dlsRes_len l
  generalize dlRes l d = r at *
  generalize dlsRes l = q at *
  obtain ⟨r1, r2⟩ := r
  obtain ⟨zs, q2⟩ := q
  (try simp only at H2 H3 H4 H5 hzl)
  clear hA hk hmt HMT ht h64 hc
  have he1 : (r1 == r1) = true := beq_self_eq_true _
  have he2 : (r2 == r2) = true := beq_self_eq_true _
  have he3 : (q2 == q2) = true := beq_self_eq_true _
  by_cases hd : 0 ≤ d ∧ d ≤ 100000
  · have H7 := hide (H7.out hd)
    rw [decide_eq_true hd] at H6
    have hti : tiRes d = (dateS (parts d), 0) := by unfold tiRes; rw [if_pos hd]
    rw [hti] at H1
    (try simp only at H1)
    clear hd hti
    generalize dateS (parts d) = y at *
    have he : (y.toList == y.toList) = true := beq_self_eq_true _
    go_enter Tryz.func3, Tryz.ntmps3
    go_wp2_with (first
      | (go_at_call 5; refine (H1.out _ (Below.refl _ _)).mono ?_; rintro e w1 ⟨rfl, hb1⟩)
      | (go_at_call 6; refine (H2.out _ hb1).mono ?_; rintro e w2 ⟨rfl, hb2'⟩; have hb2 := below_chainT hb1 hb2'; clear hb2')
      | (go_at_call 7; refine (H3.out _ hb2).mono ?_; rintro e w3 ⟨rfl, hb3'⟩; have hb3 := below_chainT hb2 hb3'; clear hb3')
      | (go_at_call 8; refine (H4.out _ hb3).mono ?_; rintro e w4 ⟨A4, c4, rfl, hi4, hb4'⟩; have hb4 := below_chainT hb3 hb4'; have HI4 := hide hi4; clear hb4' hi4)
      | (go_at_call 9; refine (H5.out _ hb4).mono ?_; rintro e w5 ⟨A5, c5, rfl, hi5, hb5'⟩; have hb5 := below_chainT hb4 hb5'; have HI5 := hide (And.intro (HI4.out.below hb5') hi5); clear hb5' hi5)
      | (go_at_call 10; refine (H6.out _).mono ?_; rintro e w6 ⟨rfl, rfl⟩)
      | (go_at_call 11; refine (H7.out _).mono ?_; rintro e w7 ⟨rfl, hb7'⟩; have hb7 := below_chainT hb5 hb7')
      | (go_at_call 12; refine (equalInts_same A4 A5 c4 c5 zs w7 (HI5.out.1.below hb7') (HI5.out.2.below hb7') hzl).mono ?_; rintro e w9 ⟨rfl, hb9'⟩; have hb9 := below_chainT hb7 hb9'; clear hb9'))
    exact HPO.out _ hb9
  · rw [decide_eq_false hd] at H6
    have hti : tiRes d = (⟨#[]⟩, 2) := by unfold tiRes; rw [if_neg hd]
    rw [hti] at H1
    (try simp only at H1)
    clear hd hti H7
    go_enter Tryz.func3, Tryz.ntmps3
    go_wp2_with (first
      | (go_at_call 5; refine (H1.out _ (Below.refl _ _)).mono ?_; rintro e w1 ⟨rfl, hb1⟩)
      | (go_at_call 6; refine (H2.out _ hb1).mono ?_; rintro e w2 ⟨rfl, hb2'⟩; have hb2 := below_chainT hb1 hb2'; clear hb2')
      | (go_at_call 7; refine (H3.out _ hb2).mono ?_; rintro e w3 ⟨rfl, hb3'⟩; have hb3 := below_chainT hb2 hb3'; clear hb3')
      | (go_at_call 8; refine (H4.out _ hb3).mono ?_; rintro e w4 ⟨A4, c4, rfl, hi4, hb4'⟩; have hb4 := below_chainT hb3 hb4'; have HI4 := hide hi4; clear hb4' hi4)
      | (go_at_call 9; refine (H5.out _ hb4).mono ?_; rintro e w5 ⟨A5, c5, rfl, hi5, hb5'⟩; have hb5 := below_chainT hb4 hb5'; have HI5 := hide (And.intro (HI4.out.below hb5') hi5); clear hb5' hi5)
      | (go_at_call 10; refine (H6.out _).mono ?_; rintro e w6 ⟨rfl, rfl⟩)
      | (go_at_call 12; refine (equalInts_same A4 A5 c4 c5 zs w5 HI5.out.1 HI5.out.2 hzl).mono ?_; rintro e w9 ⟨rfl, hb9'⟩; have hb9 := below_chainT hb5 hb9'; clear hb9'))
    exact HPO.out _ hb9

end Go.Proofs.YtioppoaijehicaaGreatDoor
