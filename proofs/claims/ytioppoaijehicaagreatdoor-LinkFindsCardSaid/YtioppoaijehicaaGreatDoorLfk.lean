/-
  WALKS: the law LinkFinds.
-/
import Derived.Test.YtioppoaijehicaaGreatDoorLfj
set_option linter.all false
namespace Go.Proofs.YtioppoaijehicaaGreatDoor
open Go.RowKit Go.Lib Go.Maps Go.WideElems Go.WideMaps Go.Shelf

theorem isPg_pos {l : List BK} (R : Right l) {k : Int} (h : isPg l k = true) : 0 < k := by have := R.pgs_pos (of_decide_eq_true h); omega

theorem lfr_neg (l : List BK) : lfrRes l (-1) = lksRes l := by unfold lfrRes; rw [if_pos (by decide)]

theorem lfr_max (l : List BK) (k : Int) : lfrRes l (max k 0) = bckRes l k := by
  unfold lfrRes
  rw [if_neg (by omega)]
  by_cases hk : 0 ≤ k
  · rw [show max k 0 = k by omega]
  · unfold bckRes
    by_cases he : baseErr l = 0
    · have h1 : isPg l (max k 0) ≠ true := fun h => by have := isPg_pos (right_of he) h; omega
      have h2 : isPg l k ≠ true := fun h => by have := isPg_pos (right_of he) h; omega
      simp only [if_neg h1, if_neg h2]
    · simp only [ne_eq, he, not_false_eq_true, if_true]

theorem bck_neg {l : List BK} {k : Int} (hk : k < 0) : (bckRes l k).2 ≠ 0 := by
  unfold bckRes
  by_cases he : baseErr l = 0
  · have h2 : isPg l k ≠ true := fun h => by have := isPg_pos (right_of he) h; omega
    rw [if_neg (fun h => h he), if_neg h2]
    decide
  · rw [if_pos he]
    exact he

theorem lksRes_len (l : List BK) : (lksRes l).1.length ≤ 5000000 := by
  unfold lksRes
  by_cases he : baseErr l = 0
  · rw [if_neg (fun h => h he)]
    have := lks_all_len (right_of he) l.length
    rw [List.take_length] at this
    show (lksOf l l).length ≤ 5000000
    omega
  · rw [if_pos he]
    exact Nat.zero_le _

theorem bckRes_len (l : List BK) (k : Int) : (bckRes l k).1.length ≤ 5000000 := by
  unfold bckRes
  by_cases he : baseErr l = 0
  · rw [if_neg (fun h => h he)]
    have := lks_all_len (right_of he) l.length
    rw [List.take_length] at this
    split
    · exact Nat.le_trans (List.length_filter_le _ _) (by omega)
    · exact Nat.zero_le _
  · rw [if_pos he]
    exact Nat.zero_le _

theorem bckRes_nil {l : List BK} {k : Int} (h : (bckRes l k).2 ≠ 0) : (bckRes l k).1 = [] := by
  unfold bckRes at *
  by_cases he : baseErr l = 0
  · rw [if_neg (fun h => h he)] at *
    by_cases hp : isPg l k = true
    · rw [if_pos hp] at h; exact absurd rfl h
    · rw [if_neg hp]
  · rw [if_pos he]

theorem rfsRes_len (l : List BK) (k : Int) : (rfsRes l k).1.length ≤ maxLen := by
  unfold rfsRes maxLen
  by_cases he : baseErr l = 0
  · rw [if_neg (fun h => h he)]
    have h1 := refsL_len l k l
    have h2 := (right_of he).len
    split
    · show (refsL l k l).length ≤ _
      omega
    · exact Nat.zero_le _
  · rw [if_pos he]
    exact Nat.zero_le _

theorem brkRes_len (l : List BK) : (brkRes l).1.1.length ≤ 5000000 ∧ (brkRes l).1.2.length ≤ 5000000 := by
  unfold brkRes
  by_cases he : baseErr l = 0
  · rw [if_neg (fun h => h he)]
    have h1 := lks_all_len (right_of he) l.length
    have h2 := brk_all_len (right_of he) l.length
    rw [List.take_length] at h1 h2
    exact ⟨Nat.le_trans (List.length_filter_le _ _) (by omega), by show (brkL l l).length ≤ _; omega⟩
  · rw [if_pos he]
    exact ⟨Nat.zero_le _, Nat.zero_le _⟩

set_option maxHeartbeats 6400000 in
set_option maxRecDepth 100000 in
theorem linkFinds_any (l : List BK) (A : Option Addr) (c : Nat) (k : Int) (w : World) (hA : BsAt w A l) (hk : ∀ b ∈ l, ∀ k ∈ b.kids, In64 k) (hc : l.length ≤ c) (hmt : MaxTold w) (h64 : In64 k) :
    Calls Tryz.prog 4 #[.slice A l.length c, .int .i64 k] w fun e w' => e = .returned (.bool true) ∧ Below w.heap.size w w' := by
  have HMT := hide (fun W (hb : Below w.heap.size w W) => maxTold_below hmt hb)
  have H1 := hide (fun W (hb : Below w.heap.size w W) => links_any l A c W (hA.below hb) hk (HMT.out W hb))
  have H2 := hide (fun W (hb : Below w.heap.size w W) => linksFor_any l A c W (hA.below hb) hk hc (HMT.out W hb) (-1))
  have H3 := hide (fun W (hb : Below w.heap.size w W) => back_any l A c W (hA.below hb) hk (HMT.out W hb) k h64)
  have H4 := hide (fun W (hb : Below w.heap.size w W) => linksFor_any l A c W (hA.below hb) hk hc (HMT.out W hb) (max k 0))
  have H5 := hide (fun W (hb : Below w.heap.size w W) => refs_any l A c W (hA.below hb) hk (HMT.out W hb) k h64)
  have H6 := hide (fun W (hb : Below w.heap.size w W) => refsFor_any l A c W (hA.below hb) hk (HMT.out W hb) k)
  have H7 := hide (fun W (hb : Below w.heap.size w W) => broken_any l A c W (hA.below hb) hk (HMT.out W hb))
  have H8 := hide (fun W (hb : Below w.heap.size w W) => brokenFor_any l A c W (hA.below hb) hk hc (HMT.out W hb))
  rw [lfr_neg] at H2
  rw [lfr_max] at H4
  unfold LksOut at H1 H2 H3 H4
  unfold RfsOut at H5 H6
  unfold BrkOut at H7 H8
  have HPO : Hid (∀ w', Below w.heap.size w w' → (fun (e : Ending) (w' : World) => e = .returned (.bool true) ∧ Below w.heap.size w w') (.returned (.bool true)) w') := hide fun w' h2 => ⟨rfl, h2⟩
  generalize (fun (e : Ending) (w' : World) => e = .returned (.bool true) ∧ Below w.heap.size w w') = PO at *
  have hn1 := lksRes_len l
  have hn2 := bckRes_len l k
  have hn3 := rfsRes_len l k
  have hn4 := brkRes_len l
  have hneg : k < 0 → (bckRes l k).2 ≠ 0 := fun h => bck_neg h
  have hnil : (bckRes l k).2 ≠ 0 → (bckRes l k).1 = [] := fun h => bckRes_nil h
  generalize lksRes l = r1 at *
  generalize bckRes l k = r2 at *
  generalize rfsRes l k = r3 at *
  generalize brkRes l = r4 at *
  obtain ⟨x1, e1⟩ := r1
  obtain ⟨x2, e2⟩ := r2
  obtain ⟨x3, e3⟩ := r3
  obtain ⟨⟨x4, x5⟩, e4⟩ := r4
  (try simp only at H1 H2 H3 H4 H5 H6 H7 H8 hn1 hn2 hn3 hn4 hneg hnil)
  clear hA hk hmt HMT h64 hc
  have q1 : (e1 == e1) = true := beq_self_eq_true _
  have q2 : (e2 == e2) = true := beq_self_eq_true _
  have q3 : (e3 == e3) = true := beq_self_eq_true _
  have q4 : (e4 == e4) = true := beq_self_eq_true _
  obtain ⟨hn4, hn5⟩ := hn4
  have HNEG := hide hneg
  have HNIL := hide hnil
  clear hneg hnil
  go_enter Tryz.func4, Tryz.ntmps4
  go_upto_region 9 with (first
      | (go_at_call 13; refine (H1.out _ (Below.refl _ _)).mono ?_; rintro e w1 ⟨A1, c1, rfl, hr1, hb1'⟩; have hb1 := hb1'; have hc1 := hide hb1'; clear hb1')
      | (go_at_call 14; refine (H4.out _ hb3).mono ?_; rintro e w4 ⟨A4, c4, rfl, hr4, hb4'⟩; have hb4 := below_chainT hb3 hb4'; have hc4 := hide hb4'; clear hb4')
      | (go_at_call 14; refine (H2.out _ hb1).mono ?_; rintro e w2 ⟨A2, c2, rfl, hr2, hb2'⟩; have hb2 := below_chainT hb1 hb2'; have hc2 := hide hb2'; clear hb2')
      | (go_at_call 15; refine (H3.out _ hb2).mono ?_; rintro e w3 ⟨A3, c3, rfl, hr3, hb3'⟩; have hb3 := below_chainT hb2 hb3'; have hc3 := hide hb3'; clear hb3')
      | (go_at_call 16; refine (H5.out _ hb4).mono ?_; rintro e w5 ⟨A5, c5, rfl, hr5, hb5'⟩; have hb5 := below_chainT hb4 hb5'; have hc5 := hide hb5'; clear hb5')
      | (go_at_call 17; refine (H6.out _ hb5).mono ?_; rintro e w6 ⟨A6, c6, rfl, hr6, hb6'⟩; have hb6 := below_chainT hb5 hb6'; have hc6 := hide hb6'; clear hb6')
      | (go_at_call 18; refine (H7.out _ hb6).mono ?_; rintro e w7 ⟨A7, c7, B7, d7, rfl, hr7, hp7, hb7'⟩; have hb7 := below_chainT hb6 hb7'; have hc7 := hide hb7'; clear hb7')
      | (go_at_call 19; refine (H8.out _ hb7).mono ?_; rintro e w8 ⟨A8, c8, B8, d8, rfl, hr8, hp8, hb8'⟩; have hb8 := below_chainT hb7 hb8'; have hc8 := hide hb8'; clear hb8'))
  have G1 := hide (hr1.below (below_chainT (below_chainT (below_chainT (below_chainT (below_chainT (below_chainT hc2.out hc3.out) hc4.out) hc5.out) hc6.out) hc7.out) hc8.out))
  have G2 := hide (hr2.below (below_chainT (below_chainT (below_chainT (below_chainT (below_chainT hc3.out hc4.out) hc5.out) hc6.out) hc7.out) hc8.out))
  have G3 := hide (hr3.below (below_chainT (below_chainT (below_chainT (below_chainT hc4.out hc5.out) hc6.out) hc7.out) hc8.out))
  have G4 := hide (hr4.below (below_chainT (below_chainT (below_chainT hc5.out hc6.out) hc7.out) hc8.out))
  have G5 := hide (hr5.below (below_chainT (below_chainT hc6.out hc7.out) hc8.out))
  have G6 := hide (hr6.below (below_chainT hc7.out hc8.out))
  have G7 := hide (hr7.below hc8.out)
  have G8 := hide hr8
  have K7 := hide (hp7.below hc8.out)
  have K8 := hide hp8
  clear hr1 hr2 hr3 hr4 hr5 hr6 hr7 hr8 hp7 hp8 hc1 hc2 hc3 hc4 hc5 hc6 hc7 hc8 H1 H2 H3 H4 H5 H6 H7 H8
  by_cases he2 : e2 = 0
  · have hk0 : ¬ k < 0 := fun h => HNEG.out h he2
    subst he2
    clear HNEG HNIL
    go_wp2_with (first
      | (go_at_call_of 20 (Value.slice A1 x1.length c1); refine (equalLk_any x1 A1 A2 c1 c2 _ hn1 G1.out G2.out).mono ?_; rintro e w9 ⟨rfl, hb9⟩; have hB9 := hide hb9; clear hb9)
      | (go_at_call_of 20 (Value.slice A3 x2.length c3); refine (equalLk_any x2 A3 A4 c3 c4 _ hn2 (G3.out.below hB9.out) (G4.out.below hB9.out)).mono ?_; rintro e w10 ⟨rfl, hb10⟩; have hB10 := hide (below_chainT hB9.out hb10); clear hb10)
      | (go_at_call 12; refine (equalInts_same A5 A6 c5 c6 x3 _ (G5.out.below hB10.out) (G6.out.below hB10.out) hn3).mono ?_; rintro e w11 ⟨rfl, hb11⟩; have hB11 := hide (below_chainT hB10.out hb11); clear hb11)
      | (go_at_call_of 20 (Value.slice A7 x4.length c7); refine (equalLk_any x4 A7 A8 c7 c8 _ hn4 (G7.out.below hB11.out) (G8.out.below hB11.out)).mono ?_; rintro e w12 ⟨rfl, hb12⟩; have hB12 := hide (below_chainT hB11.out hb12); clear hb12)
      | (go_at_call 21; refine (equalPr_any x5 B7 B8 d7 d8 _ hn5 (K7.out.below hB12.out) (K8.out.below hB12.out)).mono ?_; rintro e w13 ⟨rfl, hb13⟩; have hB13 := hide (below_chainT hB12.out hb13); clear hb13))
    exact HPO.out _ (below_chainT hb8 hB13.out)
  · obtain rfl := HNIL.out he2
    have t1 : (e2 == 0) = false := beq_eq_false_iff_ne.2 he2
    have t2 : (e2 != 0) = true := bne_iff_ne.2 he2
    clear HNEG HNIL he2 G3 G4
    by_cases hk0 : k < 0
    · go_wp2_with (first
      | (go_at_call_of 20 (Value.slice A1 x1.length c1); refine (equalLk_any x1 A1 A2 c1 c2 _ hn1 G1.out G2.out).mono ?_; rintro e w9 ⟨rfl, hb9⟩; have hB9 := hide hb9; clear hb9)
      | (go_at_call 12; refine (equalInts_same A5 A6 c5 c6 x3 _ (G5.out.below hB9.out) (G6.out.below hB9.out) hn3).mono ?_; rintro e w11 ⟨rfl, hb11⟩; have hB11 := hide (below_chainT hB9.out hb11); clear hb11)
      | (go_at_call_of 20 (Value.slice A7 x4.length c7); refine (equalLk_any x4 A7 A8 c7 c8 _ hn4 (G7.out.below hB11.out) (G8.out.below hB11.out)).mono ?_; rintro e w12 ⟨rfl, hb12⟩; have hB12 := hide (below_chainT hB11.out hb12); clear hb12)
      | (go_at_call 21; refine (equalPr_any x5 B7 B8 d7 d8 _ hn5 (K7.out.below hB12.out) (K8.out.below hB12.out)).mono ?_; rintro e w13 ⟨rfl, hb13⟩; have hB13 := hide (below_chainT hB12.out hb13); clear hb13))
      exact HPO.out _ (below_chainT hb8 hB13.out)
    · go_wp2_with (first
      | (go_at_call_of 20 (Value.slice A1 x1.length c1); refine (equalLk_any x1 A1 A2 c1 c2 _ hn1 G1.out G2.out).mono ?_; rintro e w9 ⟨rfl, hb9⟩; have hB9 := hide hb9; clear hb9)
      | (go_at_call 12; refine (equalInts_same A5 A6 c5 c6 x3 _ (G5.out.below hB9.out) (G6.out.below hB9.out) hn3).mono ?_; rintro e w11 ⟨rfl, hb11⟩; have hB11 := hide (below_chainT hB9.out hb11); clear hb11)
      | (go_at_call_of 20 (Value.slice A7 x4.length c7); refine (equalLk_any x4 A7 A8 c7 c8 _ hn4 (G7.out.below hB11.out) (G8.out.below hB11.out)).mono ?_; rintro e w12 ⟨rfl, hb12⟩; have hB12 := hide (below_chainT hB11.out hb12); clear hb12)
      | (go_at_call 21; refine (equalPr_any x5 B7 B8 d7 d8 _ hn5 (K7.out.below hB12.out) (K8.out.below hB12.out)).mono ?_; rintro e w13 ⟨rfl, hb13⟩; have hB13 := hide (below_chainT hB12.out hb13); clear hb13))
      exact HPO.out _ (below_chainT hb8 hB13.out)

end Go.Proofs.YtioppoaijehicaaGreatDoor
