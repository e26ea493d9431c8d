/-
  PLAIN AND WALKS: the spans of a string, the reference's way.
-/
import Derived.Test.YtioppoaijehicaaGreatDoorSpn
set_option linter.all false
namespace Go.Proofs.YtioppoaijehicaaGreatDoor
open Go.RowKit

/-! ### Plain -/
theorem rtoks_cons {s : ByteArray} {i : Nat} (h : i < s.size) : rtoksAt s i = fill1 s (tokP s i) :: rtoksAt s (fill1 s (tokP s i)).to := by
  unfold rtoksAt
  rw [toksAt_cons h, List.map_cons, fill1_to]

theorem rtoks_over (s : ByteArray) : rtoksAt s s.size = [] := by
  unfold rtoksAt
  rw [toksAt_over (Nat.le_refl _)]
  rfl

theorem cntB_end (l : List Sp) (x : Sp) : cntB (l ++ [x]) = cntB l + if x.kind = 7 then 1 else 0 := by
  unfold cntB
  rw [List.countP_append, List.countP_singleton]
  by_cases hk : x.kind = 7
  · rw [if_pos hk, if_pos (beq_iff_eq.2 hk)]
  · rw [if_neg hk, if_neg (by rw [beq_iff_eq]; exact hk)]

theorem rmrg1_nil (x : Sp) : rmrg1 [] x = [x] := rfl

theorem rmrg1_at {out : List Sp} {m : Nat} (x : Sp) (h : out.length = m + 1) : rmrg1 out x = if x.kind = 1 ∧ (out[m]'(by omega)).kind = 1 ∧ (out[m]'(by omega)).strong = x.strong then out.set m { (out[m]'(by omega)) with «to» := x.to, txt := (out[m]'(by omega)).txt ++ x.txt } else out ++ [x] := by
  have hg : out.getLast? = some (out[m]'(by omega)) := by
    have e : out.length - 1 = m := by omega
    rw [List.getLast?_eq_getElem?, e]
    exact List.getElem?_eq_getElem (by omega)
  unfold rmrg1
  rw [hg]
  simp only
  by_cases hc : x.kind = 1 ∧ (out[m]'(by omega)).kind = 1 ∧ (out[m]'(by omega)).strong = x.strong
  · rw [if_pos hc, if_pos hc]
    apply List.ext_getElem
    · simp only [List.length_append, List.length_dropLast, List.length_cons, List.length_nil, List.length_set]; omega
    · intro j h1 h2
      rw [List.length_set] at h2
      rw [List.getElem_set]
      by_cases e : m = j
      · subst e
        rw [if_pos rfl, List.getElem_append_right (by rw [List.length_dropLast]; omega)]
        simp
      · rw [if_neg e, List.getElem_append_left (by rw [List.length_dropLast]; omega), List.getElem_dropLast]
  · rw [if_neg hc, if_neg hc]

def rmrgJ (L : List Sp) (j : Nat) : List Sp := ((strL L).take j).foldl rmrg1 []

theorem rmrgJ_zero (L : List Sp) : rmrgJ L 0 = [] := rfl

theorem rmrgJ_all (L : List Sp) : rmrgJ L L.length = (strL L).foldl rmrg1 [] := by unfold rmrgJ; rw [List.take_of_length_le (by rw [strL_len]; exact Nat.le_refl _)]

theorem rmrgJ_succ {L : List Sp} {j : Nat} (h : j < L.length) : rmrgJ L (j + 1) = rmrg1 (rmrgJ L j) (strEl (cntB L / 2 * 2) (cntB (L.take (j + 1))) L[j]) := by
  unfold rmrgJ
  rw [List.take_succ_eq_append_getElem (by rw [strL_len]; exact h), List.foldl_append, strL_get h]
  rfl

theorem rmrg1_len (out : List Sp) (x : Sp) : (rmrg1 out x).length ≤ out.length + 1 := by
  unfold rmrg1
  split
  · split
    · rw [List.length_append, List.length_dropLast, List.length_singleton]; omega
    · simp
  · simp

theorem rmrgJ_len (L : List Sp) : ∀ j, (rmrgJ L j).length ≤ j
  | 0 => by rw [rmrgJ_zero]; exact Nat.le_refl _
  | j + 1 => by
    rcases Nat.lt_or_ge j L.length with h | h
    · rw [rmrgJ_succ h]
      have := rmrg1_len (rmrgJ L j) (strEl (cntB L / 2 * 2) (cntB (L.take (j + 1))) L[j])
      have := rmrgJ_len L j
      omega
    · have := rmrgJ_len L j
      unfold rmrgJ at this ⊢
      rw [List.take_of_length_le (by rw [strL_len]; omega)] at this ⊢
      omega

/-- What is put together stays short. -/
def TxtIn (s : ByteArray) (l : List Sp) : Prop := ∀ y ∈ l, y.txt.size ≤ s.size

theorem escP_txt {s : ByteArray} {i : Nat} {x : Sp} (h : escP s i = some x) : x.txt.size ≤ s.size := by
  unfold escP at h
  split at h
  · split at h
    · obtain rfl := Option.some.inj h
      simp only [ByteArray.size_extract]; omega
    · cases h
  · cases h

theorem codeP_txt {s : ByteArray} {i : Nat} {x : Sp} (h : codeP s i = some x) : x.txt.size ≤ s.size := by
  unfold codeP at h
  split at h
  · obtain rfl := Option.some.inj h
    simp only [ByteArray.size_extract]; omega
  · cases h

theorem linkP_txt {s : ByteArray} {i : Nat} {x : Sp} (h : linkP s i = some x) : x.txt.size ≤ s.size := by
  unfold linkP at h
  split at h
  · split at h
    · obtain rfl := Option.some.inj h
      simp only [ByteArray.size_extract]; omega
    · split at h
      · obtain rfl := Option.some.inj h
        simp only [ByteArray.size_extract]; omega
      · cases h
  · cases h

theorem refP_txt {s : ByteArray} {i : Nat} {x : Sp} (h : refP s i = some x) : x.txt.size ≤ s.size := by
  unfold refP at h
  split at h
  · obtain rfl := Option.some.inj h
    simp only [ByteArray.size_extract]; omega
  · cases h

theorem tagP_txt {s : ByteArray} {i : Nat} {x : Sp} (h : tagP s i = some x) : x.txt.size ≤ s.size := by
  unfold tagP at h
  split at h
  · obtain rfl := Option.some.inj h
    simp only [ByteArray.size_extract]; omega
  · cases h

theorem boldP_txt {s : ByteArray} {i : Nat} {x : Sp} (h : boldP s i = some x) : x.txt.size ≤ s.size := by
  obtain ⟨-, -, -, -, -, e, -, h2⟩ := boldP_in h
  have := two_lt h2
  rw [e]
  show 2 ≤ s.size
  omega

theorem tokP_txt (s : ByteArray) (i : Nat) : (fill1 s (tokP s i)).txt.size ≤ s.size := by
  have hx : (tokP s i).txt.size ≤ s.size := by
    unfold tokP tokO
    cases h1 : escP s i with
    | some x => exact escP_txt h1
    | none =>
      cases h2 : codeP s i with
      | some x => exact codeP_txt h2
      | none =>
        cases h3 : linkP s i with
        | some x => exact linkP_txt h3
        | none =>
          cases h4 : refP s i with
          | some x => exact refP_txt h4
          | none =>
            cases h5 : tagP s i with
            | some x => exact tagP_txt h5
            | none =>
              cases h6 : boldP s i with
              | some x => exact boldP_txt h6
              | none => exact Nat.zero_le _
  unfold fill1
  split
  · simp only [ByteArray.size_extract]; omega
  · exact hx

theorem rtoksF_txt (s : ByteArray) : ∀ (n i : Nat), s.size - i ≤ n → TxtIn s (rtoksAt s i)
  | 0, i, h => by
    unfold rtoksAt
    rw [toksAt_over (by omega)]
    intro y hy
    cases hy
  | n + 1, i, h => by
    rcases Nat.lt_or_ge i s.size with hi | hi
    · rw [rtoks_cons hi]
      have hu := (tokP_in hi).up
      intro y hy
      rcases List.mem_cons.1 hy with rfl | hy
      · exact tokP_txt s i
      · exact rtoksF_txt s n _ (by rw [fill1_to]; omega) y hy
    · unfold rtoksAt
      rw [toksAt_over hi]
      intro y hy
      cases hy

theorem strEl_txt (q c : Nat) (x : Sp) : (strEl q c x).txt = x.txt := rfl

theorem rmrgJ_txt {s : ByteArray} {L : List Sp} (h : TxtIn s L) : ∀ j, j ≤ L.length → ∀ y ∈ rmrgJ L j, y.txt.size ≤ j * s.size
  | 0, _, y, hy => by rw [rmrgJ_zero] at hy; cases hy
  | j + 1, hj, y, hy => by
    have ih := rmrgJ_txt h j (by omega)
    have hx := h L[j] (List.getElem_mem (by omega))
    rw [rmrgJ_succ (by omega)] at hy
    have hm : (j + 1) * s.size = j * s.size + s.size := by rw [Nat.add_mul, Nat.one_mul]
    rw [hm]
    rcases Nat.eq_zero_or_pos (rmrgJ L j).length with e | e
    · rw [List.length_eq_zero_iff.1 e, rmrg1_nil] at hy
      rw [List.mem_singleton.1 hy, strEl_txt]
      omega
    · rw [rmrg1_at (m := (rmrgJ L j).length - 1) _ (by omega)] at hy
      split at hy
      · rcases List.mem_or_eq_of_mem_set hy with hy | rfl
        · have := ih y hy; omega
        · have hm9 := ih ((rmrgJ L j)[(rmrgJ L j).length - 1]'(by omega)) (List.getElem_mem (by omega))
          simp only [ByteArray.size_append, strEl_txt]
          omega
      · rcases List.mem_append.1 hy with hy | hy
        · have := ih y hy; omega
        · rw [List.mem_singleton.1 hy, strEl_txt]; omega

theorem own_set23 {W : World} {base g4 c9 : Nat} {out : List Sp} {m : Nat} (hm : m < out.length) (t : Nat) (tx : ByteArray) (h : OwnK 7 90 W base (.slice (some ⟨g4, 0, none⟩) out.length c9) out.length (flatG Sp.vals out)) :
    OwnK 7 90 (W.setCell ⟨g4, m * 7 + 2, none⟩ (.int .i64 (t : Nat))) base (.slice (some ⟨g4, 0, none⟩) out.length c9) out.length (flatG Sp.vals (out.set m { out[m] with «to» := t })) ∧
    OwnK 7 90 ((W.setCell ⟨g4, m * 7 + 2, none⟩ (.int .i64 (t : Nat))).setCell ⟨g4, m * 7 + 3, none⟩ (.string tx)) base (.slice (some ⟨g4, 0, none⟩) out.length c9) out.length (flatG Sp.vals (out.set m { out[m] with «to» := t, txt := tx })) := by
  have h1 := OwnK.set1 (v := .int .i64 (t : Nat)) (x := { out[m] with «to» := t }) (m := 2) valsSp_len h hm (by decide) rfl
  have hl : (out.set m { out[m] with «to» := t }).length = out.length := List.length_set
  have h2 := OwnK.set1 (l := out.set m { out[m] with «to» := t }) (j := m) (v := .string tx) (x := { out[m] with «to» := t, txt := tx }) (m := 3) (w := W.setCell ⟨g4, m * 7 + 2, none⟩ (.int .i64 (t : Nat))) (base := base) (g := g4) (c := c9) valsSp_len (by rw [hl]; exact h1) (by rw [hl]; exact hm) (by decide) (by rw [List.getElem_set_self]; rfl)
  rw [hl, List.set_set] at h2
  exact ⟨h1, h2⟩

set_option maxHeartbeats 6400000 in
set_option maxRecDepth 100000 in
theorem spansOf_any (s : ByteArray) (w : World) (hs : s.size ≤ 900000) (hmt : MaxTold w) :
    Calls Tryz.prog 85 #[.string s] w (RowSp (spansL s) w) := by
  have HPO : Hid (∀ A c n w', n = (spansL s).length → OwnK 7 90 w' w.heap.size (.slice A n c) n (flatG Sp.vals (spansL s)) → Below w.heap.size w w' → RowSp (spansL s) w (.returned (.slice A n c)) w') := hide fun A c n w' hn h1 h2 => by subst hn; exact ⟨A, c, rfl, h1, h2⟩
  generalize RowSp (spansL s) w = PO at *
  have HSAME := hide (spans_same s)
  have HTK := hide (fun i (hi : i < s.size) W (hb : Below w.heap.size w W) => tokenR_any s i W hi hs (maxTold_below hmt hb))
  unfold RTokOut at HTK
  have HTC := hide (fun i (hi : i < s.size) => rtoks_cons hi)
  have HTE := hide (rtoks_over s)
  have HIN := hide (fun i (hi : i < s.size) => (show i < (fill1 s (tokP s i)).to ∧ (fill1 s (tokP s i)).to ≤ s.size from by rw [fill1_to]; exact ⟨(tokP_in hi).up, (tokP_in hi).le⟩))
  obtain ⟨iS, hiS, hzS0, hzS1, hzS2⟩ := info_parts info_sp
  have HIS := hide (And.intro hiS (And.intro hzS0 (And.intro hzS1 hzS2)))
  clear hiS hzS0 hzS1 hzS2 hmt
  go_enter Tryz.func85, Tryz.ntmps85
  go_upto_block 0 with (fail)
  go_cut [3, 4, 5] from 13 to 30 (fun s3 s4 s5 wx => ∃ (A : Option Addr) (c : Nat), s3 = .slice A (rtoksAt s 0).length c ∧ s4 = .int .i64 (cntB (rtoksAt s 0)) ∧ Hid (OwnK 7 90 wx w.heap.size (.slice A (rtoksAt s 0).length c) (rtoksAt s 0).length (flatG Sp.vals (rtoksAt s 0))) ∧ Hid ((rtoksAt s 0).length ≤ s.size) ∧ Hid (Below w.heap.size w wx))
  case first =>
    clear HPO HSAME
    go_wp2_with fail
    go_loopw [3, 4, 5] (fun s3 s4 s5 wr => ∃ (i : Nat) (acc : List Sp) (A : Option Addr) (c : Nat), i ≤ s.size ∧ s3 = .slice A acc.length c ∧ s4 = .int .i64 (cntB acc) ∧ s5 = .int .i64 i ∧ Hid (OwnK 7 90 wr w.heap.size (.slice A acc.length c) acc.length (flatG Sp.vals acc)) ∧ Hid (acc ++ rtoksAt s i = rtoksAt s 0) ∧ Hid (acc.length ≤ i) ∧ Hid (cntB acc ≤ acc.length) ∧ Hid (Below w.heap.size w wr)) (fun _ _ s5 _ => s.size - (intOf s5).toNat)
    case atStart => exact ⟨0, [], none, 0, Nat.zero_le _, rfl, rfl, rfl, hide OwnK.empty, hide (List.nil_append _), hide (Nat.le_refl _), hide (Nat.zero_le _), hide (by repeat (first | with_reducible exact Below.refl _ _ | with_reducible refine bl_plus ?_ | with_reducible refine bl_alloc ?_ _ | with_reducible refine bl_drew ?_ | with_reducible refine bl_drewN ?_ _))⟩
    case round =>
      obtain ⟨i, acc, A, c, hi, rfl, rfl, rfl, HOW, HAC, HLN, HCB, HB⟩ := hrel
      by_cases hlt : i < s.size
      · have i1 : (i : Int) < (s.size : Int) := by omega
        have HC := hide (fun W hb => HTK.out i hlt W hb)
        have HNX := hide (show (acc ++ [fill1 s (tokP s i)]) ++ rtoksAt s (fill1 s (tokP s i)).to = rtoksAt s 0 from by rw [List.append_assoc, List.singleton_append, ← HTC.out i hlt]; exact HAC.out)
        obtain ⟨hup, hle⟩ := HIN.out i hlt
        have HCE := hide (cntB_end acc (fill1 s (tokP s i)))
        clear HTK HTC HTE HIN HAC
        generalize fill1 s (tokP s i) = x at *
        have HC1 := hide (show ∀ W, Below w.heap.size w W → Calls Tryz.prog 117 #[.string s, .int .i64 i] W (fun e w' => e = .returned (.agg #[.int .i64 x.kind, .int .i64 (x.fr : Nat), .int .i64 (x.to : Nat), .string x.txt, .string x.sho, .int .i64 x.id, .bool x.strong]) ∧ Below W.heap.size W w') from fun W hb => HC.out W hb)
        clear HC
        go_upto_region 6 with (go_at_call 117; refine (HC1.out _ HB.out).mono ?_; rintro e w3 ⟨rfl, hb3⟩; have HB3 := hide hb3; clear hb3)
        have HX := hide (Blk.new w3 90 #[.int .i64 x.kind, .int .i64 (x.fr : Nat), .int .i64 (x.to : Nat), .string x.txt, .string x.sho, .int .i64 x.id, .bool x.strong])
        have HOW3 := hide (ownK_below HOW.out HB3.out)
        have HNE := hide (show some w3.heap.size ≠ (Value.slice A acc.length c).ownBlock from fun e9 => by have := (HOW3.out.lt _ e9.symm).2; omega)
        have HOW4 := hide (ownK_alloc HOW3.out (.cells #[.int .i64 x.kind, .int .i64 (x.fr : Nat), .int .i64 (x.to : Nat), .string x.txt, .string x.sho, .int .i64 x.id, .bool x.strong] 90))
        have HB4 := hide (bl_alloc (below_chainS HB.out HB3.out) (.cells #[.int .i64 x.kind, .int .i64 (x.fr : Nat), .int .i64 (x.to : Nat), .string x.txt, .string x.sho, .int .i64 x.id, .bool x.strong] 90))
        generalize w3.alloc (.cells #[.int .i64 x.kind, .int .i64 (x.fr : Nat), .int .i64 (x.to : Nat), .string x.txt, .string x.sho, .int .i64 x.id, .bool x.strong] 90) = W4 at *
        generalize w3.heap.size = gX at *
        obtain ⟨x0, x1, x2, x3, x4, x5, x6, -, xl⟩ := HX.out.seven
        clear HOW3 HOW HB3 HB HC1
        by_cases hk : x.kind = 7
        · have b1 : (x.kind == 7) = true := beq_iff_eq.2 hk
          have HCE2 := hide (show cntB (acc ++ [x]) = cntB acc + 1 from by rw [HCE.out, if_pos hk])
          have hcb := HCB.out
          have hln := HLN.out
          clear HCE hk HCB
          go_wp2_with (at_builtin; refine wpList_append_k rfl (.tmp 25) (.tmp 27) rfl rfl Tryz.underlying88 HIS.out.1 HIS.out.2.1 HIS.out.2.2.1 (by decide) rfl (by have := HIS.out.2.2.2; omega) w.heap.size acc.length (.slice A acc.length c) (flatG Sp.vals acc) [.int .i64 x.kind, .int .i64 (x.fr : Nat), .int .i64 (x.to : Nat), .string x.txt, .string x.sho, .int .i64 x.id, .bool x.strong] _ rfl (ownK_alloc HOW4.out _) rfl (by intro u hu; simp only [List.mem_cons, List.not_mem_nil, or_false] at hu; rcases hu with rfl | rfl | rfl | rfl | rfl | rfl | rfl <;> rfl) rfl (newN_cells rfl) (by have := hln; omega) (by simp only [World.size_alloc]; have := HB4.out.size; omega) ?_; intro v8 w8 hown8 hgr8 hdj8; obtain ⟨A8, c8, rfl⟩ := ownSp_form hown8; have HO8 := hide hown8; have HB8 := hide ((bl_alloc HB4.out _).grown hgr8 (by simp only [World.size_alloc]; have := HB4.out.size; omega) (fun k hk => (HOW4.out.lt k hk).1) : Below w.heap.size w w8); have z2 : w8.cell? ⟨gX, 2, none⟩ = some (.int .i64 (x.to : Nat)) := ((HX.out.alloc _).grown hgr8 HNE.out).cell 2; have z9 : gX < w8.heap.size := ((HX.out.alloc _).grown hgr8 HNE.out).lt; clear hown8 hgr8 hdj8)
          have hl1 : acc.length + 1 = (acc ++ [x]).length := by simp
          rw [flatSp_snoc acc x, hl1] at HO8
          rw [hl1]
          go_wp2
          go_roundw
          case rel => exact ⟨x.to, acc ++ [x], A8, c8, hle, rfl, by rw [HCE2.out] <;> (first | rfl | go_num), rfl, HO8, HNX, hide (by rw [← hl1]; omega), hide (by rw [HCE2.out, ← hl1]; omega), HB8⟩
          case measure => simp [intOf]; omega
        · have b1 : (x.kind == 7) = false := beq_eq_false_iff_ne.2 hk
          have HCE2 := hide (show cntB (acc ++ [x]) = cntB acc from by rw [HCE.out, if_neg hk, Nat.add_zero])
          have hcb := HCB.out
          have hln := HLN.out
          clear HCE hk HCB
          go_wp2_with (at_builtin; refine wpList_append_k rfl (.tmp 25) (.tmp 27) rfl rfl Tryz.underlying88 HIS.out.1 HIS.out.2.1 HIS.out.2.2.1 (by decide) rfl (by have := HIS.out.2.2.2; omega) w.heap.size acc.length (.slice A acc.length c) (flatG Sp.vals acc) [.int .i64 x.kind, .int .i64 (x.fr : Nat), .int .i64 (x.to : Nat), .string x.txt, .string x.sho, .int .i64 x.id, .bool x.strong] _ rfl (ownK_alloc HOW4.out _) rfl (by intro u hu; simp only [List.mem_cons, List.not_mem_nil, or_false] at hu; rcases hu with rfl | rfl | rfl | rfl | rfl | rfl | rfl <;> rfl) rfl (newN_cells rfl) (by have := hln; omega) (by simp only [World.size_alloc]; have := HB4.out.size; omega) ?_; intro v8 w8 hown8 hgr8 hdj8; obtain ⟨A8, c8, rfl⟩ := ownSp_form hown8; have HO8 := hide hown8; have HB8 := hide ((bl_alloc HB4.out _).grown hgr8 (by simp only [World.size_alloc]; have := HB4.out.size; omega) (fun k hk => (HOW4.out.lt k hk).1) : Below w.heap.size w w8); have z2 : w8.cell? ⟨gX, 2, none⟩ = some (.int .i64 (x.to : Nat)) := ((HX.out.alloc _).grown hgr8 HNE.out).cell 2; have z9 : gX < w8.heap.size := ((HX.out.alloc _).grown hgr8 HNE.out).lt; clear hown8 hgr8 hdj8)
          have hl1 : acc.length + 1 = (acc ++ [x]).length := by simp
          rw [flatSp_snoc acc x, hl1] at HO8
          rw [hl1]
          go_wp2
          go_roundw
          case rel => exact ⟨x.to, acc ++ [x], A8, c8, hle, rfl, by rw [HCE2.out] <;> (first | rfl | go_num), rfl, HO8, HNX, hide (by rw [← hl1]; omega), hide (by rw [HCE2.out, ← hl1]; omega), HB8⟩
          case measure => simp [intOf]; omega
      · obtain rfl : i = s.size := by omega
        have hacc : acc = rtoksAt s 0 := by have := HAC.out; rwa [HTE.out, List.append_nil] at this
        subst hacc
        clear HTK HTC HTE HIN HAC
        go_wp2
        go_meet
        exact ⟨A, c, rfl, rfl, HOW, HLN, HB⟩
  case rest =>
  obtain ⟨A, c, rfl, rfl, HOW, HLN, HB⟩ := hcut
  have HTX := hide (rtoksF_txt s _ 0 (Nat.le_refl _))
  clear HTK HTC HTE HIN
  generalize rtoksAt s 0 = L at *
  obtain ⟨w2, hw2⟩ : ∃ w2 : World, w2 = wc := ⟨_, rfl⟩
  subst hw2
  have HRD := hide (rdK_own valsSp_len (by decide) HOW.out)
  have HTXJ := hide (fun j (h : j ≤ L.length) => rmrgJ_txt HTX.out j h)
  have HMZ := hide (rmrgJ_zero L)
  have HML := hide (rmrgJ_len L)
  have HMA := hide ((rmrgJ_all L).trans HSAME.out)
  have HMS := hide (fun j (h : j < L.length) => rmrgJ_succ h)
  have HCS := hide (fun j (h : j < L.length) => cntB_snoc h)
  have HCM := hide (fun j => (Nat.le_trans (show cntB (L.take j) ≤ (L.take j).length by unfold cntB; exact List.countP_le_length) (List.length_take_le' j L) : cntB (L.take j) ≤ L.length))
  have hcl : cntB L ≤ L.length := by unfold cntB; exact List.countP_le_length
  have hll := HLN.out
  have HTX0 := HTX
  clear HOW HTX HSAME HLN
  go_upto_region 10 with (fail)
  go_cut [7] from 31 to 33 (fun s7 wx => s7 = .int .i64 (cntB L / 2 * 2 : Nat) ∧ w2 = wx)
  case first =>
    go_wp2
    go_meet
    exact ⟨by first | rfl | (congr 1; omega), rfl⟩
  case rest =>
  obtain ⟨rfl, rfl⟩ := hcut
  generalize hq9 : cntB L / 2 * 2 = q at *
  clear hq9
  have HC0 := hide (show cntB (L.take 0) = 0 from by rw [List.take_zero]; rfl)
  go_wp2
  go_loopw [8, 9, 36] (fun s8 s9 s36 wr => ∃ (j : Nat) (A9 : Option Addr) (c9 : Nat), j ≤ L.length ∧ s8 = .int .i64 (cntB (L.take j)) ∧ s9 = .slice A9 (rmrgJ L j).length c9 ∧ s36 = .int .i64 j ∧ Hid (OwnK 7 90 wr w2.heap.size (.slice A9 (rmrgJ L j).length c9) (rmrgJ L j).length (flatG Sp.vals (rmrgJ L j))) ∧ Hid (Below w2.heap.size w2 wr)) (fun _ _ s36 _ => L.length - (intOf s36).toNat)
  case atStart => exact ⟨0, none, 0, Nat.zero_le _, by rw [HC0.out]; rfl, by rw [HMZ.out]; rfl, rfl, hide (by rw [HMZ.out]; exact OwnK.empty), hide (Below.refl _ _)⟩
  case round =>
    obtain ⟨j, A9, c9, hj, rfl, rfl, rfl, HOW, HBr⟩ := hrel
    by_cases hlt : j < L.length
    · obtain ⟨b, o, rfl, hb, hv0⟩ := HRD.out (by omega)
      have hv := hv0 j hlt
      have hqq := fun i (hi : i < 7) => (HBr.out.cell (p := ⟨b, o + j * 7 + i, none⟩) hb).trans (hv i hi)
      have q0 := hqq 0 (by decide)
      have q1 := hqq 1 (by decide)
      have q2 := hqq 2 (by decide)
      have q3 := hqq 3 (by decide)
      have q4 := hqq 4 (by decide)
      have q5 := hqq 5 (by decide)
      have q6 := hqq 6 (by decide)
      have hms := HMS.out j hlt
      have hml := HML.out j
      have htx := HTXJ.out j hj
      have htx2 := HTXJ.out (j + 1) hlt
      have hcs := HCS.out j hlt
      have hcm := HCM.out j
      have hxx := HTX0.out L[j] (List.getElem_mem hlt)
      clear hv hv0 hqq
      generalize L[j] = x at *
      generalize hc1 : cntB (L.take (j + 1)) = c1 at *
      generalize cntB (L.take j) = c0 at *
      generalize hm2 : rmrgJ L (j + 1) = out2 at *
      generalize rmrgJ L j = out at *
      have HC1 := hide hc1
      have HM2 := hide hm2
      have HJS := hide hms
      have HTXO := hide htx
      clear hc1 hm2 hms htx htx2
      have hbr : b < wr.heap.size := Nat.lt_of_lt_of_le hb HBr.out.size
      have i1 : (j : Int) < (L.length : Int) := by omega
      dsimp only [Sp.vals] at q0 q1 q2 q3 q4 q5 q6
      simp only [List.getElem?_cons_zero, List.getElem?_cons_succ, Nat.add_zero] at q0 q1 q2 q3 q4 q5 q6
      go_upto_region 16 with (fail)
      have HX := hide (Blk.new wr 90 #[.int .i64 x.kind, .int .i64 (x.fr : Nat), .int .i64 (x.to : Nat), .string x.txt, .string x.sho, .int .i64 x.id, .bool x.strong])
      have HNE := hide (show some wr.heap.size ≠ (Value.slice A9 out.length c9).ownBlock from fun e9 => by have := (HOW.out.lt _ e9.symm).2; omega)
      have HOW5 := hide (ownK_alloc HOW.out (.cells #[.int .i64 x.kind, .int .i64 (x.fr : Nat), .int .i64 (x.to : Nat), .string x.txt, .string x.sho, .int .i64 x.id, .bool x.strong] 90))
      have HB5 := hide (bl_alloc HBr.out (.cells #[.int .i64 x.kind, .int .i64 (x.fr : Nat), .int .i64 (x.to : Nat), .string x.txt, .string x.sho, .int .i64 x.id, .bool x.strong] 90))
      have HGX := hide (show w2.heap.size ≤ wr.heap.size from HBr.out.size)
      generalize wr.alloc (.cells #[.int .i64 x.kind, .int .i64 (x.fr : Nat), .int .i64 (x.to : Nat), .string x.txt, .string x.sho, .int .i64 x.id, .bool x.strong] 90) = W5 at *
      generalize wr.heap.size = gX at *
      obtain ⟨x0, x1, x2, x3, x4, x5, x6, xff, xl⟩ := HX.out.seven
      clear q0 q1 q2 q3 q4 q5 q6 HOW HBr hbr
      have HSF := hide (fun (W : World) (m : Nat) (u : Value) (h : OwnK 7 90 W w2.heap.size (.slice A9 out.length c9) out.length (flatG Sp.vals out)) => (h.kept fun k hk => Below.heap_setCell W ⟨gX, m, none⟩ u k (fun e => HNE.out (by rw [hk]; exact congrArg some e.symm)) : OwnK 7 90 (W.setCell ⟨gX, m, none⟩ u) w2.heap.size (.slice A9 out.length c9) out.length (flatG Sp.vals out)))
      obtain ⟨xk, xf, xt, xx, xs, xi, xg⟩ := x
      (try simp only at hcs hxx HX HOW5 HB5 x0 x1 x2 x3 x4 x5 x6)
      by_cases hk : xk = 7
      · subst hk
        rw [if_pos rfl] at hcs
        by_cases hqc : q < c1
        · have hz : strEl q c1 ⟨7, xf, xt, xx, xs, xi, xg⟩ = ⟨1, xf, xt, xx, xs, xi, false⟩ := by
            unfold strEl
            rw [if_pos ⟨rfl, hqc⟩, decide_eq_false (fun h => by omega), decide_eq_false (fun h => by omega)]
            rfl
          have j1 : (q : Int) < (c0 : Int) + 1 := by omega
          have j2 : ¬ (c0 : Int) + 1 ≤ (q : Int) := by omega
          rw [hz] at HJS
          have HCS1 := hide hcs
          clear hz hqc
          by_cases hodd : (c0 + 1) % 2 = 1
          · have m1 : (((c0 : Int) + 1) % 2 == 1) = true := beq_iff_eq.2 (by omega)
            have m2 : (Int.tmod ((c0 : Int) + 1) 2 == 1) = true := beq_iff_eq.2 (by rw [Int.tmod_eq_emod_of_nonneg (by omega)]; omega)
            clear hcs hodd
            go_upto_region 21 with (fail)
            have HZB := hide (show Blk ((W5.setCell ⟨gX, 0, none⟩ (.int .i64 1)).setCell ⟨gX, 6, none⟩ (.bool false)) gX 90 #[.int .i64 1, .int .i64 (xf : Nat), .int .i64 (xt : Nat), .string xx, .string xs, .int .i64 xi, .bool false] from (HX.out.set_ 0 (.int .i64 1)).set_ 6 (.bool false))
            have HOW6 := hide (show OwnK 7 90 ((W5.setCell ⟨gX, 0, none⟩ (.int .i64 1)).setCell ⟨gX, 6, none⟩ (.bool false)) w2.heap.size (.slice A9 out.length c9) out.length (flatG Sp.vals out) from HSF.out _ 6 _ (HSF.out _ 0 _ HOW5.out))
            have HB6 := hide (show Below w2.heap.size w2 ((W5.setCell ⟨gX, 0, none⟩ (.int .i64 1)).setCell ⟨gX, 6, none⟩ (.bool false)) from (HB5.out.setCell (p := ⟨gX, 0, none⟩) HGX.out _).setCell (p := ⟨gX, 6, none⟩) HGX.out _)
            clear HOW5 HB5 HX HSF x0 x1 x2 x3 x4 x5 x6 xl xff
            generalize (W5.setCell ⟨gX, 0, none⟩ (.int .i64 1)).setCell ⟨gX, 6, none⟩ (.bool false) = W6 at *
            obtain ⟨x0, x1, x2, x3, x4, x5, x6, -, xl⟩ := HZB.out.seven
            rcases Nat.eq_zero_or_pos out.length with h0 | h0
            · obtain rfl := List.length_eq_zero_iff.1 h0
              have HO2 := hide (HJS.out.trans (rmrg1_nil _))
              clear HJS h0 HTXO
              go_upto_region 22 with (fail)
              go_cut [90] from 66 to 90 (fun s90 wx => s90 = .bool false ∧ ∃ qd, W6.drewN qd = wx)
              case first =>
                go_quiet (fail)
                go_wp2
                go_meet
                exact ⟨rfl, _, rfl⟩
              case rest =>
                obtain ⟨rfl, qd, rfl⟩ := hcut
                have HOW7 := hide (ownK_drewN HOW6.out qd)
                have HB7 := hide (bl_drewN HB6.out qd)
                clear HOW6 HB6
                go_wp2_with (at_builtin; refine wpList_append_k rfl (.tmp 107) (.tmp 109) rfl rfl Tryz.underlying88 HIS.out.1 HIS.out.2.1 HIS.out.2.2.1 (by decide) rfl (by have := HIS.out.2.2.2; omega) w2.heap.size ([] : List Sp).length (.slice A9 ([] : List Sp).length c9) (flatG Sp.vals ([] : List Sp)) [.int .i64 1, .int .i64 (xf : Nat), .int .i64 (xt : Nat), .string xx, .string xs, .int .i64 xi, .bool false] _ rfl (ownK_alloc HOW7.out _) rfl (by intro u hu; simp only [List.mem_cons, List.not_mem_nil, or_false] at hu; rcases hu with rfl | rfl | rfl | rfl | rfl | rfl | rfl <;> rfl) rfl (newN_cells rfl) (by have := hml; omega) (by simp only [World.size_alloc]; have := HB7.out.size; omega) ?_; intro v8 w8 hown8 hgr8 hdj8; obtain ⟨A8, c8, rfl⟩ := ownSp_form hown8; have HO8 := hide hown8; have HB8 := hide ((bl_alloc HB7.out _).grown hgr8 (by simp only [World.size_alloc]; have := HB7.out.size; omega) (fun k hk => (HOW7.out.lt k hk).1) : Below w2.heap.size w2 w8); clear hown8 hgr8 hdj8)
                rw [flatSp_snoc [] (⟨1, xf, xt, xx, xs, xi, false⟩ : Sp)] at HO8
                go_roundw
                case rel => exact ⟨j + 1, A8, c8, hlt, by rw [HC1.out, HCS1.out] <;> first | rfl | go_num, by rw [HM2.out, HO2.out]; rfl, by go_num, hide (by rw [HM2.out, HO2.out]; exact HO8.out), HB8⟩
                case measure => simp [intOf]; omega
            · obtain ⟨m, hm⟩ : ∃ m, out.length = m + 1 := ⟨out.length - 1, by omega⟩
              have HO2 := hide (HJS.out.trans (rmrg1_at _ hm))
              obtain ⟨g4, rfl⟩ : ∃ g4, A9 = some ⟨g4, 0, none⟩ := by
                obtain ⟨-, A', c', hv, -, -, h3⟩ := HOW6.out
                injection hv with e1 _ _
                subst e1
                rcases h3 with ⟨-, e, -⟩ | ⟨g, cur, e, -⟩
                · omega
                · exact ⟨g, e⟩
              have hml9 : m < out.length := by omega
              have hg4 := (HOW6.out.lt g4 rfl).2
              have hne4 : gX ≠ g4 := fun e => HNE.out (by rw [e]; rfl)
              have y0 := HOW6.out.cellK valsSp_len hml9 (show 0 < 7 by decide)
              have y6 := HOW6.out.cellK valsSp_len hml9 (show 6 < 7 by decide)
              have y2 := HOW6.out.cellK valsSp_len hml9 (show 2 < 7 by decide)
              have yf := (HOW6.out.thereK (by decide) valsSp_len (k := m * 7 + 2) (by omega)).2
              have HSET := hide (fun (W : World) (tx : ByteArray) (h : OwnK 7 90 W w2.heap.size (.slice (some ⟨g4, 0, none⟩) out.length c9) out.length (flatG Sp.vals out)) => own_set23 hml9 xt tx h)
              have hty := HTXO.out out[m] (List.getElem_mem hml9)
              have HLS := hide (fun (z9 : Sp) => (show (out.set m z9).length = out.length from List.length_set))
              have HG3 := hide (fun (W : World) (z9 : Sp) (h : OwnK 7 90 W w2.heap.size (.slice (some ⟨g4, 0, none⟩) out.length c9) out.length (flatG Sp.vals (out.set m z9))) => (by
                have h1 := h.cellK (l := out.set m z9) valsSp_len (j := m) (by rw [List.length_set]; exact hml9) (show 3 < 7 by decide)
                rw [List.getElem_set_self] at h1
                exact ⟨h1, (h.thereK (by decide) valsSp_len (k := m * 7 + 3) (by omega)).2⟩ : W.cell? ⟨g4, m * 7 + 3, none⟩ = z9.vals[3]? ∧ W.frozen? ⟨g4, m * 7 + 3, none⟩ = false))
              generalize hy : out[m] = y at *
              dsimp only [Sp.vals] at y0 y2 y6
              simp only [List.getElem?_cons_zero, List.getElem?_cons_succ, Nat.add_zero] at y0 y2 y6
              obtain ⟨bY, hbY⟩ : ∃ bY, (y.kind == 1) = bY := ⟨_, rfl⟩
              obtain ⟨bG, hbG⟩ : ∃ bG, (y.strong == false) = bG := ⟨_, rfl⟩
              have HT : Hid (out2 = if (true && (bY && bG)) = true then out.set m { y with «to» := xt, txt := y.txt ++ xx } else out ++ [(⟨1, xf, xt, xx, xs, xi, false⟩ : Sp)]) := hide (by
                rw [HO2.out]
                have e1 : (true = true) ↔ (1 : Int) = 1 := ⟨fun _ => rfl, fun _ => rfl⟩
                have e2 : bY = true ↔ y.kind = 1 := by rw [← hbY, beq_iff_eq]
                have e3 : bG = true ↔ y.strong = false := by rw [← hbG, beq_iff_eq]
                simp only [Bool.and_eq_true, e1, e2, e3])
              have hjs : j * s.size ≤ 900000 * 900000 := Nat.mul_le_mul (by omega) hs
              have hcat : (y.txt.size : Int) + (xx.size : Int) ≤ 9000000000000 := by omega
              have i2 : (0 : Int) ≤ (m : Int) := by omega
              have i3 : (m : Int) < (out.length : Int) := by omega
              have HLO := hide (show (out ++ [(⟨1, xf, xt, xx, xs, xi, false⟩ : Sp)]).length = out.length + 1 by simp)
              have HN1 := hide hm
              clear HO2 HJS h0 hm hy hty hjs
              go_upto_region 22 with (fail)
              rw [show ((out.length : Nat) : Int) - 1 = (m : Int) by have := HN1.out; omega]
              go_cut [90] from 66 to 90 (fun s90 wx => s90 = .bool (true && (bY && bG)) ∧ ∃ qd, W6.drewN qd = wx)
              case first =>
                cases bY <;> cases bG
                all_goals
                  go_quiet (fail)
                  go_wp2
                  go_meet
                  exact ⟨rfl, _, rfl⟩
              case rest =>
                obtain ⟨rfl, qd, rfl⟩ := hcut
                have HOW7 := hide (ownK_drewN HOW6.out qd)
                have HB7 := hide (bl_drewN HB6.out qd)
                have HO2 := HT
                clear HOW6 HB6 HT y0 y6
                cases hT : (true && (bY && bG)) with
                | true =>
                  rw [hT, if_pos rfl] at HO2
                  go_upto_region 24 with (fail)
                  obtain ⟨hs1, hs2⟩ := HSET.out (W6.drewN qd) (y.txt ++ xx) HOW7.out
                  have w3 := HG3.out _ _ hs1
                  have w3c : ((W6.drewN qd).setCell ⟨g4, m * 7 + 2, none⟩ (.int .i64 (xt : Nat))).cell? ⟨g4, m * 7 + 3, none⟩ = some (.string y.txt) := w3.1
                  have w3f := w3.2
                  have hxb : ((W6.drewN qd).setCell ⟨g4, m * 7 + 2, none⟩ (.int .i64 (xt : Nat))).cell? ⟨gX, 3, none⟩ = some (.string xx) := ((HZB.out.drewN qd).far (p := ⟨g4, m * 7 + 2, none⟩) hne4 _).cell 3
                  have hxl := ((HZB.out.drewN qd).far (p := ⟨g4, m * 7 + 2, none⟩) hne4 (.int .i64 (xt : Nat))).lt
                  have HB8 := hide ((HB7.out.setCell (p := ⟨g4, m * 7 + 2, none⟩) (HOW7.out.lt g4 rfl).1 (.int .i64 (xt : Nat))).setCell (p := ⟨g4, m * 7 + 3, none⟩) (HOW7.out.lt g4 rfl).1 (.string (y.txt ++ xx)))
                  have HO8 := hide hs2
                  have hg7 : g4 < ((W6.drewN qd).setCell ⟨g4, m * 7 + 2, none⟩ (.int .i64 (xt : Nat))).heap.size := (hs1.lt g4 rfl).2
                  clear hs1 hs2 w3 HSET hT HLO yf y2 x0 x1 x2 x3 x4 x5 x6 xl hg4 HOW7 HB7 HZB
                  generalize (W6.drewN qd).setCell ⟨g4, m * 7 + 2, none⟩ (.int .i64 (xt : Nat)) = W7 at *
                  go_region
                  go_wp2
                  go_roundw
                  case rel => exact ⟨j + 1, some ⟨g4, 0, none⟩, c9, hlt, by rw [HC1.out, HCS1.out] <;> first | rfl | go_num, by rw [HM2.out, HO2.out, HLS.out], by go_num, hide (by rw [HM2.out, HO2.out, HLS.out]; exact ownK_drew HO8.out), hide (bl_drew HB8.out)⟩
                  case measure => simp [intOf]; omega
                | false =>
                  rw [hT, if_neg Bool.false_ne_true] at HO2
                  clear HSET hT HLS HG3 yf y2 hcat
                  go_wp2_with (at_builtin; refine wpList_append_k rfl (.tmp 107) (.tmp 109) rfl rfl Tryz.underlying88 HIS.out.1 HIS.out.2.1 HIS.out.2.2.1 (by decide) rfl (by have := HIS.out.2.2.2; omega) w2.heap.size out.length (.slice (some ⟨g4, 0, none⟩) out.length c9) (flatG Sp.vals out) [.int .i64 1, .int .i64 (xf : Nat), .int .i64 (xt : Nat), .string xx, .string xs, .int .i64 xi, .bool false] _ rfl (ownK_alloc HOW7.out _) rfl (by intro u hu; simp only [List.mem_cons, List.not_mem_nil, or_false] at hu; rcases hu with rfl | rfl | rfl | rfl | rfl | rfl | rfl <;> rfl) rfl (newN_cells rfl) (by have := hml; omega) (by simp only [World.size_alloc]; have := HB7.out.size; omega) ?_; intro v8 w8 hown8 hgr8 hdj8; obtain ⟨A8, c8, rfl⟩ := ownSp_form hown8; have HO8 := hide hown8; have HB8 := hide ((bl_alloc HB7.out _).grown hgr8 (by simp only [World.size_alloc]; have := HB7.out.size; omega) (fun k hk => (HOW7.out.lt k hk).1) : Below w2.heap.size w2 w8); clear hown8 hgr8 hdj8)
                  rw [flatSp_snoc out (⟨1, xf, xt, xx, xs, xi, false⟩ : Sp), ← HLO.out] at HO8
                  rw [← HLO.out]
                  go_wp2
                  go_roundw
                  case rel => exact ⟨j + 1, A8, c8, hlt, by rw [HC1.out, HCS1.out] <;> first | rfl | go_num, by rw [HM2.out, HO2.out], by go_num, hide (by rw [HM2.out, HO2.out]; exact HO8.out), HB8⟩
                  case measure => simp [intOf]; omega
          · have m1 : (((c0 : Int) + 1) % 2 == 1) = false := beq_eq_false_iff_ne.2 (by omega)
            have m2 : (Int.tmod ((c0 : Int) + 1) 2 == 1) = false := beq_eq_false_iff_ne.2 (by rw [Int.tmod_eq_emod_of_nonneg (by omega)]; omega)
            clear hcs hodd
            go_upto_region 21 with (fail)
            have HZB := hide (show Blk ((W5.setCell ⟨gX, 0, none⟩ (.int .i64 1)).setCell ⟨gX, 6, none⟩ (.bool false)) gX 90 #[.int .i64 1, .int .i64 (xf : Nat), .int .i64 (xt : Nat), .string xx, .string xs, .int .i64 xi, .bool false] from (HX.out.set_ 0 (.int .i64 1)).set_ 6 (.bool false))
            have HOW6 := hide (show OwnK 7 90 ((W5.setCell ⟨gX, 0, none⟩ (.int .i64 1)).setCell ⟨gX, 6, none⟩ (.bool false)) w2.heap.size (.slice A9 out.length c9) out.length (flatG Sp.vals out) from HSF.out _ 6 _ (HSF.out _ 0 _ HOW5.out))
            have HB6 := hide (show Below w2.heap.size w2 ((W5.setCell ⟨gX, 0, none⟩ (.int .i64 1)).setCell ⟨gX, 6, none⟩ (.bool false)) from (HB5.out.setCell (p := ⟨gX, 0, none⟩) HGX.out _).setCell (p := ⟨gX, 6, none⟩) HGX.out _)
            clear HOW5 HB5 HX HSF x0 x1 x2 x3 x4 x5 x6 xl xff
            generalize (W5.setCell ⟨gX, 0, none⟩ (.int .i64 1)).setCell ⟨gX, 6, none⟩ (.bool false) = W6 at *
            obtain ⟨x0, x1, x2, x3, x4, x5, x6, -, xl⟩ := HZB.out.seven
            rcases Nat.eq_zero_or_pos out.length with h0 | h0
            · obtain rfl := List.length_eq_zero_iff.1 h0
              have HO2 := hide (HJS.out.trans (rmrg1_nil _))
              clear HJS h0 HTXO
              go_upto_region 22 with (fail)
              go_cut [90] from 66 to 90 (fun s90 wx => s90 = .bool false ∧ ∃ qd, W6.drewN qd = wx)
              case first =>
                go_quiet (fail)
                go_wp2
                go_meet
                exact ⟨rfl, _, rfl⟩
              case rest =>
                obtain ⟨rfl, qd, rfl⟩ := hcut
                have HOW7 := hide (ownK_drewN HOW6.out qd)
                have HB7 := hide (bl_drewN HB6.out qd)
                clear HOW6 HB6
                go_wp2_with (at_builtin; refine wpList_append_k rfl (.tmp 107) (.tmp 109) rfl rfl Tryz.underlying88 HIS.out.1 HIS.out.2.1 HIS.out.2.2.1 (by decide) rfl (by have := HIS.out.2.2.2; omega) w2.heap.size ([] : List Sp).length (.slice A9 ([] : List Sp).length c9) (flatG Sp.vals ([] : List Sp)) [.int .i64 1, .int .i64 (xf : Nat), .int .i64 (xt : Nat), .string xx, .string xs, .int .i64 xi, .bool false] _ rfl (ownK_alloc HOW7.out _) rfl (by intro u hu; simp only [List.mem_cons, List.not_mem_nil, or_false] at hu; rcases hu with rfl | rfl | rfl | rfl | rfl | rfl | rfl <;> rfl) rfl (newN_cells rfl) (by have := hml; omega) (by simp only [World.size_alloc]; have := HB7.out.size; omega) ?_; intro v8 w8 hown8 hgr8 hdj8; obtain ⟨A8, c8, rfl⟩ := ownSp_form hown8; have HO8 := hide hown8; have HB8 := hide ((bl_alloc HB7.out _).grown hgr8 (by simp only [World.size_alloc]; have := HB7.out.size; omega) (fun k hk => (HOW7.out.lt k hk).1) : Below w2.heap.size w2 w8); clear hown8 hgr8 hdj8)
                rw [flatSp_snoc [] (⟨1, xf, xt, xx, xs, xi, false⟩ : Sp)] at HO8
                go_roundw
                case rel => exact ⟨j + 1, A8, c8, hlt, by rw [HC1.out, HCS1.out] <;> first | rfl | go_num, by rw [HM2.out, HO2.out]; rfl, by go_num, hide (by rw [HM2.out, HO2.out]; exact HO8.out), HB8⟩
                case measure => simp [intOf]; omega
            · obtain ⟨m, hm⟩ : ∃ m, out.length = m + 1 := ⟨out.length - 1, by omega⟩
              have HO2 := hide (HJS.out.trans (rmrg1_at _ hm))
              obtain ⟨g4, rfl⟩ : ∃ g4, A9 = some ⟨g4, 0, none⟩ := by
                obtain ⟨-, A', c', hv, -, -, h3⟩ := HOW6.out
                injection hv with e1 _ _
                subst e1
                rcases h3 with ⟨-, e, -⟩ | ⟨g, cur, e, -⟩
                · omega
                · exact ⟨g, e⟩
              have hml9 : m < out.length := by omega
              have hg4 := (HOW6.out.lt g4 rfl).2
              have hne4 : gX ≠ g4 := fun e => HNE.out (by rw [e]; rfl)
              have y0 := HOW6.out.cellK valsSp_len hml9 (show 0 < 7 by decide)
              have y6 := HOW6.out.cellK valsSp_len hml9 (show 6 < 7 by decide)
              have y2 := HOW6.out.cellK valsSp_len hml9 (show 2 < 7 by decide)
              have yf := (HOW6.out.thereK (by decide) valsSp_len (k := m * 7 + 2) (by omega)).2
              have HSET := hide (fun (W : World) (tx : ByteArray) (h : OwnK 7 90 W w2.heap.size (.slice (some ⟨g4, 0, none⟩) out.length c9) out.length (flatG Sp.vals out)) => own_set23 hml9 xt tx h)
              have hty := HTXO.out out[m] (List.getElem_mem hml9)
              have HLS := hide (fun (z9 : Sp) => (show (out.set m z9).length = out.length from List.length_set))
              have HG3 := hide (fun (W : World) (z9 : Sp) (h : OwnK 7 90 W w2.heap.size (.slice (some ⟨g4, 0, none⟩) out.length c9) out.length (flatG Sp.vals (out.set m z9))) => (by
                have h1 := h.cellK (l := out.set m z9) valsSp_len (j := m) (by rw [List.length_set]; exact hml9) (show 3 < 7 by decide)
                rw [List.getElem_set_self] at h1
                exact ⟨h1, (h.thereK (by decide) valsSp_len (k := m * 7 + 3) (by omega)).2⟩ : W.cell? ⟨g4, m * 7 + 3, none⟩ = z9.vals[3]? ∧ W.frozen? ⟨g4, m * 7 + 3, none⟩ = false))
              generalize hy : out[m] = y at *
              dsimp only [Sp.vals] at y0 y2 y6
              simp only [List.getElem?_cons_zero, List.getElem?_cons_succ, Nat.add_zero] at y0 y2 y6
              obtain ⟨bY, hbY⟩ : ∃ bY, (y.kind == 1) = bY := ⟨_, rfl⟩
              obtain ⟨bG, hbG⟩ : ∃ bG, (y.strong == false) = bG := ⟨_, rfl⟩
              have HT : Hid (out2 = if (true && (bY && bG)) = true then out.set m { y with «to» := xt, txt := y.txt ++ xx } else out ++ [(⟨1, xf, xt, xx, xs, xi, false⟩ : Sp)]) := hide (by
                rw [HO2.out]
                have e1 : (true = true) ↔ (1 : Int) = 1 := ⟨fun _ => rfl, fun _ => rfl⟩
                have e2 : bY = true ↔ y.kind = 1 := by rw [← hbY, beq_iff_eq]
                have e3 : bG = true ↔ y.strong = false := by rw [← hbG, beq_iff_eq]
                simp only [Bool.and_eq_true, e1, e2, e3])
              have hjs : j * s.size ≤ 900000 * 900000 := Nat.mul_le_mul (by omega) hs
              have hcat : (y.txt.size : Int) + (xx.size : Int) ≤ 9000000000000 := by omega
              have i2 : (0 : Int) ≤ (m : Int) := by omega
              have i3 : (m : Int) < (out.length : Int) := by omega
              have HLO := hide (show (out ++ [(⟨1, xf, xt, xx, xs, xi, false⟩ : Sp)]).length = out.length + 1 by simp)
              have HN1 := hide hm
              clear HO2 HJS h0 hm hy hty hjs
              go_upto_region 22 with (fail)
              rw [show ((out.length : Nat) : Int) - 1 = (m : Int) by have := HN1.out; omega]
              go_cut [90] from 66 to 90 (fun s90 wx => s90 = .bool (true && (bY && bG)) ∧ ∃ qd, W6.drewN qd = wx)
              case first =>
                cases bY <;> cases bG
                all_goals
                  go_quiet (fail)
                  go_wp2
                  go_meet
                  exact ⟨rfl, _, rfl⟩
              case rest =>
                obtain ⟨rfl, qd, rfl⟩ := hcut
                have HOW7 := hide (ownK_drewN HOW6.out qd)
                have HB7 := hide (bl_drewN HB6.out qd)
                have HO2 := HT
                clear HOW6 HB6 HT y0 y6
                cases hT : (true && (bY && bG)) with
                | true =>
                  rw [hT, if_pos rfl] at HO2
                  go_upto_region 24 with (fail)
                  obtain ⟨hs1, hs2⟩ := HSET.out (W6.drewN qd) (y.txt ++ xx) HOW7.out
                  have w3 := HG3.out _ _ hs1
                  have w3c : ((W6.drewN qd).setCell ⟨g4, m * 7 + 2, none⟩ (.int .i64 (xt : Nat))).cell? ⟨g4, m * 7 + 3, none⟩ = some (.string y.txt) := w3.1
                  have w3f := w3.2
                  have hxb : ((W6.drewN qd).setCell ⟨g4, m * 7 + 2, none⟩ (.int .i64 (xt : Nat))).cell? ⟨gX, 3, none⟩ = some (.string xx) := ((HZB.out.drewN qd).far (p := ⟨g4, m * 7 + 2, none⟩) hne4 _).cell 3
                  have hxl := ((HZB.out.drewN qd).far (p := ⟨g4, m * 7 + 2, none⟩) hne4 (.int .i64 (xt : Nat))).lt
                  have HB8 := hide ((HB7.out.setCell (p := ⟨g4, m * 7 + 2, none⟩) (HOW7.out.lt g4 rfl).1 (.int .i64 (xt : Nat))).setCell (p := ⟨g4, m * 7 + 3, none⟩) (HOW7.out.lt g4 rfl).1 (.string (y.txt ++ xx)))
                  have HO8 := hide hs2
                  have hg7 : g4 < ((W6.drewN qd).setCell ⟨g4, m * 7 + 2, none⟩ (.int .i64 (xt : Nat))).heap.size := (hs1.lt g4 rfl).2
                  clear hs1 hs2 w3 HSET hT HLO yf y2 x0 x1 x2 x3 x4 x5 x6 xl hg4 HOW7 HB7 HZB
                  generalize (W6.drewN qd).setCell ⟨g4, m * 7 + 2, none⟩ (.int .i64 (xt : Nat)) = W7 at *
                  go_region
                  go_wp2
                  go_roundw
                  case rel => exact ⟨j + 1, some ⟨g4, 0, none⟩, c9, hlt, by rw [HC1.out, HCS1.out] <;> first | rfl | go_num, by rw [HM2.out, HO2.out, HLS.out], by go_num, hide (by rw [HM2.out, HO2.out, HLS.out]; exact ownK_drew HO8.out), hide (bl_drew HB8.out)⟩
                  case measure => simp [intOf]; omega
                | false =>
                  rw [hT, if_neg Bool.false_ne_true] at HO2
                  clear HSET hT HLS HG3 yf y2 hcat
                  go_wp2_with (at_builtin; refine wpList_append_k rfl (.tmp 107) (.tmp 109) rfl rfl Tryz.underlying88 HIS.out.1 HIS.out.2.1 HIS.out.2.2.1 (by decide) rfl (by have := HIS.out.2.2.2; omega) w2.heap.size out.length (.slice (some ⟨g4, 0, none⟩) out.length c9) (flatG Sp.vals out) [.int .i64 1, .int .i64 (xf : Nat), .int .i64 (xt : Nat), .string xx, .string xs, .int .i64 xi, .bool false] _ rfl (ownK_alloc HOW7.out _) rfl (by intro u hu; simp only [List.mem_cons, List.not_mem_nil, or_false] at hu; rcases hu with rfl | rfl | rfl | rfl | rfl | rfl | rfl <;> rfl) rfl (newN_cells rfl) (by have := hml; omega) (by simp only [World.size_alloc]; have := HB7.out.size; omega) ?_; intro v8 w8 hown8 hgr8 hdj8; obtain ⟨A8, c8, rfl⟩ := ownSp_form hown8; have HO8 := hide hown8; have HB8 := hide ((bl_alloc HB7.out _).grown hgr8 (by simp only [World.size_alloc]; have := HB7.out.size; omega) (fun k hk => (HOW7.out.lt k hk).1) : Below w2.heap.size w2 w8); clear hown8 hgr8 hdj8)
                  rw [flatSp_snoc out (⟨1, xf, xt, xx, xs, xi, false⟩ : Sp), ← HLO.out] at HO8
                  rw [← HLO.out]
                  go_wp2
                  go_roundw
                  case rel => exact ⟨j + 1, A8, c8, hlt, by rw [HC1.out, HCS1.out] <;> first | rfl | go_num, by rw [HM2.out, HO2.out], by go_num, hide (by rw [HM2.out, HO2.out]; exact HO8.out), HB8⟩
                  case measure => simp [intOf]; omega
        · have hz : strEl q c1 ⟨7, xf, xt, xx, xs, xi, xg⟩ = ⟨7, xf, xt, xx, xs, xi, true⟩ := by
            unfold strEl
            rw [if_neg (fun h => hqc h.2), decide_eq_true (show (7 : Int) = 7 ∧ c1 ≤ q from ⟨rfl, by omega⟩)]
            rfl
          have j1 : ¬ (q : Int) < (c0 : Int) + 1 := by omega
          rw [hz] at HJS
          have HCS1 := hide hcs
          clear hz hqc hcs
          go_upto_region 21 with (fail)
          have HZB := hide (show Blk (W5.setCell ⟨gX, 6, none⟩ (.bool true)) gX 90 #[.int .i64 7, .int .i64 (xf : Nat), .int .i64 (xt : Nat), .string xx, .string xs, .int .i64 xi, .bool true] from HX.out.set_ 6 (.bool true))
          have HOW6 := hide (show OwnK 7 90 (W5.setCell ⟨gX, 6, none⟩ (.bool true)) w2.heap.size (.slice A9 out.length c9) out.length (flatG Sp.vals out) from HSF.out _ 6 _ HOW5.out)
          have HB6 := hide (show Below w2.heap.size w2 (W5.setCell ⟨gX, 6, none⟩ (.bool true)) from HB5.out.setCell (p := ⟨gX, 6, none⟩) HGX.out _)
          clear HOW5 HB5 HX HSF x0 x1 x2 x3 x4 x5 x6 xl xff
          generalize W5.setCell ⟨gX, 6, none⟩ (.bool true) = W6 at *
          obtain ⟨x0, x1, x2, x3, x4, x5, x6, -, xl⟩ := HZB.out.seven
          rcases Nat.eq_zero_or_pos out.length with h0 | h0
          · obtain rfl := List.length_eq_zero_iff.1 h0
            have HO2 := hide (HJS.out.trans (rmrg1_nil _))
            clear HJS h0 HTXO
            go_upto_region 22 with (fail)
            go_cut [90] from 66 to 90 (fun s90 wx => s90 = .bool false ∧ ∃ qd, W6.drewN qd = wx)
            case first =>
              go_quiet (fail)
              go_wp2
              go_meet
              exact ⟨rfl, _, rfl⟩
            case rest =>
              obtain ⟨rfl, qd, rfl⟩ := hcut
              have HOW7 := hide (ownK_drewN HOW6.out qd)
              have HB7 := hide (bl_drewN HB6.out qd)
              clear HOW6 HB6
              go_wp2_with (at_builtin; refine wpList_append_k rfl (.tmp 107) (.tmp 109) rfl rfl Tryz.underlying88 HIS.out.1 HIS.out.2.1 HIS.out.2.2.1 (by decide) rfl (by have := HIS.out.2.2.2; omega) w2.heap.size ([] : List Sp).length (.slice A9 ([] : List Sp).length c9) (flatG Sp.vals ([] : List Sp)) [.int .i64 7, .int .i64 (xf : Nat), .int .i64 (xt : Nat), .string xx, .string xs, .int .i64 xi, .bool true] _ rfl (ownK_alloc HOW7.out _) rfl (by intro u hu; simp only [List.mem_cons, List.not_mem_nil, or_false] at hu; rcases hu with rfl | rfl | rfl | rfl | rfl | rfl | rfl <;> rfl) rfl (newN_cells rfl) (by have := hml; omega) (by simp only [World.size_alloc]; have := HB7.out.size; omega) ?_; intro v8 w8 hown8 hgr8 hdj8; obtain ⟨A8, c8, rfl⟩ := ownSp_form hown8; have HO8 := hide hown8; have HB8 := hide ((bl_alloc HB7.out _).grown hgr8 (by simp only [World.size_alloc]; have := HB7.out.size; omega) (fun k hk => (HOW7.out.lt k hk).1) : Below w2.heap.size w2 w8); clear hown8 hgr8 hdj8)
              rw [flatSp_snoc [] (⟨7, xf, xt, xx, xs, xi, true⟩ : Sp)] at HO8
              go_roundw
              case rel => exact ⟨j + 1, A8, c8, hlt, by rw [HC1.out, HCS1.out] <;> first | rfl | go_num, by rw [HM2.out, HO2.out]; rfl, by go_num, hide (by rw [HM2.out, HO2.out]; exact HO8.out), HB8⟩
              case measure => simp [intOf]; omega
          · obtain ⟨m, hm⟩ : ∃ m, out.length = m + 1 := ⟨out.length - 1, by omega⟩
            have HO2 := hide (HJS.out.trans (rmrg1_at _ hm))
            obtain ⟨g4, rfl⟩ : ∃ g4, A9 = some ⟨g4, 0, none⟩ := by
              obtain ⟨-, A', c', hv, -, -, h3⟩ := HOW6.out
              injection hv with e1 _ _
              subst e1
              rcases h3 with ⟨-, e, -⟩ | ⟨g, cur, e, -⟩
              · omega
              · exact ⟨g, e⟩
            have hml9 : m < out.length := by omega
            have hg4 := (HOW6.out.lt g4 rfl).2
            have hne4 : gX ≠ g4 := fun e => HNE.out (by rw [e]; rfl)
            have y0 := HOW6.out.cellK valsSp_len hml9 (show 0 < 7 by decide)
            have y6 := HOW6.out.cellK valsSp_len hml9 (show 6 < 7 by decide)
            have y2 := HOW6.out.cellK valsSp_len hml9 (show 2 < 7 by decide)
            have yf := (HOW6.out.thereK (by decide) valsSp_len (k := m * 7 + 2) (by omega)).2
            have HSET := hide (fun (W : World) (tx : ByteArray) (h : OwnK 7 90 W w2.heap.size (.slice (some ⟨g4, 0, none⟩) out.length c9) out.length (flatG Sp.vals out)) => own_set23 hml9 xt tx h)
            have hty := HTXO.out out[m] (List.getElem_mem hml9)
            have HLS := hide (fun (z9 : Sp) => (show (out.set m z9).length = out.length from List.length_set))
            have HG3 := hide (fun (W : World) (z9 : Sp) (h : OwnK 7 90 W w2.heap.size (.slice (some ⟨g4, 0, none⟩) out.length c9) out.length (flatG Sp.vals (out.set m z9))) => (by
              have h1 := h.cellK (l := out.set m z9) valsSp_len (j := m) (by rw [List.length_set]; exact hml9) (show 3 < 7 by decide)
              rw [List.getElem_set_self] at h1
              exact ⟨h1, (h.thereK (by decide) valsSp_len (k := m * 7 + 3) (by omega)).2⟩ : W.cell? ⟨g4, m * 7 + 3, none⟩ = z9.vals[3]? ∧ W.frozen? ⟨g4, m * 7 + 3, none⟩ = false))
            generalize hy : out[m] = y at *
            dsimp only [Sp.vals] at y0 y2 y6
            simp only [List.getElem?_cons_zero, List.getElem?_cons_succ, Nat.add_zero] at y0 y2 y6
            obtain ⟨bY, hbY⟩ : ∃ bY, (y.kind == 1) = bY := ⟨_, rfl⟩
            obtain ⟨bG, hbG⟩ : ∃ bG, (y.strong == true) = bG := ⟨_, rfl⟩
            have HT : Hid (out2 = if (false && (bY && bG)) = true then out.set m { y with «to» := xt, txt := y.txt ++ xx } else out ++ [(⟨7, xf, xt, xx, xs, xi, true⟩ : Sp)]) := hide (by
              rw [HO2.out]
              have e1 : (false = true) ↔ (7 : Int) = 1 := by decide
              have e2 : bY = true ↔ y.kind = 1 := by rw [← hbY, beq_iff_eq]
              have e3 : bG = true ↔ y.strong = true := by rw [← hbG, beq_iff_eq]
              simp only [Bool.and_eq_true, e1, e2, e3])
            have hjs : j * s.size ≤ 900000 * 900000 := Nat.mul_le_mul (by omega) hs
            have hcat : (y.txt.size : Int) + (xx.size : Int) ≤ 9000000000000 := by omega
            have i2 : (0 : Int) ≤ (m : Int) := by omega
            have i3 : (m : Int) < (out.length : Int) := by omega
            have HLO := hide (show (out ++ [(⟨7, xf, xt, xx, xs, xi, true⟩ : Sp)]).length = out.length + 1 by simp)
            have HN1 := hide hm
            clear HO2 HJS h0 hm hy hty hjs
            go_upto_region 22 with (fail)
            rw [show ((out.length : Nat) : Int) - 1 = (m : Int) by have := HN1.out; omega]
            go_cut [90] from 66 to 90 (fun s90 wx => s90 = .bool (false && (bY && bG)) ∧ ∃ qd, W6.drewN qd = wx)
            case first =>
              cases bY <;> cases bG
              all_goals
                go_quiet (fail)
                go_wp2
                go_meet
                exact ⟨rfl, _, rfl⟩
            case rest =>
              obtain ⟨rfl, qd, rfl⟩ := hcut
              have HOW7 := hide (ownK_drewN HOW6.out qd)
              have HB7 := hide (bl_drewN HB6.out qd)
              have HO2 := HT
              clear HOW6 HB6 HT y0 y6
              cases hT : (false && (bY && bG)) with
              | true =>
                rw [hT, if_pos rfl] at HO2
                go_upto_region 24 with (fail)
                obtain ⟨hs1, hs2⟩ := HSET.out (W6.drewN qd) (y.txt ++ xx) HOW7.out
                have w3 := HG3.out _ _ hs1
                have w3c : ((W6.drewN qd).setCell ⟨g4, m * 7 + 2, none⟩ (.int .i64 (xt : Nat))).cell? ⟨g4, m * 7 + 3, none⟩ = some (.string y.txt) := w3.1
                have w3f := w3.2
                have hxb : ((W6.drewN qd).setCell ⟨g4, m * 7 + 2, none⟩ (.int .i64 (xt : Nat))).cell? ⟨gX, 3, none⟩ = some (.string xx) := ((HZB.out.drewN qd).far (p := ⟨g4, m * 7 + 2, none⟩) hne4 _).cell 3
                have hxl := ((HZB.out.drewN qd).far (p := ⟨g4, m * 7 + 2, none⟩) hne4 (.int .i64 (xt : Nat))).lt
                have HB8 := hide ((HB7.out.setCell (p := ⟨g4, m * 7 + 2, none⟩) (HOW7.out.lt g4 rfl).1 (.int .i64 (xt : Nat))).setCell (p := ⟨g4, m * 7 + 3, none⟩) (HOW7.out.lt g4 rfl).1 (.string (y.txt ++ xx)))
                have HO8 := hide hs2
                have hg7 : g4 < ((W6.drewN qd).setCell ⟨g4, m * 7 + 2, none⟩ (.int .i64 (xt : Nat))).heap.size := (hs1.lt g4 rfl).2
                clear hs1 hs2 w3 HSET hT HLO yf y2 x0 x1 x2 x3 x4 x5 x6 xl hg4 HOW7 HB7 HZB
                generalize (W6.drewN qd).setCell ⟨g4, m * 7 + 2, none⟩ (.int .i64 (xt : Nat)) = W7 at *
                go_region
                go_wp2
                go_roundw
                case rel => exact ⟨j + 1, some ⟨g4, 0, none⟩, c9, hlt, by rw [HC1.out, HCS1.out] <;> first | rfl | go_num, by rw [HM2.out, HO2.out, HLS.out], by go_num, hide (by rw [HM2.out, HO2.out, HLS.out]; exact ownK_drew HO8.out), hide (bl_drew HB8.out)⟩
                case measure => simp [intOf]; omega
              | false =>
                rw [hT, if_neg Bool.false_ne_true] at HO2
                clear HSET hT HLS HG3 yf y2 hcat
                go_wp2_with (at_builtin; refine wpList_append_k rfl (.tmp 107) (.tmp 109) rfl rfl Tryz.underlying88 HIS.out.1 HIS.out.2.1 HIS.out.2.2.1 (by decide) rfl (by have := HIS.out.2.2.2; omega) w2.heap.size out.length (.slice (some ⟨g4, 0, none⟩) out.length c9) (flatG Sp.vals out) [.int .i64 7, .int .i64 (xf : Nat), .int .i64 (xt : Nat), .string xx, .string xs, .int .i64 xi, .bool true] _ rfl (ownK_alloc HOW7.out _) rfl (by intro u hu; simp only [List.mem_cons, List.not_mem_nil, or_false] at hu; rcases hu with rfl | rfl | rfl | rfl | rfl | rfl | rfl <;> rfl) rfl (newN_cells rfl) (by have := hml; omega) (by simp only [World.size_alloc]; have := HB7.out.size; omega) ?_; intro v8 w8 hown8 hgr8 hdj8; obtain ⟨A8, c8, rfl⟩ := ownSp_form hown8; have HO8 := hide hown8; have HB8 := hide ((bl_alloc HB7.out _).grown hgr8 (by simp only [World.size_alloc]; have := HB7.out.size; omega) (fun k hk => (HOW7.out.lt k hk).1) : Below w2.heap.size w2 w8); clear hown8 hgr8 hdj8)
                rw [flatSp_snoc out (⟨7, xf, xt, xx, xs, xi, true⟩ : Sp), ← HLO.out] at HO8
                rw [← HLO.out]
                go_wp2
                go_roundw
                case rel => exact ⟨j + 1, A8, c8, hlt, by rw [HC1.out, HCS1.out] <;> first | rfl | go_num, by rw [HM2.out, HO2.out], by go_num, hide (by rw [HM2.out, HO2.out]; exact HO8.out), HB8⟩
                case measure => simp [intOf]; omega
      · rw [if_neg hk, Nat.add_zero] at hcs
        have b1 : (xk == 7) = false := beq_eq_false_iff_ne.2 hk
        have hzz : ∀ B, (decide (c1 % 2 = 1 ∧ c1 ≤ q)) = B → strEl q c1 ⟨xk, xf, xt, xx, xs, xi, xg⟩ = ⟨xk, xf, xt, xx, xs, xi, B⟩ := fun B hB => by
          unfold strEl
          rw [if_neg (fun h => hk h.1), decide_eq_false (fun h => hk h.1), hB]
          rfl
        by_cases hodd : c1 % 2 = 1
        · have m1 : ((c0 : Int) % 2 == 1) = true := beq_iff_eq.2 (by omega)
          have m2 : (Int.tmod (c0 : Int) 2 == 1) = true := beq_iff_eq.2 (by rw [Int.tmod_eq_emod_of_nonneg (by omega)]; omega)
          by_cases hle9 : c1 ≤ q
          · have j1 : (c0 : Int) ≤ (q : Int) := by omega
            rw [hzz true (decide_eq_true ⟨hodd, hle9⟩)] at HJS
            have HCS1 := hide hcs
            clear hzz hodd hle9 hcs hk
            go_upto_region 21 with (fail)
            have HZB := hide (show Blk (W5.setCell ⟨gX, 6, none⟩ (.bool true)) gX 90 #[.int .i64 xk, .int .i64 (xf : Nat), .int .i64 (xt : Nat), .string xx, .string xs, .int .i64 xi, .bool true] from HX.out.set_ 6 (.bool true))
            have HOW6 := hide (show OwnK 7 90 (W5.setCell ⟨gX, 6, none⟩ (.bool true)) w2.heap.size (.slice A9 out.length c9) out.length (flatG Sp.vals out) from HSF.out _ 6 _ HOW5.out)
            have HB6 := hide (show Below w2.heap.size w2 (W5.setCell ⟨gX, 6, none⟩ (.bool true)) from HB5.out.setCell (p := ⟨gX, 6, none⟩) HGX.out _)
            clear HOW5 HB5 HX HSF x0 x1 x2 x3 x4 x5 x6 xl xff
            generalize W5.setCell ⟨gX, 6, none⟩ (.bool true) = W6 at *
            obtain ⟨x0, x1, x2, x3, x4, x5, x6, -, xl⟩ := HZB.out.seven
            obtain ⟨bX, hbX⟩ : ∃ bX, (xk == 1) = bX := ⟨_, rfl⟩
            rcases Nat.eq_zero_or_pos out.length with h0 | h0
            · obtain rfl := List.length_eq_zero_iff.1 h0
              have HO2 := hide (HJS.out.trans (rmrg1_nil _))
              clear HJS h0 HTXO
              go_upto_region 22 with (fail)
              go_cut [90] from 66 to 90 (fun s90 wx => s90 = .bool false ∧ ∃ qd, W6.drewN qd = wx)
              case first =>
                go_quiet (fail)
                go_wp2
                go_meet
                exact ⟨rfl, _, rfl⟩
              case rest =>
                obtain ⟨rfl, qd, rfl⟩ := hcut
                have HOW7 := hide (ownK_drewN HOW6.out qd)
                have HB7 := hide (bl_drewN HB6.out qd)
                clear HOW6 HB6
                go_wp2_with (at_builtin; refine wpList_append_k rfl (.tmp 107) (.tmp 109) rfl rfl Tryz.underlying88 HIS.out.1 HIS.out.2.1 HIS.out.2.2.1 (by decide) rfl (by have := HIS.out.2.2.2; omega) w2.heap.size ([] : List Sp).length (.slice A9 ([] : List Sp).length c9) (flatG Sp.vals ([] : List Sp)) [.int .i64 xk, .int .i64 (xf : Nat), .int .i64 (xt : Nat), .string xx, .string xs, .int .i64 xi, .bool true] _ rfl (ownK_alloc HOW7.out _) rfl (by intro u hu; simp only [List.mem_cons, List.not_mem_nil, or_false] at hu; rcases hu with rfl | rfl | rfl | rfl | rfl | rfl | rfl <;> rfl) rfl (newN_cells rfl) (by have := hml; omega) (by simp only [World.size_alloc]; have := HB7.out.size; omega) ?_; intro v8 w8 hown8 hgr8 hdj8; obtain ⟨A8, c8, rfl⟩ := ownSp_form hown8; have HO8 := hide hown8; have HB8 := hide ((bl_alloc HB7.out _).grown hgr8 (by simp only [World.size_alloc]; have := HB7.out.size; omega) (fun k hk => (HOW7.out.lt k hk).1) : Below w2.heap.size w2 w8); clear hown8 hgr8 hdj8)
                rw [flatSp_snoc [] (⟨xk, xf, xt, xx, xs, xi, true⟩ : Sp)] at HO8
                go_roundw
                case rel => exact ⟨j + 1, A8, c8, hlt, by rw [HC1.out, HCS1.out] <;> first | rfl | go_num, by rw [HM2.out, HO2.out]; rfl, by go_num, hide (by rw [HM2.out, HO2.out]; exact HO8.out), HB8⟩
                case measure => simp [intOf]; omega
            · obtain ⟨m, hm⟩ : ∃ m, out.length = m + 1 := ⟨out.length - 1, by omega⟩
              have HO2 := hide (HJS.out.trans (rmrg1_at _ hm))
              obtain ⟨g4, rfl⟩ : ∃ g4, A9 = some ⟨g4, 0, none⟩ := by
                obtain ⟨-, A', c', hv, -, -, h3⟩ := HOW6.out
                injection hv with e1 _ _
                subst e1
                rcases h3 with ⟨-, e, -⟩ | ⟨g, cur, e, -⟩
                · omega
                · exact ⟨g, e⟩
              have hml9 : m < out.length := by omega
              have hg4 := (HOW6.out.lt g4 rfl).2
              have hne4 : gX ≠ g4 := fun e => HNE.out (by rw [e]; rfl)
              have y0 := HOW6.out.cellK valsSp_len hml9 (show 0 < 7 by decide)
              have y6 := HOW6.out.cellK valsSp_len hml9 (show 6 < 7 by decide)
              have y2 := HOW6.out.cellK valsSp_len hml9 (show 2 < 7 by decide)
              have yf := (HOW6.out.thereK (by decide) valsSp_len (k := m * 7 + 2) (by omega)).2
              have HSET := hide (fun (W : World) (tx : ByteArray) (h : OwnK 7 90 W w2.heap.size (.slice (some ⟨g4, 0, none⟩) out.length c9) out.length (flatG Sp.vals out)) => own_set23 hml9 xt tx h)
              have hty := HTXO.out out[m] (List.getElem_mem hml9)
              have HLS := hide (fun (z9 : Sp) => (show (out.set m z9).length = out.length from List.length_set))
              have HG3 := hide (fun (W : World) (z9 : Sp) (h : OwnK 7 90 W w2.heap.size (.slice (some ⟨g4, 0, none⟩) out.length c9) out.length (flatG Sp.vals (out.set m z9))) => (by
                have h1 := h.cellK (l := out.set m z9) valsSp_len (j := m) (by rw [List.length_set]; exact hml9) (show 3 < 7 by decide)
                rw [List.getElem_set_self] at h1
                exact ⟨h1, (h.thereK (by decide) valsSp_len (k := m * 7 + 3) (by omega)).2⟩ : W.cell? ⟨g4, m * 7 + 3, none⟩ = z9.vals[3]? ∧ W.frozen? ⟨g4, m * 7 + 3, none⟩ = false))
              generalize hy : out[m] = y at *
              dsimp only [Sp.vals] at y0 y2 y6
              simp only [List.getElem?_cons_zero, List.getElem?_cons_succ, Nat.add_zero] at y0 y2 y6
              obtain ⟨bY, hbY⟩ : ∃ bY, (y.kind == 1) = bY := ⟨_, rfl⟩
              obtain ⟨bG, hbG⟩ : ∃ bG, (y.strong == true) = bG := ⟨_, rfl⟩
              have HT : Hid (out2 = if (bX && (bY && bG)) = true then out.set m { y with «to» := xt, txt := y.txt ++ xx } else out ++ [(⟨xk, xf, xt, xx, xs, xi, true⟩ : Sp)]) := hide (by
                rw [HO2.out]
                have e1 : bX = true ↔ xk = 1 := by rw [← hbX, beq_iff_eq]
                have e2 : bY = true ↔ y.kind = 1 := by rw [← hbY, beq_iff_eq]
                have e3 : bG = true ↔ y.strong = true := by rw [← hbG, beq_iff_eq]
                simp only [Bool.and_eq_true, e1, e2, e3])
              have hjs : j * s.size ≤ 900000 * 900000 := Nat.mul_le_mul (by omega) hs
              have hcat : (y.txt.size : Int) + (xx.size : Int) ≤ 9000000000000 := by omega
              have i2 : (0 : Int) ≤ (m : Int) := by omega
              have i3 : (m : Int) < (out.length : Int) := by omega
              have HLO := hide (show (out ++ [(⟨xk, xf, xt, xx, xs, xi, true⟩ : Sp)]).length = out.length + 1 by simp)
              have HN1 := hide hm
              clear HO2 HJS h0 hm hy hty hjs
              go_upto_region 22 with (fail)
              rw [show ((out.length : Nat) : Int) - 1 = (m : Int) by have := HN1.out; omega]
              go_cut [90] from 66 to 90 (fun s90 wx => s90 = .bool (bX && (bY && bG)) ∧ ∃ qd, W6.drewN qd = wx)
              case first =>
                cases bX <;> cases bY <;> cases bG
                all_goals
                  go_quiet (fail)
                  go_wp2
                  go_meet
                  exact ⟨rfl, _, rfl⟩
              case rest =>
                obtain ⟨rfl, qd, rfl⟩ := hcut
                have HOW7 := hide (ownK_drewN HOW6.out qd)
                have HB7 := hide (bl_drewN HB6.out qd)
                have HO2 := HT
                clear HOW6 HB6 HT y0 y6
                cases hT : (bX && (bY && bG)) with
                | true =>
                  rw [hT, if_pos rfl] at HO2
                  go_upto_region 24 with (fail)
                  obtain ⟨hs1, hs2⟩ := HSET.out (W6.drewN qd) (y.txt ++ xx) HOW7.out
                  have w3 := HG3.out _ _ hs1
                  have w3c : ((W6.drewN qd).setCell ⟨g4, m * 7 + 2, none⟩ (.int .i64 (xt : Nat))).cell? ⟨g4, m * 7 + 3, none⟩ = some (.string y.txt) := w3.1
                  have w3f := w3.2
                  have hxb : ((W6.drewN qd).setCell ⟨g4, m * 7 + 2, none⟩ (.int .i64 (xt : Nat))).cell? ⟨gX, 3, none⟩ = some (.string xx) := ((HZB.out.drewN qd).far (p := ⟨g4, m * 7 + 2, none⟩) hne4 _).cell 3
                  have hxl := ((HZB.out.drewN qd).far (p := ⟨g4, m * 7 + 2, none⟩) hne4 (.int .i64 (xt : Nat))).lt
                  have HB8 := hide ((HB7.out.setCell (p := ⟨g4, m * 7 + 2, none⟩) (HOW7.out.lt g4 rfl).1 (.int .i64 (xt : Nat))).setCell (p := ⟨g4, m * 7 + 3, none⟩) (HOW7.out.lt g4 rfl).1 (.string (y.txt ++ xx)))
                  have HO8 := hide hs2
                  have hg7 : g4 < ((W6.drewN qd).setCell ⟨g4, m * 7 + 2, none⟩ (.int .i64 (xt : Nat))).heap.size := (hs1.lt g4 rfl).2
                  clear hs1 hs2 w3 HSET hT HLO yf y2 x0 x1 x2 x3 x4 x5 x6 xl hg4 HOW7 HB7 HZB
                  generalize (W6.drewN qd).setCell ⟨g4, m * 7 + 2, none⟩ (.int .i64 (xt : Nat)) = W7 at *
                  go_region
                  go_wp2
                  go_roundw
                  case rel => exact ⟨j + 1, some ⟨g4, 0, none⟩, c9, hlt, by rw [HC1.out, HCS1.out] <;> first | rfl | go_num, by rw [HM2.out, HO2.out, HLS.out], by go_num, hide (by rw [HM2.out, HO2.out, HLS.out]; exact ownK_drew HO8.out), hide (bl_drew HB8.out)⟩
                  case measure => simp [intOf]; omega
                | false =>
                  rw [hT, if_neg Bool.false_ne_true] at HO2
                  clear HSET hT HLS HG3 yf y2 hcat
                  go_wp2_with (at_builtin; refine wpList_append_k rfl (.tmp 107) (.tmp 109) rfl rfl Tryz.underlying88 HIS.out.1 HIS.out.2.1 HIS.out.2.2.1 (by decide) rfl (by have := HIS.out.2.2.2; omega) w2.heap.size out.length (.slice (some ⟨g4, 0, none⟩) out.length c9) (flatG Sp.vals out) [.int .i64 xk, .int .i64 (xf : Nat), .int .i64 (xt : Nat), .string xx, .string xs, .int .i64 xi, .bool true] _ rfl (ownK_alloc HOW7.out _) rfl (by intro u hu; simp only [List.mem_cons, List.not_mem_nil, or_false] at hu; rcases hu with rfl | rfl | rfl | rfl | rfl | rfl | rfl <;> rfl) rfl (newN_cells rfl) (by have := hml; omega) (by simp only [World.size_alloc]; have := HB7.out.size; omega) ?_; intro v8 w8 hown8 hgr8 hdj8; obtain ⟨A8, c8, rfl⟩ := ownSp_form hown8; have HO8 := hide hown8; have HB8 := hide ((bl_alloc HB7.out _).grown hgr8 (by simp only [World.size_alloc]; have := HB7.out.size; omega) (fun k hk => (HOW7.out.lt k hk).1) : Below w2.heap.size w2 w8); clear hown8 hgr8 hdj8)
                  rw [flatSp_snoc out (⟨xk, xf, xt, xx, xs, xi, true⟩ : Sp), ← HLO.out] at HO8
                  rw [← HLO.out]
                  go_wp2
                  go_roundw
                  case rel => exact ⟨j + 1, A8, c8, hlt, by rw [HC1.out, HCS1.out] <;> first | rfl | go_num, by rw [HM2.out, HO2.out], by go_num, hide (by rw [HM2.out, HO2.out]; exact HO8.out), HB8⟩
                  case measure => simp [intOf]; omega
          · have j1 : ¬ (c0 : Int) ≤ (q : Int) := by omega
            rw [hzz false (decide_eq_false (fun h => hle9 h.2))] at HJS
            have HCS1 := hide hcs
            clear hzz hodd hle9 hcs hk
            go_upto_region 21 with (fail)
            have HZB := hide (show Blk (W5.setCell ⟨gX, 6, none⟩ (.bool false)) gX 90 #[.int .i64 xk, .int .i64 (xf : Nat), .int .i64 (xt : Nat), .string xx, .string xs, .int .i64 xi, .bool false] from HX.out.set_ 6 (.bool false))
            have HOW6 := hide (show OwnK 7 90 (W5.setCell ⟨gX, 6, none⟩ (.bool false)) w2.heap.size (.slice A9 out.length c9) out.length (flatG Sp.vals out) from HSF.out _ 6 _ HOW5.out)
            have HB6 := hide (show Below w2.heap.size w2 (W5.setCell ⟨gX, 6, none⟩ (.bool false)) from HB5.out.setCell (p := ⟨gX, 6, none⟩) HGX.out _)
            clear HOW5 HB5 HX HSF x0 x1 x2 x3 x4 x5 x6 xl xff
            generalize W5.setCell ⟨gX, 6, none⟩ (.bool false) = W6 at *
            obtain ⟨x0, x1, x2, x3, x4, x5, x6, -, xl⟩ := HZB.out.seven
            obtain ⟨bX, hbX⟩ : ∃ bX, (xk == 1) = bX := ⟨_, rfl⟩
            rcases Nat.eq_zero_or_pos out.length with h0 | h0
            · obtain rfl := List.length_eq_zero_iff.1 h0
              have HO2 := hide (HJS.out.trans (rmrg1_nil _))
              clear HJS h0 HTXO
              go_upto_region 22 with (fail)
              go_cut [90] from 66 to 90 (fun s90 wx => s90 = .bool false ∧ ∃ qd, W6.drewN qd = wx)
              case first =>
                go_quiet (fail)
                go_wp2
                go_meet
                exact ⟨rfl, _, rfl⟩
              case rest =>
                obtain ⟨rfl, qd, rfl⟩ := hcut
                have HOW7 := hide (ownK_drewN HOW6.out qd)
                have HB7 := hide (bl_drewN HB6.out qd)
                clear HOW6 HB6
                go_wp2_with (at_builtin; refine wpList_append_k rfl (.tmp 107) (.tmp 109) rfl rfl Tryz.underlying88 HIS.out.1 HIS.out.2.1 HIS.out.2.2.1 (by decide) rfl (by have := HIS.out.2.2.2; omega) w2.heap.size ([] : List Sp).length (.slice A9 ([] : List Sp).length c9) (flatG Sp.vals ([] : List Sp)) [.int .i64 xk, .int .i64 (xf : Nat), .int .i64 (xt : Nat), .string xx, .string xs, .int .i64 xi, .bool false] _ rfl (ownK_alloc HOW7.out _) rfl (by intro u hu; simp only [List.mem_cons, List.not_mem_nil, or_false] at hu; rcases hu with rfl | rfl | rfl | rfl | rfl | rfl | rfl <;> rfl) rfl (newN_cells rfl) (by have := hml; omega) (by simp only [World.size_alloc]; have := HB7.out.size; omega) ?_; intro v8 w8 hown8 hgr8 hdj8; obtain ⟨A8, c8, rfl⟩ := ownSp_form hown8; have HO8 := hide hown8; have HB8 := hide ((bl_alloc HB7.out _).grown hgr8 (by simp only [World.size_alloc]; have := HB7.out.size; omega) (fun k hk => (HOW7.out.lt k hk).1) : Below w2.heap.size w2 w8); clear hown8 hgr8 hdj8)
                rw [flatSp_snoc [] (⟨xk, xf, xt, xx, xs, xi, false⟩ : Sp)] at HO8
                go_roundw
                case rel => exact ⟨j + 1, A8, c8, hlt, by rw [HC1.out, HCS1.out] <;> first | rfl | go_num, by rw [HM2.out, HO2.out]; rfl, by go_num, hide (by rw [HM2.out, HO2.out]; exact HO8.out), HB8⟩
                case measure => simp [intOf]; omega
            · obtain ⟨m, hm⟩ : ∃ m, out.length = m + 1 := ⟨out.length - 1, by omega⟩
              have HO2 := hide (HJS.out.trans (rmrg1_at _ hm))
              obtain ⟨g4, rfl⟩ : ∃ g4, A9 = some ⟨g4, 0, none⟩ := by
                obtain ⟨-, A', c', hv, -, -, h3⟩ := HOW6.out
                injection hv with e1 _ _
                subst e1
                rcases h3 with ⟨-, e, -⟩ | ⟨g, cur, e, -⟩
                · omega
                · exact ⟨g, e⟩
              have hml9 : m < out.length := by omega
              have hg4 := (HOW6.out.lt g4 rfl).2
              have hne4 : gX ≠ g4 := fun e => HNE.out (by rw [e]; rfl)
              have y0 := HOW6.out.cellK valsSp_len hml9 (show 0 < 7 by decide)
              have y6 := HOW6.out.cellK valsSp_len hml9 (show 6 < 7 by decide)
              have y2 := HOW6.out.cellK valsSp_len hml9 (show 2 < 7 by decide)
              have yf := (HOW6.out.thereK (by decide) valsSp_len (k := m * 7 + 2) (by omega)).2
              have HSET := hide (fun (W : World) (tx : ByteArray) (h : OwnK 7 90 W w2.heap.size (.slice (some ⟨g4, 0, none⟩) out.length c9) out.length (flatG Sp.vals out)) => own_set23 hml9 xt tx h)
              have hty := HTXO.out out[m] (List.getElem_mem hml9)
              have HLS := hide (fun (z9 : Sp) => (show (out.set m z9).length = out.length from List.length_set))
              have HG3 := hide (fun (W : World) (z9 : Sp) (h : OwnK 7 90 W w2.heap.size (.slice (some ⟨g4, 0, none⟩) out.length c9) out.length (flatG Sp.vals (out.set m z9))) => (by
                have h1 := h.cellK (l := out.set m z9) valsSp_len (j := m) (by rw [List.length_set]; exact hml9) (show 3 < 7 by decide)
                rw [List.getElem_set_self] at h1
                exact ⟨h1, (h.thereK (by decide) valsSp_len (k := m * 7 + 3) (by omega)).2⟩ : W.cell? ⟨g4, m * 7 + 3, none⟩ = z9.vals[3]? ∧ W.frozen? ⟨g4, m * 7 + 3, none⟩ = false))
              generalize hy : out[m] = y at *
              dsimp only [Sp.vals] at y0 y2 y6
              simp only [List.getElem?_cons_zero, List.getElem?_cons_succ, Nat.add_zero] at y0 y2 y6
              obtain ⟨bY, hbY⟩ : ∃ bY, (y.kind == 1) = bY := ⟨_, rfl⟩
              obtain ⟨bG, hbG⟩ : ∃ bG, (y.strong == false) = bG := ⟨_, rfl⟩
              have HT : Hid (out2 = if (bX && (bY && bG)) = true then out.set m { y with «to» := xt, txt := y.txt ++ xx } else out ++ [(⟨xk, xf, xt, xx, xs, xi, false⟩ : Sp)]) := hide (by
                rw [HO2.out]
                have e1 : bX = true ↔ xk = 1 := by rw [← hbX, beq_iff_eq]
                have e2 : bY = true ↔ y.kind = 1 := by rw [← hbY, beq_iff_eq]
                have e3 : bG = true ↔ y.strong = false := by rw [← hbG, beq_iff_eq]
                simp only [Bool.and_eq_true, e1, e2, e3])
              have hjs : j * s.size ≤ 900000 * 900000 := Nat.mul_le_mul (by omega) hs
              have hcat : (y.txt.size : Int) + (xx.size : Int) ≤ 9000000000000 := by omega
              have i2 : (0 : Int) ≤ (m : Int) := by omega
              have i3 : (m : Int) < (out.length : Int) := by omega
              have HLO := hide (show (out ++ [(⟨xk, xf, xt, xx, xs, xi, false⟩ : Sp)]).length = out.length + 1 by simp)
              have HN1 := hide hm
              clear HO2 HJS h0 hm hy hty hjs
              go_upto_region 22 with (fail)
              rw [show ((out.length : Nat) : Int) - 1 = (m : Int) by have := HN1.out; omega]
              go_cut [90] from 66 to 90 (fun s90 wx => s90 = .bool (bX && (bY && bG)) ∧ ∃ qd, W6.drewN qd = wx)
              case first =>
                cases bX <;> cases bY <;> cases bG
                all_goals
                  go_quiet (fail)
                  go_wp2
                  go_meet
                  exact ⟨rfl, _, rfl⟩
              case rest =>
                obtain ⟨rfl, qd, rfl⟩ := hcut
                have HOW7 := hide (ownK_drewN HOW6.out qd)
                have HB7 := hide (bl_drewN HB6.out qd)
                have HO2 := HT
                clear HOW6 HB6 HT y0 y6
                cases hT : (bX && (bY && bG)) with
                | true =>
                  rw [hT, if_pos rfl] at HO2
                  go_upto_region 24 with (fail)
                  obtain ⟨hs1, hs2⟩ := HSET.out (W6.drewN qd) (y.txt ++ xx) HOW7.out
                  have w3 := HG3.out _ _ hs1
                  have w3c : ((W6.drewN qd).setCell ⟨g4, m * 7 + 2, none⟩ (.int .i64 (xt : Nat))).cell? ⟨g4, m * 7 + 3, none⟩ = some (.string y.txt) := w3.1
                  have w3f := w3.2
                  have hxb : ((W6.drewN qd).setCell ⟨g4, m * 7 + 2, none⟩ (.int .i64 (xt : Nat))).cell? ⟨gX, 3, none⟩ = some (.string xx) := ((HZB.out.drewN qd).far (p := ⟨g4, m * 7 + 2, none⟩) hne4 _).cell 3
                  have hxl := ((HZB.out.drewN qd).far (p := ⟨g4, m * 7 + 2, none⟩) hne4 (.int .i64 (xt : Nat))).lt
                  have HB8 := hide ((HB7.out.setCell (p := ⟨g4, m * 7 + 2, none⟩) (HOW7.out.lt g4 rfl).1 (.int .i64 (xt : Nat))).setCell (p := ⟨g4, m * 7 + 3, none⟩) (HOW7.out.lt g4 rfl).1 (.string (y.txt ++ xx)))
                  have HO8 := hide hs2
                  have hg7 : g4 < ((W6.drewN qd).setCell ⟨g4, m * 7 + 2, none⟩ (.int .i64 (xt : Nat))).heap.size := (hs1.lt g4 rfl).2
                  clear hs1 hs2 w3 HSET hT HLO yf y2 x0 x1 x2 x3 x4 x5 x6 xl hg4 HOW7 HB7 HZB
                  generalize (W6.drewN qd).setCell ⟨g4, m * 7 + 2, none⟩ (.int .i64 (xt : Nat)) = W7 at *
                  go_region
                  go_wp2
                  go_roundw
                  case rel => exact ⟨j + 1, some ⟨g4, 0, none⟩, c9, hlt, by rw [HC1.out, HCS1.out] <;> first | rfl | go_num, by rw [HM2.out, HO2.out, HLS.out], by go_num, hide (by rw [HM2.out, HO2.out, HLS.out]; exact ownK_drew HO8.out), hide (bl_drew HB8.out)⟩
                  case measure => simp [intOf]; omega
                | false =>
                  rw [hT, if_neg Bool.false_ne_true] at HO2
                  clear HSET hT HLS HG3 yf y2 hcat
                  go_wp2_with (at_builtin; refine wpList_append_k rfl (.tmp 107) (.tmp 109) rfl rfl Tryz.underlying88 HIS.out.1 HIS.out.2.1 HIS.out.2.2.1 (by decide) rfl (by have := HIS.out.2.2.2; omega) w2.heap.size out.length (.slice (some ⟨g4, 0, none⟩) out.length c9) (flatG Sp.vals out) [.int .i64 xk, .int .i64 (xf : Nat), .int .i64 (xt : Nat), .string xx, .string xs, .int .i64 xi, .bool false] _ rfl (ownK_alloc HOW7.out _) rfl (by intro u hu; simp only [List.mem_cons, List.not_mem_nil, or_false] at hu; rcases hu with rfl | rfl | rfl | rfl | rfl | rfl | rfl <;> rfl) rfl (newN_cells rfl) (by have := hml; omega) (by simp only [World.size_alloc]; have := HB7.out.size; omega) ?_; intro v8 w8 hown8 hgr8 hdj8; obtain ⟨A8, c8, rfl⟩ := ownSp_form hown8; have HO8 := hide hown8; have HB8 := hide ((bl_alloc HB7.out _).grown hgr8 (by simp only [World.size_alloc]; have := HB7.out.size; omega) (fun k hk => (HOW7.out.lt k hk).1) : Below w2.heap.size w2 w8); clear hown8 hgr8 hdj8)
                  rw [flatSp_snoc out (⟨xk, xf, xt, xx, xs, xi, false⟩ : Sp), ← HLO.out] at HO8
                  rw [← HLO.out]
                  go_wp2
                  go_roundw
                  case rel => exact ⟨j + 1, A8, c8, hlt, by rw [HC1.out, HCS1.out] <;> first | rfl | go_num, by rw [HM2.out, HO2.out], by go_num, hide (by rw [HM2.out, HO2.out]; exact HO8.out), HB8⟩
                  case measure => simp [intOf]; omega
        · have m1 : ((c0 : Int) % 2 == 1) = false := beq_eq_false_iff_ne.2 (by omega)
          have m2 : (Int.tmod (c0 : Int) 2 == 1) = false := beq_eq_false_iff_ne.2 (by rw [Int.tmod_eq_emod_of_nonneg (by omega)]; omega)
          rw [hzz false (decide_eq_false (fun h => hodd h.1))] at HJS
          have HCS1 := hide hcs
          clear hzz hodd hcs hk
          go_upto_region 21 with (fail)
          have HZB := hide (show Blk (W5.setCell ⟨gX, 6, none⟩ (.bool false)) gX 90 #[.int .i64 xk, .int .i64 (xf : Nat), .int .i64 (xt : Nat), .string xx, .string xs, .int .i64 xi, .bool false] from HX.out.set_ 6 (.bool false))
          have HOW6 := hide (show OwnK 7 90 (W5.setCell ⟨gX, 6, none⟩ (.bool false)) w2.heap.size (.slice A9 out.length c9) out.length (flatG Sp.vals out) from HSF.out _ 6 _ HOW5.out)
          have HB6 := hide (show Below w2.heap.size w2 (W5.setCell ⟨gX, 6, none⟩ (.bool false)) from HB5.out.setCell (p := ⟨gX, 6, none⟩) HGX.out _)
          clear HOW5 HB5 HX HSF x0 x1 x2 x3 x4 x5 x6 xl xff
          generalize W5.setCell ⟨gX, 6, none⟩ (.bool false) = W6 at *
          obtain ⟨x0, x1, x2, x3, x4, x5, x6, -, xl⟩ := HZB.out.seven
          obtain ⟨bX, hbX⟩ : ∃ bX, (xk == 1) = bX := ⟨_, rfl⟩
          rcases Nat.eq_zero_or_pos out.length with h0 | h0
          · obtain rfl := List.length_eq_zero_iff.1 h0
            have HO2 := hide (HJS.out.trans (rmrg1_nil _))
            clear HJS h0 HTXO
            go_upto_region 22 with (fail)
            go_cut [90] from 66 to 90 (fun s90 wx => s90 = .bool false ∧ ∃ qd, W6.drewN qd = wx)
            case first =>
              go_quiet (fail)
              go_wp2
              go_meet
              exact ⟨rfl, _, rfl⟩
            case rest =>
              obtain ⟨rfl, qd, rfl⟩ := hcut
              have HOW7 := hide (ownK_drewN HOW6.out qd)
              have HB7 := hide (bl_drewN HB6.out qd)
              clear HOW6 HB6
              go_wp2_with (at_builtin; refine wpList_append_k rfl (.tmp 107) (.tmp 109) rfl rfl Tryz.underlying88 HIS.out.1 HIS.out.2.1 HIS.out.2.2.1 (by decide) rfl (by have := HIS.out.2.2.2; omega) w2.heap.size ([] : List Sp).length (.slice A9 ([] : List Sp).length c9) (flatG Sp.vals ([] : List Sp)) [.int .i64 xk, .int .i64 (xf : Nat), .int .i64 (xt : Nat), .string xx, .string xs, .int .i64 xi, .bool false] _ rfl (ownK_alloc HOW7.out _) rfl (by intro u hu; simp only [List.mem_cons, List.not_mem_nil, or_false] at hu; rcases hu with rfl | rfl | rfl | rfl | rfl | rfl | rfl <;> rfl) rfl (newN_cells rfl) (by have := hml; omega) (by simp only [World.size_alloc]; have := HB7.out.size; omega) ?_; intro v8 w8 hown8 hgr8 hdj8; obtain ⟨A8, c8, rfl⟩ := ownSp_form hown8; have HO8 := hide hown8; have HB8 := hide ((bl_alloc HB7.out _).grown hgr8 (by simp only [World.size_alloc]; have := HB7.out.size; omega) (fun k hk => (HOW7.out.lt k hk).1) : Below w2.heap.size w2 w8); clear hown8 hgr8 hdj8)
              rw [flatSp_snoc [] (⟨xk, xf, xt, xx, xs, xi, false⟩ : Sp)] at HO8
              go_roundw
              case rel => exact ⟨j + 1, A8, c8, hlt, by rw [HC1.out, HCS1.out] <;> first | rfl | go_num, by rw [HM2.out, HO2.out]; rfl, by go_num, hide (by rw [HM2.out, HO2.out]; exact HO8.out), HB8⟩
              case measure => simp [intOf]; omega
          · obtain ⟨m, hm⟩ : ∃ m, out.length = m + 1 := ⟨out.length - 1, by omega⟩
            have HO2 := hide (HJS.out.trans (rmrg1_at _ hm))
            obtain ⟨g4, rfl⟩ : ∃ g4, A9 = some ⟨g4, 0, none⟩ := by
              obtain ⟨-, A', c', hv, -, -, h3⟩ := HOW6.out
              injection hv with e1 _ _
              subst e1
              rcases h3 with ⟨-, e, -⟩ | ⟨g, cur, e, -⟩
              · omega
              · exact ⟨g, e⟩
            have hml9 : m < out.length := by omega
            have hg4 := (HOW6.out.lt g4 rfl).2
            have hne4 : gX ≠ g4 := fun e => HNE.out (by rw [e]; rfl)
            have y0 := HOW6.out.cellK valsSp_len hml9 (show 0 < 7 by decide)
            have y6 := HOW6.out.cellK valsSp_len hml9 (show 6 < 7 by decide)
            have y2 := HOW6.out.cellK valsSp_len hml9 (show 2 < 7 by decide)
            have yf := (HOW6.out.thereK (by decide) valsSp_len (k := m * 7 + 2) (by omega)).2
            have HSET := hide (fun (W : World) (tx : ByteArray) (h : OwnK 7 90 W w2.heap.size (.slice (some ⟨g4, 0, none⟩) out.length c9) out.length (flatG Sp.vals out)) => own_set23 hml9 xt tx h)
            have hty := HTXO.out out[m] (List.getElem_mem hml9)
            have HLS := hide (fun (z9 : Sp) => (show (out.set m z9).length = out.length from List.length_set))
            have HG3 := hide (fun (W : World) (z9 : Sp) (h : OwnK 7 90 W w2.heap.size (.slice (some ⟨g4, 0, none⟩) out.length c9) out.length (flatG Sp.vals (out.set m z9))) => (by
              have h1 := h.cellK (l := out.set m z9) valsSp_len (j := m) (by rw [List.length_set]; exact hml9) (show 3 < 7 by decide)
              rw [List.getElem_set_self] at h1
              exact ⟨h1, (h.thereK (by decide) valsSp_len (k := m * 7 + 3) (by omega)).2⟩ : W.cell? ⟨g4, m * 7 + 3, none⟩ = z9.vals[3]? ∧ W.frozen? ⟨g4, m * 7 + 3, none⟩ = false))
            generalize hy : out[m] = y at *
            dsimp only [Sp.vals] at y0 y2 y6
            simp only [List.getElem?_cons_zero, List.getElem?_cons_succ, Nat.add_zero] at y0 y2 y6
            obtain ⟨bY, hbY⟩ : ∃ bY, (y.kind == 1) = bY := ⟨_, rfl⟩
            obtain ⟨bG, hbG⟩ : ∃ bG, (y.strong == false) = bG := ⟨_, rfl⟩
            have HT : Hid (out2 = if (bX && (bY && bG)) = true then out.set m { y with «to» := xt, txt := y.txt ++ xx } else out ++ [(⟨xk, xf, xt, xx, xs, xi, false⟩ : Sp)]) := hide (by
              rw [HO2.out]
              have e1 : bX = true ↔ xk = 1 := by rw [← hbX, beq_iff_eq]
              have e2 : bY = true ↔ y.kind = 1 := by rw [← hbY, beq_iff_eq]
              have e3 : bG = true ↔ y.strong = false := by rw [← hbG, beq_iff_eq]
              simp only [Bool.and_eq_true, e1, e2, e3])
            have hjs : j * s.size ≤ 900000 * 900000 := Nat.mul_le_mul (by omega) hs
            have hcat : (y.txt.size : Int) + (xx.size : Int) ≤ 9000000000000 := by omega
            have i2 : (0 : Int) ≤ (m : Int) := by omega
            have i3 : (m : Int) < (out.length : Int) := by omega
            have HLO := hide (show (out ++ [(⟨xk, xf, xt, xx, xs, xi, false⟩ : Sp)]).length = out.length + 1 by simp)
            have HN1 := hide hm
            clear HO2 HJS h0 hm hy hty hjs
            go_upto_region 22 with (fail)
            rw [show ((out.length : Nat) : Int) - 1 = (m : Int) by have := HN1.out; omega]
            go_cut [90] from 66 to 90 (fun s90 wx => s90 = .bool (bX && (bY && bG)) ∧ ∃ qd, W6.drewN qd = wx)
            case first =>
              cases bX <;> cases bY <;> cases bG
              all_goals
                go_quiet (fail)
                go_wp2
                go_meet
                exact ⟨rfl, _, rfl⟩
            case rest =>
              obtain ⟨rfl, qd, rfl⟩ := hcut
              have HOW7 := hide (ownK_drewN HOW6.out qd)
              have HB7 := hide (bl_drewN HB6.out qd)
              have HO2 := HT
              clear HOW6 HB6 HT y0 y6
              cases hT : (bX && (bY && bG)) with
              | true =>
                rw [hT, if_pos rfl] at HO2
                go_upto_region 24 with (fail)
                obtain ⟨hs1, hs2⟩ := HSET.out (W6.drewN qd) (y.txt ++ xx) HOW7.out
                have w3 := HG3.out _ _ hs1
                have w3c : ((W6.drewN qd).setCell ⟨g4, m * 7 + 2, none⟩ (.int .i64 (xt : Nat))).cell? ⟨g4, m * 7 + 3, none⟩ = some (.string y.txt) := w3.1
                have w3f := w3.2
                have hxb : ((W6.drewN qd).setCell ⟨g4, m * 7 + 2, none⟩ (.int .i64 (xt : Nat))).cell? ⟨gX, 3, none⟩ = some (.string xx) := ((HZB.out.drewN qd).far (p := ⟨g4, m * 7 + 2, none⟩) hne4 _).cell 3
                have hxl := ((HZB.out.drewN qd).far (p := ⟨g4, m * 7 + 2, none⟩) hne4 (.int .i64 (xt : Nat))).lt
                have HB8 := hide ((HB7.out.setCell (p := ⟨g4, m * 7 + 2, none⟩) (HOW7.out.lt g4 rfl).1 (.int .i64 (xt : Nat))).setCell (p := ⟨g4, m * 7 + 3, none⟩) (HOW7.out.lt g4 rfl).1 (.string (y.txt ++ xx)))
                have HO8 := hide hs2
                have hg7 : g4 < ((W6.drewN qd).setCell ⟨g4, m * 7 + 2, none⟩ (.int .i64 (xt : Nat))).heap.size := (hs1.lt g4 rfl).2
                clear hs1 hs2 w3 HSET hT HLO yf y2 x0 x1 x2 x3 x4 x5 x6 xl hg4 HOW7 HB7 HZB
                generalize (W6.drewN qd).setCell ⟨g4, m * 7 + 2, none⟩ (.int .i64 (xt : Nat)) = W7 at *
                go_region
                go_wp2
                go_roundw
                case rel => exact ⟨j + 1, some ⟨g4, 0, none⟩, c9, hlt, by rw [HC1.out, HCS1.out] <;> first | rfl | go_num, by rw [HM2.out, HO2.out, HLS.out], by go_num, hide (by rw [HM2.out, HO2.out, HLS.out]; exact ownK_drew HO8.out), hide (bl_drew HB8.out)⟩
                case measure => simp [intOf]; omega
              | false =>
                rw [hT, if_neg Bool.false_ne_true] at HO2
                clear HSET hT HLS HG3 yf y2 hcat
                go_wp2_with (at_builtin; refine wpList_append_k rfl (.tmp 107) (.tmp 109) rfl rfl Tryz.underlying88 HIS.out.1 HIS.out.2.1 HIS.out.2.2.1 (by decide) rfl (by have := HIS.out.2.2.2; omega) w2.heap.size out.length (.slice (some ⟨g4, 0, none⟩) out.length c9) (flatG Sp.vals out) [.int .i64 xk, .int .i64 (xf : Nat), .int .i64 (xt : Nat), .string xx, .string xs, .int .i64 xi, .bool false] _ rfl (ownK_alloc HOW7.out _) rfl (by intro u hu; simp only [List.mem_cons, List.not_mem_nil, or_false] at hu; rcases hu with rfl | rfl | rfl | rfl | rfl | rfl | rfl <;> rfl) rfl (newN_cells rfl) (by have := hml; omega) (by simp only [World.size_alloc]; have := HB7.out.size; omega) ?_; intro v8 w8 hown8 hgr8 hdj8; obtain ⟨A8, c8, rfl⟩ := ownSp_form hown8; have HO8 := hide hown8; have HB8 := hide ((bl_alloc HB7.out _).grown hgr8 (by simp only [World.size_alloc]; have := HB7.out.size; omega) (fun k hk => (HOW7.out.lt k hk).1) : Below w2.heap.size w2 w8); clear hown8 hgr8 hdj8)
                rw [flatSp_snoc out (⟨xk, xf, xt, xx, xs, xi, false⟩ : Sp), ← HLO.out] at HO8
                rw [← HLO.out]
                go_wp2
                go_roundw
                case rel => exact ⟨j + 1, A8, c8, hlt, by rw [HC1.out, HCS1.out] <;> first | rfl | go_num, by rw [HM2.out, HO2.out], by go_num, hide (by rw [HM2.out, HO2.out]; exact HO8.out), HB8⟩
                case measure => simp [intOf]; omega
    · obtain rfl : j = L.length := by omega
      rw [HMA.out] at HOW
      rw [HMA.out]
      have HFIN := hide (HPO.out A9 c9 _ wr rfl (ownK_low HOW.out HB.out.size) (HB.out.trans (HBr.out.mono HB.out.size)))
      clear HOW HBr HPO HMA HTXJ HMZ HML HMS HCS HCM HRD
      go_wp2
      exact HFIN.out

end Go.Proofs.YtioppoaijehicaaGreatDoor
