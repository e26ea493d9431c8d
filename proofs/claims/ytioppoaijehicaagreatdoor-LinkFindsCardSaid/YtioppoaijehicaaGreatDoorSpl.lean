/-
  PLAIN AND WALKS: the reference's token: links.
-/
import Derived.Test.YtioppoaijehicaaGreatDoorSpk
set_option linter.all false
namespace Go.Proofs.YtioppoaijehicaaGreatDoor
open Go.RowKit

theorem piece_get {s : ByteArray} {a b k : Nat} (hb : b ≤ s.size) (h : a + k < b) : ∃ h2 : k < (s.extract a b).size, (s.extract a b)[k] = s[a + k] := by
  have h2 : k < (s.extract a b).size := by rw [ByteArray.size_extract, Nat.min_eq_left hb]; omega
  refine ⟨h2, ?_⟩
  have hl : a + k < s.data.toList.length := by rw [← Lib.size_eq]; omega
  have hj : k < (s.extract a b).data.toList.length := by rw [← Lib.size_eq]; exact h2
  have : (s.extract a b).data.toList[k]? = s.data.toList[a + k]? := by rw [Lib.extract_data, List.getElem?_take_of_lt (by omega), List.getElem?_drop]
  rw [List.getElem?_eq_getElem hj, List.getElem?_eq_getElem hl] at this
  exact Option.some.inj this

theorem noPi_is (b : UInt8) : noPi b = !(b == 124) := by
  unfold noPi
  have : (b == (124 : UInt8)) = (b.toNat == 124) := u8_be (c := 124) (by decide)
  rw [this]; rfl

theorem cut_list (l : List UInt8) : Lib.cut l [124] = if (l.takeWhile noPi).length < l.length then (l.take (l.takeWhile noPi).length, l.drop ((l.takeWhile noPi).length + 1), true) else (l, [], false) := by
  unfold Lib.cut
  rw [Lib.index_one, ib_span 124 noPi noPi_is l]
  by_cases h : (l.takeWhile noPi).length < l.length
  · rw [if_pos h, if_pos (by omega), if_pos h, Int.toNat_natCast]
    rfl
  · rw [if_neg h, if_neg (by omega), if_neg h]

theorem tw_scn (p : UInt8 → Bool) (s : ByteArray) : (s.data.toList.takeWhile p).length = scn p s 0 := by
  unfold scn
  rw [List.drop_zero, Nat.zero_add]

theorem scn_piece {p : UInt8 → Bool} {s : ByteArray} {a b : Nat} (hab : a ≤ b) (hb : b ≤ s.size) : scn p (s.extract a b) 0 = min (scn p s a) b - a := by
  have hz : (s.extract a b).size = b - a := by rw [ByteArray.size_extract, Nat.min_eq_left hb]
  have hge := scn_ge p s a
  refine scn_eq (Nat.zero_le _) (by omega) (fun j h1 h2 h => ?_) (fun h => ?_)
  · obtain ⟨h3, h4⟩ := piece_get (s := s) (a := a) (b := b) (k := j) hb (by omega)
    rw [h4]
    exact scn_mid (k := a) (by omega) (by omega) _
  · rw [hz] at h
    have hlt : scn p s a < b := by omega
    obtain ⟨h3, h4⟩ := piece_get (s := s) (a := a) (b := b) (k := scn p s a - a) hb (by omega)
    have e : min (scn p s a) b - a = scn p s a - a := by omega
    simp only [e]
    rw [h4]
    have e2 : a + (scn p s a - a) = scn p s a := by omega
    simp only [e2]
    exact scn_out (by omega)

theorem cut_has {R : ByteArray} {E : Nat} (hE : E ≤ R.size) (h2 : 2 ≤ E) (h : scn noPi R 2 < E) : Lib.cut (R.extract 2 E).data.toList [124] = ((R.extract 2 (scn noPi R 2)).data.toList, (R.extract (scn noPi R 2 + 1) E).data.toList, true) := by
  have hge := scn_ge noPi R 2
  have hz : (R.extract 2 E).data.toList.length = E - 2 := by rw [← Lib.size_eq, ByteArray.size_extract, Nat.min_eq_left hE]
  rw [cut_list, tw_scn, scn_piece h2 hE, hz, if_pos (by omega), Nat.min_eq_left (by omega)]
  refine Prod.ext ?_ (Prod.ext ?_ rfl)
  · show (R.extract 2 E).data.toList.take (scn noPi R 2 - 2) = _
    rw [Lib.extract_data, Lib.extract_data, List.take_take, Nat.min_eq_left (by omega)]
  · show (R.extract 2 E).data.toList.drop (scn noPi R 2 - 2 + 1) = (R.extract (scn noPi R 2 + 1) E).data.toList
    rw [Lib.extract_data, Lib.extract_data, List.drop_take, List.drop_drop, show 2 + (scn noPi R 2 - 2 + 1) = scn noPi R 2 + 1 by omega, show E - 2 - (scn noPi R 2 - 2 + 1) = E - (scn noPi R 2 + 1) by omega]

theorem cut_not {R : ByteArray} {E : Nat} (hE : E ≤ R.size) (h2 : 2 ≤ E) (h : E ≤ scn noPi R 2) : Lib.cut (R.extract 2 E).data.toList [124] = ((R.extract 2 E).data.toList, [], false) := by
  have hz : (R.extract 2 E).data.toList.length = E - 2 := by rw [← Lib.size_eq, ByteArray.size_extract, Nat.min_eq_left hE]
  rw [cut_list, tw_scn, scn_piece h2 hE, hz, if_neg (by omega)]

theorem bstr_list (x : ByteArray) : (⟨x.data.toList.toArray⟩ : ByteArray) = x := by cases x; simp

/-- The reference's link, by what is left of the string. -/
theorem link_rest {s : ByteArray} {i : Nat} (hi : i < s.size) (h91 : two s i 91 = true) : linkP s i =
    if two (s.extract i s.size) (scn noBr (s.extract i s.size) 2) 93 = true ∧ isTgt ((s.extract i s.size).extract 2 (min (scn noPi (s.extract i s.size) 2) (scn noBr (s.extract i s.size) 2))) = true ∧ (scn noPi (s.extract i s.size) 2 < scn noBr (s.extract i s.size) 2 → scn noPi (s.extract i s.size) 2 + 1 < scn noBr (s.extract i s.size) 2) then
      some ⟨4, i, i + scn noBr (s.extract i s.size) 2 + 2, (s.extract i s.size).extract 2 (min (scn noPi (s.extract i s.size) 2) (scn noBr (s.extract i s.size) 2)), if scn noPi (s.extract i s.size) 2 < scn noBr (s.extract i s.size) 2 then (s.extract i s.size).extract (scn noPi (s.extract i s.size) 2 + 1) (scn noBr (s.extract i s.size) 2) else ByteArray.empty, 0, false⟩
    else none := by
  have hz : (s.extract i s.size).size = s.size - i := by rw [ByteArray.size_extract, Nat.min_self]
  have h2 := two_lt h91
  have e1 := scn_rest noBr s i 2
  have e2 := scn_rest noPi s i 2
  have l1 := scn_le (p := noBr) (s := s.extract i s.size) (k := 2) (by omega)
  have g1 := scn_ge noBr (s.extract i s.size) 2
  rw [← linkR_is]
  unfold linkR
  rw [h91, e1, e2]
  generalize scn noBr (s.extract i s.size) 2 = E at *
  generalize scn noPi (s.extract i s.size) 2 = P at *
  have t1 : two s (i + E) 93 = two (s.extract i s.size) E 93 := (two_rest 93 (by decide)).symm
  have x1 : s.extract (i + 2) (min (i + P) (i + E)) = (s.extract i s.size).extract 2 (min P E) := by
    rw [ext_of_rest (by omega), show min (i + P) (i + E) = i + min P E by omega]
  have x2 : s.extract (i + P + 1) (i + E) = (s.extract i s.size).extract (P + 1) E := by
    rw [ext_of_rest (by omega), Nat.add_assoc]
  rw [t1, x1, x2]
  by_cases hc : two (s.extract i s.size) E 93 = true ∧ isTgt ((s.extract i s.size).extract 2 (min P E)) = true ∧ (P < E → P + 1 < E)
  · rw [if_pos hc, if_pos ⟨rfl, hc.1, hc.2.1, fun h => by have := hc.2.2 (by omega); omega⟩]
    by_cases hp : P < E
    · rw [if_pos hp, if_pos (show i + P < i + E by omega)]
    · rw [if_neg hp, if_neg (show ¬ i + P < i + E by omega)]
  · rw [if_neg hc, if_neg (fun h => hc ⟨h.2.1, h.2.2.1, fun h9 => by have := h.2.2.2 (by omega); omega⟩)]

theorem below_undrew {w w' : World} {n : Nat} (h : Below (w.drewN n).heap.size (w.drewN n) w') : Below w.heap.size w w' := (bl_drewN (Below.refl _ _) n).trans (h.mono (Nat.le_refl _))

set_option maxHeartbeats 6400000 in
set_option maxRecDepth 100000 in
theorem tokenR_link (s : ByteArray) (i : Nat) (w : World) (hi : i < s.size) (hs : s.size ≤ 900000) (hb : s[i].toNat = 91) (hmt : MaxTold w) :
    Calls Tryz.prog 117 #[.string s, .int .i64 i] w (RTokOut s i w) := by
  have HPO : Hid (∀ (cs : Array Value) w', cs = (fill1 s (tokP s i)).vals.toArray → Below w.heap.size w w' → RTokOut s i w (.returned (.agg cs)) w') := hide fun cs w' hc hb => by rw [hc]; exact ⟨rfl, hb⟩
  generalize RTokOut s i w = PO at *
  have HPP := hide (fun (h : tokP s i = plSp i) w' (hb : Below w.heap.size w w') => HPO.out #[.int .i64 1, .int .i64 i, .int .i64 ((i : Int) + 1), .string (s.extract i (i + 1)), .string ⟨#[]⟩, .int .i64 0, .bool false] w' (by rw [h]; exact plSp_fill s i) hb)
  have HPS := hide (fun (x : Sp) (h : tokP s i = x) (hk : x.kind ≠ 1) (cs : Array Value) w' (hc : cs = x.vals.toArray) (hb : Below w.heap.size w w') => HPO.out cs w' (by rw [hc, h, fill1_other hk]) hb)
  have hRz : (s.extract i s.size).size = s.size - i := by rw [ByteArray.size_extract, Nat.min_self]
  have HR0 : Hid (∀ h : 0 < (s.extract i s.size).size, (s.extract i s.size)[0].toNat = s[i].toNat) := hide fun h => rest_zero hi h
  have HHB := hide (fun c (hc : c < 256) W => has2_at s i c hc W)
  have i0 : (i : Int) < (s.size : Int) := by omega
  have i1 : (i : Int) + 1 ≤ (s.size : Int) := by omega
  have HT := hide (tokP_link hi hb)
  have HMT := hide (fun W (h : Below w.heap.size w W) => maxTold_below hmt h)
  cases h91 : two s i 91 with
  | false =>
    generalize hre : s.extract i s.size = R at *
    have HRE := hide hre
    clear hre
    have H91 := hide (show ∀ W, Calls Tryz.prog 133 #[.string R, .string ⟨#[91, 91]⟩] W (fun e w' => e = .returned (.bool false) ∧ w' = W) from fun W => by have := HHB.out 91 (by decide) W; rw [show two s i 91 = false from h91] at this; exact this)
    have H40 := hide (show ∀ W, Calls Tryz.prog 133 #[.string R, .string ⟨#[40, 40]⟩] W (fun e w' => e = .returned (.bool false) ∧ w' = W) from fun W => by have := HHB.out 40 (by decide) W; rw [show two s i 40 = false from two_by hi (by omega)] at this; exact this)
    have H42 := hide (show ∀ W, Calls Tryz.prog 133 #[.string R, .string ⟨#[42, 42]⟩] W (fun e w' => e = .returned (.bool false) ∧ w' = W) from fun W => by have := HHB.out 42 (by decide) W; rw [show two s i 42 = false from two_by hi (by omega)] at this; exact this)
    have hRp : 0 < R.size := by omega
    have hRb : (R.size : Int) ≤ 900000 := by omega
    have hr0 := HR0.out hRp
    have hRi : (0 : Int) < (R.size : Int) := by omega
    have r92 : ((R[0].toNat : Int) == 92) = false := beq_eq_false_iff_ne.2 (by omega)
    have r96 : ((R[0].toNat : Int) == 96) = false := beq_eq_false_iff_ne.2 (by omega)
    have r35 : ((R[0].toNat : Int) == 35) = false := beq_eq_false_iff_ne.2 (by omega)
    clear hr0 HR0
    have HF := hide (HPP.out (by rw [HT.out]; unfold linkP; rw [h91, if_neg (fun h => absurd h.1 Bool.false_ne_true)]; rfl))
    clear HPS HPP HPO HT HHB hb h91 hmt HMT
    have HRZ := hide hRz
    clear hRz
    go_enter Tryz.func117, Tryz.ntmps117
    go_upto_region 3 with (fail)
    have HN := hide (show Blk ((w.alloc (.cells #[.int .i64 0, .int .i64 0, .int .i64 0, .string ⟨#[]⟩, .string ⟨#[]⟩, .int .i64 0, .bool false] 90)).alloc (.cells #[.int .i64 1, .int .i64 i, .int .i64 ((i : Int) + 1), .string (s.extract i (i + 1)), .string ⟨#[]⟩, .int .i64 0, .bool false] 90)) w.heap.size 90 #[.int .i64 0, .int .i64 0, .int .i64 0, .string ⟨#[]⟩, .string ⟨#[]⟩, .int .i64 0, .bool false] from (Blk.new w 90 #[.int .i64 0, .int .i64 0, .int .i64 0, .string ⟨#[]⟩, .string ⟨#[]⟩, .int .i64 0, .bool false]).alloc _)
    have HXB := hide (show Blk ((w.alloc (.cells #[.int .i64 0, .int .i64 0, .int .i64 0, .string ⟨#[]⟩, .string ⟨#[]⟩, .int .i64 0, .bool false] 90)).alloc (.cells #[.int .i64 1, .int .i64 i, .int .i64 ((i : Int) + 1), .string (s.extract i (i + 1)), .string ⟨#[]⟩, .int .i64 0, .bool false] 90)) (w.heap.size + 1) 90 #[.int .i64 1, .int .i64 i, .int .i64 ((i : Int) + 1), .string (s.extract i (i + 1)), .string ⟨#[]⟩, .int .i64 0, .bool false] from by have := Blk.new (w.alloc (.cells #[.int .i64 0, .int .i64 0, .int .i64 0, .string ⟨#[]⟩, .string ⟨#[]⟩, .int .i64 0, .bool false] 90)) 90 #[.int .i64 1, .int .i64 i, .int .i64 ((i : Int) + 1), .string (s.extract i (i + 1)), .string ⟨#[]⟩, .int .i64 0, .bool false]; simpa using this)
    have HBA := hide (bl_alloc (bl_alloc (Below.refl w.heap.size w) (.cells #[.int .i64 0, .int .i64 0, .int .i64 0, .string ⟨#[]⟩, .string ⟨#[]⟩, .int .i64 0, .bool false] 90)) (.cells #[.int .i64 1, .int .i64 i, .int .i64 ((i : Int) + 1), .string (s.extract i (i + 1)), .string ⟨#[]⟩, .int .i64 0, .bool false] 90))
    rw [HRE.out]
    generalize (w.alloc (.cells #[.int .i64 0, .int .i64 0, .int .i64 0, .string ⟨#[]⟩, .string ⟨#[]⟩, .int .i64 0, .bool false] 90)).alloc (.cells #[.int .i64 1, .int .i64 i, .int .i64 ((i : Int) + 1), .string (s.extract i (i + 1)), .string ⟨#[]⟩, .int .i64 0, .bool false] 90) = wa at *
    generalize w.heap.size + 1 = gx at *
    obtain ⟨z0, z1, z2, z3, z4, z5, z6, zf, zl⟩ := HN.out.seven
    obtain ⟨v0, v1, v2, v3, v4, v5, v6, -, vl⟩ := HXB.out.seven
    go_wp2_with (go_at_call 133; (first | (with_reducible refine (H91.out _).mono ?_) | (with_reducible refine (H40.out _).mono ?_) | (with_reducible refine (H42.out _).mono ?_)); rintro e w' ⟨rfl, hw⟩; subst w')
    refine bodyPost_ret (results_cell_row (P := Tryz.prog) (by rfl) _ _ w.heap.size 90 _ (0, 0) _ rfl (seven_set HN.out) Tryz.underlying90 rfl (by kernel_rfl)) rfl ?_
    exact HF.out _ (below_seven HBA.out (Nat.le_refl _))
  | true =>
    have hsz := two_lt h91
    have HLR := hide (link_rest hi h91)
    have HIX := hide (fun (h : 2 ≤ (s.extract i s.size).size) W => idxBr_at (s.extract i s.size) 2 h (by omega) W)
    generalize hre : s.extract i s.size = R at *
    have HRE := hide hre
    clear hre
    have H91 := hide (show ∀ W, Calls Tryz.prog 133 #[.string R, .string ⟨#[91, 91]⟩] W (fun e w' => e = .returned (.bool true) ∧ w' = W) from fun W => by have := HHB.out 91 (by decide) W; rw [h91] at this; exact this)
    have hRp : 0 < R.size := by omega
    have hRb : (R.size : Int) ≤ 900000 := by omega
    have hr0 := HR0.out hRp
    have hRi : (0 : Int) < (R.size : Int) := by omega
    have r92 : ((R[0].toNat : Int) == 92) = false := beq_eq_false_iff_ne.2 (by omega)
    have r96 : ((R[0].toNat : Int) == 96) = false := beq_eq_false_iff_ne.2 (by omega)
    have r35 : ((R[0].toNat : Int) == 35) = false := beq_eq_false_iff_ne.2 (by omega)
    clear hr0 HR0
    have HIX := hide (HIX.out (by omega))
    have hge := scn_ge noBr R 2
    have hle := scn_le (p := noBr) (s := R) (k := 2) (by omega)
    have hgp := scn_ge noPi R 2
    have HCH := hide (fun E (hE : E ≤ R.size) (h2 : 2 ≤ E) (h : scn noPi R 2 < E) => cut_has hE h2 h)
    have HCN := hide (fun E (hE : E ≤ R.size) (h2 : 2 ≤ E) (h : E ≤ scn noPi R 2) => cut_not hE h2 h)
    have j1 : (2 : Int) ≤ (R.size : Int) := by omega
    rw [HLR.out] at HT
    clear HLR h91 hb HHB hmt
    generalize scn noBr R 2 = E at *
    generalize scn noPi R 2 = P at *
    obtain ⟨n, rfl⟩ : ∃ n, E = 2 + n := ⟨E - 2, by omega⟩
    by_cases hE : 2 + n < R.size
    · rw [if_pos hE, show (((2 + n : Nat) : Int) - ((2 : Nat) : Int)) = (n : Int) by omega] at HIX
      have j2 : ¬ (n : Int) < 0 := by omega
      have j3 : (2 : Int) + n ≤ (R.size : Int) := by omega
      have H93 := hide (show ∀ W, Calls Tryz.prog 133 #[.string (R.extract (2 + n) R.size), .string ⟨#[93, 93]⟩] W (fun e w' => e = .returned (.bool (two R (2 + n) 93)) ∧ w' = W) from fun W => has2_at R (2 + n) 93 (by decide) W)
      cases h93 : two R (2 + n) 93 with
      | false =>
        rw [h93] at H93
        have HF := hide (HPP.out (by rw [HT.out, h93, if_neg (fun h => absurd h.1 Bool.false_ne_true)]; rfl))
        clear HPS HPP HPO HT h93 HCH HCN HMT
        have HRZ := hide hRz
        clear hRz
        go_enter Tryz.func117, Tryz.ntmps117
        go_upto_region 3 with (fail)
        have HN := hide (show Blk ((w.alloc (.cells #[.int .i64 0, .int .i64 0, .int .i64 0, .string ⟨#[]⟩, .string ⟨#[]⟩, .int .i64 0, .bool false] 90)).alloc (.cells #[.int .i64 1, .int .i64 i, .int .i64 ((i : Int) + 1), .string (s.extract i (i + 1)), .string ⟨#[]⟩, .int .i64 0, .bool false] 90)) w.heap.size 90 #[.int .i64 0, .int .i64 0, .int .i64 0, .string ⟨#[]⟩, .string ⟨#[]⟩, .int .i64 0, .bool false] from (Blk.new w 90 #[.int .i64 0, .int .i64 0, .int .i64 0, .string ⟨#[]⟩, .string ⟨#[]⟩, .int .i64 0, .bool false]).alloc _)
        have HXB := hide (show Blk ((w.alloc (.cells #[.int .i64 0, .int .i64 0, .int .i64 0, .string ⟨#[]⟩, .string ⟨#[]⟩, .int .i64 0, .bool false] 90)).alloc (.cells #[.int .i64 1, .int .i64 i, .int .i64 ((i : Int) + 1), .string (s.extract i (i + 1)), .string ⟨#[]⟩, .int .i64 0, .bool false] 90)) (w.heap.size + 1) 90 #[.int .i64 1, .int .i64 i, .int .i64 ((i : Int) + 1), .string (s.extract i (i + 1)), .string ⟨#[]⟩, .int .i64 0, .bool false] from by have := Blk.new (w.alloc (.cells #[.int .i64 0, .int .i64 0, .int .i64 0, .string ⟨#[]⟩, .string ⟨#[]⟩, .int .i64 0, .bool false] 90)) 90 #[.int .i64 1, .int .i64 i, .int .i64 ((i : Int) + 1), .string (s.extract i (i + 1)), .string ⟨#[]⟩, .int .i64 0, .bool false]; simpa using this)
        have HBA := hide (bl_alloc (bl_alloc (Below.refl w.heap.size w) (.cells #[.int .i64 0, .int .i64 0, .int .i64 0, .string ⟨#[]⟩, .string ⟨#[]⟩, .int .i64 0, .bool false] 90)) (.cells #[.int .i64 1, .int .i64 i, .int .i64 ((i : Int) + 1), .string (s.extract i (i + 1)), .string ⟨#[]⟩, .int .i64 0, .bool false] 90))
        rw [HRE.out]
        generalize (w.alloc (.cells #[.int .i64 0, .int .i64 0, .int .i64 0, .string ⟨#[]⟩, .string ⟨#[]⟩, .int .i64 0, .bool false] 90)).alloc (.cells #[.int .i64 1, .int .i64 i, .int .i64 ((i : Int) + 1), .string (s.extract i (i + 1)), .string ⟨#[]⟩, .int .i64 0, .bool false] 90) = wa at *
        generalize w.heap.size + 1 = gx at *
        obtain ⟨z0, z1, z2, z3, z4, z5, z6, zf, zl⟩ := HN.out.seven
        obtain ⟨v0, v1, v2, v3, v4, v5, v6, -, vl⟩ := HXB.out.seven
        go_wp2_with (first | (go_at_call 133; (first | (with_reducible refine (H91.out _).mono ?_) | (with_reducible refine (H93.out _).mono ?_)); rintro e w' ⟨rfl, hw⟩; subst w') | (go_at_call 160; refine (HIX.out _).mono ?_; rintro e w3 ⟨rfl, hb3⟩; have HN3 := hide (HN.out.below hb3 HN.out.lt); have HXB3 := hide (HXB.out.below hb3 HXB.out.lt); have HB3 := hide (below_chainS HBA.out hb3); obtain ⟨y0, y1, y2, y3, y4, y5, y6, yf, yl⟩ := HN3.out.seven; obtain ⟨q0, q1, q2, q3, q4, q5, q6, -, ql⟩ := HXB3.out.seven; clear hb3))
        refine bodyPost_ret (results_cell_row (P := Tryz.prog) (by rfl) _ _ w.heap.size 90 _ (0, 0) _ rfl (seven_set HN3.out) Tryz.underlying90 rfl (by kernel_rfl)) rfl ?_
        exact HF.out _ (below_seven HB3.out (Nat.le_refl _))
      | true =>
        have j4 : (i : Int) + n + 4 ≤ (s.size : Int) := by have := two_lt h93; omega
        rw [h93] at H93 HT
        clear h93
        by_cases hp : P < 2 + n
        · have HCU := hide (fun W (hb : Below w.heap.size w W) => Tryz.cut_any (R.extract 2 (2 + n)) ⟨#[124]⟩ W (HMT.out W hb) (by rw [ByteArray.size_extract]; omega))
          have hct := HCH.out (2 + n) (by omega) (by omega) hp
          rw [show (⟨#[124]⟩ : ByteArray).data.toList = [124] from rfl, hct] at HCU
          simp only [bstr_list] at HCU
          rw [Nat.min_eq_left (Nat.le_of_lt hp), if_pos hp] at HT
          have HTG := hide (fun W => isTargetR_any (R.extract 2 P) W (by rw [ByteArray.size_extract]; omega))
          have hsh : (R.extract (P + 1) (2 + n)).size = 2 + n - (P + 1) := by rw [ByteArray.size_extract, Nat.min_eq_left (by omega)]
          generalize R.extract 2 P = T at *
          clear HCH HCN hct HMT
          cases ht : isTgt T with
          | false =>
            rw [ht] at HTG
            have HF := hide (HPP.out (by rw [HT.out, ht, if_neg (fun h => absurd h.2.1 Bool.false_ne_true)]; rfl))
            clear HPS HPP HPO HT ht hsh
            generalize R.extract (P + 1) (2 + n) = S at *
            have HRZ := hide hRz
            clear hRz
            go_enter Tryz.func117, Tryz.ntmps117
            go_upto_region 3 with (fail)
            have HN := hide (show Blk ((w.alloc (.cells #[.int .i64 0, .int .i64 0, .int .i64 0, .string ⟨#[]⟩, .string ⟨#[]⟩, .int .i64 0, .bool false] 90)).alloc (.cells #[.int .i64 1, .int .i64 i, .int .i64 ((i : Int) + 1), .string (s.extract i (i + 1)), .string ⟨#[]⟩, .int .i64 0, .bool false] 90)) w.heap.size 90 #[.int .i64 0, .int .i64 0, .int .i64 0, .string ⟨#[]⟩, .string ⟨#[]⟩, .int .i64 0, .bool false] from (Blk.new w 90 #[.int .i64 0, .int .i64 0, .int .i64 0, .string ⟨#[]⟩, .string ⟨#[]⟩, .int .i64 0, .bool false]).alloc _)
            have HXB := hide (show Blk ((w.alloc (.cells #[.int .i64 0, .int .i64 0, .int .i64 0, .string ⟨#[]⟩, .string ⟨#[]⟩, .int .i64 0, .bool false] 90)).alloc (.cells #[.int .i64 1, .int .i64 i, .int .i64 ((i : Int) + 1), .string (s.extract i (i + 1)), .string ⟨#[]⟩, .int .i64 0, .bool false] 90)) (w.heap.size + 1) 90 #[.int .i64 1, .int .i64 i, .int .i64 ((i : Int) + 1), .string (s.extract i (i + 1)), .string ⟨#[]⟩, .int .i64 0, .bool false] from by have := Blk.new (w.alloc (.cells #[.int .i64 0, .int .i64 0, .int .i64 0, .string ⟨#[]⟩, .string ⟨#[]⟩, .int .i64 0, .bool false] 90)) 90 #[.int .i64 1, .int .i64 i, .int .i64 ((i : Int) + 1), .string (s.extract i (i + 1)), .string ⟨#[]⟩, .int .i64 0, .bool false]; simpa using this)
            have HBA := hide (bl_alloc (bl_alloc (Below.refl w.heap.size w) (.cells #[.int .i64 0, .int .i64 0, .int .i64 0, .string ⟨#[]⟩, .string ⟨#[]⟩, .int .i64 0, .bool false] 90)) (.cells #[.int .i64 1, .int .i64 i, .int .i64 ((i : Int) + 1), .string (s.extract i (i + 1)), .string ⟨#[]⟩, .int .i64 0, .bool false] 90))
            rw [HRE.out]
            generalize (w.alloc (.cells #[.int .i64 0, .int .i64 0, .int .i64 0, .string ⟨#[]⟩, .string ⟨#[]⟩, .int .i64 0, .bool false] 90)).alloc (.cells #[.int .i64 1, .int .i64 i, .int .i64 ((i : Int) + 1), .string (s.extract i (i + 1)), .string ⟨#[]⟩, .int .i64 0, .bool false] 90) = wa at *
            generalize w.heap.size + 1 = gx at *
            obtain ⟨z0, z1, z2, z3, z4, z5, z6, zf, zl⟩ := HN.out.seven
            obtain ⟨v0, v1, v2, v3, v4, v5, v6, -, vl⟩ := HXB.out.seven
            go_wp2_with (first | (go_at_call 133; (first | (with_reducible refine (H91.out _).mono ?_) | (with_reducible refine (H93.out _).mono ?_)); rintro e w' ⟨rfl, hw⟩; subst w') | (go_at_call 160; refine (HIX.out _).mono ?_; rintro e w3 ⟨rfl, hb3⟩; have HN3 := hide (HN.out.below hb3 HN.out.lt); have HXB3 := hide (HXB.out.below hb3 HXB.out.lt); have HB3 := hide (below_chainS HBA.out hb3); obtain ⟨y0, y1, y2, y3, y4, y5, y6, yf, yl⟩ := HN3.out.seven; obtain ⟨q0, q1, q2, q3, q4, q5, q6, -, ql⟩ := HXB3.out.seven; clear hb3) | (go_at_call 161; refine (HCU.out _ HB3.out).mono ?_; rintro e w4 ⟨rfl, n4, rfl⟩) | (go_at_call 162; refine (HTG.out _).mono ?_; rintro e w5 ⟨rfl, hb5⟩; have HN5 := hide (HN3.out.below (w' := w5) (below_undrew hb5) HN3.out.lt); have HXB5 := hide (HXB3.out.below (w' := w5) (below_undrew hb5) HXB3.out.lt); have HB5 := hide (below_chainS HB3.out (below_undrew hb5)); obtain ⟨p0, p1, p2, p3, p4, p5, p6, pf, pl⟩ := HN5.out.seven; obtain ⟨t0, t1, t2, t3, t4, t5, t6, -, tl⟩ := HXB5.out.seven; clear hb5))
            refine bodyPost_ret (results_cell_row (P := Tryz.prog) (by rfl) _ _ w.heap.size 90 _ (0, 0) _ rfl (seven_set HN5.out) Tryz.underlying90 rfl (by kernel_rfl)) rfl ?_
            exact HF.out _ (below_seven HB5.out (Nat.le_refl _))
          | true =>
            rw [ht] at HTG
            by_cases hs1 : P + 1 < 2 + n
            · obtain ⟨e1, e2⟩ : (R.extract (P + 1) (2 + n)).toList.isEmpty = false ∧ ((R.extract (P + 1) (2 + n)).toList == []) = false := by
                have : (R.extract (P + 1) (2 + n)).data.toList ≠ [] := fun h => by
                  have := congrArg List.length h
                  rw [← Lib.size_eq, hsh] at this
                  simp only [List.length_nil] at this
                  omega
                rw [Lib.toList_data]
                exact ⟨by simpa using this, beq_eq_false_iff_ne.2 this⟩
              have HF := hide (HPS.out ⟨4, i, i + n + 4, T, R.extract (P + 1) (2 + n), 0, false⟩ (by
                rw [HT.out, ht, if_pos ⟨rfl, rfl, fun _ => hs1⟩]
                exact congrArg (fun q => (⟨4, i, q, T, R.extract (P + 1) (2 + n), 0, false⟩ : Sp)) (by omega)) (show (4 : Int) ≠ 1 by decide))
              clear HPS HPP HPO HT ht hsh
              generalize R.extract (P + 1) (2 + n) = S at *
              have HRZ := hide hRz
              clear hRz
              go_enter Tryz.func117, Tryz.ntmps117
              go_upto_region 3 with (fail)
              have HN := hide (show Blk ((w.alloc (.cells #[.int .i64 0, .int .i64 0, .int .i64 0, .string ⟨#[]⟩, .string ⟨#[]⟩, .int .i64 0, .bool false] 90)).alloc (.cells #[.int .i64 1, .int .i64 i, .int .i64 ((i : Int) + 1), .string (s.extract i (i + 1)), .string ⟨#[]⟩, .int .i64 0, .bool false] 90)) w.heap.size 90 #[.int .i64 0, .int .i64 0, .int .i64 0, .string ⟨#[]⟩, .string ⟨#[]⟩, .int .i64 0, .bool false] from (Blk.new w 90 #[.int .i64 0, .int .i64 0, .int .i64 0, .string ⟨#[]⟩, .string ⟨#[]⟩, .int .i64 0, .bool false]).alloc _)
              have HXB := hide (show Blk ((w.alloc (.cells #[.int .i64 0, .int .i64 0, .int .i64 0, .string ⟨#[]⟩, .string ⟨#[]⟩, .int .i64 0, .bool false] 90)).alloc (.cells #[.int .i64 1, .int .i64 i, .int .i64 ((i : Int) + 1), .string (s.extract i (i + 1)), .string ⟨#[]⟩, .int .i64 0, .bool false] 90)) (w.heap.size + 1) 90 #[.int .i64 1, .int .i64 i, .int .i64 ((i : Int) + 1), .string (s.extract i (i + 1)), .string ⟨#[]⟩, .int .i64 0, .bool false] from by have := Blk.new (w.alloc (.cells #[.int .i64 0, .int .i64 0, .int .i64 0, .string ⟨#[]⟩, .string ⟨#[]⟩, .int .i64 0, .bool false] 90)) 90 #[.int .i64 1, .int .i64 i, .int .i64 ((i : Int) + 1), .string (s.extract i (i + 1)), .string ⟨#[]⟩, .int .i64 0, .bool false]; simpa using this)
              have HBA := hide (bl_alloc (bl_alloc (Below.refl w.heap.size w) (.cells #[.int .i64 0, .int .i64 0, .int .i64 0, .string ⟨#[]⟩, .string ⟨#[]⟩, .int .i64 0, .bool false] 90)) (.cells #[.int .i64 1, .int .i64 i, .int .i64 ((i : Int) + 1), .string (s.extract i (i + 1)), .string ⟨#[]⟩, .int .i64 0, .bool false] 90))
              rw [HRE.out]
              generalize (w.alloc (.cells #[.int .i64 0, .int .i64 0, .int .i64 0, .string ⟨#[]⟩, .string ⟨#[]⟩, .int .i64 0, .bool false] 90)).alloc (.cells #[.int .i64 1, .int .i64 i, .int .i64 ((i : Int) + 1), .string (s.extract i (i + 1)), .string ⟨#[]⟩, .int .i64 0, .bool false] 90) = wa at *
              generalize w.heap.size + 1 = gx at *
              obtain ⟨z0, z1, z2, z3, z4, z5, z6, zf, zl⟩ := HN.out.seven
              obtain ⟨v0, v1, v2, v3, v4, v5, v6, -, vl⟩ := HXB.out.seven
              go_wp2_with (first | (go_at_call 133; (first | (with_reducible refine (H91.out _).mono ?_) | (with_reducible refine (H93.out _).mono ?_)); rintro e w' ⟨rfl, hw⟩; subst w') | (go_at_call 160; refine (HIX.out _).mono ?_; rintro e w3 ⟨rfl, hb3⟩; have HN3 := hide (HN.out.below hb3 HN.out.lt); have HXB3 := hide (HXB.out.below hb3 HXB.out.lt); have HB3 := hide (below_chainS HBA.out hb3); obtain ⟨y0, y1, y2, y3, y4, y5, y6, yf, yl⟩ := HN3.out.seven; obtain ⟨q0, q1, q2, q3, q4, q5, q6, -, ql⟩ := HXB3.out.seven; clear hb3) | (go_at_call 161; refine (HCU.out _ HB3.out).mono ?_; rintro e w4 ⟨rfl, n4, rfl⟩) | (go_at_call 162; refine (HTG.out _).mono ?_; rintro e w5 ⟨rfl, hb5⟩; have HN5 := hide (HN3.out.below (w' := w5) (below_undrew hb5) HN3.out.lt); have HXB5 := hide (HXB3.out.below (w' := w5) (below_undrew hb5) HXB3.out.lt); have HB5 := hide (below_chainS HB3.out (below_undrew hb5)); obtain ⟨p0, p1, p2, p3, p4, p5, p6, pf, pl⟩ := HN5.out.seven; obtain ⟨t0, t1, t2, t3, t4, t5, t6, -, tl⟩ := HXB5.out.seven; clear hb5))
              refine bodyPost_ret (results_cell_row (P := Tryz.prog) (by rfl) _ _ w.heap.size 90 _ (0, 0) _ rfl (seven_set HN5.out) Tryz.underlying90 rfl (by kernel_rfl)) rfl ?_
              exact HF.out _ _ (by simp only [Sp.vals, Int.natCast_add, Int.cast_ofNat_Int] <;> rfl) (below_seven HB5.out (Nat.le_refl _))
            · obtain ⟨e1, e2⟩ : (R.extract (P + 1) (2 + n)).toList.isEmpty = true ∧ ((R.extract (P + 1) (2 + n)).toList == []) = true := by
                have : (R.extract (P + 1) (2 + n)).data.toList = [] := List.length_eq_zero_iff.1 (by rw [← Lib.size_eq, hsh]; omega)
                rw [Lib.toList_data, this]
                exact ⟨rfl, rfl⟩
              have HF := hide (HPP.out (by rw [HT.out, ht, if_neg (fun h => hs1 (h.2.2 hp))]; rfl))
              clear HPS HPP HPO HT ht hsh
              generalize R.extract (P + 1) (2 + n) = S at *
              have HRZ := hide hRz
              clear hRz
              go_enter Tryz.func117, Tryz.ntmps117
              go_upto_region 3 with (fail)
              have HN := hide (show Blk ((w.alloc (.cells #[.int .i64 0, .int .i64 0, .int .i64 0, .string ⟨#[]⟩, .string ⟨#[]⟩, .int .i64 0, .bool false] 90)).alloc (.cells #[.int .i64 1, .int .i64 i, .int .i64 ((i : Int) + 1), .string (s.extract i (i + 1)), .string ⟨#[]⟩, .int .i64 0, .bool false] 90)) w.heap.size 90 #[.int .i64 0, .int .i64 0, .int .i64 0, .string ⟨#[]⟩, .string ⟨#[]⟩, .int .i64 0, .bool false] from (Blk.new w 90 #[.int .i64 0, .int .i64 0, .int .i64 0, .string ⟨#[]⟩, .string ⟨#[]⟩, .int .i64 0, .bool false]).alloc _)
              have HXB := hide (show Blk ((w.alloc (.cells #[.int .i64 0, .int .i64 0, .int .i64 0, .string ⟨#[]⟩, .string ⟨#[]⟩, .int .i64 0, .bool false] 90)).alloc (.cells #[.int .i64 1, .int .i64 i, .int .i64 ((i : Int) + 1), .string (s.extract i (i + 1)), .string ⟨#[]⟩, .int .i64 0, .bool false] 90)) (w.heap.size + 1) 90 #[.int .i64 1, .int .i64 i, .int .i64 ((i : Int) + 1), .string (s.extract i (i + 1)), .string ⟨#[]⟩, .int .i64 0, .bool false] from by have := Blk.new (w.alloc (.cells #[.int .i64 0, .int .i64 0, .int .i64 0, .string ⟨#[]⟩, .string ⟨#[]⟩, .int .i64 0, .bool false] 90)) 90 #[.int .i64 1, .int .i64 i, .int .i64 ((i : Int) + 1), .string (s.extract i (i + 1)), .string ⟨#[]⟩, .int .i64 0, .bool false]; simpa using this)
              have HBA := hide (bl_alloc (bl_alloc (Below.refl w.heap.size w) (.cells #[.int .i64 0, .int .i64 0, .int .i64 0, .string ⟨#[]⟩, .string ⟨#[]⟩, .int .i64 0, .bool false] 90)) (.cells #[.int .i64 1, .int .i64 i, .int .i64 ((i : Int) + 1), .string (s.extract i (i + 1)), .string ⟨#[]⟩, .int .i64 0, .bool false] 90))
              rw [HRE.out]
              generalize (w.alloc (.cells #[.int .i64 0, .int .i64 0, .int .i64 0, .string ⟨#[]⟩, .string ⟨#[]⟩, .int .i64 0, .bool false] 90)).alloc (.cells #[.int .i64 1, .int .i64 i, .int .i64 ((i : Int) + 1), .string (s.extract i (i + 1)), .string ⟨#[]⟩, .int .i64 0, .bool false] 90) = wa at *
              generalize w.heap.size + 1 = gx at *
              obtain ⟨z0, z1, z2, z3, z4, z5, z6, zf, zl⟩ := HN.out.seven
              obtain ⟨v0, v1, v2, v3, v4, v5, v6, -, vl⟩ := HXB.out.seven
              go_wp2_with (first | (go_at_call 133; (first | (with_reducible refine (H91.out _).mono ?_) | (with_reducible refine (H93.out _).mono ?_)); rintro e w' ⟨rfl, hw⟩; subst w') | (go_at_call 160; refine (HIX.out _).mono ?_; rintro e w3 ⟨rfl, hb3⟩; have HN3 := hide (HN.out.below hb3 HN.out.lt); have HXB3 := hide (HXB.out.below hb3 HXB.out.lt); have HB3 := hide (below_chainS HBA.out hb3); obtain ⟨y0, y1, y2, y3, y4, y5, y6, yf, yl⟩ := HN3.out.seven; obtain ⟨q0, q1, q2, q3, q4, q5, q6, -, ql⟩ := HXB3.out.seven; clear hb3) | (go_at_call 161; refine (HCU.out _ HB3.out).mono ?_; rintro e w4 ⟨rfl, n4, rfl⟩) | (go_at_call 162; refine (HTG.out _).mono ?_; rintro e w5 ⟨rfl, hb5⟩; have HN5 := hide (HN3.out.below (w' := w5) (below_undrew hb5) HN3.out.lt); have HXB5 := hide (HXB3.out.below (w' := w5) (below_undrew hb5) HXB3.out.lt); have HB5 := hide (below_chainS HB3.out (below_undrew hb5)); obtain ⟨p0, p1, p2, p3, p4, p5, p6, pf, pl⟩ := HN5.out.seven; obtain ⟨t0, t1, t2, t3, t4, t5, t6, -, tl⟩ := HXB5.out.seven; clear hb5))
              refine bodyPost_ret (results_cell_row (P := Tryz.prog) (by rfl) _ _ w.heap.size 90 _ (0, 0) _ rfl (seven_set HN5.out) Tryz.underlying90 rfl (by kernel_rfl)) rfl ?_
              exact HF.out _ (below_seven HB5.out (Nat.le_refl _))
        · have HCU := hide (fun W (hb : Below w.heap.size w W) => Tryz.cut_any (R.extract 2 (2 + n)) ⟨#[124]⟩ W (HMT.out W hb) (by rw [ByteArray.size_extract]; omega))
          have hct := HCN.out (2 + n) (by omega) (by omega) (by omega)
          rw [show (⟨#[124]⟩ : ByteArray).data.toList = [124] from rfl, hct] at HCU
          simp only [bstr_list] at HCU
          rw [Nat.min_eq_right (by omega), if_neg hp] at HT
          have HTG := hide (fun W => isTargetR_any (R.extract 2 (2 + n)) W (by rw [ByteArray.size_extract]; omega))
          clear HCH HCN hct HMT
          cases ht : isTgt (R.extract 2 (2 + n)) with
          | false =>
            rw [ht] at HTG
            have HF := hide (HPP.out (by rw [HT.out, ht, if_neg (fun h => absurd h.2.1 Bool.false_ne_true)]; rfl))
            clear HPS HPP HPO HT ht
            have HRZ := hide hRz
            clear hRz
            go_enter Tryz.func117, Tryz.ntmps117
            go_upto_region 3 with (fail)
            have HN := hide (show Blk ((w.alloc (.cells #[.int .i64 0, .int .i64 0, .int .i64 0, .string ⟨#[]⟩, .string ⟨#[]⟩, .int .i64 0, .bool false] 90)).alloc (.cells #[.int .i64 1, .int .i64 i, .int .i64 ((i : Int) + 1), .string (s.extract i (i + 1)), .string ⟨#[]⟩, .int .i64 0, .bool false] 90)) w.heap.size 90 #[.int .i64 0, .int .i64 0, .int .i64 0, .string ⟨#[]⟩, .string ⟨#[]⟩, .int .i64 0, .bool false] from (Blk.new w 90 #[.int .i64 0, .int .i64 0, .int .i64 0, .string ⟨#[]⟩, .string ⟨#[]⟩, .int .i64 0, .bool false]).alloc _)
            have HXB := hide (show Blk ((w.alloc (.cells #[.int .i64 0, .int .i64 0, .int .i64 0, .string ⟨#[]⟩, .string ⟨#[]⟩, .int .i64 0, .bool false] 90)).alloc (.cells #[.int .i64 1, .int .i64 i, .int .i64 ((i : Int) + 1), .string (s.extract i (i + 1)), .string ⟨#[]⟩, .int .i64 0, .bool false] 90)) (w.heap.size + 1) 90 #[.int .i64 1, .int .i64 i, .int .i64 ((i : Int) + 1), .string (s.extract i (i + 1)), .string ⟨#[]⟩, .int .i64 0, .bool false] from by have := Blk.new (w.alloc (.cells #[.int .i64 0, .int .i64 0, .int .i64 0, .string ⟨#[]⟩, .string ⟨#[]⟩, .int .i64 0, .bool false] 90)) 90 #[.int .i64 1, .int .i64 i, .int .i64 ((i : Int) + 1), .string (s.extract i (i + 1)), .string ⟨#[]⟩, .int .i64 0, .bool false]; simpa using this)
            have HBA := hide (bl_alloc (bl_alloc (Below.refl w.heap.size w) (.cells #[.int .i64 0, .int .i64 0, .int .i64 0, .string ⟨#[]⟩, .string ⟨#[]⟩, .int .i64 0, .bool false] 90)) (.cells #[.int .i64 1, .int .i64 i, .int .i64 ((i : Int) + 1), .string (s.extract i (i + 1)), .string ⟨#[]⟩, .int .i64 0, .bool false] 90))
            rw [HRE.out]
            generalize (w.alloc (.cells #[.int .i64 0, .int .i64 0, .int .i64 0, .string ⟨#[]⟩, .string ⟨#[]⟩, .int .i64 0, .bool false] 90)).alloc (.cells #[.int .i64 1, .int .i64 i, .int .i64 ((i : Int) + 1), .string (s.extract i (i + 1)), .string ⟨#[]⟩, .int .i64 0, .bool false] 90) = wa at *
            generalize w.heap.size + 1 = gx at *
            obtain ⟨z0, z1, z2, z3, z4, z5, z6, zf, zl⟩ := HN.out.seven
            obtain ⟨v0, v1, v2, v3, v4, v5, v6, -, vl⟩ := HXB.out.seven
            go_wp2_with (first | (go_at_call 133; (first | (with_reducible refine (H91.out _).mono ?_) | (with_reducible refine (H93.out _).mono ?_)); rintro e w' ⟨rfl, hw⟩; subst w') | (go_at_call 160; refine (HIX.out _).mono ?_; rintro e w3 ⟨rfl, hb3⟩; have HN3 := hide (HN.out.below hb3 HN.out.lt); have HXB3 := hide (HXB.out.below hb3 HXB.out.lt); have HB3 := hide (below_chainS HBA.out hb3); obtain ⟨y0, y1, y2, y3, y4, y5, y6, yf, yl⟩ := HN3.out.seven; obtain ⟨q0, q1, q2, q3, q4, q5, q6, -, ql⟩ := HXB3.out.seven; clear hb3) | (go_at_call 161; refine (HCU.out _ HB3.out).mono ?_; rintro e w4 ⟨rfl, n4, rfl⟩) | (go_at_call 162; refine (HTG.out _).mono ?_; rintro e w5 ⟨rfl, hb5⟩; have HN5 := hide (HN3.out.below (w' := w5) (below_undrew hb5) HN3.out.lt); have HXB5 := hide (HXB3.out.below (w' := w5) (below_undrew hb5) HXB3.out.lt); have HB5 := hide (below_chainS HB3.out (below_undrew hb5)); obtain ⟨p0, p1, p2, p3, p4, p5, p6, pf, pl⟩ := HN5.out.seven; obtain ⟨t0, t1, t2, t3, t4, t5, t6, -, tl⟩ := HXB5.out.seven; clear hb5))
            refine bodyPost_ret (results_cell_row (P := Tryz.prog) (by rfl) _ _ w.heap.size 90 _ (0, 0) _ rfl (seven_set HN5.out) Tryz.underlying90 rfl (by kernel_rfl)) rfl ?_
            exact HF.out _ (below_seven HB5.out (Nat.le_refl _))
          | true =>
            rw [ht] at HTG
            have HF := hide (HPS.out ⟨4, i, i + n + 4, R.extract 2 (2 + n), ByteArray.empty, 0, false⟩ (by
              rw [HT.out, ht, if_pos ⟨rfl, rfl, fun h => absurd h hp⟩]
              exact congrArg (fun q => (⟨4, i, q, R.extract 2 (2 + n), ByteArray.empty, 0, false⟩ : Sp)) (by omega)) (show (4 : Int) ≠ 1 by decide))
            clear HPS HPP HPO HT ht
            have HRZ := hide hRz
            clear hRz
            go_enter Tryz.func117, Tryz.ntmps117
            go_upto_region 3 with (fail)
            have HN := hide (show Blk ((w.alloc (.cells #[.int .i64 0, .int .i64 0, .int .i64 0, .string ⟨#[]⟩, .string ⟨#[]⟩, .int .i64 0, .bool false] 90)).alloc (.cells #[.int .i64 1, .int .i64 i, .int .i64 ((i : Int) + 1), .string (s.extract i (i + 1)), .string ⟨#[]⟩, .int .i64 0, .bool false] 90)) w.heap.size 90 #[.int .i64 0, .int .i64 0, .int .i64 0, .string ⟨#[]⟩, .string ⟨#[]⟩, .int .i64 0, .bool false] from (Blk.new w 90 #[.int .i64 0, .int .i64 0, .int .i64 0, .string ⟨#[]⟩, .string ⟨#[]⟩, .int .i64 0, .bool false]).alloc _)
            have HXB := hide (show Blk ((w.alloc (.cells #[.int .i64 0, .int .i64 0, .int .i64 0, .string ⟨#[]⟩, .string ⟨#[]⟩, .int .i64 0, .bool false] 90)).alloc (.cells #[.int .i64 1, .int .i64 i, .int .i64 ((i : Int) + 1), .string (s.extract i (i + 1)), .string ⟨#[]⟩, .int .i64 0, .bool false] 90)) (w.heap.size + 1) 90 #[.int .i64 1, .int .i64 i, .int .i64 ((i : Int) + 1), .string (s.extract i (i + 1)), .string ⟨#[]⟩, .int .i64 0, .bool false] from by have := Blk.new (w.alloc (.cells #[.int .i64 0, .int .i64 0, .int .i64 0, .string ⟨#[]⟩, .string ⟨#[]⟩, .int .i64 0, .bool false] 90)) 90 #[.int .i64 1, .int .i64 i, .int .i64 ((i : Int) + 1), .string (s.extract i (i + 1)), .string ⟨#[]⟩, .int .i64 0, .bool false]; simpa using this)
            have HBA := hide (bl_alloc (bl_alloc (Below.refl w.heap.size w) (.cells #[.int .i64 0, .int .i64 0, .int .i64 0, .string ⟨#[]⟩, .string ⟨#[]⟩, .int .i64 0, .bool false] 90)) (.cells #[.int .i64 1, .int .i64 i, .int .i64 ((i : Int) + 1), .string (s.extract i (i + 1)), .string ⟨#[]⟩, .int .i64 0, .bool false] 90))
            rw [HRE.out]
            generalize (w.alloc (.cells #[.int .i64 0, .int .i64 0, .int .i64 0, .string ⟨#[]⟩, .string ⟨#[]⟩, .int .i64 0, .bool false] 90)).alloc (.cells #[.int .i64 1, .int .i64 i, .int .i64 ((i : Int) + 1), .string (s.extract i (i + 1)), .string ⟨#[]⟩, .int .i64 0, .bool false] 90) = wa at *
            generalize w.heap.size + 1 = gx at *
            obtain ⟨z0, z1, z2, z3, z4, z5, z6, zf, zl⟩ := HN.out.seven
            obtain ⟨v0, v1, v2, v3, v4, v5, v6, -, vl⟩ := HXB.out.seven
            go_wp2_with (first | (go_at_call 133; (first | (with_reducible refine (H91.out _).mono ?_) | (with_reducible refine (H93.out _).mono ?_)); rintro e w' ⟨rfl, hw⟩; subst w') | (go_at_call 160; refine (HIX.out _).mono ?_; rintro e w3 ⟨rfl, hb3⟩; have HN3 := hide (HN.out.below hb3 HN.out.lt); have HXB3 := hide (HXB.out.below hb3 HXB.out.lt); have HB3 := hide (below_chainS HBA.out hb3); obtain ⟨y0, y1, y2, y3, y4, y5, y6, yf, yl⟩ := HN3.out.seven; obtain ⟨q0, q1, q2, q3, q4, q5, q6, -, ql⟩ := HXB3.out.seven; clear hb3) | (go_at_call 161; refine (HCU.out _ HB3.out).mono ?_; rintro e w4 ⟨rfl, n4, rfl⟩) | (go_at_call 162; refine (HTG.out _).mono ?_; rintro e w5 ⟨rfl, hb5⟩; have HN5 := hide (HN3.out.below (w' := w5) (below_undrew hb5) HN3.out.lt); have HXB5 := hide (HXB3.out.below (w' := w5) (below_undrew hb5) HXB3.out.lt); have HB5 := hide (below_chainS HB3.out (below_undrew hb5)); obtain ⟨p0, p1, p2, p3, p4, p5, p6, pf, pl⟩ := HN5.out.seven; obtain ⟨t0, t1, t2, t3, t4, t5, t6, -, tl⟩ := HXB5.out.seven; clear hb5))
            refine bodyPost_ret (results_cell_row (P := Tryz.prog) (by rfl) _ _ w.heap.size 90 _ (0, 0) _ rfl (seven_set HN5.out) Tryz.underlying90 rfl (by kernel_rfl)) rfl ?_
            exact HF.out _ _ (by simp only [Sp.vals, Int.natCast_add, Int.cast_ofNat_Int] <;> rfl) (below_seven HB5.out (Nat.le_refl _))
    · rw [if_neg hE] at HIX
      have HF := hide (HPP.out (by rw [HT.out, if_neg (fun h => hE (by have := two_lt h.1; omega))]; rfl))
      clear HPS HPP HPO HT HCH HCN HMT
      have HRZ := hide hRz
      clear hRz
      go_enter Tryz.func117, Tryz.ntmps117
      go_upto_region 3 with (fail)
      have HN := hide (show Blk ((w.alloc (.cells #[.int .i64 0, .int .i64 0, .int .i64 0, .string ⟨#[]⟩, .string ⟨#[]⟩, .int .i64 0, .bool false] 90)).alloc (.cells #[.int .i64 1, .int .i64 i, .int .i64 ((i : Int) + 1), .string (s.extract i (i + 1)), .string ⟨#[]⟩, .int .i64 0, .bool false] 90)) w.heap.size 90 #[.int .i64 0, .int .i64 0, .int .i64 0, .string ⟨#[]⟩, .string ⟨#[]⟩, .int .i64 0, .bool false] from (Blk.new w 90 #[.int .i64 0, .int .i64 0, .int .i64 0, .string ⟨#[]⟩, .string ⟨#[]⟩, .int .i64 0, .bool false]).alloc _)
      have HXB := hide (show Blk ((w.alloc (.cells #[.int .i64 0, .int .i64 0, .int .i64 0, .string ⟨#[]⟩, .string ⟨#[]⟩, .int .i64 0, .bool false] 90)).alloc (.cells #[.int .i64 1, .int .i64 i, .int .i64 ((i : Int) + 1), .string (s.extract i (i + 1)), .string ⟨#[]⟩, .int .i64 0, .bool false] 90)) (w.heap.size + 1) 90 #[.int .i64 1, .int .i64 i, .int .i64 ((i : Int) + 1), .string (s.extract i (i + 1)), .string ⟨#[]⟩, .int .i64 0, .bool false] from by have := Blk.new (w.alloc (.cells #[.int .i64 0, .int .i64 0, .int .i64 0, .string ⟨#[]⟩, .string ⟨#[]⟩, .int .i64 0, .bool false] 90)) 90 #[.int .i64 1, .int .i64 i, .int .i64 ((i : Int) + 1), .string (s.extract i (i + 1)), .string ⟨#[]⟩, .int .i64 0, .bool false]; simpa using this)
      have HBA := hide (bl_alloc (bl_alloc (Below.refl w.heap.size w) (.cells #[.int .i64 0, .int .i64 0, .int .i64 0, .string ⟨#[]⟩, .string ⟨#[]⟩, .int .i64 0, .bool false] 90)) (.cells #[.int .i64 1, .int .i64 i, .int .i64 ((i : Int) + 1), .string (s.extract i (i + 1)), .string ⟨#[]⟩, .int .i64 0, .bool false] 90))
      rw [HRE.out]
      generalize (w.alloc (.cells #[.int .i64 0, .int .i64 0, .int .i64 0, .string ⟨#[]⟩, .string ⟨#[]⟩, .int .i64 0, .bool false] 90)).alloc (.cells #[.int .i64 1, .int .i64 i, .int .i64 ((i : Int) + 1), .string (s.extract i (i + 1)), .string ⟨#[]⟩, .int .i64 0, .bool false] 90) = wa at *
      generalize w.heap.size + 1 = gx at *
      obtain ⟨z0, z1, z2, z3, z4, z5, z6, zf, zl⟩ := HN.out.seven
      obtain ⟨v0, v1, v2, v3, v4, v5, v6, -, vl⟩ := HXB.out.seven
      go_wp2_with (first | (go_at_call 133; (first | (with_reducible refine (H91.out _).mono ?_)); rintro e w' ⟨rfl, hw⟩; subst w') | (go_at_call 160; refine (HIX.out _).mono ?_; rintro e w3 ⟨rfl, hb3⟩; have HN3 := hide (HN.out.below hb3 HN.out.lt); have HXB3 := hide (HXB.out.below hb3 HXB.out.lt); have HB3 := hide (below_chainS HBA.out hb3); obtain ⟨y0, y1, y2, y3, y4, y5, y6, yf, yl⟩ := HN3.out.seven; obtain ⟨q0, q1, q2, q3, q4, q5, q6, -, ql⟩ := HXB3.out.seven; clear hb3))
      refine bodyPost_ret (results_cell_row (P := Tryz.prog) (by rfl) _ _ w.heap.size 90 _ (0, 0) _ rfl (seven_set HN3.out) Tryz.underlying90 rfl (by kernel_rfl)) rfl ?_
      exact HF.out _ (below_seven HB3.out (Nat.le_refl _))

end Go.Proofs.YtioppoaijehicaaGreatDoor
