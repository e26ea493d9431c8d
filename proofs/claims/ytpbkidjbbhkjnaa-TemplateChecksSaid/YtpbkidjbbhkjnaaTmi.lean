/-
  WALK: the reference's names of a template's fields.
-/
import Derived.Test.YtpbkidjbbhkjnaaTmh
namespace Go.Proofs.Ytpbkidjbbhkjnaa
open Go.RowKit Go.Sort

theorem fdNames_take_succ {ps : List Fd} {k : Nat} (h : k < ps.length) : fdNames (ps.take (k + 1)) = fdNames (ps.take k) ++ (if ps[k].i = true then [ps[k].n] else []) := by
  rw [List.take_add_one, List.getElem?_eq_getElem h, fdNames_append]
  congr 1
  unfold fdNames
  cases h0 : ps[k].i with
  | false =>
    rw [if_neg Bool.false_ne_true, Option.toList_some, List.filter_cons, if_neg (by rw [h0]; exact Bool.false_ne_true)]
    rfl
  | true =>
    rw [if_pos rfl, Option.toList_some, List.filter_cons, if_pos h0]
    rfl
theorem fdNames_le (ps : List Fd) : (fdNames ps).length ≤ ps.length := by
  unfold fdNames
  rw [List.length_map]
  exact List.length_filter_le _ _

set_option maxHeartbeats 6400000 in
set_option maxRecDepth 100000 in
theorem fieldsOf_any (s : ByteArray) (w : World) : Calls Try.prog 9 #[.string s] w (FsOut s w) := by
  have HRT := hide (templateFault_any s w)
  unfold TfOut at HRT
  have hc := tq_cases s
  have HPO : Hid ((∀ w', (tq s).2 ≠ 0 → Below w.heap.size w w' → FsOut s w (.returned (.tuple #[.slice none 0 0, .int .i64 ((tq s).2 : Nat)])) w') ∧
      (∀ A c w', tq s = (0, 0) → OwnK 1 9 w' w.heap.size (.slice A (nmList s).length c) (nmList s).length ((nmList s).map encStr) → Below w.heap.size w w' → FsOut s w (.returned (.tuple #[.slice A (nmList s).length c, .int .i64 0])) w')) :=
    hide ⟨fun w' h hb => ⟨hb, .inl ⟨h, rfl⟩⟩, fun A c w' h ho hb => ⟨hb, .inr ⟨h, A, c, rfl, ho⟩⟩⟩
  generalize FsOut s w = PO at *
  rcases hc with hc | hc
  · obtain ⟨iS, hiS, hzS0, hzS1, hzS2⟩ := info_parts info_strT
    have HIS := hide (And.intro hiS (And.intro hzS0 (And.intro hzS1 hzS2)))
    clear hiS hzS0 hzS1 hzS2
    have HP2 := hide (show Calls Try.prog 7 #[.string s] w (fun e w' => Below w.heap.size w w' ∧ ∃ A c, ∃ ps : List Fd, e = .returned (.tuple #[.slice A ps.length c, .int .i64 0, .int .i64 0]) ∧ FdAt w' A ps ∧ fdNames ps = (tm s 0).1 ∧ ps.length ≤ 400001) from HRT.out.mono (by
      rintro e w' ⟨hbl, (⟨hq2, _⟩ | ⟨_, A, c, ps, rfl, hx⟩)⟩
      · exact (hq2 (by rw [hc])).elim
      · exact ⟨hbl, A, c, ps, rfl, hx⟩))
    clear HRT
    have hlen := tq_len hc
    have hnl : nmList s = Lib.compact (srt ((tm s 0).1.map (·.data.toList))) := rfl
    have HOK := hide (HPO.out.2 · · · hc)
    rw [hnl] at HOK
    generalize (tm s 0).1 = N at *
    have HLN := hide hlen
    clear HPO hc hlen hnl
    go_enter Try.func9, Try.ntmps9
    go_upto_region 4 with (go_at_call 7; refine HP2.out.mono ?_; rintro e w' ⟨hbl, A, c, ps, rfl, hat, hnm, hps⟩; obtain ⟨os1, n1, rfl⟩ := below_plus hbl; have HBV := hide hbl; clear hbl)
    have HA := hide hat
    have HNM := hide hnm
    have hmax : ps.length ≤ maxLen := hat.1
    unfold maxLen at hmax
    have HBS := hide (show w.heap.size ≤ (plus w os1 n1).heap.size by rw [plus_size]; omega)
    clear hat hnm
    generalize plus w os1 n1 = V at *
    go_wp2
    go_loopw [7, 21] (fun o i wr => ∃ (k m : Nat) (A2 : Option Addr) (c2 : Nat) (xs : List Value) (os : Array Obj) (n : Nat), k ≤ ps.length ∧ m ≤ k ∧ o = .slice A2 m c2 ∧ i = .int .i64 k ∧ Hid (m = (fdNames (ps.take k)).length ∧ xs = strV (fdNames (ps.take k))) ∧ Hid (OwnK 1 9 wr V.heap.size (.slice A2 m c2) m xs) ∧ wr = plus V os n) (fun _ i _ => ps.length - (intOf i).toNat)
    case atStart => exact ⟨0, 0, none, 0, [], #[], _, Nat.zero_le _, Nat.zero_le _, rfl, rfl, hide ⟨rfl, rfl⟩, hide OwnK.empty, plus_nil.symm⟩
    case round =>
      obtain ⟨k, m, A2, c2, xs, os, n, hk, hmk, rfl, rfl, HX, HS, rfl⟩ := hrel
      by_cases hlt : k < ps.length
      · obtain ⟨b, o, rfl, hb, hv⟩ := HA.out.2 (by omega)
        obtain ⟨q0, q1, q2, q3, q4⟩ := hv k hlt
        have hnx := fdNames_take_succ hlt
        clear hv
        generalize ps[k] = y at *
        obtain ⟨yt, yn, yo, yi, yh⟩ := y
        dsimp only at q0 q1 q2 q3 q4 hnx
        cases yi with
        | false =>
          have HNX := hide (show fdNames (ps.take (k + 1)) = fdNames (ps.take k) by rw [hnx]; exact List.append_nil _)
          clear hnx
          go_wp2
          go_roundw
          case rel => exact ⟨k + 1, m, A2, c2, xs, _, _, hlt, by omega, rfl, by go_num, hide (by rw [HNX.out]; exact HX.out), hide (by repeat (first | with_reducible exact HS.out | with_reducible refine OwnK.alloc ?_ _ | with_reducible refine OwnK.plus ?_ _ _ | with_reducible refine OwnK.drew ?_)), by first | rfl | (rw [plus_alloc])⟩
          case measure => simp [intOf]; omega
        | true =>
          have HNX := hide (show fdNames (ps.take (k + 1)) = fdNames (ps.take k) ++ [yn] by rw [hnx]; rfl)
          clear hnx
          go_wp2_with (at_builtin; refine wpList_append_m rfl (.tmp 27) (.tmp 30) rfl rfl Try.underlying28 HIS.out.1 HIS.out.2.1 HIS.out.2.2.1 (by decide) rfl (by have := HIS.out.2.2.2; omega) V.heap.size m 1 (.slice A2 m c2) xs [.string yn] _ rfl (by repeat (first | with_reducible exact HS.out | with_reducible refine OwnK.alloc ?_ _ | with_reducible refine OwnK.plus ?_ _ _ | with_reducible refine OwnK.drew ?_)) (by decide) rfl (by intro u hu; simp only [List.mem_cons, List.not_mem_nil, or_false] at hu; rcases hu with rfl; rfl) rfl (newN_at (cs := [_]) (by simp only [World.size_alloc, plus_size, World.drew])) (by omega) (by simp only [World.size_alloc, plus_size, World.drew]; omega) ?_; intro v' w1 hown1 hgr1 hfr1; obtain ⟨os9, n9, rfl⟩ := grown_plus (L := V) (by repeat (first | exact Below.refl _ _ | refine bl_plus ?_ | refine bl_alloc ?_ _ | refine bl_drew ?_ | refine bl_drewN ?_ _)) hgr1 (fun q hq => (HS.out.lt q hq).1); obtain ⟨A1, c1, rfl, _⟩ := hown1.form; have HN := hide hown1; clear hown1 hgr1 hfr1)
          go_roundw
          case rel => exact ⟨k + 1, m + 1, A1, c1, xs ++ [.string yn], os9, n9, hlt, by omega, by go_num, by go_num, hide (by rw [HNX.out, List.length_append, ← HX.out.1, strV, List.map_append, HX.out.2]; exact ⟨rfl, rfl⟩), HN, rfl⟩
          case measure => simp [intOf]; omega
      · obtain rfl : k = ps.length := by omega
        have hx := HX.out
        rw [List.take_length, HNM.out] at hx
        obtain ⟨hm1, hx1⟩ := hx
        have HLL := hide (show (N.map (·.data.toList)).length ≤ 40 by rw [List.length_map]; exact HLN.out)
        have hs2 : OwnK 1 9 (plus V os n) V.heap.size (.slice A2 (N.map (·.data.toList)).length c2) (N.map (·.data.toList)).length ((N.map (·.data.toList)).map encStr) := by
          rw [← strV_enc, List.length_map, ← hm1, ← hx1]
          exact HS.out
        have hm2 : m = (N.map (·.data.toList)).length := by rw [List.length_map]; exact hm1
        clear HS HX HLN HNM hm1 hx1
        generalize N.map (·.data.toList) = l at *
        subst hm2
        have HS := hide hs2
        clear hs2
        go_wp2_with (first | (go_at_call 25; refine (sortS_any _ _ _ _ _ HS.out (by have := HLL.out; omega)).mono ?_; rintro e w' ⟨rfl, hown, hgr⟩; obtain ⟨os3, n3, rfl⟩ := grown_plus (L := V) (by repeat (first | exact Below.refl _ _ | refine bl_plus ?_ | refine bl_alloc ?_ _ | refine bl_drew ?_ | refine bl_drewN ?_ _)) hgr (fun q hq => (HS.out.lt q hq).1); have HS2 := hide hown; clear hown hgr HS) | (go_at_call 27; refine (compactS_n _ _ _ _ _ _ (srt_len _) HS2.out (by have := HLL.out; omega)).mono ?_; rintro e w' ⟨rfl, hown, hgr⟩; obtain ⟨os4, n4, rfl⟩ := grown_plus (L := V) (by repeat (first | exact Below.refl _ _ | refine bl_plus ?_ | refine bl_alloc ?_ _ | refine bl_drew ?_ | refine bl_drewN ?_ _)) hgr (fun q hq => (HS2.out.lt q hq).1); have HS3 := hide hown; clear hown hgr HS2))
        exact HOK.out _ _ _ (HS3.out.low HBS.out) (HBV.out.trans (Below.mono (by repeat (first | exact Below.refl _ _ | refine bl_plus ?_ | refine bl_alloc ?_ _ | refine bl_drew ?_ | refine bl_drewN ?_ _)) HBS.out))
  · have HP2 := hide (show Calls Try.prog 7 #[.string s] w (fun e w' => Below w.heap.size w w' ∧ e = .returned (.tuple #[.slice none 0 0, .int .i64 ((tq s).1 : Nat), .int .i64 ((tq s).2 : Nat)])) from HRT.out.mono (by
      rintro e w' ⟨hbl, (⟨_, rfl⟩ | ⟨hq2, _⟩)⟩
      · exact ⟨hbl, rfl⟩
      · exact (hc (by rw [hq2])).elim))
    clear HRT
    have HER := hide (HPO.out.1 · hc)
    clear HPO
    generalize tq s = R at *
    obtain ⟨q, r⟩ := R
    simp only at hc
    dsimp only at HP2 HER
    have hr : ((r : Int) != 0) = true := bne_iff_ne.2 (by omega)
    have hr2 : (r : Int) ≠ 0 := by omega
    clear hc
    go_enter Try.func9, Try.ntmps9
    go_wp2_with (go_at_call 7; refine HP2.out.mono ?_; rintro e w' ⟨hbl, rfl⟩; obtain ⟨os1, n1, rfl⟩ := below_plus hbl; clear hbl)
    exact HER.out _ (by repeat (first | exact Below.refl _ _ | refine bl_plus ?_ | refine bl_alloc ?_ _ | refine bl_drew ?_ | refine bl_drewN ?_ _))

end Go.Proofs.Ytpbkidjbbhkjnaa
