/-
  WALKS: the names of a page, the reference's way.
-/
import Derived.Test.YtafgfldcbdkccaaGreatDoorLki
set_option linter.all false
namespace Go.Proofs.YtafgfldcbdkccaaGreatDoor
open Go.RowKit Go.Lib Go.Maps Go.WideElems Go.WideMaps Go.Shelf

set_option maxHeartbeats 6400000 in
set_option maxRecDepth 100000 in
theorem bookNames_any (l : List BK) (A : Option Addr) (c : Nat) (w0 W : World) (h : BK0 l A c w0 W) {m : Nat} (hm : m < l.length) :
    Calls Tryz.prog 18 #[.agg #[.slice A l.length c], .int .i64 l[m].id] W (AlOut (namesOf l l[m].id) W) := by
  have HBB := hide (fun W' (hb : Below W.heap.size W W') => bookBlock_any l A c w0 W' (h.below hb) hm)
  have HALS := hide (fun W' (hb : Below W.heap.size W W') => bookAliases_any l A c w0 W' (h.below hb) hm)
  unfold BbOut at HBB
  unfold AlOut at HALS
  obtain ⟨b0, o0, A1, c1, A2, c2, rfl, hlb, q0, q1, q2, q3, q4, hks, hps⟩ := h.at_.getB h.bel hm
  have HQ3 := hide q3
  have hmt := h.told
  have hbel := h.bel
  have R := h.right
  have hbk := bkOf_at R.good.ids hm
  have hal := R.als hm
  have h2 := R.txt _ (List.getElem_mem hm)
  unfold namesOf alOf
  rw [hbk]
  clear hbk R q0 q1 q2 q3 q4 hks hps h
  generalize l[m] = x at *
  obtain ⟨xi, xp, xk, xt, xs⟩ := x
  (try simp only at *)
  have HPO : Hid (∀ A c w', OwnK 1 9 w' W.heap.size (.slice A (ddN [] (xt :: alsA xs)).length c) (ddN [] (xt :: alsA xs)).length (sV (ddN [] (xt :: alsA xs))) → Below W.heap.size W w' → AlOut (ddN [] (xt :: alsA xs)) W (.returned (.slice A (ddN [] (xt :: alsA xs)).length c)) w') := hide fun A c w' h1 h2 => ⟨A, c, rfl, h1, h2⟩
  generalize AlOut (ddN [] (xt :: alsA xs)) W = PO at *
  obtain ⟨iS, hiS, hzS0, hzS1, hzS2⟩ := info_parts info_strL
  have HIS := hide (And.intro hiS (And.intro hzS0 (And.intro hzS1 hzS2)))
  have HMT := hide (fun W' (hb : Below W.heap.size W W') => maxTold_below (maxTold_below hmt hbel) hb)
  have HSZ := hide (show ∀ a ∈ xt :: alsA xs, a.size ≤ 2000 from fun a ha => by
    rcases List.mem_cons.1 ha with rfl | ha
    · exact h2
    · exact hal.2 a ha)
  have hal20 := hal.1
  have hmm := @run_makeMap Tryz.prog
  clear hiS hzS0 hzS1 hzS2 hal h2 hmt hbel
  go_enter Tryz.func18, Tryz.ntmps18
  go_upto_region 3 with (fail)
  have HB5 := hide (show Blk ((W.alloc (.cells #[.slice (some ⟨b0, o0, none⟩) l.length c] 37)).alloc (.map #[] 0)) W.heap.size 37 #[.slice (some ⟨b0, o0, none⟩) l.length c] from (Blk.new W _ _).alloc _)
  have HNU := hide (nu_made (g := W.heap.size + 1) (W.alloc (.cells #[.slice (some ⟨b0, o0, none⟩) l.length c] 37)) (by simp))
  have HB2 := hide (bl_alloc (bl_alloc (Below.refl W.heap.size W) (.cells #[.slice (some ⟨b0, o0, none⟩) l.length c] 37)) (.map #[] 0))
  have HGM := hide (show W.heap.size ≤ W.heap.size + 1 from Nat.le_succ _)
  generalize (W.alloc (.cells #[.slice (some ⟨b0, o0, none⟩) l.length c] 37)).alloc (.map #[] 0) = W2 at *
  generalize W.heap.size + 1 = gm at *
  have HQ := hide (fun W' (hb : Below W2.heap.size W2 W') => (⟨(HB5.out.below hb HB5.out.lt).cell 0, (below_chainT HB2.out hb).cell (p := ⟨b0, o0 + m * 5 + 3, none⟩) hlb |>.trans HQ3.out, Nat.lt_of_lt_of_le HB5.out.lt hb.size, Nat.lt_of_lt_of_le hlb (below_chainT HB2.out hb).size⟩ : W'.cell? ⟨W.heap.size, 0, none⟩ = some (.slice (some ⟨b0, o0, none⟩) l.length c) ∧ W'.cell? ⟨b0, o0 + m * 5 + 3, none⟩ = some (.string xt) ∧ W.heap.size < W'.heap.size ∧ b0 < W'.heap.size))
  obtain ⟨qa, qb, qc, qd⟩ := HQ.out W2 (Below.refl _ _)
  have HBB2 := hide (fun W' (hb : Below W2.heap.size W2 W') => (HBB.out W' (below_chainT HB2.out hb)).mono (fun e w' h => (⟨h.1, below_chainT hb h.2, fun Wx hx => below_chainT hx h.2⟩ : (∃ b o, some (⟨b0, o0, none⟩ : Addr) = some ⟨b, o, none⟩ ∧ e = Ending.returned (.pointer (some ⟨b, o + m * 5, none⟩))) ∧ Below W2.heap.size W2 w' ∧ ∀ Wx : World, Below Wx.heap.size Wx W' → Below Wx.heap.size Wx w')))
  have HALS2 := hide (fun W' (hb : Below W2.heap.size W2 W') => (HALS.out W' (below_chainT HB2.out hb)).mono (fun e w' ⟨A8, c8, he, hrow, hb2⟩ => (⟨A8, c8, he, hrow, below_chainT hb hb2, fun Wx hx => below_chainT hx hb2⟩ : ∃ A8 c8, e = Ending.returned (.slice A8 (alsA xs).length c8) ∧ OwnK 1 9 w' W'.heap.size (.slice A8 (alsA xs).length c8) (alsA xs).length (sV (alsA xs)) ∧ Below W2.heap.size W2 w' ∧ ∀ Wx : World, Below Wx.heap.size Wx W' → Below Wx.heap.size Wx w')))
  clear HALS HBB hmm HB5 HQ3
  have HALS := HALS2
  have HBB := HBB2
  clear HALS2 HBB2
  generalize alsA xs = als at *
  obtain ⟨L, hL⟩ : ∃ L, L = xt :: als := ⟨_, rfl⟩
  rw [← hL] at HPO HSZ
  have HLE := hide hL
  have hl21 : L.length ≤ 21 := by rw [hL, List.length_cons]; omega
  clear hL
  go_cut [21, 22, 23] from 11 to 23 (fun s20 s21 s22 wx => ∃ (A9 : Option Addr) (c9 : Nat), s20 = .slice A9 L.length c9 ∧ s21 = .int .i64 L.length ∧ s22 = .int .i64 0 ∧ Hid (SAt wx A9 L) ∧ Hid (∀ a, A9 = some a → W2.heap.size ≤ a.block) ∧ Hid (Below W2.heap.size W2 wx))
  case first =>
   go_region_law (first
    | ((refine step_append_v rfl (.tmp 17) (.tmp 20) rfl rfl Tryz.underlying26 HIS.out.1 HIS.out.2.1 HIS.out.2.2.1 (by decide) rfl (by have := HIS.out.2.2.2; omega) W2.heap.size 1 als.length c8 (.slice (some ⟨wb.heap.size, 0, none⟩) 1 1) [.string xt] (sV als) A8 rfl ?own (by decide) (by rw [sV_len, Nat.mul_one]) (sV_one _) rfl ?src (by omega) ?bs ?_); (case src => exact sAt_src HRS.out); (case own => exact ownK_below (ownK_newL wb _ [.string xt] rfl rfl HWb.out.size) (HALA.out _ (by first | exact Below.refl _ _ | exact bl_drew (Below.refl _ _)))); (case bs => have h1 := HWa.out.size; have h2 := HWb.out.size; (try simp only [World.size_alloc, World.drew]); omega); intro v' w9 hown hgr hfr; have HBW := hide (show Below W2.heap.size W2 w9 from (HWa.out).grown hgr (Below.size HWa.out) (fun k hk => by have e9 : wb.heap.size = k := (by simpa [Value.ownBlock] using hk); rw [← e9]; exact HWb.out.size)); rw [show 1 + als.length = (xt :: als).length from Nat.add_comm _ _, show [Value.string xt] ++ sV als = sV (xt :: als) from rfl, ← HLE.out] at hown; obtain ⟨A9, c9, rfl, -⟩ := ownK_form hown; have HRW := hide (sAt_own hown).2.2.2; have HRB := hide (ownK_addr hown); clear hown hgr hfr)
    | ((refine step_append_v rfl (.tmp 17) (.tmp 20) rfl rfl Tryz.underlying26 HIS.out.1 HIS.out.2.1 HIS.out.2.2.1 (by decide) rfl (by have := HIS.out.2.2.2; omega) W2.heap.size 1 als.length c8 (.slice (some ⟨wb.heap.size, 0, none⟩) 1 1) [.string xt] (sV als) A8 rfl ?own (by decide) (by rw [sV_len, Nat.mul_one]) (sV_one _) rfl ?src (by omega) ?bs ?_); (case src => exact sAt_src (HRS.out.below (bl_alloc (HALB.out wa (by first | exact Below.refl _ _ | exact bl_drew (Below.refl _ _))) _))); (case own => exact ownK_newL wb _ [.string xt] rfl rfl HWb.out.size); (case bs => have h1 := HWa.out.size; have h2 := HWb.out.size; (try simp only [World.size_alloc, World.drew]); omega); intro v' w9 hown hgr hfr; have HBW := hide (show Below W2.heap.size W2 w9 from ((bl_alloc HWb.out _)).grown hgr (Below.size (bl_alloc HWb.out _)) (fun k hk => by have e9 : wb.heap.size = k := (by simpa [Value.ownBlock] using hk); rw [← e9]; exact HWb.out.size)); rw [show 1 + als.length = (xt :: als).length from Nat.add_comm _ _, show [Value.string xt] ++ sV als = sV (xt :: als) from rfl, ← HLE.out] at hown; obtain ⟨A9, c9, rfl, -⟩ := ownK_form hown; have HRW := hide (sAt_own hown).2.2.2; have HRB := hide (ownK_addr hown); clear hown hgr hfr)
    | ((refine step_append_v rfl (.tmp 17) (.tmp 20) rfl rfl Tryz.underlying26 HIS.out.1 HIS.out.2.1 HIS.out.2.2.1 (by decide) rfl (by have := HIS.out.2.2.2; omega) W2.heap.size 1 als.length c8 (.slice (some ⟨wa.heap.size, 0, none⟩) 1 1) [.string xt] (sV als) A8 rfl ?own (by decide) (by rw [sV_len, Nat.mul_one]) (sV_one _) rfl ?src (by omega) ?bs ?_); (case src => exact sAt_src (HRS.out.below (bl_alloc (Below.refl _ _) _))); (case own => exact ownK_newL wa _ [.string xt] rfl rfl HWa.out.size); (case bs => have h1 := HWa.out.size; have h2 := HWb.out.size; (try simp only [World.size_alloc, World.drew]); omega); intro v' w9 hown hgr hfr; have HBW := hide (show Below W2.heap.size W2 w9 from ((bl_alloc HWa.out _)).grown hgr (Below.size (bl_alloc HWa.out _)) (fun k hk => by have e9 : wa.heap.size = k := (by simpa [Value.ownBlock] using hk); rw [← e9]; exact HWa.out.size)); rw [show 1 + als.length = (xt :: als).length from Nat.add_comm _ _, show [Value.string xt] ++ sV als = sV (xt :: als) from rfl, ← HLE.out] at hown; obtain ⟨A9, c9, rfl, -⟩ := ownK_form hown; have HRW := hide (sAt_own hown).2.2.2; have HRB := hide (ownK_addr hown); clear hown hgr hfr)
    | (go_simp; go_at_call 34; refine (HBB.out _ ?hb).mono ?_; (case hb => first | exact HWa.out | exact bl_drew HWa.out | exact (by repeat (first | with_reducible exact Below.refl _ _ | with_reducible refine bl_plus ?_ | with_reducible refine bl_alloc ?_ _ | with_reducible refine bl_drew ?_ | with_reducible refine bl_drewN ?_ _))); rintro e wb ⟨⟨b9, o9, e9, rfl⟩, hbb, hall⟩; have HWb := hide hbb; have HALB := hide hall; injection e9 with e9; injection e9 with e91 e92; subst e91 e92; obtain ⟨qa, qb, qc, qd⟩ := HQ.out wb hbb; clear hbb hall)
    | (go_simp; go_at_call 36; refine (HALS.out _ ?hb).mono ?_; (case hb => first | exact bl_alloc HWb.out _ | exact bl_drew (bl_alloc HWb.out _) | exact HWb.out | exact bl_drew HWb.out | exact (by repeat (first | with_reducible exact Below.refl _ _ | with_reducible refine bl_plus ?_ | with_reducible refine bl_alloc ?_ _ | with_reducible refine bl_drew ?_ | with_reducible refine bl_drewN ?_ _))); rintro e wa ⟨A8, c8, rfl, hrow, hbb, hall⟩; have HWa := hide hbb; have HALA := hide hall; have HRS := hide (sAt_own hrow).2.2.2; obtain ⟨qa, qb, qc, qd⟩ := HQ.out wa hbb; clear hrow hbb hall))
   all_goals
    go_wp2
    go_meet
    case rel => exact ⟨A9, c9, rfl, rfl, rfl, HRW, HRB, HBW⟩
  case rest =>
    obtain ⟨A9, c9, rfl, rfl, rfl, HRW, HRB, HBW⟩ := hcut
    obtain ⟨w9, hw9⟩ : ∃ w9 : World, w9 = wc := ⟨_, rfl⟩
    subst hw9
    clear HALS HBB HQ hal20
    have HS0 := hide (OwnK.empty (K := 1) (e := 9) (w := w9) (base := w9.heap.size))
    have HK0 := hide (Kin.refl W2.heap.size w9)
    have HB9 := hide (HB2.out.trans (HBW.out.mono HB2.out.size))
    have HN0 := hide (HNU.out.below HBW.out)
    have HGML := hide (show gm < W2.heap.size from HNU.out.own.lt)
    have HW9 := hide HBW.out.size
    clear HBW HNU
    go_wp2
    go_loopw [5, 23] (fun s6 i9 wr => ∃ (j : Nat) (out : List ByteArray) (S : List (List UInt8)) (D : DataW Unit), j ≤ L.length ∧ i9 = .int .i64 j ∧ Hid (NmJ L j out S) ∧ Hid (OwnK 1 9 wr w9.heap.size s6 out.length (sV out)) ∧ Hid (NU gm wr S.length D S) ∧ Hid (Below W.heap.size W wr) ∧ Hid (Kin W2.heap.size w9 wr)) (fun _ i9 _ => L.length - (intOf i9).toNat)
    case atStart => exact ⟨0, [], [], _, Nat.zero_le _, rfl, hide (nmJ_start L), hide (ownK_below HS0.out (by repeat (first | with_reducible exact Below.refl _ _ | with_reducible refine bl_plus ?_ | with_reducible refine bl_alloc ?_ _ | with_reducible refine bl_drew ?_ | with_reducible refine bl_drewN ?_ _))), hide (HN0.out.below (by repeat (first | with_reducible exact Below.refl _ _ | with_reducible refine bl_plus ?_ | with_reducible refine bl_alloc ?_ _ | with_reducible refine bl_drew ?_ | with_reducible refine bl_drewN ?_ _))), hide (below_chainT HB9.out (by repeat (first | with_reducible exact Below.refl _ _ | with_reducible refine bl_plus ?_ | with_reducible refine bl_alloc ?_ _ | with_reducible refine bl_drew ?_ | with_reducible refine bl_drewN ?_ _))), hide (HK0.out.below (by repeat (first | with_reducible exact Below.refl _ _ | with_reducible refine bl_plus ?_ | with_reducible refine bl_alloc ?_ _ | with_reducible refine bl_drew ?_ | with_reducible refine bl_drewN ?_ _)))⟩
    case round =>
      clear HS0 HK0 HB9 HN0
      obtain ⟨j, out, S, D, hj, rfl, HNJ, HOW, HN, HB, HK⟩ := hrel
      obtain ⟨A6, c6, rfl, hs4, hs5, hs6⟩ := ownK_form HOW.out
      by_cases hlt : j < L.length
      · obtain ⟨b5, o5, rfl, hb5, hc5⟩ := (HRW.out.kin HK.out (fun a ha => HRB.out a ha)).2 (by omega)
        have z1 := hc5 j hlt
        have hsz := HSZ.out L[j] (List.getElem_mem hlt)
        have HF := hide (foldOfTitle_any L[j] wr (HMT.out wr HB.out) (by omega))
        have HSK := hide (fun h => HNJ.out.skip hlt h)
        have HTK := hide (fun h => HNJ.out.take hlt h)
        have hfs := foldT_size L[j]
        have hol := HNJ.out.2
        have i1 : (j : Int) < (L.length : Int) := by omega
        clear hc5
        rw [← foldA_eq] at HSK HTK
        generalize L[j] = a at *
        have hzz : (foldT a).size ≤ maxLen := by unfold maxLen; omega
        generalize foldT a = z at *
        go_upto_region 7 with (go_at_call 10; refine HF.out.mono ?_; rintro e w2 ⟨rfl, hbl⟩; have HOW2 := hide (ownK_below HOW.out hbl); have HN2 := hide (HN.out.below hbl); have HB2' := hide (below_chainT HB.out hbl); have HK2 := hide (HK.out.below hbl); clear hbl)
        have hlk := HN2.out.look hzz
        clear HOW HN HB HK HF
        cases hd : decide (z.data.toList ∈ S) with
        | true =>
          rw [hd] at hlk
          have HR := hide (HSK.out (of_decide_eq_true hd))
          clear hd HSK HTK
          go_wp2
          go_roundw
          case rel => exact ⟨j + 1, out, S, D, by omega, by go_num, HR, HOW2, HN2, HB2', HK2⟩
          case measure => simp [intOf]; omega
        | false =>
          rw [hd] at hlk
          have HR := hide (HTK.out (of_decide_eq_false hd))
          have hkey : keyOf Tryz.prog 9 (.string z) = some (.string z.data.toList) := keyOf_string_mk Tryz.underlying9 hzz
          have hn9 : S.length < maxLen := by unfold maxLen; omega
          clear hd HSK HTK
          go_wp2_with (first
            | (at_mapUpdate; go_loud (refine wpList_mapUpdate_own _ rfl _ _ _ 69 rfl 9 4 lawT Tryz.underlying69 _ gm S.length D rfl HN2.out.own hn9 _ _ _ rfl rfl hkey _ [] (plainElem_bool Tryz.underlying4 true) ?_; intro w3 hown3 hgr3; have HN3 := hide (HN2.out.put hown3); have HOW3 := hide (HOW2.out.kept (w' := w3) (fun k hk => hgr3.block k (HOW2.out.lt k hk).2 (fun e => by injection e with e; have := (HOW2.out.lt k hk).1; have := HGML.out; have := HW9.out; omega))); have HB3 := hide (HB2'.out.grown hgr3 HB2'.out.size (fun k hk => by injection hk with hk; have := HGM.out; omega)); have HK3 := hide (HK2.out.grown hgr3 HGML.out); clear hown3 hgr3))
            | (at_builtin; go_loud (refine wpList_append_k rfl (.tmp 35) (.tmp 37) rfl rfl Tryz.underlying26 HIS.out.1 HIS.out.2.1 HIS.out.2.2.1 (by decide) rfl (by have := HIS.out.2.2.2; omega) w9.heap.size out.length (.slice A6 out.length c6) (sV out) [.string a] w3.heap.size rfl (ownK_below HOW3.out (bl_alloc (Below.refl _ _) _)) rfl (by intro u hu; rw [List.mem_singleton.1 hu]; rfl) rfl (newN_cells rfl) (by omega) (by have := HK3.out.1; simp only [World.size_alloc]; omega) ?_; intro v' w4 hown hgr hfr; have HOW4 := hide hown; have HB4 := hide (below_grown1 HB3.out hgr (bl_alloc (Below.refl _ _) _) (fun k hk => Nat.le_trans (Nat.le_trans HB2.out.size HW9.out) (HOW3.out.lt k hk).1)); have HK4 := hide ((HK3.out.below (bl_alloc (Below.refl _ _) _)).high hgr (fun k hk => (HOW3.out.lt k hk).1)); have HN4 := hide ((HN3.out.below (bl_alloc (Below.refl _ _) _)).grown hgr (fun e => by have h9 := (HOW3.out.lt _ e.symm).1; have := HGML.out; have := HW9.out; omega)); clear hown hgr hfr)))
          go_roundw
          case rel => exact ⟨j + 1, out ++ [a], z.data.toList :: S, _, by omega, by go_num, HR, hide (by rw [List.length_append, sV_snoc]; exact HOW4.out), HN4, HB4, HK4⟩
          case measure => simp [intOf]; omega
      · obtain rfl : j = L.length := by omega
        have HE := hide HNJ.out.end_
        have hout := HE.out
        have HF := hide (HPO.out A6 c6 wr (by rw [← hout]; exact ownK_low HOW.out (Nat.le_trans HB2.out.size HW9.out)) HB.out)
        rw [← hout] at HF
        clear hout HE HNJ
        go_wp2
        exact HF.out


end Go.Proofs.YtafgfldcbdkccaaGreatDoor
