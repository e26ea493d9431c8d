/-
  WALK: the program reads properties.
-/
import Derived.Test.YtdncmjlakmkfiaaGreatDoorPrs
import Derived.Test.YtdncmjlakmkfiaaGreatDoorPpc
import Derived.Test.YtdncmjlakmkfiaaGreatDoorVxj
import Derived.Test.YtdncmjlakmkfiaaGreatDoorAlv
set_option linter.all false
namespace Go.Proofs.YtdncmjlakmkfiaaGreatDoor
open Go.RowKit

theorem cutS_any (s sep a b : ByteArray) (f : Bool) (w : World) (hm : MaxTold w) (hs : s.size ≤ 400000) (h : Lib.cut s.data.toList sep.data.toList = (a.data.toList, b.data.toList, f)) :
    Calls Tryz.prog 48 #[.string s, .string sep] w fun e w' => e = .returned (.tuple #[.string a, .string b, .bool f]) ∧ ∃ n, w' = w.drewN n := by
  have e : ∀ x : ByteArray, (⟨x.data.toList.toArray⟩ : ByteArray) = x := fun x => by simp
  have := Tryz.cut_any s sep w hm (by omega)
  rw [h] at this
  dsimp only at this
  rwa [e, e] at this

theorem containsS1_any (s q : ByteArray) (b : Bool) (w : World) (hm : MaxTold w) (hs : s.size ≤ 400000) (h : Lib.contains s.data.toList q.data.toList = b) :
    Calls Tryz.prog 49 #[.string s, .string q] w fun e w' => e = .returned (.bool b) ∧ w' = w := by
  have := Tryz.contains_any s q w hm (by omega)
  rwa [h] at this

theorem hasP_any (s q : ByteArray) (b : Bool) (w : World) (h : Lib.hasPrefix s.data.toList q.data.toList = b) :
    Calls Tryz.prog 50 #[.string s, .string q] w fun e w' => e = .returned (.bool b) ∧ w' = w := by
  have := Tryz.hasPrefix_any s q w
  rwa [h] at this

/-- The parts of a line, as strings. -/
theorem line_parts (l : List UInt8) : ∃ (ln rs : ByteArray) (ce : Bool) (nm tb : ByteArray) (de : Bool), lineC l = (ln.data.toList, rs.data.toList, ce) ∧ lineD l = (nm.data.toList, tb.data.toList, de) :=
  ⟨strOf (lineC l).1, strOf (lineC l).2.1, _, strOf (lineD l).1, strOf (lineD l).2.1, _, by rw [strOf_data, strOf_data], by rw [strOf_data, strOf_data]⟩

theorem below_end2 {w W W' : World} (h : Below w.heap.size w W) (hb : Below W.heap.size W W') : Below w.heap.size w W' := h.trans (hb.mono h.size)

theorem size_le_of {a : ByteArray} {l : List UInt8} {n : Nat} (h : a.data.toList = l) (hl : l.length ≤ n) : a.size ≤ n := by rw [← size_list a, h]; exact hl

set_option maxHeartbeats 3200000 in
set_option maxRecDepth 100000 in
theorem readProps_any (s : ByteArray) (w : World) (hp : PowTab w) (hm : MaxTold w) :
    Calls Tryz.prog 12 #[.string s] w (PrOut w (readPs s)) := by
  have hb0 := Below.refl w.heap.size w
  generalize hQ : readPs s = R
  unfold readPs at hQ
  by_cases hs : 400000 < s.size
  · rw [if_pos hs] at hQ
    subst hQ
    go_enter Tryz.func12, Tryz.ntmps12
    go_wp2
    go_returns
    exact PrOut.nil (by repeat (first | exact Below.refl _ _ | with_reducible refine bl_plus ?_ | with_reducible refine bl_alloc ?_ _ | with_reducible refine bl_drew ?_ | with_reducible refine bl_drewN ?_ _))
  · rw [if_neg hs] at hQ
    obtain ⟨iP, hiP, hzP0, hzP1, hzP2⟩ := info_parts info_prop
    have HIP := hide (And.intro hiP (And.intro hzP0 (And.intro hzP1 hzP2)))
    have HP := hide hp
    have HM := hide hm
    have HQ := hide hQ
    have HB0 := hide hb0
    clear hp hm hQ hb0 hiP hzP0 hzP1 hzP2
    go_enter Tryz.func12, Tryz.ntmps12
    go_wp2
    go_loopw [0, 5, 6, 7] (fun s0 s5 s6 s7 wr => ∃ (sc : ByteArray) (ps : List CP) (A : Option Addr) (c k n : Nat) (far : Bool) (acc : List PR), s0 = .string sc ∧ s5 = .slice A ps.length c ∧ s6 = .bool far ∧ s7 = .int .i64 k ∧ Hid (Row6 wr w.heap.size (.slice A ps.length c) ps) ∧ Hid (Below w.heap.size w wr) ∧ Hid (R = rdPs n sc.data.toList acc k far ∧ sc.size < n ∧ (far = false → acc = ps.map CP.pr)) ∧ Hid (k + sc.size ≤ 400001 ∧ ps.length + 1 = k) ∧ Hid (∀ p ∈ ps, p.q.x.fits)) (fun s0 _ _ _ _ => szOf s0)
    case atStart => exact ⟨s, [], none, 0, 1, s.size + 1, false, [], rfl, rfl, rfl, rfl, hide row6_nil, HB0, hide ⟨HQ.out.symm, Nat.lt_succ_self _, fun _ => rfl⟩, hide ⟨by omega, rfl⟩, hide (fun p hp => by cases hp)⟩
    case round =>
      obtain ⟨sc, ps, A, c, k, n, far, acc, rfl, rfl, rfl, rfl, HRW, HB, HR, HK, HF⟩ := hrel
      clear HQ HB0
      cases n with
      | zero => exact absurd HR.out.2.1 (by omega)
      | succ n =>
        cases hl : sc.data.toList with
        | nil =>
          have t1 : sc.toList.isEmpty = true := by rw [Lib.toList_data, hl]; rfl
          have t2 : (sc.toList == []) = true := by rw [Lib.toList_data, hl]; rfl
          have HE := hide (show R = endPs acc far by rw [HR.out.1, hl, rdPs_end])
          clear hl
          cases far with
          | true =>
            go_wp2
            (try simp only [Exit.inBlock, Exit.then])
            go_returns
            rw [HE.out]
            exact PrOut.nil (by repeat (first | with_reducible exact HB.out | with_reducible refine bl_drewN ?_ _ | with_reducible refine bl_drew ?_ | with_reducible refine bl_plus ?_ | with_reducible refine bl_alloc ?_ _))
          | false =>
            obtain rfl := HR.out.2.2 rfl
            have HPA := hide HRW.out.psAt.2
            have HCK := hide (fun W (hb : Below wr.heap.size wr W) => checkProps_any (ps.map CP.pr) A c W (HPA.out.below hb))
            simp only [List.length_map] at HCK
            by_cases he : propsErr (ps.map CP.pr) = 0
            · have HE2 := hide (show R = (ps.map CP.pr, 0, 0) by rw [HE.out]; unfold endPs; rw [if_neg (by decide), if_neg (by rw [he]; decide)])
              have h20 := propsErr_len he
              rw [List.length_map] at h20
              rw [he] at HCK
              obtain ⟨ps2, hps2, hpc⟩ := HPA.out.open_
              have hl2 : ps2.length = ps.length := by have := congrArg List.length hps2; rwa [List.length_map, List.length_map] at this
              have HCP := hide (fun W (hb : Below wr.heap.size wr W) => copyProps_any A c ps2 W (hpc.below hb) (by omega) (fun p hp => by
                have h9 : p.pr ∈ ps.map CP.pr := by rw [← hps2]; exact List.mem_map_of_mem hp
                obtain ⟨p', hp', he'⟩ := List.mem_map.1 h9
                have h8 := HF.out p' hp'
                have h7 : p.q.x = p'.q.x := (congrArg PR.v he').symm
                rw [h7]; exact h8))
              rw [hps2, hl2] at HCP
              clear hps2 hpc hl2
              clear he h20
              unfold CopyPsOut at HCP
              simp only [List.length_map] at HCP
              go_wp2_with (first | (go_at_call 35; (refine (HCK.out _ (by repeat (first | exact Below.refl _ _ | with_reducible refine bl_plus ?_ | with_reducible refine bl_alloc ?_ _ | with_reducible refine bl_drew ?_ | with_reducible refine bl_drewN ?_ _))).mono ?_); rintro e w' ⟨rfl, hbl⟩; have HBC := hide hbl; obtain ⟨os2, n2, rfl⟩ := below_plus hbl; clear hbl) | (go_at_call 51; (refine (HCP.out _ (by repeat (first | exact Below.refl _ _ | with_reducible refine bl_plus ?_ | with_reducible refine bl_alloc ?_ _ | with_reducible refine bl_drew ?_ | with_reducible refine bl_drewN ?_ _))).mono ?_); rintro e w' ⟨A3, qs, rfl, hqs, hrow, hbl⟩; have HRO := hide (And.intro hqs hrow); have HBP := hide hbl; clear hqs hrow hbl))
              (try simp only [Exit.inBlock, Exit.then])
              go_returns
              rw [HE2.out]
              refine ⟨A3, ps.length, by simp, ?_, ?_⟩
              · have h9 := HRO.out.2.psAt.2
                rwa [HRO.out.1] at h9
              · exact HB.out.trans ((HBC.out.mono (Nat.le_refl _)).trans (HBP.out.mono (HBC.out.size)) |>.mono HB.out.size)
            · have HE2 := hide (show R = ([], 0, propsErr (ps.map CP.pr)) by rw [HE.out]; unfold endPs; rw [if_neg (by decide), if_pos he])
              have he2 : (propsErr (ps.map CP.pr) != 0) = true := bne_iff_ne.2 he
              clear he
              generalize propsErr (ps.map CP.pr) = E at *
              go_wp2_with (first | (go_at_call 35; (refine (HCK.out _ (by repeat (first | exact Below.refl _ _ | with_reducible refine bl_plus ?_ | with_reducible refine bl_alloc ?_ _ | with_reducible refine bl_drew ?_ | with_reducible refine bl_drewN ?_ _))).mono ?_); rintro e w' ⟨rfl, hbl⟩; have HBC := hide hbl; obtain ⟨os2, n2, rfl⟩ := below_plus hbl; clear hbl))
              (try simp only [Exit.inBlock, Exit.then])
              go_returns
              rw [HE2.out]
              exact PrOut.nil (by repeat (first | with_reducible exact HB.out | with_reducible refine bl_drewN ?_ _ | with_reducible refine bl_drew ?_ | with_reducible refine bl_plus ?_ | with_reducible refine bl_alloc ?_ _))
        | cons b0 l0 =>
          have t1 : sc.toList.isEmpty = false := by rw [Lib.toList_data, hl]; rfl
          have t2 : (sc.toList == []) = false := by rw [Lib.toList_data, hl]; rfl
          have HNE := hide (show sc.data.toList ≠ [] by rw [hl]; simp)
          clear hl
          have hsc : sc.size ≤ 400000 := by have := HK.out.1; have := HK.out.2; omega
          have HSZ := hide (line_sizes sc.data.toList)
          obtain ⟨ln, rs, ce, nm, tb, de, hlc, hld⟩ := line_parts sc.data.toList
          have hz := HSZ.out
          rw [hlc, hld] at hz
          simp only [size_list] at hz
          have HLC := hide hlc
          have HLD := hide hld
          have HZ := hide hz
          have HC1 := hide (fun W hm => cutS_any sc ⟨#[10]⟩ ln rs ce W hm hsc hlc)
          have HC2 := hide (fun W hm => cutS_any ln ⟨#[58, 58]⟩ nm tb de W hm (Nat.le_trans hz.1 hsc) (by have h9 := hld; unfold lineD at h9; rw [hlc] at h9; exact h9))
          have ik : IntKind.i64.wrap ((k : Int) + 1) = (k : Int) + 1 := IntWalk.i64_in _ (by have := HK.out.1; omega)
          generalize h4 : Lib.contains nm.data.toList (⟨#[32]⟩ : ByteArray).data.toList = b4
          generalize h5 : Lib.hasPrefix tb.data.toList (⟨#[32]⟩ : ByteArray).data.toList = b5
          have HCN := hide (fun W hm => containsS1_any nm ⟨#[32]⟩ b4 W hm (Nat.le_trans hz.2.2.1 hsc) h4)
          have HHP := hide (fun W => hasP_any tb ⟨#[32]⟩ b5 W h5)
          have H45 := hide (And.intro h4 h5)
          clear hlc hld hz h4 h5 HSZ
          cases h3 : nm.data.toList with
          | nil =>
            have u1 : nm.toList.isEmpty = true := by rw [Lib.toList_data, h3]; rfl
            have u2 : (nm.toList == []) = true := by rw [Lib.toList_data, h3]; rfl
            have HO := hide (show R = ([], (k : Int), 8) by rw [HR.out.1]; exact rdPs_bad HNE.out (line_bad (by rw [HLC.out, HLD.out]; simp only [h3, List.isEmpty_nil, Bool.not_true, Bool.and_false, Bool.false_and])))
            clear h3 hsc
            cases ce <;> cases de
            all_goals
              go_wp2_with (first | (go_at_call_of 48 (Value.string ⟨#[10]⟩); (refine (HC1.out _ (maxTold_below HM.out (by repeat (first | with_reducible exact HB.out | with_reducible refine bl_drewN ?_ _ | with_reducible refine bl_drew ?_ | with_reducible refine bl_plus ?_ | with_reducible refine bl_alloc ?_ _)))).mono ?_); rintro e w' ⟨rfl, n9, rfl⟩) | (go_at_call_of 48 (Value.string ⟨#[58, 58]⟩); (refine (HC2.out _ (maxTold_below HM.out (by repeat (first | with_reducible exact HB.out | with_reducible refine bl_drewN ?_ _ | with_reducible refine bl_drew ?_ | with_reducible refine bl_plus ?_ | with_reducible refine bl_alloc ?_ _)))).mono ?_); rintro e w' ⟨rfl, n8, rfl⟩) | (go_at_call 49; (refine (HCN.out _ (maxTold_below HM.out (by repeat (first | with_reducible exact HB.out | with_reducible refine bl_drewN ?_ _ | with_reducible refine bl_drew ?_ | with_reducible refine bl_plus ?_ | with_reducible refine bl_alloc ?_ _)))).mono ?_); rintro e w' ⟨rfl, hw⟩; subst hw) | (go_at_call 50; (refine (HHP.out _).mono ?_); rintro e w' ⟨rfl, hw⟩; subst hw))
              (try simp only [Exit.inBlock, Exit.then])
              go_returns
              rw [HO.out]
              exact PrOut.nil (by repeat (first | with_reducible exact HB.out | with_reducible refine bl_drewN ?_ _ | with_reducible refine bl_drew ?_ | with_reducible refine bl_plus ?_ | with_reducible refine bl_alloc ?_ _))
          | cons m0 ml =>
            have u1 : nm.toList.isEmpty = false := by rw [Lib.toList_data, h3]; rfl
            have u2 : (nm.toList == []) = false := by rw [Lib.toList_data, h3]; rfl
            have HN3 := hide (show nm.data.toList.isEmpty = false by rw [h3]; rfl)
            clear h3
            by_cases hall : (ce && de && !b4 && b5) = true
            · have hce : ce = true := by revert hall; cases ce <;> simp
              have hde : de = true := by revert hall; cases de <;> simp
              have hb4 : b4 = false := by revert hall; cases b4 <;> simp
              have hb5 : b5 = true := by revert hall; cases b5 <;> simp
              subst hce hde hb4 hb5
              clear hall
              have HOK := hide (show rdLine sc.data.toList = some (nm.data.toList, tb.data.toList.drop 1, rs.data.toList) by
                have := line_ok (l := sc.data.toList) (by rw [HLC.out]) (by rw [HLD.out]) (by rw [HLD.out]; exact HN3.out) (by rw [HLD.out]; exact H45.out.1) (by rw [HLD.out]; exact H45.out.2)
                rw [this, HLC.out, HLD.out])
              have hi1 : 1 ≤ tb.size := by have := text_drop H45.out.2; rwa [size_list] at this
              have i1 : (1 : Int) ≤ (tb.size : Int) := by omega
              have HRS := hide (HZ.out.2.2.2.2 rfl)
              have hts : (tb.extract 1 tb.size).size ≤ 400000 := by rw [ext_size]; have := HZ.out.2.2.2.1; omega
              have htx : (tb.extract 1 tb.size).data.toList = tb.data.toList.drop 1 := rst_of_ext tb 1
              have HRV := hide (fun W (hb : Below w.heap.size w W) => readValue_any (tb.extract 1 tb.size) W hts (powTab_below HP.out hb) (maxTold_below HM.out hb))
              rw [htx] at HRV
              generalize hq : rdV (tb.data.toList.drop 1) = q at *
              have HRQ := hide hq
              obtain ⟨x, cd⟩ := q
              unfold RdOut at HRV
              simp only at HRV
              clear htx hts hi1 hq hsc
              go_upto_region 13 with (first | (go_at_call_of 48 (Value.string ⟨#[10]⟩); (refine (HC1.out _ (maxTold_below HM.out (by repeat (first | with_reducible exact HB.out | with_reducible refine bl_drewN ?_ _ | with_reducible refine bl_drew ?_ | with_reducible refine bl_plus ?_ | with_reducible refine bl_alloc ?_ _)))).mono ?_); rintro e w' ⟨rfl, n9, rfl⟩) | (go_at_call_of 48 (Value.string ⟨#[58, 58]⟩); (refine (HC2.out _ (maxTold_below HM.out (by repeat (first | with_reducible exact HB.out | with_reducible refine bl_drewN ?_ _ | with_reducible refine bl_drew ?_ | with_reducible refine bl_plus ?_ | with_reducible refine bl_alloc ?_ _)))).mono ?_); rintro e w' ⟨rfl, n8, rfl⟩) | (go_at_call 49; (refine (HCN.out _ (maxTold_below HM.out (by repeat (first | with_reducible exact HB.out | with_reducible refine bl_drewN ?_ _ | with_reducible refine bl_drew ?_ | with_reducible refine bl_plus ?_ | with_reducible refine bl_alloc ?_ _)))).mono ?_); rintro e w' ⟨rfl, hw⟩; subst hw) | (go_at_call 50; (refine (HHP.out _).mono ?_); rintro e w' ⟨rfl, hw⟩; subst hw) | (go_at_call 14; (refine (HRV.out _ (by repeat (first | with_reducible exact HB.out | with_reducible refine bl_drewN ?_ _ | with_reducible refine bl_drew ?_ | with_reducible refine bl_plus ?_ | with_reducible refine bl_alloc ?_ _))).mono ?_); rintro e W1 ⟨A2, c2, rfl, hlin, hlen, hfl, hbl⟩; have HX := hide (And.intro hlin (And.intro hlen hfl)); have HB1 := hide (below_end2 (w := w) (by repeat (first | with_reducible exact HB.out | with_reducible refine bl_drewN ?_ _ | with_reducible refine bl_drew ?_ | with_reducible refine bl_plus ?_ | with_reducible refine bl_alloc ?_ _)) hbl); have HBW := hide (below_end2 (w := wr) (by repeat (first | exact Below.refl _ _ | with_reducible refine bl_plus ?_ | with_reducible refine bl_alloc ?_ _ | with_reducible refine bl_drew ?_ | with_reducible refine bl_drewN ?_ _)) hbl); clear hlin hlen hfl hbl; (try simp only [V.arg])))
              by_cases h8 : cd = 8
              · subst h8
                have HO := hide (show R = ([], (k : Int), 8) by rw [HR.out.1]; exact rdPs_bad8 HNE.out HOK.out (by rw [HRQ.out]))
                go_wp2
                (try simp only [Exit.inBlock, Exit.then])
                go_returns
                rw [HO.out]
                exact PrOut.nil (bl_alloc HB1.out _)
              · have e8 : (cd == 8) = false := beq_eq_false_iff_ne.2 h8
                generalize hb2 : (cd == 2) = b2 at *
                have HO := hide (show R = rdPs n rs.data.toList (acc ++ [⟨nm, x⟩]) (k + 1) (far || b2) by
                  have e9 := rdPs_go (acc := acc) (k := (k : Int)) (far := far) (n := n) HNE.out HOK.out (by rw [HRQ.out]; exact h8)
                  rw [HRQ.out, strOf_self] at e9
                  rw [HR.out.1, e9, ← hb2]
                  rfl)
                clear h8
                have HRX := hide (HRW.out.below HBW.out)
                have HBIG := hide (show (ps.length + 1) * iP.bytes ≤ 140737488355328 ∧ ps.length + 1 ≤ 140737488355328 by have h9 := HIP.out.2.2.2; rw [h9]; have := HK.out.1; have := HK.out.2; omega)
                have HNZ := hide (show nm.size ≤ maxLen by have := HZ.out.2.2.1; have := HK.out.1; unfold maxLen; omega)
                have HLN := hide (show (ps ++ [(⟨nm, ⟨x, A2, c2⟩⟩ : CP)]).length = ps.length + 1 from by simp)
                have HFT := hide (show ∀ p ∈ ps ++ [(⟨nm, ⟨x, A2, c2⟩⟩ : CP)], p.q.x.fits from fun p hp => by
                  rcases List.mem_append.1 hp with hp | hp
                  · exact HF.out p hp
                  · rw [List.mem_singleton.1 hp]; exact flat_fits HX.out.2.1 HX.out.2.2)
                have HAC := hide (show (far || b2) = false → acc ++ [(⟨nm, x⟩ : PR)] = (ps ++ [(⟨nm, ⟨x, A2, c2⟩⟩ : CP)]).map CP.pr from fun h => by
                  rw [Bool.or_eq_false_iff] at h
                  rw [HR.out.2.2 h.1, List.map_append]; rfl)
                cases far <;> cases b2
                all_goals
                  go_wp2_with (first | (at_builtin; refine wpList_append_b rfl (.tmp 70) (.tmp 74) rfl rfl Tryz.underlying30 HIP.out.1 HIP.out.2.1 HIP.out.2.2.1 (by decide) rfl (by have := HIP.out.2.2.2; omega) w.heap.size ps.length (.slice A ps.length c) (flatCP ps) [.string nm, .int .i64 x.k, .int .i64 x.i, .int .i64 x.t, .string x.s, .slice A2 x.l.length c2] _ rfl (ownK_alloc (ownK_alloc HRX.out.own _) _) rfl (by intro u hu; simp only [List.mem_cons, List.not_mem_nil, or_false] at hu; rcases hu with rfl | rfl | rfl | rfl | rfl | rfl <;> rfl) rfl (newN_cells (cs := [.string nm, .int .i64 x.k, .int .i64 x.i, .int .i64 x.t, .string x.s, .slice A2 x.l.length c2]) (by simp only [World.size_alloc])) HBIG.out (by simp only [World.size_alloc]; have := HB1.out.size; omega) ?_; intro v' w1 hown1 hgr1 hfr1; obtain ⟨A3, c3, rfl, _⟩ := ownK_form hown1; have hrow := Row6.push (p := ⟨nm, ⟨x, A2, c2⟩⟩) ((HRX.out.below (bl_alloc (Below.refl _ _) (.cells #[.int .i64 x.k, .int .i64 x.i, .int .i64 x.t, .string x.s, .slice A2 x.l.length c2] 24))).below (bl_alloc (Below.refl _ _) (.cells #[.string nm, .int .i64 x.k, .int .i64 x.i, .int .i64 x.t, .string x.s, .slice A2 x.l.length c2] 47))) hgr1 hfr1 hown1 ((HX.out.1.frame (fun b hb => (Below.heap_alloc _ _ b (by rw [World.size_alloc]; have := hb.2; omega)).trans (Below.heap_alloc _ _ b hb.2))).mono (fun b hb => ⟨by rw [World.size_alloc, World.size_alloc]; have := hb.2; omega, fun e => by have h1 := (HRW.out.own.lt b e).2; have h2 := hb.1; have h3 : wr.heap.size ≤ b := h2; omega⟩)) HNZ.out; have HB2 := hide ((bl_alloc (bl_alloc HB1.out (.cells #[.int .i64 x.k, .int .i64 x.i, .int .i64 x.t, .string x.s, .slice A2 x.l.length c2] 24)) (.cells #[.string nm, .int .i64 x.k, .int .i64 x.i, .int .i64 x.t, .string x.s, .slice A2 x.l.length c2] 47)).grown hgr1 (by simp only [World.size_alloc]; have := HB1.out.size; omega) (fun k hk => (HRW.out.own.lt k hk).1)); rw [← HLN.out] at hrow; have HROW := hide hrow; clear hown1 hgr1 hfr1 hrow))
                  go_roundw
                  case rel => exact ⟨rs, _, A3, c3, k + 1, n, _, _, rfl, by rw [HLN.out], rfl, by go_num, HROW, HB2, hide ⟨HO.out, by have := HR.out.2.1; have := HRS.out; omega, HAC.out⟩, hide ⟨by have := HK.out.1; have := HRS.out; omega, by rw [HLN.out]; have := HK.out.2; omega⟩, HFT⟩
                  case measure =>
                    have h9 := HRS.out
                    simp [szOf]
                    omega
            · have HO := hide (show R = ([], (k : Int), 8) by
                rw [HR.out.1]
                refine rdPs_bad HNE.out (line_bad ?_)
                rw [HLC.out, HLD.out]
                simp only
                rw [show Lib.contains nm.data.toList [32] = b4 from H45.out.1, show Lib.hasPrefix tb.data.toList [32] = b5 from H45.out.2, HN3.out]
                revert hall
                cases ce <;> cases de <;> cases b4 <;> cases b5 <;> simp)
              clear hsc
              cases ce
              · clear hall
                go_wp2_with (first | (go_at_call_of 48 (Value.string ⟨#[10]⟩); (refine (HC1.out _ (maxTold_below HM.out (by repeat (first | with_reducible exact HB.out | with_reducible refine bl_drewN ?_ _ | with_reducible refine bl_drew ?_ | with_reducible refine bl_plus ?_ | with_reducible refine bl_alloc ?_ _)))).mono ?_); rintro e w' ⟨rfl, n9, rfl⟩) | (go_at_call_of 48 (Value.string ⟨#[58, 58]⟩); (refine (HC2.out _ (maxTold_below HM.out (by repeat (first | with_reducible exact HB.out | with_reducible refine bl_drewN ?_ _ | with_reducible refine bl_drew ?_ | with_reducible refine bl_plus ?_ | with_reducible refine bl_alloc ?_ _)))).mono ?_); rintro e w' ⟨rfl, n8, rfl⟩) | (go_at_call 49; (refine (HCN.out _ (maxTold_below HM.out (by repeat (first | with_reducible exact HB.out | with_reducible refine bl_drewN ?_ _ | with_reducible refine bl_drew ?_ | with_reducible refine bl_plus ?_ | with_reducible refine bl_alloc ?_ _)))).mono ?_); rintro e w' ⟨rfl, hw⟩; subst hw) | (go_at_call 50; (refine (HHP.out _).mono ?_); rintro e w' ⟨rfl, hw⟩; subst hw))
                (try simp only [Exit.inBlock, Exit.then])
                go_returns
                rw [HO.out]
                exact PrOut.nil (by repeat (first | with_reducible exact HB.out | with_reducible refine bl_drewN ?_ _ | with_reducible refine bl_drew ?_ | with_reducible refine bl_plus ?_ | with_reducible refine bl_alloc ?_ _))
              · cases de
                · clear hall
                  go_wp2_with (first | (go_at_call_of 48 (Value.string ⟨#[10]⟩); (refine (HC1.out _ (maxTold_below HM.out (by repeat (first | with_reducible exact HB.out | with_reducible refine bl_drewN ?_ _ | with_reducible refine bl_drew ?_ | with_reducible refine bl_plus ?_ | with_reducible refine bl_alloc ?_ _)))).mono ?_); rintro e w' ⟨rfl, n9, rfl⟩) | (go_at_call_of 48 (Value.string ⟨#[58, 58]⟩); (refine (HC2.out _ (maxTold_below HM.out (by repeat (first | with_reducible exact HB.out | with_reducible refine bl_drewN ?_ _ | with_reducible refine bl_drew ?_ | with_reducible refine bl_plus ?_ | with_reducible refine bl_alloc ?_ _)))).mono ?_); rintro e w' ⟨rfl, n8, rfl⟩) | (go_at_call 49; (refine (HCN.out _ (maxTold_below HM.out (by repeat (first | with_reducible exact HB.out | with_reducible refine bl_drewN ?_ _ | with_reducible refine bl_drew ?_ | with_reducible refine bl_plus ?_ | with_reducible refine bl_alloc ?_ _)))).mono ?_); rintro e w' ⟨rfl, hw⟩; subst hw) | (go_at_call 50; (refine (HHP.out _).mono ?_); rintro e w' ⟨rfl, hw⟩; subst hw))
                  (try simp only [Exit.inBlock, Exit.then])
                  go_returns
                  rw [HO.out]
                  exact PrOut.nil (by repeat (first | with_reducible exact HB.out | with_reducible refine bl_drewN ?_ _ | with_reducible refine bl_drew ?_ | with_reducible refine bl_plus ?_ | with_reducible refine bl_alloc ?_ _))
                · cases b4
                  · cases b5
                    · clear hall
                      go_wp2_with (first | (go_at_call_of 48 (Value.string ⟨#[10]⟩); (refine (HC1.out _ (maxTold_below HM.out (by repeat (first | with_reducible exact HB.out | with_reducible refine bl_drewN ?_ _ | with_reducible refine bl_drew ?_ | with_reducible refine bl_plus ?_ | with_reducible refine bl_alloc ?_ _)))).mono ?_); rintro e w' ⟨rfl, n9, rfl⟩) | (go_at_call_of 48 (Value.string ⟨#[58, 58]⟩); (refine (HC2.out _ (maxTold_below HM.out (by repeat (first | with_reducible exact HB.out | with_reducible refine bl_drewN ?_ _ | with_reducible refine bl_drew ?_ | with_reducible refine bl_plus ?_ | with_reducible refine bl_alloc ?_ _)))).mono ?_); rintro e w' ⟨rfl, n8, rfl⟩) | (go_at_call 49; (refine (HCN.out _ (maxTold_below HM.out (by repeat (first | with_reducible exact HB.out | with_reducible refine bl_drewN ?_ _ | with_reducible refine bl_drew ?_ | with_reducible refine bl_plus ?_ | with_reducible refine bl_alloc ?_ _)))).mono ?_); rintro e w' ⟨rfl, hw⟩; subst hw) | (go_at_call 50; (refine (HHP.out _).mono ?_); rintro e w' ⟨rfl, hw⟩; subst hw))
                      (try simp only [Exit.inBlock, Exit.then])
                      go_returns
                      rw [HO.out]
                      exact PrOut.nil (by repeat (first | with_reducible exact HB.out | with_reducible refine bl_drewN ?_ _ | with_reducible refine bl_drew ?_ | with_reducible refine bl_plus ?_ | with_reducible refine bl_alloc ?_ _))
                    · exact absurd rfl hall
                  · clear hall
                    go_wp2_with (first | (go_at_call_of 48 (Value.string ⟨#[10]⟩); (refine (HC1.out _ (maxTold_below HM.out (by repeat (first | with_reducible exact HB.out | with_reducible refine bl_drewN ?_ _ | with_reducible refine bl_drew ?_ | with_reducible refine bl_plus ?_ | with_reducible refine bl_alloc ?_ _)))).mono ?_); rintro e w' ⟨rfl, n9, rfl⟩) | (go_at_call_of 48 (Value.string ⟨#[58, 58]⟩); (refine (HC2.out _ (maxTold_below HM.out (by repeat (first | with_reducible exact HB.out | with_reducible refine bl_drewN ?_ _ | with_reducible refine bl_drew ?_ | with_reducible refine bl_plus ?_ | with_reducible refine bl_alloc ?_ _)))).mono ?_); rintro e w' ⟨rfl, n8, rfl⟩) | (go_at_call 49; (refine (HCN.out _ (maxTold_below HM.out (by repeat (first | with_reducible exact HB.out | with_reducible refine bl_drewN ?_ _ | with_reducible refine bl_drew ?_ | with_reducible refine bl_plus ?_ | with_reducible refine bl_alloc ?_ _)))).mono ?_); rintro e w' ⟨rfl, hw⟩; subst hw) | (go_at_call 50; (refine (HHP.out _).mono ?_); rintro e w' ⟨rfl, hw⟩; subst hw))
                    (try simp only [Exit.inBlock, Exit.then])
                    go_returns
                    rw [HO.out]
                    exact PrOut.nil (by repeat (first | with_reducible exact HB.out | with_reducible refine bl_drewN ?_ _ | with_reducible refine bl_drew ?_ | with_reducible refine bl_plus ?_ | with_reducible refine bl_alloc ?_ _))


end Go.Proofs.YtdncmjlakmkfiaaGreatDoor
/-
  WALK: the reference reads properties.
-/
namespace Go.Proofs.YtdncmjlakmkfiaaGreatDoor
open Go.RowKit
attribute [local go_sem high] run_max_i

set_option maxHeartbeats 3200000 in
set_option maxRecDepth 100000 in
theorem readPropsOf_any (s : ByteArray) (w : World) (hp : PowTab w) (hm : MaxTold w) :
    Calls Tryz.prog 13 #[.string s] w (PrOut w (readPs s)) := by
  have hb0 := Below.refl w.heap.size w
  generalize hQ : readPs s = R
  unfold readPs at hQ
  by_cases hs : 400000 < s.size
  · rw [if_pos hs] at hQ
    subst hQ
    go_enter Tryz.func13, Tryz.ntmps13
    go_wp2
    go_returns
    exact PrOut.nil (by repeat (first | exact Below.refl _ _ | with_reducible refine bl_plus ?_ | with_reducible refine bl_alloc ?_ _ | with_reducible refine bl_drew ?_ | with_reducible refine bl_drewN ?_ _))
  · rw [if_neg hs] at hQ
    obtain ⟨iP, hiP, hzP0, hzP1, hzP2⟩ := info_parts info_prop
    have HIP := hide (And.intro hiP (And.intro hzP0 (And.intro hzP1 hzP2)))
    have HP := hide hp
    have HM := hide hm
    have HQ := hide hQ
    have HB0 := hide hb0
    clear hp hm hQ hb0 hiP hzP0 hzP1 hzP2
    go_enter Tryz.func13, Tryz.ntmps13
    go_wp2
    go_loopw [0, 5, 6, 7] (fun s0 s5 s6 s7 wr => ∃ (sc : ByteArray) (ps : List CP) (A : Option Addr) (c k n : Nat) (far : Bool) (acc : List PR), s0 = .string sc ∧ s5 = .slice A ps.length c ∧ s6 = .int .i64 (if far = true then 2 else 0) ∧ s7 = .int .i64 k ∧ Hid (Row6 wr w.heap.size (.slice A ps.length c) ps) ∧ Hid (Below w.heap.size w wr) ∧ Hid (R = rdPs n sc.data.toList acc k far ∧ sc.size < n ∧ (far = false → acc = ps.map CP.pr)) ∧ Hid (k + sc.size ≤ 400001 ∧ ps.length + 1 = k) ∧ Hid (∀ p ∈ ps, p.q.x.fits)) (fun s0 _ _ _ _ => szOf s0)
    case atStart => exact ⟨s, [], none, 0, 1, s.size + 1, false, [], rfl, rfl, rfl, rfl, hide row6_nil, HB0, hide ⟨HQ.out.symm, Nat.lt_succ_self _, fun _ => rfl⟩, hide ⟨by omega, rfl⟩, hide (fun p hp => by cases hp)⟩
    case round =>
      obtain ⟨sc, ps, A, c, k, n, far, acc, rfl, rfl, rfl, rfl, HRW, HB, HR, HK, HF⟩ := hrel
      clear HQ HB0
      cases n with
      | zero => exact absurd HR.out.2.1 (by omega)
      | succ n =>
        cases hl : sc.data.toList with
        | nil =>
          have t1 : sc.toList.isEmpty = true := by rw [Lib.toList_data, hl]; rfl
          have t2 : (sc.toList == []) = true := by rw [Lib.toList_data, hl]; rfl
          have HE := hide (show R = endPs acc far by rw [HR.out.1, hl, rdPs_end])
          clear hl
          cases far with
          | true =>
            go_wp2
            (try simp only [Exit.inBlock, Exit.then])
            go_returns
            rw [HE.out]
            exact PrOut.nil (by repeat (first | with_reducible exact HB.out | with_reducible refine bl_drewN ?_ _ | with_reducible refine bl_drew ?_ | with_reducible refine bl_plus ?_ | with_reducible refine bl_alloc ?_ _))
          | false =>
            obtain rfl := HR.out.2.2 rfl
            have HPA := hide HRW.out.psAt.2
            have HCK := hide (fun W (hb : Below wr.heap.size wr W) => propsFault_any (ps.map CP.pr) A c W (HPA.out.below hb))
            simp only [List.length_map] at HCK
            by_cases he : propsErr (ps.map CP.pr) = 0
            · have HE2 := hide (show R = (ps.map CP.pr, 0, 0) by rw [HE.out]; unfold endPs; rw [if_neg (by decide), if_neg (by rw [he]; decide)])
              have h20 := propsErr_len he
              rw [List.length_map] at h20
              rw [he] at HCK
              obtain ⟨ps2, hps2, hpc⟩ := HPA.out.open_
              have hl2 : ps2.length = ps.length := by have := congrArg List.length hps2; rwa [List.length_map, List.length_map] at this
              clear hps2 hpc hl2
              clear he h20
              go_wp2_with (first | (go_at_call 42; (refine (HCK.out _ (by repeat (first | exact Below.refl _ _ | with_reducible refine bl_plus ?_ | with_reducible refine bl_alloc ?_ _ | with_reducible refine bl_drew ?_ | with_reducible refine bl_drewN ?_ _))).mono ?_); rintro e w' ⟨rfl, hbl⟩; have HBC := hide hbl; obtain ⟨os2, n2, rfl⟩ := below_plus hbl; clear hbl))
              (try simp only [Exit.inBlock, Exit.then])
              go_returns
              rw [HE2.out]
              exact ⟨A, c, by simp, HPA.out.below HBC.out, HB.out.trans (HBC.out.mono HB.out.size)⟩
            · have HE2 := hide (show R = ([], 0, propsErr (ps.map CP.pr)) by rw [HE.out]; unfold endPs; rw [if_neg (by decide), if_pos he])
              have he2 : (propsErr (ps.map CP.pr) != 0) = true := bne_iff_ne.2 he
              clear he
              generalize propsErr (ps.map CP.pr) = E at *
              go_wp2_with (first | (go_at_call 42; (refine (HCK.out _ (by repeat (first | exact Below.refl _ _ | with_reducible refine bl_plus ?_ | with_reducible refine bl_alloc ?_ _ | with_reducible refine bl_drew ?_ | with_reducible refine bl_drewN ?_ _))).mono ?_); rintro e w' ⟨rfl, hbl⟩; have HBC := hide hbl; obtain ⟨os2, n2, rfl⟩ := below_plus hbl; clear hbl))
              (try simp only [Exit.inBlock, Exit.then])
              go_returns
              rw [HE2.out]
              exact PrOut.nil (by repeat (first | with_reducible exact HB.out | with_reducible refine bl_drewN ?_ _ | with_reducible refine bl_drew ?_ | with_reducible refine bl_plus ?_ | with_reducible refine bl_alloc ?_ _))
        | cons b0 l0 =>
          generalize hF : (if far = true then (2 : Int) else 0) = F at *
          have HFL := hide hF
          clear hF
          have t1 : sc.toList.isEmpty = false := by rw [Lib.toList_data, hl]; rfl
          have t2 : (sc.toList == []) = false := by rw [Lib.toList_data, hl]; rfl
          have HNE := hide (show sc.data.toList ≠ [] by rw [hl]; simp)
          clear hl
          have hsc : sc.size ≤ 400000 := by have := HK.out.1; have := HK.out.2; omega
          have HSZ := hide (line_sizes sc.data.toList)
          obtain ⟨ln, rs, ce, nm, tb, de, hlc, hld⟩ := line_parts sc.data.toList
          have hz := HSZ.out
          rw [hlc, hld] at hz
          simp only [size_list] at hz
          have HLC := hide hlc
          have HLD := hide hld
          have HZ := hide hz
          have HC1 := hide (fun W hm => cutS_any sc ⟨#[10]⟩ ln rs ce W hm hsc hlc)
          have HC2 := hide (fun W hm => cutS_any ln ⟨#[58, 58]⟩ nm tb de W hm (Nat.le_trans hz.1 hsc) (by have h9 := hld; unfold lineD at h9; rw [hlc] at h9; exact h9))
          have ik : IntKind.i64.wrap ((k : Int) + 1) = (k : Int) + 1 := IntWalk.i64_in _ (by have := HK.out.1; omega)
          generalize h4 : Lib.contains nm.data.toList (⟨#[32]⟩ : ByteArray).data.toList = b4
          generalize h5 : Lib.hasPrefix tb.data.toList (⟨#[32]⟩ : ByteArray).data.toList = b5
          have HCN := hide (fun W hm => containsS1_any nm ⟨#[32]⟩ b4 W hm (Nat.le_trans hz.2.2.1 hsc) h4)
          have HHP := hide (fun W => hasP_any tb ⟨#[32]⟩ b5 W h5)
          have H45 := hide (And.intro h4 h5)
          clear hlc hld hz h4 h5 HSZ
          cases h3 : nm.data.toList with
          | nil =>
            have u1 : nm.toList.isEmpty = true := by rw [Lib.toList_data, h3]; rfl
            have u2 : (nm.toList == []) = true := by rw [Lib.toList_data, h3]; rfl
            have HO := hide (show R = ([], (k : Int), 8) by rw [HR.out.1]; exact rdPs_bad HNE.out (line_bad (by rw [HLC.out, HLD.out]; simp only [h3, List.isEmpty_nil, Bool.not_true, Bool.and_false, Bool.false_and])))
            clear h3 hsc
            cases ce <;> cases de
            all_goals
              go_wp2_with (first | (go_at_call_of 48 (Value.string ⟨#[10]⟩); (refine (HC1.out _ (maxTold_below HM.out (by repeat (first | with_reducible exact HB.out | with_reducible refine bl_drewN ?_ _ | with_reducible refine bl_drew ?_ | with_reducible refine bl_plus ?_ | with_reducible refine bl_alloc ?_ _)))).mono ?_); rintro e w' ⟨rfl, n9, rfl⟩) | (go_at_call_of 48 (Value.string ⟨#[58, 58]⟩); (refine (HC2.out _ (maxTold_below HM.out (by repeat (first | with_reducible exact HB.out | with_reducible refine bl_drewN ?_ _ | with_reducible refine bl_drew ?_ | with_reducible refine bl_plus ?_ | with_reducible refine bl_alloc ?_ _)))).mono ?_); rintro e w' ⟨rfl, n8, rfl⟩) | (go_at_call 49; (refine (HCN.out _ (maxTold_below HM.out (by repeat (first | with_reducible exact HB.out | with_reducible refine bl_drewN ?_ _ | with_reducible refine bl_drew ?_ | with_reducible refine bl_plus ?_ | with_reducible refine bl_alloc ?_ _)))).mono ?_); rintro e w' ⟨rfl, hw⟩; subst hw) | (go_at_call 50; (refine (HHP.out _).mono ?_); rintro e w' ⟨rfl, hw⟩; subst hw))
              (try simp only [Exit.inBlock, Exit.then])
              go_returns
              rw [HO.out]
              exact PrOut.nil (by repeat (first | with_reducible exact HB.out | with_reducible refine bl_drewN ?_ _ | with_reducible refine bl_drew ?_ | with_reducible refine bl_plus ?_ | with_reducible refine bl_alloc ?_ _))
          | cons m0 ml =>
            have u1 : nm.toList.isEmpty = false := by rw [Lib.toList_data, h3]; rfl
            have u2 : (nm.toList == []) = false := by rw [Lib.toList_data, h3]; rfl
            have HN3 := hide (show nm.data.toList.isEmpty = false by rw [h3]; rfl)
            clear h3
            by_cases hall : (ce && de && !b4 && b5) = true
            · have hce : ce = true := by revert hall; cases ce <;> simp
              have hde : de = true := by revert hall; cases de <;> simp
              have hb4 : b4 = false := by revert hall; cases b4 <;> simp
              have hb5 : b5 = true := by revert hall; cases b5 <;> simp
              subst hce hde hb4 hb5
              clear hall
              have HOK := hide (show rdLine sc.data.toList = some (nm.data.toList, tb.data.toList.drop 1, rs.data.toList) by
                have := line_ok (l := sc.data.toList) (by rw [HLC.out]) (by rw [HLD.out]) (by rw [HLD.out]; exact HN3.out) (by rw [HLD.out]; exact H45.out.1) (by rw [HLD.out]; exact H45.out.2)
                rw [this, HLC.out, HLD.out])
              have hi1 : 1 ≤ tb.size := by have := text_drop H45.out.2; rwa [size_list] at this
              have i1 : (1 : Int) ≤ (tb.size : Int) := by omega
              have HRS := hide (HZ.out.2.2.2.2 rfl)
              have hts : (tb.extract 1 tb.size).size ≤ 400000 := by rw [ext_size]; have := HZ.out.2.2.2.1; omega
              have htx : (tb.extract 1 tb.size).data.toList = tb.data.toList.drop 1 := rst_of_ext tb 1
              have HRV := hide (fun W (hb : Below w.heap.size w W) => readItem_top (tb.extract 1 tb.size) W hts (maxTold_below HM.out hb))
              rw [htx] at HRV
              have HRR := hide (rdV_ref (tb.data.toList.drop 1))
              unfold RfVal at HRV
              clear htx hts hi1 hsc
              go_upto_region 14 with (first | (go_at_call_of 48 (Value.string ⟨#[10]⟩); (refine (HC1.out _ (maxTold_below HM.out (by repeat (first | with_reducible exact HB.out | with_reducible refine bl_drewN ?_ _ | with_reducible refine bl_drew ?_ | with_reducible refine bl_plus ?_ | with_reducible refine bl_alloc ?_ _)))).mono ?_); rintro e w' ⟨rfl, n9, rfl⟩) | (go_at_call_of 48 (Value.string ⟨#[58, 58]⟩); (refine (HC2.out _ (maxTold_below HM.out (by repeat (first | with_reducible exact HB.out | with_reducible refine bl_drewN ?_ _ | with_reducible refine bl_drew ?_ | with_reducible refine bl_plus ?_ | with_reducible refine bl_alloc ?_ _)))).mono ?_); rintro e w' ⟨rfl, n8, rfl⟩) | (go_at_call 49; (refine (HCN.out _ (maxTold_below HM.out (by repeat (first | with_reducible exact HB.out | with_reducible refine bl_drewN ?_ _ | with_reducible refine bl_drew ?_ | with_reducible refine bl_plus ?_ | with_reducible refine bl_alloc ?_ _)))).mono ?_); rintro e w' ⟨rfl, hw⟩; subst hw) | (go_at_call 50; (refine (HHP.out _).mono ?_); rintro e w' ⟨rfl, hw⟩; subst hw) | (go_at_call 17; (refine (HRV.out _ (by repeat (first | with_reducible exact HB.out | with_reducible refine bl_drewN ?_ _ | with_reducible refine bl_drew ?_ | with_reducible refine bl_plus ?_ | with_reducible refine bl_alloc ?_ _))).mono ?_); rintro e W1 ⟨hbl, x, A2, c2, rest, cd, rfl, hlin, hlen, hfl, hrl, hri⟩; have HX := hide (And.intro hlin (And.intro hlen hfl)); have HRI := hide hri; have HB1 := hide (below_end2 (w := w) (by repeat (first | with_reducible exact HB.out | with_reducible refine bl_drewN ?_ _ | with_reducible refine bl_drew ?_ | with_reducible refine bl_plus ?_ | with_reducible refine bl_alloc ?_ _)) hbl); have HBW := hide (below_end2 (w := wr) (by repeat (first | exact Below.refl _ _ | with_reducible refine bl_plus ?_ | with_reducible refine bl_alloc ?_ _ | with_reducible refine bl_drew ?_ | with_reducible refine bl_drewN ?_ _)) hbl); clear hlin hlen hfl hrl hri hbl; (try simp only [V.arg])))
              rcases HRI.out with ⟨hO, rfl⟩ | ⟨f2, hO, hcd⟩
              · have hrd : rdV (tb.data.toList.drop 1) = (vN, 8) := by
                  rcases HRR.out with ⟨v, h, _⟩ | ⟨v, h, _⟩ | ⟨_, h⟩
                  · rw [hO] at h; cases h
                  · rw [hO] at h; cases h
                  · exact h
                have HO := hide (show R = ([], (k : Int), 8) by rw [HR.out.1]; exact rdPs_bad8 HNE.out HOK.out (by rw [hrd]))
                clear hO hrd
                go_wp2
                (try simp only [Exit.inBlock, Exit.then])
                go_returns
                rw [HO.out]
                exact PrOut.nil (bl_alloc HB1.out _)
              · have e8 : (cd == 8) = false := by rw [hcd]; cases f2 <;> rfl
                cases hrl : rest.data.toList with
                | cons b r =>
                  have hrd : rdV (tb.data.toList.drop 1) = (vN, 8) := by
                    rw [hrl] at hO
                    rcases HRR.out with ⟨v, h, _⟩ | ⟨v, h, _⟩ | ⟨_, h⟩
                    · rw [hO] at h; cases h
                    · rw [hO] at h; cases h
                    · exact h
                  have v1 : rest.toList.isEmpty = false := by rw [Lib.toList_data, hrl]; rfl
                  have v2 : (rest.toList == []) = false := by rw [Lib.toList_data, hrl]; rfl
                  have HO := hide (show R = ([], (k : Int), 8) by rw [HR.out.1]; exact rdPs_bad8 HNE.out HOK.out (by rw [hrd]))
                  clear hO hcd hrl hrd
                  go_wp2
                  (try simp only [Exit.inBlock, Exit.then])
                  go_returns
                  rw [HO.out]
                  exact PrOut.nil (bl_alloc HB1.out _)
                | nil =>
                  have v1 : rest.toList.isEmpty = true := by rw [Lib.toList_data, hrl]; rfl
                  have v2 : (rest.toList == []) = true := by rw [Lib.toList_data, hrl]; rfl
                  rw [hrl] at hO
                  cases f2 with
                  | true =>
                    have hrd : rdV (tb.data.toList.drop 1) = (vN, 2) := by
                      rcases HRR.out with ⟨v, h, _⟩ | ⟨v, h, e⟩ | ⟨h | ⟨v, b, r, f, h⟩, _⟩
                      · rw [hO] at h; cases h
                      · exact e
                      · rw [hO] at h; cases h
                      · rw [hO] at h; cases h
                    obtain rfl : cd = 2 := hcd
                    have HO := hide (show R = rdPs n rs.data.toList (acc ++ [⟨nm, vN⟩]) (k + 1) (far || true) by
                      have e9 := rdPs_go (acc := acc) (k := (k : Int)) (far := far) (n := n) HNE.out HOK.out (by rw [hrd]; exact (by decide : (2 : Int) ≠ 8))
                      rw [hrd, strOf_self] at e9
                      rw [HR.out.1, e9]
                      rfl)
                    have HMX := hide (show max F 2 = if (far || true) = true then 2 else 0 by rw [← HFL.out]; cases far <;> rfl)
                    clear hO hrl hrd
                    have HRX := hide (HRW.out.below HBW.out)
                    have HBIG := hide (show (ps.length + 1) * iP.bytes ≤ 140737488355328 ∧ ps.length + 1 ≤ 140737488355328 by have h9 := HIP.out.2.2.2; rw [h9]; have := HK.out.1; have := HK.out.2; omega)
                    have HNZ := hide (show nm.size ≤ maxLen by have := HZ.out.2.2.1; have := HK.out.1; unfold maxLen; omega)
                    have HLN := hide (show (ps ++ [(⟨nm, ⟨x, A2, c2⟩⟩ : CP)]).length = ps.length + 1 from by simp)
                    have HFT := hide (show ∀ p ∈ ps ++ [(⟨nm, ⟨x, A2, c2⟩⟩ : CP)], p.q.x.fits from fun p hp => by
                      rcases List.mem_append.1 hp with hp | hp
                      · exact HF.out p hp
                      · rw [List.mem_singleton.1 hp]; exact flat_fits HX.out.2.1 HX.out.2.2)
                    have HAC := hide (show (far || true) = false → acc ++ [(⟨nm, vN⟩ : PR)] = (ps ++ [(⟨nm, ⟨x, A2, c2⟩⟩ : CP)]).map CP.pr from fun h => by rw [Bool.or_true] at h; cases h)
                    go_wp2_with (first | (at_builtin; refine wpList_append_b rfl (.tmp 75) (.tmp 79) rfl rfl Tryz.underlying30 HIP.out.1 HIP.out.2.1 HIP.out.2.2.1 (by decide) rfl (by have := HIP.out.2.2.2; omega) w.heap.size ps.length (.slice A ps.length c) (flatCP ps) [.string nm, .int .i64 x.k, .int .i64 x.i, .int .i64 x.t, .string x.s, .slice A2 x.l.length c2] _ rfl (ownK_alloc (ownK_alloc HRX.out.own _) _) rfl (by intro u hu; simp only [List.mem_cons, List.not_mem_nil, or_false] at hu; rcases hu with rfl | rfl | rfl | rfl | rfl | rfl <;> rfl) rfl (newN_cells (cs := [.string nm, .int .i64 x.k, .int .i64 x.i, .int .i64 x.t, .string x.s, .slice A2 x.l.length c2]) (by simp only [World.size_alloc])) HBIG.out (by simp only [World.size_alloc]; have := HB1.out.size; omega) ?_; intro v' w1 hown1 hgr1 hfr1; obtain ⟨A3, c3, rfl, _⟩ := ownK_form hown1; have hrow := Row6.push (p := ⟨nm, ⟨x, A2, c2⟩⟩) ((HRX.out.below (bl_alloc (Below.refl _ _) (.cells #[.int .i64 x.k, .int .i64 x.i, .int .i64 x.t, .string x.s, .slice A2 x.l.length c2] 24))).below (bl_alloc (Below.refl _ _) (.cells #[.string nm, .int .i64 x.k, .int .i64 x.i, .int .i64 x.t, .string x.s, .slice A2 x.l.length c2] 47))) hgr1 hfr1 hown1 ((HX.out.1.frame (fun b hb => (Below.heap_alloc _ _ b (by rw [World.size_alloc]; have := hb.2; omega)).trans (Below.heap_alloc _ _ b hb.2))).mono (fun b hb => ⟨by rw [World.size_alloc, World.size_alloc]; have := hb.2; omega, fun e => by have h1 := (HRW.out.own.lt b e).2; have h2 := hb.1; have h3 : wr.heap.size ≤ b := h2; omega⟩)) HNZ.out; have HB2 := hide ((bl_alloc (bl_alloc HB1.out (.cells #[.int .i64 x.k, .int .i64 x.i, .int .i64 x.t, .string x.s, .slice A2 x.l.length c2] 24)) (.cells #[.string nm, .int .i64 x.k, .int .i64 x.i, .int .i64 x.t, .string x.s, .slice A2 x.l.length c2] 47)).grown hgr1 (by simp only [World.size_alloc]; have := HB1.out.size; omega) (fun k hk => (HRW.out.own.lt k hk).1)); rw [← HLN.out] at hrow; have HROW := hide hrow; clear hown1 hgr1 hfr1 hrow))
                    go_roundw
                    case rel => exact ⟨rs, _, A3, c3, k + 1, n, _, _, rfl, by rw [HLN.out], by rw [← HMX.out], by go_num, HROW, HB2, hide ⟨HO.out, by have := HR.out.2.1; have := HRS.out; omega, HAC.out⟩, hide ⟨by have := HK.out.1; have := HRS.out; omega, by rw [HLN.out]; have := HK.out.2; omega⟩, HFT⟩
                    case measure =>
                      have h9 := HRS.out
                      simp [szOf]
                      omega
                  | false =>
                    have hrd : rdV (tb.data.toList.drop 1) = (x, 0) := by
                      rcases HRR.out with ⟨v, h, e⟩ | ⟨v, h, e⟩ | ⟨h | ⟨v, b, r, f, h⟩, _⟩
                      · rw [hO] at h; cases h; exact e
                      · rw [hO] at h; cases h
                      · rw [hO] at h; cases h
                      · rw [hO] at h; cases h
                    obtain rfl : cd = 0 := hcd
                    have HO := hide (show R = rdPs n rs.data.toList (acc ++ [⟨nm, x⟩]) (k + 1) (far || false) by
                      have e9 := rdPs_go (acc := acc) (k := (k : Int)) (far := far) (n := n) HNE.out HOK.out (by rw [hrd]; exact (by decide : (0 : Int) ≠ 8))
                      rw [hrd, strOf_self] at e9
                      rw [HR.out.1, e9]
                      rfl)
                    have HMX := hide (show max F 0 = if (far || false) = true then 2 else 0 by rw [← HFL.out]; cases far <;> rfl)
                    clear hO hrl hrd
                    have HRX := hide (HRW.out.below HBW.out)
                    have HBIG := hide (show (ps.length + 1) * iP.bytes ≤ 140737488355328 ∧ ps.length + 1 ≤ 140737488355328 by have h9 := HIP.out.2.2.2; rw [h9]; have := HK.out.1; have := HK.out.2; omega)
                    have HNZ := hide (show nm.size ≤ maxLen by have := HZ.out.2.2.1; have := HK.out.1; unfold maxLen; omega)
                    have HLN := hide (show (ps ++ [(⟨nm, ⟨x, A2, c2⟩⟩ : CP)]).length = ps.length + 1 from by simp)
                    have HFT := hide (show ∀ p ∈ ps ++ [(⟨nm, ⟨x, A2, c2⟩⟩ : CP)], p.q.x.fits from fun p hp => by
                      rcases List.mem_append.1 hp with hp | hp
                      · exact HF.out p hp
                      · rw [List.mem_singleton.1 hp]; exact flat_fits HX.out.2.1 HX.out.2.2)
                    have HAC := hide (show (far || false) = false → acc ++ [(⟨nm, x⟩ : PR)] = (ps ++ [(⟨nm, ⟨x, A2, c2⟩⟩ : CP)]).map CP.pr from fun h => by
                      rw [Bool.or_eq_false_iff] at h
                      rw [HR.out.2.2 h.1, List.map_append]; rfl)
                    go_wp2_with (first | (at_builtin; refine wpList_append_b rfl (.tmp 75) (.tmp 79) rfl rfl Tryz.underlying30 HIP.out.1 HIP.out.2.1 HIP.out.2.2.1 (by decide) rfl (by have := HIP.out.2.2.2; omega) w.heap.size ps.length (.slice A ps.length c) (flatCP ps) [.string nm, .int .i64 x.k, .int .i64 x.i, .int .i64 x.t, .string x.s, .slice A2 x.l.length c2] _ rfl (ownK_alloc (ownK_alloc HRX.out.own _) _) rfl (by intro u hu; simp only [List.mem_cons, List.not_mem_nil, or_false] at hu; rcases hu with rfl | rfl | rfl | rfl | rfl | rfl <;> rfl) rfl (newN_cells (cs := [.string nm, .int .i64 x.k, .int .i64 x.i, .int .i64 x.t, .string x.s, .slice A2 x.l.length c2]) (by simp only [World.size_alloc])) HBIG.out (by simp only [World.size_alloc]; have := HB1.out.size; omega) ?_; intro v' w1 hown1 hgr1 hfr1; obtain ⟨A3, c3, rfl, _⟩ := ownK_form hown1; have hrow := Row6.push (p := ⟨nm, ⟨x, A2, c2⟩⟩) ((HRX.out.below (bl_alloc (Below.refl _ _) (.cells #[.int .i64 x.k, .int .i64 x.i, .int .i64 x.t, .string x.s, .slice A2 x.l.length c2] 24))).below (bl_alloc (Below.refl _ _) (.cells #[.string nm, .int .i64 x.k, .int .i64 x.i, .int .i64 x.t, .string x.s, .slice A2 x.l.length c2] 47))) hgr1 hfr1 hown1 ((HX.out.1.frame (fun b hb => (Below.heap_alloc _ _ b (by rw [World.size_alloc]; have := hb.2; omega)).trans (Below.heap_alloc _ _ b hb.2))).mono (fun b hb => ⟨by rw [World.size_alloc, World.size_alloc]; have := hb.2; omega, fun e => by have h1 := (HRW.out.own.lt b e).2; have h2 := hb.1; have h3 : wr.heap.size ≤ b := h2; omega⟩)) HNZ.out; have HB2 := hide ((bl_alloc (bl_alloc HB1.out (.cells #[.int .i64 x.k, .int .i64 x.i, .int .i64 x.t, .string x.s, .slice A2 x.l.length c2] 24)) (.cells #[.string nm, .int .i64 x.k, .int .i64 x.i, .int .i64 x.t, .string x.s, .slice A2 x.l.length c2] 47)).grown hgr1 (by simp only [World.size_alloc]; have := HB1.out.size; omega) (fun k hk => (HRW.out.own.lt k hk).1)); rw [← HLN.out] at hrow; have HROW := hide hrow; clear hown1 hgr1 hfr1 hrow))
                    go_roundw
                    case rel => exact ⟨rs, _, A3, c3, k + 1, n, _, _, rfl, by rw [HLN.out], by rw [← HMX.out], by go_num, HROW, HB2, hide ⟨HO.out, by have := HR.out.2.1; have := HRS.out; omega, HAC.out⟩, hide ⟨by have := HK.out.1; have := HRS.out; omega, by rw [HLN.out]; have := HK.out.2; omega⟩, HFT⟩
                    case measure =>
                      have h9 := HRS.out
                      simp [szOf]
                      omega
            · have HO := hide (show R = ([], (k : Int), 8) by
                rw [HR.out.1]
                refine rdPs_bad HNE.out (line_bad ?_)
                rw [HLC.out, HLD.out]
                simp only
                rw [show Lib.contains nm.data.toList [32] = b4 from H45.out.1, show Lib.hasPrefix tb.data.toList [32] = b5 from H45.out.2, HN3.out]
                revert hall
                cases ce <;> cases de <;> cases b4 <;> cases b5 <;> simp)
              clear hsc
              cases ce
              · clear hall
                go_wp2_with (first | (go_at_call_of 48 (Value.string ⟨#[10]⟩); (refine (HC1.out _ (maxTold_below HM.out (by repeat (first | with_reducible exact HB.out | with_reducible refine bl_drewN ?_ _ | with_reducible refine bl_drew ?_ | with_reducible refine bl_plus ?_ | with_reducible refine bl_alloc ?_ _)))).mono ?_); rintro e w' ⟨rfl, n9, rfl⟩) | (go_at_call_of 48 (Value.string ⟨#[58, 58]⟩); (refine (HC2.out _ (maxTold_below HM.out (by repeat (first | with_reducible exact HB.out | with_reducible refine bl_drewN ?_ _ | with_reducible refine bl_drew ?_ | with_reducible refine bl_plus ?_ | with_reducible refine bl_alloc ?_ _)))).mono ?_); rintro e w' ⟨rfl, n8, rfl⟩) | (go_at_call 49; (refine (HCN.out _ (maxTold_below HM.out (by repeat (first | with_reducible exact HB.out | with_reducible refine bl_drewN ?_ _ | with_reducible refine bl_drew ?_ | with_reducible refine bl_plus ?_ | with_reducible refine bl_alloc ?_ _)))).mono ?_); rintro e w' ⟨rfl, hw⟩; subst hw) | (go_at_call 50; (refine (HHP.out _).mono ?_); rintro e w' ⟨rfl, hw⟩; subst hw))
                (try simp only [Exit.inBlock, Exit.then])
                go_returns
                rw [HO.out]
                exact PrOut.nil (by repeat (first | with_reducible exact HB.out | with_reducible refine bl_drewN ?_ _ | with_reducible refine bl_drew ?_ | with_reducible refine bl_plus ?_ | with_reducible refine bl_alloc ?_ _))
              · cases de
                · clear hall
                  go_wp2_with (first | (go_at_call_of 48 (Value.string ⟨#[10]⟩); (refine (HC1.out _ (maxTold_below HM.out (by repeat (first | with_reducible exact HB.out | with_reducible refine bl_drewN ?_ _ | with_reducible refine bl_drew ?_ | with_reducible refine bl_plus ?_ | with_reducible refine bl_alloc ?_ _)))).mono ?_); rintro e w' ⟨rfl, n9, rfl⟩) | (go_at_call_of 48 (Value.string ⟨#[58, 58]⟩); (refine (HC2.out _ (maxTold_below HM.out (by repeat (first | with_reducible exact HB.out | with_reducible refine bl_drewN ?_ _ | with_reducible refine bl_drew ?_ | with_reducible refine bl_plus ?_ | with_reducible refine bl_alloc ?_ _)))).mono ?_); rintro e w' ⟨rfl, n8, rfl⟩) | (go_at_call 49; (refine (HCN.out _ (maxTold_below HM.out (by repeat (first | with_reducible exact HB.out | with_reducible refine bl_drewN ?_ _ | with_reducible refine bl_drew ?_ | with_reducible refine bl_plus ?_ | with_reducible refine bl_alloc ?_ _)))).mono ?_); rintro e w' ⟨rfl, hw⟩; subst hw) | (go_at_call 50; (refine (HHP.out _).mono ?_); rintro e w' ⟨rfl, hw⟩; subst hw))
                  (try simp only [Exit.inBlock, Exit.then])
                  go_returns
                  rw [HO.out]
                  exact PrOut.nil (by repeat (first | with_reducible exact HB.out | with_reducible refine bl_drewN ?_ _ | with_reducible refine bl_drew ?_ | with_reducible refine bl_plus ?_ | with_reducible refine bl_alloc ?_ _))
                · cases b4
                  · cases b5
                    · clear hall
                      go_wp2_with (first | (go_at_call_of 48 (Value.string ⟨#[10]⟩); (refine (HC1.out _ (maxTold_below HM.out (by repeat (first | with_reducible exact HB.out | with_reducible refine bl_drewN ?_ _ | with_reducible refine bl_drew ?_ | with_reducible refine bl_plus ?_ | with_reducible refine bl_alloc ?_ _)))).mono ?_); rintro e w' ⟨rfl, n9, rfl⟩) | (go_at_call_of 48 (Value.string ⟨#[58, 58]⟩); (refine (HC2.out _ (maxTold_below HM.out (by repeat (first | with_reducible exact HB.out | with_reducible refine bl_drewN ?_ _ | with_reducible refine bl_drew ?_ | with_reducible refine bl_plus ?_ | with_reducible refine bl_alloc ?_ _)))).mono ?_); rintro e w' ⟨rfl, n8, rfl⟩) | (go_at_call 49; (refine (HCN.out _ (maxTold_below HM.out (by repeat (first | with_reducible exact HB.out | with_reducible refine bl_drewN ?_ _ | with_reducible refine bl_drew ?_ | with_reducible refine bl_plus ?_ | with_reducible refine bl_alloc ?_ _)))).mono ?_); rintro e w' ⟨rfl, hw⟩; subst hw) | (go_at_call 50; (refine (HHP.out _).mono ?_); rintro e w' ⟨rfl, hw⟩; subst hw))
                      (try simp only [Exit.inBlock, Exit.then])
                      go_returns
                      rw [HO.out]
                      exact PrOut.nil (by repeat (first | with_reducible exact HB.out | with_reducible refine bl_drewN ?_ _ | with_reducible refine bl_drew ?_ | with_reducible refine bl_plus ?_ | with_reducible refine bl_alloc ?_ _))
                    · exact absurd rfl hall
                  · clear hall
                    go_wp2_with (first | (go_at_call_of 48 (Value.string ⟨#[10]⟩); (refine (HC1.out _ (maxTold_below HM.out (by repeat (first | with_reducible exact HB.out | with_reducible refine bl_drewN ?_ _ | with_reducible refine bl_drew ?_ | with_reducible refine bl_plus ?_ | with_reducible refine bl_alloc ?_ _)))).mono ?_); rintro e w' ⟨rfl, n9, rfl⟩) | (go_at_call_of 48 (Value.string ⟨#[58, 58]⟩); (refine (HC2.out _ (maxTold_below HM.out (by repeat (first | with_reducible exact HB.out | with_reducible refine bl_drewN ?_ _ | with_reducible refine bl_drew ?_ | with_reducible refine bl_plus ?_ | with_reducible refine bl_alloc ?_ _)))).mono ?_); rintro e w' ⟨rfl, n8, rfl⟩) | (go_at_call 49; (refine (HCN.out _ (maxTold_below HM.out (by repeat (first | with_reducible exact HB.out | with_reducible refine bl_drewN ?_ _ | with_reducible refine bl_drew ?_ | with_reducible refine bl_plus ?_ | with_reducible refine bl_alloc ?_ _)))).mono ?_); rintro e w' ⟨rfl, hw⟩; subst hw) | (go_at_call 50; (refine (HHP.out _).mono ?_); rintro e w' ⟨rfl, hw⟩; subst hw))
                    (try simp only [Exit.inBlock, Exit.then])
                    go_returns
                    rw [HO.out]
                    exact PrOut.nil (by repeat (first | with_reducible exact HB.out | with_reducible refine bl_drewN ?_ _ | with_reducible refine bl_drew ?_ | with_reducible refine bl_plus ?_ | with_reducible refine bl_alloc ?_ _))


end Go.Proofs.YtdncmjlakmkfiaaGreatDoor
/-
  WALK: PropReads.
-/
namespace Go.Proofs.YtdncmjlakmkfiaaGreatDoor
open Go.RowKit

set_option maxHeartbeats 3200000 in
set_option maxRecDepth 100000 in
theorem propReads_any (s : ByteArray) (w : World) (hp : PowTab w) (hm : MaxTold w) :
    Calls Tryz.prog 5 #[.string s] w fun e w' => e = .returned (.bool true) ∧ Below w.heap.size w w' := by
  have H1 := hide (fun W (hb : Below w.heap.size w W) => readProps_any s W (powTab_below hp hb) (maxTold_below hm hb))
  have H2 := hide (fun W (hb : Below w.heap.size w W) => readPropsOf_any s W (powTab_below hp hb) (maxTold_below hm hb))
  have H3 := hide (fun l A B c d w hA hB => alike_props A B c d l w hA hB)
  clear hp hm
  unfold PrOut at H1 H2
  generalize readPs s = q at *
  obtain ⟨l, line, code⟩ := q
  simp only at H1 H2
  go_enter Tryz.func5, Tryz.ntmps5
  go_wp2_with (first
    | (go_at_call 12; (refine (H1.out _ (by repeat (first | exact Below.refl _ _ | with_reducible refine bl_plus ?_ | with_reducible refine bl_alloc ?_ _ | with_reducible refine bl_drew ?_ | with_reducible refine bl_drewN ?_ _))).mono ?_); rintro e w' ⟨A1, c1, rfl, hl, hbl⟩; have HA1 := hide hl; clear hl; obtain ⟨os1, n1, rfl⟩ := below_plus hbl; clear hbl)
    | (go_at_call 13; (refine (H2.out _ (by repeat (first | exact Below.refl _ _ | with_reducible refine bl_plus ?_ | with_reducible refine bl_alloc ?_ _ | with_reducible refine bl_drew ?_ | with_reducible refine bl_drewN ?_ _))).mono ?_); rintro e w' ⟨A2, c2, rfl, hl, hbl⟩; have HA2 := hide hl; clear hl; obtain ⟨os2, n2, rfl⟩ := below_plus hbl; clear hbl)
    | (go_at_call 8; (refine (H3.out l _ _ _ _ _ (HA1.out.below (by repeat (first | exact Below.refl _ _ | with_reducible refine bl_plus ?_ | with_reducible refine bl_alloc ?_ _ | with_reducible refine bl_drew ?_ | with_reducible refine bl_drewN ?_ _))) (HA2.out.below (by repeat (first | exact Below.refl _ _ | with_reducible refine bl_plus ?_ | with_reducible refine bl_alloc ?_ _ | with_reducible refine bl_drew ?_ | with_reducible refine bl_drewN ?_ _)))).mono ?_); rintro e w' ⟨rfl, hbl⟩; obtain ⟨os3, n3, rfl⟩ := below_plus hbl; clear hbl))
  go_ret
  exact ⟨by simp, (by repeat (first | exact Below.refl _ _ | with_reducible refine bl_plus ?_ | with_reducible refine bl_alloc ?_ _ | with_reducible refine bl_drew ?_ | with_reducible refine bl_drewN ?_ _))⟩

end Go.Proofs.YtdncmjlakmkfiaaGreatDoor
