/-
  WALKS: Simulate.
-/
import Derived.Test.YtokghdcfbbogdaaSim
import Derived.Test.YtokghdcfbbogdaaCounts
import Derived.Test.YtokghdcfbbogdaaClone
namespace Go.Proofs.Ytokghdcfbbogdaa
open Go.RowKit

theorem plus_cell_swap {B B' : World} {O : Array Obj} {n n' g o : Nat} (hs : B.heap.size = B'.heap.size) (hg : B.heap.size ≤ g) : (plus B O n).cell? ⟨g, o, none⟩ = (plus B' O n').cell? ⟨g, o, none⟩ := by
  have : (plus B O n).heap[g]? = (plus B' O n').heap[g]? := by
    unfold plus
    simp only [Array.getElem?_append]
    rw [if_neg (by omega), if_neg (by omega), hs]
  simp only [World.cell?, this]

def simR : Option (List St × List Int) → (List St × List Int) × Int
  | none => (([], []), 14)
  | some r => (r, 0)
theorem simulate_eq {xs : List St} {gs : List Int} {fr bn ba : Int} {N : Nat} (h : statesErr xs = 0) (hse : simErr gs fr N bn ba = 0) : simulate xs gs fr N bn ba = simR (simDays gs bn ba N fr xs 0 []) := by
  unfold simulate
  rw [if_pos h, if_pos hse]
  simp only [Int.toNat_natCast]
  cases simDays gs bn ba N fr xs 0 [] <;> rfl
theorem StsAt.at2 {w : World} {g g' : Nat} {xs : List St} (h : StsAt w (some ⟨g, 0, none⟩) xs) (e : g' = g) : StsAt w (some ⟨g', 0, none⟩) xs := by
  subst e; exact h
theorem HalfOwn.far {w : World} {base : Nat} {A : Option Addr} {n c : Nat} {ns : List Int} (h : HalfOwn w base (.slice A n c) ns) (h0 : 0 < ns.length) : ∃ ga, A = some ⟨ga, 0, none⟩ ∧ base ≤ ga ∧ ga < w.heap.size ∧ ∀ j (hj : j < ns.length), w.cell? ⟨ga, j, none⟩ = some (.int .i64 ns[j]) := by
  have hI := h.ints.2.2.2
  obtain ⟨A', c', hv, h1, h2, h3⟩ := h
  injection hv with e1 _ _
  subst e1
  rcases h3 with ⟨_, h4, _⟩ | ⟨g, cur, hA, hg, _⟩
  · omega
  · obtain ⟨b, off, hab, hbl, hc⟩ := hI h0
    rw [hA] at hab
    injection hab with hab
    injection hab with e2 e3 _
    subst e2 e3
    exact ⟨g, hA, hg, hbl, fun j hj => by have := hc j hj; rwa [Nat.zero_add] at this⟩
/-- What a simulation hands back. -/
def SimOut (r : (List St × List Int) × Int) (w : World) (e : Ending) (w' : World) : Prop :=
  ∃ A c B c', e = .returned (.tuple #[.slice A r.1.1.length c, .slice B r.1.2.length c', .int .i64 r.2]) ∧ StsAt w' A r.1.1 ∧ IntsAt w' B r.1.2 ∧ ((A = none → c = 0) ∧ (B = none → c' = 0)) ∧ Below w.heap.size w w'

theorem simOut_mk {A B : Option Addr} {n c n' c' : Nat} {d : Int} {xs : List St} {l : List Int} {w w' : World} {e : Ending} (he : e = .returned (.tuple #[.slice A n c, .slice B n' c', .int .i64 d])) (hn : xs.length = n) (hn' : l.length = n') (hs : StsAt w' A xs) (hi : IntsAt w' B l) (hz : (A = none → c = 0) ∧ (B = none → c' = 0)) (hb : Below w.heap.size w w') : SimOut ((xs, l), d) w e w' := by
  subst hn hn'; exact ⟨A, c, B, c', he, hs, hi, hz, hb⟩

set_option maxHeartbeats 12800000 in
set_option maxRecDepth 100000 in
theorem simulate_ok (A A2 : Option Addr) (c c2 : Nat) (xs : List St) (gs : List Int) (fr : Int) (N : Nat) (bn ba : Int) (w : World) (hA : StsAt w A xs) (hnil : A = none → xs = [] ∧ c = 0) (hG : IntsAt w A2 gs) (h : statesErr xs = 0) (hse : simErr gs fr N bn ba = 0) (hx0 : 0 < xs.length)
    (h0 : 0 < gs.length) (hgl : gs.length ≤ 20000) (hgk : gradesOk gs = true) (hfr : 0 ≤ fr ∧ fr ≤ 100000) (hN : N ≤ 1500) (hfN : fr + N ≤ 100000) (hbd : bndOk bn ba) :
    Calls Try.prog 37 #[.slice A xs.length c, .slice A2 gs.length c2, .int .i64 fr, .int .i64 N, .agg #[.int .i64 bn, .int .i64 ba]] w (SimOut (simulate xs gs fr N bn ba) w) := by
  have hl := len_of_statesErr h
  have hR := simulate_eq h hse
  rw [hR]
  generalize hRR : simDays gs bn ba N fr xs 0 [] = R
  have HRR := hide hRR
  have hck := fun w h => checkStates_any A c xs w h
  rw [h] at hck
  have hcs := fun w h => checkSimulate_any A2 c2 gs fr N bn ba w h
  rw [hse] at hcs
  have hcl := hide (fun w hA => cloneSts_any A c xs w hA hnil hl)
  have hmk := fun w => make_ints N w (by omega)
  have H1 := hide hck
  have H2 := hide hcs
  have HA := hide hA
  have HG := hide hG
  have HSE := hide h
  have HGK := hide hgk
  have HBD := hide hbd
  clear hck hcs hA hG hR hRR h hse hgk hbd hnil
  go_enter Try.func37, Try.ntmps37
  go_upto_region 7 with (first | (go_at_call 48; refine (H1.out _ (HA.out.alloc _)).mono ?_; rintro e w' ⟨rfl, hb⟩; obtain ⟨os1, n1, rfl⟩ := below_plus hb; clear hb) | (go_at_call 74; refine (H2.out _ ((HG.out.alloc _).plus _ _)).mono ?_; rintro e w' ⟨rfl, hb⟩; obtain ⟨os2, n2, rfl⟩ := below_plus hb; clear hb))
  have hv0 : (plus (plus (w.alloc (.cells #[.int .i64 bn, .int .i64 ba] 43)) os1 n1) os2 n2).cell? ⟨w.heap.size, 0, none⟩ = some (.int .i64 bn) ∧ (plus (plus (w.alloc (.cells #[.int .i64 bn, .int .i64 ba] 43)) os1 n1) os2 n2).cell? ⟨w.heap.size, 1, none⟩ = some (.int .i64 ba) := by
    rw [plus_cell (by rw [plus_size, World.size_alloc]; omega), plus_cell (by rw [World.size_alloc]; omega), plus_cell (by rw [plus_size, World.size_alloc]; omega), plus_cell (by rw [World.size_alloc]; omega)]
    simp
  have hVb : Below w.heap.size w (plus (plus (w.alloc (.cells #[.int .i64 bn, .int .i64 ba] 43)) os1 n1) os2 n2) := by repeat (first | exact Below.refl _ _ | refine bl_plus ?_ | refine bl_alloc ?_ _ | refine bl_drew ?_)
  have hvlt : w.heap.size < (plus (plus (w.alloc (.cells #[.int .i64 bn, .int .i64 ba] 43)) os1 n1) os2 n2).heap.size := by rw [plus_size, plus_size, World.size_alloc]; omega
  generalize plus (plus (w.alloc (.cells #[.int .i64 bn, .int .i64 ba] 43)) os1 n1) os2 n2 = V at hv0 hVb hvlt ⊢
  obtain ⟨hv0, hv1⟩ := hv0
  have HV := hide hVb
  clear hVb
  go_wp2_with (go_at_call 62; refine (hcl.out _ (HA.out.below (by repeat (first | exact HV.out | exact Below.refl _ _ | refine bl_plus ?_ | refine bl_alloc ?_ _ | refine bl_drew ?_)))).mono ?_; rintro e w' ⟨v, rfl, hown, hb⟩; obtain ⟨g2, cs, cap, rfl, hge, hB, hnc, _, hRow⟩ := own_bare hown hx0; obtain ⟨os3, n3, os4, n4, rfl, rfl⟩ := bare hb hB hge; have HRow := hide hRow; clear hb hB hge hown hRow)
  clear hmk
  go_loopw [17, 40] (fun gv i wr => ∃ (k g : Nat) (ys : List St) (cs' : Array Value) (l : List Int) (cnt : List Int) (os : Array Obj) (n : Nat), k ≤ N ∧ g ≤ 20000 ∧ i = .int .i64 k ∧ gv = .int .i64 g ∧
      Hid (statesErr ys = 0 ∧ ys.length = xs.length ∧ RowOf cs' ys ∧ l = cnt ++ List.replicate (N - k) 0 ∧ cnt.length = k ∧ simDays gs bn ba (N - k) (fr + k) ys g cnt = R) ∧ wr = plus (((plus ((plus V os3 n3).alloc (.cells cs' 24)) os4 n4)).alloc (.cells (ints l) 3)) os n)
    (fun _ i _ => N - (intOf i).toNat)
  case atStart => exact ⟨0, 0, xs, _, _, [], #[], _, Nat.zero_le _, Nat.zero_le _, rfl, rfl, ⟨HSE.out, rfl, HRow.out, by simp, rfl, by simpa using HRR.out⟩, plus_nil.symm⟩
  case round =>
    obtain ⟨k, g, ys, cs', l, cnt, os, n, hk, hg, rfl, rfl, HI, rfl⟩ := hrel
    by_cases hlt : k < N
    · obtain ⟨i1, i2, i3, i4, i5, i6⟩ := HI.out
      have hNk : N - k = (N - k - 1) + 1 := by omega
      rw [hNk] at i4 i6
      simp only [simDays] at i6
      have hask := todayList_askable (first := 0) (all := 0) (bn := bn) (ba := ba) i1 (d := fr + k) (by omega)
      have htd := fun A w hA => today_ok A cap ys (fr + k) 0 0 bn ba w hA i1 (by omega) (by omega) HBD.out.1 HBD.out.2
      rw [i2] at htd
      have hask5 : (todayList ys (fr + k) 0 0 bn ba).length ≤ 10000 := by
        have := tdTo_len ys (fr + k) 0 0 bn ba ys.length
        unfold todayList; omega
      generalize todayList ys (fr + k) 0 0 bn ba = ask at htd i6 hask hask5
      generalize hRA : simAsk gs (fr + k) ask ys g = RA at i6
      have HTD := hide htd
      have HASK := hide hask
      have HRA := hide hRA
      have HR6 := hide i6
      have HRW := hide i3
      have HI1 := hide i1
      have HI2 := hide i2
      have HI4 := hide i4
      have HI5 := hide i5
      clear htd hask hRA i1 i2 i3 i4 i5 i6 HI
      go_wp2_with (go_at_call 69; refine (HTD.out _ _ (StsAt.at2 (stsAt_of_cells (((Blk.new _ _ _).plus.alloc _).plus) HRW.out) (by simp only [plus_size]))).mono ?_; rintro e w' ⟨v, rfl, hh, hb⟩; obtain ⟨os5, n5, rfl⟩ := below_plus hb; obtain ⟨A5, c5, rfl, hc5⟩ := hh.form; have HH := hide hh; clear hb hh; rw [plus_plus])
      go_loopw [17, 51] (fun gv j wr => ∃ (m g' : Nat) (zs : List St) (cs2 : Array Value) (l2 : List Int) (os' : Array Obj) (n' : Nat), m ≤ ask.length ∧ g' ≤ 20000 ∧ j = .int .i64 m ∧ gv = .int .i64 g' ∧
          Hid (statesErr zs = 0 ∧ zs.length = xs.length ∧ RowOf cs2 zs ∧ l2 = cnt ++ ((m : Int) :: List.replicate (N - k - 1) 0) ∧ (∀ z ∈ ask.drop m, Askable zs (fr + k) z) ∧ simAsk gs (fr + k) (ask.drop m) zs g' = RA) ∧ wr = plus (plus (((plus ((plus V os3 n3).alloc (.cells cs2 24)) os4 n4)).alloc (.cells (ints l2) 3)) (os ++ os5) n5) os' n')
        (fun _ j _ => ask.length - (intOf j).toNat)
      case atStart => exact ⟨0, g, ys, _, _, #[], _, Nat.zero_le _, hg, rfl, rfl, ⟨HI1.out, HI2.out, HRW.out, by rw [HI4.out]; simp [List.replicate_succ], by simpa using HASK.out, by simpa using HRA.out⟩, plus_nil.symm⟩
      case round =>
        obtain ⟨m, g', zs, cs2, l2, os', n', hm, hg', rfl, rfl, HJ, rfl⟩ := hrel
        by_cases hlm : m < ask.length
        · have hdrop := drop_cons ask m hlm
          obtain ⟨j1, j2, j3, j4, j5, j6⟩ := HJ.out
          rw [hdrop] at j5 j6
          obtain ⟨zi, x, hzi, hx, hxl⟩ := j5 ask[m] (List.mem_cons_self ..)
          rw [hzi] at j6
          obtain ⟨ga, rfl, hga, hgal, hgac⟩ := HH.out.far (by omega)
          have hac := hgac m hlm
          rw [hzi, plus_plus] at hac
          rw [plus_cell_swap (B' := (((plus ((plus V os3 n3).alloc (.cells cs2 24)) os4 n4)).alloc (.cells (ints l2) 3))) (n' := n5) (by simp only [plus_size, World.size_alloc]) (by simp only [plus_size, World.size_alloc] at hga ⊢; omega)] at hac
          have hac2 : (plus (plus (((plus ((plus V os3 n3).alloc (.cells cs2 24)) os4 n4)).alloc (.cells (ints l2) 3)) (os ++ os5) n5) os' n').cell? ⟨ga, m, none⟩ = some (.int .i64 (zi : Int)) := by
            rw [plus_cell (by simp only [plus_size, World.size_alloc, Array.size_append] at hgal ⊢; omega)]; exact hac
          by_cases hfull : g' = 20000
          · have hfz : ((g' : Int) == 20000) = true := by simp [hfull]
            have h6 := HR6.out
            rw [hfull, simAsk_full] at j6
            rw [← j6] at h6
            simp only at h6
            have HR7 := hide h6
            clear HJ j1 j2 j3 j4 j5 j6 hx hxl hgac hga hgal hdrop hzi h6 hfull HR6
            go_wp2
            go_returns
            rw [← HR7.out]
            exact ⟨none, 0, none, 0, rfl, StsAt.nil, IntsAt.nil, ⟨fun _ => rfl, fun _ => rfl⟩, (by repeat (first | exact HV.out | exact Below.refl _ _ | refine bl_plus ?_ | refine bl_alloc ?_ _ | refine bl_drew ?_))⟩
          · have hzl : zi < zs.length := by
              rcases Nat.lt_or_ge zi zs.length with h' | h'
              · exact h'
              · rw [List.getElem?_eq_none h'] at hx; cases hx
            have hx2 : zs[zi] = x := by rw [List.getElem?_eq_getElem hzl] at hx; injection hx
            rw [simAsk_step hfull (by simpa using hx)] at j6
            obtain ⟨a0, a1, a2, a3, a4, a5, a6, a7, a8⟩ := j3.at_ hzl hx2
            have hxe : x.err = 0 := by rw [← hx2]; exact err_of_statesErr j1 zi hzl
            have hgl2 := nextGrade_ok HGK.out h0 g'
            have hge : gradeErr x (nextGrade gs g') (fr + k) = 0 := by unfold gradeErr; rw [if_neg (by omega), if_neg (by omega), if_neg (by omega)]
            have hgd := fun w => graded_any x (nextGrade gs g') (fr + k) w (St.good_of_err hxe) (by omega) (by omega) (by omega)
            have hye := St.err_graded hxe hge
            have hyl : (x.graded (nextGrade gs g') (fr + k)).la ≤ fr + k := Int.le_refl _
            have hyb : (x.graded (nextGrade gs g') (fr + k)).bl = zs[zi].bl := by rw [hx2]; rfl
            have hyn : (x.graded (nextGrade gs g') (fr + k)).no = zs[zi].no := by rw [hx2]; rfl
            obtain ⟨bg, og, rfl, hbg, hgc⟩ := HG.out h0
            have hq : g' % gs.length < gs.length := Nat.mod_lt _ h0
            have hgc2 : V.cell? ⟨bg, og + g' % gs.length, none⟩ = some (.int .i64 (nextGrade gs g')) := by
              rw [HV.out.cell (p := ⟨bg, _, none⟩) hbg, hgc _ hq]
              unfold nextGrade
              rw [List.getElem?_eq_getElem hq, Option.getD_some]
            have hbgV : bg < V.heap.size := by have := HV.out.size; omega
            generalize x.graded (nextGrade gs g') (fr + k) = y at hgd j6 hye hyl hyb hyn
            generalize nextGrade gs g' = gr at hgd hgc2
            simp only [St.val] at hgd
            have hrem : (g' : Int).tmod (gs.length : Int) = ((g' % gs.length : Nat) : Int) := by rw [Int.tmod_eq_emod_of_nonneg (by omega)]; omega
            have hqz : ((g' % gs.length : Nat) : Int) < (gs.length : Int) := by omega
            have hg0 : ¬ (gs.length : Int) = 0 := by omega
            have hg1 : ¬ gs = [] := by intro e; rw [e] at h0; simp at h0
            have hg2 : ∀ t w, (binOp .rem t (.int .i64 (g' : Int)) (.int .i64 (gs.length : Int))).run Try.prog w = .ok (.int .i64 ((g' % gs.length : Nat) : Int)) w := fun t w => by
              rw [binOp_rem, Op.intDiv, if_neg hg0]; simp [hrem]
            have hq0 : (0 : Int) ≤ ((g' % gs.length : Nat) : Int) := by omega
            have hqt : (((g' % gs.length : Nat) : Int)).toNat = g' % gs.length := by omega
            have hzlz : (zi : Int) < (xs.length : Int) := by omega
            have hfz : ((g' : Int) == 20000) = false := by simp; omega
            have HGD := hide hgd
            have HQ : Hid (statesErr (zs.set zi y) = 0 ∧ (zs.set zi y).length = xs.length ∧ l2 = cnt ++ ((m : Int) :: List.replicate (N - k - 1) 0) ∧ (∀ z ∈ ask.drop (m + 1), Askable (zs.set zi y) (fr + k) z) ∧ simAsk gs (fr + k) (ask.drop (m + 1)) (zs.set zi y) (g' + 1) = RA) := by
              refine ⟨statesErr_set j1 hzl hye hyb hyn, by rw [List.length_set]; exact j2, j4, fun z hz => askable_set hyl (j5 z (List.mem_cons_of_mem _ hz)), ?_⟩
              have : ((zi : Int)).toNat = zi := by omega
              rw [this] at j6
              exact j6
            have HS9 : Hid (RowOf _ (zs.set zi y)) := RowOf.set9 j3 hzl y
            have hl2l : k < l2.length := by rw [j4]; simp [HI5.out]
            have hl2k : l2[k] = (m : Int) := by
              subst j4
              rw [List.getElem_append_right (by rw [HI5.out]; omega)]
              simp [HI5.out]
            have hgt : (ints l2)[k]? = some (.int .i64 (m : Int)) := by rw [ints_get hl2l, hl2k]
            have HL3 : Hid (l2.set k ((m : Int) + 1) = cnt ++ (((m + 1 : Nat) : Int) :: List.replicate (N - k - 1) 0)) := by
              show _ = _
              rw [j4, List.set_append_right _ _ (by rw [HI5.out]; omega)]
              simp [HI5.out]
            have hm10 : m ≤ 10000 := by omega
            clear hl2k
            clear HJ j1 j2 j3 j4 j5 j6 hx hx2 hxl hxe hge hye hyl hyb hyn hgd hgl2 hgc hgac hga hgal hdrop hzi HI1 HI2
            go_upto_region 19 with (fail)
            go_cut [] from 57 to 72 (fun wx => ∃ os7 n7, wx = plus (plus (((plus ((plus V os3 n3).alloc (.cells (((((((((cs2.setIfInBounds (zi * 9) (.int .i64 y.bl)).setIfInBounds (zi * 9 + 1) (.int .i64 y.no)).setIfInBounds (zi * 9 + 2) (.int .i64 y.st)).setIfInBounds (zi * 9 + 3) (.int .i64 y.ea)).setIfInBounds (zi * 9 + 4) (.int .i64 y.du)).setIfInBounds (zi * 9 + 5) (.int .i64 y.la)).setIfInBounds (zi * 9 + 6) (.int .i64 y.ti)).setIfInBounds (zi * 9 + 7) (.int .i64 y.lp)).setIfInBounds (zi * 9 + 8) (.int .i64 y.bu)) 24)) os4 n4)).alloc (.cells (ints l2) 3)) (os ++ os5) n5) os7 n7)
            case first =>
              go_region_with (go_at_call 56; refine (HGD.out _).mono ?_; rintro e w' ⟨rfl, hb⟩; obtain ⟨os7, n7, rfl⟩ := below_plus hb; clear hb)
              all_goals go_wp2
              all_goals go_meet
              all_goals exact ⟨_, _, by rw [plus_plus]⟩
            case rest =>
              obtain ⟨os7, n7, rfl⟩ := hcut
              go_wp2
              go_roundw
              case rel => exact ⟨m + 1, g' + 1, zs.set zi y, _, l2.set k ((m : Int) + 1), _, _, hlm, by omega, by go_num, by go_num, ⟨HQ.out.1, HQ.out.2.1, HS9.out, HL3.out, HQ.out.2.2.2.1, HQ.out.2.2.2.2⟩, by rw [ints_set]⟩
              case measure => simp [intOf]; omega
        · have hml : m = ask.length := by omega
          subst hml
          obtain ⟨j1, j2, j3, j4, j5, j6⟩ := HJ.out
          rw [List.drop_length] at j6
          simp only [simAsk] at j6
          have h6 := HR6.out
          rw [← j6] at h6
          simp only at h6
          have HJ2 : Hid (statesErr zs = 0 ∧ zs.length = xs.length ∧ RowOf cs2 zs ∧ l2 = (cnt ++ [(ask.length : Int)]) ++ List.replicate (N - (k + 1)) 0 ∧ (cnt ++ [(ask.length : Int)]).length = k + 1 ∧ simDays gs bn ba (N - (k + 1)) (fr + ((k + 1 : Nat) : Int)) zs g' (cnt ++ [(ask.length : Int)]) = R) := by
            refine ⟨j1, j2, j3, by rw [j4]; simp [Nat.sub_sub], by simp [HI5.out], ?_⟩
            rw [show fr + ((k + 1 : Nat) : Int) = fr + k + 1 by omega, ← Nat.sub_sub]
            exact h6
          clear HJ j1 j2 j3 j4 j5 j6 h6
          go_wp2
          go_roundw
          case rel => exact ⟨k + 1, g', zs, cs2, l2, _, _, _, hlt, hg', by go_num, rfl, HJ2, by rw [plus_plus]⟩
          case measure => simp [intOf]; omega
    · have hkN : k = N := by omega
      subst hkN
      obtain ⟨i1, i2, i3, i4, i5, i6⟩ := HI.out
      rw [Nat.sub_self] at i4 i6
      simp only [simDays] at i6
      have hl2 : l = cnt := by rw [i4]; simp
      subst hl2
      have HR6 := hide i6
      have HRW := hide i3
      have HL1 := hide i2
      have HL2 := hide i5
      clear HI i1 i2 i3 i4 i5 i6 HRR
      go_wp2_with (go_at_call 63; refine (clipSts_any _ _ _ _ (by assumption)).mono ?_; rintro e w' ⟨rfl, rfl⟩)
      go_returns
      rw [← HR6.out]
      show SimOut ((ys, l), 0) w _ _
      refine simOut_mk rfl HL1.out HL2.out (StsAt.at2 (stsAt_of_cells (((Blk.new _ _ _).plus.alloc _).plus) HRW.out) ?_) (IntsAt.at_ (intsAt_new (Blk.new _ _ _).plus) ?_) ⟨(fun h => by cases h), (fun h => by cases h)⟩ (by repeat (first | exact HV.out | exact Below.refl _ _ | refine bl_plus ?_ | refine bl_alloc ?_ _ | refine bl_drew ?_))
      · symm; simp only [plus_size]
      · symm; simp only [plus_size, World.size_alloc]

end Go.Proofs.Ytokghdcfbbogdaa
