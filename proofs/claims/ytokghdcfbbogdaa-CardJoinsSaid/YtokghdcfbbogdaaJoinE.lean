/-
  WALKS: the reference's Join on good input.
-/
import Derived.Test.YtokghdcfbbogdaaJoinD
namespace Go.Proofs.Ytokghdcfbbogdaa
open Go.RowKit

set_option maxHeartbeats 25600000 in
set_option maxRecDepth 100000 in
theorem joinOf_ok (A B : Option Addr) (c c2 : Nat) (xs bs : List St) (w : World) (hA : StsAt w A xs) (hnil : A = none → xs = [] ∧ c = 0) (hB : StsAt w B bs) (ha : statesErr xs = 0) (hb : statesErr bs = 0) :
    Calls Try.prog 40 #[.slice A xs.length c, .slice B bs.length c2] w (JoinOut (joinR (joinGo xs bs)) w) := by
  have hal := len_of_statesErr ha
  have hbl := len_of_statesErr hb
  obtain ⟨iS, hiS, hzS0, hzS1, hzS2⟩ := info_parts info_st
  have HIS := hide (And.intro hiS (And.intro hzS0 (And.intro hzS1 hzS2)))
  clear hiS hzS0 hzS1 hzS2
  generalize hR : joinGo xs bs = R
  have HR := hide hR
  have hc1 := fun w h => statesFault_any A c xs w h
  have hc2 := fun w h => statesFault_any B c2 bs w h
  rw [ha] at hc1
  rw [hb] at hc2
  have H1 := hide hc1
  have H2 := hide hc2
  have hclo := hide (fun w hA => cloneSts_any A c xs w hA hnil hal)
  have HA := hide hA
  have HB := hide hB
  clear hc1 hc2 hA hB hR ha hb hnil
  go_enter Try.func40, Try.ntmps40
  go_wp2
  go_loopw [17] (fun i wr => ∃ (k : Nat) (os : Array Obj) (n : Nat), k ≤ 2 ∧ i = .int .i64 k ∧ wr = plus (w.alloc (.cells #[.slice A xs.length c, .slice B bs.length c2] 36)) os n) (fun i _ => 2 - (intOf i).toNat)
  case atStart => exact ⟨0, #[], _, by omega, rfl, plus_nil.symm⟩
  case round =>
  obtain ⟨k, os, n, hk, rfl, rfl⟩ := hrel
  have hbk := (Blk.new w 36 #[.slice A xs.length c, .slice B bs.length c2]).plus (os := os) (n := n)
  have hk3 : k = 0 ∨ k = 1 ∨ k = 2 := by omega
  rcases hk3 with rfl | rfl | rfl
  · go_wp2_with (go_at_call 49; refine (H1.out _ ((HA.out.alloc _).plus _ _)).mono ?_; rintro e w' ⟨rfl, hb⟩; obtain ⟨os1, n1, rfl⟩ := below_plus hb; clear hb)
    go_roundw
    case rel => exact ⟨1, _, _, by omega, by go_num, by rw [plus_plus]⟩
    case measure => simp [intOf]
  · go_wp2_with (go_at_call 49; refine (H2.out _ ((HB.out.alloc _).plus _ _)).mono ?_; rintro e w' ⟨rfl, hb⟩; obtain ⟨os1, n1, rfl⟩ := below_plus hb; clear hb)
    go_roundw
    case rel => exact ⟨2, _, _, by omega, by go_num, by rw [plus_plus]⟩
    case measure => simp [intOf]
  clear hbk
  rw [show (((2 : Nat) : Int)) = 2 from rfl]
  go_upto_region 8 with (fail)
  have hW : Below w.heap.size w (plus (w.alloc (.cells #[.slice A xs.length c, .slice B bs.length c2] 36)) os n) := by repeat (first | exact Below.refl _ _ | refine bl_plus ?_ | refine bl_alloc ?_ _ | refine bl_drew ?_)
  generalize plus (w.alloc (.cells #[.slice A xs.length c, .slice B bs.length c2] 36)) os n = W0 at hW ⊢
  have HW := hide hW
  clear hW
  go_wp2_with (go_at_call 62; refine (hclo.out _ (HA.out.below HW.out)).mono ?_; rintro e w' ⟨v, rfl, hown, hb⟩; obtain ⟨os3, n3, rfl⟩ := below_plus hb; have HO := hide (ownK_of_own hown); clear hb hown)
  go_loopw [9, 31] (fun v i wr => ∃ (k : Nat) (out : List St) (os : Array Obj) (n : Nat), k ≤ bs.length ∧ i = .int .i64 k ∧ Hid (joinGo out (bs.drop k) = R ∧ out.length ≤ 5000 + k) ∧ OwnK 9 24 wr W0.heap.size v out.length (flat out) ∧ wr = plus W0 os n) (fun _ i _ => bs.length - (intOf i).toNat)
  case atStart => exact ⟨0, xs, _, _, Nat.zero_le _, rfl, ⟨by simpa using HR.out, by omega⟩, HO.out, rfl⟩
  case round =>
    clear HO
    obtain ⟨k, out, os, n, hk, rfl, HI, ho, rfl⟩ := hrel
    obtain ⟨A5, c5, rfl, hc5⟩ := ho.form
    by_cases hlt : k < bs.length
    · obtain ⟨i1, i2⟩ := HI.out
      rw [drop_cons bs k hlt] at i1
      simp only [joinGo] at i1
      obtain ⟨b, off, rfl, hb, hcell⟩ := HB.out (by omega)
      have hb0 : b < W0.heap.size := by have := HW.out.size; omega
      have hcc : StCells (plus W0 os n) b (off + k * 9) bs[k] := ((hcell k hlt).keep fun i => HW.out.cell (p := ⟨b, i, none⟩) hb).keep fun i => plus_cell hb0
      have hb1 : b < (plus W0 os n).heap.size := by rw [plus_size]; omega
      have hXB : Below W0.heap.size W0 (plus W0 os n) := bl_plus (Below.refl _ _)
      clear hcell HI
      generalize bs[k] = y at hcc i1
      have hjl := joinOne_len out y
      have hol : out.length ≤ 10000 := by omega
      obtain ⟨_, _, hsts⟩ := ho.sts
      generalize plus W0 os n = X at hcc hb1 ho hsts hXB ⊢
      obtain ⟨c0, c1, c2', c3, c4, c5', c6, c7, c8⟩ := hcc
      have hX0 : W0.heap.size ≤ X.heap.size := hXB.size
      have HXB := hide hXB
      have HS := hide hsts
      have HO := hide ho
      have I1 := hide i1
      have HJL := hide hjl
      clear i1 hjl hsts ho hXB
      go_upto_region 13 with (go_at_call 81; refine (indexJoin_any A5 c5 out y _ _ (HS.out.alloc _) (StCells.new9 _ _ rfl).1 (StCells.new9 _ _ rfl).2 (by omega)).mono ?_; rintro e w' ⟨⟨z, rfl, hz⟩, hb⟩; obtain ⟨os5, n5, rfl⟩ := below_plus hb; clear hb; have HZ := hide hz; clear hz)
      rcases HZ.out with ⟨rfl, hf⟩ | ⟨i, rfl, hf⟩
      · have hj := joinOne_none hf
        rw [hj] at I1 HJL
        clear hf HZ hj
        go_wp2_with (at_builtin; go_loud (refine wpList_append_k rfl (.tmp 41) (.tmp 43) rfl rfl Try.underlying36 HIS.out.1 HIS.out.2.1 HIS.out.2.2.1 (by decide) rfl (by have := HIS.out.2.2.2; omega) W0.heap.size _ _ (flat out) (stCells y) _ rfl (((HO.out.alloc _).plus _ _).alloc _) rfl (by intro u hu; simp only [stCells, List.mem_cons, List.not_mem_nil, or_false] at hu; rcases hu with rfl | rfl | rfl | rfl | rfl | rfl | rfl | rfl | rfl <;> rfl) rfl (new_cells9 (by simp only [plus_size, World.size_alloc])) (by omega) (by simp only [World.size_alloc, plus_size]; omega) ?_; intro v' w1 hown1 hgr1 hfr1; obtain ⟨os9, n9, rfl⟩ := grown_plus (L := W0) (by repeat (first | exact HXB.out | exact Below.refl _ _ | refine bl_plus ?_ | refine bl_alloc ?_ _ | refine bl_drew ?_)) hgr1 (fun q hq => (HO.out.lt q hq).1); have HN := hide hown1; clear hown1 hgr1 hfr1))
        go_roundw
        case rel => exact ⟨k + 1, out ++ [y], _, _, hlt, by go_num, ⟨I1.out, by have := HJL.out.2; omega⟩, by rw [flat_snoc, List.length_append]; exact HN.out, rfl⟩
        case measure => simp [intOf]; omega
      · obtain ⟨hi, _, _⟩ := find_of_idx_some hf
        have hj := joinOne_some hf (List.getElem?_eq_getElem hi)
        rw [hj] at I1 HJL
        obtain ⟨g, cs, rfl, hg, hblk, hrow, hn5, hm5, hsz⟩ := HO.out.row (by omega)
        have hrx : ∃ x, x = out[i] := ⟨_, rfl⟩
        obtain ⟨x, hx⟩ := hrx
        obtain ⟨r0, r1, r2, r3, r4, r5, r6, r7, r8⟩ := hrow.at_ hi hx.symm
        have hgX := hblk.lt
        have q0 := (hblk.cell (i * 9)).trans r0
        have q1 := (hblk.cell (i * 9 + 1)).trans r1
        have q2 := (hblk.cell (i * 9 + 2)).trans r2
        have q3 := (hblk.cell (i * 9 + 3)).trans r3
        have q4 := (hblk.cell (i * 9 + 4)).trans r4
        have q5 := (hblk.cell (i * 9 + 5)).trans r5
        have q6 := (hblk.cell (i * 9 + 6)).trans r6
        have q7 := (hblk.cell (i * 9 + 7)).trans r7
        have q8 := (hblk.cell (i * 9 + 8)).trans r8
        have qf := fun j => hblk.frozen j
        rw [← hx] at I1 HJL
        have hiz : (i : Int) < (out.length : Int) := by omega
        have HROW := hide hrow
        have HBLK := hide hblk
        clear r0 r1 r2 r3 r4 r5 r6 r7 r8 hf HZ hj hx hrow hblk
        go_upto_region 15 with (fail)
        have hbX : Below X.heap.size X (plus (X.alloc (.cells #[.int .i64 y.bl, .int .i64 y.no, .int .i64 y.st, .int .i64 y.ea, .int .i64 y.du, .int .i64 y.la, .int .i64 y.ti, .int .i64 y.lp, .int .i64 y.bu] 24)) os5 n5) := by repeat (first | exact Below.refl _ _ | refine bl_plus ?_ | refine bl_alloc ?_ _ | refine bl_drew ?_)
        have p5 := (hbX.cell (p := ⟨g, _, none⟩) hgX).trans q5
        have p6 := (hbX.cell (p := ⟨g, _, none⟩) hgX).trans q6
        obtain ⟨_, _, _, _, _, y5, y6, _, _, _, ylt⟩ := Blk.nine ((Blk.new X 24 #[.int .i64 y.bl, .int .i64 y.no, .int .i64 y.st, .int .i64 y.ea, .int .i64 y.du, .int .i64 y.la, .int .i64 y.ti, .int .i64 y.lp, .int .i64 y.bu]).plus (os := os5) (n := n5))
        go_cut [45] from 46 to 64 (fun v wx => v = .bool (newer x y) ∧ ∃ os6 n6, wx = plus (plus (X.alloc (.cells #[.int .i64 y.bl, .int .i64 y.no, .int .i64 y.st, .int .i64 y.ea, .int .i64 y.du, .int .i64 y.la, .int .i64 y.ti, .int .i64 y.lp, .int .i64 y.bu] 24)) os5 n5) os6 n6)
        case first =>
          have HI := hide (And.intro hiz hi)
          clear q0 q1 q2 q3 q4 q5 q6 q7 q8 qf hbX
          generalize hWc : (plus (X.alloc (.cells #[.int .i64 y.bl, .int .i64 y.no, .int .i64 y.st, .int .i64 y.ea, .int .i64 y.du, .int .i64 y.la, .int .i64 y.ti, .int .i64 y.lp, .int .i64 y.bu] 24)) os5 n5) = Wc at p5 p6 y5 y6 ylt ⊢
          generalize hgy : X.heap.size = gy at y5 y6 ylt ⊢
          have HWC := hide hWc
          have HGY := hide hgy
          clear hWc hgy
          go_region_held3 (fun w' => w'.cell? ⟨g, i * 9 + 5, none⟩ = some (.int .i64 x.la) ∧ w'.cell? ⟨g, i * 9 + 6, none⟩ = some (.int .i64 x.ti) ∧ w'.cell? ⟨gy, 5, none⟩ = some (.int .i64 y.la) ∧ w'.cell? ⟨gy, 6, none⟩ = some (.int .i64 y.ti)) (go_keep)
            (first | (go_at_call 77; refine (compare_any _ _ _).mono ?_; rintro e w' ⟨rfl, rfl⟩) | (go_at_call 76; refine (or2_any _ (cmp3 x.la y.la) (cmp3 x.ti y.ti) _ ?_ ?_).mono ?_; go_simp; go_simp; rintro e w' ⟨rfl, rfl⟩))
          all_goals go_wp2
          all_goals (have hgy := HGY.out; have hWc := HWC.out; clear HGY HWC; subst hWc hgy)
          all_goals go_meet
          all_goals
            refine ⟨rfl, ?_⟩
            exact below_plus (by repeat (first | exact Below.refl _ _ | refine bl_plus ?_ | refine bl_alloc ?_ _ | refine bl_drew ?_))
        case rest =>
          obtain ⟨rfl, os6, n6, rfl⟩ := hcut
          clear p5 p6 y5 y6 hbX
          cases hnw : newer x y with
          | false =>
            rw [hnw, if_neg (by simp)] at I1 HJL
            clear hnw q0 q1 q2 q3 q4 q5 q6 q7 q8 qf
            go_wp2
            go_roundw
            case rel => exact ⟨k + 1, out, _, _, hlt, by go_num, ⟨I1.out, by have := HJL.out.2; omega⟩, ((HO.out.alloc _).plus _ _).plus _ _, (below_plus (by repeat (first | exact HXB.out | exact Below.refl _ _ | refine bl_plus ?_ | refine bl_alloc ?_ _ | refine bl_drew ?_))).choose_spec.choose_spec⟩
            case measure => simp [intOf]; omega
          | true =>
            rw [hnw, if_pos rfl] at I1 HJL
            have HO9 : Hid (OwnK 9 24 (((((((((X.setCell ⟨g, i * 9, none⟩ (.int .i64 y.bl)).setCell ⟨g, i * 9 + 1, none⟩ (.int .i64 y.no)).setCell ⟨g, i * 9 + 2, none⟩ (.int .i64 y.st)).setCell ⟨g, i * 9 + 3, none⟩ (.int .i64 y.ea)).setCell ⟨g, i * 9 + 4, none⟩ (.int .i64 y.du)).setCell ⟨g, i * 9 + 5, none⟩ (.int .i64 y.la)).setCell ⟨g, i * 9 + 6, none⟩ (.int .i64 y.ti)).setCell ⟨g, i * 9 + 7, none⟩ (.int .i64 y.lp)).setCell ⟨g, i * 9 + 8, none⟩ (.int .i64 y.bu)) W0.heap.size (.slice (some ⟨g, 0, none⟩) out.length c5) out.length (flat (out.set i y))) :=
              ownK_of_row hg (((((((((HBLK.out.set_ _ _).set_ _ _).set_ _ _).set_ _ _).set_ _ _).set_ _ _).set_ _ _).set_ _ _).set_ _ _) (HROW.out.set9 hi y) (by simp) hn5 hm5 (by simpa using hsz)
            have HI := hide hi
            clear hnw
            go_wp2
            go_roundw
            case rel => exact ⟨k + 1, out.set i y, _, _, hlt, by go_num, ⟨I1.out, by have := HJL.out.2; omega⟩, by rw [List.length_set]; exact ((HO9.out.alloc _).plus _ _).plus _ _, (below_plus (bl_plus (bl_plus (bl_alloc (Below.setCell (Below.setCell (Below.setCell (Below.setCell (Below.setCell (Below.setCell (Below.setCell (Below.setCell (Below.setCell HXB.out hg _) hg _) hg _) hg _) hg _) hg _) hg _) hg _) hg _) _)))).choose_spec.choose_spec⟩
            case measure => simp [intOf]; omega
    · have hkl : k = bs.length := by omega
      subst hkl
      obtain ⟨i1, i2⟩ := HI.out
      rw [List.drop_length] at i1
      simp only [joinGo] at i1
      subst i1
      have HO := hide ho
      clear ho HI HR i2
      by_cases hbig : 5000 < out.length
      · have hbz : (5000 : Int) < (out.length : Int) := by omega
        have hj : joinR out = ([], 4) := by unfold joinR; rw [if_pos hbig]
        have HJ := hide hj
        clear hbig hj
        go_wp2
        go_returns
        rw [HJ.out]
        exact joinOut_err (by repeat (first | exact HW.out | exact Below.refl _ _ | refine bl_plus ?_ | refine bl_alloc ?_ _ | refine bl_drew ?_))
      · have hbz : ¬ (5000 : Int) < (out.length : Int) := by omega
        have hj : joinR out = (sortSt out, 0) := by unfold joinR; rw [if_neg hbig]
        have HJ := hide hj
        have hol : out.length ≤ 5000 := by omega
        clear hbig hj
        go_wp2_with (go_at_call 78; refine (sortSts_any 83 (enters_of Try.func83 (by kernel_rfl) rfl) (fun x y W => order_grow x y W) W0.heap.size c5 out.length A5 out _ HO.out (by omega) (by simp only [plus_size]; omega)).mono ?_; rintro e w' ⟨rfl, hb, hs, _⟩; obtain ⟨os4, n4, rfl⟩ := below_plus (W := W0) ((bl_plus (Below.refl _ _)).trans hb); have HQ := hide hs; clear hb hs)
        go_returns
        obtain ⟨_, sl2, s2⟩ := HQ.out.sts
        rw [HJ.out]
        exact joinOut_mk rfl sl2 s2 (by repeat (first | exact HW.out | exact Below.refl _ _ | refine bl_plus ?_ | refine bl_alloc ?_ _ | refine bl_drew ?_))

end Go.Proofs.Ytokghdcfbbogdaa
