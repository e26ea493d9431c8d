/-
  WALKS: to which page a title leads, the reference's way; PageFor; NamesFor.
-/
import Derived.Test.YtafgfldcbdkccaaGreatDoorLkj
import Derived.Test.YtafgfldcbdkccaaGreatDoorDlP
set_option linter.all false
namespace Go.Proofs.YtafgfldcbdkccaaGreatDoor
open Go.RowKit Go.Lib Go.Maps Go.WideElems Go.WideMaps Go.Shelf

theorem find_at {q : Int → Bool} {S : List Int} {j : Nat} (hj : j < S.length) (hn : (S.take j).find? q = none) (h : q S[j] = true) : S.find? q = some S[j] := by
  have e : S.take j ++ S[j] :: S.drop (j + 1) = S := by rw [← List.drop_eq_getElem_cons hj, List.take_append_drop]
  have h2 := congrArg (fun l : List Int => l.find? q) e
  simp only [List.find?_append, hn, Option.none_or] at h2
  rw [← h2, List.find?_cons_of_pos h]

theorem find_no {q : Int → Bool} {S : List Int} {j : Nat} (hj : j < S.length) (hn : (S.take j).find? q = none) (h : q S[j] = false) : (S.take (j + 1)).find? q = none := by
  rw [List.take_succ_eq_append_getElem hj, List.find?_append, hn, Option.none_or, List.find?_cons_of_neg (by rw [h]; decide)]
  rfl

set_option maxHeartbeats 1600000 in
set_option maxRecDepth 100000 in
theorem pageFn_any (a z : ByteArray) (g : Nat) (w : World) (hm : MaxTold w) (hs : a.size ≤ 1100000) (hg : w.cell? ⟨g, 0, none⟩ = some (.string z)) (hl : g < w.heap.size) :
    Calls Tryz.prog 37 #[.string a, .pointer (some ⟨g, 0, none⟩)] w fun e w' => e = .returned (.bool ((foldT a).toList == z.toList)) ∧ Below w.heap.size w w' := by
  have HF := hide (fun W (hb : Below w.heap.size w W) => foldOfTitle_any a W (maxTold_below hm hb) hs)
  generalize foldT a = y at *
  go_enter Tryz.func37, Tryz.ntmps37
  go_upto_region 1 with (fail)
  go_region_with (go_at_call 10; refine (HF.out _ ?hb).mono ?_; (case hb => exact (by repeat (first | with_reducible exact Below.refl _ _ | with_reducible refine bl_plus ?_ | with_reducible refine bl_alloc ?_ _ | with_reducible refine bl_drew ?_ | with_reducible refine bl_drewN ?_ _))); rintro e w' ⟨rfl, hbl⟩; obtain ⟨os1, n1, rfl⟩ := below_plus hbl; clear hbl)
  all_goals
    go_wp2
    go_ret
    exact ⟨rfl, (by repeat (first | with_reducible exact Below.refl _ _ | with_reducible refine bl_plus ?_ | with_reducible refine bl_alloc ?_ _ | with_reducible refine bl_drew ?_ | with_reducible refine bl_drewN ?_ _))⟩

/-! ### ContainsFunc -/
def CfOut (d : ByteArray → Bool) (l : List ByteArray) (w : World) (e : Ending) (w' : World) : Prop := e = .returned (.bool (l.any d)) ∧ Below w.heap.size w w'

theorem fst_any {d : ByteArray → Bool} {l : List ByteArray} {r : Int} (h : FstP d l r) : decide (0 ≤ r) = l.any d := by
  rcases h with ⟨k, hk, rfl, hd, -⟩ | ⟨rfl, hall⟩
  · rw [decide_eq_true (by omega), eq_comm, List.any_eq_true]
    exact ⟨_, List.getElem_mem hk, hd⟩
  · rw [decide_eq_false (by omega), eq_comm, List.any_eq_false]
    intro x hx
    obtain ⟨j, hj, rfl⟩ := List.getElem_of_mem hx
    rw [hall j hj]
    decide

set_option maxHeartbeats 1600000 in
theorem containsFn_any (fid : FuncId) (gq : Nat) (d : ByteArray → Bool) (A : Option Addr) (c : Nat) (l : List ByteArray) (w : World) (hA : SAt w A l) (hm : l.length ≤ 2000000) (ent : ∀ args w, (callFunc fid args).run Tryz.prog w = .ok (.enter fid args) w)
    (hF : ∀ x ∈ l, ∀ W, Below w.heap.size w W → Calls Tryz.prog fid #[.string x, .pointer (some ⟨gq, 0, none⟩)] W fun e w' => e = .returned (.bool (d x)) ∧ Below W.heap.size W w') :
    Calls Tryz.prog 35 #[.slice A l.length c, .func (.func fid) #[] #[.pointer (some ⟨gq, 0, none⟩)]] w (CfOut d l w) := by
  have HI := hide (indexP_any fid gq d A c l w hA.2 hm ent hF)
  unfold FstOutP at HI
  have HPO : Hid (∀ (r : Int) w', FstP d l r → Below w.heap.size w w' → CfOut d l w (.returned (.bool (decide (0 ≤ r)))) w') := hide fun r w' h1 h2 => ⟨by rw [fst_any h1], h2⟩
  generalize CfOut d l w = PO at *
  clear hA hF ent
  go_enter Tryz.func35, Tryz.ntmps35
  go_wp2_with (go_at_call 44; refine HI.out.mono ?_; rintro e w' ⟨r, rfl, hr, hbl⟩; have HR := hide (HPO.out r w' hr hbl); clear hr hbl)
  exact HR.out

/-! ### page -/
theorem Right.sorted_at {l : List BK} (R : Right l) {p : Int} (h : p ∈ sortZ (pgs l)) : ∃ m, ∃ hm : m < l.length, l[m].id = p ∧ txtL l p = l[m].txt.data.toList ∧ alOf l p = alsA l[m].ps := by
  obtain ⟨m, hm, -, hid, -⟩ := R.pgs_mem (sortZ_mem.1 h)
  have hbk := bkOf_at R.good.ids hm
  rw [hid] at hbk
  exact ⟨m, hm, hid, by unfold txtL; rw [hbk], by unfold alOf; rw [hbk]⟩

theorem fold_beq (a : ByteArray) (f : List UInt8) : ((foldT a).toList == f) = (foldL a.data.toList == f) := by rw [toList_data, foldT_list]

set_option maxHeartbeats 6400000 in
set_option maxRecDepth 100000 in
theorem bookPage_any (l : List BK) (A : Option Addr) (c : Nat) (w0 W : World) (h : BK0 l A c w0 W) (s : ByteArray) (hs : s.size ≤ 1100000) :
    Calls Tryz.prog 14 #[.agg #[.slice A l.length c], .string s] W fun e w' => e = .returned (.int .i64 (leadL l (foldL s.data.toList))) ∧ Below W.heap.size W w' := by
  have hmt : ∀ W', Below W.heap.size W W' → MaxTold W' := fun W' hb => maxTold_below (maxTold_below h.told h.bel) hb
  have HMT := hide hmt
  have HF := hide (fun W' (hb : Below W.heap.size W W') => foldOfTitle_any s W' (hmt W' hb) hs)
  have HSO := hide (fun W' (hb : Below W.heap.size W W') => bookSorted_any l A c w0 W' (h.below hb))
  unfold SdzOut at HSO
  have HBB := hide (fun W' (hb : Below W.heap.size W W') (m : Nat) (hm : m < l.length) => bookBlock_any l A c w0 W' (h.below hb) hm)
  unfold BbOut at HBB
  have HALS := hide (fun W' (hb : Below W.heap.size W W') (m : Nat) (hm : m < l.length) => bookAliases_any l A c w0 W' (h.below hb) hm)
  unfold AlOut at HALS
  have HB0 := hide h
  have hl5 := h.right.pgs_len
  have HPO : Hid (∀ (r : Int) w', r = leadL l (foldL s.data.toList) → Below W.heap.size W w' → (fun (e : Ending) (w' : World) => e = .returned (.int .i64 (leadL l (foldL s.data.toList))) ∧ Below W.heap.size W w') (.returned (.int .i64 r)) w') := hide fun r w' h1 h2 => by subst h1; exact ⟨rfl, h2⟩
  generalize (fun (e : Ending) (w' : World) => e = .returned (.int .i64 (leadL l (foldL s.data.toList))) ∧ Below W.heap.size W w') = PO at *
  have hzl := toList_data (foldT s)
  rw [foldT_list] at hzl
  have HZL := hide hzl
  have HLD := hide (show leadL l (foldL s.data.toList) = match (sortZ (pgs l)).find? (isTtl l (foldL s.data.toList)) with | some p => p | none => ((sortZ (pgs l)).find? (isAls l (foldL s.data.toList))).getD 0 from rfl)
  clear hzl hmt h
  generalize foldT s = z at *
  generalize foldL s.data.toList = f at *
  obtain ⟨S, hS⟩ : ∃ S, S = sortZ (pgs l) := ⟨_, rfl⟩
  have hSl : (pgs l).length = S.length := by rw [hS, sortZ_len]
  rw [← hS] at HSO HLD
  rw [hSl] at HSO hl5
  have HSM := hide (fun p (hp : p ∈ S) => HB0.out.right.sorted_at (by rw [← hS]; exact hp))
  clear hS hSl
  go_enter Tryz.func14, Tryz.ntmps14
  go_upto_block 1 with (first
    | (go_at_call 10; refine (HF.out _ ?hb).mono ?_; (case hb => exact (by repeat (first | with_reducible exact Below.refl _ _ | with_reducible refine bl_plus ?_ | with_reducible refine bl_alloc ?_ _ | with_reducible refine bl_drew ?_ | with_reducible refine bl_drewN ?_ _))); rintro e w' ⟨rfl, hbl⟩; obtain ⟨os1, n1, rfl⟩ := below_plus hbl; clear hbl)
    | (go_at_call 33; refine (HSO.out _ ?hb).mono ?_; (case hb => exact (by repeat (first | with_reducible exact Below.refl _ _ | with_reducible refine bl_plus ?_ | with_reducible refine bl_alloc ?_ _ | with_reducible refine bl_drew ?_ | with_reducible refine bl_drewN ?_ _))); rintro e w3 ⟨A5, c5, rfl, hrow, hbl⟩; have HRW := hide (ownsRow_ints hrow (by first | rfl | simp)); have HB3 := hide hbl; clear hrow hbl))
  have HBX := hide (show Below W.heap.size W ((plus (W.alloc (.cells #[.slice A l.length c] 37)) os1 n1).alloc (.cells #[.string z] 9)) from (by repeat (first | with_reducible exact Below.refl _ _ | with_reducible refine bl_plus ?_ | with_reducible refine bl_alloc ?_ _ | with_reducible refine bl_drew ?_ | with_reducible refine bl_drewN ?_ _)))
  have HX2 := hide (show Blk ((plus (W.alloc (.cells #[.slice A l.length c] 37)) os1 n1).alloc (.cells #[.string z] 9)) W.heap.size 37 #[.slice A l.length c] from ((Blk.new W _ _).plus).alloc _)
  have HX5 := hide (show Blk ((plus (W.alloc (.cells #[.slice A l.length c] 37)) os1 n1).alloc (.cells #[.string z] 9)) (W.heap.size + 1 + os1.size) 9 #[.string z] from by
    have := Blk.new (plus (W.alloc (.cells #[.slice A l.length c] 37)) os1 n1) 9 #[.string z]
    rwa [show (plus (W.alloc (.cells #[.slice A l.length c] 37)) os1 n1).heap.size = W.heap.size + 1 + os1.size by simp only [plus_size, World.size_alloc]] at this)
  generalize (plus (W.alloc (.cells #[.slice A l.length c] 37)) os1 n1).alloc (.cells #[.string z] 9) = Wx at *
  generalize W.heap.size + 1 + os1.size = g5 at *
  obtain ⟨g2, hg2⟩ : ∃ g2, g2 = W.heap.size := ⟨_, rfl⟩
  rw [← hg2] at HX2 ⊢
  have HG2 := hide hg2
  clear hg2
  have HBW3 := hide (below_chainT HBX.out HB3.out)
  have H2 := hide (HX2.out.below HB3.out HX2.out.lt)
  have H5 := hide (HX5.out.below HB3.out HX5.out.lt)
  have HSI := hide HRW.out.1
  clear HRW HX2 HX5 HBX HB3
  have HQ := hide (fun W' (hb : Below w3.heap.size w3 W') => (⟨(H2.out.below hb H2.out.lt).cell 0, (H5.out.below hb H5.out.lt).cell 0, Nat.lt_of_lt_of_le H2.out.lt hb.size, Nat.lt_of_lt_of_le H5.out.lt hb.size⟩ : W'.cell? ⟨g2, 0, none⟩ = some (.slice A l.length c) ∧ W'.cell? ⟨g5, 0, none⟩ = some (.string z) ∧ g2 < W'.heap.size ∧ g5 < W'.heap.size))
  go_wp2
  go_loopw [15] (fun i9 wr => ∃ j : Nat, j ≤ S.length ∧ i9 = .int .i64 j ∧ Hid ((S.take j).find? (isTtl l f) = none) ∧ Hid (Below w3.heap.size w3 wr)) (fun i9 _ => S.length - (intOf i9).toNat)
  case atStart => exact ⟨0, Nat.zero_le _, rfl, hide rfl, hide (by repeat (first | with_reducible exact Below.refl _ _ | with_reducible refine bl_plus ?_ | with_reducible refine bl_alloc ?_ _ | with_reducible refine bl_drew ?_ | with_reducible refine bl_drewN ?_ _))⟩
  case round =>
    obtain ⟨j, hj, rfl, HFD, HB⟩ := hrel
    by_cases hlt : j < S.length
    · obtain ⟨b2, o2, rfl, hb2, z0⟩ := ints_get (HSI.out.below HB.out) hlt
      obtain ⟨m, hm, hid, htx, -⟩ := HSM.out S[j] (List.getElem_mem hlt)
      have HYES := hide (fun h => find_at hlt HFD.out h)
      have HNO := hide (fun h => find_no hlt HFD.out h)
      have hbw := below_chainT HBW3.out HB.out
      have HBM := hide (fun W' (hb : Below wr.heap.size wr W') => by have := HBB.out W' (below_chainT hbw hb) m hm; rwa [hid] at this)
      obtain ⟨b, o, A1, c1, A2, c2, rfl, hlb, q0, q1, q2, q3, q4, -, -⟩ := HB0.out.at_.getB (below_chainT HB0.out.bel hbw) hm
      have HFT := hide (fun W' (hb : Below wr.heap.size wr W') => foldOfTitle_any l[m].txt W' (HMT.out W' (below_chainT hbw hb)) (by have := HB0.out.right.txt _ (List.getElem_mem hm); omega))
      have HTT := hide (show isTtl l f S[j] = ((foldT l[m].txt).toList == z.toList) from by unfold isTtl; rw [htx, HZL.out, fold_beq])
      obtain ⟨qa, qb, qc, qd⟩ := HQ.out wr HB.out
      have i1 : (j : Int) < (S.length : Int) := by omega
      clear hid htx q0 q1 q2 q4
      generalize S[j] = p at *
      generalize l[m].txt = tx at *
      generalize foldT tx = y at *
      obtain ⟨W4, hW4⟩ : ∃ W4 : World, W4 = wr := ⟨_, rfl⟩
      subst hW4
      go_upto_region 5 with (fail)
      go_cut [27] from 19 to 27 (fun s27 wx => s27 = .bool (y.toList == z.toList) ∧ Hid (Below W4.heap.size W4 wx))
      case first =>
        go_region_with (first
          | (go_at_call 34; refine (HBM.out _ ?hb).mono ?_; (case hb => exact (by repeat (first | with_reducible exact Below.refl _ _ | with_reducible refine bl_plus ?_ | with_reducible refine bl_alloc ?_ _ | with_reducible refine bl_drew ?_ | with_reducible refine bl_drewN ?_ _))); rintro e w' ⟨⟨b9, o9, e9, rfl⟩, hbl⟩; injection e9 with e9; injection e9 with e91 e92; subst e91 e92; obtain ⟨os2, n2, rfl⟩ := below_plus hbl; clear hbl)
          | (go_at_call 10; refine (HFT.out _ ?hb).mono ?_; (case hb => exact (by repeat (first | with_reducible exact Below.refl _ _ | with_reducible refine bl_plus ?_ | with_reducible refine bl_alloc ?_ _ | with_reducible refine bl_drew ?_ | with_reducible refine bl_drewN ?_ _))); rintro e w' ⟨rfl, hbl⟩; obtain ⟨os3, n3, rfl⟩ := below_plus hbl; clear hbl))
        all_goals
          go_wp2
          go_meet
          case rel => exact ⟨rfl, hide (by repeat (first | with_reducible exact Below.refl _ _ | with_reducible refine bl_plus ?_ | with_reducible refine bl_alloc ?_ _ | with_reducible refine bl_drew ?_ | with_reducible refine bl_drewN ?_ _))⟩
      case rest =>
        obtain ⟨rfl, HBC⟩ := hcut
        have HBN := hide (below_chainT HB.out HBC.out)
        clear HBM HFT
        cases hd : (y.toList == z.toList) with
        | true =>
          have HR := hide (HPO.out p wc (by rw [HLD.out, HYES.out (by rw [HTT.out, hd])]) (below_chainT HBW3.out HBN.out))
          clear hd HYES HNO
          go_wp2
          exact HR.out
        | false =>
          have HN2 := hide (HNO.out (by rw [HTT.out, hd]))
          clear hd HYES HNO
          go_wp2
          go_roundw
          case rel => exact ⟨j + 1, by omega, by go_num, HN2, HBN⟩
          case measure => simp [intOf]; omega
    · obtain rfl : j = S.length := by omega
      have hfn := HFD.out
      rw [List.take_length] at hfn
      rw [hfn] at HLD
      obtain ⟨W4, hW4⟩ : ∃ W4 : World, W4 = wr := ⟨_, rfl⟩
      subst hW4
      obtain ⟨qa, qb, qc, qd⟩ := HQ.out W4 HB.out
      have HBW4 := hide (below_chainT HBW3.out HB.out)
      clear HFD hfn
      go_upto_block 9 with (first
        | (go_at_call 33; refine (HSO.out _ ?hb).mono ?_; (case hb => first | exact HBW4.out | exact bl_drew HBW4.out); rintro e w5 ⟨A6, c6, rfl, hrow, hbl⟩; have HSJ := hide (ownsRow_ints hrow (by first | rfl | simp)).1; have HB5 := hide (show Below W4.heap.size W4 w5 from by first | exact hbl | exact below_chainT (bl_drew (Below.refl _ _)) hbl); clear hrow hbl; have HQ5 := HQ.out w5 (below_chainT HB.out HB5.out); obtain ⟨qa5, qb5, qc5, qd5⟩ := HQ5))
      have HB9 := hide (below_chainT HB.out HB5.out)
      have HBW5 := hide (below_chainT HBW3.out HB9.out)
      have HQ := hide (fun W' (hb : Below w5.heap.size w5 W') => HQ.out W' (below_chainT HB9.out hb))
      clear HB HB5 HBW4 HSO HF HBB H2 H5 HSI
      go_loopw [33] (fun i9 wr => ∃ j : Nat, j ≤ S.length ∧ i9 = .int .i64 j ∧ Hid ((S.take j).find? (isAls l f) = none) ∧ Hid (Below w5.heap.size w5 wr)) (fun i9 _ => S.length - (intOf i9).toNat)
      case atStart => exact ⟨0, Nat.zero_le _, rfl, hide rfl, hide (Below.refl _ _)⟩
      case round =>
        obtain ⟨j, hj, rfl, HFD, HB⟩ := hrel
        by_cases hlt : j < S.length
        · obtain ⟨b2, o2, rfl, hb2, z0⟩ := ints_get (HSJ.out.below HB.out) hlt
          obtain ⟨m, hm, hid, -, hals⟩ := HSM.out S[j] (List.getElem_mem hlt)
          have HYES := hide (fun h => find_at hlt HFD.out h)
          have HNO := hide (fun h => find_no hlt HFD.out h)
          have hbw := below_chainT HBW5.out HB.out
          have HAL := hide (fun W' (hb : Below wr.heap.size wr W') => by have := HALS.out W' (below_chainT hbw hb) m hm; rwa [hid] at this)
          have hal := HB0.out.right.als hm
          have HMS := hide hal.2
          have hal20 := hal.1
          have HMW := hide (fun W' (hb : Below wr.heap.size wr W') => HMT.out W' (below_chainT hbw hb))
          have HTT := hide (show isAls l f S[j] = (alsA l[m].ps).any (fun a => (foldT a).toList == z.toList) from by unfold isAls; rw [hals, HZL.out]; congr 1; funext a; exact (fold_beq a f).symm)
          obtain ⟨qa, qb, qc, qd⟩ := HQ.out wr HB.out
          have i1 : (j : Int) < (S.length : Int) := by omega
          clear hid hals hal
          generalize S[j] = p at *
          generalize alsA l[m].ps = als at *
          obtain ⟨W4, hW4⟩ : ∃ W4 : World, W4 = wr := ⟨_, rfl⟩
          subst hW4
          go_upto_region 11 with (fail)
          go_cut [41] from 37 to 41 (fun s41 wx => s41 = .bool (isAls l f p) ∧ Hid (Below W4.heap.size W4 wx))
          case first =>
            go_wp2_with (first
              | (go_at_call 36; refine (HAL.out _ ?hb).mono ?_; (case hb => exact (by repeat (first | with_reducible exact Below.refl _ _ | with_reducible refine bl_plus ?_ | with_reducible refine bl_alloc ?_ _ | with_reducible refine bl_drew ?_ | with_reducible refine bl_drewN ?_ _))); rintro e w7 ⟨A8, c8, rfl, hrow, hbl⟩; have HRS := hide (sAt_own hrow).2.2.2; have HB7 := hide (show Below W4.heap.size W4 w7 from hbl); clear hrow hbl; obtain ⟨qa7, qb7, qc7, qd7⟩ := HQ.out w7 (below_chainT HB.out HB7.out))
              | (go_at_call 35; refine (containsFn_any 37 g5 (fun a => (foldT a).toList == z.toList) A8 c8 als w7 HRS.out (by omega) (enters_of Tryz.func37 (by kernel_rfl) rfl) (fun x hx W' hb => pageFn_any x z g5 W' (HMW.out W' (below_chainT HB7.out hb)) (by have := HMS.out x hx; omega) ((HQ.out W' (below_chainT HB.out (below_chainT HB7.out hb))).2.1) ((HQ.out W' (below_chainT HB.out (below_chainT HB7.out hb))).2.2.2))).mono ?_; rintro e w8 ⟨rfl, hbl⟩; have HB8 := hide (below_chainT HB7.out hbl); clear hbl; rw [← HTT.out]))
            go_meet
            case rel => exact ⟨rfl, HB8⟩
          case rest =>
            obtain ⟨rfl, HBC⟩ := hcut
            have HBN := hide (below_chainT HB.out HBC.out)
            clear HAL HMS HMW HTT
            cases hd : isAls l f p with
            | true =>
              have HR := hide (HPO.out p wc (by rw [HLD.out, HYES.out hd]; rfl) (below_chainT HBW5.out HBN.out))
              clear hd HYES HNO
              go_wp2
              exact HR.out
            | false =>
              have HN2 := hide (HNO.out hd)
              clear hd HYES HNO
              go_wp2
              go_roundw
              case rel => exact ⟨j + 1, by omega, by go_num, HN2, HBN⟩
              case measure => simp [intOf]; omega
        · obtain rfl : j = S.length := by omega
          have hfn := HFD.out
          rw [List.take_length] at hfn
          have HR := hide (HPO.out 0 wr (by rw [HLD.out, hfn]; rfl) (below_chainT HBW5.out HB.out))
          clear hfn
          go_wp2
          exact HR.out

end Go.Proofs.YtafgfldcbdkccaaGreatDoor
