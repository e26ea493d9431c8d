/-
  WALKS: all links of a view; Links; Back.
-/
import Derived.Test.YtioppoaijehicaaGreatDoorLfe
import Derived.Test.YtioppoaijehicaaGreatDoorOwnC
import Derived.Test.YtioppoaijehicaaGreatDoorCnI
import Derived.Test.YtioppoaijehicaaGreatDoorLki
set_option linter.all false
namespace Go.Proofs.YtioppoaijehicaaGreatDoor
open Go.RowKit Go.Lib Go.Maps Go.WideElems Go.WideMaps

theorem vwBase0 {l : List BK} {A : Option Addr} {c gv : Nat} {w0 W : World} (h : VW l A c w0 W gv) : W.cell? ⟨gv, 0, none⟩ = some (.slice A l.length c) ∧ gv < W.heap.size := by
  obtain ⟨-, -, -, ga, gp, gt, gl, fp, -, h2⟩ := h
  obtain ⟨v0, -, -, -, -, vlt⟩ := h2.cells
  exact ⟨v0, vlt⟩

theorem vwAt1 {l : List BK} {A : Option Addr} {c gv : Nat} {w0 W : World} (h : VW l A c w0 W gv) {k : Int} (hk : In64 k) : ∃ ga, W.cell? ⟨gv, 1, none⟩ = some (.map (some ga)) ∧ gv < W.heap.size ∧ (Instr.lookup 52 (.map (some ga)) (.int .i64 k) true).run Tryz.prog W = .ok (.tuple #[.int .i64 ((ixOf l k).getD 0 : Nat), .bool (ixOf l k).isSome]) W := by
  obtain ⟨-, -, -, ga, gp, gt, gl, fp, -, h2⟩ := h
  obtain ⟨-, v1, -, -, -, vlt⟩ := h2.cells
  obtain ⟨n, D, hN⟩ := h2.at_
  exact ⟨ga, v1, vlt, hN.lookOk hk⟩

theorem ownK_src {K n c base : Nat} {t : TypeId} {w : World} {A : Option Addr} {xs : List Value} (h : OwnK K t w base (.slice A n c) n xs) : 0 < n → ∃ ad, A = some ad ∧ ∀ j u, xs[j]? = some u → w.cell? (ad.add j) = some u := fun h0 => by
  obtain ⟨hl, A', c', hv, h1, h2, h3⟩ := h
  injection hv with e1 _ e3
  subst e1 e3
  rcases h3 with ⟨-, h4, -⟩ | ⟨g, cur, rfl, hg, hb, h4, h5⟩
  · omega
  · refine ⟨_, rfl, fun j u hj => ?_⟩
    have hadd : (⟨g, 0, none⟩ : Addr).add j = ⟨g, j, none⟩ := by unfold Addr.add; split <;> simp_all
    rw [hadd, cell_of_row w g j cur _ (0, 0) hb]
    rw [← h5, List.getElem?_take] at hj
    split at hj
    · simpa using hj
    · cases hj

theorem flatLk_one (l : List Lk) : ∀ u ∈ flatG Lk.vals l, u.oneCell' = true := fun u hu => by
  obtain ⟨x, -, hx⟩ := List.mem_flatMap.1 hu
  simp only [Lk.vals, List.mem_cons, List.not_mem_nil, or_false] at hx
  rcases hx with rfl | rfl | rfl | rfl | rfl | rfl <;> rfl

set_option maxHeartbeats 6400000 in
set_option maxRecDepth 100000 in
theorem viewLinks_any (l : List BK) (A : Option Addr) (c gv : Nat) (w0 W : World) (hV : VW l A c w0 W gv) :
    Calls Tryz.prog 36 #[.pointer (some ⟨gv, 0, none⟩)] W (RowLk (lksOf l l) W) := by
  have R := hV.right
  have HV := hide hV
  have HA := hide hV.at_
  have hVb := hV.bel
  have HBK := hide (fun j (hj : j < l.length) => bk_ok R (List.getElem_mem hj))
  have HLO := hide (fun W' (hv : VW l A c w0 W' gv) (b : BK) (hb : BkOk b) A1 m1 c1 A2 c2 (hp : PsAt W' A2 b.ps) => (show Calls Tryz.prog 76 #[.pointer (some ⟨gv, 0, none⟩), .agg #[.int .i64 b.id, .int .i64 b.par, .slice A1 m1 c1, .string b.txt, .slice A2 b.ps.length c2]] W' (RowLk (lksBl l b) W') from viewLinksOf_any l A c gv w0 W' hv b.id b.par A1 m1 c1 b.txt b.ps A2 c2 hp hb.p20 hb.v20 hb.str hb.i64 (by have := hb.t2k; omega)))
  unfold RowLk at HLO
  have HST := hide (fun j (hj : j < l.length) => lksOf_step (l := l) hj)
  have HLN := hide (lks_all_len R)
  have HQ := hide (fun b hb => lksBl_len (l := l) (b := b) hb)
  have HPO : Hid (∀ A c n w', n = (lksOf l l).length → OwnK 6 45 w' W.heap.size (.slice A n c) n (flatG Lk.vals (lksOf l l)) → Below W.heap.size W w' → RowLk (lksOf l l) W (.returned (.slice A n c)) w') := hide fun A c n w' hn h1 h2 => by subst hn; exact ⟨A, c, rfl, h1, h2⟩
  generalize RowLk (lksOf l l) W = PO at *
  have hln := R.len
  obtain ⟨iL, hiL, hzL0, hzL1, hzL2⟩ := info_parts info_lk
  have HIL := hide (And.intro hiL (And.intro hzL0 (And.intro hzL1 hzL2)))
  obtain ⟨v0, vlt⟩ := vwBase0 hV
  clear hV R hiL hzL0 hzL1 hzL2
  go_enter Tryz.func36, Tryz.ntmps36
  go_wp2
  go_loopw [3, 11] (fun s3 i9 wr => ∃ (j : Nat) (out : List Lk), j ≤ l.length ∧ i9 = .int .i64 j ∧ Hid (out = lksOf l (l.take j)) ∧ Hid (OwnK 6 45 wr W.heap.size s3 out.length (flatG Lk.vals out)) ∧ Hid (Below W.heap.size W wr)) (fun _ i9 _ => l.length - (intOf i9).toNat)
  case atStart => exact ⟨0, [], Nat.zero_le _, rfl, hide rfl, hide OwnK.empty, hide (by repeat (first | with_reducible exact Below.refl _ _ | with_reducible refine bl_plus ?_ | with_reducible refine bl_alloc ?_ _ | with_reducible refine bl_drew ?_ | with_reducible refine bl_drewN ?_ _))⟩
  case round =>
    obtain ⟨j, out, hj, rfl, HO, HS, HB⟩ := hrel
    obtain ⟨A3, c3, rfl, hs1, hs2, hs3⟩ := ownK_form HS.out
    obtain ⟨WR, hWR⟩ : ∃ WR : World, WR = wr := ⟨_, rfl⟩
    subst hWR
    by_cases hlt : j < l.length
    · obtain ⟨b, o, A1, c1, A2, c2, rfl, hlb, q0, q1, q2, q3, q4, hks, hps⟩ := HA.out.getB (below_chainT hVb HB.out) hlt
      have i1 : (j : Int) < (l.length : Int) := by omega
      have hol : out.length ≤ 4840000 := by rw [HO.out]; exact HLN.out j
      have HX := hide (by rw [HST.out j hlt, ← HO.out] : lksOf l (l.take (j + 1)) = out ++ lksBl l l[j])
      have hq := HQ.out l[j] (HBK.out j hlt)
      go_upto_region 5 with (fail)
      have HB2 := hide (bl_alloc HB.out (.cells #[.int .i64 l[j].id, .int .i64 l[j].par, .slice A1 l[j].kids.length c1, .string l[j].txt, .slice A2 l[j].ps.length c2] 82))
      have HO2 := hide (ownK_alloc HS.out (.cells #[.int .i64 l[j].id, .int .i64 l[j].par, .slice A1 l[j].kids.length c1, .string l[j].txt, .slice A2 l[j].ps.length c2] 82))
      have HLJ := hide (HLO.out (WR.alloc (.cells #[.int .i64 l[j].id, .int .i64 l[j].par, .slice A1 l[j].kids.length c1, .string l[j].txt, .slice A2 l[j].ps.length c2] 82)) (HV.out.below HB2.out) l[j] (HBK.out j hlt) A1 l[j].kids.length c1 A2 c2 (hps.below (below_chainT hVb HB2.out)))
      have HBX := hide (Blk.new WR 82 #[.int .i64 l[j].id, .int .i64 l[j].par, .slice A1 l[j].kids.length c1, .string l[j].txt, .slice A2 l[j].ps.length c2])
      clear hps hks q0 q1 q2 q3 q4 HS HB HO
      generalize WR.alloc (.cells #[.int .i64 l[j].id, .int .i64 l[j].par, .slice A1 l[j].kids.length c1, .string l[j].txt, .slice A2 l[j].ps.length c2] 82) = W2 at *
      have z0 := HBX.out.cell 0
      have z1 := HBX.out.cell 1
      have z2 := HBX.out.cell 2
      have z3 := HBX.out.cell 3
      have z4 := HBX.out.cell 4
      have zlt := HBX.out.lt
      simp only [List.getElem?_toArray, List.getElem?_cons_succ, List.getElem?_cons_zero] at z0 z1 z2 z3 z4
      generalize lksBl l l[j] = L9 at *
      generalize l[j] = x at *
      obtain ⟨xi, xp, xk, xt, xs⟩ := x
      (try simp only at *)
      have HBG := hide (show (out.length + L9.length) * iL.bytes ≤ 140737488355328 ∧ out.length + L9.length ≤ 140737488355328 by have h9 := HIL.out.2.2.2; rw [h9]; omega)
      go_wp2_with (first
        | (go_at_call 76; refine HLJ.out.mono ?_; rintro e w3 ⟨A9, c9, rfl, hrow, hbl⟩; have HR9 := hide hrow; have HO3 := hide (ownK_below HO2.out hbl); have HB3 := hide (below_chainT HB2.out hbl); clear hrow hbl)
        | (at_builtin; go_loud (refine wpList_append_l rfl (.tmp 15) (.tmp 18) rfl rfl Tryz.underlying35 HIL.out.1 HIL.out.2.1 HIL.out.2.2.1 (by decide) rfl (by have := HIL.out.2.2.2; omega) W.heap.size out.length L9.length c9 (.slice A3 out.length c3) (flatG Lk.vals out) (flatG Lk.vals L9) A9 rfl HO3.out (flatG_len valsLk_len L9) (flatLk_one L9) rfl (ownK_src HR9.out) HBG.out HB3.out.size ?_; intro v' w8 hown8 hgr8 hfr8; obtain ⟨A7, c7, rfl, _⟩ := ownK_form hown8; have HO8 := hide hown8; have HB8 := hide (HB3.out.grown hgr8 HB3.out.size (fun k9 hk9 => (HO3.out.lt k9 hk9).1)); clear hown8 hgr8 hfr8)))
      go_roundw
      case rel => exact ⟨j + 1, out ++ L9, by omega, by go_num, hide HX.out.symm, hide (by rw [List.length_append, flatG_append]; exact HO8.out), HB8⟩
      case measure => simp [intOf]; omega
    · obtain rfl : j = l.length := by omega
      have HX := hide (by have := HO.out; rwa [List.take_length] at this : out = lksOf l l)
      have hout := HX.out
      clear HO HX
      subst hout
      go_wp2
      exact HPO.out _ _ _ _ rfl HS.out HB.out

/-! ### Links -/
def LksOut (r : List Lk × Int) (w : World) (e : Ending) (w' : World) : Prop := ∃ A c, e = .returned (.tuple #[.slice A r.1.length c, .int .i64 r.2]) ∧ RdK Lk.vals 6 w' A r.1 ∧ Below w.heap.size w w'

set_option maxHeartbeats 1600000 in
set_option maxRecDepth 100000 in
theorem links_any (l : List BK) (A : Option Addr) (c : Nat) (w : World) (hA : BsAt w A l) (hk : ∀ b ∈ l, ∀ k ∈ b.kids, In64 k) (hmt : MaxTold w) :
    Calls Tryz.prog 13 #[.slice A l.length c] w (LksOut (lksRes l) w) := by
  have HPO : Hid (∀ (zs : List Lk) (b : Int) (n : Nat) A c w', lksRes l = (zs, b) → n = zs.length → RdK Lk.vals 6 w' A zs → Below w.heap.size w w' → LksOut (lksRes l) w (.returned (.tuple #[.slice A n c, .int .i64 b])) w') := hide fun zs b n A c w' h1 h0 h2 h3 => by subst h0; rw [h1]; exact ⟨A, c, rfl, h2, h3⟩
  generalize LksOut (lksRes l) w = PO at *
  have HL := hide (look_any l A c w hA hk hmt)
  unfold LookOut at HL
  by_cases he : baseErr l = 0
  · have HLS := hide (fun w' gv ga gp gt gl fp (h1 : PgJ l (pgs l) fp) (h2 : Vw l A c w w' gv ga gp gt gl (ixOf l) fp (tPairs l (sortZ (pgs l))) (aPairs l (sortZ (pgs l)))) => viewLinks_any l A c gv w w' ⟨right_of he, hA, hmt, ga, gp, gt, gl, fp, h1, h2⟩)
    unfold RowLk at HLS
    have HF := hide (fun n A c w' => HPO.out (lksOf l l) 0 n A c w' (by unfold lksRes; rw [if_neg (fun h => h he)]))
    clear HPO hA hk hmt
    generalize lksOf l l = L at *
    go_enter Tryz.func13, Tryz.ntmps13
    go_upto_region 2 with (go_at_call 34; refine HL.out.mono ?_; rintro e w1 ⟨hbl, ⟨hne, -⟩ | ⟨-, gv, ga, gp, gt, gl, fp, rfl, h1, h2⟩⟩; exact absurd he hne; have HB := hide hbl; have HLD := hide (HLS.out _ _ _ _ _ _ _ h1 h2); clear hbl h1 h2)
    clear HLS HL
    go_wp2_with (first
      | (go_at_call 36; refine HLD.out.mono ?_; rintro e w3 ⟨A3, c3, rfl, ho3, hb3⟩; obtain ⟨A8, c8, e6, hc6, -, ha6⟩ := ownK_form ho3; injection e6 with e61 _ e63; subst e61 e63; have HR := hide (rdK_own (f := Lk.vals) (K := 6) valsLk_len (by decide) ho3); have HB3 := hide (below_chainT HB.out hb3); clear ho3 hb3)
      | (go_at_call 35; refine (clipLk_any A3 L.length c3 w3 hc6 ha6).mono ?_; rintro e w7 ⟨rfl, hw7⟩; subst hw7))
    exact HF.out _ _ _ _ rfl HR.out HB3.out
  · have HF := hide (fun w' => HPO.out [] (baseErr l) 0 none 0 w' (by unfold lksRes; rw [if_pos he]) rfl rdK_none)
    have e1 : (baseErr l != 0) = true := bne_iff_ne.2 he
    have HE := hide he
    clear HPO hA hk hmt he
    generalize baseErr l = E at *
    go_enter Tryz.func13, Tryz.ntmps13
    go_wp2_with (go_at_call 34; refine HL.out.mono ?_; rintro e w1 ⟨hbl, ⟨-, rfl⟩ | ⟨h0, -⟩⟩; have HB := hide hbl; clear hbl; all_goals first | exact absurd h0 HE.out | skip)
    exact HF.out _ HB.out

/-! ### Back -/
set_option maxHeartbeats 800000 in
theorem back1_any (x : Lk) (gq : Nat) (k : Int) (w : World) (hc : w.cell? ⟨gq, 0, none⟩ = some (.int .i64 k)) (hlt : gq < w.heap.size) :
    Calls Tryz.prog 43 #[.agg #[.int .i64 x.block, .int .i64 x.fr, .int .i64 x.to, .string x.prop, .string x.title, .int .i64 x.page], .pointer (some ⟨gq, 0, none⟩)] w fun e w' => e = .returned (.bool (!(x.page == k))) ∧ Below w.heap.size w w' := by
  obtain ⟨bk, fr, tt, pr, ti, pg⟩ := x
  (try simp only)
  have HPO : Hid (∀ w', Below w.heap.size w w' → (fun (e : Ending) (w' : World) => e = .returned (.bool (!(pg == k))) ∧ Below w.heap.size w w') (.returned (.bool (pg != k))) w') := hide fun w' h => ⟨rfl, h⟩
  generalize (fun (e : Ending) (w' : World) => e = .returned (.bool (!(pg == k))) ∧ Below w.heap.size w w') = PO at *
  go_enter Tryz.func43, Tryz.ntmps43
  go_wp2
  exact HPO.out _ (by repeat (first | with_reducible exact Below.refl _ _ | with_reducible refine bl_plus ?_ | with_reducible refine bl_alloc ?_ _ | with_reducible refine bl_drew ?_ | with_reducible refine bl_drewN ?_ _))

set_option maxHeartbeats 3200000 in
set_option maxRecDepth 100000 in
theorem back_any (l : List BK) (A : Option Addr) (c : Nat) (w : World) (hA : BsAt w A l) (hk : ∀ b ∈ l, ∀ k ∈ b.kids, In64 k) (hmt : MaxTold w) (k : Int) (h64 : In64 k) :
    Calls Tryz.prog 15 #[.slice A l.length c, .int .i64 k] w (LksOut (bckRes l k) w) := by
  have HPO : Hid (∀ (zs : List Lk) (b : Int) (n : Nat) A c w', bckRes l k = (zs, b) → n = zs.length → RdK Lk.vals 6 w' A zs → Below w.heap.size w w' → LksOut (bckRes l k) w (.returned (.tuple #[.slice A n c, .int .i64 b])) w') := hide fun zs b n A c w' h1 h0 h2 h3 => by subst h0; rw [h1]; exact ⟨A, c, rfl, h2, h3⟩
  generalize LksOut (bckRes l k) w = PO at *
  have HW1 := hide (bl_alloc (Below.refl w.heap.size w) (.cells #[.int .i64 k] 3))
  have HW2 := hide (bl_alloc HW1.out (.cells #[.int .i64 k] 3))
  have HBQ := hide (Blk.new w 3 #[.int .i64 k])
  have HLA := hide (lookAt_any l A c w ((w.alloc (.cells #[.int .i64 k] 3)).alloc (.cells #[.int .i64 k] 3)) (hA.below HW2.out) hk (maxTold_below hmt HW2.out) [k] (some ⟨w.heap.size + 1, 0, none⟩) 1 (by
    intro _
    have hq := Blk.new (w.alloc (.cells #[.int .i64 k] 3)) 3 #[.int .i64 k]
    simp only [World.size_alloc] at hq
    refine ⟨w.heap.size + 1, 0, rfl, by simp, fun j hj => ?_⟩
    obtain rfl : j = 0 := by simp at hj; exact hj
    exact hq.cell 0) (fun k' hk' => by rw [List.mem_singleton.1 hk']; exact h64) (by simp))
  unfold LookAtOut at HLA
  have hall : [k].all (isPg l) = isPg l k := by simp
  rw [hall] at HLA
  simp only [List.length_singleton] at HLA
  by_cases he : baseErr l = 0
  · cases hp : isPg l k with
    | true =>
      have hr : bckRes l k = ((lksOf l l).filter fun x => x.page == k, 0) := by unfold bckRes; rw [if_neg (fun h => h he), if_pos hp]
      have HLS := hide (fun W gv (hV : VW l A c ((w.alloc (.cells #[.int .i64 k] 3)).alloc (.cells #[.int .i64 k] 3)) W gv) => viewLinks_any l A c gv _ W hV)
      unfold RowLk at HLS
      have hL : (lksOf l l).length ≤ 5000000 := by have := lks_all_len (right_of he) l.length; rw [List.take_length] at this; omega
      have HBQ2 := hide (HBQ.out.below (bl_alloc (Below.refl _ _) (.cells #[.int .i64 k] 3)) HBQ.out.lt)
      have HF := hide (fun n A c w' => HPO.out _ 0 n A c w' hr)
      have HE := hide he
      clear HPO hr hall he hA hk hmt HBQ HW1
      generalize lksOf l l = L at *
      have HDL := hide (fun w1 (hq : Blk w1 w.heap.size 3 #[.int .i64 k]) w3 A3 c3 (hb : Below w1.heap.size w1 w3) (ho : OwnK 6 45 w3 w1.heap.size (.slice A3 L.length c3) L.length (flatG Lk.vals L)) => delLk_row 43 w.heap.size (fun x => x.page == k) w1 w1.heap.size c3 A3 L w3 hL (enters_of Tryz.func43 (by kernel_rfl) rfl) ho hb (Nat.le_refl _) (fun x hx W hbw => back1_any x w.heap.size k W ((hq.below hbw hq.lt).cell 0) ((hq.below hbw hq.lt).lt)))
      generalize hM : L.filter (fun x => x.page == k) = M at *
      go_enter Tryz.func15, Tryz.ntmps15
      go_wp2_with (first
        | (go_at_call 42; refine HLA.out.mono ?_; rintro e w1 ⟨hbl, ⟨hne, -⟩ | ⟨-, hf, -⟩ | ⟨-, -, gv, rfl, hV⟩⟩; exact absurd HE.out hne; exact absurd (hp.symm.trans hf) (by decide); have HV := hide hV; have HB := hide (below_chainT HW2.out hbl); have HQ1 := hide (HBQ2.out.below hbl HBQ2.out.lt); clear hbl hV)
        | (go_at_call 36; refine (HLS.out _ gv HV.out).mono ?_; rintro e w3 ⟨A3, c3, rfl, ho3, hb3⟩; have HO3 := hide ho3; have HB13 := hide hb3; clear ho3 hb3)
        | (go_at_call 40; refine (HDL.out w1 HQ1.out w3 A3 c3 HB13.out HO3.out).mono ?_; rintro e w4 ⟨rfl, ho4, hg4⟩; obtain ⟨A8, c8, e6, hc6, -, ha6⟩ := ownK_form ho4; injection e6 with e61 _ e63; subst e61 e63; have HR := hide (rdK_own (f := Lk.vals) (K := 6) valsLk_len (by decide) ho4); have HB4 := hide ((below_chainT HB.out HB13.out).grown hg4 (below_chainT HB.out HB13.out).size (fun k9 hk9 => Nat.le_trans HB.out.size (HO3.out.lt k9 hk9).1)); clear ho4 hg4)
        | (go_at_call 35; refine (clipLk_any A3 M.length c3 w4 hc6 ha6).mono ?_; rintro e w7 ⟨rfl, hw7⟩; subst hw7))
      exact HF.out _ _ _ _ rfl HR.out HB4.out
    | false =>
      have hr : bckRes l k = ([], 7) := by unfold bckRes; rw [if_neg (fun h => h he), if_neg (by rw [hp]; decide)]
      have HF := hide (fun w' => HPO.out [] 7 0 none 0 w' hr rfl rdK_none)
      have HE := hide he
      clear HPO hr hall he hA hk hmt
      go_enter Tryz.func15, Tryz.ntmps15
      go_wp2_with (go_at_call 42; refine HLA.out.mono ?_; rintro e w1 ⟨hbl, ⟨hne, -⟩ | ⟨-, hf, rfl⟩ | ⟨-, hf, -⟩⟩; exact absurd HE.out hne; have HB := hide (below_chainT HW2.out hbl); clear hbl; all_goals first | exact absurd (hp.symm.trans hf) (by decide) | skip)
      exact HF.out _ HB.out
  · have hr : bckRes l k = ([], baseErr l) := by unfold bckRes; rw [if_pos he]
    have HF := hide (fun w' => HPO.out [] (baseErr l) 0 none 0 w' hr rfl rdK_none)
    have e1 : (baseErr l != 0) = true := bne_iff_ne.2 he
    have HE := hide he
    clear HPO hr hall he hA hk hmt
    generalize baseErr l = E at *
    go_enter Tryz.func15, Tryz.ntmps15
    go_wp2_with (go_at_call 42; refine HLA.out.mono ?_; rintro e w1 ⟨hbl, ⟨-, rfl⟩ | ⟨h0, -⟩ | ⟨h0, -⟩⟩; have HB := hide (below_chainT HW2.out hbl); clear hbl; all_goals first | exact absurd h0 HE.out | skip)
    exact HF.out _ HB.out

end Go.Proofs.YtioppoaijehicaaGreatDoor
/-
  WALKS: the references of a view's block; Refs.
-/
set_option linter.all false
namespace Go.Proofs.YtioppoaijehicaaGreatDoor
open Go.RowKit Go.Lib Go.Maps Go.WideElems Go.WideMaps

theorem ownJ_form {w : World} {base : Nat} {v : Value} {n : Nat} {xs : List Value} {t : TypeId} (h : w.ownsRow base t 1 v n xs) : ∃ A c, v = .slice A n c := by
  rcases h.2 with ⟨hv, h0⟩ | ⟨g, cap, cur, hv, hg, hb, h1, h2, h3, h4⟩
  · exact ⟨none, 0, by rw [hv, h0]⟩
  · exact ⟨_, _, hv⟩

theorem ownJ_below {w w' : World} {base : Nat} {v : Value} {n : Nat} {xs : List Value} {t : TypeId} (h : w.ownsRow base t 1 v n xs) (hb : Below w.heap.size w w') : w'.ownsRow base t 1 v n xs := by
  obtain ⟨os, k, rfl⟩ := below_plus hb
  exact own_plus h

/-- A row of ints that the call owns. -/
def RowI (zs : List Int) (w : World) (e : Ending) (w' : World) : Prop := ∃ A c, e = .returned (.slice A zs.length c) ∧ w'.ownsRow w.heap.size 3 1 (.slice A zs.length c) zs.length (zs.map (Value.int .i64)) ∧ Below w.heap.size w w'

set_option maxHeartbeats 3200000 in
set_option maxRecDepth 100000 in
theorem viewRefsOf_any (l : List BK) (A : Option Addr) (c gv : Nat) (w0 W : World) (hV : VW l A c w0 W gv) (x : BK) (hx : BkOk x) (A1 : Option Addr) (m1 c1 : Nat) (A2 : Option Addr) (m2 c2 : Nat) :
    Calls Tryz.prog 45 #[.pointer (some ⟨gv, 0, none⟩), .agg #[.int .i64 x.id, .int .i64 x.par, .slice A1 m1 c1, .string x.txt, .slice A2 m2 c2]] W (RowI (rfB l x) W) := by
  have HV := hide hV
  have ht2 := hx.t2k
  have HSP := hide (fun w (hw : VW l A c w0 w gv) => viewSpans_any l A c gv w0 w hw x.id x.par A1 m1 c1 x.txt A2 m2 c2 hx.i64 (by omega))
  unfold RowSp at HSP
  have hspl : (spB l x.id x.txt).length ≤ 2000 := by have := spB_len l x.id x.txt; omega
  have HPO : Hid (∀ A c n w', n = (rfB l x).length → w'.ownsRow W.heap.size 3 1 (.slice A n c) n ((rfB l x).map (Value.int .i64)) → Below W.heap.size W w' → RowI (rfB l x) W (.returned (.slice A n c)) w') := hide fun A c n w' h0 h1 h2 => by subst h0; exact ⟨A, c, rfl, h1, h2⟩
  have HRF := hide (show rfB l x = tidy (rfIds (spB l x.id x.txt)) from rfl)
  have HDF := hide (show ∀ x : List Int, Lib.compact (x.mergeSort fun a b => decide (a ≤ b)) = tidy x from fun _ => rfl)
  generalize RowI (rfB l x) W = PO at *
  rw [HRF.out] at HPO
  generalize spB l x.id x.txt = sp at *
  clear hV HRF ht2 hx
  obtain ⟨xi, xp, xk, xt, xs⟩ := x
  (try simp only at HSP ⊢)
  go_enter Tryz.func45, Tryz.ntmps45
  go_upto_region 1 with (fail)
  have HBX := hide (Blk.new W 82 #[.int .i64 xi, .int .i64 xp, .slice A1 m1 c1, .string xt, .slice A2 m2 c2])
  have HB0 := hide (bl_alloc (Below.refl W.heap.size W) (.cells #[.int .i64 xi, .int .i64 xp, .slice A1 m1 c1, .string xt, .slice A2 m2 c2] 82))
  generalize W.alloc (.cells #[.int .i64 xi, .int .i64 xp, .slice A1 m1 c1, .string xt, .slice A2 m2 c2] 82) = WB at *
  have HVB := hide (HV.out.below HB0.out)
  have z0 := HBX.out.cell 0
  have z1 := HBX.out.cell 1
  have z2 := HBX.out.cell 2
  have z3 := HBX.out.cell 3
  have z4 := HBX.out.cell 4
  have zlt := HBX.out.lt
  go_wp2_with (go_at_call 82; refine (HSP.out _ HVB.out).mono ?_; rintro e W1 ⟨A9, c9, rfl, hrow, hbl⟩; have HRD := hide (rdK_own (f := Sp.vals) (K := 7) (fun _ => rfl) (by decide) hrow); have HB1 := hide (below_chainT HB0.out hbl); clear hrow hbl)
  clear z0 z1 z2 z3 z4 zlt HBX HVB HSP HB0 HV
  go_loopw [5, 12] (fun s5 i9 wr => ∃ (j : Nat) (A3 : Option Addr) (c3 : Nat) (zs : List Int), j ≤ sp.length ∧ s5 = .slice A3 zs.length c3 ∧ i9 = .int .i64 j ∧ Hid (zs = rfIds (sp.take j)) ∧ Hid (wr.ownsRow W1.heap.size 3 1 (.slice A3 zs.length c3) zs.length (zs.map (Value.int .i64))) ∧ Hid (Below W1.heap.size W1 wr)) (fun _ i9 _ => sp.length - (intOf i9).toNat)
  case atStart => exact ⟨0, none, 0, [], Nat.zero_le _, rfl, rfl, hide rfl, hide (World.ownsRow_nil _ _ _ _), hide (by repeat (first | with_reducible exact Below.refl _ _ | with_reducible refine bl_plus ?_ | with_reducible refine bl_alloc ?_ _ | with_reducible refine bl_drew ?_ | with_reducible refine bl_drewN ?_ _))⟩
  case round =>
    obtain ⟨j, A3, c3, zs, hj, rfl, rfl, HZ, HOW, HB⟩ := hrel
    obtain ⟨WR, hWR⟩ : ∃ WR : World, WR = wr := ⟨_, rfl⟩
    subst hWR
    have hzl : zs.length ≤ 2000 := by
      have h1 := rfIds_len (sp.take j)
      rw [← HZ.out, List.length_take] at h1
      omega
    by_cases hlt : j < sp.length
    · obtain ⟨b, o, rfl, hb, hv0⟩ := (HRD.out.below HB.out) (by omega)
      have hv := hv0 j hlt
      have c0 := hv 0 (by decide)
      have c1' := hv 1 (by decide)
      have c2' := hv 2 (by decide)
      have c3' := hv 3 (by decide)
      have c4 := hv 4 (by decide)
      have c5 := hv 5 (by decide)
      have c6 := hv 6 (by decide)
      have HY := hide (fun h => rfIds_yes hlt h)
      have HN := hide (fun h => rfIds_no hlt h)
      have i1 : (j : Int) < (sp.length : Int) := by omega
      clear hv hv0
      generalize sp[j] = y at *
      obtain ⟨kd, fr, tt, tx, sh, xid, st⟩ := y
      dsimp only [Sp.vals] at c0 c1' c2' c3' c4 c5 c6 HY HN
      simp only [List.getElem?_cons_zero, List.getElem?_cons_succ, Nat.add_zero] at c0 c1' c2' c3' c4 c5 c6
      go_upto_region 5 with (fail)
      have HXS := hide (Blk.new WR 90 #[.int .i64 kd, .int .i64 fr, .int .i64 tt, .string tx, .string sh, .int .i64 xid, .bool st])
      have HBS := hide (bl_alloc HB.out (.cells #[.int .i64 kd, .int .i64 fr, .int .i64 tt, .string tx, .string sh, .int .i64 xid, .bool st] 90))
      have HOS := hide (HOW.out.alloc (.cells #[.int .i64 kd, .int .i64 fr, .int .i64 tt, .string tx, .string sh, .int .i64 xid, .bool st] 90))
      generalize WR.alloc (.cells #[.int .i64 kd, .int .i64 fr, .int .i64 tt, .string tx, .string sh, .int .i64 xid, .bool st] 90) = W2 at *
      have y0 := HXS.out.cell 0
      have y5 := HXS.out.cell 5
      have ylt := HXS.out.lt
      simp only [List.getElem?_toArray, List.getElem?_cons_succ, List.getElem?_cons_zero] at y0 y5
      clear c0 c1' c2' c3' c4 c5 c6 HXS HOW HB
      by_cases hk : kd = 5
      · have HX := hide (by rw [HY.out hk, ← HZ.out] : rfIds (sp.take (j + 1)) = zs ++ [xid])
        subst hk
        have HSZ := hide HBS.out.size
        clear HY HN HZ
        go_wp2_with (at_builtin; refine wpList_append_int rfl (.tmp 19) (.tmp 22) rfl W1.heap.size zs.length _ zs xid _ rfl HOS.out rfl rfl (by omega) HSZ.out ?_; intro v' w5 hown5 hb5; have HO5 := hide hown5; have HB5 := hide hb5; clear hown5 hb5)
        obtain ⟨A7, c7, rfl⟩ := ownJ_form HO5.out
        have hl1 : zs.length + 1 = (zs ++ [xid]).length := by simp
        rw [hl1] at HO5
        rw [hl1]
        go_wp2
        go_roundw
        case rel => exact ⟨j + 1, A7, c7, zs ++ [xid], by omega, rfl, by go_num, hide HX.out.symm, HO5, hide (HBS.out.trans HB5.out)⟩
        case measure => simp [intOf]; omega
      · have e5 : (kd == 5) = false := beq_eq_false_iff_ne.2 hk
        have HX := hide (by rw [HN.out hk]; exact HZ.out : zs = rfIds (sp.take (j + 1)))
        clear HY HN hk HZ
        go_wp2
        go_roundw
        case rel => exact ⟨j + 1, A3, c3, zs, by omega, rfl, by go_num, HX, HOS, HBS⟩
        case measure => simp [intOf]; omega
    · obtain rfl : j = sp.length := by omega
      have hzz : zs = rfIds sp := by have := HZ.out; rwa [List.take_length] at this
      rw [← hzz] at HPO
      have HLW := hide (fun w' A n c ys (h : World.ownsRow w' W1.heap.size 3 1 (.slice A n c) n ys) => ownsRow_low h HB1.out.size)
      have HCB := hide (fun w' (h : Below W1.heap.size W1 w') => below_chainT HB1.out h)
      have HSO := hide (sortI_any WR W1.heap.size c3 A3 zs HOW.out (by omega))
      have HSB := hide (fun w2 (hg : WR.grownBy w2 (Value.slice A3 zs.length c3).ownBlock) => (HB.out.grown hg HB.out.size (own_block HOW.out) : Below W1.heap.size W1 w2))
      have HSL := hide (show (zs.mergeSort fun a b => decide (a ≤ b)).length = zs.length from List.length_mergeSort _)
      have HCO := hide (fun w2 (h : World.ownsRow w2 W1.heap.size 3 1 (.slice A3 zs.length c3) zs.length ((zs.mergeSort fun a b => decide (a ≤ b)).map (Value.int .i64))) => compactI_n w2 W1.heap.size c3 zs.length A3 (zs.mergeSort fun a b => decide (a ≤ b)) HSL.out h (by rw [HSL.out]; omega))
      rw [HDF.out] at HCO
      have HCG := hide (fun w2 w3 (hb : Below W1.heap.size W1 w2) (ho : World.ownsRow w2 W1.heap.size 3 1 (.slice A3 zs.length c3) zs.length ((zs.mergeSort fun a b => decide (a ≤ b)).map (Value.int .i64))) (hg : w2.grownBy w3 (Value.slice A3 zs.length c3).ownBlock) => (hb.grown hg hb.size (own_block ho) : Below W1.heap.size W1 w3))
      clear HSL HOW HDF hzz HZ HRD
      go_wp2_with (first
        | (go_at_call 53; refine HSO.out.mono ?_; rintro e w2 ⟨rfl, ho2, hg2⟩; have HO2 := hide ho2; have HB2 := hide (HSB.out w2 hg2); clear ho2 hg2)
        | (go_at_call 54; refine (HCO.out _ HO2.out).mono ?_; rintro e w3 ⟨rfl, ho3, hg3⟩; have HO3 := hide ho3; have HB3 := hide (HCG.out w2 w3 HB2.out HO2.out hg3); clear ho3 hg3))
      exact HPO.out _ _ _ _ rfl (HLW.out _ _ _ _ _ HO3.out) (HCB.out _ HB3.out)

/-! ### Refs -/
def RfsOut (r : List Int × Int) (w : World) (e : Ending) (w' : World) : Prop := ∃ A c, e = .returned (.tuple #[.slice A r.1.length c, .int .i64 r.2]) ∧ IntsAt w' A r.1 ∧ Below w.heap.size w w'

theorem clipJ_any (A : Option Addr) (n c : Nat) (w : World) (hn : n ≤ c) (hA : A = none → c = 0) :
    Calls Tryz.prog 28 #[.slice A n c] w fun e w' => e = .returned (.slice A n n) ∧ w' = w := by
  cases A with
  | none =>
    obtain rfl := hA rfl
    obtain rfl : n = 0 := by omega
    go_enter Tryz.func28, Tryz.ntmps28
    go_wp2
    go_ret
    exact ⟨rfl, rfl⟩
  | some a =>
    go_enter Tryz.func28, Tryz.ntmps28
    go_wp2
    go_ret
    exact ⟨rfl, rfl⟩

set_option maxHeartbeats 6400000 in
set_option maxRecDepth 100000 in
theorem refs_any (l : List BK) (A : Option Addr) (c : Nat) (w : World) (hA : BsAt w A l) (hk : ∀ b ∈ l, ∀ k ∈ b.kids, In64 k) (hmt : MaxTold w) (k : Int) (h64 : In64 k) :
    Calls Tryz.prog 16 #[.slice A l.length c, .int .i64 k] w (RfsOut (rfsRes l k) w) := by
  have HPO : Hid (∀ (zs : List Int) (b : Int) (n : Nat) A c w', rfsRes l k = (zs, b) → n = zs.length → IntsAt w' A zs → Below w.heap.size w w' → RfsOut (rfsRes l k) w (.returned (.tuple #[.slice A n c, .int .i64 b])) w') := hide fun zs b n A c w' h1 h0 h2 h3 => by subst h0; rw [h1]; exact ⟨A, c, rfl, h2, h3⟩
  generalize RfsOut (rfsRes l k) w = PO at *
  have HL := hide (look_any l A c w hA hk hmt)
  unfold LookOut at HL
  by_cases he : baseErr l = 0
  · have HVW := hide (fun w' gv ga gp gt gl fp (h1 : PgJ l (pgs l) fp) (h2 : Vw l A c w w' gv ga gp gt gl (ixOf l) fp (tPairs l (sortZ (pgs l))) (aPairs l (sortZ (pgs l)))) => (⟨right_of he, hA, hmt, ga, gp, gt, gl, fp, h1, h2⟩ : VW l A c w w' gv))
    have R := right_of he
    have hln := R.len
    have HBK := hide (fun j (hj : j < l.length) => bk_ok R (List.getElem_mem hj))
    have HY := hide (fun j (hj : j < l.length) h => refsL_yes (l := l) (k := k) hj h)
    have HN := hide (fun j (hj : j < l.length) h => refsL_no (l := l) (k := k) hj h)
    have HA := hide hA
    have HE := hide he
    cases hix : (ixOf l k).isSome with
    | false =>
      have HF := hide (fun w' => HPO.out [] 7 0 none 0 w' (by unfold rfsRes; rw [if_neg (fun h => h he), if_neg (by rw [hix]; decide)]) rfl IntsAt.nil)
      clear HPO hA hk hmt he R HY HN HBK
      go_enter Tryz.func16, Tryz.ntmps16
      go_upto_region 4 with (go_at_call 34; refine HL.out.mono ?_; rintro e w1 ⟨hbl, ⟨hne, -⟩ | ⟨-, gv, ga, gp, gt, gl, fp, rfl, h1, h2⟩⟩; exact absurd HE.out hne; have HB := hide hbl; have HV := hide (HVW.out _ _ _ _ _ _ _ h1 h2); clear hbl h1 h2)
      obtain ⟨ga1, v1, vlt, hlk⟩ := vwAt1 HV.out h64
      rw [hix] at hlk
      go_wp2
      exact HF.out _ HB.out
    | true =>
      have HF := hide (fun n A c w' => HPO.out (refsL l k l) 0 n A c w' (by unfold rfsRes; rw [if_neg (fun h => h he), if_pos hix]))
      have HRO := hide (fun gv W (hV : VW l A c w W gv) (x : BK) (hx : BkOk x) A1 m1 c1 A2 m2 c2 => viewRefsOf_any l A c gv w W hV x hx A1 m1 c1 A2 m2 c2)
      unfold RowI at HRO
      have HRL := hide (fun (x : BK) (hx : BkOk x) => (by have := rfB_len l x; have := hx.t2k; omega : (rfB l x).length ≤ 2000))
      have HLR := hide (fun j => refsL_len l k (l.take j))
      clear HPO hA hk hmt he R
      go_enter Tryz.func16, Tryz.ntmps16
      go_upto_region 4 with (go_at_call 34; refine HL.out.mono ?_; rintro e w1 ⟨hbl, ⟨hne, -⟩ | ⟨-, gv, ga, gp, gt, gl, fp, rfl, h1, h2⟩⟩; exact absurd HE.out hne; have HB1 := hide hbl; have HV := hide (HVW.out _ _ _ _ _ _ _ h1 h2); clear hbl h1 h2)
      clear HVW HL
      obtain ⟨W1, hW1⟩ : ∃ W1 : World, W1 = w1 := ⟨_, rfl⟩
      subst hW1
      obtain ⟨ga1, v1, vlt, hlk⟩ := vwAt1 HV.out h64
      rw [hix] at hlk
      go_wp2
      clear v1 vlt hlk hix
      go_loopw [10, 34] (fun s5 i9 wr => ∃ (j : Nat) (A3 : Option Addr) (c3 : Nat) (zs : List Int), j ≤ l.length ∧ s5 = .slice A3 zs.length c3 ∧ i9 = .int .i64 j ∧ Hid (zs = refsL l k (l.take j)) ∧ Hid (wr.ownsRow W1.heap.size 3 1 (.slice A3 zs.length c3) zs.length (zs.map (Value.int .i64))) ∧ Hid (Below W1.heap.size W1 wr)) (fun _ i9 _ => l.length - (intOf i9).toNat)
      case atStart => exact ⟨0, none, 0, [], Nat.zero_le _, rfl, rfl, hide rfl, hide (World.ownsRow_nil _ _ _ _), hide (by repeat (first | with_reducible exact Below.refl _ _ | with_reducible refine bl_plus ?_ | with_reducible refine bl_alloc ?_ _ | with_reducible refine bl_drew ?_ | with_reducible refine bl_drewN ?_ _))⟩
      case round =>
        obtain ⟨j, A3, c3, zs, hj, rfl, rfl, HZ, HOW, HB⟩ := hrel
        obtain ⟨WR, hWR⟩ : ∃ WR : World, WR = wr := ⟨_, rfl⟩
        subst hWR
        have hzl : zs.length ≤ 2000 := by
          have h1 := HLR.out j
          rw [← HZ.out, List.length_take] at h1
          omega
        by_cases hlt : j < l.length
        · obtain ⟨b, o, A1, c1, A2, c2, rfl, hlb, q0, q1, q2, q3, q4, -, -⟩ := HA.out.getB (below_chainT HB1.out HB.out) hlt
          have i1 : (j : Int) < (l.length : Int) := by omega
          go_upto_region 11 with (fail)
          have HB2 := hide (bl_alloc HB.out (.cells #[.int .i64 l[j].id, .int .i64 l[j].par, .slice A1 l[j].kids.length c1, .string l[j].txt, .slice A2 l[j].ps.length c2] 82))
          have HO2 := hide (HOW.out.alloc (.cells #[.int .i64 l[j].id, .int .i64 l[j].par, .slice A1 l[j].kids.length c1, .string l[j].txt, .slice A2 l[j].ps.length c2] 82))
          have HRJ := hide (HRO.out gv (WR.alloc (.cells #[.int .i64 l[j].id, .int .i64 l[j].par, .slice A1 l[j].kids.length c1, .string l[j].txt, .slice A2 l[j].ps.length c2] 82)) (HV.out.below HB2.out) l[j] (HBK.out j hlt) A1 l[j].kids.length c1 A2 l[j].ps.length c2)
          have HRK := hide (HRL.out l[j] (HBK.out j hlt))
          have HBX := hide (Blk.new WR 82 #[.int .i64 l[j].id, .int .i64 l[j].par, .slice A1 l[j].kids.length c1, .string l[j].txt, .slice A2 l[j].ps.length c2])
          have HYj := hide (HY.out j hlt)
          have HNj := hide (HN.out j hlt)
          clear q0 q1 q2 q3 q4 HOW HB
          generalize WR.alloc (.cells #[.int .i64 l[j].id, .int .i64 l[j].par, .slice A1 l[j].kids.length c1, .string l[j].txt, .slice A2 l[j].ps.length c2] 82) = W2 at *
          have z0 := HBX.out.cell 0
          have z1 := HBX.out.cell 1
          have z2 := HBX.out.cell 2
          have z3 := HBX.out.cell 3
          have z4 := HBX.out.cell 4
          have zlt := HBX.out.lt
          simp only [List.getElem?_toArray, List.getElem?_cons_succ, List.getElem?_cons_zero] at z0 z1 z2 z3 z4
          generalize rfB l l[j] = rs at *
          generalize l[j] = x at *
          obtain ⟨xi, xp, xk, xt, xs⟩ := x
          (try simp only at *)
          have hrs : rs.length ≤ 1000000 := by have := HRK.out; omega
          by_cases hmem : k ∈ rs
          · have HX := hide (by rw [HYj.out hmem, ← HZ.out] : refsL l k (l.take (j + 1)) = zs ++ [xi])
            have hdec := decide_eq_true hmem
            clear HYj HNj HZ hmem
            go_upto_region 12 with (first
              | (go_at_call 45; refine HRJ.out.mono ?_; rintro e w3 ⟨A9, c9, rfl, hrow, hbl⟩; have HI9 := hide (intsAt_of_own hrow); have HO3 := hide (ownJ_below HO2.out hbl); have HB3 := hide (below_chainT HB2.out hbl); have HX3 := hide (HBX.out.below hbl HBX.out.lt); clear hrow hbl)
              | (go_at_call 44; refine (containsI_any A9 c9 rs k w3 HI9.out hrs).mono ?_; rintro e w4 ⟨rfl, rfl⟩; rw [hdec]))
            have x0 := HX3.out.cell 0
            have xlt := HX3.out.lt
            simp only [List.getElem?_toArray, List.getElem?_cons_succ, List.getElem?_cons_zero] at x0
            clear z0 z1 z2 z3 z4 zlt HBX HRJ HB2 HO2
            have HSZ := hide HB3.out.size
            go_wp2_with (at_builtin; refine wpList_append_int rfl (.tmp 43) (.tmp 46) rfl W1.heap.size zs.length _ zs xi _ rfl HO3.out rfl rfl (by omega) HSZ.out ?_; intro v' w5 hown5 hb5; have HO5 := hide hown5; have HB5 := hide hb5; clear hown5 hb5)
            obtain ⟨A7, c7, rfl⟩ := ownJ_form HO5.out
            have hl1 : zs.length + 1 = (zs ++ [xi]).length := by simp
            rw [hl1] at HO5
            rw [hl1]
            go_wp2
            go_roundw
            case rel => exact ⟨j + 1, A7, c7, zs ++ [xi], by omega, rfl, by go_num, hide HX.out.symm, HO5, hide (HB3.out.trans HB5.out)⟩
            case measure => simp [intOf]; omega
          · have HX := hide (by rw [HNj.out hmem]; exact HZ.out : zs = refsL l k (l.take (j + 1)))
            have hdec := decide_eq_false hmem
            clear HYj HNj HZ hmem
            go_wp2_with (first
              | (go_at_call 45; refine HRJ.out.mono ?_; rintro e w3 ⟨A9, c9, rfl, hrow, hbl⟩; have HI9 := hide (intsAt_of_own hrow); have HO3 := hide (ownJ_below HO2.out hbl); have HB3 := hide (below_chainT HB2.out hbl); clear hrow hbl)
              | (go_at_call 44; refine (containsI_any A9 c9 rs k w3 HI9.out hrs).mono ?_; rintro e w4 ⟨rfl, rfl⟩; rw [hdec]))
            go_roundw
            case rel => exact ⟨j + 1, A3, c3, zs, by omega, rfl, by go_num, HX, HO3, HB3⟩
            case measure => simp [intOf]; omega
        · obtain rfl : j = l.length := by omega
          have hzz : zs = refsL l k l := by have := HZ.out; rwa [List.take_length] at this
          rw [← hzz] at HF
          obtain ⟨A8, c8, e6, hc6, -, ha6⟩ := own_form HOW.out
          injection e6 with e61 _ e63
          subst e61 e63
          have HI := hide (intsAt_of_own HOW.out)
          have HBZ := hide (below_chainT HB1.out HB.out)
          clear HZ HOW HB hzz
          go_wp2_with (go_at_call 28; refine (clipJ_any A3 zs.length c3 WR hc6 ha6).mono ?_; rintro e w7 ⟨rfl, hw7⟩; subst hw7)
          exact HF.out _ _ _ _ rfl HI.out HBZ.out
  · have HF := hide (fun w' => HPO.out [] (baseErr l) 0 none 0 w' (by unfold rfsRes; rw [if_pos he]) rfl IntsAt.nil)
    have e1 : (baseErr l != 0) = true := bne_iff_ne.2 he
    have HE := hide he
    clear HPO hA hk hmt he
    generalize baseErr l = E at *
    go_enter Tryz.func16, Tryz.ntmps16
    go_wp2_with (go_at_call 34; refine HL.out.mono ?_; rintro e w1 ⟨hbl, ⟨-, rfl⟩ | ⟨h0, -⟩⟩; have HB := hide hbl; clear hbl; all_goals first | exact absurd h0 HE.out | skip)
    exact HF.out _ HB.out

end Go.Proofs.YtioppoaijehicaaGreatDoor
