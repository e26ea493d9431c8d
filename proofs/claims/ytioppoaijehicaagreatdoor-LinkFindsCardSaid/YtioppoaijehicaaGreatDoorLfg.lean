/-
  WALKS: Broken.
-/
import Derived.Test.YtioppoaijehicaaGreatDoorLfd
import Derived.Test.YtioppoaijehicaaGreatDoorOwnC
set_option linter.all false
namespace Go.Proofs.YtioppoaijehicaaGreatDoor
open Go.RowKit Go.Lib Go.Maps Go.WideElems Go.WideMaps

/-- A row of ints, as a block. -/
def IBlk (w : World) (A : Option Addr) (zs : List Int) : Prop := 0 < zs.length → ∃ g cur, A = some ⟨g, 0, none⟩ ∧ Blk w g 3 cur ∧ ∀ j (h : j < zs.length), cur[j]? = some (.int .i64 zs[j])

theorem IBlk.below {w w' : World} {A : Option Addr} {zs : List Int} (h : IBlk w A zs) (hb : Below w.heap.size w w') : IBlk w' A zs := fun h0 => by
  obtain ⟨g, cur, e, h1, h2⟩ := h h0
  exact ⟨g, cur, e, h1.below hb h1.lt, h2⟩

theorem IBlk.grown1 {K : Nat} {e : TypeId} {W3 W4 w1 : World} {base n : Nat} {v : Value} {xs : List Value} {A : Option Addr} {zs : List Int} (h : IBlk W3 A zs) (hg : W4.grownBy w1 v.ownBlock) (hb : Below W3.heap.size W3 W4) (hS : OwnK K e W3 base v n xs) (hne : e ≠ 3) : IBlk w1 A zs := fun h0 => by
  obtain ⟨g, cur, e, h1, h2⟩ := h h0
  exact ⟨g, cur, e, blk_grown1 h1 hg hb hS hne, h2⟩

theorem IBlk.get {w : World} {A : Option Addr} {zs : List Int} (h : IBlk w A zs) {j : Nat} (hj : j < zs.length) : ∃ g, A = some ⟨g, 0, none⟩ ∧ g < w.heap.size ∧ w.cell? ⟨g, j, none⟩ = some (.int .i64 zs[j]) := by
  obtain ⟨g, cur, e, h1, h2⟩ := h (by omega)
  exact ⟨g, e, h1.lt, (h1.cell j).trans (h2 j hj)⟩

theorem iblk_of_own {w : World} {base : Nat} {A : Option Addr} {n c : Nat} {zs : List Int} (h : w.ownsRow base 3 1 (.slice A n c) n (zs.map (Value.int .i64))) : IBlk w A zs := fun h0 => by
  have hlen : zs.length = n := by have := h.1; simpa using this
  rcases h.2 with ⟨_, hn⟩ | ⟨g, cap, cur, hv, _, hh, hnc, _, hsz, htake⟩
  · omega
  · injection hv with hA _ _
    refine ⟨g, cur, hA, hh, fun j hj => ?_⟩
    have : (cur.toList.take (n * 1))[j]? = (zs.map (Value.int .i64))[j]? := by rw [htake]
    rw [List.getElem?_take_of_lt (by omega), List.getElem?_map, List.getElem?_eq_getElem hj] at this
    simpa using this

theorem info_pr : (Tryz.prog.info? 48).map (fun i => (i.zero, i.size, i.bytes)) = some (some (.agg #[.int .i64 0, .int .i64 0]), 2, 16) := by kernel_rfl

theorem valsPr_len (x : Int × Int) : (prV x).length = 2 := rfl

set_option maxHeartbeats 800000 in
theorem broken1_any (x : Lk) (w : World) :
    Calls Tryz.prog 50 #[.agg #[.int .i64 x.block, .int .i64 x.fr, .int .i64 x.to, .string x.prop, .string x.title, .int .i64 x.page]] w fun e w' => e = .returned (.bool (!(x.page == 0))) ∧ Below w.heap.size w w' := by
  obtain ⟨bk, fr, tt, pr, ti, pg⟩ := x
  (try simp only)
  have HPO : Hid (∀ w', Below w.heap.size w w' → (fun (e : Ending) (w' : World) => e = .returned (.bool (!(pg == 0))) ∧ Below w.heap.size w w') (.returned (.bool (pg != 0))) w') := hide fun w' h => ⟨rfl, h⟩
  generalize (fun (e : Ending) (w' : World) => e = .returned (.bool (!(pg == 0))) ∧ Below w.heap.size w w') = PO at *
  go_enter Tryz.func50, Tryz.ntmps50
  go_wp2
  exact HPO.out _ (by repeat (first | with_reducible exact Below.refl _ _ | with_reducible refine bl_plus ?_ | with_reducible refine bl_alloc ?_ _ | with_reducible refine bl_drew ?_ | with_reducible refine bl_drewN ?_ _))

def BrkOut (r : (List Lk × List (Int × Int)) × Int) (w : World) (e : Ending) (w' : World) : Prop := ∃ A c B d, e = .returned (.tuple #[.slice A r.1.1.length c, .slice B r.1.2.length d, .int .i64 r.2]) ∧ RdK Lk.vals 6 w' A r.1.1 ∧ RdK prV 2 w' B r.1.2 ∧ Below w.heap.size w w'

set_option maxHeartbeats 6400000 in
set_option maxRecDepth 100000 in
theorem broken_any (l : List BK) (A : Option Addr) (c : Nat) (w : World) (hA : BsAt w A l) (hk : ∀ b ∈ l, ∀ k ∈ b.kids, In64 k) (hmt : MaxTold w) :
    Calls Tryz.prog 18 #[.slice A l.length c] w (BrkOut (brkRes l) w) := by
  have HPO : Hid (∀ (zs : List Lk) (ps : List (Int × Int)) (b : Int) (n m : Nat) A c B d w', brkRes l = ((zs, ps), b) → n = zs.length → m = ps.length → RdK Lk.vals 6 w' A zs → RdK prV 2 w' B ps → Below w.heap.size w w' → BrkOut (brkRes l) w (.returned (.tuple #[.slice A n c, .slice B m d, .int .i64 b])) w') := hide fun zs ps b n m A c B d w' h1 h0 h9 h2 h3 h4 => by subst h0 h9; rw [h1]; exact ⟨A, c, B, d, rfl, h2, h3, h4⟩
  generalize BrkOut (brkRes l) w = PO at *
  have HL := hide (look_any l A c w hA hk hmt)
  unfold LookOut at HL
  by_cases he : baseErr l = 0
  · have HVW := hide (fun w' gv ga gp gt gl fp (h1 : PgJ l (pgs l) fp) (h2 : Vw l A c w w' gv ga gp gt gl (ixOf l) fp (tPairs l (sortZ (pgs l))) (aPairs l (sortZ (pgs l)))) => (⟨right_of he, hA, hmt, ga, gp, gt, gl, fp, h1, h2⟩ : VW l A c w w' gv))
    have R := right_of he
    have hln := R.len
    have HBK := hide (fun j (hj : j < l.length) => bk_ok R (List.getElem_mem hj))
    have HST := hide (fun j (hj : j < l.length) => brkL_step (l := l) hj)
    have HLN := hide (brk_all_len R)
    have HA := hide hA
    have HE := hide he
    have HF := hide (fun n m A c B d w' => HPO.out ((lksOf l l).filter fun x => x.page == 0) (brkL l l) 0 n m A c B d w' (by unfold brkRes; rw [if_neg (fun h => h he)]))
    have HRO := hide (fun gv W (hV : VW l A c w W gv) (x : BK) (hx : BkOk x) A1 m1 c1 A2 m2 c2 => viewRefsOf_any l A c gv w W hV x hx A1 m1 c1 A2 m2 c2)
    unfold RowI at HRO
    have HRL := hide (fun (x : BK) (hx : BkOk x) => (by have := rfB_len l x; have := hx.t2k; omega : (rfB l x).length ≤ 2000))
    have HRI := hide (fun (x : BK) (i : Nat) (h : i < (rfB l x).length) => (by have := rfB_in l x _ (List.getElem_mem h); unfold In64; omega : In64 (rfB l x)[i]))
    have HLS := hide (fun W gv (hV : VW l A c w W gv) => viewLinks_any l A c gv _ W hV)
    unfold RowLk at HLS
    have hL : (lksOf l l).length ≤ 5000000 := by have := lks_all_len (right_of he) l.length; rw [List.take_length] at this; omega
    obtain ⟨iP, hiP, hzP0, hzP1, hzP2⟩ := info_parts info_pr
    have HIP := hide (And.intro hiP (And.intro hzP0 (And.intro hzP1 hzP2)))
    clear HPO hA hk hmt he R hiP hzP0 hzP1 hzP2
    generalize lksOf l l = L at *
    have HDL := hide (fun w1 w3 A3 c3 (hb : Below w1.heap.size w1 w3) (ho : OwnK 6 45 w3 w1.heap.size (.slice A3 L.length c3) L.length (flatG Lk.vals L)) => delLn_row 50 (fun x => x.page == 0) w1 w1.heap.size c3 A3 L w3 hL (enters_of Tryz.func50 (by kernel_rfl) rfl) ho hb (Nat.le_refl _) (fun x hx W hbw => broken1_any x W))
    generalize hM : L.filter (fun x => x.page == 0) = M at *
    go_enter Tryz.func18, Tryz.ntmps18
    go_upto_region 6 with (first
      | (go_at_call 34; refine HL.out.mono ?_; rintro e w1 ⟨hbl, ⟨hne, -⟩ | ⟨-, gv, ga, gp, gt, gl, fp, rfl, h1, h2⟩⟩; exact absurd HE.out hne; have HB1 := hide hbl; have HV := hide (HVW.out _ _ _ _ _ _ _ h1 h2); clear hbl h1 h2)
      | (go_at_call 36; refine (HLS.out _ gv HV.out).mono ?_; rintro e w3 ⟨A3, c3, rfl, ho3, hb3⟩; have HO3 := hide ho3; have HB13 := hide hb3; clear ho3 hb3)
      | (go_at_call 40; refine (HDL.out w1 w3 A3 c3 HB13.out HO3.out).mono ?_; rintro e w4 ⟨rfl, ho4, hg4⟩; obtain ⟨A8, c8, e6, hc6, -, ha6⟩ := ownK_form ho4; injection e6 with e61 _ e63; subst e61 e63; have HR := hide (rdK_own (f := Lk.vals) (K := 6) valsLk_len (by decide) ho4); have HB4 := hide (HB13.out.grown hg4 HB13.out.size (fun k9 hk9 => (HO3.out.lt k9 hk9).1)); clear ho4 hg4))
    clear HVW HL HLS HDL hM hL HO3 HB13
    obtain ⟨W4, hW4⟩ : ∃ W4 : World, W4 = w4 := ⟨_, rfl⟩
    subst hW4
    have HV4 := hide (HV.out.below HB4.out)
    have HB5 := hide (below_chainT HB1.out HB4.out)
    clear HV HB4 HB1
    go_wp2
    go_loopw [8, 28] (fun s8 i9 wr => ∃ (j : Nat) (out : List (Int × Int)), j ≤ l.length ∧ i9 = .int .i64 j ∧ Hid (out = brkL l (l.take j)) ∧ Hid (OwnK 2 48 wr W4.heap.size s8 out.length (flatG prV out)) ∧ Hid (Below W4.heap.size W4 wr)) (fun _ i9 _ => l.length - (intOf i9).toNat)
    case atStart => exact ⟨0, [], Nat.zero_le _, rfl, hide rfl, hide OwnK.empty, hide (by repeat (first | with_reducible exact Below.refl _ _ | with_reducible refine bl_plus ?_ | with_reducible refine bl_alloc ?_ _ | with_reducible refine bl_drew ?_ | with_reducible refine bl_drewN ?_ _))⟩
    case round =>
      obtain ⟨j, out, hj, rfl, HO, HS, HB⟩ := hrel
      obtain ⟨A5, c5, rfl, hs1, hs2, hs3⟩ := ownK_form HS.out
      obtain ⟨WR, hWR⟩ : ∃ WR : World, WR = wr := ⟨_, rfl⟩
      subst hWR
      by_cases hlt : j < l.length
      · obtain ⟨b, o, A1, c1, A2, c2, rfl, hlb, q0, q1, q2, q3, q4, -, -⟩ := HA.out.getB (below_chainT HB5.out HB.out) hlt
        have i1 : (j : Int) < (l.length : Int) := by omega
        have hol : out.length ≤ 4000000 := by rw [HO.out]; exact HLN.out j
        have HX := hide (by rw [HST.out j hlt, ← HO.out] : brkL l (l.take (j + 1)) = out ++ brk1 l l[j].id (rfB l l[j]))
        go_upto_region 9 with (fail)
        have HB2 := hide (bl_alloc HB.out (.cells #[.int .i64 l[j].id, .int .i64 l[j].par, .slice A1 l[j].kids.length c1, .string l[j].txt, .slice A2 l[j].ps.length c2] 82))
        have HO2 := hide (ownK_alloc HS.out (.cells #[.int .i64 l[j].id, .int .i64 l[j].par, .slice A1 l[j].kids.length c1, .string l[j].txt, .slice A2 l[j].ps.length c2] 82))
        have HRJ := hide (HRO.out gv (WR.alloc (.cells #[.int .i64 l[j].id, .int .i64 l[j].par, .slice A1 l[j].kids.length c1, .string l[j].txt, .slice A2 l[j].ps.length c2] 82)) (HV4.out.below HB2.out) l[j] (HBK.out j hlt) A1 l[j].kids.length c1 A2 l[j].ps.length c2)
        have HRK := hide (HRL.out l[j] (HBK.out j hlt))
        have HRIj := hide (HRI.out l[j])
        have HBX := hide (Blk.new WR 82 #[.int .i64 l[j].id, .int .i64 l[j].par, .slice A1 l[j].kids.length c1, .string l[j].txt, .slice A2 l[j].ps.length c2])
        clear q0 q1 q2 q3 q4 HS HB HO
        generalize WR.alloc (.cells #[.int .i64 l[j].id, .int .i64 l[j].par, .slice A1 l[j].kids.length c1, .string l[j].txt, .slice A2 l[j].ps.length c2] 82) = W2 at *
        have z0 := HBX.out.cell 0
        have z1 := HBX.out.cell 1
        have z2 := HBX.out.cell 2
        have z3 := HBX.out.cell 3
        have z4 := HBX.out.cell 4
        have zlt := HBX.out.lt
        simp only [List.getElem?_toArray, List.getElem?_cons_succ, List.getElem?_cons_zero] at z0 z1 z2 z3 z4
        generalize rfB l l[j] = rs at *
        generalize l[j] = x at *
        obtain ⟨xi, xp, xk, xt, xs⟩ := x
        (try simp only at *)
        have hrs : rs.length ≤ 2000 := HRK.out
        generalize hg0 : WR.heap.size = g0 at *
        go_upto_block 10 with (go_at_call 45; refine HRJ.out.mono ?_; rintro e w3 ⟨A9, c9, rfl, hrow, hbl⟩; have HI9 := hide (iblk_of_own hrow); have HO3 := hide (ownK_below HO2.out hbl); have HB3 := hide (below_chainT HB2.out hbl); have HX3 := hide (HBX.out.below hbl HBX.out.lt); clear hrow hbl)
        clear z0 z1 z2 z3 z4 zlt HBX HRJ HB2 HO2
        go_loopw [8, 36] (fun s8 i8 wr => ∃ (i : Nat) (o2 : List (Int × Int)), i ≤ rs.length ∧ i8 = .int .i64 i ∧ Hid (o2 = out ++ brk1 l xi (rs.take i)) ∧ Hid (OwnK 2 48 wr W4.heap.size s8 o2.length (flatG prV o2)) ∧ Hid (Below W4.heap.size W4 wr) ∧ Hid (IBlk wr A9 rs) ∧ Hid (Blk wr g0 82 #[.int .i64 xi, .int .i64 xp, .slice A1 xk.length c1, .string xt, .slice A2 xs.length c2])) (fun _ i8 _ => rs.length - (intOf i8).toNat)
        case atStart => exact ⟨0, out, Nat.zero_le _, rfl, hide (by simp [brk1]), HO3, HB3, HI9, HX3⟩
        case round =>
          clear HO3 HB3 HI9 HX3
          obtain ⟨i, o2, hi, rfl, HO2, HS, HB, HI, HX3⟩ := hrel
          obtain ⟨A6, c6, rfl, hs4, hs5, hs6⟩ := ownK_form HS.out
          obtain ⟨W5, hW5⟩ : ∃ W5 : World, W5 = wr := ⟨_, rfl⟩
          subst hW5
          by_cases hlt2 : i < rs.length
          · obtain ⟨gI, rfl, hgI, cI⟩ := HI.out.get hlt2
            have i2 : (i : Int) < (rs.length : Int) := by omega
            have hol3 : o2.length ≤ 4002000 := by
              have h1 := brk1_len l xi (rs.take i)
              rw [List.length_take] at h1
              rw [HO2.out, List.length_append]
              omega
            have HBG := hide (show (o2.length + 1) * iP.bytes ≤ 140737488355328 ∧ o2.length + 1 ≤ 140737488355328 by have h9 := HIP.out.2.2.2; rw [h9]; omega)
            have HSY := hide (fun h => brk1_yes (l := l) (id := xi) hlt2 h)
            have HSN := hide (fun h => brk1_no (l := l) (id := xi) hlt2 h)
            obtain ⟨ga1, v1, vlt, hlk⟩ := vwAt1 (HV4.out.below HB.out) (HRIj.out i hlt2)
            have x0 := HX3.out.cell 0
            have xlt := HX3.out.lt
            simp only [List.getElem?_toArray, List.getElem?_cons_zero] at x0
            generalize rs[i] = k at *
            have HYES : Hid ((k = 0 ∨ ixOf l k = none) → brk1 l xi (rs.take (i + 1)) = brk1 l xi (rs.take i) ++ [(xi, k)]) := HSY
            clear HSY
            by_cases hyes : k = 0 ∨ ixOf l k = none
            · have HX2 := hide (by rw [HYES.out hyes, ← List.append_assoc, ← HO2.out] : out ++ brk1 l xi (rs.take (i + 1)) = o2 ++ [(xi, k)])
              obtain ⟨sm, hsm⟩ : ∃ sm, (ixOf l k).isSome = sm := ⟨_, rfl⟩
              rw [hsm] at hlk
              have hor : sm = false ∨ (sm = true ∧ k = 0) := by
                cases sm with
                | false => exact .inl rfl
                | true =>
                  rcases hyes with h | h
                  · exact .inr ⟨rfl, h⟩
                  · rw [h] at hsm; cases hsm
              clear HYES HSN HO2 hyes hsm
              rcases hor with rfl | ⟨rfl, rfl⟩
              all_goals
                go_wp2_with (at_builtin; go_loud (refine wpList_append_b rfl (.tmp 55) (.tmp 60) rfl rfl Tryz.underlying40 HIP.out.1 HIP.out.2.1 HIP.out.2.2.1 (by decide) rfl (by have := HIP.out.2.2.2; omega) W4.heap.size o2.length (.slice A6 o2.length c6) (flatG prV o2) [.int .i64 xi, .int .i64 _] W5.heap.size rfl (ownK_below HS.out (by repeat (first | with_reducible exact Below.refl _ _ | with_reducible refine bl_plus ?_ | with_reducible refine bl_alloc ?_ _ | with_reducible refine bl_drew ?_ | with_reducible refine bl_drewN ?_ _))) rfl (by intro u hu; simp only [List.mem_cons, List.not_mem_nil, or_false] at hu; rcases hu with rfl | rfl <;> rfl) rfl (newN_cells rfl) HBG.out (by have := HB.out.size; simp only [World.size_alloc]; omega) ?_; intro v' w1 hown hgr hfr; have HOW := hide hown; have HBW := hide (below_grown1 HB.out hgr (by repeat (first | with_reducible exact Below.refl _ _ | with_reducible refine bl_plus ?_ | with_reducible refine bl_alloc ?_ _ | with_reducible refine bl_drew ?_ | with_reducible refine bl_drewN ?_ _)) (fun k hk => (HS.out.lt k hk).1)); have HIW := hide (HI.out.grown1 hgr (by repeat (first | with_reducible exact Below.refl _ _ | with_reducible refine bl_plus ?_ | with_reducible refine bl_alloc ?_ _ | with_reducible refine bl_drew ?_ | with_reducible refine bl_drewN ?_ _)) HS.out (by decide)); have HXW := hide (blk_grown1 HX3.out hgr (by repeat (first | with_reducible exact Below.refl _ _ | with_reducible refine bl_plus ?_ | with_reducible refine bl_alloc ?_ _ | with_reducible refine bl_drew ?_ | with_reducible refine bl_drewN ?_ _)) HS.out (by decide)); clear hown hgr hfr))
                go_roundw
                case rel => exact ⟨i + 1, o2 ++ [(xi, _)], by omega, by go_num, hide HX2.out.symm, hide (by rw [List.length_append, flatG_snoc]; exact HOW.out), HBW, HIW, HXW⟩
                case measure => simp [intOf]; omega
            · have HX2 := hide (by rw [HSN.out hyes]; exact HO2.out : o2 = out ++ brk1 l xi (rs.take (i + 1)))
              have e0 : (k == 0) = false := beq_eq_false_iff_ne.2 (fun h => hyes (.inl h))
              have hsm : (ixOf l k).isSome = true := by
                cases h : ixOf l k with
                | none => exact absurd (.inr h) hyes
                | some a => rfl
              rw [hsm] at hlk
              clear HYES HSN HO2 hyes hsm
              go_wp2
              go_roundw
              case rel => exact ⟨i + 1, o2, by omega, by go_num, HX2, HS, HB, HI, HX3⟩
              case measure => simp [intOf]; omega
          · obtain rfl : i = rs.length := by omega
            have HX2 := hide (by have := HO2.out; rw [List.take_length] at this; rw [this]; exact HX.out.symm : o2 = brkL l (l.take (j + 1)))
            go_wp2
            go_roundw
            case rel => exact ⟨j + 1, o2, by omega, by go_num, HX2, HS, HB⟩
            case measure => simp [intOf]; omega
      · obtain rfl : j = l.length := by omega
        have hzz : out = brkL l l := by have := HO.out; rwa [List.take_length] at this
        rw [← hzz] at HF
        have HRP := hide (rdK_own (f := prV) (K := 2) valsPr_len (by decide) HS.out)
        have HRW := hide (HR.out.below HB.out)
        have HBZ := hide (below_chainT HB5.out HB.out)
        clear HO HS HB hzz HR
        go_wp2_with (first
          | (go_at_call 35; refine (clipLk_any A3 M.length c3 WR hc6 ha6).mono ?_; rintro e w7 ⟨rfl, hw7⟩; subst hw7)
          | (go_at_call 51; refine (clipPr_any A5 out.length c5 _ hs1 hs3).mono ?_; rintro e w8 ⟨rfl, hw8⟩; subst hw8))
        exact HF.out _ _ _ _ _ _ _ rfl rfl HRW.out HRP.out HBZ.out
  · have HF := hide (fun w' => HPO.out [] [] (baseErr l) 0 0 none 0 none 0 w' (by unfold brkRes; rw [if_pos he]) rfl rfl rdK_none rdK_none)
    have e1 : (baseErr l != 0) = true := bne_iff_ne.2 he
    have HE := hide he
    clear HPO hA hk hmt he
    generalize baseErr l = E at *
    go_enter Tryz.func18, Tryz.ntmps18
    go_wp2_with (go_at_call 34; refine HL.out.mono ?_; rintro e w1 ⟨hbl, ⟨-, rfl⟩ | ⟨h0, -⟩⟩; have HB := hide hbl; clear hbl; all_goals first | exact absurd h0 HE.out | skip)
    exact HF.out _ HB.out

end Go.Proofs.YtioppoaijehicaaGreatDoor
