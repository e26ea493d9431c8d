/-
  WALK: is a base right?
-/
import Derived.Test.YtioppoaijehicaaGreatDoorTbf
set_option linter.all false
namespace Go.Proofs.YtioppoaijehicaaGreatDoor
open Go.RowKit Go.Maps Go.WideMaps

theorem baseErr_none {l : List BK} (h : l.length = 0) : baseErr l = 1 := if_pos h

theorem baseErr_many {l : List BK} (h : ¬ l.length = 0) (h2 : 2000 < l.length) : baseErr l = 4 := by
  unfold baseErr
  rw [if_neg h, if_pos h2]

theorem baseErr_blk {l : List BK} (h : ¬ l.length = 0) (h2 : ¬ 2000 < l.length) {q : Nat} (hq : q < l.length) (hz : ∀ j, j < q → blkErr l j = 0) {e : Int} (he : e ≠ 0) (hb : blkErr l q = e) : baseErr l = e := by
  have h1 := firstErr_first (f := blkErr l) hz (by rw [hb]; exact he) hq
  unfold baseErr
  rw [if_neg h, if_neg h2, if_pos (by rw [h1, hb]; exact he), h1, hb]

theorem baseErr_kids {l : List BK} (h : ¬ l.length = 0) (h2 : ¬ 2000 < l.length) (hz : ∀ j, j < l.length → blkErr l j = 0) {e : Int} (he : e ≠ 0) (hb : kidsErr l = e) : baseErr l = e := by
  have h1 := firstErr_none (f := blkErr l) hz
  unfold baseErr
  rw [if_neg h, if_neg h2, if_neg (by rw [h1]; decide), if_pos (by rw [hb]; exact he), hb]

theorem baseErr_dep {l : List BK} (h : ¬ l.length = 0) (h2 : ¬ 2000 < l.length) (hz : ∀ j, j < l.length → blkErr l j = 0) (hk : kidsErr l = 0) : baseErr l = firstErr (depErr l) l.length := by
  have h1 := firstErr_none (f := blkErr l) hz
  unfold baseErr
  rw [if_neg h, if_neg h2, if_neg (by rw [h1]; decide), if_neg (by rw [hk]; decide)]

theorem kids_500 {l : List BK} (hz : ∀ j, j < l.length → blkErr l j = 0) : ∀ b ∈ l, b.kids.length ≤ 500 := by
  intro b hb
  obtain ⟨j, hj, rfl⟩ := List.getElem_of_mem hb
  have h1 := hz j hj
  rw [blkErr_at hj] at h1
  unfold blkErrs at h1
  split at h1
  · omega
  · split at h1
    · omega
    · split at h1
      · omega
      · split at h1
        · rename_i h2
          exact absurd h1 h2
        · split at h1
          · omega
          · omega

set_option maxHeartbeats 3200000 in
set_option maxRecDepth 100000 in
theorem check_any (l : List BK) (A : Option Addr) (c : Nat) (w : World) (hA : BsAt w A l) (hk : ∀ b ∈ l, ∀ k ∈ b.kids, In64 k) :
    Calls Tryz.prog 23 #[.slice A l.length c] w fun e w' => e = .returned (.int .i64 (baseErr l)) ∧ Below w.heap.size w w' := by
  have hm := hA.1
  unfold maxLen at hm
  have HA := hide hA
  have HK := hide hk
  clear hA hk
  by_cases hz : l.length = 0
  · have HR := hide (baseErr_none hz)
    generalize l.length = N at *
    subst hz
    go_enter Tryz.func23, Tryz.ntmps23
    go_wp2
    (try simp only [Exit.inBlock, Exit.then])
    go_ret
    rw [HR.out]
    exact ⟨rfl, (by repeat (first | with_reducible exact Below.refl _ _ | with_reducible refine bl_plus ?_ | with_reducible refine bl_alloc ?_ _ | with_reducible refine bl_drew ?_ | with_reducible refine bl_drewN ?_ _))⟩
  · have HZ := hide hz
    have e0 : (((l.length : Nat) : Int) == 0) = false := beq_eq_false_iff_ne.2 (by omega)
    by_cases h2 : 2000 < l.length
    · have HR := hide (baseErr_many hz h2)
      have i2 : (2000 : Int) < (l.length : Int) := by omega
      clear hz h2
      go_enter Tryz.func23, Tryz.ntmps23
      go_wp2
      (try simp only [Exit.inBlock, Exit.then])
      go_ret
      rw [HR.out]
      exact ⟨rfl, (by repeat (first | with_reducible exact Below.refl _ _ | with_reducible refine bl_plus ?_ | with_reducible refine bl_alloc ?_ _ | with_reducible refine bl_drew ?_ | with_reducible refine bl_drewN ?_ _))⟩
    · have HM := hide h2
      have i2 : ¬ (2000 : Int) < (l.length : Int) := by omega
      clear hz h2
      go_enter Tryz.func23, Tryz.ntmps23
      go_wp2
      go_loopw [21] (fun i wr => ∃ (q : Nat), q ≤ l.length ∧ i = .int .i64 q ∧ Hid (∀ j, j < q → blkErr l j = 0) ∧ Hid (Below w.heap.size w wr)) (fun i _ => l.length - (intOf i).toNat)
      case atStart => exact ⟨0, Nat.zero_le _, rfl, hide (fun j hj => absurd hj (by omega)), hide (by repeat (first | with_reducible exact Below.refl _ _ | with_reducible refine bl_plus ?_ | with_reducible refine bl_alloc ?_ _ | with_reducible refine bl_drew ?_ | with_reducible refine bl_drewN ?_ _))⟩
      case round =>
        obtain ⟨q, hq, rfl, HQ, HB⟩ := hrel
        by_cases hlt : q < l.length
        · have i1 : (q : Int) < (l.length : Int) := by omega
          have HCB := hide (fun W (hb : Below wr.heap.size wr W) => checkBlock_any l A c q hlt W (HA.out.below (below_chainT HB.out hb)) (Nat.le_of_not_lt HM.out))
          have HRE := hide (fun (e : Int) (he : e ≠ 0) (h : blkErr l q = e) => baseErr_blk HZ.out HM.out hlt HQ.out he h)
          generalize hE : blkErr l q = E at *
          by_cases he : E = 0
          · subst he
            have HR := hide hE
            clear HRE hE
            go_wp2_with (go_at_call 57; (refine (HCB.out _ (by repeat (first | with_reducible exact Below.refl _ _ | with_reducible refine bl_plus ?_ | with_reducible refine bl_alloc ?_ _ | with_reducible refine bl_drew ?_ | with_reducible refine bl_drewN ?_ _))).mono ?_); rintro e w' ⟨rfl, hbl⟩; obtain ⟨os1, n1, rfl⟩ := below_plus hbl; clear hbl)
            go_roundw
            case rel => exact ⟨q + 1, hlt, by go_num, hide (fun j hj => by
              by_cases e : j = q
              · subst e; exact HR.out
              · exact HQ.out j (by omega)), hide (below_chainT HB.out (by repeat (first | with_reducible exact Below.refl _ _ | with_reducible refine bl_plus ?_ | with_reducible refine bl_alloc ?_ _ | with_reducible refine bl_drew ?_ | with_reducible refine bl_drewN ?_ _)))⟩
            case measure => simp [intOf]; omega
          · have HR := hide (HRE.out E he rfl)
            have e5 : (E != 0) = true := bne_iff_ne.2 he
            clear HRE hE he
            go_wp2_with (go_at_call 57; (refine (HCB.out _ (by repeat (first | with_reducible exact Below.refl _ _ | with_reducible refine bl_plus ?_ | with_reducible refine bl_alloc ?_ _ | with_reducible refine bl_drew ?_ | with_reducible refine bl_drewN ?_ _))).mono ?_); rintro e w' ⟨rfl, hbl⟩; obtain ⟨os1, n1, rfl⟩ := below_plus hbl; clear hbl)
            (try simp only [Exit.inBlock, Exit.then])
            go_ret
            rw [HR.out]
            exact ⟨rfl, below_chainT HB.out (by repeat (first | with_reducible exact Below.refl _ _ | with_reducible refine bl_plus ?_ | with_reducible refine bl_alloc ?_ _ | with_reducible refine bl_drew ?_ | with_reducible refine bl_drewN ?_ _))⟩
        · obtain rfl : q = l.length := by omega
          have HI := hide (ids_of (firstErr_none (f := blkErr l) HQ.out))
          have H5 := hide (kids_500 HQ.out)
          have HCK := hide (fun W (hb : Below wr.heap.size wr W) => checkKids_any l A c W (HA.out.below (below_chainT HB.out hb)) HI.out (Nat.le_of_not_lt HM.out) H5.out HK.out)
          by_cases he : kidsErr l = 0
          · have HG := hide (good_of (firstErr_none (f := blkErr l) HQ.out) he)
            have HDEP := hide (baseErr_dep HZ.out HM.out HQ.out he)
            have HDP := hide (fun W (hb : Below wr.heap.size wr W) => depths_any l A c W (HA.out.below (below_chainT HB.out hb)) HG.out (Nat.le_of_not_lt HM.out) (Nat.pos_of_ne_zero HZ.out) H5.out)
            unfold DepOut at HDP
            rw [he] at HCK
            clear he
            go_wp2_with (first | (go_at_call 58; (refine (HCK.out _ (by repeat (first | with_reducible exact Below.refl _ _ | with_reducible refine bl_plus ?_ | with_reducible refine bl_alloc ?_ _ | with_reducible refine bl_drew ?_ | with_reducible refine bl_drewN ?_ _))).mono ?_); rintro e w' ⟨rfl, hbl⟩; obtain ⟨os1, n1, rfl⟩ := below_plus hbl; clear hbl) | (go_at_call 59; (refine (HDP.out _ (by repeat (first | with_reducible exact Below.refl _ _ | with_reducible refine bl_plus ?_ | with_reducible refine bl_alloc ?_ _ | with_reducible refine bl_drew ?_ | with_reducible refine bl_drewN ?_ _))).mono ?_); rintro e W2 ⟨g, n, D, ff, rfl, hnf, hbf, hle, hbl⟩; have HNF := hide hnf; have HBF := hide hbf; have HLE := hide hle; have HB2 := hide (below_chainT (w := w) (below_chainT HB.out (by repeat (first | with_reducible exact Below.refl _ _ | with_reducible refine bl_plus ?_ | with_reducible refine bl_alloc ?_ _ | with_reducible refine bl_drew ?_ | with_reducible refine bl_drewN ?_ _))) hbl); clear hnf hbf hle hbl))
            go_loopw [40] (fun i wr => ∃ (q : Nat), q ≤ l.length ∧ i = .int .i64 q ∧ Hid (∀ j, j < q → depErr l j = 0) ∧ Hid (Below W2.heap.size W2 wr)) (fun i _ => l.length - (intOf i).toNat)
            case atStart => exact ⟨0, Nat.zero_le _, rfl, hide (fun j hj => absurd hj (by omega)), hide (by repeat (first | with_reducible exact Below.refl _ _ | with_reducible refine bl_plus ?_ | with_reducible refine bl_alloc ?_ _ | with_reducible refine bl_drew ?_ | with_reducible refine bl_drewN ?_ _))⟩
            case round =>
              obtain ⟨q, hq, rfl, HQ, HBB⟩ := hrel
              have HB3 := hide (below_chainT HB2.out HBB.out)
              by_cases hlt : q < l.length
              · obtain ⟨b, o, A1, c1, A2, c2, rfl, hb, y0, y1, y2, y3, y4, -, -⟩ := HA.out.getB HB3.out hlt
                have i1 : (q : Int) < (l.length : Int) := by omega
                have h64 : In64 l[q].id := by have := HG.out.ids.bound hlt; unfold In64; omega
                have HLK := hide (fun W (hb : Below wr.heap.size wr W) => ((HNF.out.below HBB.out).below hb).lookOk h64)
                have HDE := hide (show depErr l q = match ff l[q].id with | none => 12 | some d => if 40 < d then 13 else 0 by unfold depErr; rw [idAt_get hlt]; exact HBF.out.end_ HG.out _)
                have HRE := hide (fun (e : Int) (he : e ≠ 0) (h : depErr l q = e) => (show baseErr l = e by rw [HDEP.out, firstErr_first HQ.out (by rw [h]; exact he) hlt, h]))
                have HLD := hide (fun d => HLE.out l[q].id d)
                clear h64
                generalize l[q] = x at *
                obtain ⟨xi, xp, xk, xt, xs⟩ := x
                (try simp only at *)
                have hlk := HLK.out (wr.alloc (.cells #[.int .i64 xi, .int .i64 xp, .slice A1 xk.length c1, .string xt, .slice A2 xs.length c2] 82)) (by repeat (first | with_reducible exact Below.refl _ _ | with_reducible refine bl_plus ?_ | with_reducible refine bl_alloc ?_ _ | with_reducible refine bl_drew ?_ | with_reducible refine bl_drewN ?_ _))
                cases hf : ff xi with
                | none =>
                  have HR := hide (HRE.out 12 (by decide) (by rw [HDE.out, hf]))
                  rw [hf] at hlk
                  simp only [Option.isSome_none, Option.getD_none] at hlk
                  clear hf HRE HDE HLD
                  go_wp2
                  (try simp only [Exit.inBlock, Exit.then])
                  go_ret
                  rw [HR.out]
                  exact ⟨rfl, below_chainT HB3.out (by repeat (first | with_reducible exact Below.refl _ _ | with_reducible refine bl_plus ?_ | with_reducible refine bl_alloc ?_ _ | with_reducible refine bl_drew ?_ | with_reducible refine bl_drewN ?_ _))⟩
                | some d =>
                  rw [hf] at hlk
                  simp only [Option.isSome_some, Option.getD_some] at hlk
                  by_cases h40 : 40 < d
                  · have HR := hide (HRE.out 13 (by decide) (by rw [HDE.out, hf]; simp only; rw [if_pos h40]))
                    have i4 : (40 : Int) < (d : Int) := by omega
                    clear hf HRE HDE HLD h40
                    go_wp2
                    (try simp only [Exit.inBlock, Exit.then])
                    go_ret
                    rw [HR.out]
                    exact ⟨rfl, below_chainT HB3.out (by repeat (first | with_reducible exact Below.refl _ _ | with_reducible refine bl_plus ?_ | with_reducible refine bl_alloc ?_ _ | with_reducible refine bl_drew ?_ | with_reducible refine bl_drewN ?_ _))⟩
                  · have HR := hide (show depErr l q = 0 by rw [HDE.out, hf]; simp only; rw [if_neg h40])
                    have i4 : ¬ (40 : Int) < (d : Int) := by omega
                    clear hf HRE HDE HLD h40
                    go_wp2
                    go_roundw
                    case rel => exact ⟨q + 1, hlt, by go_num, hide (fun j hj => by
                      by_cases e : j = q
                      · subst e; exact HR.out
                      · exact HQ.out j (by omega)), hide (below_chainT HBB.out (by repeat (first | with_reducible exact Below.refl _ _ | with_reducible refine bl_plus ?_ | with_reducible refine bl_alloc ?_ _ | with_reducible refine bl_drew ?_ | with_reducible refine bl_drewN ?_ _)))⟩
                    case measure => simp [intOf]; omega
              · obtain rfl : q = l.length := by omega
                have HR := hide (show baseErr l = 0 by rw [HDEP.out]; exact firstErr_none HQ.out)
                go_wp2
                go_ret
                rw [HR.out]
                exact ⟨rfl, HB3.out⟩
          · have HR := hide (baseErr_kids HZ.out HM.out HQ.out he rfl)
            have e5 : (kidsErr l != 0) = true := bne_iff_ne.2 he
            clear he
            generalize kidsErr l = E at *
            go_wp2_with (go_at_call 58; (refine (HCK.out _ (by repeat (first | with_reducible exact Below.refl _ _ | with_reducible refine bl_plus ?_ | with_reducible refine bl_alloc ?_ _ | with_reducible refine bl_drew ?_ | with_reducible refine bl_drewN ?_ _))).mono ?_); rintro e w' ⟨rfl, hbl⟩; obtain ⟨os1, n1, rfl⟩ := below_plus hbl; clear hbl)
            (try simp only [Exit.inBlock, Exit.then])
            go_ret
            rw [HR.out]
            exact ⟨rfl, below_chainT HB.out (by repeat (first | with_reducible exact Below.refl _ _ | with_reducible refine bl_plus ?_ | with_reducible refine bl_alloc ?_ _ | with_reducible refine bl_drew ?_ | with_reducible refine bl_drewN ?_ _))⟩

end Go.Proofs.YtioppoaijehicaaGreatDoor
/-
  WALK: how deep blocks are, the reference's way.
-/
namespace Go.Proofs.YtioppoaijehicaaGreatDoor
open Go.RowKit

def intC (l : List Int) : Array Value := (intV l).toArray

theorem intC_get {l : List Int} {j : Nat} (h : j < l.length) : (intC l)[j]? = some (.int .i64 l[j]) := by
  unfold intC intV
  rw [List.getElem?_toArray, List.getElem?_map, List.getElem?_eq_getElem h]
  rfl

theorem intC_set (l : List Int) (j : Nat) (v : Int) : (intC l).setIfInBounds j (.int .i64 v) = intC (l.set j v) := by
  unfold intC intV
  rw [List.setIfInBounds_toArray, List.map_set]

theorem blk_frz {w : World} {g : Nat} {t : TypeId} {cs : Array Value} (h : Blk w g t cs) (j : Nat) : w.frozen? ⟨g, j, none⟩ = false := by
  have h9 : w.heap[g]? = some (.cells cs t (0, 0)) := h
  simp [World.frozen?, h9]

theorem ix_of_kid {l : List BK} (G : Good l) {b : BK} (hb : b ∈ l) {k : Int} (hk : k ∈ b.kids) : ∃ n, n < l.length ∧ 0 < n ∧ ixOf l k = some n ∧ idAt l n = k := by
  obtain ⟨n, hn, h0, hid, -⟩ := G.kid b hb k hk
  refine ⟨n, hn, h0, ?_, by rw [idAt_get hn]; exact hid⟩
  rw [← hid]
  exact G.ids.ix hn

def ReachOut (l : List BK) (w0 : World) (g : Nat) (i : Nat) (ds : List Int) (e : Ending) (w' : World) : Prop := e = .returned (.tuple #[]) ∧ ∃ ds', Mo l ds ds' ∧ kidsMk l ds' i ∧ zeros ds' ≤ zeros ds ∧ Blk w' g 3 (intC ds') ∧ Below w0.heap.size w0 w'

set_option maxHeartbeats 3200000 in
set_option maxRecDepth 100000 in
theorem reach_any (l : List BK) (A : Option Addr) (c : Nat) (w0 : World) (hA : BsAt w0 A l) (G : Good l) (hn : l.length ≤ 2000) (h5 : ∀ b ∈ l, b.kids.length ≤ 500) (g : Nat) (hg : w0.heap.size ≤ g) :
    ∀ (z i d : Nat) (ds : List Int) (W : World), zeros ds < z → i < l.length → MkOk l ds → Dp l (idAt l i) d → d + zeros ds ≤ l.length → Blk W g 3 (intC ds) → Below w0.heap.size w0 W →
    Calls Tryz.prog 66 #[.slice A l.length c, .int .i64 i, .int .i64 d, .slice (some ⟨g, 0, none⟩) l.length l.length] W (ReachOut l w0 g i ds) := by
  intro z
  induction z with
  | zero => intro i d ds W hz; omega
  | succ z ih =>
    intro i d ds W hz hi hok hdp hd hbk hb
    have HA := hide hA
    have HG := hide G
    have HIH := hide ih
    have HOK := hide hok
    have HDP := hide hdp
    have HDD := hide hd
    have HBK0 := hide hbk
    have HB0 := hide hb
    have HZZ := hide hz
    have HGG := hide hg
    obtain ⟨b, o, A1, c1, A2, c2, rfl, hlb, q0, q1, q2, q3, q4, hks, -⟩ := hA.getB hb hi
    have HMEM := hide (List.getElem_mem hi)
    have HKS := hide hks
    have HL5 := hide (h5 l[i] HMEM.out)
    have ii : (i : Int) < (l.length : Int) := by omega
    have HKT := hide (show kidsMk l = fun ds j => kidsMk l ds j from rfl)
    have HKE := hide (fun (ds' : List Int) (h : ∀ k ∈ l[i].kids, mkId l ds' k) => (show kidsMk l ds' i from fun x hx k hk => by rw [List.getElem?_eq_getElem hi] at hx; obtain rfl := Option.some.inj hx; exact h k hk))
    have HDI := hide (show Dp l l[i].id d from by rw [← idAt_get hi]; exact hdp)
    have hd2 : d ≤ 2000 := by omega
    have HPO : Hid (∀ (ds' : List Int) (w' : World), Mo l ds ds' → kidsMk l ds' i → zeros ds' ≤ zeros ds → Blk w' g 3 (intC ds') → Below w0.heap.size w0 w' → ReachOut l w0 g i ds (.returned (.tuple #[])) w') := hide fun ds' w' h1 h2 h3 h4 h5 => ⟨rfl, ds', h1, h2, h3, h4, h5⟩
    generalize ReachOut l w0 g i ds = PO at *
    clear ih hok hdp hd hbk hb hA G h5 hz hg hks HKT HDP
    generalize hx : l[i] = x at *
    clear hx
    obtain ⟨xi, xp, xk, xt, xs⟩ := x
    (try simp only at *)
    go_enter Tryz.func66, Tryz.ntmps66
    go_wp2
    go_loopw [17] (fun i9 wr => ∃ (j : Nat) (dt : List Int), j ≤ xk.length ∧ i9 = .int .i64 j ∧ Hid (Mo l ds dt) ∧ Hid (∀ k ∈ xk.take j, mkId l dt k) ∧ Hid (zeros dt ≤ zeros ds) ∧ Hid (Blk wr g 3 (intC dt)) ∧ Hid (Below w0.heap.size w0 wr)) (fun i9 _ => xk.length - (intOf i9).toNat)
    case atStart => exact ⟨0, ds, Nat.zero_le _, rfl, hide (Mo.refl HOK.out), hide (fun k hk => by simp at hk), hide (Nat.le_refl _), hide (HBK0.out.below (by repeat (first | with_reducible exact Below.refl _ _ | with_reducible refine bl_plus ?_ | with_reducible refine bl_alloc ?_ _ | with_reducible refine bl_drew ?_ | with_reducible refine bl_drewN ?_ _)) HBK0.out.lt), hide (below_chainT HB0.out (by repeat (first | with_reducible exact Below.refl _ _ | with_reducible refine bl_plus ?_ | with_reducible refine bl_alloc ?_ _ | with_reducible refine bl_drew ?_ | with_reducible refine bl_drewN ?_ _)))⟩
    case round =>
      obtain ⟨j, dt, hj, rfl, HMO, HKM, HZ, HBK, HB⟩ := hrel
      by_cases hlt : j < xk.length
      · obtain ⟨b2, o2, rfl, hb2, z0⟩ := ints_get (HKS.out.below HB.out) hlt
        have i1 : (j : Int) < (xk.length : Int) := by omega
        have i5 : xk.length ≤ 500 := HL5.out
        obtain ⟨n, hnl, hn0, hix, hid⟩ := ix_of_kid HG.out HMEM.out (List.getElem_mem hlt)
        have HAT := hide (fun W (hb : Below wr.heap.size wr W) => atR_any l _ c xk[j] W (HA.out.below (below_chainT HB.out hb)))
        have HI7 := hide (show ixI l xk[j] = n by unfold ixI; rw [hix])
        rw [HI7.out] at HAT
        have HTK := hide (fun (d2 : List Int) (h : ∀ k ∈ xk.take j, mkId l d2 k) (h2 : mkId l d2 xk[j]) => (show ∀ k ∈ xk.take (j + 1), mkId l d2 k from fun k hk => by
          rw [List.take_succ_eq_append_getElem hlt, List.mem_append] at hk
          rcases hk with hk | hk
          · exact h k hk
          · rw [List.mem_singleton.1 hk]; exact h2))
        have HDK := hide (show Dp l (idAt l n) (d + 1) from by rw [hid]; exact .kid HMEM.out HDI.out (List.getElem_mem hlt))
        have in1 : (n : Int) < (l.length : Int) := by omega
        have HLT := hide (show n < dt.length from by rw [HMO.out.ok.len]; exact hnl)
        have HIX := hide hix
        have hcl : wr.cell? ⟨g, n, none⟩ = some (.int .i64 dt[n]) := (HBK.out.cell n).trans (intC_get HLT.out)
        have hfz : wr.frozen? ⟨g, n, none⟩ = false := blk_frz HBK.out n
        have hgl : g < wr.heap.size := HBK.out.lt
        have HMG := hide (mkd_get HLT.out)
        clear hix hid HI7
        generalize xk[j] = k at *
        by_cases hv : dt[n] = 0
        · have HV := hide hv
          rw [hv] at hcl
          have HZS := hide (zeros_set (v := ((d + 1 : Nat) : Int)) HLT.out hv (by omega))
          have HREC := hide (fun W (hbk : Blk W g 3 (intC (dt.set n ((d + 1 : Nat) : Int)))) (hb : Below w0.heap.size w0 W) => HIH.out n (d + 1) (dt.set n ((d + 1 : Nat) : Int)) W (by have := HZS.out; have := HZ.out; have := HZZ.out; omega) hnl (HMO.out.ok.set HLT.out HDK.out) HDK.out (by have := HZS.out; have := HZ.out; have := HDD.out; omega) hbk hb)
          unfold ReachOut at HREC
          clear hv
          go_upto_region 6 with (go_at_call 65; (refine (HAT.out _ (by repeat (first | with_reducible exact Below.refl _ _ | with_reducible refine bl_plus ?_ | with_reducible refine bl_alloc ?_ _ | with_reducible refine bl_drew ?_ | with_reducible refine bl_drewN ?_ _))).mono ?_); rintro e w' ⟨rfl, hbl⟩; have HB1 := hide (below_chainT HB.out (below_chainT (w := wr) (by repeat (first | with_reducible exact Below.refl _ _ | with_reducible refine bl_plus ?_ | with_reducible refine bl_alloc ?_ _ | with_reducible refine bl_drew ?_ | with_reducible refine bl_drewN ?_ _)) hbl)); have HBK1 := hide (HBK.out.below (below_chainT (w := wr) (by repeat (first | with_reducible exact Below.refl _ _ | with_reducible refine bl_plus ?_ | with_reducible refine bl_alloc ?_ _ | with_reducible refine bl_drew ?_ | with_reducible refine bl_drewN ?_ _)) hbl) HBK.out.lt); obtain ⟨os1, n1, rfl⟩ := below_plus hbl; clear hbl)
          have HBKS := hide (show Blk (plus (wr.setCell ⟨g, n, none⟩ (.int .i64 ((d : Int) + 1))) os1 n1) g 3 (intC (dt.set n ((d + 1 : Nat) : Int))) from by
            have h9 : Blk (wr.setCell ⟨g, n, none⟩ (.int .i64 ((d : Int) + 1))) g _ _ := HBK.out.set_ n (.int .i64 ((d + 1 : Nat) : Int))
            rw [intC_set] at h9
            exact h9.below (bl_plus (Below.refl _ _)) h9.lt)
          have HBS := hide (show Below w0.heap.size w0 (plus (wr.setCell ⟨g, n, none⟩ (.int .i64 ((d : Int) + 1))) os1 n1) from ((HB.out.setCell (p := ⟨g, n, none⟩) HGG.out (.int .i64 ((d : Int) + 1))).trans (Below.mono (bl_plus (Below.refl _ _)) (by simp [World.setCell]; exact HB.out.size))))
          clear HB1 HBK1
          go_wp2_with (go_at_call 66; (refine (HREC.out _ (HBKS.out.below (by repeat (first | with_reducible exact Below.refl _ _ | with_reducible refine bl_plus ?_ | with_reducible refine bl_alloc ?_ _ | with_reducible refine bl_drew ?_ | with_reducible refine bl_drewN ?_ _)) HBKS.out.lt) (below_chainT HBS.out (by repeat (first | with_reducible exact Below.refl _ _ | with_reducible refine bl_plus ?_ | with_reducible refine bl_alloc ?_ _ | with_reducible refine bl_drew ?_ | with_reducible refine bl_drewN ?_ _)))).mono ?_); rintro e w9 ⟨rfl, ds2, h1, h2, h3, h4, h5⟩; have HM2 := hide h1; have HK2 := hide h2; have HZ2 := hide h3; have HBK2 := hide h4; have HB2 := hide h5; clear h1 h2 h3 h4 h5)
          go_roundw
          case rel => exact ⟨j + 1, ds2, hlt, by go_num, hide (HMO.out.trans (HM2.out.step HMO.out.ok HLT.out (by rw [HMG.out]; exact HV.out) HK2.out)), hide (HTK.out ds2 (fun k9 hk9 => mkId_keep (HM2.out.step HMO.out.ok HLT.out (by rw [HMG.out]; exact HV.out) HK2.out).keep (HKM.out k9 hk9)) ⟨n, HIX.out, by rw [HM2.out.keep n (by rw [mkd_set _ HLT.out, if_pos rfl]; omega), mkd_set _ HLT.out, if_pos rfl]; omega⟩), hide (by have := HZ2.out; have := HZS.out; have := HZ.out; omega), HBK2, HB2⟩
          case measure => simp [intOf]; omega
        · have HV := hide hv
          have e0 : (dt[n] == 0) = false := beq_eq_false_iff_ne.2 hv
          clear hv
          go_wp2_with (go_at_call 65; (refine (HAT.out _ (by repeat (first | with_reducible exact Below.refl _ _ | with_reducible refine bl_plus ?_ | with_reducible refine bl_alloc ?_ _ | with_reducible refine bl_drew ?_ | with_reducible refine bl_drewN ?_ _))).mono ?_); rintro e w' ⟨rfl, hbl⟩; have HB1 := hide (below_chainT HB.out (below_chainT (w := wr) (by repeat (first | with_reducible exact Below.refl _ _ | with_reducible refine bl_plus ?_ | with_reducible refine bl_alloc ?_ _ | with_reducible refine bl_drew ?_ | with_reducible refine bl_drewN ?_ _)) hbl)); have HBK1 := hide (HBK.out.below (below_chainT (w := wr) (by repeat (first | with_reducible exact Below.refl _ _ | with_reducible refine bl_plus ?_ | with_reducible refine bl_alloc ?_ _ | with_reducible refine bl_drew ?_ | with_reducible refine bl_drewN ?_ _)) hbl) HBK.out.lt); obtain ⟨os1, n1, rfl⟩ := below_plus hbl; clear hbl)
          go_roundw
          case rel => exact ⟨j + 1, dt, hlt, by go_num, HMO, hide (HTK.out dt HKM.out ⟨n, HIX.out, by rw [HMG.out]; exact HV.out⟩), HZ, HBK1, HB1⟩
          case measure => simp [intOf]; omega
      · obtain rfl : j = xk.length := by omega
        have HR := hide (HKE.out dt (by have := HKM.out; rwa [List.take_length] at this))
        go_wp2
        go_end0
        exact HPO.out dt _ HMO.out HR.out HZ.out HBK.out HB.out

end Go.Proofs.YtioppoaijehicaaGreatDoor
