/-
  WALK: is a base right?
-/
import Derived.Test.YtioppoaijehicaaGreatDoorTbf
set_option linter.all false
namespace Go.Proofs.YtioppoaijehicaaGreatDoor
open Go.RowKit Go.Maps Go.WideMaps

theorem baseErr_none {l : List BK} (h : l.length = 0) : baseErr l = 1 := if_pos h

theorem baseErr_many {l : List BK} (h : ¬ l.length = 0) (h2 : 2000 < l.length) : baseErr l = 4 := by
  unfold baseErr
  rw [if_neg h, if_pos h2]

theorem baseErr_blk {l : List BK} (h : ¬ l.length = 0) (h2 : ¬ 2000 < l.length) {q : Nat} (hq : q < l.length) (hz : ∀ j, j < q → blkErr l j = 0) {e : Int} (he : e ≠ 0) (hb : blkErr l q = e) : baseErr l = e := by
  have h1 := firstErr_first (f := blkErr l) hz (by rw [hb]; exact he) hq
  unfold baseErr
  rw [if_neg h, if_neg h2, if_pos (by rw [h1, hb]; exact he), h1, hb]

theorem baseErr_kids {l : List BK} (h : ¬ l.length = 0) (h2 : ¬ 2000 < l.length) (hz : ∀ j, j < l.length → blkErr l j = 0) {e : Int} (he : e ≠ 0) (hb : kidsErr l = e) : baseErr l = e := by
  have h1 := firstErr_none (f := blkErr l) hz
  unfold baseErr
  rw [if_neg h, if_neg h2, if_neg (by rw [h1]; decide), if_pos (by rw [hb]; exact he), hb]

theorem baseErr_dep {l : List BK} (h : ¬ l.length = 0) (h2 : ¬ 2000 < l.length) (hz : ∀ j, j < l.length → blkErr l j = 0) (hk : kidsErr l = 0) : baseErr l = firstErr (depErr l) l.length := by
  have h1 := firstErr_none (f := blkErr l) hz
  unfold baseErr
  rw [if_neg h, if_neg h2, if_neg (by rw [h1]; decide), if_neg (by rw [hk]; decide)]

theorem kids_500 {l : List BK} (hz : ∀ j, j < l.length → blkErr l j = 0) : ∀ b ∈ l, b.kids.length ≤ 500 := by
  intro b hb
  obtain ⟨j, hj, rfl⟩ := List.getElem_of_mem hb
  have h1 := hz j hj
  rw [blkErr_at hj] at h1
  unfold blkErrs at h1
  split at h1
  · omega
  · split at h1
    · omega
    · split at h1
      · omega
      · split at h1
        · rename_i h2
          exact absurd h1 h2
        · split at h1
          · omega
          · omega

set_option maxHeartbeats 3200000 in
set_option maxRecDepth 100000 in
theorem check_any (l : List BK) (A : Option Addr) (c : Nat) (w : World) (hA : BsAt w A l) (hk : ∀ b ∈ l, ∀ k ∈ b.kids, In64 k) :
    Calls Tryz.prog 23 #[.slice A l.length c] w fun e w' => e = .returned (.int .i64 (baseErr l)) ∧ Below w.heap.size w w' := by
  have hm := hA.1
  unfold maxLen at hm
  have HA := hide hA
  have HK := hide hk
  clear hA hk
  by_cases hz : l.length = 0
  · have HR := hide (baseErr_none hz)
    generalize l.length = N at *
    subst hz
    go_enter Tryz.func23, Tryz.ntmps23
    go_wp2
    (try simp only [Exit.inBlock, Exit.then])
    go_ret
    rw [HR.out]
    exact ⟨rfl, (by repeat (first | with_reducible exact Below.refl _ _ | with_reducible refine bl_plus ?_ | with_reducible refine bl_alloc ?_ _ | with_reducible refine bl_drew ?_ | with_reducible refine bl_drewN ?_ _))⟩
  · have HZ := hide hz
    have e0 : (((l.length : Nat) : Int) == 0) = false := beq_eq_false_iff_ne.2 (by omega)
    by_cases h2 : 2000 < l.length
    · have HR := hide (baseErr_many hz h2)
      have i2 : (2000 : Int) < (l.length : Int) := by omega
      clear hz h2
      go_enter Tryz.func23, Tryz.ntmps23
      go_wp2
      (try simp only [Exit.inBlock, Exit.then])
      go_ret
      rw [HR.out]
      exact ⟨rfl, (by repeat (first | with_reducible exact Below.refl _ _ | with_reducible refine bl_plus ?_ | with_reducible refine bl_alloc ?_ _ | with_reducible refine bl_drew ?_ | with_reducible refine bl_drewN ?_ _))⟩
    · have HM := hide h2
      have i2 : ¬ (2000 : Int) < (l.length : Int) := by omega
      clear hz h2
      go_enter Tryz.func23, Tryz.ntmps23
      go_wp2
      go_loopw [21] (fun i wr => ∃ (q : Nat), q ≤ l.length ∧ i = .int .i64 q ∧ Hid (∀ j, j < q → blkErr l j = 0) ∧ Hid (Below w.heap.size w wr)) (fun i _ => l.length - (intOf i).toNat)
      case atStart => exact ⟨0, Nat.zero_le _, rfl, hide (fun j hj => absurd hj (by omega)), hide (by repeat (first | with_reducible exact Below.refl _ _ | with_reducible refine bl_plus ?_ | with_reducible refine bl_alloc ?_ _ | with_reducible refine bl_drew ?_ | with_reducible refine bl_drewN ?_ _))⟩
      case round =>
        obtain ⟨q, hq, rfl, HQ, HB⟩ := hrel
        by_cases hlt : q < l.length
        · have i1 : (q : Int) < (l.length : Int) := by omega
          have HCB := hide (fun W (hb : Below wr.heap.size wr W) => checkBlock_any l A c q hlt W (HA.out.below (below_chainT HB.out hb)) (Nat.le_of_not_lt HM.out))
          have HRE := hide (fun (e : Int) (he : e ≠ 0) (h : blkErr l q = e) => baseErr_blk HZ.out HM.out hlt HQ.out he h)
          generalize hE : blkErr l q = E at *
          by_cases he : E = 0
          · subst he
            have HR := hide hE
            clear HRE hE
            go_wp2_with (go_at_call 57; (refine (HCB.out _ (by repeat (first | with_reducible exact Below.refl _ _ | with_reducible refine bl_plus ?_ | with_reducible refine bl_alloc ?_ _ | with_reducible refine bl_drew ?_ | with_reducible refine bl_drewN ?_ _))).mono ?_); rintro e w' ⟨rfl, hbl⟩; obtain ⟨os1, n1, rfl⟩ := below_plus hbl; clear hbl)
            go_roundw
            case rel => exact ⟨q + 1, hlt, by go_num, hide (fun j hj => by
              by_cases e : j = q
              · subst e; exact HR.out
              · exact HQ.out j (by omega)), hide (below_chainT HB.out (by repeat (first | with_reducible exact Below.refl _ _ | with_reducible refine bl_plus ?_ | with_reducible refine bl_alloc ?_ _ | with_reducible refine bl_drew ?_ | with_reducible refine bl_drewN ?_ _)))⟩
            case measure => simp [intOf]; omega
          · have HR := hide (HRE.out E he rfl)
            have e5 : (E != 0) = true := bne_iff_ne.2 he
            clear HRE hE he
            go_wp2_with (go_at_call 57; (refine (HCB.out _ (by repeat (first | with_reducible exact Below.refl _ _ | with_reducible refine bl_plus ?_ | with_reducible refine bl_alloc ?_ _ | with_reducible refine bl_drew ?_ | with_reducible refine bl_drewN ?_ _))).mono ?_); rintro e w' ⟨rfl, hbl⟩; obtain ⟨os1, n1, rfl⟩ := below_plus hbl; clear hbl)
            (try simp only [Exit.inBlock, Exit.then])
            go_ret
            rw [HR.out]
            exact ⟨rfl, below_chainT HB.out (by repeat (first | with_reducible exact Below.refl _ _ | with_reducible refine bl_plus ?_ | with_reducible refine bl_alloc ?_ _ | with_reducible refine bl_drew ?_ | with_reducible refine bl_drewN ?_ _))⟩
        · obtain rfl : q = l.length := by omega
          have HI := hide (ids_of (firstErr_none (f := blkErr l) HQ.out))
          have H5 := hide (kids_500 HQ.out)
          have HCK := hide (fun W (hb : Below wr.heap.size wr W) => checkKids_any l A c W (HA.out.below (below_chainT HB.out hb)) HI.out (Nat.le_of_not_lt HM.out) H5.out HK.out)
          by_cases he : kidsErr l = 0
          · have HG := hide (good_of (firstErr_none (f := blkErr l) HQ.out) he)
            have HDEP := hide (baseErr_dep HZ.out HM.out HQ.out he)
            have HDP := hide (fun W (hb : Below wr.heap.size wr W) => depths_any l A c W (HA.out.below (below_chainT HB.out hb)) HG.out (Nat.le_of_not_lt HM.out) (Nat.pos_of_ne_zero HZ.out) H5.out)
            unfold DepOut at HDP
            rw [he] at HCK
            clear he
            go_wp2_with (first | (go_at_call 58; (refine (HCK.out _ (by repeat (first | with_reducible exact Below.refl _ _ | with_reducible refine bl_plus ?_ | with_reducible refine bl_alloc ?_ _ | with_reducible refine bl_drew ?_ | with_reducible refine bl_drewN ?_ _))).mono ?_); rintro e w' ⟨rfl, hbl⟩; obtain ⟨os1, n1, rfl⟩ := below_plus hbl; clear hbl) | (go_at_call 59; (refine (HDP.out _ (by repeat (first | with_reducible exact Below.refl _ _ | with_reducible refine bl_plus ?_ | with_reducible refine bl_alloc ?_ _ | with_reducible refine bl_drew ?_ | with_reducible refine bl_drewN ?_ _))).mono ?_); rintro e W2 ⟨g, n, D, ff, rfl, hnf, hbf, hle, hbl⟩; have HNF := hide hnf; have HBF := hide hbf; have HLE := hide hle; have HB2 := hide (below_chainT (w := w) (below_chainT HB.out (by repeat (first | with_reducible exact Below.refl _ _ | with_reducible refine bl_plus ?_ | with_reducible refine bl_alloc ?_ _ | with_reducible refine bl_drew ?_ | with_reducible refine bl_drewN ?_ _))) hbl); clear hnf hbf hle hbl))
            go_loopw [40] (fun i wr => ∃ (q : Nat), q ≤ l.length ∧ i = .int .i64 q ∧ Hid (∀ j, j < q → depErr l j = 0) ∧ Hid (Below W2.heap.size W2 wr)) (fun i _ => l.length - (intOf i).toNat)
            case atStart => exact ⟨0, Nat.zero_le _, rfl, hide (fun j hj => absurd hj (by omega)), hide (by repeat (first | with_reducible exact Below.refl _ _ | with_reducible refine bl_plus ?_ | with_reducible refine bl_alloc ?_ _ | with_reducible refine bl_drew ?_ | with_reducible refine bl_drewN ?_ _))⟩
            case round =>
              obtain ⟨q, hq, rfl, HQ, HBB⟩ := hrel
              have HB3 := hide (below_chainT HB2.out HBB.out)
              by_cases hlt : q < l.length
              · obtain ⟨b, o, A1, c1, A2, c2, rfl, hb, y0, y1, y2, y3, y4, -, -⟩ := HA.out.getB HB3.out hlt
                have i1 : (q : Int) < (l.length : Int) := by omega
                have h64 : In64 l[q].id := by have := HG.out.ids.bound hlt; unfold In64; omega
                have HLK := hide (fun W (hb : Below wr.heap.size wr W) => ((HNF.out.below HBB.out).below hb).lookOk h64)
                have HDE := hide (show depErr l q = match ff l[q].id with | none => 12 | some d => if 40 < d then 13 else 0 by unfold depErr; rw [idAt_get hlt]; exact HBF.out.end_ HG.out _)
                have HRE := hide (fun (e : Int) (he : e ≠ 0) (h : depErr l q = e) => (show baseErr l = e by rw [HDEP.out, firstErr_first HQ.out (by rw [h]; exact he) hlt, h]))
                have HLD := hide (fun d => HLE.out l[q].id d)
                clear h64
                generalize l[q] = x at *
                obtain ⟨xi, xp, xk, xt, xs⟩ := x
                (try simp only at *)
                have hlk := HLK.out (wr.alloc (.cells #[.int .i64 xi, .int .i64 xp, .slice A1 xk.length c1, .string xt, .slice A2 xs.length c2] 82)) (by repeat (first | with_reducible exact Below.refl _ _ | with_reducible refine bl_plus ?_ | with_reducible refine bl_alloc ?_ _ | with_reducible refine bl_drew ?_ | with_reducible refine bl_drewN ?_ _))
                cases hf : ff xi with
                | none =>
                  have HR := hide (HRE.out 12 (by decide) (by rw [HDE.out, hf]))
                  rw [hf] at hlk
                  simp only [Option.isSome_none, Option.getD_none] at hlk
                  clear hf HRE HDE HLD
                  go_wp2
                  (try simp only [Exit.inBlock, Exit.then])
                  go_ret
                  rw [HR.out]
                  exact ⟨rfl, below_chainT HB3.out (by repeat (first | with_reducible exact Below.refl _ _ | with_reducible refine bl_plus ?_ | with_reducible refine bl_alloc ?_ _ | with_reducible refine bl_drew ?_ | with_reducible refine bl_drewN ?_ _))⟩
                | some d =>
                  rw [hf] at hlk
                  simp only [Option.isSome_some, Option.getD_some] at hlk
                  by_cases h40 : 40 < d
                  · have HR := hide (HRE.out 13 (by decide) (by rw [HDE.out, hf]; simp only; rw [if_pos h40]))
                    have i4 : (40 : Int) < (d : Int) := by omega
                    clear hf HRE HDE HLD h40
                    go_wp2
                    (try simp only [Exit.inBlock, Exit.then])
                    go_ret
                    rw [HR.out]
                    exact ⟨rfl, below_chainT HB3.out (by repeat (first | with_reducible exact Below.refl _ _ | with_reducible refine bl_plus ?_ | with_reducible refine bl_alloc ?_ _ | with_reducible refine bl_drew ?_ | with_reducible refine bl_drewN ?_ _))⟩
                  · have HR := hide (show depErr l q = 0 by rw [HDE.out, hf]; simp only; rw [if_neg h40])
                    have i4 : ¬ (40 : Int) < (d : Int) := by omega
                    clear hf HRE HDE HLD h40
                    go_wp2
                    go_roundw
                    case rel => exact ⟨q + 1, hlt, by go_num, hide (fun j hj => by
                      by_cases e : j = q
                      · subst e; exact HR.out
                      · exact HQ.out j (by omega)), hide (below_chainT HBB.out (by repeat (first | with_reducible exact Below.refl _ _ | with_reducible refine bl_plus ?_ | with_reducible refine bl_alloc ?_ _ | with_reducible refine bl_drew ?_ | with_reducible refine bl_drewN ?_ _)))⟩
                    case measure => simp [intOf]; omega
              · obtain rfl : q = l.length := by omega
                have HR := hide (show baseErr l = 0 by rw [HDEP.out]; exact firstErr_none HQ.out)
                go_wp2
                go_ret
                rw [HR.out]
                exact ⟨rfl, HB3.out⟩
          · have HR := hide (baseErr_kids HZ.out HM.out HQ.out he rfl)
            have e5 : (kidsErr l != 0) = true := bne_iff_ne.2 he
            clear he
            generalize kidsErr l = E at *
            go_wp2_with (go_at_call 58; (refine (HCK.out _ (by repeat (first | with_reducible exact Below.refl _ _ | with_reducible refine bl_plus ?_ | with_reducible refine bl_alloc ?_ _ | with_reducible refine bl_drew ?_ | with_reducible refine bl_drewN ?_ _))).mono ?_); rintro e w' ⟨rfl, hbl⟩; obtain ⟨os1, n1, rfl⟩ := below_plus hbl; clear hbl)
            (try simp only [Exit.inBlock, Exit.then])
            go_ret
            rw [HR.out]
            exact ⟨rfl, below_chainT HB.out (by repeat (first | with_reducible exact Below.refl _ _ | with_reducible refine bl_plus ?_ | with_reducible refine bl_alloc ?_ _ | with_reducible refine bl_drew ?_ | with_reducible refine bl_drewN ?_ _))⟩

end Go.Proofs.YtioppoaijehicaaGreatDoor
