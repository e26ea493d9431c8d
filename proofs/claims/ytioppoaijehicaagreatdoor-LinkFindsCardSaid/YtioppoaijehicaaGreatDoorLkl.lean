/-
  WALKS: the names of a page, the reference's way.
-/
import Derived.Test.YtioppoaijehicaaGreatDoorLki
import Derived.Test.YtioppoaijehicaaGreatDoorFta
import Derived.Test.YtioppoaijehicaaGreatDoorOwnC
import Derived.Lib.SliceRun
import Derived.Lib.BufferOwn
import Derived.Laws.IdiomCopy
import Derived.Deep.DeepCutAuto
import Derived.Test.YtioppoaijehicaaGreatDoorTbi
set_option linter.all false
namespace Go.Proofs.YtioppoaijehicaaGreatDoor
open Go.RowKit Go.Lib Go.Maps Go.WideElems Go.WideMaps Go.Shelf


end Go.Proofs.YtioppoaijehicaaGreatDoor
/-
  WALKS: slices.IndexFunc at string, any function.
-/
namespace Go.Proofs.YtioppoaijehicaaGreatDoor
open Go.RowKit Go.Lib

/-- What IndexFunc says: the first place at which the function says yes, or -1. -/
def FstP (d : (ByteArray) → Bool) (l : List (ByteArray)) (r : Int) : Prop := (∃ k : Nat, ∃ h : k < l.length, r = k ∧ d l[k] = true ∧ ∀ j (hj : j < l.length), j < k → d l[j] = false) ∨ (r = -1 ∧ ∀ j (hj : j < l.length), d l[j] = false)

def FstOutP (d : (ByteArray) → Bool) (l : List (ByteArray)) (w : World) (e : Ending) (w' : World) : Prop := ∃ r : Int, e = .returned (.int .i64 r) ∧ FstP d l r ∧ Below w.heap.size w w'

/-- The elements of a slice. -/
def RdP (w : World) (A : Option Addr) (l : List (ByteArray)) : Prop := 0 < l.length → ∃ b o, A = some ⟨b, o, none⟩ ∧ b < w.heap.size ∧ ∀ j (h : j < l.length), w.cell? ⟨b, o + j, none⟩ = some (Value.string l[j])

set_option maxHeartbeats 3200000 in
set_option maxRecDepth 100000 in
theorem indexP_any (fid : FuncId) (gq : Nat) (d : (ByteArray) → Bool) (A : Option Addr) (c : Nat) (l : List (ByteArray)) (w : World) (hA : RdP w A l) (hm : l.length ≤ 2000000) (ent : ∀ args w, (callFunc fid args).run Tryz.prog w = .ok (.enter fid args) w)
    (hF : ∀ x ∈ l, ∀ W, Below w.heap.size w W → Calls Tryz.prog fid #[Value.string x, .pointer (some ⟨gq, 0, none⟩)] W fun e w' => e = .returned (.bool (d x)) ∧ Below W.heap.size W w') :
    Calls Tryz.prog 151 #[.slice A l.length c, .func (.func fid) #[] #[.pointer (some ⟨gq, 0, none⟩)]] w (FstOutP d l w) := by
  have HPO := hide (show ∀ (r : Int) w', FstP d l r → Below w.heap.size w w' → FstOutP d l w (.returned (.int .i64 r)) w' from fun r w' h1 h2 => ⟨r, rfl, h1, h2⟩)
  generalize FstOutP d l w = PO at *
  have HA := hide hA
  have HF := hide hF
  clear hA hF
  go_enter Tryz.func151, Tryz.ntmps151
  go_wp2
  go_loopw [8] (fun i wr => ∃ (k : Nat) (os : Array Obj) (n : Nat), k ≤ l.length ∧ i = .int .i64 k ∧ wr = plus w os n ∧ Hid (∀ j (h : j < l.length), j < k → d l[j] = false)) (fun i _ => l.length - (RowKit.intOf i).toNat)
  case atStart => exact ⟨0, #[], _, Nat.zero_le _, rfl, plus_nil.symm, hide (fun j h hj => by omega)⟩
  case round =>
    obtain ⟨k, os, n, hk, rfl, rfl, HN⟩ := hrel
    by_cases hlt : k < l.length
    · obtain ⟨b, o, rfl, hb, hv⟩ := HA.out (by omega)
      have c0 := hv k hlt
      have HC := hide (fun W hbw => HF.out l[k] (List.getElem_mem hlt) W hbw)
      have HY := hide (fun (h : d l[k] = true) => (show FstP d l k from .inl ⟨k, hlt, rfl, h, HN.out⟩))
      have HNX := hide (fun (h : d l[k] = false) j (hj : j < l.length) (hjk : j < k + 1) => (by
        rcases Nat.lt_or_ge j k with g | g
        · exact HN.out j hj g
        · obtain rfl : j = k := by omega
          exact h : d l[j] = false))
      have i1 : (k : Int) < (l.length : Int) := by omega
      clear hv HF HA HN
      generalize l[k] = x at *
      generalize d x = B at *
      cases B with
      | true =>
        have HR := hide (HY.out rfl)
        clear HNX HY
        go_wp2
        refine (HC.out _ ?hbw).mono ?_
        case hbw => exact (by repeat (first | with_reducible exact Below.refl _ _ | with_reducible refine bl_plus ?_ | with_reducible refine bl_alloc ?_ _ | with_reducible refine bl_drew ?_ | with_reducible refine bl_drewN ?_ _))
        rintro e w' ⟨rfl, hbl⟩
        obtain ⟨os1, n1, rfl⟩ := below_plus hbl
        clear hbl
        go_wp2
        exact HPO.out _ _ HR.out (by repeat (first | with_reducible exact Below.refl _ _ | with_reducible refine bl_plus ?_ | with_reducible refine bl_alloc ?_ _ | with_reducible refine bl_drew ?_ | with_reducible refine bl_drewN ?_ _))
      | false =>
        have HR := hide (HNX.out rfl)
        clear HNX HY
        go_wp2
        refine (HC.out _ ?hbw).mono ?_
        case hbw => exact (by repeat (first | with_reducible exact Below.refl _ _ | with_reducible refine bl_plus ?_ | with_reducible refine bl_alloc ?_ _ | with_reducible refine bl_drew ?_ | with_reducible refine bl_drewN ?_ _))
        rintro e w' ⟨rfl, hbl⟩
        obtain ⟨os1, n1, rfl⟩ := below_plus hbl
        clear hbl
        go_wp2
        go_roundw
        case rel => exact ⟨k + 1, _, _, hlt, by go_num, by first | rfl | (simp only [plus_alloc, plus_plus, plus_drew]; rfl), HR⟩
        case measure => simp [RowKit.intOf]; omega
    · obtain rfl : k = l.length := by omega
      have HR := hide (show FstP d l (-1) from .inr ⟨rfl, fun j hj => HN.out j hj hj⟩)
      clear HF HA HN
      go_wp2
      exact HPO.out _ _ HR.out (by repeat (first | with_reducible exact Below.refl _ _ | with_reducible refine bl_plus ?_ | with_reducible refine bl_alloc ?_ _ | with_reducible refine bl_drew ?_ | with_reducible refine bl_drewN ?_ _))

end Go.Proofs.YtioppoaijehicaaGreatDoor
/-
  WALKS: to which page a title leads, the reference's way; PageFor; NamesFor.
-/
namespace Go.Proofs.YtioppoaijehicaaGreatDoor
open Go.RowKit Go.Lib Go.Maps Go.WideElems Go.WideMaps Go.Shelf

theorem find_at {q : Int → Bool} {S : List Int} {j : Nat} (hj : j < S.length) (hn : (S.take j).find? q = none) (h : q S[j] = true) : S.find? q = some S[j] := by
  have e : S.take j ++ S[j] :: S.drop (j + 1) = S := by rw [← List.drop_eq_getElem_cons hj, List.take_append_drop]
  have h2 := congrArg (fun l : List Int => l.find? q) e
  simp only [List.find?_append, hn, Option.none_or] at h2
  rw [← h2, List.find?_cons_of_pos h]

theorem find_no {q : Int → Bool} {S : List Int} {j : Nat} (hj : j < S.length) (hn : (S.take j).find? q = none) (h : q S[j] = false) : (S.take (j + 1)).find? q = none := by
  rw [List.take_succ_eq_append_getElem hj, List.find?_append, hn, Option.none_or, List.find?_cons_of_neg (by rw [h]; decide)]
  rfl

set_option maxHeartbeats 1600000 in
set_option maxRecDepth 100000 in
theorem pageFn_any (a z : ByteArray) (g : Nat) (w : World) (hm : MaxTold w) (hs : a.size ≤ 1100000) (hg : w.cell? ⟨g, 0, none⟩ = some (.string z)) (hl : g < w.heap.size) :
    Calls Tryz.prog 115 #[.string a, .pointer (some ⟨g, 0, none⟩)] w fun e w' => e = .returned (.bool ((foldT a).toList == z.toList)) ∧ Below w.heap.size w w' := by
  have HF := hide (fun W (hb : Below w.heap.size w W) => foldOfTitle_any a W (maxTold_below hm hb) hs)
  generalize foldT a = y at *
  go_enter Tryz.func115, Tryz.ntmps115
  go_upto_region 1 with (fail)
  go_region_with (go_at_call 111; refine (HF.out _ ?hb).mono ?_; (case hb => exact (by repeat (first | with_reducible exact Below.refl _ _ | with_reducible refine bl_plus ?_ | with_reducible refine bl_alloc ?_ _ | with_reducible refine bl_drew ?_ | with_reducible refine bl_drewN ?_ _))); rintro e w' ⟨rfl, hbl⟩; obtain ⟨os1, n1, rfl⟩ := below_plus hbl; clear hbl)
  all_goals
    go_wp2
    go_ret
    exact ⟨rfl, (by repeat (first | with_reducible exact Below.refl _ _ | with_reducible refine bl_plus ?_ | with_reducible refine bl_alloc ?_ _ | with_reducible refine bl_drew ?_ | with_reducible refine bl_drewN ?_ _))⟩

/-! ### ContainsFunc -/
def CfOut (d : ByteArray → Bool) (l : List ByteArray) (w : World) (e : Ending) (w' : World) : Prop := e = .returned (.bool (l.any d)) ∧ Below w.heap.size w w'

theorem fst_any {d : ByteArray → Bool} {l : List ByteArray} {r : Int} (h : FstP d l r) : decide (0 ≤ r) = l.any d := by
  rcases h with ⟨k, hk, rfl, hd, -⟩ | ⟨rfl, hall⟩
  · rw [decide_eq_true (by omega), eq_comm, List.any_eq_true]
    exact ⟨_, List.getElem_mem hk, hd⟩
  · rw [decide_eq_false (by omega), eq_comm, List.any_eq_false]
    intro x hx
    obtain ⟨j, hj, rfl⟩ := List.getElem_of_mem hx
    rw [hall j hj]
    decide

set_option maxHeartbeats 1600000 in
theorem containsFn_any (fid : FuncId) (gq : Nat) (d : ByteArray → Bool) (A : Option Addr) (c : Nat) (l : List ByteArray) (w : World) (hA : SAt w A l) (hm : l.length ≤ 2000000) (ent : ∀ args w, (callFunc fid args).run Tryz.prog w = .ok (.enter fid args) w)
    (hF : ∀ x ∈ l, ∀ W, Below w.heap.size w W → Calls Tryz.prog fid #[.string x, .pointer (some ⟨gq, 0, none⟩)] W fun e w' => e = .returned (.bool (d x)) ∧ Below W.heap.size W w') :
    Calls Tryz.prog 113 #[.slice A l.length c, .func (.func fid) #[] #[.pointer (some ⟨gq, 0, none⟩)]] w (CfOut d l w) := by
  have HI := hide (indexP_any fid gq d A c l w hA.2 hm ent hF)
  unfold FstOutP at HI
  have HPO : Hid (∀ (r : Int) w', FstP d l r → Below w.heap.size w w' → CfOut d l w (.returned (.bool (decide (0 ≤ r)))) w') := hide fun r w' h1 h2 => ⟨by rw [fst_any h1], h2⟩
  generalize CfOut d l w = PO at *
  clear hA hF ent
  go_enter Tryz.func113, Tryz.ntmps113
  go_wp2_with (go_at_call 151; refine HI.out.mono ?_; rintro e w' ⟨r, rfl, hr, hbl⟩; have HR := hide (HPO.out r w' hr hbl); clear hr hbl)
  exact HR.out

/-! ### page -/
theorem Right.sorted_at {l : List BK} (R : Right l) {p : Int} (h : p ∈ sortZ (pgs l)) : ∃ m, ∃ hm : m < l.length, l[m].id = p ∧ txtL l p = l[m].txt.data.toList ∧ alOf l p = alsA l[m].ps := by
  obtain ⟨m, hm, -, hid, -⟩ := R.pgs_mem (sortZ_mem.1 h)
  have hbk := bkOf_at R.good.ids hm
  rw [hid] at hbk
  exact ⟨m, hm, hid, by unfold txtL; rw [hbk], by unfold alOf; rw [hbk]⟩

theorem fold_beq (a : ByteArray) (f : List UInt8) : ((foldT a).toList == f) = (foldL a.data.toList == f) := by rw [toList_data, foldT_list]

set_option maxHeartbeats 6400000 in
set_option maxRecDepth 100000 in
theorem bookPage_any (l : List BK) (A : Option Addr) (c : Nat) (w0 W : World) (h : BK0 l A c w0 W) (s : ByteArray) (hs : s.size ≤ 1100000) :
    Calls Tryz.prog 78 #[.agg #[.slice A l.length c], .string s] W fun e w' => e = .returned (.int .i64 (leadL l (foldL s.data.toList))) ∧ Below W.heap.size W w' := by
  have hmt : ∀ W', Below W.heap.size W W' → MaxTold W' := fun W' hb => maxTold_below (maxTold_below h.told h.bel) hb
  have HMT := hide hmt
  have HF := hide (fun W' (hb : Below W.heap.size W W') => foldOfTitle_any s W' (hmt W' hb) hs)
  have HSO := hide (fun W' (hb : Below W.heap.size W W') => bookSorted_any l A c w0 W' (h.below hb))
  unfold SdzOut at HSO
  have HBB := hide (fun W' (hb : Below W.heap.size W W') (m : Nat) (hm : m < l.length) => bookBlock_any l A c w0 W' (h.below hb) hm)
  unfold BbOut at HBB
  have HALS := hide (fun W' (hb : Below W.heap.size W W') (m : Nat) (hm : m < l.length) => bookAliases_any l A c w0 W' (h.below hb) hm)
  unfold AlOut at HALS
  have HB0 := hide h
  have hl5 := h.right.pgs_len
  have HPO : Hid (∀ (r : Int) w', r = leadL l (foldL s.data.toList) → Below W.heap.size W w' → (fun (e : Ending) (w' : World) => e = .returned (.int .i64 (leadL l (foldL s.data.toList))) ∧ Below W.heap.size W w') (.returned (.int .i64 r)) w') := hide fun r w' h1 h2 => by subst h1; exact ⟨rfl, h2⟩
  generalize (fun (e : Ending) (w' : World) => e = .returned (.int .i64 (leadL l (foldL s.data.toList))) ∧ Below W.heap.size W w') = PO at *
  have hzl := toList_data (foldT s)
  rw [foldT_list] at hzl
  have HZL := hide hzl
  have HLD := hide (show leadL l (foldL s.data.toList) = match (sortZ (pgs l)).find? (isTtl l (foldL s.data.toList)) with | some p => p | none => ((sortZ (pgs l)).find? (isAls l (foldL s.data.toList))).getD 0 from rfl)
  clear hzl hmt h
  generalize foldT s = z at *
  generalize foldL s.data.toList = f at *
  obtain ⟨S, hS⟩ : ∃ S, S = sortZ (pgs l) := ⟨_, rfl⟩
  have hSl : (pgs l).length = S.length := by rw [hS, sortZ_len]
  rw [← hS] at HSO HLD
  rw [hSl] at HSO hl5
  have HSM := hide (fun p (hp : p ∈ S) => HB0.out.right.sorted_at (by rw [← hS]; exact hp))
  clear hS hSl
  go_enter Tryz.func78, Tryz.ntmps78
  go_upto_block 1 with (first
    | (go_at_call 111; refine (HF.out _ ?hb).mono ?_; (case hb => exact (by repeat (first | with_reducible exact Below.refl _ _ | with_reducible refine bl_plus ?_ | with_reducible refine bl_alloc ?_ _ | with_reducible refine bl_drew ?_ | with_reducible refine bl_drewN ?_ _))); rintro e w' ⟨rfl, hbl⟩; obtain ⟨os1, n1, rfl⟩ := below_plus hbl; clear hbl)
    | (go_at_call 112; refine (HSO.out _ ?hb).mono ?_; (case hb => exact (by repeat (first | with_reducible exact Below.refl _ _ | with_reducible refine bl_plus ?_ | with_reducible refine bl_alloc ?_ _ | with_reducible refine bl_drew ?_ | with_reducible refine bl_drewN ?_ _))); rintro e w3 ⟨A5, c5, rfl, hrow, hbl⟩; have HRW := hide (ownsRow_ints hrow (by first | rfl | simp)); have HB3 := hide hbl; clear hrow hbl))
  have HBX := hide (show Below W.heap.size W ((plus (W.alloc (.cells #[.slice A l.length c] 71)) os1 n1).alloc (.cells #[.string z] 9)) from (by repeat (first | with_reducible exact Below.refl _ _ | with_reducible refine bl_plus ?_ | with_reducible refine bl_alloc ?_ _ | with_reducible refine bl_drew ?_ | with_reducible refine bl_drewN ?_ _)))
  have HX2 := hide (show Blk ((plus (W.alloc (.cells #[.slice A l.length c] 71)) os1 n1).alloc (.cells #[.string z] 9)) W.heap.size 71 #[.slice A l.length c] from ((Blk.new W _ _).plus).alloc _)
  have HX5 := hide (show Blk ((plus (W.alloc (.cells #[.slice A l.length c] 71)) os1 n1).alloc (.cells #[.string z] 9)) (W.heap.size + 1 + os1.size) 9 #[.string z] from by
    have := Blk.new (plus (W.alloc (.cells #[.slice A l.length c] 71)) os1 n1) 9 #[.string z]
    rwa [show (plus (W.alloc (.cells #[.slice A l.length c] 71)) os1 n1).heap.size = W.heap.size + 1 + os1.size by simp only [plus_size, World.size_alloc]] at this)
  generalize (plus (W.alloc (.cells #[.slice A l.length c] 71)) os1 n1).alloc (.cells #[.string z] 9) = Wx at *
  generalize W.heap.size + 1 + os1.size = g5 at *
  obtain ⟨g2, hg2⟩ : ∃ g2, g2 = W.heap.size := ⟨_, rfl⟩
  rw [← hg2] at HX2 ⊢
  have HG2 := hide hg2
  clear hg2
  have HBW3 := hide (below_chainT HBX.out HB3.out)
  have H2 := hide (HX2.out.below HB3.out HX2.out.lt)
  have H5 := hide (HX5.out.below HB3.out HX5.out.lt)
  have HSI := hide HRW.out.1
  clear HRW HX2 HX5 HBX HB3
  have HQ := hide (fun W' (hb : Below w3.heap.size w3 W') => (⟨(H2.out.below hb H2.out.lt).cell 0, (H5.out.below hb H5.out.lt).cell 0, Nat.lt_of_lt_of_le H2.out.lt hb.size, Nat.lt_of_lt_of_le H5.out.lt hb.size⟩ : W'.cell? ⟨g2, 0, none⟩ = some (.slice A l.length c) ∧ W'.cell? ⟨g5, 0, none⟩ = some (.string z) ∧ g2 < W'.heap.size ∧ g5 < W'.heap.size))
  go_wp2
  go_loopw [15] (fun i9 wr => ∃ j : Nat, j ≤ S.length ∧ i9 = .int .i64 j ∧ Hid ((S.take j).find? (isTtl l f) = none) ∧ Hid (Below w3.heap.size w3 wr)) (fun i9 _ => S.length - (intOf i9).toNat)
  case atStart => exact ⟨0, Nat.zero_le _, rfl, hide rfl, hide (by repeat (first | with_reducible exact Below.refl _ _ | with_reducible refine bl_plus ?_ | with_reducible refine bl_alloc ?_ _ | with_reducible refine bl_drew ?_ | with_reducible refine bl_drewN ?_ _))⟩
  case round =>
    obtain ⟨j, hj, rfl, HFD, HB⟩ := hrel
    by_cases hlt : j < S.length
    · obtain ⟨b2, o2, rfl, hb2, z0⟩ := ints_get (HSI.out.below HB.out) hlt
      obtain ⟨m, hm, hid, htx, -⟩ := HSM.out S[j] (List.getElem_mem hlt)
      have HYES := hide (fun h => find_at hlt HFD.out h)
      have HNO := hide (fun h => find_no hlt HFD.out h)
      have hbw := below_chainT HBW3.out HB.out
      have HBM := hide (fun W' (hb : Below wr.heap.size wr W') => by have := HBB.out W' (below_chainT hbw hb) m hm; rwa [hid] at this)
      obtain ⟨b, o, A1, c1, A2, c2, rfl, hlb, q0, q1, q2, q3, q4, -, -⟩ := HB0.out.at_.getB (below_chainT HB0.out.bel hbw) hm
      have HFT := hide (fun W' (hb : Below wr.heap.size wr W') => foldOfTitle_any l[m].txt W' (HMT.out W' (below_chainT hbw hb)) (by have := HB0.out.right.txt _ (List.getElem_mem hm); omega))
      have HTT := hide (show isTtl l f S[j] = ((foldT l[m].txt).toList == z.toList) from by unfold isTtl; rw [htx, HZL.out, fold_beq])
      obtain ⟨qa, qb, qc, qd⟩ := HQ.out wr HB.out
      have i1 : (j : Int) < (S.length : Int) := by omega
      clear hid htx q0 q1 q2 q4
      generalize S[j] = p at *
      generalize l[m].txt = tx at *
      generalize foldT tx = y at *
      obtain ⟨W4, hW4⟩ : ∃ W4 : World, W4 = wr := ⟨_, rfl⟩
      subst hW4
      go_upto_region 5 with (fail)
      go_cut [27] from 19 to 27 (fun s27 wx => s27 = .bool (y.toList == z.toList) ∧ Hid (Below W4.heap.size W4 wx))
      case first =>
        go_region_with (first
          | (go_at_call 46; refine (HBM.out _ ?hb).mono ?_; (case hb => exact (by repeat (first | with_reducible exact Below.refl _ _ | with_reducible refine bl_plus ?_ | with_reducible refine bl_alloc ?_ _ | with_reducible refine bl_drew ?_ | with_reducible refine bl_drewN ?_ _))); rintro e w' ⟨⟨b9, o9, e9, rfl⟩, hbl⟩; injection e9 with e9; injection e9 with e91 e92; subst e91 e92; obtain ⟨os2, n2, rfl⟩ := below_plus hbl; clear hbl)
          | (go_at_call 111; refine (HFT.out _ ?hb).mono ?_; (case hb => exact (by repeat (first | with_reducible exact Below.refl _ _ | with_reducible refine bl_plus ?_ | with_reducible refine bl_alloc ?_ _ | with_reducible refine bl_drew ?_ | with_reducible refine bl_drewN ?_ _))); rintro e w' ⟨rfl, hbl⟩; obtain ⟨os3, n3, rfl⟩ := below_plus hbl; clear hbl))
        all_goals
          go_wp2
          go_meet
          case rel => exact ⟨rfl, hide (by repeat (first | with_reducible exact Below.refl _ _ | with_reducible refine bl_plus ?_ | with_reducible refine bl_alloc ?_ _ | with_reducible refine bl_drew ?_ | with_reducible refine bl_drewN ?_ _))⟩
      case rest =>
        obtain ⟨rfl, HBC⟩ := hcut
        have HBN := hide (below_chainT HB.out HBC.out)
        clear HBM HFT
        cases hd : (y.toList == z.toList) with
        | true =>
          have HR := hide (HPO.out p wc (by rw [HLD.out, HYES.out (by rw [HTT.out, hd])]) (below_chainT HBW3.out HBN.out))
          clear hd HYES HNO
          go_wp2
          exact HR.out
        | false =>
          have HN2 := hide (HNO.out (by rw [HTT.out, hd]))
          clear hd HYES HNO
          go_wp2
          go_roundw
          case rel => exact ⟨j + 1, by omega, by go_num, HN2, HBN⟩
          case measure => simp [intOf]; omega
    · obtain rfl : j = S.length := by omega
      have hfn := HFD.out
      rw [List.take_length] at hfn
      rw [hfn] at HLD
      obtain ⟨W4, hW4⟩ : ∃ W4 : World, W4 = wr := ⟨_, rfl⟩
      subst hW4
      obtain ⟨qa, qb, qc, qd⟩ := HQ.out W4 HB.out
      have HBW4 := hide (below_chainT HBW3.out HB.out)
      clear HFD hfn
      go_upto_block 9 with (first
        | (go_at_call 112; refine (HSO.out _ ?hb).mono ?_; (case hb => first | exact HBW4.out | exact bl_drew HBW4.out); rintro e w5 ⟨A6, c6, rfl, hrow, hbl⟩; have HSJ := hide (ownsRow_ints hrow (by first | rfl | simp)).1; have HB5 := hide (show Below W4.heap.size W4 w5 from by first | exact hbl | exact below_chainT (bl_drew (Below.refl _ _)) hbl); clear hrow hbl; have HQ5 := HQ.out w5 (below_chainT HB.out HB5.out); obtain ⟨qa5, qb5, qc5, qd5⟩ := HQ5))
      have HB9 := hide (below_chainT HB.out HB5.out)
      have HBW5 := hide (below_chainT HBW3.out HB9.out)
      have HQ := hide (fun W' (hb : Below w5.heap.size w5 W') => HQ.out W' (below_chainT HB9.out hb))
      clear HB HB5 HBW4 HSO HF HBB H2 H5 HSI
      go_loopw [33] (fun i9 wr => ∃ j : Nat, j ≤ S.length ∧ i9 = .int .i64 j ∧ Hid ((S.take j).find? (isAls l f) = none) ∧ Hid (Below w5.heap.size w5 wr)) (fun i9 _ => S.length - (intOf i9).toNat)
      case atStart => exact ⟨0, Nat.zero_le _, rfl, hide rfl, hide (Below.refl _ _)⟩
      case round =>
        obtain ⟨j, hj, rfl, HFD, HB⟩ := hrel
        by_cases hlt : j < S.length
        · obtain ⟨b2, o2, rfl, hb2, z0⟩ := ints_get (HSJ.out.below HB.out) hlt
          obtain ⟨m, hm, hid, -, hals⟩ := HSM.out S[j] (List.getElem_mem hlt)
          have HYES := hide (fun h => find_at hlt HFD.out h)
          have HNO := hide (fun h => find_no hlt HFD.out h)
          have hbw := below_chainT HBW5.out HB.out
          have HAL := hide (fun W' (hb : Below wr.heap.size wr W') => by have := HALS.out W' (below_chainT hbw hb) m hm; rwa [hid] at this)
          have hal := HB0.out.right.als hm
          have HMS := hide hal.2
          have hal20 := hal.1
          have HMW := hide (fun W' (hb : Below wr.heap.size wr W') => HMT.out W' (below_chainT hbw hb))
          have HTT := hide (show isAls l f S[j] = (alsA l[m].ps).any (fun a => (foldT a).toList == z.toList) from by unfold isAls; rw [hals, HZL.out]; congr 1; funext a; exact (fold_beq a f).symm)
          obtain ⟨qa, qb, qc, qd⟩ := HQ.out wr HB.out
          have i1 : (j : Int) < (S.length : Int) := by omega
          clear hid hals hal
          generalize S[j] = p at *
          generalize alsA l[m].ps = als at *
          obtain ⟨W4, hW4⟩ : ∃ W4 : World, W4 = wr := ⟨_, rfl⟩
          subst hW4
          go_upto_region 11 with (fail)
          go_cut [41] from 37 to 41 (fun s41 wx => s41 = .bool (isAls l f p) ∧ Hid (Below W4.heap.size W4 wx))
          case first =>
            go_wp2_with (first
              | (go_at_call 114; refine (HAL.out _ ?hb).mono ?_; (case hb => exact (by repeat (first | with_reducible exact Below.refl _ _ | with_reducible refine bl_plus ?_ | with_reducible refine bl_alloc ?_ _ | with_reducible refine bl_drew ?_ | with_reducible refine bl_drewN ?_ _))); rintro e w7 ⟨A8, c8, rfl, hrow, hbl⟩; have HRS := hide (sAt_own hrow).2.2.2; have HB7 := hide (show Below W4.heap.size W4 w7 from hbl); clear hrow hbl; obtain ⟨qa7, qb7, qc7, qd7⟩ := HQ.out w7 (below_chainT HB.out HB7.out))
              | (go_at_call 113; refine (containsFn_any 115 g5 (fun a => (foldT a).toList == z.toList) A8 c8 als w7 HRS.out (by omega) (enters_of Tryz.func115 (by kernel_rfl) rfl) (fun x hx W' hb => pageFn_any x z g5 W' (HMW.out W' (below_chainT HB7.out hb)) (by have := HMS.out x hx; omega) ((HQ.out W' (below_chainT HB.out (below_chainT HB7.out hb))).2.1) ((HQ.out W' (below_chainT HB.out (below_chainT HB7.out hb))).2.2.2))).mono ?_; rintro e w8 ⟨rfl, hbl⟩; have HB8 := hide (below_chainT HB7.out hbl); clear hbl; rw [← HTT.out]))
            go_meet
            case rel => exact ⟨rfl, HB8⟩
          case rest =>
            obtain ⟨rfl, HBC⟩ := hcut
            have HBN := hide (below_chainT HB.out HBC.out)
            clear HAL HMS HMW HTT
            cases hd : isAls l f p with
            | true =>
              have HR := hide (HPO.out p wc (by rw [HLD.out, HYES.out hd]; rfl) (below_chainT HBW5.out HBN.out))
              clear hd HYES HNO
              go_wp2
              exact HR.out
            | false =>
              have HN2 := hide (HNO.out hd)
              clear hd HYES HNO
              go_wp2
              go_roundw
              case rel => exact ⟨j + 1, by omega, by go_num, HN2, HBN⟩
              case measure => simp [intOf]; omega
        · obtain rfl : j = S.length := by omega
          have hfn := HFD.out
          rw [List.take_length] at hfn
          have HR := hide (HPO.out 0 wr (by rw [HLD.out, hfn]; rfl) (below_chainT HBW5.out HB.out))
          clear hfn
          go_wp2
          exact HR.out

end Go.Proofs.YtioppoaijehicaaGreatDoor
/-
  WALKS: the reference's open, PageFor, NamesFor.
-/
namespace Go.Proofs.YtioppoaijehicaaGreatDoor
open Go.RowKit Go.Lib Go.Maps Go.WideElems Go.WideMaps Go.Shelf

theorem results_cell_row_tmp {P : Program} {fn : Func} {p u : Tmp} {ty : TypeId} (h : fn.results = #[.cell p ty, .tmp u]) (tmps : Array Value) (w : World) (g : Nat) (t : TypeId) (cs : Array Value) (fr : Nat × Nat) (d : TypeDesc)
    (hp : tmps.getD p undef = .pointer (some ⟨g, 0, none⟩)) (hg : w.heap[g]? = some (.cells cs t fr))
    (hu : P.underlying ty = some d) (hd : (match d with | .struct _ | .array _ _ => true | _ => false) = true) (hi : (P.info? ty).map (·.size) = some cs.size) :
    (results fn tmps).run P w = .ok (.tuple #[.agg cs, tmps.getD u undef]) w := by
  have hp' : tmps[p]?.getD undef = .pointer (some ⟨g, 0, none⟩) := by simpa using hp
  simp [results, h, hp', asAddr, Sem.run_bind, Result.andThen, run_loadVar_row w g t ty cs fr d hg hu hd hi]

def OpOut (l : List BK) (A : Option Addr) (c : Nat) (w : World) (e : Ending) (w' : World) : Prop := e = .returned (.tuple #[.agg #[.slice A l.length c], .int .i64 (baseErr l)]) ∧ Below w.heap.size w w'

set_option maxHeartbeats 1600000 in
set_option maxRecDepth 100000 in
theorem openBook_any (l : List BK) (A : Option Addr) (c : Nat) (w : World) (hA : BsAt w A l) (hk : ∀ b ∈ l, ∀ k ∈ b.kids, In64 k) (hmt : MaxTold w) :
    Calls Tryz.prog 37 #[.slice A l.length c] w (OpOut l A c w) := by
  have HC := hide (fun W (hb : Below w.heap.size w W) => baseError_any l A c W (hA.below hb))
  have HPO : Hid (∀ w', Below w.heap.size w w' → OpOut l A c w (.returned (.tuple #[.agg #[.slice A l.length c], .int .i64 (baseErr l)])) w') := hide fun w' h => ⟨rfl, h⟩
  generalize OpOut l A c w = PO at *
  generalize baseErr l = E at *
  clear hA hk hmt
  go_enter Tryz.func37, Tryz.ntmps37
  go_upto_region 1 with (fail)
  have HN := hide (Blk.new w 71 #[.slice none 0 0])
  have HBA := hide (bl_alloc (Below.refl w.heap.size w) (.cells #[.slice none 0 0] 71))
  have HGE := hide (Nat.le_refl w.heap.size)
  generalize w.alloc (.cells #[.slice none 0 0] 71) = wa at *
  go_wp2_with ((go_at_call 26; refine (HC.out _ HBA.out).mono ?_; rintro e w2 ⟨rfl, hbl⟩; have HB2 := hide (below_chainT HBA.out hbl); have HN2 := hide (HN.out.below hbl HN.out.lt); clear hbl; have hl2 := HN2.out.lt; have hc2 : w2.cell? ⟨w.heap.size, 0, none⟩ = some (.slice none 0 0) := HN2.out.cell 0; have hf2 : w2.frozen? ⟨w.heap.size, 0, none⟩ = false := HN2.out.frozen 0))
  have H9 := hide (HN2.out.set_ 0 (.slice A l.length c))
  refine bodyPost_ret (results_cell_row_tmp (P := Tryz.prog) (by rfl) _ _ w.heap.size 71 #[.slice A l.length c] (0, 0) _ rfl H9.out Tryz.underlying71 rfl (by kernel_rfl)) rfl ?_
  exact HPO.out _ (HB2.out.setCell (p := ⟨w.heap.size, 0, none⟩) (Nat.le_refl _) _)


/-! ### PageFor -/
theorem leadL_pos {l : List BK} (R : Right l) (f : List UInt8) : 0 ≤ leadL l f := by
  have hp : ∀ p ∈ sortZ (pgs l), 0 ≤ p := fun p hp => by
    obtain ⟨m, hm, hid, -⟩ := R.sorted_at hp
    rw [← hid]
    exact (R.good.ids.bound hm).1
  unfold leadL
  split
  · exact hp _ (List.mem_of_find?_eq_some ‹_›)
  · cases h : (sortZ (pgs l)).find? (isAls l f) with
    | none => exact Int.le_refl _
    | some p => exact hp _ (List.mem_of_find?_eq_some h)

end Go.Proofs.YtioppoaijehicaaGreatDoor
