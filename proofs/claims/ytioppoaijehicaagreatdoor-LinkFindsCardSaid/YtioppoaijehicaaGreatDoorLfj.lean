/-
  WALKS: the reference's LinksFor and RefsFor.
-/
import Derived.Test.YtioppoaijehicaaGreatDoorLfh
set_option linter.all false
namespace Go.Proofs.YtioppoaijehicaaGreatDoor
open Go.RowKit Go.Lib Go.Maps Go.WideElems Go.WideMaps Go.Shelf

/-- What LinksFor says. -/
noncomputable def lfrRes (l : List BK) (k : Int) : List Lk × Int := if k < 0 then lksRes l else bckRes l k

set_option maxHeartbeats 800000 in
theorem linksFor1_any (x : Lk) (gq : Nat) (k : Int) (w : World) (hc : w.cell? ⟨gq, 0, none⟩ = some (.int .i64 k)) (hlt : gq < w.heap.size) :
    Calls Tryz.prog 41 #[.agg #[.int .i64 x.block, .int .i64 x.fr, .int .i64 x.to, .string x.prop, .string x.title, .int .i64 x.page], .pointer (some ⟨gq, 0, none⟩)] w fun e w' => e = .returned (.bool (!(x.page == k))) ∧ Below w.heap.size w w' := by
  obtain ⟨bk, fr, tt, pr, ti, pg⟩ := x
  (try simp only)
  have HPO : Hid (∀ w', Below w.heap.size w w' → (fun (e : Ending) (w' : World) => e = .returned (.bool (!(pg == k))) ∧ Below w.heap.size w w') (.returned (.bool (pg != k))) w') := hide fun w' h => ⟨rfl, h⟩
  generalize (fun (e : Ending) (w' : World) => e = .returned (.bool (!(pg == k))) ∧ Below w.heap.size w w') = PO at *
  go_enter Tryz.func41, Tryz.ntmps41
  go_wp2
  exact HPO.out _ (by repeat (first | with_reducible exact Below.refl _ _ | with_reducible refine bl_plus ?_ | with_reducible refine bl_alloc ?_ _ | with_reducible refine bl_drew ?_ | with_reducible refine bl_drewN ?_ _))

set_option maxHeartbeats 3200000 in
set_option maxRecDepth 100000 in
theorem linksFor_any (l : List BK) (A : Option Addr) (c : Nat) (w : World) (hA : BsAt w A l) (hk : ∀ b ∈ l, ∀ k ∈ b.kids, In64 k) (hc : l.length ≤ c) (hmt : MaxTold w) (k : Int) :
    Calls Tryz.prog 14 #[.slice A l.length c, .int .i64 k] w (LksOut (lfrRes l k) w) := by
  have HPO : Hid (∀ (zs : List Lk) (b : Int) (n : Nat) A c w', lfrRes l k = (zs, b) → n = zs.length → RdK Lk.vals 6 w' A zs → Below w.heap.size w w' → LksOut (lfrRes l k) w (.returned (.tuple #[.slice A n c, .int .i64 b])) w') := hide fun zs b n A c w' h1 h0 h2 h3 => by subst h0; rw [h1]; exact ⟨A, c, rfl, h2, h3⟩
  generalize LksOut (lfrRes l k) w = PO at *
  have HWA := hide (bl_alloc (Below.refl w.heap.size w) (.cells #[.int .i64 k] 3))
  have HQK := hide (Blk.new w 3 #[.int .i64 k])
  have HOP := hide (openBook_any l A c (w.alloc (.cells #[.int .i64 k] 3)) (hA.below HWA.out) hk (maxTold_below hmt HWA.out))
  unfold OpOut at HOP
  by_cases he : baseErr l = 0
  · have R := right_of he
    have HBK0 := hide (fun W (hb : Below w.heap.size w W) => (⟨R, hA, hmt, hb⟩ : BK0 l A c w W))
    have HIP := hide (fun W (hb : Below w.heap.size w W) => bookIsPage_any l A c w W (HBK0.out W hb) k)
    have HLS := hide (fun W (hb : Below w.heap.size w W) => bookLinks_any l A c w W (HBK0.out W hb) hc)
    rw [lksOf_root he] at HLS
    unfold RowLk at HLS
    have hL : (lksOf l l).length ≤ 5000000 := by have := lks_all_len R l.length; rw [List.take_length] at this; omega
    have HLR := hide (show lksRes l = (lksOf l l, 0) by unfold lksRes; rw [if_neg (fun h => h he)])
    rw [he] at HOP
    by_cases hneg : k < 0
    · have hr : lfrRes l k = (lksOf l l, 0) := by unfold lfrRes; rw [if_pos hneg]; exact HLR.out
      have HF := hide (fun n A c w' => HPO.out _ 0 n A c w' hr)
      have i0 : ¬ (0 : Int) ≤ k := by omega
      clear HPO hr HLR HIP HBK0 hA hk hmt he R
      generalize lksOf l l = L at *
      go_enter Tryz.func14, Tryz.ntmps14
      go_upto_region 2 with (go_at_call 37; refine HOP.out.mono ?_; rintro e w1 ⟨rfl, hb1⟩; have HB1 := hide (below_chainT HWA.out hb1); have HK1 := hide (HQK.out.below hb1 HQK.out.lt); clear hb1)
      have HB2 := hide (bl_alloc HB1.out (.cells #[.slice A l.length c] 71))
      have HQB := hide (Blk.new w1 71 #[.slice A l.length c])
      have HK2 := hide (HK1.out.below (bl_alloc (Below.refl w1.heap.size w1) (.cells #[.slice A l.length c] 71)) HK1.out.lt)
      generalize w1.alloc (.cells #[.slice A l.length c] 71) = W2 at *
      have a0 := HQB.out.cell 0
      have alt := HQB.out.lt
      have k0 := HK2.out.cell 0
      have klt := HK2.out.lt
      simp only [List.getElem?_toArray, List.getElem?_cons_zero] at a0 k0
      go_wp2_with (go_at_call 39; refine (HLS.out _ HB2.out).mono ?_; rintro e w3 ⟨A3, c3, rfl, ho3, hb3⟩; have HR := hide (rdK_own (f := Lk.vals) (K := 6) valsLk_len (by decide) ho3); have HB3 := hide (below_chainT HB2.out hb3); have k3 : w3.cell? ⟨w.heap.size, 0, none⟩ = some (.int .i64 k) := (HK2.out.below hb3 HK2.out.lt).cell 0; have klt3 : w.heap.size < w3.heap.size := (HK2.out.below hb3 HK2.out.lt).lt; clear ho3 hb3)
      exact HF.out _ _ _ _ rfl HR.out HB3.out
    · have i0 : (0 : Int) ≤ k := by omega
      cases hp : isPg l k with
      | true =>
        have hr : lfrRes l k = ((lksOf l l).filter fun x => x.page == k, 0) := by unfold lfrRes bckRes; rw [if_neg hneg, if_neg (fun h => h he), if_pos hp]
        have HF := hide (fun n A c w' => HPO.out _ 0 n A c w' hr)
        rw [hp] at HIP
        clear HPO hr HLR HBK0 hA hk hmt he R hneg
        generalize lksOf l l = L at *
        have HDL := hide (fun w1 (hq : Blk w1 w.heap.size 3 #[.int .i64 k]) w3 A3 c3 (hb : Below w1.heap.size w1 w3) (ho : OwnK 6 45 w3 w1.heap.size (.slice A3 L.length c3) L.length (flatG Lk.vals L)) => delLk_row 41 w.heap.size (fun x => x.page == k) w1 w1.heap.size c3 A3 L w3 hL (enters_of Tryz.func41 (by kernel_rfl) rfl) ho hb (Nat.le_refl _) (fun x hx W hbw => linksFor1_any x w.heap.size k W ((hq.below hbw hq.lt).cell 0) ((hq.below hbw hq.lt).lt)))
        generalize hM : L.filter (fun x => x.page == k) = M at *
        go_enter Tryz.func14, Tryz.ntmps14
        go_upto_region 2 with (go_at_call 37; refine HOP.out.mono ?_; rintro e w1 ⟨rfl, hb1⟩; have HB1 := hide (below_chainT HWA.out hb1); have HK1 := hide (HQK.out.below hb1 HQK.out.lt); clear hb1)
        have HB2 := hide (bl_alloc HB1.out (.cells #[.slice A l.length c] 71))
        have HQB := hide (Blk.new w1 71 #[.slice A l.length c])
        have HK2 := hide (HK1.out.below (bl_alloc (Below.refl w1.heap.size w1) (.cells #[.slice A l.length c] 71)) HK1.out.lt)
        generalize w1.alloc (.cells #[.slice A l.length c] 71) = W2 at *
        have a0 := HQB.out.cell 0
        have alt := HQB.out.lt
        have k0 := HK2.out.cell 0
        have klt := HK2.out.lt
        simp only [List.getElem?_toArray, List.getElem?_cons_zero] at a0 k0
        go_wp2_with (first
          | (go_at_call 38; refine (HIP.out _ HB2.out).mono ?_; rintro e w3 ⟨rfl, hb3⟩; have HB3 := hide (below_chainT HB2.out hb3); have HK3 := hide (HK2.out.below hb3 HK2.out.lt); have HQ3 := hide (HQB.out.below hb3 HQB.out.lt); have a3 : w3.cell? ⟨w1.heap.size, 0, none⟩ = some (.slice A l.length c) := HQ3.out.cell 0; have alt3 := HQ3.out.lt; clear hb3)
          | (go_at_call 39; refine (HLS.out _ HB3.out).mono ?_; rintro e w4 ⟨A3, c3, rfl, ho4, hb4⟩; have HO4 := hide ho4; have HB34 := hide hb4; have HB4 := hide (below_chainT HB3.out hb4); have k4 : w4.cell? ⟨w.heap.size, 0, none⟩ = some (.int .i64 k) := (HK3.out.below hb4 HK3.out.lt).cell 0; have klt4 : w.heap.size < w4.heap.size := (HK3.out.below hb4 HK3.out.lt).lt; clear ho4 hb4)
          | (go_at_call 40; refine (HDL.out w3 HK3.out w4 A3 c3 HB34.out HO4.out).mono ?_; rintro e w5 ⟨rfl, ho5, hg5⟩; have HR := hide (rdK_own (f := Lk.vals) (K := 6) valsLk_len (by decide) ho5); have HB5 := hide (HB4.out.grown hg5 HB4.out.size (fun k9 hk9 => Nat.le_trans HB3.out.size (HO4.out.lt k9 hk9).1)); clear ho5 hg5))
        exact HF.out _ _ _ _ rfl HR.out HB5.out
      | false =>
        have hr : lfrRes l k = ([], 7) := by unfold lfrRes bckRes; rw [if_neg hneg, if_neg (fun h => h he), if_neg (by rw [hp]; decide)]
        have HF := hide (fun w' => HPO.out [] 7 0 none 0 w' hr rfl rdK_none)
        rw [hp] at HIP
        clear HPO hr HLR HBK0 HLS hA hk hmt he R hneg
        go_enter Tryz.func14, Tryz.ntmps14
        go_upto_region 2 with (go_at_call 37; refine HOP.out.mono ?_; rintro e w1 ⟨rfl, hb1⟩; have HB1 := hide (below_chainT HWA.out hb1); have HK1 := hide (HQK.out.below hb1 HQK.out.lt); clear hb1)
        have HB2 := hide (bl_alloc HB1.out (.cells #[.slice A l.length c] 71))
        have HQB := hide (Blk.new w1 71 #[.slice A l.length c])
        have HK2 := hide (HK1.out.below (bl_alloc (Below.refl w1.heap.size w1) (.cells #[.slice A l.length c] 71)) HK1.out.lt)
        generalize w1.alloc (.cells #[.slice A l.length c] 71) = W2 at *
        have a0 := HQB.out.cell 0
        have alt := HQB.out.lt
        have k0 := HK2.out.cell 0
        have klt := HK2.out.lt
        simp only [List.getElem?_toArray, List.getElem?_cons_zero] at a0 k0
        go_wp2_with (go_at_call 38; refine (HIP.out _ HB2.out).mono ?_; rintro e w3 ⟨rfl, hb3⟩; have HB3 := hide (below_chainT HB2.out hb3); clear hb3)
        exact HF.out _ HB3.out
  · have hr : lfrRes l k = ([], baseErr l) := by
      unfold lfrRes lksRes bckRes
      by_cases h9 : k < 0
      · rw [if_pos h9, if_pos he]
      · rw [if_neg h9, if_pos he]
    have HF := hide (fun w' => HPO.out [] (baseErr l) 0 none 0 w' hr rfl rdK_none)
    have e1 : (baseErr l != 0) = true := bne_iff_ne.2 he
    have e0 : (baseErr l == 0) = false := beq_eq_false_iff_ne.2 he
    clear HPO hr hA hk hmt he
    generalize baseErr l = E at *
    go_enter Tryz.func14, Tryz.ntmps14
    go_upto_region 2 with (go_at_call 37; refine HOP.out.mono ?_; rintro e w1 ⟨rfl, hb1⟩; have HB1 := hide (below_chainT HWA.out hb1); have HK1 := hide (HQK.out.below hb1 HQK.out.lt); clear hb1)
    have HB2 := hide (bl_alloc HB1.out (.cells #[.slice A l.length c] 71))
    have HQB := hide (Blk.new w1 71 #[.slice A l.length c])
    have HK2 := hide (HK1.out.below (bl_alloc (Below.refl w1.heap.size w1) (.cells #[.slice A l.length c] 71)) HK1.out.lt)
    generalize w1.alloc (.cells #[.slice A l.length c] 71) = W2 at *
    have a0 := HQB.out.cell 0
    have alt := HQB.out.lt
    have k0 := HK2.out.cell 0
    have klt := HK2.out.lt
    simp only [List.getElem?_toArray, List.getElem?_cons_zero] at a0 k0
    go_wp2
    exact HF.out _ HB2.out

/-! ### RefsFor -/
theorem any_ref (l : List BK) (x : BK) (k : Int) : (ofKd 5 (spB l x.id x.txt)).any (fun y => y.id == k) = decide (k ∈ rfB l x) := by
  have h : k ∈ rfB l x ↔ k ∈ (ofKd 5 (spB l x.id x.txt)).map (·.id) := by
    unfold rfB
    rw [(tidy_is _).2, rfIds_ofKd]
  rw [Bool.eq_iff_iff, List.any_eq_true, decide_eq_true_iff, h, List.mem_map]
  constructor
  · rintro ⟨y, hy, e⟩
    exact ⟨y, hy, by simpa using e⟩
  · rintro ⟨y, hy, e⟩
    exact ⟨y, hy, by simpa using e⟩

set_option maxHeartbeats 800000 in
theorem refsFor1_any (x : Sp) (gq : Nat) (k : Int) (w : World) (hc : w.cell? ⟨gq, 0, none⟩ = some (.int .i64 k)) (hlt : gq < w.heap.size) :
    Calls Tryz.prog 49 #[.agg #[.int .i64 x.kind, .int .i64 x.fr, .int .i64 x.to, .string x.txt, .string x.sho, .int .i64 x.id, .bool x.strong], .pointer (some ⟨gq, 0, none⟩)] w fun e w' => e = .returned (.bool (x.id == k)) ∧ Below w.heap.size w w' := by
  obtain ⟨kd, fr, tt, tx, sh, xid, st⟩ := x
  (try simp only)
  have HPO : Hid (∀ w', Below w.heap.size w w' → (fun (e : Ending) (w' : World) => e = .returned (.bool (xid == k)) ∧ Below w.heap.size w w') (.returned (.bool (xid == k))) w') := hide fun w' h => ⟨rfl, h⟩
  generalize (fun (e : Ending) (w' : World) => e = .returned (.bool (xid == k)) ∧ Below w.heap.size w w') = PO at *
  go_enter Tryz.func49, Tryz.ntmps49
  go_wp2
  exact HPO.out _ (by repeat (first | with_reducible exact Below.refl _ _ | with_reducible refine bl_plus ?_ | with_reducible refine bl_alloc ?_ _ | with_reducible refine bl_drew ?_ | with_reducible refine bl_drewN ?_ _))

def CfOutS (d : Sp → Bool) (l : List Sp) (w : World) (e : Ending) (w' : World) : Prop := e = .returned (.bool (l.any d)) ∧ Below w.heap.size w w'

theorem fstS_any {d : Sp → Bool} {l : List Sp} {r : Int} (h : FstSp d l r) : decide (0 ≤ r) = l.any d := by
  rcases h with ⟨k, hk, rfl, hd, -⟩ | ⟨rfl, hall⟩
  · rw [decide_eq_true (by omega), eq_comm, List.any_eq_true]
    exact ⟨_, List.getElem_mem hk, hd⟩
  · rw [decide_eq_false (by omega), eq_comm, List.any_eq_false]
    intro x hx
    obtain ⟨j, hj, rfl⟩ := List.getElem_of_mem hx
    rw [hall j hj]
    decide

set_option maxHeartbeats 1600000 in
theorem containsSp_any (fid : FuncId) (gq : Nat) (d : Sp → Bool) (A : Option Addr) (c : Nat) (l : List Sp) (w : World) (hA : RdK Sp.vals 7 w A l) (hm : l.length ≤ 2000000) (ent : ∀ args w, (callFunc fid args).run Tryz.prog w = .ok (.enter fid args) w)
    (hF : ∀ x ∈ l, ∀ W, Below w.heap.size w W → Calls Tryz.prog fid #[.agg #[.int .i64 x.kind, .int .i64 x.fr, .int .i64 x.to, .string x.txt, .string x.sho, .int .i64 x.id, .bool x.strong], .pointer (some ⟨gq, 0, none⟩)] W fun e w' => e = .returned (.bool (d x)) ∧ Below W.heap.size W w') :
    Calls Tryz.prog 47 #[.slice A l.length c, .func (.func fid) #[] #[.pointer (some ⟨gq, 0, none⟩)]] w (CfOutS d l w) := by
  have HI := hide (indexSp_any fid gq d A c l w hA hm ent hF)
  unfold FstOutSp at HI
  have HPO : Hid (∀ (r : Int) w', FstSp d l r → Below w.heap.size w w' → CfOutS d l w (.returned (.bool (decide (0 ≤ r)))) w') := hide fun r w' h1 h2 => ⟨by rw [fstS_any h1], h2⟩
  generalize CfOutS d l w = PO at *
  clear hA hF ent
  go_enter Tryz.func47, Tryz.ntmps47
  go_wp2_with (go_at_call 83; refine HI.out.mono ?_; rintro e w' ⟨r, rfl, hr, hbl⟩; have HR := hide (HPO.out r w' hr hbl); clear hr hbl)
  exact HR.out

set_option maxHeartbeats 1600000 in
set_option maxRecDepth 100000 in
theorem bookBlockNo_any (l : List BK) (A : Option Addr) (c : Nat) (w0 W : World) (h : BK0 l A c w0 W) (k : Int) (hno : ∀ q (hq : q < l.length), l[q].id ≠ k) :
    Calls Tryz.prog 46 #[.agg #[.slice A l.length c], .int .i64 k] W fun e w' => e = .returned (.pointer none) ∧ Below W.heap.size W w' := by
  have H := hide h
  have hl2 := h.right.len
  obtain ⟨b0, o0, A1, c1, A2, c2, rfl, -⟩ := h.at_.getB h.bel h.right.pos
  have HPO : Hid (∀ w', Below W.heap.size W w' → (fun (e : Ending) (w' : World) => e = .returned (.pointer none) ∧ Below W.heap.size W w') (.returned (.pointer none)) w') := hide fun w' h1 => ⟨rfl, h1⟩
  generalize (fun (e : Ending) (w' : World) => e = .returned (.pointer none) ∧ Below W.heap.size W w') = PO at *
  have HID := hide hno
  clear h hno
  go_enter Tryz.func46, Tryz.ntmps46
  go_wp2
  go_loopw [9] (fun i9 wr => ∃ q : Nat, q ≤ l.length ∧ i9 = .int .i64 q ∧ wr = W.alloc (.cells #[.slice (some ⟨b0, o0, none⟩) l.length c] 71)) (fun i9 _ => l.length - (intOf i9).toNat)
  case atStart => exact ⟨0, Nat.zero_le _, rfl, rfl⟩
  case round =>
    obtain ⟨q, hq, rfl, rfl⟩ := hrel
    by_cases hlt : q < l.length
    · obtain ⟨b, o, A1, c1, A2, c2, e1, hlb, q0, -⟩ := H.out.at_.getB H.out.bel hlt
      injection e1 with e1
      injection e1 with e11 e12
      subst e11 e12
      have iq : (q : Int) < (l.length : Int) := by omega
      have e0 : (l[q].id == k) = false := beq_eq_false_iff_ne.2 (HID.out q hlt)
      generalize l[q].id = x at *
      go_wp2
      go_roundw
      case rel => exact ⟨q + 1, by omega, by go_num, by trivial⟩
      case measure => simp [intOf]; omega
    · obtain rfl : q = l.length := by omega
      go_wp2
      exact HPO.out _ (by repeat (first | with_reducible exact Below.refl _ _ | with_reducible refine bl_plus ?_ | with_reducible refine bl_alloc ?_ _ | with_reducible refine bl_drew ?_ | with_reducible refine bl_drewN ?_ _))

theorem ix_none {l : List BK} (I : Ids l) {k : Int} (h : ixOf l k = none) : ∀ q (hq : q < l.length), l[q].id ≠ k := fun q hq e => by
  have := I.ix hq
  rw [e, h] at this
  cases this

theorem ix_some {l : List BK} {k : Int} (h : (ixOf l k).isSome = true) : ∃ m, ∃ hm : m < l.length, l[m].id = k := by
  obtain ⟨m, hm⟩ := Option.isSome_iff_exists.1 h
  obtain ⟨h1, h2⟩ := ixOf_some hm
  rw [idAt_get h1] at h2
  exact ⟨m, h1, h2⟩

set_option maxHeartbeats 6400000 in
set_option maxRecDepth 100000 in
theorem refsFor_any (l : List BK) (A : Option Addr) (c : Nat) (w : World) (hA : BsAt w A l) (hk : ∀ b ∈ l, ∀ k ∈ b.kids, In64 k) (hmt : MaxTold w) (k : Int) :
    Calls Tryz.prog 17 #[.slice A l.length c, .int .i64 k] w (RfsOut (rfsRes l k) w) := by
  have HPO : Hid (∀ (zs : List Int) (b : Int) (n : Nat) A c w', rfsRes l k = (zs, b) → n = zs.length → IntsAt w' A zs → Below w.heap.size w w' → RfsOut (rfsRes l k) w (.returned (.tuple #[.slice A n c, .int .i64 b])) w') := hide fun zs b n A c w' h1 h0 h2 h3 => by subst h0; rw [h1]; exact ⟨A, c, rfl, h2, h3⟩
  generalize RfsOut (rfsRes l k) w = PO at *
  have HWA := hide (bl_alloc (Below.refl w.heap.size w) (.cells #[.int .i64 k] 3))
  have HQK := hide (Blk.new w 3 #[.int .i64 k])
  have HOP := hide (openBook_any l A c (w.alloc (.cells #[.int .i64 k] 3)) (hA.below HWA.out) hk (maxTold_below hmt HWA.out))
  unfold OpOut at HOP
  by_cases he : baseErr l = 0
  · have R := right_of he
    have hln := R.len
    have HBK0 := hide (fun W (hb : Below w.heap.size w W) => (⟨R, hA, hmt, hb⟩ : BK0 l A c w W))
    have HBK := hide (fun j (hj : j < l.length) => bk_ok R (List.getElem_mem hj))
    have HY := hide (fun j (hj : j < l.length) h => refsL_yes (l := l) (k := k) hj h)
    have HN := hide (fun j (hj : j < l.length) h => refsL_no (l := l) (k := k) hj h)
    have HA := hide hA
    rw [he] at HOP
    cases hix : (ixOf l k).isSome with
    | false =>
      have hno := ix_none R.good.ids (Option.isNone_iff_eq_none.1 (by rw [← Option.not_isSome, hix]; rfl))
      have HBB := hide (fun W (hb : Below w.heap.size w W) => bookBlockNo_any l A c w W (HBK0.out W hb) k hno)
      have HF := hide (fun w' => HPO.out [] 7 0 none 0 w' (by unfold rfsRes; rw [if_neg (fun h => h he), if_neg (by rw [hix]; decide)]) rfl IntsAt.nil)
      clear HPO hA hk hmt he R HY HN HBK hno hix HBK0
      go_enter Tryz.func17, Tryz.ntmps17
      go_upto_region 2 with (go_at_call 37; refine HOP.out.mono ?_; rintro e w1 ⟨rfl, hb1⟩; have HB1 := hide (below_chainT HWA.out hb1); have HK1 := hide (HQK.out.below hb1 HQK.out.lt); clear hb1)
      have HB2 := hide (bl_alloc HB1.out (.cells #[.slice A l.length c] 71))
      have HQB := hide (Blk.new w1 71 #[.slice A l.length c])
      have HK2 := hide (HK1.out.below (bl_alloc (Below.refl w1.heap.size w1) (.cells #[.slice A l.length c] 71)) HK1.out.lt)
      generalize w1.alloc (.cells #[.slice A l.length c] 71) = W2 at *
      have a0 := HQB.out.cell 0
      have alt := HQB.out.lt
      have k0 := HK2.out.cell 0
      have klt := HK2.out.lt
      simp only [List.getElem?_toArray, List.getElem?_cons_zero] at a0 k0
      go_wp2_with (go_at_call 46; refine (HBB.out _ HB2.out).mono ?_; rintro e w3 ⟨rfl, hb3⟩; have HB3 := hide (below_chainT HB2.out hb3); clear hb3)
      exact HF.out _ HB3.out
    | true =>
      obtain ⟨m, hm, hmk⟩ := ix_some hix
      obtain ⟨b0, o0, rfl, -⟩ := HA.out.2 R.pos
      have HBB := hide (fun W (hb : Below w.heap.size w W) => (by have := bookBlock_any l _ c w W (HBK0.out W hb) hm; rwa [hmk] at this : Calls Tryz.prog 46 #[.agg #[.slice (some ⟨b0, o0, none⟩) l.length c], .int .i64 k] W (BbOut (some ⟨b0, o0, none⟩) m W)))
      unfold BbOut at HBB
      have HF := hide (fun n A c w' => HPO.out (refsL l k l) 0 n A c w' (by unfold rfsRes; rw [if_neg (fun h => h he), if_pos hix]))
      have HSP := hide (fun W (hb : Below w.heap.size w W) (x : BK) (hx : BkOk x) A1 m1 c1 A2 m2 c2 => bookSpans_any l _ c w W (HBK0.out W hb) x hx A1 m1 c1 A2 m2 c2 5)
      unfold RowSp at HSP
      have HSL := hide (fun (x : BK) (hx : BkOk x) => (by have h1 := spB_len l x.id x.txt; have h2 := hx.t2k; have h3 : (ofKd 5 (spB l x.id x.txt)).length ≤ (spB l x.id x.txt).length := List.length_filter_le _ _; omega : (ofKd 5 (spB l x.id x.txt)).length ≤ 2000000))
      have HAR := hide (fun (x : BK) => any_ref l x k)
      have HLR := hide (fun j => refsL_len l k (l.take j))
      have HCS := hide (fun gq (W : World) (hq : Blk W gq 3 #[.int .i64 k]) (sp : List Sp) (hsp : sp.length ≤ 2000000) A3 c3 (hr : RdK Sp.vals 7 W A3 sp) => containsSp_any 49 gq (fun y => y.id == k) A3 c3 sp W hr hsp (enters_of Tryz.func49 (by kernel_rfl) rfl) (fun x hx W' hbw => refsFor1_any x gq k W' ((hq.below hbw hq.lt).cell 0) ((hq.below hbw hq.lt).lt)))
      unfold CfOutS at HCS
      clear HPO hA hk hmt he R hix hm hmk HBK0
      go_enter Tryz.func17, Tryz.ntmps17
      go_upto_region 2 with (go_at_call 37; refine HOP.out.mono ?_; rintro e w1 ⟨rfl, hb1⟩; have HB1 := hide (below_chainT HWA.out hb1); have HK1 := hide (HQK.out.below hb1 HQK.out.lt); clear hb1)
      have HB2 := hide (bl_alloc HB1.out (.cells #[.slice (some ⟨b0, o0, none⟩) l.length c] 71))
      have HQB := hide (Blk.new w1 71 #[.slice (some ⟨b0, o0, none⟩) l.length c])
      have HK2 := hide (HK1.out.below (bl_alloc (Below.refl w1.heap.size w1) (.cells #[.slice (some ⟨b0, o0, none⟩) l.length c] 71)) HK1.out.lt)
      generalize w1.alloc (.cells #[.slice (some ⟨b0, o0, none⟩) l.length c] 71) = W2 at *
      have a0 := HQB.out.cell 0
      have alt := HQB.out.lt
      have k0 := HK2.out.cell 0
      have klt := HK2.out.lt
      simp only [List.getElem?_toArray, List.getElem?_cons_zero] at a0 k0
      go_upto_region 6 with (go_at_call 46; refine (HBB.out _ HB2.out).mono ?_; rintro e w3 ⟨⟨b9, o9, -, rfl⟩, hb3⟩; have HB3 := hide (below_chainT HB2.out hb3); have HK3 := hide (HK2.out.below hb3 HK2.out.lt); have HQ3 := hide (HQB.out.below hb3 HQB.out.lt); clear hb3)
      clear HBB HB2 HK2 HQB a0 alt k0 klt HOP HB1 HK1
      obtain ⟨W3, hW3⟩ : ∃ W3 : World, W3 = w3 := ⟨_, rfl⟩
      subst hW3
      go_wp2
      go_loopw [8, 29] (fun s5 i9 wr => ∃ (j : Nat) (A3 : Option Addr) (c3 : Nat) (zs : List Int), j ≤ l.length ∧ s5 = .slice A3 zs.length c3 ∧ i9 = .int .i64 j ∧ Hid (zs = refsL l k (l.take j)) ∧ Hid (wr.ownsRow W3.heap.size 3 1 (.slice A3 zs.length c3) zs.length (zs.map (Value.int .i64))) ∧ Hid (Below W3.heap.size W3 wr)) (fun _ i9 _ => l.length - (intOf i9).toNat)
      case atStart => exact ⟨0, none, 0, [], Nat.zero_le _, rfl, rfl, hide rfl, hide (World.ownsRow_nil _ _ _ _), hide (by repeat (first | with_reducible exact Below.refl _ _ | with_reducible refine bl_plus ?_ | with_reducible refine bl_alloc ?_ _ | with_reducible refine bl_drew ?_ | with_reducible refine bl_drewN ?_ _))⟩
      case round =>
        obtain ⟨j, A3, c3, zs, hj, rfl, rfl, HZ, HOW, HB⟩ := hrel
        obtain ⟨WR, hWR⟩ : ∃ WR : World, WR = wr := ⟨_, rfl⟩
        subst hWR
        have hzl : zs.length ≤ 2000 := by
          have h1 := HLR.out j
          rw [← HZ.out, List.length_take] at h1
          omega
        by_cases hlt : j < l.length
        · obtain ⟨b, o, A1, c1, A2, c2, eA, hlb, q0, q1, q2, q3, q4, -, -⟩ := HA.out.getB (below_chainT HB3.out HB.out) hlt
          injection eA with eA
          injection eA with eA1 eA2
          subst eA1 eA2
          have i1 : (j : Int) < (l.length : Int) := by omega
          go_upto_region 10 with (fail)
          have HB2 := hide (bl_alloc HB.out (.cells #[.int .i64 l[j].id, .int .i64 l[j].par, .slice A1 l[j].kids.length c1, .string l[j].txt, .slice A2 l[j].ps.length c2] 82))
          have HO2 := hide (HOW.out.alloc (.cells #[.int .i64 l[j].id, .int .i64 l[j].par, .slice A1 l[j].kids.length c1, .string l[j].txt, .slice A2 l[j].ps.length c2] 82))
          have HSJ := hide (HSP.out (WR.alloc (.cells #[.int .i64 l[j].id, .int .i64 l[j].par, .slice A1 l[j].kids.length c1, .string l[j].txt, .slice A2 l[j].ps.length c2] 82)) (below_chainT HB3.out HB2.out) l[j] (HBK.out j hlt) A1 l[j].kids.length c1 A2 l[j].ps.length c2)
          have HSLj := hide (HSL.out l[j] (HBK.out j hlt))
          have HBX := hide (Blk.new WR 82 #[.int .i64 l[j].id, .int .i64 l[j].par, .slice A1 l[j].kids.length c1, .string l[j].txt, .slice A2 l[j].ps.length c2])
          have HYj := hide (HY.out j hlt)
          have HNj := hide (HN.out j hlt)
          have HARj := hide (HAR.out l[j])
          clear q0 q1 q2 q3 q4 HOW HB
          generalize WR.alloc (.cells #[.int .i64 l[j].id, .int .i64 l[j].par, .slice A1 l[j].kids.length c1, .string l[j].txt, .slice A2 l[j].ps.length c2] 82) = W2 at *
          have z0 := HBX.out.cell 0
          have z1 := HBX.out.cell 1
          have z2 := HBX.out.cell 2
          have z3 := HBX.out.cell 3
          have z4 := HBX.out.cell 4
          have zlt := HBX.out.lt
          simp only [List.getElem?_toArray, List.getElem?_cons_succ, List.getElem?_cons_zero] at z0 z1 z2 z3 z4
          have HQ2 := hide (HQ3.out.below HB2.out HQ3.out.lt)
          have HK2 := hide (HK3.out.below HB2.out HK3.out.lt)
          have a0 := HQ2.out.cell 0
          have alt := HQ2.out.lt
          simp only [List.getElem?_toArray, List.getElem?_cons_zero] at a0
          generalize ofKd 5 (spB l l[j].id l[j].txt) = sp at *
          generalize rfB l l[j] = rs at *
          generalize l[j] = x at *
          obtain ⟨xi, xp, xk, xt, xs⟩ := x
          (try simp only at *)
          by_cases hmem : k ∈ rs
          · have HX := hide (by rw [HYj.out hmem, ← HZ.out] : refsL l k (l.take (j + 1)) = zs ++ [xi])
            have hdec := HARj.out.trans (decide_eq_true hmem)
            clear HYj HNj HZ hmem HARj
            go_upto_region 11 with (first
              | (go_at_call 48; refine HSJ.out.mono ?_; rintro e w3 ⟨A9, c9, rfl, hrow, hbl⟩; have HI9 := hide (rdK_own (f := Sp.vals) (K := 7) (fun _ => rfl) (by decide) hrow); have HO3 := hide (ownJ_below HO2.out hbl); have HB4 := hide (below_chainT HB2.out hbl); have HX3 := hide (HBX.out.below hbl HBX.out.lt); have HK4 := hide (HK2.out.below hbl HK2.out.lt); clear hrow hbl)
              | (go_at_call 47; refine (HCS.out _ w3 HK4.out sp HSLj.out A9 c9 HI9.out).mono ?_; rintro e w4 ⟨rfl, hbl⟩; rw [hdec]; have HO5 := hide (ownJ_below HO3.out hbl); have HB5 := hide (below_chainT HB4.out hbl); have HX5 := hide (HX3.out.below hbl HX3.out.lt); clear hbl))
            have x0 := HX5.out.cell 0
            have xlt := HX5.out.lt
            simp only [List.getElem?_toArray, List.getElem?_cons_succ, List.getElem?_cons_zero] at x0
            clear z0 z1 z2 z3 z4 zlt HBX HSJ HB2 HO2 a0 alt HX3 HB4 HO3
            have HSZ := hide HB5.out.size
            go_wp2_with (at_builtin; refine wpList_append_int rfl (.tmp 38) (.tmp 41) rfl W3.heap.size zs.length _ zs xi _ rfl HO5.out rfl rfl (by omega) HSZ.out ?_; intro v' w5 hown5 hb5; have HO6 := hide hown5; have HB6 := hide hb5; clear hown5 hb5)
            obtain ⟨A7, c7, rfl⟩ := ownJ_form HO6.out
            have hl1 : zs.length + 1 = (zs ++ [xi]).length := by simp
            rw [hl1] at HO6
            rw [hl1]
            go_wp2
            go_roundw
            case rel => exact ⟨j + 1, A7, c7, zs ++ [xi], by omega, rfl, by go_num, hide HX.out.symm, HO6, hide (HB5.out.trans HB6.out)⟩
            case measure => simp [intOf]; omega
          · have HX := hide (by rw [HNj.out hmem]; exact HZ.out : zs = refsL l k (l.take (j + 1)))
            have hdec := HARj.out.trans (decide_eq_false hmem)
            clear HYj HNj HZ hmem HARj
            go_wp2_with (first
              | (go_at_call 48; refine HSJ.out.mono ?_; rintro e w3 ⟨A9, c9, rfl, hrow, hbl⟩; have HI9 := hide (rdK_own (f := Sp.vals) (K := 7) (fun _ => rfl) (by decide) hrow); have HO3 := hide (ownJ_below HO2.out hbl); have HB4 := hide (below_chainT HB2.out hbl); have HK4 := hide (HK2.out.below hbl HK2.out.lt); clear hrow hbl)
              | (go_at_call 47; refine (HCS.out _ w3 HK4.out sp HSLj.out A9 c9 HI9.out).mono ?_; rintro e w4 ⟨rfl, hbl⟩; rw [hdec]; have HO5 := hide (ownJ_below HO3.out hbl); have HB5 := hide (below_chainT HB4.out hbl); clear hbl))
            go_roundw
            case rel => exact ⟨j + 1, A3, c3, zs, by omega, rfl, by go_num, HX, HO5, HB5⟩
            case measure => simp [intOf]; omega
        · obtain rfl : j = l.length := by omega
          have hzz : zs = refsL l k l := by have := HZ.out; rwa [List.take_length] at this
          rw [← hzz] at HF
          have HI := hide (intsAt_of_own HOW.out)
          have HBZ := hide (below_chainT HB3.out HB.out)
          clear HZ HOW HB hzz
          go_wp2
          exact HF.out _ _ _ _ rfl HI.out HBZ.out
  · have HF := hide (fun w' => HPO.out [] (baseErr l) 0 none 0 w' (by unfold rfsRes; rw [if_pos he]) rfl IntsAt.nil)
    have e1 : (baseErr l != 0) = true := bne_iff_ne.2 he
    have e0 : (baseErr l == 0) = false := beq_eq_false_iff_ne.2 he
    clear HPO hA hk hmt he
    generalize baseErr l = E at *
    go_enter Tryz.func17, Tryz.ntmps17
    go_upto_region 2 with (go_at_call 37; refine HOP.out.mono ?_; rintro e w1 ⟨rfl, hb1⟩; have HB1 := hide (below_chainT HWA.out hb1); have HK1 := hide (HQK.out.below hb1 HQK.out.lt); clear hb1)
    have HB2 := hide (bl_alloc HB1.out (.cells #[.slice A l.length c] 71))
    have HQB := hide (Blk.new w1 71 #[.slice A l.length c])
    have HK2 := hide (HK1.out.below (bl_alloc (Below.refl w1.heap.size w1) (.cells #[.slice A l.length c] 71)) HK1.out.lt)
    generalize w1.alloc (.cells #[.slice A l.length c] 71) = W2 at *
    have a0 := HQB.out.cell 0
    have alt := HQB.out.lt
    have k0 := HK2.out.cell 0
    have klt := HK2.out.lt
    simp only [List.getElem?_toArray, List.getElem?_cons_zero] at a0 k0
    go_wp2
    exact HF.out _ HB2.out

end Go.Proofs.YtioppoaijehicaaGreatDoor
/-
  WALKS: the reference's BrokenFor.
-/
set_option linter.all false
namespace Go.Proofs.YtioppoaijehicaaGreatDoor
open Go.RowKit Go.Lib Go.Maps Go.WideElems Go.WideMaps Go.Shelf

theorem lks_page {l : List BK} (R : Right l) : ∀ x ∈ lksOf l l, 0 ≤ x.page := by
  intro x hx
  obtain ⟨b, -, hb⟩ := List.mem_flatMap.1 hx
  have hf : ∀ s, 0 ≤ leadF l s := fun s => leadL_pos R _
  unfold lksBl lksV at hb
  rcases List.mem_append.1 hb with hb | hb
  · obtain ⟨y, -, hy⟩ := List.mem_filterMap.1 hb
    split at hy
    · injection hy with hy; subst hy; exact hf _
    · cases hy
  · obtain ⟨p, -, hp⟩ := List.mem_flatMap.1 hb
    obtain ⟨v, -, hv⟩ := List.mem_filterMap.1 hp
    split at hv
    · injection hv with hv; subst hv; exact hf _
    · cases hv

set_option maxHeartbeats 800000 in
theorem brokenFor1_any (x : Lk) (hx : 0 ≤ x.page) (w : World) :
    Calls Tryz.prog 52 #[.agg #[.int .i64 x.block, .int .i64 x.fr, .int .i64 x.to, .string x.prop, .string x.title, .int .i64 x.page]] w fun e w' => e = .returned (.bool (!(x.page == 0))) ∧ Below w.heap.size w w' := by
  obtain ⟨bk, fr, tt, pr, ti, pg⟩ := x
  (try simp only at hx ⊢)
  have HPO : Hid (∀ b w', b = decide ((0 : Int) < pg) → Below w.heap.size w w' → (fun (e : Ending) (w' : World) => e = .returned (.bool (!(pg == 0))) ∧ Below w.heap.size w w') (.returned (.bool b)) w') := hide fun b w' h1 h => ⟨by
    subst h1
    by_cases h0 : pg = 0
    · subst h0; rfl
    · have e0 : (pg == 0) = false := beq_eq_false_iff_ne.2 h0
      rw [e0, decide_eq_true (by omega)]
      rfl, h⟩
  generalize (fun (e : Ending) (w' : World) => e = .returned (.bool (!(pg == 0))) ∧ Below w.heap.size w w') = PO at *
  clear hx
  go_enter Tryz.func52, Tryz.ntmps52
  go_wp2
  exact HPO.out _ _ rfl (by repeat (first | with_reducible exact Below.refl _ _ | with_reducible refine bl_plus ?_ | with_reducible refine bl_alloc ?_ _ | with_reducible refine bl_drew ?_ | with_reducible refine bl_drewN ?_ _))

set_option maxHeartbeats 12800000 in
set_option maxRecDepth 100000 in
theorem brokenFor_any (l : List BK) (A : Option Addr) (c : Nat) (w : World) (hA : BsAt w A l) (hk : ∀ b ∈ l, ∀ k ∈ b.kids, In64 k) (hc : l.length ≤ c) (hmt : MaxTold w) :
    Calls Tryz.prog 19 #[.slice A l.length c] w (BrkOut (brkRes l) w) := by
  have HPO : Hid (∀ (zs : List Lk) (ps : List (Int × Int)) (b : Int) (n m : Nat) A c B d w', brkRes l = ((zs, ps), b) → n = zs.length → m = ps.length → RdK Lk.vals 6 w' A zs → RdK prV 2 w' B ps → Below w.heap.size w w' → BrkOut (brkRes l) w (.returned (.tuple #[.slice A n c, .slice B m d, .int .i64 b])) w') := hide fun zs ps b n m A c B d w' h1 h0 h9 h2 h3 h4 => by subst h0 h9; rw [h1]; exact ⟨A, c, B, d, rfl, h2, h3, h4⟩
  generalize BrkOut (brkRes l) w = PO at *
  have HOP := hide (openBook_any l A c w hA hk hmt)
  unfold OpOut at HOP
  by_cases he : baseErr l = 0
  · have R := right_of he
    have hln := R.len
    obtain ⟨b0, o0, rfl, -⟩ := hA.2 R.pos
    have HBK0 := hide (fun W (hb : Below w.heap.size w W) => (⟨R, hA, hmt, hb⟩ : BK0 l (some ⟨b0, o0, none⟩) c w W))
    have HBK := hide (fun j (hj : j < l.length) => bk_ok R (List.getElem_mem hj))
    have HST := hide (fun j (hj : j < l.length) => brkL_step (l := l) hj)
    have HLN := hide (brk_all_len R)
    have HA := hide hA
    have HF := hide (fun n m A c B d w' => HPO.out ((lksOf l l).filter fun x => x.page == 0) (brkL l l) 0 n m A c B d w' (by unfold brkRes; rw [if_neg (fun h => h he)]))
    have HSP := hide (fun W (hb : Below w.heap.size w W) (x : BK) (hx : BkOk x) A1 m1 c1 A2 m2 c2 => bookSpans_any l _ c w W (HBK0.out W hb) x hx A1 m1 c1 A2 m2 c2 5)
    unfold RowSp at HSP
    have HSL := hide (fun (x : BK) (hx : BkOk x) => (by have h1 := spB_len l x.id x.txt; have h2 := hx.t2k; have h3 : (ofKd 5 (spB l x.id x.txt)).length ≤ (spB l x.id x.txt).length := List.length_filter_le _ _; omega : (ofKd 5 (spB l x.id x.txt)).length ≤ 2000))
    have HRB := hide (fun (x : BK) => (show rfB l x = tidy ((ofKd 5 (spB l x.id x.txt)).map (·.id)) by rw [← rfIds_ofKd]; rfl))
    have HDF := hide (show ∀ x : List Int, Lib.compact (x.mergeSort fun a b => decide (a ≤ b)) = tidy x from fun _ => rfl)
    have HTL := hide (fun (zs : List Int) => tidy_le zs)
    have HBY := hide (fun (k : Int) (h : (ixOf l k).isSome = true) => ix_some h)
    have HBB := hide (fun W (hb : Below w.heap.size w W) (m : Nat) (hm : m < l.length) => bookBlock_any l _ c w W (HBK0.out W hb) hm)
    unfold BbOut at HBB
    have HBN := hide (fun W (hb : Below w.heap.size w W) (k : Int) (h : ixOf l k = none) => bookBlockNo_any l _ c w W (HBK0.out W hb) k (ix_none R.good.ids h))
    have HLS := hide (fun W (hb : Below w.heap.size w W) => bookLinks_any l _ c w W (HBK0.out W hb) hc)
    rw [lksOf_root he] at HLS
    unfold RowLk at HLS
    have hL : (lksOf l l).length ≤ 5000000 := by have := lks_all_len R l.length; rw [List.take_length] at this; omega
    have HPG := hide (lks_page R)
    obtain ⟨iP, hiP, hzP0, hzP1, hzP2⟩ := info_parts info_pr
    have HIP := hide (And.intro hiP (And.intro hzP0 (And.intro hzP1 hzP2)))
    rw [he] at HOP
    clear HPO hA hk hmt he R hiP hzP0 hzP1 hzP2 HBK0
    generalize lksOf l l = L at *
    have HDL := hide (fun w1 w3 A3 c3 (hb : Below w1.heap.size w1 w3) (ho : OwnK 6 45 w3 w1.heap.size (.slice A3 L.length c3) L.length (flatG Lk.vals L)) => delLn_row 52 (fun x => x.page == 0) w1 w1.heap.size c3 A3 L w3 hL (enters_of Tryz.func52 (by kernel_rfl) rfl) ho hb (Nat.le_refl _) (fun x hx W hbw => brokenFor1_any x (HPG.out x hx) W))
    generalize hM : L.filter (fun x => x.page == 0) = M at *
    go_enter Tryz.func19, Tryz.ntmps19
    go_upto_region 2 with (go_at_call 37; refine HOP.out.mono ?_; rintro e w1 ⟨rfl, hb1⟩; have HB1 := hide hb1; clear hb1)
    have HB2 := hide (bl_alloc HB1.out (.cells #[.slice (some ⟨b0, o0, none⟩) l.length c] 71))
    have HQB := hide (Blk.new w1 71 #[.slice (some ⟨b0, o0, none⟩) l.length c])
    generalize w1.alloc (.cells #[.slice (some ⟨b0, o0, none⟩) l.length c] 71) = W2 at *
    generalize hgb : w1.heap.size = gb at *
    have a0 := HQB.out.cell 0
    have alt := HQB.out.lt
    simp only [List.getElem?_toArray, List.getElem?_cons_zero] at a0
    go_upto_region 6 with (first
      | (go_at_call 39; refine (HLS.out _ HB2.out).mono ?_; rintro e w3 ⟨A3, c3, rfl, ho3, hb3⟩; have HO3 := hide ho3; have HB23 := hide hb3; clear ho3 hb3)
      | (go_at_call 40; refine (HDL.out W2 w3 A3 c3 HB23.out HO3.out).mono ?_; rintro e w4 ⟨rfl, ho4, hg4⟩; have HR := hide (rdK_own (f := Lk.vals) (K := 6) valsLk_len (by decide) ho4); have HB24 := hide (HB23.out.grown hg4 HB23.out.size (fun k9 hk9 => (HO3.out.lt k9 hk9).1)); clear ho4 hg4))
    clear a0 alt HLS HDL hM hL HO3 HB23 HOP HPG
    obtain ⟨W4, hW4⟩ : ∃ W4 : World, W4 = w4 := ⟨_, rfl⟩
    subst hW4
    have HB5 := hide (below_chainT HB2.out HB24.out)
    have HQ4 := hide (HQB.out.below HB24.out HQB.out.lt)
    clear HB24 HQB HB2 HB1
    go_wp2
    go_loopw [8, 29] (fun s8 i9 wr => ∃ (j : Nat) (out : List (Int × Int)), j ≤ l.length ∧ i9 = .int .i64 j ∧ Hid (out = brkL l (l.take j)) ∧ Hid (OwnK 2 48 wr W4.heap.size s8 out.length (flatG prV out)) ∧ Hid (Below W4.heap.size W4 wr)) (fun _ i9 _ => l.length - (intOf i9).toNat)
    case atStart => exact ⟨0, [], Nat.zero_le _, rfl, hide rfl, hide OwnK.empty, hide (by repeat (first | with_reducible exact Below.refl _ _ | with_reducible refine bl_plus ?_ | with_reducible refine bl_alloc ?_ _ | with_reducible refine bl_drew ?_ | with_reducible refine bl_drewN ?_ _))⟩
    case round =>
      obtain ⟨j, out, hj, rfl, HO, HS, HB⟩ := hrel
      obtain ⟨A5, c5, rfl, hs1, hs2, hs3⟩ := ownK_form HS.out
      obtain ⟨WR, hWR⟩ : ∃ WR : World, WR = wr := ⟨_, rfl⟩
      subst hWR
      by_cases hlt : j < l.length
      · obtain ⟨b, o, A1, c1, A2, c2, eA, hlb, q0, q1, q2, q3, q4, -, -⟩ := HA.out.getB (below_chainT HB5.out HB.out) hlt
        injection eA with eA
        injection eA with eA1 eA2
        subst eA1 eA2
        have i1 : (j : Int) < (l.length : Int) := by omega
        have hol : out.length ≤ 4000000 := by rw [HO.out]; exact HLN.out j
        have HX := hide (by rw [HST.out j hlt, ← HO.out] : brkL l (l.take (j + 1)) = out ++ brk1 l l[j].id (rfB l l[j]))
        have HRBj := hide (HRB.out l[j])
        have HSLj := hide (HSL.out l[j] (HBK.out j hlt))
        go_upto_region 9 with (fail)
        have HB2 := hide (bl_alloc HB.out (.cells #[.int .i64 l[j].id, .int .i64 l[j].par, .slice A1 l[j].kids.length c1, .string l[j].txt, .slice A2 l[j].ps.length c2] 82))
        have HO2 := hide (ownK_alloc HS.out (.cells #[.int .i64 l[j].id, .int .i64 l[j].par, .slice A1 l[j].kids.length c1, .string l[j].txt, .slice A2 l[j].ps.length c2] 82))
        have HSJ := hide (HSP.out (WR.alloc (.cells #[.int .i64 l[j].id, .int .i64 l[j].par, .slice A1 l[j].kids.length c1, .string l[j].txt, .slice A2 l[j].ps.length c2] 82)) (below_chainT HB5.out HB2.out) l[j] (HBK.out j hlt) A1 l[j].kids.length c1 A2 l[j].ps.length c2)
        have HBX := hide (Blk.new WR 82 #[.int .i64 l[j].id, .int .i64 l[j].par, .slice A1 l[j].kids.length c1, .string l[j].txt, .slice A2 l[j].ps.length c2])
        clear q0 q1 q2 q3 q4 HS HB HO
        generalize WR.alloc (.cells #[.int .i64 l[j].id, .int .i64 l[j].par, .slice A1 l[j].kids.length c1, .string l[j].txt, .slice A2 l[j].ps.length c2] 82) = W2' at *
        have z0 := HBX.out.cell 0
        have z1 := HBX.out.cell 1
        have z2 := HBX.out.cell 2
        have z3 := HBX.out.cell 3
        have z4 := HBX.out.cell 4
        have zlt := HBX.out.lt
        have HQ2 := hide (HQ4.out.below HB2.out HQ4.out.lt)
        have a0 := HQ2.out.cell 0
        have alt := HQ2.out.lt
        simp only [List.getElem?_toArray, List.getElem?_cons_succ, List.getElem?_cons_zero] at z0 z1 z2 z3 z4 a0
        generalize ofKd 5 (spB l l[j].id l[j].txt) = sp at *
        generalize rfB l l[j] = rs at *
        generalize l[j] = x at *
        obtain ⟨xi, xp, xk, xt, xs⟩ := x
        (try simp only at *)
        have hspl : sp.length ≤ 2000 := HSLj.out
        generalize hg0 : WR.heap.size = g0 at *
        go_upto_block 90 with (go_at_call 48; refine HSJ.out.mono ?_; rintro e w3 ⟨A9, c9, rfl, hrow, hbl⟩; have HRD := hide (rdK_own (f := Sp.vals) (K := 7) (fun _ => rfl) (by decide) hrow); have HO3 := hide (ownK_below HO2.out hbl); have HB3 := hide (below_chainT HB2.out hbl); have HX3 := hide (HBX.out.below hbl HBX.out.lt); clear hrow hbl)
        clear z0 z1 z2 z3 z4 zlt HBX HSJ HB2 HO2 a0 alt HQ2
        obtain ⟨W3, hW3⟩ : ∃ W3 : World, W3 = w3 := ⟨_, rfl⟩
        subst hW3
        go_loopw [11, 37] (fun s11 i9 wr => ∃ (i : Nat) (A6 : Option Addr) (c6 : Nat) (zs : List Int), i ≤ sp.length ∧ s11 = .slice A6 zs.length c6 ∧ i9 = .int .i64 i ∧ Hid (zs = (sp.take i).map (·.id)) ∧ Hid (wr.ownsRow W3.heap.size 3 1 (.slice A6 zs.length c6) zs.length (zs.map (Value.int .i64))) ∧ Hid (Below W3.heap.size W3 wr)) (fun _ i9 _ => sp.length - (intOf i9).toNat)
        case atStart => exact ⟨0, none, 0, [], Nat.zero_le _, rfl, rfl, hide rfl, hide (World.ownsRow_nil _ _ _ _), hide (by repeat (first | with_reducible exact Below.refl _ _ | with_reducible refine bl_plus ?_ | with_reducible refine bl_alloc ?_ _ | with_reducible refine bl_drew ?_ | with_reducible refine bl_drewN ?_ _))⟩
        case round =>
          obtain ⟨i, A6, c6, zs, hi, rfl, rfl, HZ, HOW, HB⟩ := hrel
          obtain ⟨W5, hW5⟩ : ∃ W5 : World, W5 = wr := ⟨_, rfl⟩
          subst hW5
          have hzl : zs.length ≤ 2000 := by
            rw [HZ.out, List.length_map, List.length_take]
            omega
          by_cases hlt2 : i < sp.length
          · obtain ⟨bS, oS, rfl, hbS, hv0⟩ := (HRD.out.below HB.out) (by omega)
            have hv := hv0 i hlt2
            have c0 := hv 0 (by decide)
            have c1' := hv 1 (by decide)
            have c2' := hv 2 (by decide)
            have c3' := hv 3 (by decide)
            have c4' := hv 4 (by decide)
            have c5' := hv 5 (by decide)
            have c6' := hv 6 (by decide)
            have HZX := hide (by rw [List.take_succ_eq_append_getElem hlt2, List.map_append, ← HZ.out]; rfl : (sp.take (i + 1)).map (·.id) = zs ++ [sp[i].id])
            have i2 : (i : Int) < (sp.length : Int) := by omega
            clear hv hv0 HZ
            generalize sp[i] = y at *
            obtain ⟨kd, fr, tt, tx, sh, xid, st⟩ := y
            dsimp only [Sp.vals] at c0 c1' c2' c3' c4' c5' c6' HZX
            simp only [List.getElem?_cons_zero, List.getElem?_cons_succ, Nat.add_zero] at c0 c1' c2' c3' c4' c5' c6'
            go_upto_region 13 with (fail)
            have HXS := hide (Blk.new W5 90 #[.int .i64 kd, .int .i64 fr, .int .i64 tt, .string tx, .string sh, .int .i64 xid, .bool st])
            have HBS := hide (bl_alloc HB.out (.cells #[.int .i64 kd, .int .i64 fr, .int .i64 tt, .string tx, .string sh, .int .i64 xid, .bool st] 90))
            have HOS := hide (HOW.out.alloc (.cells #[.int .i64 kd, .int .i64 fr, .int .i64 tt, .string tx, .string sh, .int .i64 xid, .bool st] 90))
            generalize W5.alloc (.cells #[.int .i64 kd, .int .i64 fr, .int .i64 tt, .string tx, .string sh, .int .i64 xid, .bool st] 90) = W6 at *
            have y5 := HXS.out.cell 5
            have ylt := HXS.out.lt
            simp only [List.getElem?_toArray, List.getElem?_cons_succ, List.getElem?_cons_zero] at y5
            have HSZ := hide HBS.out.size
            clear c0 c1' c2' c3' c4' c5' c6' HXS HOW HB
            go_wp2_with (at_builtin; refine wpList_append_int rfl (.tmp 41) (.tmp 44) rfl W3.heap.size zs.length _ zs xid _ rfl HOS.out rfl rfl (by omega) HSZ.out ?_; intro v' w5 hown5 hb5; have HO5 := hide hown5; have HB5' := hide hb5; clear hown5 hb5)
            obtain ⟨A7, c7, rfl⟩ := ownJ_form HO5.out
            have hl1 : zs.length + 1 = (zs ++ [xid]).length := by simp
            rw [hl1] at HO5
            rw [hl1]
            go_wp2
            go_roundw
            case rel => exact ⟨i + 1, A7, c7, zs ++ [xid], by omega, rfl, by go_num, hide HZX.out.symm, HO5, hide (HBS.out.trans HB5'.out)⟩
            case measure => simp [intOf]; omega
          · obtain rfl : i = sp.length := by omega
            have hzz : zs = sp.map (·.id) := by have := HZ.out; rwa [List.take_length] at this
            have hrs : rs = tidy zs := by rw [HRBj.out, hzz]
            have HRS := hide hrs
            have hrl : rs.length ≤ 2000 := by have := HTL.out zs; rw [← hrs] at this; omega
            have HSO := hide (sortI_any W5 W3.heap.size c6 A6 zs HOW.out (by omega))
            have HSB := hide (fun w2 (hg : W5.grownBy w2 (Value.slice A6 zs.length c6).ownBlock) => (HB.out.grown hg HB.out.size (own_block HOW.out) : Below W3.heap.size W3 w2))
            have HSLL := hide (show (zs.mergeSort fun a b => decide (a ≤ b)).length = zs.length from List.length_mergeSort _)
            have HCO := hide (fun w2 (h : World.ownsRow w2 W3.heap.size 3 1 (.slice A6 zs.length c6) zs.length ((zs.mergeSort fun a b => decide (a ≤ b)).map (Value.int .i64))) => compactI_n w2 W3.heap.size c6 zs.length A6 (zs.mergeSort fun a b => decide (a ≤ b)) HSLL.out h (by rw [HSLL.out]; omega))
            rw [HDF.out, ← hrs] at HCO
            have HCG := hide (fun w2 w3 (hb : Below W3.heap.size W3 w2) (ho : World.ownsRow w2 W3.heap.size 3 1 (.slice A6 zs.length c6) zs.length ((zs.mergeSort fun a b => decide (a ≤ b)).map (Value.int .i64))) (hg : w2.grownBy w3 (Value.slice A6 zs.length c6).ownBlock) => (hb.grown hg hb.size (own_block ho) : Below W3.heap.size W3 w3))
            clear HSLL HOW hzz HZ HRD hrs HRS HRBj
            go_upto_block 91 with (first
              | (go_at_call 53; refine HSO.out.mono ?_; rintro e w2 ⟨rfl, ho2, hg2⟩; have HO2 := hide ho2; have HB2 := hide (HSB.out w2 hg2); clear ho2 hg2)
              | (go_at_call 54; refine (HCO.out _ HO2.out).mono ?_; rintro e w7 ⟨rfl, ho3, hg3⟩; have HI9 := hide (iblk_of_own ho3); have HB7 := hide (HCG.out w2 w7 HB2.out HO2.out hg3); clear ho3 hg3))
            have HO7 := hide (ownK_below HO3.out HB7.out)
            have HX7 := hide (HX3.out.below HB7.out HX3.out.lt)
            have HB47 := hide (below_chainT HB3.out HB7.out)
            clear HSO HSB HCO HCG HB HO2 HB2 HO3 HX3 HB3 HB7
            go_loopw [8, 52] (fun s8 i8 wr => ∃ (i : Nat) (o2 : List (Int × Int)), i ≤ rs.length ∧ i8 = .int .i64 i ∧ Hid (o2 = out ++ brk1 l xi (rs.take i)) ∧ Hid (OwnK 2 48 wr W4.heap.size s8 o2.length (flatG prV o2)) ∧ Hid (Below W4.heap.size W4 wr) ∧ Hid (IBlk wr A6 rs) ∧ Hid (Blk wr g0 82 #[.int .i64 xi, .int .i64 xp, .slice A1 xk.length c1, .string xt, .slice A2 xs.length c2])) (fun _ i8 _ => rs.length - (intOf i8).toNat)
            case atStart => exact ⟨0, out, Nat.zero_le _, rfl, hide (by simp [brk1]), HO7, HB47, HI9, HX7⟩
            case round =>
              clear HO7 HB47 HI9 HX7
              obtain ⟨i, o2, hi, rfl, HO2, HS, HB, HI, HX3⟩ := hrel
              obtain ⟨A8, c8, rfl, hs4, hs5, hs6⟩ := ownK_form HS.out
              obtain ⟨W8, hW8⟩ : ∃ W8 : World, W8 = wr := ⟨_, rfl⟩
              subst hW8
              by_cases hlt3 : i < rs.length
              · obtain ⟨gI, rfl, hgI, cI⟩ := HI.out.get hlt3
                have i3 : (i : Int) < (rs.length : Int) := by omega
                have hol3 : o2.length ≤ 4002000 := by
                  have h1 := brk1_len l xi (rs.take i)
                  rw [List.length_take] at h1
                  rw [HO2.out, List.length_append]
                  omega
                have HBG := hide (show (o2.length + 1) * iP.bytes ≤ 140737488355328 ∧ o2.length + 1 ≤ 140737488355328 by have h9 := HIP.out.2.2.2; rw [h9]; omega)
                have HYES := hide (fun h => brk1_yes (l := l) (id := xi) hlt3 h)
                have HSN := hide (fun h => brk1_no (l := l) (id := xi) hlt3 h)
                have x0 := HX3.out.cell 0
                have xlt := HX3.out.lt
                have HQ8 := hide (HQ4.out.below HB.out HQ4.out.lt)
                have a0 := HQ8.out.cell 0
                have alt := HQ8.out.lt
                simp only [List.getElem?_toArray, List.getElem?_cons_zero] at x0 a0
                have HBW8 := hide (below_chainT HB5.out HB.out)
                generalize rs[i] = k at *
                by_cases hk0 : k = 0
                · subst hk0
                  have HX2 := hide (by rw [HYES.out (.inl rfl), ← List.append_assoc, ← HO2.out] : out ++ brk1 l xi (rs.take (i + 1)) = o2 ++ [(xi, 0)])
                  clear HYES HSN HO2
                  go_wp2_with (at_builtin; go_loud (refine wpList_append_b rfl (.tmp 64) (.tmp 69) rfl rfl Tryz.underlying40 HIP.out.1 HIP.out.2.1 HIP.out.2.2.1 (by decide) rfl (by have := HIP.out.2.2.2; omega) W4.heap.size o2.length (.slice A8 o2.length c8) (flatG prV o2) [.int .i64 xi, .int .i64 0] W8.heap.size rfl (ownK_below HS.out (by repeat (first | with_reducible exact Below.refl _ _ | with_reducible refine bl_plus ?_ | with_reducible refine bl_alloc ?_ _ | with_reducible refine bl_drew ?_ | with_reducible refine bl_drewN ?_ _))) rfl (by intro u hu; simp only [List.mem_cons, List.not_mem_nil, or_false] at hu; rcases hu with rfl | rfl <;> rfl) rfl (newN_cells rfl) HBG.out (by have := HB.out.size; simp only [World.size_alloc]; omega) ?_; intro v' w1 hown hgr hfr; have HOW := hide hown; have HBW := hide (below_grown1 HB.out hgr (by repeat (first | with_reducible exact Below.refl _ _ | with_reducible refine bl_plus ?_ | with_reducible refine bl_alloc ?_ _ | with_reducible refine bl_drew ?_ | with_reducible refine bl_drewN ?_ _)) (fun k hk => (HS.out.lt k hk).1)); have HIW := hide (HI.out.grown1 hgr (by repeat (first | with_reducible exact Below.refl _ _ | with_reducible refine bl_plus ?_ | with_reducible refine bl_alloc ?_ _ | with_reducible refine bl_drew ?_ | with_reducible refine bl_drewN ?_ _)) HS.out (by decide)); have HXW := hide (blk_grown1 HX3.out hgr (by repeat (first | with_reducible exact Below.refl _ _ | with_reducible refine bl_plus ?_ | with_reducible refine bl_alloc ?_ _ | with_reducible refine bl_drew ?_ | with_reducible refine bl_drewN ?_ _)) HS.out (by decide)); clear hown hgr hfr))
                  go_roundw
                  case rel => exact ⟨i + 1, o2 ++ [(xi, 0)], by omega, by go_num, hide HX2.out.symm, hide (by rw [List.length_append, flatG_snoc]; exact HOW.out), HBW, HIW, HXW⟩
                  case measure => simp [intOf]; omega
                · have e0 : (k == 0) = false := beq_eq_false_iff_ne.2 hk0
                  cases hix : ixOf l k with
                  | none =>
                    have HX2 := hide (by rw [HYES.out (.inr hix), ← List.append_assoc, ← HO2.out] : out ++ brk1 l xi (rs.take (i + 1)) = o2 ++ [(xi, k)])
                    have HBNk := hide (HBN.out W8 HBW8.out k hix)
                    clear HYES HSN HO2 hix hk0
                    go_upto_region 20 with (go_at_call 46; refine HBNk.out.mono ?_; rintro e w9 ⟨rfl, hbl⟩; have HS9 := hide (ownK_below HS.out hbl); have HB9 := hide (below_chainT HB.out hbl); have HI9 := hide (HI.out.below hbl); have HX9 := hide (HX3.out.below hbl HX3.out.lt); clear hbl)
                    have x9 := HX9.out.cell 0
                    have xlt9 := HX9.out.lt
                    simp only [List.getElem?_toArray, List.getElem?_cons_zero] at x9
                    go_wp2_with (at_builtin; go_loud (refine wpList_append_b rfl (.tmp 64) (.tmp 69) rfl rfl Tryz.underlying40 HIP.out.1 HIP.out.2.1 HIP.out.2.2.1 (by decide) rfl (by have := HIP.out.2.2.2; omega) W4.heap.size o2.length (.slice A8 o2.length c8) (flatG prV o2) [.int .i64 xi, .int .i64 k] w9.heap.size rfl (ownK_below HS9.out (by repeat (first | with_reducible exact Below.refl _ _ | with_reducible refine bl_plus ?_ | with_reducible refine bl_alloc ?_ _ | with_reducible refine bl_drew ?_ | with_reducible refine bl_drewN ?_ _))) rfl (by intro u hu; simp only [List.mem_cons, List.not_mem_nil, or_false] at hu; rcases hu with rfl | rfl <;> rfl) rfl (newN_cells rfl) HBG.out (by have := HB9.out.size; simp only [World.size_alloc]; omega) ?_; intro v' w1 hown hgr hfr; have HOW := hide hown; have HBW := hide (below_grown1 HB9.out hgr (by repeat (first | with_reducible exact Below.refl _ _ | with_reducible refine bl_plus ?_ | with_reducible refine bl_alloc ?_ _ | with_reducible refine bl_drew ?_ | with_reducible refine bl_drewN ?_ _)) (fun k hk => (HS9.out.lt k hk).1)); have HIW := hide (HI9.out.grown1 hgr (by repeat (first | with_reducible exact Below.refl _ _ | with_reducible refine bl_plus ?_ | with_reducible refine bl_alloc ?_ _ | with_reducible refine bl_drew ?_ | with_reducible refine bl_drewN ?_ _)) HS9.out (by decide)); have HXW := hide (blk_grown1 HX9.out hgr (by repeat (first | with_reducible exact Below.refl _ _ | with_reducible refine bl_plus ?_ | with_reducible refine bl_alloc ?_ _ | with_reducible refine bl_drew ?_ | with_reducible refine bl_drewN ?_ _)) HS9.out (by decide)); clear hown hgr hfr))
                    go_roundw
                    case rel => exact ⟨i + 1, o2 ++ [(xi, k)], by omega, by go_num, hide HX2.out.symm, hide (by rw [List.length_append, flatG_snoc]; exact HOW.out), HBW, HIW, HXW⟩
                    case measure => simp [intOf]; omega
                  | some q =>
                    have HX2 := hide (by rw [HSN.out (fun h => h.elim hk0 (fun h => by rw [hix] at h; cases h))]; exact HO2.out : o2 = out ++ brk1 l xi (rs.take (i + 1)))
                    obtain ⟨m, hm, hmk⟩ := HBY.out k (by rw [hix]; rfl)
                    have HBBk := hide (by have := HBB.out W8 HBW8.out m hm; rwa [hmk] at this : Calls Tryz.prog 46 #[.agg #[.slice (some ⟨b0, o0, none⟩) l.length c], .int .i64 k] W8 (fun e w' => (∃ b o, some (⟨b0, o0, none⟩ : Addr) = some ⟨b, o, none⟩ ∧ e = .returned (.pointer (some ⟨b, o + m * 5, none⟩))) ∧ Below W8.heap.size W8 w'))
                    clear HYES HSN HO2 hix hk0 hm hmk
                    go_wp2_with (go_at_call 46; refine HBBk.out.mono ?_; rintro e w9 ⟨⟨b9, o9, -, rfl⟩, hbl⟩; have HS9 := hide (ownK_below HS.out hbl); have HB9 := hide (below_chainT HB.out hbl); have HI9 := hide (HI.out.below hbl); have HX9 := hide (HX3.out.below hbl HX3.out.lt); clear hbl)
                    go_roundw
                    case rel => exact ⟨i + 1, o2, by omega, by go_num, HX2, HS9, HB9, HI9, HX9⟩
                    case measure => simp [intOf]; omega
              · obtain rfl : i = rs.length := by omega
                have HX2 := hide (by have := HO2.out; rw [List.take_length] at this; rw [this]; exact HX.out.symm : o2 = brkL l (l.take (j + 1)))
                go_wp2
                go_roundw
                case rel => exact ⟨j + 1, o2, by omega, by go_num, HX2, HS, HB⟩
                case measure => simp [intOf]; omega
      · obtain rfl : j = l.length := by omega
        have hzz : out = brkL l l := by have := HO.out; rwa [List.take_length] at this
        rw [← hzz] at HF
        have HRP := hide (rdK_own (f := prV) (K := 2) valsPr_len (by decide) HS.out)
        have HRW := hide (HR.out.below HB.out)
        have HBZ := hide (below_chainT HB5.out HB.out)
        clear HO HS HB hzz HR
        go_wp2
        exact HF.out _ _ _ _ _ _ _ rfl rfl HRW.out HRP.out HBZ.out
  · have HF := hide (fun w' => HPO.out [] [] (baseErr l) 0 0 none 0 none 0 w' (by unfold brkRes; rw [if_pos he]) rfl rfl rdK_none rdK_none)
    have e1 : (baseErr l != 0) = true := bne_iff_ne.2 he
    clear HPO hA hk hmt he
    generalize baseErr l = E at *
    go_enter Tryz.func19, Tryz.ntmps19
    go_wp2_with (go_at_call 37; refine HOP.out.mono ?_; rintro e w1 ⟨rfl, hb1⟩; have HB1 := hide hb1; clear hb1)
    exact HF.out _ (bl_alloc HB1.out _)

end Go.Proofs.YtioppoaijehicaaGreatDoor
