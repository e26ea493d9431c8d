/-
  WALKS: the reference's book: the spans of a kind, all links.
-/
import Derived.Test.YtioppoaijehicaaGreatDoorLfg
import Derived.Test.YtioppoaijehicaaGreatDoorLkl
import Derived.Test.YtioppoaijehicaaGreatDoorSpo
set_option linter.all false
namespace Go.Proofs.YtioppoaijehicaaGreatDoor
open Go.RowKit Go.Lib Go.Maps Go.WideElems Go.WideMaps Go.Shelf

/-- A row of elements, as a block. -/
def KBlk {α : Type} (f : α → List Value) (K : Nat) (t : TypeId) (w : World) (A : Option Addr) (l : List α) : Prop := 0 < l.length → ∃ g cur, A = some ⟨g, 0, none⟩ ∧ Blk w g t cur ∧ ∀ j (h : j < l.length) i, i < K → cur[j * K + i]? = (f l[j])[i]?
section
variable {α : Type} {f : α → List Value} {K : Nat} {t : TypeId} {w w' : World} {A : Option Addr} {l : List α}

theorem KBlk.below (h : KBlk f K t w A l) (hb : Below w.heap.size w w') : KBlk f K t w' A l := fun h0 => by
  obtain ⟨g, cur, e, h1, h2⟩ := h h0
  exact ⟨g, cur, e, h1.below hb h1.lt, h2⟩

theorem KBlk.grown1 {K2 : Nat} {e : TypeId} {W4 w1 : World} {base n : Nat} {v : Value} {xs : List Value} (h : KBlk f K t w A l) (hg : W4.grownBy w1 v.ownBlock) (hb : Below w.heap.size w W4) (hS : OwnK K2 e w base v n xs) (hne : e ≠ t) : KBlk f K t w1 A l := fun h0 => by
  obtain ⟨g, cur, e, h1, h2⟩ := h h0
  exact ⟨g, cur, e, blk_grown1 h1 hg hb hS hne, h2⟩

theorem KBlk.get (h : KBlk f K t w A l) (h0 : 0 < l.length) : ∃ g, A = some ⟨g, 0, none⟩ ∧ g < w.heap.size ∧ ∀ j (h : j < l.length) i, i < K → w.cell? ⟨g, j * K + i, none⟩ = (f l[j])[i]? := by
  obtain ⟨g, cur, e, h1, h2⟩ := h h0
  exact ⟨g, e, h1.lt, fun j hj i hi => (h1.cell _).trans (h2 j hj i hi)⟩

theorem kblk_of_own {base n c : Nat} (hf : ∀ x, (f x).length = K) (hK : 0 < K) (h : OwnK K t w base (.slice A n c) n (flatG f l)) : KBlk f K t w A l := fun h0 => by
  obtain ⟨hl, A', c', hv, h1, h2, h3⟩ := h
  injection hv with e1 _ e3
  subst e1 e3
  rcases h3 with ⟨e, e2, e4⟩ | ⟨g', cur, rfl, hg, hb, h4, h5⟩
  · rw [flatG_len hf, e2, Nat.zero_mul] at hl
    rcases Nat.mul_eq_zero.1 hl with h | h <;> omega
  · refine ⟨g', cur, rfl, hb, fun j hj i hi => ?_⟩
    have hlen := flatG_len hf l
    have hjk : j * K + i < l.length * K := by
      have : (j + 1) * K ≤ l.length * K := Nat.mul_le_mul_right _ hj
      rw [Nat.add_mul, Nat.one_mul] at this
      omega
    rw [← flatG_get hf l j i hj hi, ← h5, List.getElem?_take_of_lt (by omega)]
    simp
end

/-! ### Spans of a kind -/
set_option maxHeartbeats 800000 in
theorem spans1_any (x : Sp) (gq : Nat) (k : Int) (w : World) (hc : w.cell? ⟨gq, 0, none⟩ = some (.int .i64 k)) (hlt : gq < w.heap.size) :
    Calls Tryz.prog 86 #[.agg #[.int .i64 x.kind, .int .i64 x.fr, .int .i64 x.to, .string x.txt, .string x.sho, .int .i64 x.id, .bool x.strong], .pointer (some ⟨gq, 0, none⟩)] w fun e w' => e = .returned (.bool (!(x.kind == k))) ∧ Below w.heap.size w w' := by
  obtain ⟨kd, fr, tt, tx, sh, xid, st⟩ := x
  (try simp only)
  have HPO : Hid (∀ w', Below w.heap.size w w' → (fun (e : Ending) (w' : World) => e = .returned (.bool (!(kd == k))) ∧ Below w.heap.size w w') (.returned (.bool (kd != k))) w') := hide fun w' h => ⟨rfl, h⟩
  generalize (fun (e : Ending) (w' : World) => e = .returned (.bool (!(kd == k))) ∧ Below w.heap.size w w') = PO at *
  go_enter Tryz.func86, Tryz.ntmps86
  go_wp2
  exact HPO.out _ (by repeat (first | with_reducible exact Below.refl _ _ | with_reducible refine bl_plus ?_ | with_reducible refine bl_alloc ?_ _ | with_reducible refine bl_drew ?_ | with_reducible refine bl_drewN ?_ _))

set_option maxHeartbeats 3200000 in
set_option maxRecDepth 100000 in
theorem bookSpans_any (l : List BK) (A : Option Addr) (c : Nat) (w0 W : World) (h : BK0 l A c w0 W) (x : BK) (hx : BkOk x) (A1 : Option Addr) (m1 c1 : Nat) (A2 : Option Addr) (m2 c2 : Nat) (k : Int) :
    Calls Tryz.prog 48 #[.agg #[.slice A l.length c], .agg #[.int .i64 x.id, .int .i64 x.par, .slice A1 m1 c1, .string x.txt, .slice A2 m2 c2], .int .i64 k] W (RowSp (ofKd k (spB l x.id x.txt)) W) := by
  have HIP := hide (fun W' (hb : Below W.heap.size W W') => bookIsPage_any l A c w0 W' (h.below hb) x.id)
  have HSO := hide (fun W' (hb : Below W.heap.size W W') => spansOf_any x.txt W' (by have := hx.t2k; omega) (maxTold_below (maxTold_below h.told h.bel) hb))
  unfold RowSp at HSO
  have hsl : (spansL x.txt).length ≤ 2000000 := by have := spansL_len x.txt; have := hx.t2k; omega
  have HPO : Hid (∀ A c n w', n = (ofKd k (spB l x.id x.txt)).length → OwnK 7 90 w' W.heap.size (.slice A n c) n (flatG Sp.vals (ofKd k (spB l x.id x.txt))) → Below W.heap.size W w' → RowSp (ofKd k (spB l x.id x.txt)) W (.returned (.slice A n c)) w') := hide fun A c n w' hn h1 h2 => by subst hn; exact ⟨A, c, rfl, h1, h2⟩
  clear h hx
  obtain ⟨xi, xp, xk, xt, xs⟩ := x
  (try simp only at *)
  generalize RowSp (ofKd k (spB l xi xt)) W = PO at *
  by_cases h0 : xi = 0
  · have he : ofKd k (spB l xi xt) = [] := by unfold spB; rw [if_pos (.inl h0)]; rfl
    rw [he] at HPO
    have HF := hide (fun w' hb => HPO.out none 0 0 w' rfl OwnK.empty hb)
    subst h0
    clear HPO he HIP HSO
    go_enter Tryz.func48, Tryz.ntmps48
    go_wp2
    exact HF.out _ (by repeat (first | with_reducible exact Below.refl _ _ | with_reducible refine bl_plus ?_ | with_reducible refine bl_alloc ?_ _ | with_reducible refine bl_drew ?_ | with_reducible refine bl_drewN ?_ _))
  · have e0 : (xi == 0) = false := beq_eq_false_iff_ne.2 h0
    cases hp : isPg l xi with
    | true =>
      have he : ofKd k (spB l xi xt) = [] := by unfold spB; rw [if_pos (.inr hp)]; rfl
      rw [he] at HPO
      rw [hp] at HIP
      have HF := hide (fun w' hb => HPO.out none 0 0 w' rfl OwnK.empty hb)
      clear HPO he HSO h0 hp
      go_enter Tryz.func48, Tryz.ntmps48
      go_wp2_with (go_at_call 38; refine (HIP.out _ (by repeat (first | with_reducible exact Below.refl _ _ | with_reducible refine bl_plus ?_ | with_reducible refine bl_alloc ?_ _ | with_reducible refine bl_drew ?_ | with_reducible refine bl_drewN ?_ _))).mono ?_; rintro e w1 ⟨rfl, hbl⟩; have HB := hide (below_chainT (show Below W.heap.size W _ from (by repeat (first | with_reducible exact Below.refl _ _ | with_reducible refine bl_plus ?_ | with_reducible refine bl_alloc ?_ _ | with_reducible refine bl_drew ?_ | with_reducible refine bl_drewN ?_ _))) hbl); clear hbl)
      exact HF.out _ HB.out
    | false =>
      have he : ofKd k (spB l xi xt) = (spansL xt).filter (fun x => x.kind == k) := by unfold spB; rw [if_neg (by rw [hp]; simp [h0])]; rfl
      rw [he] at HPO
      rw [hp] at HIP
      generalize spansL xt = L at *
      clear he h0 hp
      have HDL := hide (fun gq w1 (hq : Blk w1 gq 3 #[.int .i64 k]) w3 A3 c3 (hb : Below w1.heap.size w1 w3) (ho : OwnK 7 90 w3 w1.heap.size (.slice A3 L.length c3) L.length (flatG Sp.vals L)) => delSp_row 86 gq (fun x => x.kind == k) w1 w1.heap.size c3 A3 L w3 hsl (enters_of Tryz.func86 (by kernel_rfl) rfl) ho hb (Nat.le_refl _) (fun x hx W hbw => spans1_any x gq k W ((hq.below hbw hq.lt).cell 0) ((hq.below hbw hq.lt).lt)))
      generalize hM : L.filter (fun x => x.kind == k) = M at *
      go_enter Tryz.func48, Tryz.ntmps48
      go_upto_region 1 with (fail)
      have HW1 := hide (bl_alloc (Below.refl W.heap.size W) (.cells #[.slice A l.length c] 71))
      have HBA := hide (Blk.new W 71 #[.slice A l.length c])
      have hs1 : (W.alloc (.cells #[.slice A l.length c] 71)).heap.size = W.heap.size + 1 := by simp
      generalize W.alloc (.cells #[.slice A l.length c] 71) = Wa at *
      have HW2 := hide (bl_alloc HW1.out (.cells #[.int .i64 xi, .int .i64 xp, .slice A1 m1 c1, .string xt, .slice A2 m2 c2] 82))
      have HBB := hide (Blk.new Wa 82 #[.int .i64 xi, .int .i64 xp, .slice A1 m1 c1, .string xt, .slice A2 m2 c2])
      rw [hs1] at HBB
      have HBA2 := hide (HBA.out.below (bl_alloc (Below.refl Wa.heap.size Wa) (.cells #[.int .i64 xi, .int .i64 xp, .slice A1 m1 c1, .string xt, .slice A2 m2 c2] 82)) HBA.out.lt)
      have hs2 : (Wa.alloc (.cells #[.int .i64 xi, .int .i64 xp, .slice A1 m1 c1, .string xt, .slice A2 m2 c2] 82)).heap.size = W.heap.size + 1 + 1 := by simp [hs1]
      generalize Wa.alloc (.cells #[.int .i64 xi, .int .i64 xp, .slice A1 m1 c1, .string xt, .slice A2 m2 c2] 82) = Wb at *
      have HW3 := hide (bl_alloc HW2.out (.cells #[.int .i64 k] 3))
      have HBI := hide (Blk.new Wb 3 #[.int .i64 k])
      rw [hs2] at HBI
      have HBA3 := hide (HBA2.out.below (bl_alloc (Below.refl Wb.heap.size Wb) (.cells #[.int .i64 k] 3)) HBA2.out.lt)
      have HBB3 := hide (HBB.out.below (bl_alloc (Below.refl Wb.heap.size Wb) (.cells #[.int .i64 k] 3)) HBB.out.lt)
      generalize Wb.alloc (.cells #[.int .i64 k] 3) = Wc at *
      have a0 := HBA3.out.cell 0
      have alt := HBA3.out.lt
      have b0 := HBB3.out.cell 0
      have blt := HBB3.out.lt
      simp only [List.getElem?_toArray, List.getElem?_cons_succ, List.getElem?_cons_zero] at a0 b0
      go_upto_region 3 with (go_at_call 38; refine (HIP.out _ HW3.out).mono ?_; rintro e w1 ⟨rfl, hbl⟩; have HB1 := hide (below_chainT HW3.out hbl); have HI1 := hide (HBI.out.below hbl HBI.out.lt); have HX1 := hide (HBB3.out.below hbl HBB3.out.lt); clear hbl)
      have x3 := HX1.out.cell 3
      have xlt := HX1.out.lt
      simp only [List.getElem?_toArray, List.getElem?_cons_succ, List.getElem?_cons_zero] at x3
      have HSZ := hide HB1.out.size
      go_wp2_with (first
        | (go_at_call 85; refine (HSO.out _ HB1.out).mono ?_; rintro e w3 ⟨A3, c3, rfl, ho3, hb3⟩; have HO3 := hide ho3; have HB13 := hide hb3; clear ho3 hb3)
        | (go_at_call 84; refine (HDL.out _ w1 HI1.out w3 A3 c3 HB13.out HO3.out).mono ?_; rintro e w4 ⟨rfl, ho4, hg4⟩; have HR := hide (ownK_low ho4 HSZ.out); have HB4 := hide ((below_chainT HB1.out HB13.out).grown hg4 (below_chainT HB1.out HB13.out).size (fun k9 hk9 => Nat.le_trans HSZ.out (HO3.out.lt k9 hk9).1)); clear ho4 hg4))
      exact HPO.out _ _ _ _ rfl HR.out HB4.out

/-! ### All links -/
/-- The tail of a base. -/
theorem bsTail {w : World} {b o : Nat} {l : List BK} (h : BsAt w (some ⟨b, o, none⟩) l) : BsAt w (some ⟨b, o + 5, none⟩) (l.drop 1) := by
  refine ⟨by rw [List.length_drop]; have := h.1; omega, fun h0 => ?_⟩
  rw [List.length_drop] at h0
  obtain ⟨b', o', e, hb, hj⟩ := h.2 (by omega)
  injection e with e
  injection e with e1 e2
  subst e1 e2
  refine ⟨b, o + 5, rfl, hb, fun j hj' => ?_⟩
  rw [List.length_drop] at hj'
  rw [List.getElem_drop]
  have := hj (1 + j) (by omega)
  rwa [show o + (1 + j) * 5 = o + 5 + j * 5 by omega] at this

theorem bsNil (w : World) (A : Option Addr) {l : List BK} (h : l.length = 0) : BsAt w A l := ⟨by unfold maxLen; omega, fun h0 => absurd h0 (by omega)⟩

set_option maxHeartbeats 12800000 in
set_option maxRecDepth 100000 in
theorem bookLinks_any (l : List BK) (A : Option Addr) (c : Nat) (w0 W : World) (h : BK0 l A c w0 W) (hc : l.length ≤ c) :
    Calls Tryz.prog 39 #[.agg #[.slice A l.length c]] W (RowLk (lksOf l (l.drop 1)) W) := by
  have R := h.right
  have HBEL := hide h.bel
  have HSP := hide (fun W' (hb : Below W.heap.size W W') (x : BK) (hx : BkOk x) A1 m1 c1 A2 m2 c2 => bookSpans_any l A c w0 W' (h.below hb) x hx A1 m1 c1 A2 m2 c2 4)
  unfold RowSp at HSP
  have HLD := hide (fun W' (hb : Below W.heap.size W W') s (hs : s.size ≤ 1100000) => (show Calls Tryz.prog 78 #[.agg #[.slice A l.length c], .string s] W' fun e w' => e = .returned (.int .i64 (leadF l s)) ∧ Below W'.heap.size W' w' from bookPage_any l A c w0 W' (h.below hb) s hs))
  have HPO : Hid (∀ A c n w', n = (lksOf l (l.drop 1)).length → OwnK 6 45 w' W.heap.size (.slice A n c) n (flatG Lk.vals (lksOf l (l.drop 1))) → Below W.heap.size W w' → RowLk (lksOf l (l.drop 1)) W (.returned (.slice A n c)) w') := hide fun A c n w' hn h1 h2 => by subst hn; exact ⟨A, c, rfl, h1, h2⟩
  generalize RowLk (lksOf l (l.drop 1)) W = PO at *
  have HBK := hide (fun j (hj : j < (l.drop 1).length) => bk_ok R (List.mem_of_mem_drop (List.getElem_mem hj)))
  have HST := hide (fun j (hj : j < (l.drop 1).length) => lksOf_step (l := l) (m := l.drop 1) hj)
  have HLN := hide (fun j => lks_tail_len R j)
  have HSL := hide (fun (x : BK) (hx : BkOk x) => (by have h1 := spB_len l x.id x.txt; have h2 := hx.t2k; have h3 : (ofKd 4 (spB l x.id x.txt)).length ≤ (spB l x.id x.txt).length := List.length_filter_le _ _; omega : (ofKd 4 (spB l x.id x.txt)).length ≤ 2000))
  have HSTX := hide (fun (x : BK) (hx : BkOk x) y (hy : y ∈ ofKd 4 (spB l x.id x.txt)) => (by have h1 := spB_txt l x.id x.txt y ((List.mem_filter.1 hy).1); have h2 := hx.t2k; omega : y.txt.size ≤ 1100000))
  have HKD := hide (fun (x : BK) y (hy : y ∈ ofKd 4 (spB l x.id x.txt)) => ofKd_kind y hy)
  have HBLK := hide (fun (x : BK) => (show lksBl l x = lkSp (leadF l) x.id (ofKd 4 (spB l x.id x.txt)) ++ lkPs (leadF l) x.id x.ps by rw [lkSp_ofKd]; rfl))
  have hln := R.len
  have hpos := R.pos
  have hlen : (l.drop 1).length = l.length - 1 := List.length_drop
  obtain ⟨b0, o0, rfl, hb0, -⟩ := h.at_.2 hpos
  have HT := hide (show ∀ A', (1 < l.length → A' = some ⟨b0, o0 + 5, none⟩) → BsAt w0 A' (l.drop 1) from fun A' h9 => by
    by_cases h1 : 1 < l.length
    · rw [h9 h1]; exact bsTail h.at_
    · exact bsNil w0 A' (by omega))
  obtain ⟨iL, hiL, hzL0, hzL1, hzL2⟩ := info_parts info_lk
  obtain ⟨iV, hiV, hzV0, hzV1, hzV2⟩ := info_parts info_valL
  have HIL := hide (And.intro hiL (And.intro hzL0 (And.intro hzL1 hzL2)))
  have HIV := hide (And.intro hiV (And.intro hzV0 (And.intro hzV1 hzV2)))
  clear h R hb0 hiL hzL0 hzL1 hzL2 hiV hzV0 hzV1 hzV2
  go_enter Tryz.func39, Tryz.ntmps39
  go_upto_region 2 with (fail)
  have HW1 := hide (bl_alloc (Below.refl W.heap.size W) (.cells #[.slice (some ⟨b0, o0, none⟩) l.length c] 71))
  have HGA := hide (Blk.new W 71 #[.slice (some ⟨b0, o0, none⟩) l.length c])
  have HGE := hide (Nat.le_refl W.heap.size)
  generalize W.alloc (.cells #[.slice (some ⟨b0, o0, none⟩) l.length c] 71) = Wa at *
  have HBW := hide (below_chainT HBEL.out HW1.out)
  have HWB := hide (fun w' (h : Below Wa.heap.size Wa w') => below_chainT HW1.out h)
  have HSG := hide HW1.out.size
  clear HW1
  generalize hga : W.heap.size = ga at *
  have HG0 := hide hga
  clear hga
  have a0 := HGA.out.cell 0
  have alt := HGA.out.lt
  simp only [List.getElem?_toArray, List.getElem?_cons_succ, List.getElem?_cons_zero] at a0
  go_cut [14, 15, 16] from 12 to 16 (fun s14 s15 s16 wx => ∃ (A9 : Option Addr) (c9 : Nat), s14 = .slice A9 (l.length - 1) c9 ∧ s15 = .int .i64 ((l.length - 1 : Nat) : Int) ∧ s16 = .int .i64 0 ∧ Hid (BsAt w0 A9 (l.drop 1)) ∧ Wa = wx)
  case first =>
    by_cases hc1 : c = 1
    · have HZ9 := hide (HT.out (some ⟨b0, o0, none⟩) (fun h => by omega))
      go_wp2
      go_meet
      exact ⟨_, _, rfl, rfl, rfl, HZ9, rfl⟩
    · have HZ9 := hide (HT.out (some ⟨b0, o0 + 5, none⟩) (fun _ => rfl))
      go_wp2
      go_meet
      exact ⟨_, _, rfl, rfl, rfl, HZ9, rfl⟩
  case rest =>
  obtain ⟨A9, c9, rfl, rfl, rfl, HT9, rfl⟩ := hcut
  have HT9 := hide HT9.out
  have hL2 : (l.drop 1).length ≤ 2000 := by omega
  rw [← hlen]
  clear HT hlen
  generalize l.drop 1 = L at *
  go_wp2
  go_loopw [3, 16] (fun s3 i9 wr => ∃ (j : Nat) (out : List Lk), j ≤ L.length ∧ i9 = .int .i64 j ∧ Hid (out = lksOf l (L.take j)) ∧ Hid (OwnK 6 45 wr Wa.heap.size s3 out.length (flatG Lk.vals out)) ∧ Hid (Below Wa.heap.size Wa wr)) (fun _ i9 _ => L.length - (intOf i9).toNat)
  case atStart => exact ⟨0, [], Nat.zero_le _, rfl, hide rfl, hide OwnK.empty, hide (Below.refl _ _)⟩
  case round =>
    obtain ⟨j, o0', hj, rfl, HO0, HS, HB⟩ := hrel
    obtain ⟨A3, c3, rfl, hs1, hs2, hs3⟩ := ownK_form HS.out
    obtain ⟨WN, hWN⟩ : ∃ WN : World, WN = wr := ⟨_, rfl⟩
    subst hWN
    by_cases hltN : j < L.length
    · obtain ⟨b, o, A1, c1, A2, c2, rfl, hlb, q0, q1, q2, q3, q4, hks, hps⟩ := HT9.out.getB (below_chainT HBW.out HB.out) hltN
      have iN : (j : Int) < (L.length : Int) := by omega
      have hol0 : o0'.length ≤ 4840000 := by rw [HO0.out]; exact HLN.out j
      have HX0 := hide (by rw [HST.out j hltN, ← HO0.out, HBLK.out] : lksOf l (L.take (j + 1)) = o0' ++ (lkSp (leadF l) L[j].id (ofKd 4 (spB l L[j].id L[j].txt)) ++ lkPs (leadF l) L[j].id L[j].ps))
      have HSL1 := hide (HSL.out L[j] (HBK.out j hltN))
      have HSTX1 := hide (HSTX.out L[j] (HBK.out j hltN))
      have HKD1 := hide (HKD.out L[j])
      have HV20 := hide (HBK.out j hltN).v20
      have HVS := hide (HBK.out j hltN).str
      have HP20 := hide (HBK.out j hltN).p20
      have HPW := hide (fun W' (hb : Below w0.heap.size w0 W') => hps.below hb)
      go_upto_region 5 with (fail)
      have HB2 := hide (bl_alloc HB.out (.cells #[.int .i64 L[j].id, .int .i64 L[j].par, .slice A1 L[j].kids.length c1, .string L[j].txt, .slice A2 L[j].ps.length c2] 82))
      have HO2 := hide (ownK_alloc HS.out (.cells #[.int .i64 L[j].id, .int .i64 L[j].par, .slice A1 L[j].kids.length c1, .string L[j].txt, .slice A2 L[j].ps.length c2] 82))
      have HSPj := hide (HSP.out (WN.alloc (.cells #[.int .i64 L[j].id, .int .i64 L[j].par, .slice A1 L[j].kids.length c1, .string L[j].txt, .slice A2 L[j].ps.length c2] 82)) (HWB.out _ HB2.out) L[j] (HBK.out j hltN) A1 L[j].kids.length c1 A2 L[j].ps.length c2)
      have HBX := hide (Blk.new WN 82 #[.int .i64 L[j].id, .int .i64 L[j].par, .slice A1 L[j].kids.length c1, .string L[j].txt, .slice A2 L[j].ps.length c2])
      clear hps hks q0 q1 q2 q3 q4 HS HB HO0
      generalize WN.alloc (.cells #[.int .i64 L[j].id, .int .i64 L[j].par, .slice A1 L[j].kids.length c1, .string L[j].txt, .slice A2 L[j].ps.length c2] 82) = W1 at *
      have z0 := HBX.out.cell 0
      have z1 := HBX.out.cell 1
      have z2 := HBX.out.cell 2
      have z3 := HBX.out.cell 3
      have z4 := HBX.out.cell 4
      have zlt := HBX.out.lt
      simp only [List.getElem?_toArray, List.getElem?_cons_succ, List.getElem?_cons_zero] at z0 z1 z2 z3 z4
      have HGA1 := hide (HGA.out.below HB2.out HGA.out.lt)
      have a01 := HGA1.out.cell 0
      have alt1 := HGA1.out.lt
      simp only [List.getElem?_toArray, List.getElem?_cons_zero] at a01
      generalize ofKd 4 (spB l L[j].id L[j].txt) = sp at *
      generalize L[j] = x at *
      obtain ⟨xi, xp, xk, xt, ps⟩ := x
      (try simp only at *)
      generalize leadF l = fL at *
      have hspl : sp.length ≤ 2000 := HSL1.out
      have hp20 : ps.length ≤ 20 := HP20.out
      generalize hg5 : WN.heap.size = g5 at *
      have HG5 := hide hg5
      clear hg5
      go_upto_block 6 with (go_at_call 48; refine HSPj.out.mono ?_; rintro e w3 ⟨AS9, cS9, rfl, hrow, hbl⟩; have HKS := hide (kblk_of_own (f := Sp.vals) (K := 7) (fun _ => rfl) (by decide) hrow); have HO3 := hide (ownK_below HO2.out hbl); have HB3 := hide (below_chainT HB2.out hbl); have HX3 := hide (HBX.out.below hbl HBX.out.lt); clear hrow hbl)
      clear z0 z1 z2 z3 z4 zlt HBX HSPj HB2 HO2 a01 alt1 HGA1 HSL1 HP20
      go_loopw [3, 24] (fun s3 i9 wr => ∃ (i : Nat) (out : List Lk), i ≤ sp.length ∧ i9 = .int .i64 i ∧ Hid (out = o0' ++ lkSp fL xi (sp.take i)) ∧ Hid (OwnK 6 45 wr Wa.heap.size s3 out.length (flatG Lk.vals out)) ∧ Hid (Below Wa.heap.size Wa wr) ∧ Hid (KBlk Sp.vals 7 90 wr AS9 sp) ∧ Hid (Blk wr g5 82 #[.int .i64 xi, .int .i64 xp, .slice A1 xk.length c1, .string xt, .slice A2 ps.length c2])) (fun _ i9 _ => sp.length - (intOf i9).toNat)
      case atStart => exact ⟨0, o0', Nat.zero_le _, rfl, hide (by simp [lkSp]), HO3, HB3, HKS, HX3⟩
      case round =>
        clear HO3 HB3 HKS HX3
        obtain ⟨i, out, hi, rfl, HO, HS, HB, HKS, HX3⟩ := hrel
        obtain ⟨A5, c5, rfl, hs4, hs5, hs6⟩ := ownK_form HS.out
        obtain ⟨WR, hWR⟩ : ∃ WR : World, WR = wr := ⟨_, rfl⟩
        subst hWR
        have hol : out.length ≤ 4842000 := by
          have h1 := lkSp_len fL xi (sp.take i)
          rw [List.length_take] at h1
          rw [HO.out, List.length_append]
          omega
        by_cases hlt : i < sp.length
        · obtain ⟨bS, rfl, hbS, hv0⟩ := HKS.out.get (by omega)
          have hv := hv0 i hlt
          have c0 := hv 0 (by decide)
          have c1' := hv 1 (by decide)
          have c2' := hv 2 (by decide)
          have c3' := hv 3 (by decide)
          have c4' := hv 4 (by decide)
          have c5' := hv 5 (by decide)
          have c6 := hv 6 (by decide)
          have hsz := HSTX1.out sp[i] (List.getElem_mem hlt)
          have HY := hide (lkSp_yes (f := fL) (id := xi) hlt (HKD1.out sp[i] (List.getElem_mem hlt)))
          have hkd := HKD1.out sp[i] (List.getElem_mem hlt)
          have i1 : (i : Int) < (sp.length : Int) := by omega
          clear hv hv0
          generalize sp[i] = y at *
          obtain ⟨kd, fr, tt, tx, sh, xid, st⟩ := y
          dsimp only [Sp.vals] at c0 c1' c2' c3' c4' c5' c6 hsz HY hkd
          subst hkd
          simp only [List.getElem?_cons_zero, List.getElem?_cons_succ, Nat.add_zero] at c0 c1' c2' c3' c4' c5' c6
          have HX := hide (by rw [HY.out, ← List.append_assoc, ← HO.out] : o0' ++ lkSp fL xi (sp.take (i + 1)) = out ++ [⟨xi, fr, tt, ByteArray.empty, tx, fL tx⟩])
          have HBG := hide (show (out.length + 1) * iL.bytes ≤ 140737488355328 ∧ out.length + 1 ≤ 140737488355328 by have h9 := HIL.out.2.2.2; rw [h9]; omega)
          clear HY HO hol
          go_upto_region 8 with (fail)
          have HBX := hide (Blk.new WR 90 #[.int .i64 4, .int .i64 fr, .int .i64 tt, .string tx, .string sh, .int .i64 xid, .bool st])
          have HB2 := hide (bl_alloc HB.out (.cells #[.int .i64 4, .int .i64 fr, .int .i64 tt, .string tx, .string sh, .int .i64 xid, .bool st] 90))
          have HOW := hide (ownK_alloc HS.out (.cells #[.int .i64 4, .int .i64 fr, .int .i64 tt, .string tx, .string sh, .int .i64 xid, .bool st] 90))
          have HSZ := hide (show WR.heap.size < (WR.alloc (.cells #[.int .i64 4, .int .i64 fr, .int .i64 tt, .string tx, .string sh, .int .i64 xid, .bool st] 90)).heap.size from HBX.out.lt)
          have HKS2 := hide (HKS.out.below (bl_alloc (Below.refl WR.heap.size WR) (.cells #[.int .i64 4, .int .i64 fr, .int .i64 tt, .string tx, .string sh, .int .i64 xid, .bool st] 90)))
          have HX32 := hide (HX3.out.below (bl_alloc (Below.refl WR.heap.size WR) (.cells #[.int .i64 4, .int .i64 fr, .int .i64 tt, .string tx, .string sh, .int .i64 xid, .bool st] 90)) HX3.out.lt)
          generalize WR.alloc (.cells #[.int .i64 4, .int .i64 fr, .int .i64 tt, .string tx, .string sh, .int .i64 xid, .bool st] 90) = W2 at *
          have HWS := hide HB2.out.size
          have v1 := HBX.out.cell 1
          have v2 := HBX.out.cell 2
          have v3 := HBX.out.cell 3
          have b0' := HX32.out.cell 0
          have HGA2 := hide (HGA.out.below HB2.out HGA.out.lt)
          have g0' := HGA2.out.cell 0
          simp only [List.getElem?_toArray, List.getElem?_cons_succ, List.getElem?_cons_zero] at v1 v2 v3 b0' g0'
          have vlt := HSZ.out
          have blt := HX32.out.lt
          have glt := HGA2.out.lt
          have HLL := hide (fun W' (h : Below W2.heap.size W2 W') => HLD.out W' (HWB.out _ (below_chainT HB2.out h)) tx hsz)
          have HK : Hid (∀ w', Below W2.heap.size W2 w' → w'.cell? ⟨WR.heap.size, 1, none⟩ = some (.int .i64 fr) ∧ w'.cell? ⟨WR.heap.size, 2, none⟩ = some (.int .i64 tt) ∧ w'.cell? ⟨WR.heap.size, 3, none⟩ = some (.string tx) ∧ w'.cell? ⟨g5, 0, none⟩ = some (.int .i64 xi) ∧ w'.cell? ⟨ga, 0, none⟩ = some (.slice (some ⟨b0, o0, none⟩) l.length c) ∧ ga < w'.heap.size ∧ (Below W2.heap.size W2 w' ∨ Below Wa.heap.size Wa w')) := hide fun w' hb => ⟨(hb.cell vlt).trans v1, (hb.cell vlt).trans v2, (hb.cell vlt).trans v3, (hb.cell blt).trans b0', (hb.cell glt).trans g0', Nat.lt_of_lt_of_le glt hb.size, .inl hb⟩
          go_region_held3 (fun w' => w'.cell? ⟨WR.heap.size, 1, none⟩ = some (.int .i64 fr) ∧ w'.cell? ⟨WR.heap.size, 2, none⟩ = some (.int .i64 tt) ∧ w'.cell? ⟨WR.heap.size, 3, none⟩ = some (.string tx) ∧ w'.cell? ⟨g5, 0, none⟩ = some (.int .i64 xi) ∧ w'.cell? ⟨ga, 0, none⟩ = some (.slice (some ⟨b0, o0, none⟩) l.length c) ∧ ga < w'.heap.size ∧ (Below W2.heap.size W2 w' ∨ Below Wa.heap.size Wa w')) (first | assumption | exact HK.out _ (bl_drew (Below.refl _ _)) | exact HK.out _ (bl_alloc hB9.out _)) (first | ((refine step_append_b rfl (.tmp 28) (.tmp 42) rfl rfl Tryz.underlying35 HIL.out.1 HIL.out.2.1 HIL.out.2.2.1 (by decide) rfl (by have := HIL.out.2.2.2; omega) Wa.heap.size out.length (.slice A5 out.length c5) (flatG Lk.vals out) [.int .i64 xi, .int .i64 fr, .int .i64 tt, .string ⟨#[]⟩, .string tx, .int .i64 (fL tx)] _ rfl (ownK_alloc (ownK_below HOW.out hB9.out) _) rfl (by intro u hu; simp only [List.mem_cons, List.not_mem_nil, or_false] at hu; rcases hu with rfl | rfl | rfl | rfl | rfl | rfl <;> rfl) rfl (newN_cells (cs := [.int .i64 xi, .int .i64 fr, .int .i64 tt, .string ⟨#[]⟩, .string tx, .int .i64 (fL tx)]) rfl) HBG.out (by have := HWS.out; have := hB9.out.size; (try simp only [World.size_alloc, plus_size, World.drew]); omega) ?_); intro v' w8 hown8 hgr8 hfr8; have hX8 := blk_grown1 HBX.out hgr8 (bl_alloc hB9.out _) HOW.out (by decide); have hB8 := blk_grown1 HX32.out hgr8 (bl_alloc hB9.out _) HOW.out (by decide); have hG8 := blk_grown1 HGA2.out hgr8 (bl_alloc hB9.out _) HOW.out (by decide); have HK8 := hide (HKS2.out.grown1 hgr8 (bl_alloc hB9.out _) HOW.out (by decide)); obtain ⟨A7, c7, rfl, _⟩ := ownK_form hown8; have HB8 := hide ((HB2.out.trans (Below.mono (bl_alloc hB9.out _) HWS.out)).grown hgr8 (by have := HWS.out; have := hB9.out.size; (try simp only [World.size_alloc, plus_size, World.drew]); omega) (fun k9 hk9 => (HOW.out.lt k9 hk9).1)); have HOW8 := hide hown8; have HX8 := hide hB8; have hS := And.intro (hX8.cell 1) (And.intro (hX8.cell 2) (And.intro (hX8.cell 3) (And.intro (hB8.cell 0) (And.intro (hG8.cell 0) (And.intro hG8.lt (show Below W2.heap.size W2 w8 ∨ Below Wa.heap.size Wa w8 from .inr HB8.out)))))); clear hown8 hgr8 hfr8) | (go_at_call 78; (refine (HLL.out _ (by repeat (first | with_reducible exact Below.refl _ _ | with_reducible refine bl_plus ?_ | with_reducible refine bl_alloc ?_ _ | with_reducible refine bl_drew ?_ | with_reducible refine bl_drewN ?_ _))).mono ?_); rintro e w9 ⟨rfl, hbl⟩; have hB9 := hide (bl_trans (bl_drew (Below.refl W2.heap.size W2)) hbl); have hS := HK.out _ hB9.out))
          go_wp2
          go_roundw
          case rel => exact ⟨i + 1, out ++ [⟨xi, fr, tt, ByteArray.empty, tx, fL tx⟩], by omega, by go_num, hide HX.out.symm, hide (by rw [List.length_append, flatG_snoc]; exact HOW8.out), HB8, HK8, HX8⟩
          case measure => simp [intOf]; omega
        · obtain rfl : i = sp.length := by omega
          have HX := hide (by have := HO.out; rwa [List.take_length] at this : out = o0' ++ lkSp fL xi sp)
          clear HO HKS hlt hi
          have y4 := HX3.out.cell 4
          simp only [List.getElem?_toArray, List.getElem?_cons_succ, List.getElem?_cons_zero] at y4
          have ylt := HX3.out.lt
          have HWP := hide (HPW.out WR (below_chainT HBW.out HB.out))
          go_wp2
          go_loopw [3, 48] (fun s5 i9 wr => ∃ (i : Nat) (o2 : List Lk), i ≤ ps.length ∧ i9 = .int .i64 i ∧ Hid (o2 = out ++ lkPs fL xi (ps.take i)) ∧ Hid (OwnK 6 45 wr Wa.heap.size s5 o2.length (flatG Lk.vals o2)) ∧ Hid (Below Wa.heap.size Wa wr) ∧ Hid (Blk wr g5 82 #[.int .i64 xi, .int .i64 xp, .slice A1 xk.length c1, .string xt, .slice A2 ps.length c2])) (fun _ i9 _ => ps.length - (intOf i9).toNat)
          case atStart => exact ⟨0, out, Nat.zero_le _, rfl, hide (by simp [lkPs]), hide (ownK_below HS.out (by repeat (first | with_reducible exact Below.refl _ _ | with_reducible refine bl_plus ?_ | with_reducible refine bl_alloc ?_ _ | with_reducible refine bl_drew ?_ | with_reducible refine bl_drewN ?_ _))), hide (below_chainT HB.out (by repeat (first | with_reducible exact Below.refl _ _ | with_reducible refine bl_plus ?_ | with_reducible refine bl_alloc ?_ _ | with_reducible refine bl_drew ?_ | with_reducible refine bl_drewN ?_ _))), hide (HX3.out.below (by repeat (first | with_reducible exact Below.refl _ _ | with_reducible refine bl_plus ?_ | with_reducible refine bl_alloc ?_ _ | with_reducible refine bl_drew ?_ | with_reducible refine bl_drewN ?_ _)) HX3.out.lt)⟩
          case round =>
            clear HS HB HX3 y4 ylt HWP
            obtain ⟨i, o2, hi, rfl, HO, HS, HB, HX3⟩ := hrel
            obtain ⟨A6, c6, rfl, hs7, hs8, hs9⟩ := ownK_form HS.out
            obtain ⟨WQ, hWQ⟩ : ∃ WQ : World, WQ = wr := ⟨_, rfl⟩
            subst hWQ
            by_cases hlt : i < ps.length
            · obtain ⟨b, o, rfl, hb, hp⟩ := (HPW.out WQ (below_chainT HBW.out HB.out)).2 (by omega)
              obtain ⟨p0, -, p1, p2, p3, p4, A4, c4, p5, hL⟩ := (hp i hlt).cells
              have HL20 := hide (HV20.out ps[i] (List.getElem_mem hlt))
              have HVS1 := hide (HVS.out ps[i] (List.getElem_mem hlt))
              obtain ⟨news, hn1, hn2, hn3, hn4⟩ := lat_news hL
              have HN := hide (And.intro hn1 (And.intro hn2 (And.intro hn3 hn4)))
              have i1 : (i : Int) < (ps.length : Int) := by omega
              have hol2 : o2.length ≤ 4842420 := by
                have h2 := lkPs_len fL xi (ps.take i) (fun p hp => HV20.out p (List.mem_of_mem_take hp))
                rw [List.length_take] at h2
                rw [HO.out, List.length_append]
                omega
              have HX1 := hide (by rw [lkPs_step hlt, ← List.append_assoc, ← HO.out] : out ++ lkPs fL xi (ps.take (i + 1)) = o2 ++ lkVs fL xi ps[i].n (ps[i].v :: ps[i].v.l))
              clear hp hL hn1 hn2 hn3 hn4 HO
              generalize ps[i] = p at *
              obtain ⟨pn, pv⟩ := p
              obtain ⟨vk, vi, vt, vs, vl⟩ := pv
              simp only [V.k, V.i, V.t, V.s, V.l] at p0 p1 p2 p3 p4 p5 HL20 HN HX1 HVS1
              have hq20 : vl.length ≤ 20 := HL20.out
              have hSrc := hide (fun (W' : World) (hb : Below WQ.heap.size WQ W') => HN.out.2.1 W' hb)
              go_upto_block 7 with (at_builtin; go_loud (refine wpList_append_v rfl (.tmp 54) (.tmp 57) rfl rfl Tryz.underlying114 HIV.out.1 HIV.out.2.1 HIV.out.2.2.1 (by decide) rfl (by have := HIV.out.2.2.2; omega) WQ.heap.size 1 vl.length c4 (.slice (some ⟨WQ.heap.size + 1, 0, none⟩) 1 1) [.int .i64 vk, .int .i64 vi, .int .i64 vt, .string vs, .slice A4 vl.length c4] news A4 rfl (ownK_newL _ _ _ (by simp) rfl (by simp)) (by decide) HN.out.1 HN.out.2.2.1 rfl (hSrc.out _ (by repeat (first | with_reducible exact Below.refl _ _ | with_reducible refine bl_plus ?_ | with_reducible refine bl_alloc ?_ _ | with_reducible refine bl_drew ?_ | with_reducible refine bl_drewN ?_ _))) (by omega) (by simp only [World.size_alloc]; omega) ?_; intro v' w1 hown hgr hfr; have HBQ := hide (show Below WQ.heap.size WQ w1 from (show Below WQ.heap.size WQ _ from (by repeat (first | with_reducible exact Below.refl _ _ | with_reducible refine bl_plus ?_ | with_reducible refine bl_alloc ?_ _ | with_reducible refine bl_drew ?_ | with_reducible refine bl_drewN ?_ _))).grown hgr (by simp only [World.size_alloc]; omega) (fun k hk => Nat.le_of_lt (Nat.lt_of_lt_of_eq (Nat.lt_succ_self WQ.heap.size) (by simpa [Value.ownBlock] using hk)))); have HPB := hide (show Blk w1 WQ.heap.size 118 #[.string pn, .int .i64 vk, .int .i64 vi, .int .i64 vt, .string vs, .slice A4 vl.length c4] from ((Blk.new WQ 118 #[.string pn, .int .i64 vk, .int .i64 vi, .int .i64 vt, .string vs, .slice A4 vl.length c4]).below (by repeat (first | with_reducible exact Below.refl _ _ | with_reducible refine bl_plus ?_ | with_reducible refine bl_alloc ?_ _ | with_reducible refine bl_drew ?_ | with_reducible refine bl_drewN ?_ _)) (Blk.new WQ 118 #[.string pn, .int .i64 vk, .int .i64 vi, .int .i64 vt, .string vs, .slice A4 vl.length c4]).lt).grown hgr (by intro e9; simp [Value.ownBlock] at e9)); obtain ⟨g', c', cur, rfl, hg', hrow⟩ := vrow_of (v := .mk vk vi vt vs vl) hown HN.out.2.2.2; have HROW := hide hrow; have hv21 : (V.mk vk vi vt vs vl :: vl).length ≤ 21 := (by rw [List.length_cons]; omega); dsimp only [V.l] at HROW ⊢; clear hown hgr hfr hrow; generalize V.mk vk vi vt vs vl :: vl = vv at *))
              have HS1 := hide (ownK_below HS.out HBQ.out)
              have HB1 := hide (below_chainT HB.out HBQ.out)
              have HX31 := hide (HX3.out.below HBQ.out HX3.out.lt)
              clear HS HB HX3 HN hSrc p0 p1 p2 p3 p4 p5 HBQ hg'
              go_wp2
              go_loopw [3, 60] (fun s5 i8 wr => ∃ (q : Nat) (o3 : List Lk), q ≤ vv.length ∧ i8 = .int .i64 q ∧ Hid (o3 = o2 ++ lkVs fL xi pn (vv.take q)) ∧ Hid (OwnK 6 45 wr Wa.heap.size s5 o3.length (flatG Lk.vals o3)) ∧ Hid (Below Wa.heap.size Wa wr) ∧ Hid (VRow wr g' cur vv) ∧ Hid (Blk wr WQ.heap.size 118 #[.string pn, .int .i64 vk, .int .i64 vi, .int .i64 vt, .string vs, .slice A4 vl.length c4]) ∧ Hid (Blk wr g5 82 #[.int .i64 xi, .int .i64 xp, .slice A1 xk.length c1, .string xt, .slice (some ⟨b, o, none⟩) ps.length c2])) (fun _ i8 _ => vv.length - (intOf i8).toNat)
              case atStart => exact ⟨0, o2, Nat.zero_le _, rfl, hide (by simp [lkVs]), hide (ownK_below HS1.out (by repeat (first | with_reducible exact Below.refl _ _ | with_reducible refine bl_plus ?_ | with_reducible refine bl_alloc ?_ _ | with_reducible refine bl_drew ?_ | with_reducible refine bl_drewN ?_ _))), hide (below_chainT HB1.out (by repeat (first | with_reducible exact Below.refl _ _ | with_reducible refine bl_plus ?_ | with_reducible refine bl_alloc ?_ _ | with_reducible refine bl_drew ?_ | with_reducible refine bl_drewN ?_ _))), hide (HROW.out.below (by repeat (first | with_reducible exact Below.refl _ _ | with_reducible refine bl_plus ?_ | with_reducible refine bl_alloc ?_ _ | with_reducible refine bl_drew ?_ | with_reducible refine bl_drewN ?_ _))), hide (HPB.out.below (by repeat (first | with_reducible exact Below.refl _ _ | with_reducible refine bl_plus ?_ | with_reducible refine bl_alloc ?_ _ | with_reducible refine bl_drew ?_ | with_reducible refine bl_drewN ?_ _)) HPB.out.lt), hide (HX31.out.below (by repeat (first | with_reducible exact Below.refl _ _ | with_reducible refine bl_plus ?_ | with_reducible refine bl_alloc ?_ _ | with_reducible refine bl_drew ?_ | with_reducible refine bl_drewN ?_ _)) HX31.out.lt)⟩
              case round =>
                clear HS1 HB1 HROW HPB HX31
                obtain ⟨q, o3, hq, rfl, HO2, HS, HB, HROW, HPB, HX3⟩ := hrel
                obtain ⟨A8, c8, rfl, hs10, hs11, hs12⟩ := ownK_form HS.out
                obtain ⟨W3, hW3⟩ : ∃ W3 : World, W3 = wr := ⟨_, rfl⟩
                subst hW3
                by_cases hlt2 : q < vv.length
                · obtain ⟨x0, x1, x2, x3, AV6, cV6, x4⟩ := HROW.out.2 q hlt2
                  have hb5 := HROW.out.1
                  have y0 := (hb5.cell (q * 5)).trans x0
                  have y1 := (hb5.cell (q * 5 + 1)).trans x1
                  have y2 := (hb5.cell (q * 5 + 2)).trans x2
                  have y3 := (hb5.cell (q * 5 + 3)).trans x3
                  have y4 := (hb5.cell (q * 5 + 4)).trans x4
                  have hg5' := hb5.lt
                  have i2 : (q : Int) < (vv.length : Int) := by omega
                  have HSTY := hide (fun h => lkVs_yes (f := fL) (id := xi) (n := pn) hlt2 h)
                  have HSTN := hide (fun h => lkVs_no (f := fL) (id := xi) (n := pn) hlt2 h)
                  have hol3 : o3.length ≤ 4842441 := by
                    have h1 := lkVs_len fL xi pn (vv.take q)
                    rw [List.length_take] at h1
                    rw [HO2.out, List.length_append]
                    omega
                  have HS2 := hide (HVS1.out vv[q] (List.getElem_mem hlt2))
                  clear x0 x1 x2 x3 x4 hb5
                  generalize vv[q] = v at *
                  obtain ⟨vk2, vi2, vt2, vs2, vl2⟩ := v
                  simp only [V.k, V.i, V.t, V.s, V.l] at y0 y1 y2 y3 y4 HSTY HSTN HS2
                  by_cases hk6 : vk2 = 6
                  · have HX2 := hide (by rw [HSTY.out hk6, ← List.append_assoc, ← HO2.out] : o2 ++ lkVs fL xi pn (vv.take (q + 1)) = o3 ++ [⟨xi, 0, 0, pn, vs2, fL vs2⟩])
                    have HBG := hide (show (o3.length + 1) * iL.bytes ≤ 140737488355328 ∧ o3.length + 1 ≤ 140737488355328 by have h9 := HIL.out.2.2.2; rw [h9]; omega)
                    subst hk6
                    clear HSTY HSTN HO2 hol3 hol2
                    go_upto_region 17 with (fail)
                    have HBX := hide (Blk.new W3 116 #[.int .i64 6, .int .i64 vi2, .int .i64 vt2, .string vs2, .slice AV6 vl2.length cV6])
                    have HB2 := hide (bl_alloc HB.out (.cells #[.int .i64 6, .int .i64 vi2, .int .i64 vt2, .string vs2, .slice AV6 vl2.length cV6] 116))
                    have HOW := hide (ownK_alloc HS.out (.cells #[.int .i64 6, .int .i64 vi2, .int .i64 vt2, .string vs2, .slice AV6 vl2.length cV6] 116))
                    have HSZ := hide (show W3.heap.size < (W3.alloc (.cells #[.int .i64 6, .int .i64 vi2, .int .i64 vt2, .string vs2, .slice AV6 vl2.length cV6] 116)).heap.size from HBX.out.lt)
                    have HRB := hide (HROW.out.1.below (bl_alloc (Below.refl W3.heap.size W3) (.cells #[.int .i64 6, .int .i64 vi2, .int .i64 vt2, .string vs2, .slice AV6 vl2.length cV6] 116)) HROW.out.1.lt)
                    have HPB2 := hide (HPB.out.below (bl_alloc (Below.refl W3.heap.size W3) (.cells #[.int .i64 6, .int .i64 vi2, .int .i64 vt2, .string vs2, .slice AV6 vl2.length cV6] 116)) HPB.out.lt)
                    have HX32 := hide (HX3.out.below (bl_alloc (Below.refl W3.heap.size W3) (.cells #[.int .i64 6, .int .i64 vi2, .int .i64 vt2, .string vs2, .slice AV6 vl2.length cV6] 116)) HX3.out.lt)
                    generalize W3.alloc (.cells #[.int .i64 6, .int .i64 vi2, .int .i64 vt2, .string vs2, .slice AV6 vl2.length cV6] 116) = W2 at *
                    have HWS := hide HB2.out.size
                    have v3 := HBX.out.cell 3
                    have p0 := HPB2.out.cell 0
                    have b0' := HX32.out.cell 0
                    have HGA2 := hide (HGA.out.below HB2.out HGA.out.lt)
                    have g0' := HGA2.out.cell 0
                    simp only [List.getElem?_toArray, List.getElem?_cons_succ, List.getElem?_cons_zero] at v3 p0 b0' g0'
                    have vlt := HSZ.out
                    have plt := HPB2.out.lt
                    have blt := HX32.out.lt
                    have glt := HGA2.out.lt
                    have HLL := hide (fun W' (h : Below W2.heap.size W2 W') => HLD.out W' (HWB.out _ (below_chainT HB2.out h)) vs2 HS2.out)
                    have HK : Hid (∀ w', Below W2.heap.size W2 w' → w'.cell? ⟨W3.heap.size, 3, none⟩ = some (.string vs2) ∧ w'.cell? ⟨WQ.heap.size, 0, none⟩ = some (.string pn) ∧ w'.cell? ⟨g5, 0, none⟩ = some (.int .i64 xi) ∧ w'.cell? ⟨ga, 0, none⟩ = some (.slice (some ⟨b0, o0, none⟩) l.length c) ∧ ga < w'.heap.size ∧ (Below W2.heap.size W2 w' ∨ Below Wa.heap.size Wa w')) := hide fun w' hb => ⟨(hb.cell vlt).trans v3, (hb.cell plt).trans p0, (hb.cell blt).trans b0', (hb.cell glt).trans g0', Nat.lt_of_lt_of_le glt hb.size, .inl hb⟩
                    go_region_held3 (fun w' => w'.cell? ⟨W3.heap.size, 3, none⟩ = some (.string vs2) ∧ w'.cell? ⟨WQ.heap.size, 0, none⟩ = some (.string pn) ∧ w'.cell? ⟨g5, 0, none⟩ = some (.int .i64 xi) ∧ w'.cell? ⟨ga, 0, none⟩ = some (.slice (some ⟨b0, o0, none⟩) l.length c) ∧ ga < w'.heap.size ∧ (Below W2.heap.size W2 w' ∨ Below Wa.heap.size Wa w')) (first | assumption | exact HK.out _ (bl_drew (Below.refl _ _)) | exact HK.out _ (bl_alloc hB9.out _)) (first | ((refine step_append_b rfl (.tmp 67) (.tmp 79) rfl rfl Tryz.underlying35 HIL.out.1 HIL.out.2.1 HIL.out.2.2.1 (by decide) rfl (by have := HIL.out.2.2.2; omega) Wa.heap.size o3.length (.slice A8 o3.length c8) (flatG Lk.vals o3) [.int .i64 xi, .int .i64 0, .int .i64 0, .string pn, .string vs2, .int .i64 (fL vs2)] _ rfl (ownK_alloc (ownK_below HOW.out hB9.out) _) rfl (by intro u hu; simp only [List.mem_cons, List.not_mem_nil, or_false] at hu; rcases hu with rfl | rfl | rfl | rfl | rfl | rfl <;> rfl) rfl (newN_cells (cs := [.int .i64 xi, .int .i64 0, .int .i64 0, .string pn, .string vs2, .int .i64 (fL vs2)]) rfl) HBG.out (by have := HWS.out; have := hB9.out.size; (try simp only [World.size_alloc, plus_size, World.drew]); omega) ?_); intro v' w8 hown8 hgr8 hfr8; have hX8 := blk_grown1 HBX.out hgr8 (bl_alloc hB9.out _) HOW.out (by decide); have hP8 := blk_grown1 HPB2.out hgr8 (bl_alloc hB9.out _) HOW.out (by decide); have hR8 := blk_grown1 HRB.out hgr8 (bl_alloc hB9.out _) HOW.out (by decide); have hB8 := blk_grown1 HX32.out hgr8 (bl_alloc hB9.out _) HOW.out (by decide); have hG8 := blk_grown1 HGA2.out hgr8 (bl_alloc hB9.out _) HOW.out (by decide); obtain ⟨A7, c7, rfl, _⟩ := ownK_form hown8; have HB8 := hide ((HB2.out.trans (Below.mono (bl_alloc hB9.out _) HWS.out)).grown hgr8 (by have := HWS.out; have := hB9.out.size; (try simp only [World.size_alloc, plus_size, World.drew]); omega) (fun k9 hk9 => (HOW.out.lt k9 hk9).1)); have HOW8 := hide hown8; have HR8 := hide hR8; have HP8 := hide hP8; have HX8 := hide hB8; have hS := And.intro (hX8.cell 3) (And.intro (hP8.cell 0) (And.intro (hB8.cell 0) (And.intro (hG8.cell 0) (And.intro hG8.lt (show Below W2.heap.size W2 w8 ∨ Below Wa.heap.size Wa w8 from .inr HB8.out))))); clear hown8 hgr8 hfr8) | (go_at_call 78; (refine (HLL.out _ (by repeat (first | with_reducible exact Below.refl _ _ | with_reducible refine bl_plus ?_ | with_reducible refine bl_alloc ?_ _ | with_reducible refine bl_drew ?_ | with_reducible refine bl_drewN ?_ _))).mono ?_); rintro e w9 ⟨rfl, hbl⟩; have hB9 := hide (bl_trans (bl_drew (Below.refl W2.heap.size W2)) hbl); have hS := HK.out _ hB9.out))
                    go_wp2
                    go_roundw
                    case rel => exact ⟨q + 1, o3 ++ [⟨xi, 0, 0, pn, vs2, fL vs2⟩], by omega, by go_num, hide (by rw [HX2.out]), hide (by rw [List.length_append, flatG_snoc]; exact HOW8.out), HB8, hide ⟨HR8.out, HROW.out.2⟩, HP8, HX8⟩
                    case measure => simp [intOf]; omega
                  · have e3 : (vk2 == 6) = false := beq_eq_false_iff_ne.2 hk6
                    have HX2 := hide (by rw [HSTN.out hk6]; exact HO2.out : o3 = o2 ++ lkVs fL xi pn (vv.take (q + 1)))
                    clear hk6 HSTY HSTN
                    go_wp2
                    go_roundw
                    case rel => exact ⟨q + 1, o3, by omega, by go_num, HX2, hide (ownK_below HS.out (by repeat (first | with_reducible exact Below.refl _ _ | with_reducible refine bl_plus ?_ | with_reducible refine bl_alloc ?_ _ | with_reducible refine bl_drew ?_ | with_reducible refine bl_drewN ?_ _))), hide (below_chainT HB.out (by repeat (first | with_reducible exact Below.refl _ _ | with_reducible refine bl_plus ?_ | with_reducible refine bl_alloc ?_ _ | with_reducible refine bl_drew ?_ | with_reducible refine bl_drewN ?_ _))), hide (HROW.out.below (by repeat (first | with_reducible exact Below.refl _ _ | with_reducible refine bl_plus ?_ | with_reducible refine bl_alloc ?_ _ | with_reducible refine bl_drew ?_ | with_reducible refine bl_drewN ?_ _))), hide (HPB.out.below (by repeat (first | with_reducible exact Below.refl _ _ | with_reducible refine bl_plus ?_ | with_reducible refine bl_alloc ?_ _ | with_reducible refine bl_drew ?_ | with_reducible refine bl_drewN ?_ _)) HPB.out.lt), hide (HX3.out.below (by repeat (first | with_reducible exact Below.refl _ _ | with_reducible refine bl_plus ?_ | with_reducible refine bl_alloc ?_ _ | with_reducible refine bl_drew ?_ | with_reducible refine bl_drewN ?_ _)) HX3.out.lt)⟩
                    case measure => simp [intOf]; omega
                · obtain rfl : q = vv.length := by omega
                  have HX2 := hide (by have := HO2.out; rw [List.take_length] at this; rw [this]; exact HX1.out.symm : o3 = out ++ lkPs fL xi (ps.take (i + 1)))
                  go_wp2
                  go_roundw
                  case rel => exact ⟨i + 1, o3, by omega, by go_num, HX2, HS, HB, HX3⟩
                  case measure => simp [intOf]; omega
            · obtain rfl : i = ps.length := by omega
              have HX1 := hide (by have := HO.out; rw [List.take_length] at this; rw [this, HX.out, HX0.out, List.append_assoc] : o2 = lksOf l (L.take (j + 1)))
              go_wp2
              go_roundw
              case rel => exact ⟨j + 1, o2, by omega, by go_num, HX1, HS, HB⟩
              case measure => simp [intOf]; omega
    · obtain rfl : j = L.length := by omega
      have hzz : o0' = lksOf l L := by have := HO0.out; rwa [List.take_length] at this
      subst hzz
      have HLW := hide (ownK_low HS.out HSG.out)
      have HBZ := hide (HWB.out _ HB.out)
      clear HS HB HO0
      go_wp2
      exact HPO.out _ _ _ _ rfl HLW.out HBZ.out

end Go.Proofs.YtioppoaijehicaaGreatDoor
