/-
  WALK: a list of properties as text, in the program.
-/
import Derived.Test.YtjaoiehjhnmahaaGreatDoorPca
set_option linter.all false
namespace Go.Proofs.YtjaoiehjhnmahaaGreatDoor
open Go.RowKit Go.Lib Cal

theorem bldAt_plusP {T e : TypeId} {B b : Nat} {p : Value} {bs : List Value} {w : World} {os : Array Obj} {n : Nat} (h : Lib.BuilderAt T e B b p bs w) : Lib.BuilderAt T e B b p bs (plus w os n) := by
  have hlt := h.lt
  obtain ⟨h1, v, h2, h3, h4⟩ := h
  exact ⟨h1, v, (plus_heap hlt).trans h2, own_plus h3, h4⟩
theorem bldP_plus {w : World} {g : Nat} {l : List UInt8} {os : Array Obj} {n : Nat} (h : Bld w g l) : Bld (plus w os n) g l := by
  rcases h with h | h
  · exact .inl (bldAt_plusP h)
  · exact .inr (bldAt_plusP h)
theorem alloc_plusP (w : World) (o : Obj) : w.alloc o = plus w (#[].push o) w.drawn := by
  have := plus_alloc (w := w) (os := #[]) (n := w.drawn) o
  rwa [plus_nil] at this
theorem bldP_alloc {w : World} {g : Nat} {l : List UInt8} (h : Bld w g l) (o : Obj) : Bld (w.alloc o) g l := by rw [alloc_plusP]; exact bldP_plus h
theorem bldP_drew {w : World} {g : Nat} {l : List UInt8} (h : Bld w g l) : Bld w.drew g l := by
  have := plus_drew (w := w) (os := #[]) (n := w.drawn)
  rw [plus_nil] at this
  rw [this]; exact bldP_plus h
theorem bldP_new (w : World) : Bld (w.alloc (.cells #[.pointer none, .slice none 0 0] 46)) w.heap.size [] :=
  .inl ⟨Nat.le_refl _, .slice none 0 0, Blk.new w _ _, ⟨rfl, .inl ⟨rfl, rfl⟩⟩, by intro h; cases h⟩

set_option maxHeartbeats 3200000 in
set_option maxRecDepth 100000 in
theorem propsText_good (l : List PR) (A : Option Addr) (c : Nat) (w : World) (hp : PowTab w) (hA : PsAt w A l) (he : propsErr l = 0) :
    Calls Tryz.prog 6 #[.slice A l.length c] w fun e w' => e = .returned (.tuple #[.string (propsTxt l), .int .i64 0]) ∧ Below w.heap.size w w' := by
  have HC := hide (fun W (hb : Below w.heap.size w W) => checkProps_any l A c W (hA.below hb))
  rw [he] at HC
  have HG := hide (props_good he)
  have HTL := hide (propsTake_le he)
  have HP := hide hp
  have HA := hide hA
  have hl' : (l.length : Int) ≤ 20 := by have := HG.out.1; omega
  clear hp hA he
  go_enter Tryz.func6, Tryz.ntmps6
  go_wp2_with (first | (go_at_call 9; with_reducible refine (HC.out _ ?hb).mono ?_; (case hb => exact (by repeat (first | exact Below.refl _ _ | with_reducible refine bl_plus ?_ | with_reducible refine bl_alloc ?_ _ | with_reducible refine bl_drew ?_ | with_reducible refine bl_drewN ?_ _))); rintro e w' ⟨rfl, hbl⟩; obtain ⟨os1, n1, rfl⟩ := below_plus hbl; clear hbl))
  have hb0 := bldP_new (plus w os1 n1)
  have hsz : (plus w os1 n1).heap.size = w.heap.size + os1.size := plus_size
  rw [hsz] at hb0
  have hbw : Below w.heap.size w (plus w os1 n1) := bl_plus (Below.refl _ _)
  have HBW := hide hbw
  have hgs := hbw.size
  clear hbw
  rw [hsz] at hgs
  generalize w.heap.size + os1.size = g at *
  have HB0 := hide hb0
  clear hb0
  generalize plus w os1 n1 = W at *
  have HW := hide (show Below g W (W.alloc (.cells #[.pointer none, .slice none 0 0] 46)) from hsz ▸ bl_alloc (Below.refl _ _) _)
  have hgg := HW.out.size
  go_loopw [15] (fun i wr => ∃ k : Nat, k ≤ l.length ∧ i = .int .i64 k ∧ Hid (Bld wr g (propsTxt (l.take k)).data.toList) ∧ Hid (Below g W wr)) (fun i _ => l.length - (intOf i).toNat)
  case atStart => exact ⟨0, Nat.zero_le _, rfl, HB0, HW⟩
  case round =>
    clear HB0 HW hgg
    obtain ⟨k, hk, rfl, HB, HBL⟩ := hrel
    have hgr : g ≤ wr.heap.size := by have := HBL.out.size; omega
    have HBLW := hide (show Below w.heap.size w wr from HBW.out.trans (Below.mono HBL.out hgs))
    by_cases hlt : k < l.length
    · have hAw := HA.out.below HBLW.out
      obtain ⟨b, o, rfl, hb, hv⟩ := hAw.2 (by omega)
      obtain ⟨c0, _, c1, c2, c3, c4, A2, e2, c5, hL2⟩ := (hv k hlt).cells
      have hgk := HG.out.2 k hlt
      have hLine := PR.line_le hgk.1 hgk.2
      have hTx := V.txt_le hgk.2
      have HN := hide (propsTxt_next hlt)
      have hT := HTL.out k
      have HS := hide (fun W2 (hb : Below wr.heap.size wr W2) => written_any l[k].v A2 e2 W2 (powTab_below HP.out (HBLW.out.trans (Below.mono hb HBLW.out.size))) (hL2.below hb) hgk.2)
      have HLI := hide (show l[k].line = ((l[k].n ++ (⟨#[58, 58, 32]⟩ : ByteArray)) ++ l[k].v.txt) ++ (⟨#[10]⟩ : ByteArray) from rfl)
      have hn := hgk.1
      clear hv hL2 hAw hgk
      generalize propsTxt (l.take k) = S at *
      generalize l[k].line = LN at *
      generalize l[k].v.txt = T at *
      generalize l[k].n = N at *
      generalize l[k].v = x at *
      obtain ⟨xk, xi, xt, xs, xl⟩ := x
      simp only [V.arg, V.k, V.i, V.t, V.s, V.l] at *
      have z1 : (N.size : Int) ≤ 20 := by omega
      have z2 : (T.size : Int) ≤ 200000 := by omega
      have HSL := hide (show S.data.toList.length + LN.size ≤ 140737488355328 from by rw [Array.length_toList]; have : S.data.size = S.size := rfl; omega)
      have HWR := hide (fun W (h : Bld W g S.data.toList) (h2 : g ≤ W.heap.size) => Tryz.bldWrite g S.data.toList LN W h HSL.out h2)
      rw [HLI.out] at HWR
      clear hT hLine hTx hn
      go_wp2_with fail
      go_region_with (first | (go_at_call 20; with_reducible refine (HS.out _ ?hb).mono ?_; (case hb => exact (by repeat (first | exact Below.refl _ _ | with_reducible refine bl_plus ?_ | with_reducible refine bl_alloc ?_ _ | with_reducible refine bl_drew ?_ | with_reducible refine bl_drewN ?_ _))); rintro e w' ⟨rfl, hbl⟩; obtain ⟨os2, n2, rfl⟩ := below_plus hbl; clear hbl) | (go_at_call 19; with_reducible refine (HWR.out _ (by repeat (first | with_reducible exact HB.out | with_reducible refine bldP_plus ?_ | with_reducible refine bldP_alloc ?_ _ | with_reducible refine bldP_drew ?_)) (by simp only [plus_size, World.size_alloc, World.drew]; omega)).mono ?_; rintro e w3 ⟨rfl, hb3, hbl3⟩; have HB3 := hide hb3; have HBL3 := hide (HBL.out.trans (Below.trans (Below.mono (by repeat (first | exact Below.refl _ _ | with_reducible refine bl_plus ?_ | with_reducible refine bl_alloc ?_ _ | with_reducible refine bl_drew ?_ | with_reducible refine bl_drewN ?_ _)) hgr) hbl3)); clear hb3 hbl3))
      all_goals
        go_wp2
        go_roundw
        case rel => exact ⟨k + 1, hlt, by go_num, hide (by rw [HN.out, HLI.out, ByteArray.data_append, Array.toList_append]; exact HB3.out), HBL3⟩
        case measure => simp [intOf]; omega
    · obtain rfl : k = l.length := by omega
      have hb := HB.out
      rw [List.take_length] at hb
      clear HB HG HTL HC HP
      obtain ⟨S, hSe⟩ : ∃ S, propsTxt l = S := ⟨_, rfl⟩
      rw [hSe] at hb
      have HSE := hide hSe
      clear hSe
      have HB2 := hide hb
      have HS9 := hide (fun W (h : Bld W g S.data.toList) (h2 : g ≤ W.heap.size) => Tryz.bldString g S.data.toList W h h2)
      rw [show (⟨S.data.toList.toArray⟩ : ByteArray) = S from rfl] at HS9
      clear hb
      go_wp2_with (go_at_call 21; with_reducible refine (HS9.out _ (by repeat (first | with_reducible exact HB2.out | with_reducible refine bldP_plus ?_ | with_reducible refine bldP_alloc ?_ _ | with_reducible refine bldP_drew ?_)) (by first | exact hgr | (simp only [plus_size, World.size_alloc, World.drew]; omega))).mono ?_; rintro e w3 ⟨rfl, hbl3⟩; have HBL3 := hide (HBL.out.trans hbl3); clear hbl3)
      go_ret2
      rw [HSE.out]
      exact ⟨rfl, HBW.out.trans (Below.mono HBL3.out hgs)⟩

set_option maxHeartbeats 3200000 in
set_option maxRecDepth 100000 in
theorem propsText_any (l : List PR) (A : Option Addr) (c : Nat) (w : World) (hp : PowTab w) (hA : PsAt w A l) :
    Calls Tryz.prog 6 #[.slice A l.length c] w fun e w' => e = .returned (.tuple #[.string (propsOut l), .int .i64 (propsErr l)]) ∧ Below w.heap.size w w' := by
  unfold propsOut
  by_cases he : propsErr l = 0
  · rw [if_pos he, he]
    exact propsText_good l A c w hp hA he
  · rw [if_neg he]
    have HC := hide (fun W (hb : Below w.heap.size w W) => checkProps_any l A c W (hA.below hb))
    have he2 : (propsErr l != 0) = true := bne_iff_ne.2 he
    generalize propsErr l = E at *
    clear hA hp
    go_enter Tryz.func6, Tryz.ntmps6
    go_wp2_with (first | (go_at_call 9; with_reducible refine (HC.out _ ?hb).mono ?_; (case hb => exact (by repeat (first | exact Below.refl _ _ | with_reducible refine bl_plus ?_ | with_reducible refine bl_alloc ?_ _ | with_reducible refine bl_drew ?_ | with_reducible refine bl_drewN ?_ _))); rintro e w' ⟨rfl, hbl⟩; obtain ⟨os1, n1, rfl⟩ := below_plus hbl; clear hbl))
    go_ret2
    exact ⟨rfl, (by repeat (first | exact Below.refl _ _ | with_reducible refine bl_plus ?_ | with_reducible refine bl_alloc ?_ _ | with_reducible refine bl_drew ?_ | with_reducible refine bl_drewN ?_ _))⟩

end Go.Proofs.YtjaoiehjhnmahaaGreatDoor
