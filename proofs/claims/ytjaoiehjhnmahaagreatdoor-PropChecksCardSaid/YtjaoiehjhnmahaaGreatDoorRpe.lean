/-
  WALK: the building of a Replacer's table.
-/
import Derived.Test.YtjaoiehjhnmahaaGreatDoorRpc
import Derived.Deep.WholeRow
import Derived.Deep.DeepCutAuto
set_option linter.all false
namespace Go.Proofs.YtjaoiehjhnmahaaGreatDoor
open Go.RowKit

theorem make_two (w : World) : (Instr.makeSlice 61 (.int .i64 0) (.int .i64 2)).run Tryz.prog w = .ok (.slice (some ⟨w.heap.size, 0, none⟩) 0 2) (w.alloc (.cells #[.string ⟨#[]⟩, .string ⟨#[]⟩] 9)) := by
  obtain ⟨i0, hi, hz0, hz1, hz2⟩ := info_parts info_strR
  have := run_make (P := Tryz.prog) w 61 9 i0 (.string ByteArray.empty) Tryz.underlying61 hi hz0 .i64 .i64 0 2 (by decide) (by decide) (by rw [hz2]; decide) (by decide)
  have e : madeCells (Value.string ByteArray.empty).cells (Int.toNat 2 * 1) = #[.string ⟨#[]⟩, .string ⟨#[]⟩] := by kernel_rfl
  rw [this, hz1, e]
  rfl

theorem all_set {c : Array Value} {i : Nat} {v : Value} (h : c.all (·.oneCell') = true) (hv : v.oneCell' = true) : (c.setIfInBounds i v).all (·.oneCell') = true := by
  rw [Array.all_eq_true] at h ⊢
  intro j hj
  rw [Array.getElem_setIfInBounds (by simpa using hj)]
  split
  · exact hv
  · exact h j (by simpa using hj)

theorem zTab_is : Tryz.zeroCells283 = Array.replicate 257 (Value.slice none 0 0) := by kernel_rfl

theorem tab_store (w : World) (v : Value) (hv : v.oneCell' = true) : (storeCells ⟨w.heap.size, 0, none⟩ (Tryz.zeroCells283.toList.set 256 v)).run Tryz.prog (w.alloc (.cells Tryz.zeroCells283 283)) = .ok () (w.alloc (.cells (Tryz.zeroCells283.setIfInBounds 256 v) 283)) := by
  have := run_storeCells_new (P := Tryz.prog) w 283 Tryz.zeroCells283 (Tryz.zeroCells283.setIfInBounds 256 v) (by rw [Array.size_setIfInBounds, zTab_is, Array.size_replicate]; kernel_rfl) (by rw [Array.size_setIfInBounds]) (all_set (by kernel_rfl) hv)
  rw [Array.toList_setIfInBounds] at this
  exact this

theorem byte92 (h : 0 < (⟨#[92]⟩ : ByteArray).size) : (((⟨#[92]⟩ : ByteArray)[0]'h).toNat : Int) = 92 := rfl

theorem byte34 (h : 0 < (⟨#[34]⟩ : ByteArray).size) : (((⟨#[34]⟩ : ByteArray)[0]'h).toNat : Int) = 34 := rfl
attribute [local go_sem ↓] byte92 byte34

theorem conv1 (W : World) (x : Nat) (hx : x < 256) (g : Nat) (hg : g = W.heap.size) :
    (convert 44 9 (.slice (some ⟨g, 0, none⟩) 1 1)).run Tryz.prog (W.alloc (.cells #[.int .u8 (x : Int)] 5)) = .ok (.string ⟨#[UInt8.ofNat x]⟩) (W.alloc (.cells #[.int .u8 (x : Int)] 5)) := by
  subst hg
  have h := run_convert_bytes_arg (P := Tryz.prog) (W.alloc (.cells #[.int .u8 (x : Int)] 5)) 44 5 Tryz.underlying44 Tryz.underlying5 W.heap.size 0 1 1 [(x : Int)] rfl (fun i hi => by
    have : i = 0 := by omega
    subst this
    exact (Blk.new W 5 _).cell 0) 9 Tryz.underlying9
  rw [h]
  congr 3

theorem conv1z (W : World) (x : Nat) (z : Int) (r : UInt8) (hx : x < 256) (hz : (x : Int) = z) (hr : UInt8.ofNat x = r) (g : Nat) (hg : g = W.heap.size) :
    (convert 44 9 (.slice (some ⟨g, 0, none⟩) 1 1)).run Tryz.prog (W.alloc (.cells #[.int .u8 z] 5)) = .ok (.string ⟨#[r]⟩) (W.alloc (.cells #[.int .u8 z] 5)) := by
  subst hz hr
  exact conv1 W x hx g hg

theorem fr_ne {v v' : Value} {S b gb : Nat} (hfr : v'.ownBlock = v.ownBlock ∨ ∃ g, v'.ownBlock = some g ∧ S ≤ g) (hv : v.ownBlock = some b) (h1 : b ≠ gb) (h2 : gb < S) : ∀ k, v'.ownBlock = some k → k ≠ gb := by
  intro k hk
  rcases hfr with h | ⟨g, h, h3⟩
  · rw [h, hv] at hk
    injection hk with hk
    omega
  · rw [h] at hk
    injection hk with hk
    omega

theorem fr_ne2 {v v' : Value} {S gb : Nat} (hfr : v'.ownBlock = v.ownBlock ∨ ∃ g, v'.ownBlock = some g ∧ S ≤ g) (hv : ∀ k, v.ownBlock = some k → k ≠ gb) (h2 : gb < S) : ∀ k, v'.ownBlock = some k → k ≠ gb := by
  intro k hk
  rcases hfr with h | ⟨g, h, h3⟩
  · rw [h] at hk
    exact hv k hk
  · rw [h] at hk
    injection hk with hk
    omega

theorem row_cells {w : World} {g cap : Nat} {s : ByteArray} {m : Nat × Nat} (h : w.heap[g]? = some (.cells (bytesRow s cap) 5 m)) (j : Nat) (hj : j < s.data.size) : w.cell? ⟨g, j, none⟩ = some (.int .u8 (s.data[j].toNat : Int)) := by
  rw [cell_of_row w g j _ _ _ h, bytesRow_at s cap j hj]

theorem own0 (w : World) : OwnK 1 9 (w.alloc (.cells #[.string ⟨#[]⟩, .string ⟨#[]⟩] 9)) w.heap.size (.slice (some ⟨w.heap.size, 0, none⟩) 0 2) 0 [] :=
  ⟨rfl, some ⟨w.heap.size, 0, none⟩, 2, rfl, by decide, by simp [maxLen], .inr ⟨w.heap.size, _, rfl, Nat.le_refl _, heap_alloc_new w _, by decide, rfl⟩⟩

set_option maxRecDepth 100000 in
set_option maxHeartbeats 6400000 in
theorem build_any (g : Nat) (b o c : Nat) (w : World) (h : Blk w g 215 (repCells 0 1 .nilIface (.slice (some ⟨b, o, none⟩) 4 c))) (h4 : FourAt w (some ⟨b, o, none⟩)) :
    Calls Tryz.prog 182 #[.pointer (some ⟨g, 0, none⟩)] w fun e w' => ∃ gb, e = .returned (.iface 284 (.pointer (some ⟨gb, 0, none⟩))) ∧ Below w.heap.size w w' ∧ RepTab w' w.heap.size gb := by
  have k4 := h.cell 4
  have hmk := make_two
  have hqT : ∀ (w : World) (a : Option Addr) (n c n' c' : Nat), (binOp .eql 44 (.slice a n c) (.slice none n' c')).run Tryz.prog w = .ok (.bool a.isNone) w := fun w a n c n' c' => Lib.run_eql_slice_nil w _ _ a n c n' c' Tryz.underlying44
  have hst := tab_store (w.alloc (.cells #[.string ⟨#[]⟩, .string ⟨#[]⟩] 9)) (.slice (some ⟨w.heap.size, 0, none⟩) 0 2) rfl
  simp only [World.size_alloc] at hst
  have hg := h.lt
  obtain ⟨b', o', hA, hb, e0, e1, e2, e3⟩ := h4
  injection hA with hA
  injection hA with hA1 hA2 _
  subst hA1 hA2
  replace k4 : w.cell? ⟨g, 4, none⟩ = some (.slice (some ⟨b, o, none⟩) 4 c) := k4
  clear h
  go_enter Tryz.func182, Tryz.ntmps182
  go_wp2
  refine wp_loop_rounds 3 ?_
  rw [rounds_succ]
  go_wp2
  rw [rounds_succ]
  go_wp2
  rw [rounds_succ]
  go_upto_region 26 with (fail)
  go_upto_region 27 with (fail)
  clear hst hmk
  have z1 : (Tryz.zeroCells283.setIfInBounds 256 (.slice (some ⟨w.heap.size, 0, none⟩) 0 2))[256]? = some (.slice (some ⟨w.heap.size, 0, none⟩) 0 2) := by rw [zTab_is, Array.getElem?_setIfInBounds]; simp
  have z2 : ∀ i, i < 256 → (Tryz.zeroCells283.setIfInBounds 256 (.slice (some ⟨w.heap.size, 0, none⟩) 0 2))[i]? = some (.slice none 0 0) := fun i hi => by
    rw [zTab_is, Array.getElem?_setIfInBounds, if_neg (by omega), Array.getElem?_replicate, if_pos (by omega)]
  have z3 := z2 92 (by decide)
  have z4 := z2 34 (by decide)
  have HZ := hide z2
  clear z2
  generalize Tryz.zeroCells283.setIfInBounds 256 (.slice (some ⟨w.heap.size, 0, none⟩) 0 2) = Z at *
  have hcv1 := conv1z ((w.alloc (.cells #[.string ⟨#[]⟩, .string ⟨#[]⟩] 9)).alloc (.cells Z 283)) 92 92 92 (by decide) rfl rfl (w.heap.size + 1 + 1) (by simp only [World.size_alloc])
  obtain ⟨j0, ji, jz0, jz1, jz2⟩ := info_parts info_strR
  have HI := hide (And.intro ji (And.intro jz0 (And.intro jz1 jz2)))
  clear ji jz0 jz1 jz2
  go_wp2
  refine wp_loop_rounds 3 ?_
  rw [rounds_succ]
  go_upto_region 34 with (at_builtin; go_loud (refine wpList_append_k rfl (.tmp 119) (.tmp 123) rfl rfl Tryz.underlying61 HI.out.1 HI.out.2.1 HI.out.2.2.1 (by decide) rfl (by have := HI.out.2.2.2; omega) w.heap.size 0 (.slice (some ⟨w.heap.size, 0, none⟩) 0 2) [] [.string ⟨#[92]⟩] _ rfl (ownK_alloc (ownK_alloc (ownK_alloc (own0 w) _) _) _) rfl (by intro u hu; simp only [List.mem_cons, List.not_mem_nil, or_false] at hu; subst hu; rfl) rfl (newN_cells (cs := [.string ⟨#[92]⟩]) (by simp only [World.size_alloc, plus_size, World.drew])) (by decide) (by simp only [World.size_alloc]; omega) ?_; intro v' w1 hown1 hgr1 hfr1; obtain ⟨A1, c1, rfl, _⟩ := ownK_form hown1; have HO1 := hide hown1; have hB1 := (Blk.grown (Blk.alloc (Blk.alloc (Blk.new (w.alloc (.cells #[.string ⟨#[]⟩, .string ⟨#[]⟩] 9)) 283 Z) _) _) hgr1 (by simp [Value.ownBlock])); simp only [World.size_alloc] at hB1; have HB1 := hide hB1; have c256 := (hB1.cell 256).trans z1; have f256 := hB1.frozen 256; have hl256 := hB1.lt; have hbw1 : Below w.heap.size w w1 := Below.grown (by repeat (first | with_reducible exact Below.refl _ _ | with_reducible refine bl_plus ?_ | with_reducible refine bl_alloc ?_ _ | with_reducible refine bl_drew ?_ | with_reducible refine bl_drewN ?_ _)) hgr1 (by simp only [World.size_alloc]; omega) (fun k hk => by simp [Value.ownBlock] at hk; omega); have HW1 := hide hbw1; have HFR1 := hide (fr_ne (b := w.heap.size) (gb := w.heap.size + 1) hfr1 rfl (by omega) (by simp only [World.size_alloc]; omega)); clear hown1 hgr1 hfr1 hbw1 hB1))
  have hb2 := HB1.out.set_ 256 (.slice A1 1 c1)
  have ho2 : OwnK 1 9 (w1.setCell ⟨w.heap.size + 1, 256, none⟩ (.slice A1 1 c1)) w.heap.size (.slice A1 1 c1) 1 [.string ⟨#[92]⟩] := HO1.out.kept (fun k hk => Below.heap_setCell w1 _ _ k (HFR1.out k hk))
  have hw2 : Below w.heap.size w (w1.setCell ⟨w.heap.size + 1, 256, none⟩ (.slice A1 1 c1)) := HW1.out.setCell (by show w.heap.size ≤ w.heap.size + 1; omega) _
  have HO2 := hide ho2
  have HW2 := hide hw2
  have HB2 := hide hb2
  clear hb2 ho2 hw2 c256 f256 hl256 HO1 HB1 HW1 hcv1
  generalize w1.setCell ⟨w.heap.size + 1, 256, none⟩ (.slice A1 1 c1) = W2 at *
  have z92 : (Z.setIfInBounds 256 (.slice A1 1 c1))[92]? = some (.slice none 0 0) := by rw [Array.getElem?_setIfInBounds, if_neg (by decide)]; exact z3
  have z34 : (Z.setIfInBounds 256 (.slice A1 1 c1))[34]? = some (.slice none 0 0) := by rw [Array.getElem?_setIfInBounds, if_neg (by decide)]; exact z4
  have z256 : (Z.setIfInBounds 256 (.slice A1 1 c1))[256]? = some (.slice A1 1 c1) := by
    rw [Array.getElem?_setIfInBounds, if_pos rfl, if_pos (by have := (Array.getElem?_eq_some_iff.1 z1).1; exact this)]
  have HZ2 := hide (show ∀ i, i < 256 → (Z.setIfInBounds 256 (.slice A1 1 c1))[i]? = some (.slice none 0 0) from fun i hi => by rw [Array.getElem?_setIfInBounds, if_neg (by omega)]; exact HZ.out i hi)
  clear z1 z3 z4 HZ
  generalize Z.setIfInBounds 256 (.slice A1 1 c1) = Z2 at *
  have c92 := (HB2.out.cell 92).trans z92
  have f92 := HB2.out.frozen 92
  have hl2 := HB2.out.lt
  have hcv2 := run_bytes_of_string (P := Tryz.prog) W2 9 44 5 ⟨#[92, 92]⟩ Tryz.underlying9 Tryz.underlying44 Tryz.underlying5
  have hge := grownCap_ge W2 (⟨#[92, 92]⟩ : ByteArray).size 0 5
  generalize grownCap W2 (⟨#[92, 92]⟩ : ByteArray).size 0 5 = cap at hcv2 hge
  have HGE := hide hge
  clear hge
  go_wp2
  have hga : w.heap.size ≤ W2.heap.size := HW2.out.size
  have hb3 : Blk ((W2.setCell ⟨w.heap.size + 1, 92, none⟩ (.slice (some ⟨W2.heap.size, 0, none⟩) 2 cap)).alloc (.cells (bytesRow ⟨#[92, 92]⟩ cap) 5 ((bytesRow ⟨#[92, 92]⟩ cap).size, (bytesRow ⟨#[92, 92]⟩ cap).size + 1))).drew (w.heap.size + 1) 283 (Z2.setIfInBounds 92 (.slice (some ⟨W2.heap.size, 0, none⟩) 2 cap)) := ((HB2.out.set_ 92 _).alloc _).drew
  have ho3 : OwnK 1 9 ((W2.setCell ⟨w.heap.size + 1, 92, none⟩ (.slice (some ⟨W2.heap.size, 0, none⟩) 2 cap)).alloc (.cells (bytesRow ⟨#[92, 92]⟩ cap) 5 ((bytesRow ⟨#[92, 92]⟩ cap).size, (bytesRow ⟨#[92, 92]⟩ cap).size + 1))).drew w.heap.size (.slice A1 1 c1) 1 [.string ⟨#[92]⟩] := ownK_drew (ownK_alloc (HO2.out.kept (fun k hk => Below.heap_setCell W2 _ _ k (HFR1.out k hk))) _)
  have hw3 : Below w.heap.size w ((W2.setCell ⟨w.heap.size + 1, 92, none⟩ (.slice (some ⟨W2.heap.size, 0, none⟩) 2 cap)).alloc (.cells (bytesRow ⟨#[92, 92]⟩ cap) 5 ((bytesRow ⟨#[92, 92]⟩ cap).size, (bytesRow ⟨#[92, 92]⟩ cap).size + 1))).drew := bl_drew (bl_alloc (HW2.out.setCell (by show w.heap.size ≤ w.heap.size + 1; omega) _) _)
  have hr3 : ((W2.setCell ⟨w.heap.size + 1, 92, none⟩ (.slice (some ⟨W2.heap.size, 0, none⟩) 2 cap)).alloc (.cells (bytesRow ⟨#[92, 92]⟩ cap) 5 ((bytesRow ⟨#[92, 92]⟩ cap).size, (bytesRow ⟨#[92, 92]⟩ cap).size + 1))).drew.heap[W2.heap.size]? = some (.cells (bytesRow ⟨#[92, 92]⟩ cap) 5 ((bytesRow ⟨#[92, 92]⟩ cap).size, (bytesRow ⟨#[92, 92]⟩ cap).size + 1)) := by
    have := heap_alloc_new (W2.setCell ⟨w.heap.size + 1, 92, none⟩ (.slice (some ⟨W2.heap.size, 0, none⟩) 2 cap)) (.cells (bytesRow ⟨#[92, 92]⟩ cap) 5 ((bytesRow ⟨#[92, 92]⟩ cap).size, (bytesRow ⟨#[92, 92]⟩ cap).size + 1))
    rw [setCell_size] at this
    exact this
  have hown2 : ∀ k, (Value.slice A1 1 c1).ownBlock = some k → k < W2.heap.size := fun k hk => (HO2.out.lt k hk).2
  have HO3 := hide ho3
  have HB3 := hide hb3
  have HW3 := hide hw3
  have HR3 := hide hr3
  have HK2 := hide hown2
  clear ho3 hb3 hw3 hr3 hown2 c92 f92 hcv2 HO2 HB2
  generalize ((W2.setCell ⟨w.heap.size + 1, 92, none⟩ (.slice (some ⟨W2.heap.size, 0, none⟩) 2 cap)).alloc (.cells (bytesRow ⟨#[92, 92]⟩ cap) 5 ((bytesRow ⟨#[92, 92]⟩ cap).size, (bytesRow ⟨#[92, 92]⟩ cap).size + 1))).drew = W3 at *
  have y92 : (Z2.setIfInBounds 92 (.slice (some ⟨W2.heap.size, 0, none⟩) 2 cap))[92]? = some (.slice (some ⟨W2.heap.size, 0, none⟩) 2 cap) := by
    rw [Array.getElem?_setIfInBounds, if_pos rfl, if_pos (by have := (Array.getElem?_eq_some_iff.1 z92).1; exact this)]
  have y34 : (Z2.setIfInBounds 92 (.slice (some ⟨W2.heap.size, 0, none⟩) 2 cap))[34]? = some (.slice none 0 0) := by rw [Array.getElem?_setIfInBounds, if_neg (by decide)]; exact z34
  have y256 : (Z2.setIfInBounds 92 (.slice (some ⟨W2.heap.size, 0, none⟩) 2 cap))[256]? = some (.slice A1 1 c1) := by rw [Array.getElem?_setIfInBounds, if_neg (by decide)]; exact z256
  have HZ3 := hide (show ∀ i, i < 256 → i ≠ 92 → (Z2.setIfInBounds 92 (.slice (some ⟨W2.heap.size, 0, none⟩) 2 cap))[i]? = some (.slice none 0 0) from fun i hi hn => by rw [Array.getElem?_setIfInBounds, if_neg (fun e => hn e.symm)]; exact HZ2.out i hi)
  clear z92 z34 z256 HZ2
  generalize Z2.setIfInBounds 92 (.slice (some ⟨W2.heap.size, 0, none⟩) 2 cap) = Z3 at *
  have x0 := (HW3.out.cell (p := ⟨b, o, none⟩) hb).trans e0
  have x1 := (HW3.out.cell (p := ⟨b, o + 1, none⟩) hb).trans e1
  have c34 := (HB3.out.cell 34).trans y34
  have c256 := (HB3.out.cell 256).trans y256
  have hl3 := HB3.out.lt
  have hb3w : b < W3.heap.size := Nat.lt_of_lt_of_le hb HW3.out.size
  have hcv1 := conv1z W3 34 34 34 (by decide) rfl rfl W3.heap.size rfl
  rw [rounds_succ]
  go_upto_region 34 with (at_builtin; go_loud (refine wpList_append_k rfl (.tmp 119) (.tmp 123) rfl rfl Tryz.underlying61 HI.out.1 HI.out.2.1 HI.out.2.2.1 (by decide) rfl (by have := HI.out.2.2.2; omega) w.heap.size 1 (.slice A1 1 c1) [.string ⟨#[92]⟩] [.string ⟨#[34]⟩] _ rfl (ownK_alloc (ownK_alloc HO3.out _) _) rfl (by intro u hu; simp only [List.mem_cons, List.not_mem_nil, or_false] at hu; subst hu; rfl) rfl (newN_cells (cs := [.string ⟨#[34]⟩]) (by simp only [World.size_alloc, plus_size, World.drew])) (by decide) (by simp only [World.size_alloc]; have := HW3.out.size; omega) ?_; intro v' w4 hown1 hgr1 hfr1; obtain ⟨A2, c2, rfl, _⟩ := ownK_form hown1; have HO4 := hide hown1; have hB4 := Blk.grown (Blk.alloc (Blk.alloc HB3.out _) _) hgr1 (fun e => HFR1.out _ e.symm rfl); have HB4 := hide hB4; have c256 := (hB4.cell 256).trans y256; have f256 := hB4.frozen 256; have hl256 := hB4.lt; have hbw1 : Below w.heap.size w w4 := Below.grown (bl_alloc (bl_alloc HW3.out _) _) hgr1 (by simp only [World.size_alloc]; have := HW3.out.size; omega) (fun k hk => (HO3.out.lt k hk).1); have HW4 := hide hbw1; have HR4 := hide ((hgr1.block W2.heap.size (by simp only [World.size_alloc]; have := (Array.getElem?_eq_some_iff.1 HR3.out).1; omega) (fun e => by have := HK2.out _ e.symm; omega)).trans ((Below.heap_alloc _ _ _ (by simp only [World.size_alloc]; have := (Array.getElem?_eq_some_iff.1 HR3.out).1; omega)).trans ((Below.heap_alloc _ _ _ (Array.getElem?_eq_some_iff.1 HR3.out).1).trans HR3.out))); have HFR4 := hide (fr_ne2 (gb := w.heap.size + 1) hfr1 HFR1.out (by simp only [World.size_alloc]; omega)); have HFQ4 := hide (fr_ne2 (gb := W2.heap.size) hfr1 (fun k hk => by have := HK2.out k hk; omega) (by simp only [World.size_alloc]; have := (Array.getElem?_eq_some_iff.1 HR3.out).1; omega)); clear hown1 hgr1 hfr1 hbw1 hB4))
  have hb5 := HB4.out.set_ 256 (.slice A2 2 c2)
  have ho5 : OwnK 1 9 (w4.setCell ⟨w.heap.size + 1, 256, none⟩ (.slice A2 2 c2)) w.heap.size (.slice A2 2 c2) 2 [.string ⟨#[92]⟩, .string ⟨#[34]⟩] := HO4.out.kept (fun k hk => Below.heap_setCell w4 _ _ k (HFR4.out k hk))
  have hw5 : Below w.heap.size w (w4.setCell ⟨w.heap.size + 1, 256, none⟩ (.slice A2 2 c2)) := HW4.out.setCell (by show w.heap.size ≤ w.heap.size + 1; omega) _
  have hga1 : w.heap.size + 1 < W2.heap.size := hl2
  have hr5 := (Below.heap_setCell w4 ⟨w.heap.size + 1, 256, none⟩ (.slice A2 2 c2) W2.heap.size (by show W2.heap.size ≠ w.heap.size + 1; omega)).trans HR4.out
  have HO5 := hide ho5
  have HW5 := hide hw5
  have HB5 := hide hb5
  have HR5 := hide hr5
  clear hb5 ho5 hw5 hr5 c256 f256 hl256 HO4 HB4 HW4 HR4 hcv1 c34 x0 x1 hb3w
  generalize w4.setCell ⟨w.heap.size + 1, 256, none⟩ (.slice A2 2 c2) = W5 at *
  have z92 : (Z3.setIfInBounds 256 (.slice A2 2 c2))[92]? = some (.slice (some ⟨W2.heap.size, 0, none⟩) 2 cap) := by rw [Array.getElem?_setIfInBounds, if_neg (by decide)]; exact y92
  have z34 : (Z3.setIfInBounds 256 (.slice A2 2 c2))[34]? = some (.slice none 0 0) := by rw [Array.getElem?_setIfInBounds, if_neg (by decide)]; exact y34
  have z256 : (Z3.setIfInBounds 256 (.slice A2 2 c2))[256]? = some (.slice A2 2 c2) := by
    rw [Array.getElem?_setIfInBounds, if_pos rfl, if_pos (by have := (Array.getElem?_eq_some_iff.1 y256).1; exact this)]
  have HZ5 := hide (show ∀ i, i < 256 → i ≠ 92 → (Z3.setIfInBounds 256 (.slice A2 2 c2))[i]? = some (.slice none 0 0) from fun i hi hn => by rw [Array.getElem?_setIfInBounds, if_neg (by omega)]; exact HZ3.out i hi hn)
  clear y92 y34 y256 HZ3
  generalize Z3.setIfInBounds 256 (.slice A2 2 c2) = Z5 at *
  have c34 := (HB5.out.cell 34).trans z34
  have f34 := HB5.out.frozen 34
  have hl5 := HB5.out.lt
  have hg5 := (Array.getElem?_eq_some_iff.1 HR5.out).1
  have hcv2 := run_bytes_of_string (P := Tryz.prog) W5 9 44 5 ⟨#[92, 34]⟩ Tryz.underlying9 Tryz.underlying44 Tryz.underlying5
  have hge := grownCap_ge W5 (⟨#[92, 34]⟩ : ByteArray).size 0 5
  generalize grownCap W5 (⟨#[92, 34]⟩ : ByteArray).size 0 5 = cap2 at hcv2 hge
  have HGE2 := hide hge
  clear hge
  have hfin : RepTab ((W5.setCell ⟨w.heap.size + 1, 34, none⟩ (.slice (some ⟨W5.heap.size, 0, none⟩) 2 cap2)).alloc (.cells (bytesRow ⟨#[92, 34]⟩ cap2) 5 ((bytesRow ⟨#[92, 34]⟩ cap2).size, (bytesRow ⟨#[92, 34]⟩ cap2).size + 1))).drew w.heap.size (w.heap.size + 1) := by
    have hsz : ((W5.setCell ⟨w.heap.size + 1, 34, none⟩ (.slice (some ⟨W5.heap.size, 0, none⟩) 2 cap2)).alloc (.cells (bytesRow ⟨#[92, 34]⟩ cap2) 5 ((bytesRow ⟨#[92, 34]⟩ cap2).size, (bytesRow ⟨#[92, 34]⟩ cap2).size + 1))).drew.heap.size = W5.heap.size + 1 := by
      show ((W5.setCell _ _).alloc _).heap.size = _
      rw [World.size_alloc, setCell_size]
    have hb6 : Blk ((W5.setCell ⟨w.heap.size + 1, 34, none⟩ (.slice (some ⟨W5.heap.size, 0, none⟩) 2 cap2)).alloc (.cells (bytesRow ⟨#[92, 34]⟩ cap2) 5 ((bytesRow ⟨#[92, 34]⟩ cap2).size, (bytesRow ⟨#[92, 34]⟩ cap2).size + 1))).drew (w.heap.size + 1) 283 (Z5.setIfInBounds 34 (.slice (some ⟨W5.heap.size, 0, none⟩) 2 cap2)) := ((HB5.out.set_ 34 _).alloc _).drew
    have hr6 : ((W5.setCell ⟨w.heap.size + 1, 34, none⟩ (.slice (some ⟨W5.heap.size, 0, none⟩) 2 cap2)).alloc (.cells (bytesRow ⟨#[92, 34]⟩ cap2) 5 ((bytesRow ⟨#[92, 34]⟩ cap2).size, (bytesRow ⟨#[92, 34]⟩ cap2).size + 1))).drew.heap[W2.heap.size]? = _ := (Below.heap_alloc (W5.setCell ⟨w.heap.size + 1, 34, none⟩ (.slice (some ⟨W5.heap.size, 0, none⟩) 2 cap2)) _ W2.heap.size (by rw [setCell_size]; exact hg5)).trans ((Below.heap_setCell W5 ⟨w.heap.size + 1, 34, none⟩ _ W2.heap.size (by show W2.heap.size ≠ w.heap.size + 1; omega)).trans HR5.out)
    have hr7 : ((W5.setCell ⟨w.heap.size + 1, 34, none⟩ (.slice (some ⟨W5.heap.size, 0, none⟩) 2 cap2)).alloc (.cells (bytesRow ⟨#[92, 34]⟩ cap2) 5 ((bytesRow ⟨#[92, 34]⟩ cap2).size, (bytesRow ⟨#[92, 34]⟩ cap2).size + 1))).drew.heap[W5.heap.size]? = some (.cells (bytesRow ⟨#[92, 34]⟩ cap2) 5 ((bytesRow ⟨#[92, 34]⟩ cap2).size, (bytesRow ⟨#[92, 34]⟩ cap2).size + 1)) := by
      have := heap_alloc_new (W5.setCell ⟨w.heap.size + 1, 34, none⟩ (.slice (some ⟨W5.heap.size, 0, none⟩) 2 cap2)) (.cells (bytesRow ⟨#[92, 34]⟩ cap2) 5 ((bytesRow ⟨#[92, 34]⟩ cap2).size, (bytesRow ⟨#[92, 34]⟩ cap2).size + 1))
      rw [setCell_size] at this
      exact this
    have ho6 : OwnK 1 9 ((W5.setCell ⟨w.heap.size + 1, 34, none⟩ (.slice (some ⟨W5.heap.size, 0, none⟩) 2 cap2)).alloc (.cells (bytesRow ⟨#[92, 34]⟩ cap2) 5 ((bytesRow ⟨#[92, 34]⟩ cap2).size, (bytesRow ⟨#[92, 34]⟩ cap2).size + 1))).drew w.heap.size (.slice A2 2 c2) 2 [.string ⟨#[92]⟩, .string ⟨#[34]⟩] := ownK_drew (ownK_alloc (HO5.out.kept (fun k hk => Below.heap_setCell W5 _ _ k (HFR4.out k hk))) _)
    have hlt6 := ho6.lt
    obtain ⟨_, A', c', hv, h1, h2, h3⟩ := ho6
    injection hv with q1 q2 q3
    subst q1 q3
    rcases h3 with ⟨_, h0, _⟩ | ⟨gt, cur, rfl, hgt, hcur, h4, h5⟩
    · omega
    have hltg := (hlt6 gt rfl).2
    have hcg : ∀ i, i < 2 → ((W5.setCell ⟨w.heap.size + 1, 34, none⟩ (.slice (some ⟨W5.heap.size, 0, none⟩) 2 cap2)).alloc (.cells (bytesRow ⟨#[92, 34]⟩ cap2) 5 ((bytesRow ⟨#[92, 34]⟩ cap2).size, (bytesRow ⟨#[92, 34]⟩ cap2).size + 1))).drew.cell? ⟨gt, i, none⟩ = ([.string ⟨#[92]⟩, .string ⟨#[34]⟩] : List Value)[i]? := fun i hi => by
      rw [cell_of_row _ gt i cur _ (0, 0) hcur, ← h5, List.getElem?_take_of_lt (by omega)]
      simp
    have hws := HW5.out.size
    refine ⟨⟨_, W2.heap.size, W5.heap.size, gt, cap, cap2, c2, hb6, fun i hi h34 h92 => ?_, ?_, ?_, ?_, hga, by omega, by omega, by omega, hgt, hltg, row_cells hr6 0 (by decide), row_cells hr6 1 (by decide), row_cells hr7 0 (by decide), row_cells hr7 1 (by decide), hcg 0 (by decide), hcg 1 (by decide)⟩, by omega, by omega⟩
    · rw [Array.getElem?_setIfInBounds, if_neg (fun e => h34 e.symm)]
      exact HZ5.out i hi h92
    · rw [Array.getElem?_setIfInBounds, if_neg (by decide)]
      exact z92
    · rw [Array.getElem?_setIfInBounds, if_pos rfl, if_pos (by have := (Array.getElem?_eq_some_iff.1 z34).1; exact this)]
    · rw [Array.getElem?_setIfInBounds, if_neg (by decide)]
      exact z256
  have hw6 : Below w.heap.size w ((W5.setCell ⟨w.heap.size + 1, 34, none⟩ (.slice (some ⟨W5.heap.size, 0, none⟩) 2 cap2)).alloc (.cells (bytesRow ⟨#[92, 34]⟩ cap2) 5 ((bytesRow ⟨#[92, 34]⟩ cap2).size, (bytesRow ⟨#[92, 34]⟩ cap2).size + 1))).drew := bl_drew (bl_alloc (HW5.out.setCell (by show w.heap.size ≤ w.heap.size + 1; omega) _) _)
  have HFIN := hide hfin
  have HW6 := hide hw6
  clear hfin hw6 HO5 HB5 HR5 HW5
  go_wp2
  rw [rounds_succ]
  go_wp2
  go_ret
  exact ⟨w.heap.size + 1, rfl, HW6.out, HFIN.out⟩

end Go.Proofs.YtjaoiehjhnmahaaGreatDoor
/-
  WALKS: a Replacer's table is built once.
-/
namespace Go.Proofs.YtjaoiehjhnmahaaGreatDoor
open Go.RowKit

theorem plus_swapR {B B' : World} {O : Array Obj} {n n' g : Nat} (hs : B.heap.size = B'.heap.size) (hg : B.heap.size ≤ g) : (plus B O n).heap[g]? = (plus B' O n').heap[g]? := by
  unfold plus
  simp only [Array.getElem?_append]
  rw [if_neg (by omega), if_neg (by omega), hs]

set_option maxRecDepth 100000 in
set_option maxHeartbeats 1600000 in
theorem buildOnce_any (g : Nat) (A : Option Addr) (c : Nat) (w : World) (h : Blk w g 215 (repCells 0 1 .nilIface (.slice A 4 c))) (h4 : FourAt w A) :
    Calls Tryz.prog 139 #[.pointer (some ⟨g, 0, none⟩)] w (BuiltOut g w) := by
  obtain ⟨b, o, rfl, hb4⟩ := h4
  have HBU := hide (build_any g b o c w h ⟨b, o, rfl, hb4⟩)
  have k3 := h.cell 3
  have k4 := h.cell 4
  have f3 := h.frozen 3
  have f4 := h.frozen 4
  have hg := h.lt
  replace k3 : w.cell? ⟨g, 3, none⟩ = some .nilIface := k3
  replace k4 : w.cell? ⟨g, 4, none⟩ = some (.slice (some ⟨b, o, none⟩) 4 c) := k4
  have H := hide h
  have HPO := hide (show ∀ gb os n, RepTab (plus w os n) w.heap.size gb → BuiltOut g w (.returned (.tuple #[])) (plus ((w.setCell ⟨g, 3, none⟩ (.iface 284 (.pointer (some ⟨gb, 0, none⟩)))).setCell ⟨g, 4, none⟩ (.slice none 0 0)) os n) from fun gb os n ht => by
    have hs2 : ((w.setCell ⟨g, 3, none⟩ (.iface 284 (.pointer (some ⟨gb, 0, none⟩)))).setCell ⟨g, 4, none⟩ (.slice none 0 0)).heap.size = w.heap.size := by rw [setCell_size, setCell_size]
    have hg2 : w.grownBy ((w.setCell ⟨g, 3, none⟩ (.iface 284 (.pointer (some ⟨gb, 0, none⟩)))).setCell ⟨g, 4, none⟩ (.slice none 0 0)) (some g) := set_grown (set_grown grown_refl)
    have hb2 := (H.out.set_ 3 (.iface 284 (.pointer (some ⟨gb, 0, none⟩)))).set_ 4 (.slice none 0 0)
    have hsz : (plus w os n).heap.size = w.heap.size + os.size := plus_size
    refine ⟨rfl, ⟨hg2.os, hg2.tape, hg2.output, by rw [plus_size]; have := hg2.size; omega, fun k hk hne => (plus_heap (by rw [hs2]; exact hk)).trans (hg2.block k hk hne)⟩, gb, ?_, ht.kept (by rw [plus_size, plus_size, hs2]; exact Nat.le_refl _) (fun k h1 h2 => plus_swapR hs2 (by rw [hs2]; exact h1))⟩
    exact (plus_heap (by rw [hs2]; exact H.out.lt)).trans hb2)
  generalize BuiltOut g w = PO at *
  clear h hb4
  go_enter Tryz.func139, Tryz.ntmps139
  go_wp2_with (go_at_call 182; refine (HBU.out).mono ?_; rintro e w' ⟨gb, rfl, hbl, htab⟩; obtain ⟨os, n, rfl⟩ := below_plus hbl; have HT := hide htab; clear hbl htab)
  go_end0
  exact HPO.out gb os n HT.out

theorem FourAt.grown {w w' : World} {g : Nat} {A : Option Addr} (h : FourAt w A) (hg : w.grownBy w' (some g)) (hne : ∀ b o, A = some ⟨b, o, none⟩ → b ≠ g) : FourAt w' A := by
  obtain ⟨b, o, hA, hlt, e0, e1, e2, e3⟩ := h
  have hb := hne b o hA
  have hc : ∀ i, w'.cell? ⟨b, i, none⟩ = w.cell? ⟨b, i, none⟩ := fun i => World.cell?_of_block (a := ⟨b, i, none⟩) (hg.block b hlt (fun e => hb (Option.some.inj e)))
  exact ⟨b, o, hA, Nat.lt_of_lt_of_le hlt hg.size, (hc _).trans e0, (hc _).trans e1, (hc _).trans e2, (hc _).trans e3⟩

/-- Do, for a Replacer of two bytes that is new. -/
theorem doNew_any (g : Nat) (A : Option Addr) (c : Nat) (w : World) (h : Blk w g 215 (repCells 0 0 .nilIface (.slice A 4 c))) (h4 : FourAt w A) :
    Calls Tryz.prog 138 #[.pointer (some ⟨g, 0, none⟩), .func (.func 139) #[.pointer (some ⟨g, 0, none⟩)] #[]] w fun e w' => e = .returned (.tuple #[]) ∧ w.grownBy w' (some g) ∧
      ∃ gb, Blk w' g 215 (repCells 1 0 (.iface 284 (.pointer (some ⟨gb, 0, none⟩))) (.slice none 0 0)) ∧ RepTab w' w.heap.size gb := by
  refine do_any g A c w h (fun W hW hg => buildOnce_any g A c W hW (h4.grown hg (fun b o hA e => ?_)))
  subst hA e
  obtain ⟨b', o', hA, _, e0, _⟩ := h4
  injection hA with hA
  injection hA with hA1 hA2 _
  subst hA1 hA2
  have hk := h.cell o
  rw [e0] at hk
  match o, hk with
  | 0, hk => injection hk with hk; cases hk
  | 1, hk => injection hk with hk; cases hk
  | 2, hk => injection hk with hk; cases hk
  | 3, hk => injection hk with hk; cases hk
  | 4, hk => injection hk with hk; cases hk
  | o + 5, hk => simp [repCells] at hk

end Go.Proofs.YtjaoiehjhnmahaaGreatDoor
