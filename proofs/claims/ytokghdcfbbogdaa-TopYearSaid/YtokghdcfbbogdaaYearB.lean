/-
  WALKS: slices.Grow of nothing, and slices.Concat of two, at ints.
-/
import Derived.Test.YtokghdcfbbogdaaInts
import Derived.Lib.AppendZerosOnto
import Derived.OwnWalk
namespace Go.Proofs.Ytokghdcfbbogdaa
open Go.RowKit

theorem grow_zero (w : World) : Calls Try.prog 88 #[.slice none 0 0, .int .i64 0] w fun e w' => e = .returned (.slice none 0 0) ∧ w = w' := by
  go_enter Try.func88, Try.ntmps88
  go_wp2
  go_ret
  exact ⟨rfl, rfl⟩

def GrowOut (n : Nat) (w : World) (e : Ending) (w' : World) : Prop :=
  ∃ G cur, e = .returned (.slice (some ⟨w.heap.size, 0, none⟩) 0 G) ∧ n ≤ G ∧ G ≤ maxLen ∧ cur.size = G ∧ w' = w.drew.alloc (.cells cur 3)
set_option maxHeartbeats 2000000 in
set_option maxRecDepth 100000 in
theorem grow_some (n : Nat) (w : World) (h0 : 0 < n) (hn : n ≤ 1000000) : Calls Try.prog 88 #[.slice none 0 0, .int .i64 n] w (GrowOut n w) := by
  obtain ⟨i0, hi, hz0, hz1, hz2⟩ := info_parts info_int
  have hmul : n * i0.bytes ≤ 140737488355328 := by rw [hz2]; omega
  have hrz : ∀ ty, (Builtin.append_ #[31, 3] ty #[.slice none 0 0, .int .i64 (n : Int)]).run Try.prog w =
      .ok (.slice (some ⟨w.heap.size, 0, none⟩) n (grownCap w n 0 3)) (w.drew.alloc (.cells (#[] ++ Builtin.zeroCells (Value.int .i64 0).cells n ++ Builtin.zeroCells (Value.int .i64 0).cells (grownCap w n 0 3 - n)) 3)) := fun ty => by
    have h := Lib.run_append_grow_zeros w 31 3 ty 3 i0 (.int .i64 0) .i64 .i64 Try.underlying31 Try.underlying3 hi hz0 none 0 0 [] (run_firstCells_none w.drew i0.size 0 0 0) n h0 (by omega) (by omega) (by omega) (by omega)
      (by rw [Nat.zero_add]; exact growslice_fits (by omega) hmul)
    simpa only [Nat.zero_add] using h
  have hGn : n ≤ grownCap w n 0 3 := grownCap_ge w _ _ _
  have hGm : grownCap w n 0 3 ≤ maxLen := grownCap_le_maxLen w n 0 3 (by unfold maxLen; omega)
  have hsz : (#[] ++ Builtin.zeroCells (Value.int .i64 0).cells n ++ Builtin.zeroCells (Value.int .i64 0).cells (grownCap w n 0 3 - n)).size = grownCap w n 0 3 := by
    simp only [Array.size_append, size_zeroCells, List.size_toArray, List.length_nil]
    have : (Value.int .i64 0).cells.size = 1 := rfl
    rw [this]; omega
  generalize grownCap w n 0 3 = G at hrz hGn hGm hsz
  generalize (#[] ++ Builtin.zeroCells (Value.int .i64 0).cells n ++ Builtin.zeroCells (Value.int .i64 0).cells (G - n)) = cur at hrz hsz
  have HS := hide hsz
  have HM := hide hGm
  unfold maxLen at hGm
  clear hsz hi hz0 hz1 hz2 hmul
  go_enter Try.func88, Try.ntmps88
  go_wp2_with (at_builtin; refine Lib.wpList_append_run _ rfl _ _ _ _ rfl _ _ rfl rfl _ _ (hrz _) ?_)
  go_ret
  exact ⟨G, cur, rfl, hGn, HM.out, HS.out, rfl⟩

/-- What two slices of numbers joined give. -/
def ConcatOut (l : List Int) (w : World) (e : Ending) (w' : World) : Prop :=
  ∃ A c, e = .returned (.slice A l.length c) ∧ l.length ≤ c ∧ IntsAt w' A l ∧ (A = none → l = [] ∧ c = 0) ∧ Below w.heap.size w w'

theorem new_at {w : World} {A : Option Addr} {l : List Int} (h : IntsAt w A l) : ∀ ad, A = some ad → ∀ j u, (l.map (Value.int .i64))[j]? = some u → w.cell? (ad.add j) = some u := by
  intro ad hA j u hj
  have hjl : j < l.length := by
    have := (List.getElem?_eq_some_iff.1 hj).1
    simpa using this
  obtain ⟨b, off, hA2, hb, hc⟩ := h (by omega)
  rw [hA] at hA2
  injection hA2 with hA2
  subst hA2
  rw [Addr.add_lit, hc j hjl]
  rw [List.getElem?_map, List.getElem?_eq_getElem hjl] at hj
  exact hj

set_option maxHeartbeats 4000000 in
set_option maxRecDepth 100000 in
theorem concat_some (A1 A2 : Option Addr) (c1 c2 : Nat) (l1 l2 : List Int) (B : Nat) (w : World) (hB : Blk w B 31 #[.slice A1 l1.length c1, .slice A2 l2.length c2]) (h1 : IntsAt w A1 l1) (h2 : IntsAt w A2 l2)
    (n1 : A1 = none → l1 = [] ∧ c1 = 0) (n2 : A2 = none → l2 = [] ∧ c2 = 0) (hpos : 0 < l1.length + l2.length) (hlen : l1.length + l2.length ≤ 1000000) :
    Calls Try.prog 50 #[.slice (some ⟨B, 0, none⟩) 2 2] w (ConcatOut (l1 ++ l2) w) := by
  obtain ⟨i0, hi, hz0, hz1, hz2⟩ := info_parts info_int
  have k0 := hB.cell 0
  have k1 := hB.cell 1
  simp only [List.getElem?_toArray, List.getElem?_cons_zero, List.getElem?_cons_succ] at k0 k1
  have hlt := hB.lt
  have HG := hide (fun w => grow_some (l1.length + l2.length) w hpos hlen)
  have HI := hide (And.intro hi (And.intro hz0 hz1))
  have H1 := hide h1
  have H2 := hide h2
  have N1 := hide n1
  have N2 := hide n2
  clear hi hz0 hz1 hz2 h1 h2 n1 n2 hB
  go_enter Try.func50, Try.ntmps50
  go_wp2
  refine wp_loop_rounds 3 ?_
  rw [rounds_succ]
  go_wp2
  rw [rounds_succ]
  go_wp2
  rw [rounds_succ]
  go_wp2_with (go_at_call 88; refine (HG.out _).mono ?_; rintro e w' ⟨G, cur, rfl, hG1, hG2, hG3, rfl⟩; have KG := hide (And.intro hG2 hG3); clear hG2 hG3)
  have HO : Hid (World.ownsRow (w.drew.alloc (.cells cur 3)) w.heap.size 3 1 (.slice (some ⟨w.heap.size, 0, none⟩) 0 G) 0 []) := ⟨rfl, .inr ⟨w.heap.size, G, cur, rfl, Nat.le_refl _, heap_alloc_new w.drew _, Nat.zero_le _, KG.out.1, by rw [KG.out.2]; omega, by simp⟩⟩
  refine wp_loop_rounds 3 ?_
  rw [rounds_succ]
  go_wp2_with (at_builtin; go_loud (refine wpList_append_fits_any _ rfl (.tmp 31) (.tmp 32) 31 rfl w.heap.size 3 _ 1 Try.underlying31 HI.out.1 HI.out.2.2 w.heap.size 0 G [] rfl HO.out A1 l1.length c1 (l1.map (Value.int .i64)) rfl (by simp) (fun h => by have := N1.out h; exact ⟨by rw [this.1]; rfl, this.2⟩) (new_at (H1.out.below (by exact ((Below.refl _ _).drew).alloc (Nat.le_refl _) _))) (ints_oneCell _ _) (by omega) ?_; intro w1 hown1 hgr1; simp only [Nat.zero_add, List.nil_append] at hown1; have HO1 := hide hown1; have HG1 := hide hgr1; clear hown1 hgr1))
  obtain ⟨os1, q1, rfl⟩ := grown_plus (L := w) (((Below.refl _ _).drew).alloc (Nat.le_refl _) _) HG1.out (fun k hk => by injection hk with hk; omega)
  clear HO HG1
  rw [rounds_succ]
  go_wp2_with (at_builtin; go_loud (refine wpList_append_fits_any _ rfl (.tmp 31) (.tmp 32) 31 rfl w.heap.size 3 _ 1 Try.underlying31 HI.out.1 HI.out.2.2 w.heap.size _ G _ rfl HO1.out A2 l2.length c2 (l2.map (Value.int .i64)) rfl (by simp) (fun h => by have := N2.out h; exact ⟨by rw [this.1]; rfl, this.2⟩) (new_at (H2.out.plus _ _)) (ints_oneCell _ _) (by omega) ?_; intro w2 hown2 hgr2; have HO2 := hide hown2; have HG2 := hide hgr2; clear hown2 hgr2))
  obtain ⟨os2, q2, rfl⟩ := grown_plus (L := w) (bl_plus (Below.refl _ _)) HG2.out (fun k hk => by injection hk with hk; omega)
  clear HO1 HG2
  rw [rounds_succ]
  go_wp2
  go_returns
  have hO := HO2.out
  simp only [← List.map_append] at hO
  refine ⟨some ⟨w.heap.size, 0, none⟩, G, ?_, by rw [List.length_append]; exact hG1, intsAt_of_own hO, (fun h => by cases h), bl_plus (Below.refl _ _)⟩
  rw [List.length_append]; rfl

set_option maxHeartbeats 4000000 in
set_option maxRecDepth 100000 in
theorem concat_none (A1 A2 : Option Addr) (c1 c2 : Nat) (B : Nat) (w : World) (hB : Blk w B 31 #[.slice A1 0 c1, .slice A2 0 c2]) :
    Calls Try.prog 50 #[.slice (some ⟨B, 0, none⟩) 2 2] w (ConcatOut [] w) := by
  have k0 := hB.cell 0
  have k1 := hB.cell 1
  simp only [List.getElem?_toArray, List.getElem?_cons_zero, List.getElem?_cons_succ] at k0 k1
  have hlt := hB.lt
  obtain ⟨i0, hi, hz0, hz1, hz2⟩ := info_parts info_int
  have hr : ∀ (A : Option Addr) c ty w, (Builtin.append_ #[31, 31] ty #[.slice none 0 0, .slice A 0 c]).run Try.prog w = .ok (.slice none 0 0) w := fun A c ty w => by
    have hf : (Builtin.firstCells i0.size 0 (.slice A 0 c)).run Try.prog w = .ok #[] w := by
      cases A with
      | none => exact run_firstCells_none w i0.size 0 0 c
      | some a => exact run_firstCells_some w i0.size 0 a 0 c [] (by simp) (fun j v hj => by simp at hj)
    simp [Builtin.append_, run_underlying Try.underlying31, Go.sizeOf, typeInfo, hi, Builtin.lenOf, hf]
  clear hi hz0 hz1 hz2 hB
  go_enter Try.func50, Try.ntmps50
  go_wp2
  refine wp_loop_rounds 3 ?_
  rw [rounds_succ]
  go_wp2
  rw [rounds_succ]
  go_wp2
  rw [rounds_succ]
  go_wp2_with (go_at_call 88; refine (grow_zero _).mono ?_; rintro e w' ⟨rfl, rfl⟩)
  refine wp_loop_rounds 3 ?_
  rw [rounds_succ]
  go_wp2_with (at_builtin; refine Lib.wpList_append_run _ rfl _ _ _ _ rfl _ _ rfl rfl _ _ (hr _ _ _ _) ?_)
  rw [rounds_succ]
  go_wp2_with (at_builtin; refine Lib.wpList_append_run _ rfl _ _ _ _ rfl _ _ rfl rfl _ _ (hr _ _ _ _) ?_)
  rw [rounds_succ]
  go_wp2
  go_returns
  exact ⟨none, 0, rfl, Nat.le_refl _, IntsAt.nil, fun _ => ⟨rfl, rfl⟩, Below.refl _ _⟩

theorem concat_any (A1 A2 : Option Addr) (c1 c2 : Nat) (l1 l2 : List Int) (B : Nat) (w : World) (hB : Blk w B 31 #[.slice A1 l1.length c1, .slice A2 l2.length c2]) (h1 : IntsAt w A1 l1) (h2 : IntsAt w A2 l2)
    (n1 : A1 = none → l1 = [] ∧ c1 = 0) (n2 : A2 = none → l2 = [] ∧ c2 = 0) (hlen : l1.length + l2.length ≤ 1000000) :
    Calls Try.prog 50 #[.slice (some ⟨B, 0, none⟩) 2 2] w (ConcatOut (l1 ++ l2) w) := by
  by_cases h : 0 < l1.length + l2.length
  · exact concat_some A1 A2 c1 c2 l1 l2 B w hB h1 h2 n1 n2 h hlen
  · obtain rfl : l1 = [] := List.length_eq_zero_iff.1 (by omega)
    obtain rfl : l2 = [] := List.length_eq_zero_iff.1 (by omega)
    exact concat_none A1 A2 c1 c2 B w hB

theorem concat_len (A1 A2 : Option Addr) (n1 n2 c1 c2 : Nat) (l1 l2 : List Int) (B : Nat) (w : World) (e1 : l1.length = n1) (e2 : l2.length = n2) (hB : Blk w B 31 #[.slice A1 n1 c1, .slice A2 n2 c2]) (h1 : IntsAt w A1 l1) (h2 : IntsAt w A2 l2)
    (n1 : A1 = none → l1 = [] ∧ c1 = 0) (n2 : A2 = none → l2 = [] ∧ c2 = 0) (hlen : l1.length + l2.length ≤ 1000000) :
    Calls Try.prog 50 #[.slice (some ⟨B, 0, none⟩) 2 2] w (ConcatOut (l1 ++ l2) w) := by
  subst e1 e2
  exact concat_any A1 A2 c1 c2 l1 l2 B w hB h1 h2 n1 n2 hlen

theorem concat_to (A1 A2 : Option Addr) (n1 n2 c1 c2 : Nat) (l1 l2 l : List Int) (g : Nat) (W : World) (hg : g = W.heap.size) (e : l1 ++ l2 = l) (e1 : l1.length = n1) (e2 : l2.length = n2) (h1 : IntsAt W A1 l1) (h2 : IntsAt W A2 l2)
    (n1' : A1 = none → l1 = [] ∧ c1 = 0) (n2' : A2 = none → l2 = [] ∧ c2 = 0) (hlen : l1.length + l2.length ≤ 1000000) :
    Calls Try.prog 50 #[.slice (some ⟨g, 0, none⟩) 2 2] (W.alloc (.cells #[.slice A1 n1 c1, .slice A2 n2 c2] 31)) (ConcatOut l (W.alloc (.cells #[.slice A1 n1 c1, .slice A2 n2 c2] 31))) := by
  subst e hg
  exact concat_len A1 A2 _ _ c1 c2 l1 l2 _ _ e1 e2 (Blk.new _ _ _) (h1.alloc _) (h2.alloc _) n1' n2' hlen

end Go.Proofs.Ytokghdcfbbogdaa
