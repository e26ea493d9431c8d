/-
  WALKS: slices.Sorted over slices.Values, at ints: the slice's numbers, sorted, in new memory.
-/
import Derived.RangeFuncNested
import Derived.RangeFuncBound
import Derived.RangeFuncCalls
import Derived.RangeFuncLeaves
import Derived.RangeFuncBox
import Derived.RangeFuncMany
import Derived.RangeFuncKeeps
import Derived.RangeFuncFrom
import Derived.RangeFuncWrites
import Derived.Maps.AppendAt
import Derived.Shelf.Abstract
import Derived.WalkKit
import Derived.OwnWalkIn
import Derived.TacticsInMore
import Derived.LoopNIn
import Derived.LoopIn
import Derived.Sort.OwnSorted
import Derived.Lib.SlKeysI
import Derived.Test.YtioppoaijehicaaGreatDoorOwnC
import Derived.Test.YtioppoaijehicaaGreatDoorTbf
import Derived.Test.YtioppoaijehicaaGreatDoorSil
set_option linter.all false
namespace Go.Proofs.YtioppoaijehicaaGreatDoor
open Go.RowKit Go.Shelf
attribute [local go_sem] Oper.semAt_some

def iV (x : Int) : Value := .int .i64 x

theorem fence_okV (f : FuncId) : Fence.wide.fn f := trivial

def ValsOut (l : List Int) (J Jx : List Int → World → Prop) (e : Ending) (W' : World) : Prop := (∃ v, e = .returned v) ∧ ((∃ ys, ys = l ∧ J ys W') ∨ (∃ pre, pre <+: l ∧ Jx pre W'))

set_option maxRecDepth 100000 in
set_option maxHeartbeats 2000000 in
theorem values1_in (n : Nat) (hn : 1 ≤ n) (l Bs n₀ : Nat) (A : Option Addr) (cap : Nat) (zs : List Int) (hreach : zs.length ≤ 1000000) (J Jx : List Int → World → Prop)
    (hY : ∀ pre x W, J pre W → pre.length < zs.length → YieldAt Fence.wide (n - 1) Tryz.prog l #[iV x] W fun e W' =>
      (e = .returned (.bool true) ∧ J (pre ++ [x]) W' ∧ Below n₀ W W') ∨ (e = .returned (.bool false) ∧ Jx (pre ++ [x]) W'))
    (W0 W : World) (hn0 : n₀ ≤ W0.heap.size) (hA : IntsAt W0 A zs) (hb0 : 0 < zs.length → ∀ b o, A = some ⟨b, o, none⟩ → b < n₀) (hW : Below n₀ W0 W) (hBs : W.cell? ⟨Bs, 0, none⟩ = some (.slice A zs.length cap)) (h0 : J [] W) :
    CallsIn Fence.wide n Tryz.prog 105 #[.func (.yield l) #[] #[], .pointer (some ⟨Bs, 0, none⟩)] W (ValsOut zs J Jx) := by
  refine callsIn_of_wp Tryz.func105 rfl trivial ?_ rfl
  simp only [Tryz.ntmps105, List.size_toArray, List.length_cons, List.length_nil, Nat.reduceAdd, Nat.reduceSub, Array.replicate_succ, Array.replicate_zero, List.push_toArray, List.append_toArray, List.nil_append, List.cons_append]
  have HA := hide hA
  have HB0 := hide hb0
  have HY := hide hY
  clear hA hb0 hY
  gi_wp2
  gi_loopw [7] (fun i wr => ∃ k : Nat, k ≤ zs.length ∧ i = .int .i64 k ∧ Hid (J (zs.take k) wr ∧ Below n₀ W wr))
    (fun i _ => zs.length - (intOf i).toNat)
  case atStart => exact ⟨0, Nat.zero_le _, rfl, hide ⟨by simpa using h0, Below.refl _ _⟩⟩
  case round =>
    obtain ⟨k, hk, rfl, HJ⟩ := hrel
    by_cases hlt : k < zs.length
    · obtain ⟨b, o, rfl, hb, hc⟩ := HA.out (by omega)
      have hbn := HB0.out (by omega) b o rfl
      have hcx : wr.cell? ⟨b, o + k, none⟩ = some (.int .i64 zs[k]) := ((hW.trans HJ.out.2).cell (p := ⟨b, o + k, none⟩) hbn).trans (hc k hlt)
      obtain ⟨fn, tmps, assign, body, hy, hR⟩ := HY.out (zs.take k) zs[k] wr HJ.out.1 (by rw [List.length_take]; omega)
      have hsn : zs.take k ++ [zs[k]] = zs.take (k + 1) := (List.take_succ_eq_append_getElem hlt).symm
      rw [hsn] at hR
      have HR := hide hR
      have i1 : (k : Int) < (zs.length : Int) := by omega
      have HPF := hide (show zs.take (k + 1) <+: zs from List.take_prefix _ _)
      clear hR hsn hc
      generalize zs[k] = x at *
      dsimp only [iV] at hy
      gi_wp2
      refine HR.out.mono ?_
      rintro e W3 (⟨rfl, hJ3, hk3⟩ | ⟨rfl, hJx3⟩)
      · have HJ3 := hide (And.intro hJ3 (HJ.out.2.trans hk3))
        clear hJ3 hk3 hy
        gi_wp2
        go_roundw
        case rel => exact ⟨k + 1, by omega, by go_num, HJ3⟩
        case measure => simp [intOf]; omega
      · gi_wp2
        refine bodyPost_ret (results_none rfl _ _ _) rfl ?_
        exact ⟨⟨_, rfl⟩, .inr ⟨_, HPF.out, hJx3⟩⟩
    · obtain rfl : k = zs.length := by omega
      have hJs := HJ.out.1
      rw [List.take_length] at hJs
      gi_wp2
      go_end0
      exact ⟨⟨_, rfl⟩, .inl ⟨_, rfl, hJs⟩⟩

set_option maxHeartbeats 1000000 in
theorem values_in (n : Nat) (A : Option Addr) (m c : Nat) (w : World) :
    CallsIn Fence.wide n Tryz.prog 72 #[.slice A m c] w fun e w' => e = .returned (.func (.func 105) #[] #[.pointer (some ⟨w.heap.size, 0, none⟩)]) ∧ w' = w.alloc (.cells #[.slice A m c] 28) := by
  refine callsIn_of_wp Tryz.func72 rfl trivial ?_ rfl
  simp only [Tryz.ntmps72, List.size_toArray, List.length_cons, List.length_nil, Nat.reduceAdd, Nat.reduceSub, Array.replicate_succ, Array.replicate_zero, List.push_toArray, List.append_toArray, List.nil_append, List.cons_append]
  gi_wp2
  go_ret
  exact ⟨rfl, rfl⟩

theorem ints_block {w : World} {A : Option Addr} {zs : List Int} (h : IntsAt w A zs) {n₀ : Nat} (hn : w.heap.size ≤ n₀) (hz : 0 < zs.length) : ∀ b o, A = some ⟨b, o, none⟩ → b < n₀ := by
  rintro b o rfl
  obtain ⟨b', o', e, hb, _⟩ := h hz
  injection e with e
  injection e with e1 _
  omega

def SdOut (l : List Int) (w : World) (e : Ending) (w' : World) : Prop := ∃ v, e = .returned v ∧ w'.ownsRow w.heap.size 3 1 v l.length (l.map iV) ∧ Below w.heap.size w w'

theorem new1_cells {w : World} {t : TypeId} {x : Int} {g : Nat} (hg : g = w.heap.size) : ∀ j u, [iV x][j]? = some u → (w.alloc (.cells #[.int .i64 x] t)).cell? ((⟨g, 0, none⟩ : Addr).add j) = some u := by
  subst hg
  exact cell_one_new _ _ _

theorem values_stops (n : Nat) (hn : 1 ≤ n) (Bs : Nat) (A : Option Addr) (cap : Nat) (zs : List Int) (hz : zs.length ≤ 1000000) (w0 w : World) (hA : IntsAt w0 A zs) (hw : Below w0.heap.size w0 w) (hlt : Bs < w.heap.size) (hc : w.cell? ⟨Bs, 0, none⟩ = some (.slice A zs.length cap)) :
    SeqStopsK Fence.wide n Tryz.prog 105 #[.pointer (some ⟨Bs, 0, none⟩)] (fun x : Int => #[iV x]) (Below w0.heap.size) (fun ys => ys = zs) (fun pre => pre <+: zs) 1000000 w := fun l J Jx W hW hJ _ hY h0 =>
  values1_in n hn l Bs w0.heap.size A cap zs hz J Jx (fun pre x W1 h1 h2 => hY pre x W1 h1 (by omega)) w0 W (Nat.le_refl _) hA (fun hz => ints_block hA (Nat.le_refl _) hz) (hw.trans (hW.mono hw.size)) ((hW.cell (p := ⟨Bs, 0, none⟩) hlt).trans hc) h0

set_option maxRecDepth 100000 in
set_option maxHeartbeats 6400000 in
theorem appendSeqI_in (n : Nat) (hn : 2 ≤ n) (Bn : Nat) (A : Option Addr) (cap : Nat) (zs : List Int) (hz : zs.length ≤ 1000000) (w0 w : World) (hA : IntsAt w0 A zs) (hw : Below w0.heap.size w0 w) (hlt : Bn < w.heap.size) (hc : w.cell? ⟨Bn, 0, none⟩ = some (.slice A zs.length cap)) :
    CallsIn Fence.wide n Tryz.prog 101 #[.slice none 0 0, .func (.func 105) #[] #[.pointer (some ⟨Bn, 0, none⟩)]] w (SdOut zs w) := by
  have h1 : 1 ≤ n := by omega
  obtain ⟨i0, hi, hz0, hz1, hz2⟩ := info_parts info_intO
  refine callsIn_of_wp_marks Tryz.func101 rfl trivial ?_ rfl
  simp only [Tryz.ntmps101, List.size_toArray, List.length_cons, List.length_nil, Nat.reduceAdd, Nat.reduceSub, Array.replicate_succ, Array.replicate_zero, List.push_toArray, List.append_toArray, List.nil_append, List.cons_append]
  gi_wp2
  have bO := Boxed.new w 28 (.slice none 0 0)
  have hB0 : Below w.heap.size w (w.alloc (.cells #[.slice none 0 0] 28)) := (Below.refl _ w).alloc (Nat.le_refl _) _
  refine wpIn_rangeFunc_ownH rfl h1 (gf := 105) (lb := #[.pointer (some ⟨Bn, 0, none⟩)]) rfl trivial (enters_of Tryz.func105 (by kernel_rfl) rfl)
    (values_stops (n - 1) (by omega) Bn A cap zs hz w0 (w.alloc (.cells #[.slice none 0 0] 28)) hA (hw.trans (hB0.mono hw.size)) (by have := hB0.size; omega) ((hB0.cell (p := ⟨Bn, 0, none⟩) hlt).trans hc)) belowK_t (belowK_b (by have := hw.size; have := hB0.size; omega)) (Below.refl _ _) (fun _ => rfl)
    (fun pre W => (∃ v, Boxed W w.heap.size 28 v ∧ W.ownsRow w.heap.size 3 1 v pre.length (pre.map iV) ∧ (v = .slice none 0 0 ↔ pre = [])) ∧ Below w.heap.size w W)
    (fun _ _ _ => False)
    (OwnFrom.and (Own.from (holdsRow_own w.heap.size w.heap.size 28 3 1 (fun pre => pre.length) (fun pre => pre.map iV) (fun pre v => v = .slice none 0 0 ↔ pre = [])) _) (ownFrom_below (Nat.le_refl _) (by simp)))
    (fun _ _ _ _ _ hs _ _ => hs)
    ⟨⟨_, bO, World.ownsRow_nil _ _ _ _, by simp⟩, hB0⟩
    (fun x a' W => a' = { tmps := #[.slice none 0 0, .func (.func 105) #[] #[.pointer (some ⟨Bn, 0, none⟩)], .pointer (some ⟨w.heap.size, 0, none⟩), undef, .slice none 0 0, iV x, .func (.func 105) #[] #[.pointer (some ⟨Bn, 0, none⟩)], iV x, undef, undef, undef, undef, undef], defers := [] })
    (fun x a' => fun _ A B row hs hg hr => hs) ?assign ?body ?done ?stop
  case assign =>
    rintro l pre x W K hI hK
    simp only [iV]
    gi_wp2
    exact hK _ _ (KeepsFrom.refl _ _) (Below.refl _ _) hI rfl
  case body =>
    rintro l pre x a' W hl ⟨r, hr⟩ ⟨⟨v, hv, hrow, hnil⟩, hB⟩ rfl hlen
    have hcv := hv.cell
    have hle : w.heap.size ≤ w.heap.size := Nat.le_refl _
    simp only [iV]
    gi_wp2_with (first
      | (gi_at_builtin; go_loud (refine wpListIn_append_own _ rfl _ _ 28 rfl w.heap.size 3 i0 (.int .i64 0) 1 8 Tryz.underlying28 hi hz0 hz1 hz2 rfl (by decide) v pre.length (pre.map iV) rfl (hrow.alloc _) ⟨W.heap.size, 0, none⟩ 1 1 [iV x] rfl rfl (new1_cells rfl) (by intro u hu; rw [List.mem_singleton.1 hu]; rfl) (by unfold maxLen; omega) (by omega) (by have := hB.size; simp; omega) ?_; intro v' w1 hown' hgrow _; obtain ⟨g', cap', rfl⟩ := ownsRow_succ hown'; obtain ⟨hv1, hv2, hr2, hk2, hb2⟩ := hv.appended (by decide) hrow hB.size hle hown' hgrow; have hc1 := hv1.cell; have hf1 := hv1.frozen)))
    exact ⟨hk2.from _, hb2.mono hw.size, ⟨_, hv2, by rw [List.map_append, List.length_append]; exact hr2, by simp⟩, hB.trans hb2⟩
  case done =>
    rintro D ys W hD rfl ⟨⟨v, hv, hrow, hnil⟩, hB⟩ hK
    have hcv := hv.cell
    gi_wp2
    refine ⟨by simp, .inl ⟨_, _, rfl, run_takeDeferred hK, ?_⟩⟩
    exact ⟨_, results_tmp rfl _ _ _, v, rfl, ownsRow_putObj hrow _ hK rfl, hB.trans (belowK_b (w := w) (Nat.le_refl _) W D _ _ (by simp at hD; omega) hK rfl rfl)⟩
  case stop =>
    rintro D c pre W _ _ h _
    exact h.elim

set_option maxHeartbeats 1000000 in
theorem collectI_in (n : Nat) (hn : 3 ≤ n) (Bn : Nat) (A : Option Addr) (cap : Nat) (zs : List Int) (hz : zs.length ≤ 1000000) (w0 w : World) (hA : IntsAt w0 A zs) (hw : Below w0.heap.size w0 w) (hlt : Bn < w.heap.size) (hc : w.cell? ⟨Bn, 0, none⟩ = some (.slice A zs.length cap)) :
    CallsIn Fence.wide n Tryz.prog 67 #[.func (.func 105) #[] #[.pointer (some ⟨Bn, 0, none⟩)]] w (SdOut zs w) := by
  have h1 : 1 ≤ n := by omega
  have HA := hide (appendSeqI_in (n - 1) (by omega) Bn A cap zs hz w0 w hA hw hlt hc)
  clear hA hw hlt hc
  refine callsIn_of_wp Tryz.func67 rfl trivial ?_ rfl
  simp only [Tryz.ntmps67, List.size_toArray, List.length_cons, List.length_nil, Nat.reduceAdd, Nat.reduceSub, Array.replicate_succ, Array.replicate_zero, List.push_toArray, List.append_toArray, List.nil_append, List.cons_append]
  gi_wp2_with (refine ⟨trivial, ?_⟩; gi_at_call 101; refine HA.out.mono ?_; rintro e w' ⟨v, rfl, hrow, hb⟩)
  go_ret
  exact ⟨v, rfl, hrow, hb⟩

/-- Numbers in order. -/
def sortZ (l : List Int) : List Int := l.mergeSort (fun x y => decide (x ≤ y))

theorem sortZ_len (l : List Int) : (sortZ l).length = l.length := List.length_mergeSort l

theorem sortZ_mem {l : List Int} {x : Int} : x ∈ sortZ l ↔ x ∈ l := List.mem_mergeSort

theorem sortR_any (w : World) (base c : Nat) (A : Option Addr) (ss : List Int) (h : w.ownsRow base 3 1 (.slice A ss.length c) ss.length (ss.map iV)) (hl : ss.length ≤ 1000000) :
    Calls Tryz.prog 53 #[.slice A ss.length c] w fun e w' => e = .returned (.tuple #[]) ∧ w'.ownsRow base 3 1 (.slice A ss.length c) ss.length ((sortZ ss).map iV) ∧ w.grownBy w' (Value.slice A ss.length c).ownBlock := by
  rcases h.2 with ⟨hv, h0⟩ | ⟨g, cap, cur, hv, hg, hb, h1, h2, h3, h4⟩
  · injection hv with e1 _ e3
    subst e1 e3
    obtain rfl := List.length_eq_zero_iff.1 h0
    refine (Go.Proofs.Any.slices_Sort_int_none Tryz.sortIL none 0 w).mono ?_
    rintro e w' ⟨rfl, rfl⟩
    exact ⟨rfl, by simpa [sortZ] using h, ⟨rfl, rfl, rfl, Nat.le_refl _, fun _ _ _ => rfl⟩⟩
  · injection hv with e1 _ e3
    subst e1 e3
    rw [Nat.mul_one] at h4
    refine (Go.Proofs.Any.slices_Sort_int Tryz.sortIL g 0 c ss w (Go.Proofs.holds_of_block_i hb h4) (Array.getElem?_eq_some_iff.1 hb).1 (by omega)).mono ?_
    rintro e w' ⟨rfl, n, os, rfl⟩
    exact ⟨rfl, Go.Proofs.ownsRow_sorted_i (sortZ_len ss) hg hb h1 h2 h3, Go.Proofs.grownBy_sorted_i _⟩

theorem ownsRow_len {w : World} {base : Nat} {v : Value} {n : Nat} {xs : List Value} {t : TypeId} (h : w.ownsRow base t 1 v n xs) : ∃ A c, v = .slice A n c := by
  rcases h.2 with ⟨hv, h0⟩ | ⟨g, cap, cur, hv, hg, hb, h1, h2, h3, h4⟩
  · exact ⟨none, 0, by rw [hv, h0]⟩
  · exact ⟨_, _, hv⟩

/-- slices.Sorted over the numbers of a slice. -/
def SdzOut (l : List Int) (w : World) (e : Ending) (w' : World) : Prop := ∃ A c, e = .returned (.slice A l.length c) ∧ w'.ownsRow w.heap.size 3 1 (.slice A l.length c) l.length ((sortZ l).map iV) ∧ Below w.heap.size w w'

set_option maxHeartbeats 1000000 in
theorem sortedV_any (Bn : Nat) (A : Option Addr) (cap : Nat) (zs : List Int) (hz : zs.length ≤ 1000000) (w0 w : World) (hA : IntsAt w0 A zs) (hw : Below w0.heap.size w0 w) (hlt : Bn < w.heap.size) (hc : w.cell? ⟨Bn, 0, none⟩ = some (.slice A zs.length cap)) :
    Calls Tryz.prog 29 #[.func (.func 105) #[] #[.pointer (some ⟨Bn, 0, none⟩)]] w (SdzOut zs w) := by
  have HA := hide ((callsIn_wide (n := 3)).1 (collectI_in 3 (by omega) Bn A cap zs hz w0 w hA hw hlt hc))
  clear hA hw hlt hc
  have hPO : ∀ A c w', w'.ownsRow w.heap.size 3 1 (.slice A zs.length c) zs.length ((sortZ zs).map iV) → Below w.heap.size w w' → SdzOut zs w (.returned (.slice A zs.length c)) w' := fun A c w' h1 h2 => ⟨A, c, rfl, h1, h2⟩
  have HPO := hide hPO
  clear hPO
  unfold SdOut at HA
  generalize SdzOut zs w = PO at *
  go_enter Tryz.func29, Tryz.ntmps29
  go_upto_region 2 with (go_at_call 67; refine HA.out.mono ?_; rintro e w1 ⟨v, rfl, hrow, hb⟩; have HR := hide hrow; have HB := hide hb; clear hrow hb)
  obtain ⟨A1, c1, rfl⟩ := ownsRow_len HR.out
  have HS := hide (sortR_any w1 _ c1 A1 zs HR.out hz)
  have HBG := hide (fun w2 (hg : w1.grownBy w2 (Value.slice A1 zs.length c1).ownBlock) => (HB.out.grown hg HB.out.size (fun k hk => (HR.out.lt k hk).1) : Below w.heap.size w w2))
  clear HR HA
  generalize zs.length = n at *
  go_wp2_with (go_at_call 53; refine HS.out.mono ?_; rintro e w2 ⟨rfl, hrow, hg⟩)
  exact HPO.out A1 c1 _ hrow (HBG.out _ hg)

set_option maxHeartbeats 1000000 in
theorem valuesI_any (A : Option Addr) (m c : Nat) (w : World) :
    Calls Tryz.prog 72 #[.slice A m c] w fun e w' => e = .returned (.func (.func 105) #[] #[.pointer (some ⟨w.heap.size, 0, none⟩)]) ∧ w' = w.alloc (.cells #[.slice A m c] 28) :=
  (callsIn_wide (n := 3)).1 (values_in 3 A m c w)

end Go.Proofs.YtioppoaijehicaaGreatDoor
