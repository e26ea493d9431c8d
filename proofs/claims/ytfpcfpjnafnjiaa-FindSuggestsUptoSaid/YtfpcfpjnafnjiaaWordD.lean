/-
  WALKS: the words of a string, collected.
-/
import Derived.Test.YtfpcfpjnafnjiaaWordC
set_option linter.all false
namespace Go.Proofs.Ytfpcfpjnafnjiaa
open Go.RowKit Go.Shelf
attribute [local go_sem] Oper.semAt_some

theorem new3_cells {w : World} {t : TypeId} {x : Wd} {g : Nat} (hg : g = w.heap.size) : ∀ j u, x.cells[j]? = some u → (w.alloc (.cells #[.string x.t, .int .i64 x.f, .int .i64 x.u] t)).cell? ((⟨g, 0, none⟩ : Addr).add j) = some u := new_cells3 hg

def CollOut (s : ByteArray) (w : World) (e : Ending) (w' : World) : Prop := ∃ v, e = .returned v ∧ w'.ownsRow w.heap.size 55 3 v (wordsAt s 0).length (flatW (wordsAt s 0)) ∧ Below w.heap.size w w'

/-- The box of the loop's variable. -/
def WBox (w : World) (x : Wd) (Bx : Nat) (W : World) : Prop := w.heap.size < Bx ∧ W.heap[Bx]? = some (.cells #[.string x.t, .int .i64 x.f, .int .i64 x.u] 55 (0, 0))

set_option maxRecDepth 100000 in
set_option maxHeartbeats 6400000 in
theorem appendSeq_in (n : Nat) (hn : 2 ≤ n) (Bn : Nat) (s : ByteArray) (hs : s.size ≤ 1900000) (w : World) (hlt : Bn < w.heap.size) (hc : w.cell? ⟨Bn, 0, none⟩ = some (.string s)) :
    CallsIn Fence.wide n Try.prog 63 #[.slice none 0 0, .func (.func 64) #[] #[.pointer (some ⟨Bn, 0, none⟩)]] w (CollOut s w) := by
  have h1 : 1 ≤ n := by omega
  obtain ⟨i0, hi, hz0, hz1, hz2⟩ := info_parts info_wd
  refine callsIn_of_wp_marks Try.func63 rfl trivial ?_ rfl
  simp only [Try.ntmps63, List.size_toArray, List.length_cons, List.length_nil, Nat.reduceAdd, Nat.reduceSub, Array.replicate_succ, Array.replicate_zero, List.push_toArray, List.append_toArray, List.nil_append, List.cons_append]
  gi_wp2
  have bO := Boxed.new w 52 (.slice none 0 0)
  have hB0 : Below w.heap.size w (w.alloc (.cells #[.slice none 0 0] 52)) := (Below.refl _ w).alloc (Nat.le_refl _) _
  refine wpIn_rangeFunc_ownH rfl h1 (gf := 64) (lb := #[.pointer (some ⟨Bn, 0, none⟩)]) rfl trivial (enters_of Try.func64 (by kernel_rfl) rfl)
    (words_stops (n - 1) (by omega) Bn w.heap.size s hs (w.alloc (.cells #[.slice none 0 0] 52)) hlt (by simp) ((hB0.cell (p := ⟨Bn, 0, none⟩) hlt).trans hc)) belowK_t (belowK_b (by simp)) (Below.refl _ _) (fun _ => rfl)
    (fun pre W => (∃ v, Boxed W w.heap.size 52 v ∧ W.ownsRow w.heap.size 55 3 v pre.length (flatW pre) ∧ (v = .slice none 0 0 ↔ pre = [])) ∧ Below w.heap.size w W)
    (fun _ _ _ => False)
    (OwnFrom.and (Own.from (holdsRow_own w.heap.size w.heap.size 52 55 3 (fun pre => pre.length) (fun pre => flatW pre) (fun pre v => v = .slice none 0 0 ↔ pre = [])) _) (ownFrom_below (Nat.le_refl _) (by simp)))
    (fun _ _ _ _ _ hs _ _ => hs)
    ⟨⟨_, bO, World.ownsRow_nil _ _ _ _, by simp⟩, hB0⟩
    (fun x a' W => ∃ Bx, WBox w x Bx W ∧ a' = { tmps := #[.slice none 0 0, .func (.func 64) #[] #[.pointer (some ⟨Bn, 0, none⟩)], .pointer (some ⟨w.heap.size, 0, none⟩), undef, .slice none 0 0, .pointer (some ⟨Bx, 0, none⟩), .func (.func 64) #[] #[.pointer (some ⟨Bn, 0, none⟩)], x.val, undef, undef, undef, undef, undef], defers := [] })
    (fun x a' => fun _ A B row hs hg hr => by
      obtain ⟨Bx, ⟨hb, hx⟩, ha⟩ := hs
      refine ⟨Bx, ⟨hb, ?_⟩, ha⟩
      refine (hg.block Bx (Array.getElem?_eq_some_iff.1 hx).1 (fun e => ?_)).trans hx
      obtain ⟨_, o, ho, hoc⟩ := hr Bx e.symm
      rw [hx] at ho; cases ho; cases hoc) ?assign ?body ?done ?stop
  case assign =>
    rintro l pre x W K hI hK
    simp only [Wd.val]
    gi_wp2
    obtain ⟨⟨v, hv, hrow, hnil⟩, hB⟩ := hI
    have hlt2 := hv.lt
    exact hK _ _ ((KeepsOthers.alloc _ _).from _) ((Below.refl _ W).alloc hB.size _) ⟨⟨v, hv.alloc _, hrow.alloc _, hnil⟩, hB.alloc hB.size _⟩ ⟨W.heap.size, ⟨hlt2, heap_alloc_new W _⟩, rfl⟩
  case body =>
    rintro l pre x a' W hl ⟨r, hr⟩ ⟨⟨v, hv, hrow, hnil⟩, hB⟩ ⟨Bx, ⟨hBx, hbx⟩, rfl⟩ hlen
    have hcv := hv.cell
    have x0 : W.cell? ⟨Bx, 0, none⟩ = some (.string x.t) := cell_of_row W Bx 0 _ _ _ hbx
    have x1 : W.cell? ⟨Bx, 1, none⟩ = some (.int .i64 x.f) := cell_of_row W Bx 1 _ _ _ hbx
    have x2 : W.cell? ⟨Bx, 2, none⟩ = some (.int .i64 x.u) := cell_of_row W Bx 2 _ _ _ hbx
    have hle : w.heap.size ≤ w.heap.size := Nat.le_refl _
    gi_wp2_with (first
      | (gi_at_builtin; go_loud (refine wpListIn_append_own _ rfl _ _ 52 rfl w.heap.size 55 i0 (.agg #[.string ByteArray.empty, .int .i64 0, .int .i64 0]) 3 32 Try.underlying52 hi hz0 hz1 hz2 rfl (by decide) v pre.length (flatW pre) rfl (hrow.alloc _) ⟨W.heap.size, 0, none⟩ 1 1 x.cells rfl rfl (new3_cells rfl) (by intro u hu; simp only [Wd.cells, List.mem_cons, List.not_mem_nil, or_false] at hu; rcases hu with rfl | rfl | rfl <;> rfl) (by unfold maxLen; omega) (by omega) (by have := hB.size; simp; omega) ?_; intro v' w1 hown' hgrow _; obtain ⟨g', cap', rfl⟩ := ownsRow_succ hown'; obtain ⟨hv1, hv2, hr2, hk2, hb2⟩ := hv.appended (by decide) hrow hB.size hle hown' hgrow; have hc1 := hv1.cell; have hf1 := hv1.frozen)))
    exact ⟨hk2.from _, hb2, ⟨_, hv2, by rw [flatW_snoc, List.length_append]; exact hr2, by simp⟩, hB.trans hb2⟩
  case done =>
    rintro D ys W hD rfl ⟨⟨v, hv, hrow, hnil⟩, hB⟩ hK
    have hcv := hv.cell
    gi_wp2
    refine ⟨by simp, .inl ⟨_, _, rfl, run_takeDeferred hK, ?_⟩⟩
    exact ⟨_, results_tmp rfl _ _ _, v, rfl, ownsRow_putObj hrow _ hK rfl, hB.trans (belowK_b (w := w) (Nat.le_refl _) W D _ _ (by simp at hD; omega) hK rfl rfl)⟩
  case stop =>
    rintro D c pre W _ _ h _
    exact h.elim

end Go.Proofs.Ytfpcfpjnafnjiaa
