/-
  slices.SortStableFunc at values, on a row that the call owns: the values' items lie in blocks that were there at the start.
-/
import Derived.Test.YtfnooipkghfmoaaDoorFda
import Derived.Test.YtfnooipkghfmoaaDoorStk
set_option linter.all false
namespace Go.Proofs.YtfnooipkghfmoaaDoor
open Go.RowKit Go.Shelf Go.Lib Go.Sort

section
variable {w0 : World}
theorem cmpLays_of {fid : FuncId} (hF : ∀ x, CmpByG fid x) {W : World} {g n : Nat} (hsame : ∀ b, b < w0.heap.size → W.heap[b]? = w0.heap[b]?) (hW : w0.heap.size ≤ W.heap.size) (hg : w0.heap.size ≤ g) : CmpLays Tryd.prog fid #[] (In0.cells (w0 := w0)) five cf0 g 0 n W := by
  intro m os dk _ x y
  have hs2 : ∀ b, b < w0.heap.size → (sortWorldK In0.cells five W g 0 m dk os).heap[b]? = w0.heap[b]? := fun b hb => by
    rw [sortE_heap (by omega), if_neg (by omega)]
    exact hsame b hb
  have hW2 : w0.heap.size ≤ (sortWorldK In0.cells five W g 0 m dk os).heap.size := Nat.le_trans hW sortE_grown.size
  refine (hF x.1.x y.1.x x.1.A y.1.A x.1.c y.1.c _ (x.at_ hs2 hW2) (y.at_ hs2 hW2)).mono ?_
  rintro e w' ⟨rfl, h⟩
  exact ⟨rfl, h⟩

theorem sortStable_any {fid : FuncId} (hF : ∀ x, CmpByG fid x) (eg : ∀ args w, (callFunc fid args).run Tryd.prog w = .ok (.enter fid args) w) (A : Option Addr) (c : Nat) (xs : List (In0 w0)) (W : World)
    (hsame : ∀ b, b < w0.heap.size → W.heap[b]? = w0.heap[b]?) (hW : w0.heap.size ≤ W.heap.size) (h : OwnK 5 24 W w0.heap.size (.slice A xs.length c) xs.length (flat0 xs)) (hn : xs.length ≤ 100000) :
    Calls Tryd.prog 17 #[.slice A xs.length c, .func (.func fid) #[] #[]] W fun e w' => e = .returned (.tuple #[]) ∧ W.grownBy w' (Value.slice A xs.length c).ownBlock ∧ OwnK 5 24 w' w0.heap.size (.slice A xs.length c) xs.length (flat0 (stL xs)) := by
  have hlen : ∀ x : In0 w0, x.cells.length = five := fun _ => rfl
  rcases Nat.eq_zero_or_pos xs.length with h0 | h0
  · obtain rfl : xs = [] := List.length_eq_zero_iff.1 h0
    have hs : stL ([] : List (In0 w0)) = [] := List.length_eq_zero_iff.1 (stL_len [])
    refine (sortStableK_none fid #[] A c W).mono ?_
    rintro e w' ⟨rfl, rfl⟩
    rw [hs]
    exact ⟨rfl, ⟨rfl, rfl, rfl, Nat.le_refl _, fun _ _ _ => rfl⟩, h⟩
  · obtain ⟨g, rfl⟩ : ∃ g, A = some ⟨g, 0, none⟩ := by
      obtain ⟨_, A', c', hv, _, _, h3⟩ := h
      injection hv with e1 e2 e3
      subst e1
      rcases h3 with ⟨_, h4, _⟩ | ⟨g, _, h4, _⟩
      · omega
      · exact ⟨g, h4⟩
    have hlt := h.lt g rfl
    have hH : HoldsK In0.cells five W g 0 xs.toArray := ownE_holds hlen h
    have R : RowK In0.cells five W g 0 xs.toArray := ⟨hlen, fun x v hv => by
      simp only [In0.cells, CVal.cells, List.mem_cons, List.not_mem_nil, or_false] at hv
      rcases hv with rfl | rfl | rfl | rfl | rfl <;> rfl, hH, hlt.2⟩
    have e1 : xs.toArray.size = xs.length := by simp
    have hcon := sortStable_sK fid #[] cf0 g 0 c xs.length xs.toArray W eg (cmpLays_of hF hsame hW hlt.1) R e1 (by omega) (by omega) xs.toArray W e1 (SWK.start hH)
    refine hcon.mono ?_
    rintro e w' ⟨rfl, m, os, rfl⟩
    exact ⟨rfl, sortE_grown, ownE_sorted hlen h (by rw [stableF_size]; exact e1)⟩
end

end Go.Proofs.YtfnooipkghfmoaaDoor
