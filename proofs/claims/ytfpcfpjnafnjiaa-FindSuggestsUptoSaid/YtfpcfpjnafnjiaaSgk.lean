/-
  WALKS: slices.SortStableFunc at words that are near, slices.SortFunc at words and how often they are there: on rows that the call owns.
-/
import Derived.Test.YtfpcfpjnafnjiaaSrOg
import Derived.Test.YtfpcfpjnafnjiaaStkNrD
import Derived.Test.YtfpcfpjnafnjiaaSrK
import Derived.Test.YtfpcfpjnafnjiaaGrw
import Derived.Test.YtfpcfpjnafnjiaaOwnG
import Derived.Shelf.SlSortCmp.NoneTotal
set_option linter.all false
namespace Go.Proofs.Ytfpcfpjnafnjiaa
open Go.RowKit Go.Shelf Go.Sort

section
variable {α : Type} [Inhabited α] {enc : α → List Value}
theorem own_at {t : TypeId} {K : Nat} {W : World} {base c : Nat} {A : Option Addr} {xs : List α} (h : OwnK K t W base (.slice A xs.length c) xs.length (xs.flatMap enc)) (h0 : 0 < xs.length) : ∃ g, A = some ⟨g, 0, none⟩ ∧ base ≤ g ∧ g < W.heap.size := by
  have h2 := h
  obtain ⟨_, A', c', hv, _, _, h3⟩ := h
  injection hv with e1 e2 e3
  subst e1
  rcases h3 with ⟨_, h4, _⟩ | ⟨g, _, h4, _⟩
  · omega
  · subst h4
    have := h2.lt g rfl
    exact ⟨g, rfl, this.1, this.2⟩

/-- SortStableFunc at words that are near. -/
theorem sortNr_any (hlen : ∀ x, (enc x).length = 3) (hone : ∀ x, ∀ v ∈ enc x, v.oneCell' = true) (fid : FuncId) (cf : α → α → Int) (eg : ∀ args w, (callFunc fid args).run Try.prog w = .ok (.enter fid args) w)
    (hcmp : ∀ (x y : α) (W : World), Calls Try.prog fid #[.agg (enc x).toArray, .agg (enc y).toArray] W fun e w' => e = .returned (.int .i64 (cf x y)) ∧ Grows W w')
    (A : Option Addr) (c base : Nat) (xs : List α) (W : World) (h : OwnK 3 45 W base (.slice A xs.length c) xs.length (xs.flatMap enc)) (hn : xs.length ≤ 100000000) :
    Calls Try.prog 35 #[.slice A xs.length c, .func (.func fid) #[] #[]] W fun e w' => e = .returned (.tuple #[]) ∧ W.grownBy w' (Value.slice A xs.length c).ownBlock ∧ OwnK 3 45 w' base (.slice A xs.length c) xs.length ((stableF (ltOf cf) xs.toArray).toList.flatMap enc) := by
  rcases Nat.eq_zero_or_pos xs.length with h0 | h0
  · obtain rfl : xs = [] := List.length_eq_zero_iff.1 h0
    have hs : (stableF (ltOf cf) ([] : List α).toArray).toList = [] := List.length_eq_zero_iff.1 (by rw [Array.length_toList, stableF_size]; rfl)
    refine (sortStableK_none_Nr fid #[] A c W).mono ?_
    rintro e w' ⟨rfl, rfl⟩
    rw [hs]
    exact ⟨rfl, ⟨rfl, rfl, rfl, Nat.le_refl _, fun _ _ _ => rfl⟩, h⟩
  · obtain ⟨g, rfl, hg1, hg2⟩ := own_at h h0
    have hH : HoldsK enc five_Nr W g 0 xs.toArray := ownE_holds hlen h
    have R : RowK enc five_Nr W g 0 xs.toArray := ⟨hlen, hone, hH, hg2⟩
    have e1 : xs.toArray.size = xs.length := by simp
    have hc : CmpLays Try.prog fid #[] enc five_Nr cf g 0 xs.length W := fun m os dk _ x y => hcmp x y _
    have hcon := sortStable_sK_Nr fid #[] cf g 0 c xs.length xs.toArray W eg hc R e1 (by omega) (by omega) xs.toArray W e1 (SWK.start hH)
    refine hcon.mono ?_
    rintro e w' ⟨rfl, m, os, rfl⟩
    exact ⟨rfl, sortE_grown, ownE_sorted hlen h (by rw [stableF_size]; exact e1)⟩

/-- SortFunc at words and how often they are there, by an order that asks what the call has kept. -/
theorem sortOg_any (hlen : ∀ x, (enc x).length = 3) (hone : ∀ x, ∀ v ∈ enc x, v.oneCell' = true) (fid : FuncId) (cb : Array Value) (cf : α → α → Int) (hS : SWO (ltOf cf)) (eg : ∀ args w, (callFunc fid args).run Try.prog w = .ok (.enter fid args) w)
    (A : Option Addr) (c base : Nat) (xs : List α) (W : World) (h : OwnK 3 59 W base (.slice A xs.length c) xs.length (xs.flatMap enc)) (hn : xs.length ≤ 100000000)
    (hcmp : ∀ (x y : α) (W' : World), (∀ k, k < base → k < W.heap.size → W'.heap[k]? = W.heap[k]?) → W.heap.size ≤ W'.heap.size → Calls Try.prog fid (#[.agg (enc x).toArray, .agg (enc y).toArray] ++ cb) W' fun e w' => e = .returned (.int .i64 (cf x y)) ∧ Grows W' w') :
    Calls Try.prog 24 #[.slice A xs.length c, .func (.func fid) #[] cb] W fun e w' => e = .returned (.tuple #[]) ∧ W.grownBy w' (Value.slice A xs.length c).ownBlock ∧ OwnK 3 59 w' base (.slice A xs.length c) xs.length ((pdq (ltOf cf) xs.toArray 0 xs.length (Lib.bitLen xs.length) true true).toList.flatMap enc) := by
  have hsz : (pdq (ltOf cf) xs.toArray 0 xs.length (Lib.bitLen xs.length) true true).size = xs.length := by
    have h := pdq_sorts (ltOf cf) hS xs.toArray 0 xs.toArray.size (Lib.bitLen xs.toArray.size) true true (Nat.zero_le _) (Nat.le_refl _) (Or.inl rfl)
    have h1 := h.1.1
    simpa using h1
  rcases Nat.eq_zero_or_pos xs.length with h0 | h0
  · obtain rfl : xs = [] := List.length_eq_zero_iff.1 h0
    have hs : (pdq (ltOf cf) ([] : List α).toArray 0 ([] : List α).length (Lib.bitLen ([] : List α).length) true true).toList = [] := List.length_eq_zero_iff.1 (by rw [Array.length_toList]; exact hsz)
    refine (AnyF.slices_SortFunc_none (P := Try.prog) (ρ := Try.sortOg_ren) Try.sortOg A c (.func (.func fid) #[] cb) W).mono ?_
    rintro e w' ⟨rfl, rfl⟩
    rw [hs]
    exact ⟨rfl, ⟨rfl, rfl, rfl, Nat.le_refl _, fun _ _ _ => rfl⟩, h⟩
  · obtain ⟨g, rfl, hg1, hg2⟩ := own_at h h0
    have e1 : xs.toArray.size = xs.length := by simp
    have hc : CmpLays Try.prog fid cb enc 3 cf g 0 xs.length W := fun m os dk _ x y => hcmp x y _ (fun k hk hk2 => by rw [sortE_heap hk2, if_neg (by omega)]) sortE_grown.size
    have hcon := AnyQ.slices_SortFunc_eq (P := Try.prog) (ρ := Try.sortOg_ren) Try.sortOg 3 Try.isAgg59 Try.sizeOf59 enc hlen hone cf hS fid cb g 0 c xs.toArray W eg (by rw [e1]; exact hc) (ownE_holds hlen h) hg2 (by rw [e1]; omega)
    rw [e1] at hcon
    refine hcon.mono ?_
    rintro e w' ⟨rfl, m, os, rfl⟩
    exact ⟨rfl, sortE_grown, ownE_sorted hlen h hsz⟩
end

end Go.Proofs.Ytfpcfpjnafnjiaa
