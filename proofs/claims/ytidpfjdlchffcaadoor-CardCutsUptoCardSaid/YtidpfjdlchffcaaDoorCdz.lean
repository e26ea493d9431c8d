/-
  PROVED: the tied card of CardCuts, second form: for every string and every base of bulk at most 1048576 CardCuts returns true and turns nothing: the program's cards are the reference's. Condition: the listed variables of Go's library read as the card ties them to the program's text.
-/
import Derived.Test.YtidpfjdlchffcaaDoorRows
import Derived.Test.YtidpfjdlchffcaaDoorCards
import Derived.Test.YtidpfjdlchffcaaDoorTie
import Derived.Test.YtidpfjdlchffcaaDoorCdj
import Derived.Test.YtidpfjdlchffcaaDoorCdk
import Derived.SevenTiedAt
import Derived.ChangeMaps5
import Derived.LaidLaws
import Derived.Lay
set_option linter.all false
namespace Go.Proofs.YtidpfjdlchffcaaDoor
open Go.ChangeShapes Go.WideShapes Go.ChangeAt Go.RowKit
open Go.ChangeMaps (open_string)

theorem cardCuts_met (os : Os) : laidMet Tryd.prog Rows.cardCutsUptoRow.laid ((World.laidAll Tryd.prog os Rows.cardCutsUptoRow.laid).forCall (fun _ _ => 0) ⟨#[], #[.string .empty, .slice none 0 0], []⟩).memory :=
  laidMet_laidAll _ (by kernel_rfl) (by kernel_rfl)

theorem cardCuts_small {H : Type} {s : ByteArray} {d : DataW H} (hk : Rows.uptoSmall H [.lit (.string s.data.toList), d] = true) : s.size ≤ 1100000 := by
  have h : Rows.uptoBulkAll [DataW.lit (H := H) (.string s.data.toList), d] ≤ 1048576 := of_decide_eq_true hk
  simp only [Rows.uptoBulkAll, Rows.uptoBulk] at h
  have e : s.data.toList.length = s.size := by rw [Array.length_toList]; rfl
  omega

theorem cardCuts_reads (os : Os) {H : Type} (enc : TypeId × Value → H) : ∃ places : List MemPlace, DataW.whole enc Tryd.prog ((World.laidAll Tryd.prog os Rows.cardCutsUptoRow.laid).forCall (fun _ _ => 0) ⟨#[], #[.string .empty, .slice none 0 0], []⟩).memory Tryd.f3.params.toList Rows.cardCutsSpec.vars false #[Value.string .empty, .slice none 0 0].toList 8 = some ([.lit (.string []), .nil], [], places) :=
  ⟨[], by kernel_rfl⟩

set_option maxRecDepth 100000 in
theorem cardCuts_lifted (os : Os) (started : os.Started) (H : Type) (enc : TypeId × Value → H) (Fi : Stop.Interp) :
    ReturnsInHanded {} Tryd.checked os 3 .any ((Rows.OpenSpec.upto Rows.cardCutsSpec).preRow enc Tryd.prog Tryd.f3 [] false Rows.cardCutsUptoRow.laid) (((Rows.OpenSpec.upto Rows.cardCutsSpec).at Fi).post enc Tryd.prog Tryd.f3 false true false false) := by
  refine law_lifted_row Rows.cardCutsUptoRow.laid started (by kernel_rfl) Tryd.func3 rfl (by kernel_rfl) Tryd.underlying4 (fun t ht => ?_) (fun ds hds => ?_) ?_ ?_
  · rw [Tryd.params3] at ht
    simp only [List.mem_cons, List.not_mem_nil, or_false] at ht
    rcases ht with rfl | rfl <;> exact ⟨by kernel_rfl, of_decide_eq_true (by kernel_rfl)⟩
  · rw [Tryd.params3] at hds
    match ds, hds with
    | [d1, d2], _ => rfl
  · obtain ⟨places, hx⟩ := cardCuts_reads os enc
    have hok : Input.okWideB Tryd.checked.prog ((World.laidAll Tryd.prog os Rows.cardCutsUptoRow.laid).forCall (fun _ _ => 0) ⟨#[], #[.string .empty, .slice none 0 0], []⟩) 3 ⟨#[], #[.string .empty, .slice none 0 0], []⟩ = true := by kernel_rfl
    exact ⟨World.laidAll Tryd.prog os Rows.cardCutsUptoRow.laid, fun _ _ => 0, ⟨#[], #[.string .empty, .slice none 0 0], []⟩, World.laidAll_os _ _ _, World.shaped_of_ZipB (by kernel_rfl) (by kernel_rfl), (Input.okWide_of_okWideB (base := 0) hok).1, (Input.okWide_of_okWideB hok).2,
      OpenSpec.preRow_of_cond 8 hx (by kernel_rfl) (fun k hk => by cases hk; kernel_rfl) (by kernel_rfl) (cardCuts_met os), by
        simp only [Assume.holds]
        exact ⟨by simp, by simp, fun h => by simp at h, by simp, by simp⟩⟩
  · intro W b0 args ds p hval hA hlt hk hL hsh
    rw [Tryd.params3] at hA hval
    obtain ⟨v0, v1, d0, d1, p0, p1, rfl, rfl, rfl, h0, h1⟩ := trodAll_two hA
    obtain ⟨s, rfl, rfl, rfl, ms⟩ := open_string Tryd.underlying9 (hval 0 _ v0 rfl rfl) h0
    obtain ⟨l, A, c, rfl, hc, hB, h64⟩ := open_blocks (hval 1 _ v1 rfl rfl) h1
    exact cardCuts_any s l A c W (cardCuts_small hk) hB h64 hc (maxTold_shaped hsh)

set_option maxHeartbeats 6400000 in
set_option maxRecDepth 100000 in
theorem cardCutsUpto_holds : Rows.CardCutsUptoSaid :=
  OpenClaim.holds_of_cond 3 Tryd.f3 rfl rfl rfl rfl rfl rfl rfl ⟨rfl, rfl, rfl, rfl, rfl⟩ rfl rfl rfl rfl rfl (by as_aux_lemma => kernel_rfl) Tryd.func3 (by as_aux_lemma => kernel_rfl)
    (of_decide_eq_true (by as_aux_lemma => kernel_rfl)) (by unfold Func.isWrapper; first | (rw [if_pos (by decide +kernel)]; kernel_rfl) | (rw [if_neg (by decide +kernel)]; exact ⟨rfl, rfl⟩))
    (fun os started H enc _ F => by rw [OpenClaim.pre_eq_preRow]; exact cardCuts_lifted os started H enc F)

set_option maxHeartbeats 6400000 in
theorem cardCuts_card : Rows.CardCutsUptoCardSaid :=
  Claim7.holds_tied_plain_at .later [] [.data, .pinned] true Rows.cardCutsUptoCard.stood.harness false
    cardCutsUpto_holds (fun _ h => by cases h) (by as_aux_lemma => kernel_rfl) (fun _ h => by cases h) cardCutsUpto_row_tie rfl ⟨rfl, rfl⟩ (by as_aux_lemma => kernel_rfl) rfl
    (fun f fn hf hfn => by
      obtain rfl : f = 3 := Option.some.inj ((show Tryd.prog.funcNamed Rows.cardCutsUptoRow.func = some 3 by as_aux_lemma => kernel_rfl).symm.trans hf) |>.symm
      obtain rfl : fn = Tryd.f3 := (Option.some.inj (Tryd.func3.symm.trans hfn)).symm
      exact ⟨by as_aux_lemma => kernel_rfl, fun j t ht => by
        rw [Tryd.params3] at ht
        have hm : t ∈ [9, 22] := by simpa using Array.mem_of_getElem? ht
        have hall : ([9, 22].all fun u => !Tryd.prog.wantsStandIn u) = true := by as_aux_lemma => kernel_rfl
        exact (show Tryd.prog.wantsStandIn t = false by simpa using List.all_eq_true.1 hall t hm)⟩)
    (by as_aux_lemma => kernel_rfl)

#print axioms cardCuts_card
end Go.Proofs.YtidpfjdlchffcaaDoor
