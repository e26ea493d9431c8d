/-
  PROVED: the tied card of LinkTitles, second form: for every base, title and page of bulk at most 1048576 LinkTitles returns true and turns nothing. Condition: the listed variables of Go's library read as the card ties them to the program's text.
-/
import Derived.Test.YtafgfldcbdkccaaGreatDoorRows
import Derived.Test.YtafgfldcbdkccaaGreatDoorCards
import Derived.Test.YtafgfldcbdkccaaGreatDoorTie
import Derived.Test.YtafgfldcbdkccaaGreatDoorLkm
import Derived.Test.YtafgfldcbdkccaaGreatDoorCdk
import Derived.SevenTiedAt
import Derived.ChangeMaps5
import Derived.LaidLaws
import Derived.Lay
set_option linter.all false
namespace Go.Proofs.YtafgfldcbdkccaaGreatDoor
open Go.ChangeShapes Go.WideShapes Go.ChangeAt Go.RowKit
open Go.ChangeMaps (open_string)

theorem linkTitles_met (os : Os) : laidMet Tryz.prog Rows.linkTitlesUptoRow.laid ((World.laidAll Tryz.prog os Rows.linkTitlesUptoRow.laid).forCall (fun _ _ => 0) ⟨#[], #[.slice none 0 0, .string .empty, .int .i64 0], []⟩).memory :=
  laidMet_laidAll _ (by kernel_rfl) (by kernel_rfl)

theorem linkTitles_small {H : Type} {d0 : DataW H} {s1 : ByteArray} {d2 : DataW H} (hk : Rows.uptoSmall H [d0, .lit (.string s1.data.toList), d2] = true) : s1.size ≤ 1100000 := by
  have h : Rows.uptoBulkAll [d0, DataW.lit (H := H) (.string s1.data.toList), d2] ≤ 1048576 := of_decide_eq_true hk
  simp only [Rows.uptoBulkAll, Rows.uptoBulk] at h
  have e1 : s1.data.toList.length = s1.size := by rw [Array.length_toList]; rfl
  omega

theorem linkTitles_reads (os : Os) {H : Type} (enc : TypeId × Value → H) : ∃ places : List MemPlace, DataW.whole enc Tryz.prog ((World.laidAll Tryz.prog os Rows.linkTitlesUptoRow.laid).forCall (fun _ _ => 0) ⟨#[], #[.slice none 0 0, .string .empty, .int .i64 0], []⟩).memory Tryz.f3.params.toList Rows.linkTitlesSpec.vars false #[Value.slice none 0 0, Value.string .empty, Value.int .i64 0].toList 8 = some ([.nil, .lit (.string []), .lit (.int .i64 0)], [], places) :=
  ⟨[], by kernel_rfl⟩

set_option maxRecDepth 100000 in
theorem linkTitles_lifted (os : Os) (started : os.Started) (H : Type) (enc : TypeId × Value → H) (Fi : Stop.Interp) :
    ReturnsInHanded {} Tryz.checked os 3 .any ((Rows.OpenSpec.upto Rows.linkTitlesSpec).preRow enc Tryz.prog Tryz.f3 [] false Rows.linkTitlesUptoRow.laid) (((Rows.OpenSpec.upto Rows.linkTitlesSpec).at Fi).post enc Tryz.prog Tryz.f3 false true false false) := by
  refine law_lifted_row Rows.linkTitlesUptoRow.laid started (by kernel_rfl) Tryz.func3 rfl (by kernel_rfl) Tryz.underlying4 (fun t ht => ?_) (fun ds hds => ?_) ?_ ?_
  · rw [Tryz.params3] at ht
    simp only [List.mem_cons, List.not_mem_nil, or_false] at ht
    rcases ht with rfl | rfl | rfl <;> exact ⟨by kernel_rfl, of_decide_eq_true (by kernel_rfl)⟩
  · rw [Tryz.params3] at hds
    match ds, hds with
    | [d0, d1, d2], _ => rfl
  · obtain ⟨places, hx⟩ := linkTitles_reads os enc
    have hok : Input.okWideB Tryz.checked.prog ((World.laidAll Tryz.prog os Rows.linkTitlesUptoRow.laid).forCall (fun _ _ => 0) ⟨#[], #[.slice none 0 0, .string .empty, .int .i64 0], []⟩) 3 ⟨#[], #[.slice none 0 0, .string .empty, .int .i64 0], []⟩ = true := by kernel_rfl
    exact ⟨World.laidAll Tryz.prog os Rows.linkTitlesUptoRow.laid, fun _ _ => 0, ⟨#[], #[.slice none 0 0, .string .empty, .int .i64 0], []⟩, World.laidAll_os _ _ _, World.shaped_of_ZipB (by kernel_rfl) (by kernel_rfl), (Input.okWide_of_okWideB (base := 0) hok).1, (Input.okWide_of_okWideB hok).2,
      OpenSpec.preRow_of_cond 8 hx (by kernel_rfl) (fun k hk => by cases hk; kernel_rfl) (by kernel_rfl) (linkTitles_met os), by
        simp only [Assume.holds]
        exact ⟨by simp, by simp, fun h => by simp at h, by simp, by simp⟩⟩
  · intro W b0 args ds p hval hA hlt hk hL hsh
    rw [Tryz.params3] at hA hval
    obtain ⟨v0, v1, v2, d0, d1, d2, p0, p1, p2, rfl, rfl, rfl, h0, h1, h2⟩ := trodAll_three hA
    obtain ⟨l0, A0, c0, rfl, hc0, hB0, h640⟩ := open_blocks (hval 0 _ v0 rfl rfl) h0
    obtain ⟨s1, rfl, rfl, rfl, ms1⟩ := open_string Tryz.underlying9 (hval 1 _ v1 rfl rfl) h1
    obtain ⟨k2, rfl, rfl, rfl, wk2⟩ := open_int Tryz.underlying3 (hval 2 _ v2 rfl rfl) h2
    exact linkTitles_any l0 A0 c0 s1 k2 W hB0 h640 (maxTold_shaped hsh) (linkTitles_small hk) (in64_wf wk2)

set_option maxHeartbeats 6400000 in
set_option maxRecDepth 100000 in
theorem linkTitlesUpto_holds : Rows.LinkTitlesUptoSaid :=
  OpenClaim.holds_of_cond 3 Tryz.f3 rfl rfl rfl rfl rfl rfl rfl ⟨rfl, rfl, rfl, rfl, rfl⟩ rfl rfl rfl rfl rfl (by as_aux_lemma => kernel_rfl) Tryz.func3 (by as_aux_lemma => kernel_rfl)
    (of_decide_eq_true (by as_aux_lemma => kernel_rfl)) (by unfold Func.isWrapper; first | (rw [if_pos (by decide +kernel)]; kernel_rfl) | (rw [if_neg (by decide +kernel)]; exact ⟨rfl, rfl⟩))
    (fun os started H enc _ F => by rw [OpenClaim.pre_eq_preRow]; exact linkTitles_lifted os started H enc F)

set_option maxHeartbeats 6400000 in
theorem linkTitles_card : Rows.LinkTitlesUptoCardSaid :=
  Claim7.holds_tied_plain_at .later [] [.data, .pinned] true Rows.linkTitlesUptoCard.stood.harness false
    linkTitlesUpto_holds (fun _ h => by cases h) (by as_aux_lemma => kernel_rfl) (fun _ h => by cases h) linkTitlesUpto_row_tie rfl ⟨rfl, rfl⟩ (by as_aux_lemma => kernel_rfl) rfl
    (fun f fn hf hfn => by
      obtain rfl : f = 3 := Option.some.inj ((show Tryz.prog.funcNamed Rows.linkTitlesUptoRow.func = some 3 by as_aux_lemma => kernel_rfl).symm.trans hf) |>.symm
      obtain rfl : fn = Tryz.f3 := (Option.some.inj (Tryz.func3.symm.trans hfn)).symm
      exact ⟨by as_aux_lemma => kernel_rfl, fun j t ht => by
        rw [Tryz.params3] at ht
        have hm : t ∈ [22, 9, 3] := by simpa using Array.mem_of_getElem? ht
        have hall : ([22, 9, 3].all fun u => !Tryz.prog.wantsStandIn u) = true := by as_aux_lemma => kernel_rfl
        exact (show Tryz.prog.wantsStandIn t = false by simpa using List.all_eq_true.1 hall t hm)⟩)
    (by as_aux_lemma => kernel_rfl)

#print axioms linkTitles_card
end Go.Proofs.YtafgfldcbdkccaaGreatDoor
