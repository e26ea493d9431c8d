/-
  PROVED: the tied card of PropChecks: for all lists of properties and names PropChecks returns true and turns nothing: CheckProps, PropsText and CheckName compute what the reference's do. Condition: the listed variables of Go's library read as the card ties them to the program's text.
-/
import Derived.Test.YtjaoiehjhnmahaaGreatDoorRows
import Derived.Test.YtjaoiehjhnmahaaGreatDoorCards
import Derived.Test.YtjaoiehjhnmahaaGreatDoorTie
import Derived.Test.YtjaoiehjhnmahaaGreatDoorPcl
import Derived.Test.YtjaoiehjhnmahaaGreatDoorOpv
import Derived.Test.YtjaoiehjhnmahaaGreatDoorRowL
import Derived.SevenTiedAt
import Derived.ChangeMaps5
import Derived.Lay
set_option linter.all false
namespace Go.Proofs.YtjaoiehjhnmahaaGreatDoor
open Go.ChangeShapes Go.WideShapes Go.ChangeAt Go.RowKit
open Go.ChangeMaps (open_string)

/-- A heap that is laid from the row's own data meets the condition. -/
theorem propChecks_met (os : Os) (args : Array Value) : laidMetH Tryz.prog Rows.propChecksRow.laid ((World.laidAll Tryz.prog os Rows.propChecksRow.laid).forCall (fun _ _ => 0) ⟨#[], args, []⟩).memory := by
  rw [MakeChecks.laidMetH_plain _ _ _ (by kernel_rfl)]
  exact laidMet_laidAll _ (by kernel_rfl) (by kernel_rfl)
theorem tPow : (Tryz.prog.globals[5]?).map (·.type) = some 306 := by kernel_rfl
/-- What the condition gives the walks. -/
theorem powTab_of_laid {W : World} (h : laidMetH Tryz.prog Rows.propChecksRow.laid W) : PowTab W := by
  rw [MakeChecks.laidMetH_plain _ _ _ (by kernel_rfl)] at h
  exact Lib.tabIs_of_head gPow tPow Tryz.underlying306 Tryz.underlying265 (by kernel_rfl) (by kernel_rfl) h.tail.tail

set_option maxRecDepth 100000 in
theorem propChecks_lifted (os : Os) (started : os.Started) (H : Type) (enc : TypeId × Value → H) :
    ReturnsInHanded {} Tryz.checked os 3 .any (fun w args => (Rows.propChecksSpec.pre enc Tryz.prog Tryz.f3 [] false w args ∧ laidMetH Tryz.prog Rows.propChecksRow.laid w) ∧ sizedMet enc Tryz.prog Tryz.f3 (OpenSpec.ofChange Rows.propChecksSpec) false w args) (Rows.propChecksSpec.post enc Tryz.prog Tryz.f3 false true false false) := by
  refine law_lifted_laid Rows.propChecksRow.laid started (by kernel_rfl) Tryz.func3 rfl (by kernel_rfl) Tryz.underlying4 (fun t ht => ?_) (fun ds hds => ?_)
    (ChangeSpec.witness_shaped (enc := enc) (C := Tryz.checked) (os := os) (X := fun w _ => laidMetH Tryz.prog Rows.propChecksRow.laid w) false (World.laidAll Tryz.prog os Rows.propChecksRow.laid) #[.slice none 0 0, .string ByteArray.empty] 8 (World.laidAll_os _ _ _) (World.shaped_of_ZipB (by kernel_rfl) (by kernel_rfl)) (by kernel_rfl) (by kernel_rfl) (by kernel_rfl) (propChecks_met os _)) ?_
  · rw [Tryz.params3] at ht
    simp only [List.mem_cons, List.not_mem_nil, or_false] at ht
    rcases ht with rfl | rfl <;> exact ⟨by kernel_rfl, of_decide_eq_true (by kernel_rfl)⟩
  · rw [Tryz.params3] at hds
    match ds, hds with
    | [d1, d2], _ => rfl
  · intro W b0 args ds p hval hA hlt hsz hL
    rw [Tryz.params3] at hA hval
    obtain ⟨v0, v1, d0, d1, p0, p1, rfl, rfl, rfl, h0, h1⟩ := trodAll_two hA
    obtain ⟨l, A, c, rfl, _, _, _, hP⟩ := open_props (hval 0 _ v0 rfl rfl) h0
    obtain ⟨nm, rfl, rfl, rfl, ws⟩ := open_string Tryz.underlying9 (hval 1 _ v1 rfl rfl) h1
    exact propChecks_any l A c nm W (powTab_of_laid hL) hP (Nat.le_trans ws (by decide))

set_option maxHeartbeats 6400000 in
set_option maxRecDepth 100000 in
theorem propChecks_holds : Rows.PropChecksSaid :=
  OpenClaim.holds_of_wide 3 Tryz.f3 rfl rfl rfl rfl rfl rfl rfl ⟨rfl, rfl, rfl, rfl, rfl⟩ rfl rfl rfl rfl rfl (by as_aux_lemma => kernel_rfl) Tryz.func3 (by as_aux_lemma => kernel_rfl)
    (of_decide_eq_true (by as_aux_lemma => kernel_rfl)) (by unfold Func.isWrapper; first | (rw [if_pos (by decide +kernel)]; kernel_rfl) | (rw [if_neg (by decide +kernel)]; exact ⟨rfl, rfl⟩))
    (fun os started H enc _ => propChecks_lifted os started H enc)

set_option maxHeartbeats 6400000 in
theorem propChecks_card : Rows.PropChecksCardSaid :=
  Claim7.holds_tied_plain_at .later [] [.data, .data, .data, .data, .pinned] true Rows.propChecksCard.stood.harness true
    propChecks_holds (fun _ h => by cases h) (by as_aux_lemma => kernel_rfl) (fun _ h => by cases h) propChecks_row_tie rfl ⟨rfl, rfl⟩ (by as_aux_lemma => kernel_rfl) rfl
    (fun f fn hf hfn => by
      obtain rfl : f = 3 := Option.some.inj ((show Tryz.prog.funcNamed Rows.propChecksRow.func = some 3 by as_aux_lemma => kernel_rfl).symm.trans hf) |>.symm
      obtain rfl : fn = Tryz.f3 := (Option.some.inj (Tryz.func3.symm.trans hfn)).symm
      exact ⟨by as_aux_lemma => kernel_rfl, fun j t ht => by
        rw [Tryz.params3] at ht
        have hm : t ∈ [22, 9] := by simpa using Array.mem_of_getElem? ht
        have hall : ([22, 9].all fun u => !Tryz.prog.wantsStandIn u) = true := by as_aux_lemma => kernel_rfl
        exact (show Tryz.prog.wantsStandIn t = false by simpa using List.all_eq_true.1 hall t hm)⟩)
    (by as_aux_lemma => kernel_rfl)

#print axioms propChecks_card
end Go.Proofs.YtjaoiehjhnmahaaGreatDoor
