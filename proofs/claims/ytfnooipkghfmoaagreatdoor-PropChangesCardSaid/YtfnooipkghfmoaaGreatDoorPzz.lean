/-
  PROVED: the tied card of PropChanges: for all lists of properties, names and values PropChanges returns true and turns nothing: Put, Drop and Get compute what the reference's do. Condition: the listed variables of Go's library read as the card ties them to the program's text.
-/
import Derived.Test.YtfnooipkghfmoaaGreatDoorRows
import Derived.Test.YtfnooipkghfmoaaGreatDoorCards
import Derived.Test.YtfnooipkghfmoaaGreatDoorTie
import Derived.Test.YtfnooipkghfmoaaGreatDoorPzk
import Derived.Test.YtfnooipkghfmoaaGreatDoorOpf
import Derived.Test.YtfnooipkghfmoaaGreatDoorRowL
import Derived.SevenTiedAt
import Derived.ChangeMaps5
import Derived.Lay
set_option linter.all false
namespace Go.Proofs.YtfnooipkghfmoaaGreatDoor
open Go.ChangeShapes Go.WideShapes Go.ChangeAt Go.RowKit
open Go.ChangeMaps (open_string)

/-- A heap that is laid from the row's own data meets the condition. -/
theorem propChanges_met (os : Os) (args : Array Value) : laidMetH Tryz.prog Rows.propChangesRow.laid ((World.laidAll Tryz.prog os Rows.propChangesRow.laid).forCall (fun _ _ => 0) ⟨#[], args, []⟩).memory := by
  rw [MakeChecks.laidMetH_plain _ _ _ (by kernel_rfl)]
  exact laidMet_laidAll _ (by kernel_rfl) (by kernel_rfl)

set_option maxRecDepth 100000 in
theorem propChanges_lifted (os : Os) (started : os.Started) (H : Type) (enc : TypeId × Value → H) :
    ReturnsInHanded {} Tryz.checked os 3 .any (fun w args => (Rows.propChangesSpec.pre enc Tryz.prog Tryz.f3 [] false w args ∧ laidMetH Tryz.prog Rows.propChangesRow.laid w) ∧ sizedMet enc Tryz.prog Tryz.f3 (OpenSpec.ofChange Rows.propChangesSpec) false w args) (Rows.propChangesSpec.post enc Tryz.prog Tryz.f3 false true false false) := by
  refine law_lifted_laid Rows.propChangesRow.laid started (by kernel_rfl) Tryz.func3 rfl (by kernel_rfl) Tryz.underlying4 (fun t ht => ?_) (fun ds hds => ?_)
    (ChangeSpec.witness_shaped (enc := enc) (C := Tryz.checked) (os := os) (X := fun w _ => laidMetH Tryz.prog Rows.propChangesRow.laid w) false (World.laidAll Tryz.prog os Rows.propChangesRow.laid) #[.slice none 0 0, .string ByteArray.empty, .agg #[.int .i64 0, .int .i64 0, .int .i64 0, .string ByteArray.empty, .slice none 0 0]] 8 (World.laidAll_os _ _ _) (World.shaped_of_ZipB (by kernel_rfl) (by kernel_rfl)) (by kernel_rfl) (by kernel_rfl) (by kernel_rfl) (propChanges_met os _)) ?_
  · rw [Tryz.params3] at ht
    simp only [List.mem_cons, List.not_mem_nil, or_false] at ht
    rcases ht with rfl | rfl | rfl <;> exact ⟨by kernel_rfl, of_decide_eq_true (by kernel_rfl)⟩
  · rw [Tryz.params3] at hds
    match ds, hds with
    | [d1, d2, d3], _ => rfl
  · intro W b0 args ds p hval hA hlt hsz hL
    rw [Tryz.params3] at hA hval
    rw [Tryz.params3] at hsz
    obtain ⟨v0, v1, v2, d0, d1, d2, p0, p1, p2, rfl, rfl, rfl, h0, h1, h2⟩ := trodAll_three hA
    have hws := List.all_eq_true.1 hsz
    obtain ⟨l, A, c, rfl, _, _, _, hP, hfit⟩ := open_propsF (hval 0 _ v0 rfl rfl) h0 (fun m hm => of_decide_eq_true (hws m (DataW.weights_mem_each (j := 0) (d := d0) rfl rfl m hm)))
    obtain ⟨x, rfl, rfl, rfl, hx⟩ := open_string Tryz.underlying9 (hval 1 _ v1 rfl rfl) h1
    obtain ⟨v, B, c', rfl, hv, hvf⟩ := open_valF (hval 2 _ v2 rfl rfl) h2 (fun m hm => of_decide_eq_true (hws m (DataW.weights_mem_each (j := 2) (d := d2) rfl rfl m hm)))
    obtain ⟨ps, rfl, hC⟩ := hP.open_
    rw [List.length_map]
    exact propChanges_any A c ps x v B c' W hC (fun p hp => hfit p.pr (List.mem_map_of_mem hp)) hx hvf hv hP

set_option maxRecDepth 100000 in
theorem propChanges_holds : Rows.PropChangesSaid :=
  OpenClaim.holds_of_wide 3 Tryz.f3 rfl rfl rfl rfl rfl rfl rfl ⟨rfl, rfl, rfl, rfl, rfl⟩ rfl rfl rfl rfl rfl (by kernel_rfl) Tryz.func3 (by kernel_rfl)
    (of_decide_eq_true (by kernel_rfl)) (by unfold Func.isWrapper; first | (rw [if_pos (by decide +kernel)]; kernel_rfl) | (rw [if_neg (by decide +kernel)]; exact ⟨rfl, rfl⟩))
    (fun os started H enc _ => propChanges_lifted os started H enc)

theorem propChanges_card : Rows.PropChangesCardSaid :=
  Claim7.holds_tied_plain_at .later [] [.data, .pinned] true Rows.propChangesCard.stood.harness true
    propChanges_holds (fun _ h => by cases h) (by kernel_rfl) (fun _ h => by cases h) propChanges_row_tie rfl ⟨rfl, rfl⟩ (by kernel_rfl) rfl
    (fun f fn hf hfn => by
      obtain rfl : f = 3 := Option.some.inj ((show Tryz.prog.funcNamed Rows.propChangesRow.func = some 3 by kernel_rfl).symm.trans hf) |>.symm
      obtain rfl : fn = Tryz.f3 := (Option.some.inj (Tryz.func3.symm.trans hfn)).symm
      exact ⟨by kernel_rfl, fun j t ht => by
        rw [Tryz.params3] at ht
        have hm : t ∈ [22, 9, 25] := by simpa using Array.mem_of_getElem? ht
        have hall : ([22, 9, 25].all fun u => !Tryz.prog.wantsStandIn u) = true := by kernel_rfl
        exact (show Tryz.prog.wantsStandIn t = false by simpa using List.all_eq_true.1 hall t hm)⟩)
    (by kernel_rfl)

#print axioms propChanges_card
end Go.Proofs.YtfnooipkghfmoaaGreatDoor
