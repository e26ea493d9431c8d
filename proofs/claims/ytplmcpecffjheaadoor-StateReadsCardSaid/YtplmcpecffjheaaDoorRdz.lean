/-
  PROVED: the tied card of StateReads: for every string StateReads returns true and turns nothing: ReadState computes what the reference's does. Condition: the listed variables of Go's library read as the card ties them to the program's text.
-/
import Derived.Test.YtplmcpecffjheaaDoorRows
import Derived.Test.YtplmcpecffjheaaDoorCards
import Derived.Test.YtplmcpecffjheaaDoorTie
import Derived.Test.YtplmcpecffjheaaDoorRdc
import Derived.Test.YtplmcpecffjheaaDoorRowS
import Derived.SevenTiedAt
import Derived.Test.YtplmcpecffjheaaDoorWalkC
import Derived.ChangeMaps5
import Derived.Lay
namespace Go.Proofs.YtplmcpecffjheaaDoor
open Go.ChangeShapes Go.WideShapes Go.ChangeAt Go.RowKit
open Go.ChangeMaps (open_string)

/-- A heap that is laid from the row's own data meets the condition. -/
theorem stateReads_met (os : Os) (args : Array Value) : laidMetH Tryd.prog Rows.stateReadsRow.laid ((World.laidAll Tryd.prog os Rows.stateReadsRow.laid).forCall (fun _ _ => 0) ⟨#[], args, []⟩).memory := by
  rw [MakeChecks.laidMetH_plain _ _ _ (by kernel_rfl)]
  exact laidMet_laidAll _ (by kernel_rfl) (by kernel_rfl)
theorem tPow : (Tryd.prog.globals[0]?).map (·.type) = some 97 := by kernel_rfl
/-- What the condition gives the walks. -/
theorem powTab_of_laid {W : World} (h : laidMetH Tryd.prog Rows.stateReadsRow.laid W) : PowTab W := by
  rw [MakeChecks.laidMetH_plain _ _ _ (by kernel_rfl)] at h
  exact Lib.tabIs_of_head gPow tPow Tryd.underlying97 Tryd.underlying74 (by kernel_rfl) (by kernel_rfl) h.tail.tail

theorem run_eql_st (a0 a1 a2 a3 a4 a5 a6 a7 a8 : Int) (w : World) :
    (binOp .eql 23 (.agg #[.int .i64 a0, .int .i64 a1, .int .i64 a2, .int .i64 a3, .int .i64 a4, .int .i64 a5, .int .i64 a6, .int .i64 a7, .int .i64 a8]) (.agg #[.int .i64 a0, .int .i64 a1, .int .i64 a2, .int .i64 a3, .int .i64 a4, .int .i64 a5, .int .i64 a6, .int .i64 a7, .int .i64 a8])).run Tryd.prog w = .ok (.bool true) w := by
  simp [go_sem]
attribute [local go_sem ↓] run_eql_st

set_option maxHeartbeats 1600000 in
set_option maxRecDepth 100000 in
theorem stateReads_any (s : ByteArray) (w : World) (ht : PowTab w) (hm : MaxTold w) :
    Calls Tryd.prog 4 #[.string s] w fun e w' => e = .returned (.bool true) ∧ Below w.heap.size w w' := by
  have h1 := fun w ht hm => readState_any s w ht hm checkState_any
  have h2 := fun w hm => readStateOf_any s w hm stateFault_any
  unfold ReadOut at h1 h2
  generalize readS s = q at h1 h2
  obtain ⟨⟨y0, y1, y2, y3, y4, y5, y6, y7, y8⟩, q2⟩ := q
  simp only [St.val] at h1 h2
  have H1 := hide h1
  have H2 := hide h2
  have HT := hide ht
  have HM := hide hm
  clear h1 h2 ht hm
  go_enter Tryd.func4, Tryd.ntmps4
  go_wp2_with (first
    | (go_at_call 11; refine (H1.out _ (powTab_below HT.out (by repeat (first | exact Below.refl _ _ | refine bl_plus ?_ | refine bl_alloc ?_ _ | refine bl_drew ?_))) (maxTold_below HM.out (by repeat (first | exact Below.refl _ _ | refine bl_plus ?_ | refine bl_alloc ?_ _ | refine bl_drew ?_)))).mono ?_; rintro e w' ⟨rfl, hbl⟩; obtain ⟨os1, n1, rfl⟩ := below_plus hbl; clear hbl)
    | (go_at_call 12; refine (H2.out _ (maxTold_below HM.out (by repeat (first | exact Below.refl _ _ | refine bl_plus ?_ | refine bl_alloc ?_ _ | refine bl_drew ?_)))).mono ?_; rintro e w' ⟨rfl, hbl⟩; obtain ⟨os2, n2, rfl⟩ := below_plus hbl; clear hbl))
  go_ret
  exact ⟨rfl, by repeat (first | exact Below.refl _ _ | refine bl_plus ?_ | refine bl_alloc ?_ _ | refine bl_drew ?_)⟩

set_option maxRecDepth 100000 in
theorem stateReads_lifted (os : Os) (started : os.Started) (H : Type) (enc : TypeId × Value → H) :
    ReturnsInHanded {} Tryd.checked os 4 .any (fun w args => (Rows.stateReadsSpec.pre enc Tryd.prog Tryd.f4 [] false w args ∧ laidMetH Tryd.prog Rows.stateReadsRow.laid w) ∧ sizedMet enc Tryd.prog Tryd.f4 (OpenSpec.ofChange Rows.stateReadsSpec) false w args) (Rows.stateReadsSpec.post enc Tryd.prog Tryd.f4 false true false false) := by
  refine law_lifted_shaped Rows.stateReadsRow.laid started (by kernel_rfl) Tryd.func4 rfl (by kernel_rfl) Tryd.underlying4 (fun t ht => ?_) (fun ds hds => ?_)
    (ChangeSpec.witness_shaped (enc := enc) (C := Tryd.checked) (os := os) (X := fun w _ => laidMetH Tryd.prog Rows.stateReadsRow.laid w) false (World.laidAll Tryd.prog os Rows.stateReadsRow.laid) #[.string .empty] 8 (World.laidAll_os _ _ _) (World.shaped_of_ZipB (by kernel_rfl) (by kernel_rfl)) (by kernel_rfl) (by kernel_rfl) (by kernel_rfl) (stateReads_met os _)) ?_
  · rw [Tryd.params4] at ht
    simp only [List.mem_cons, List.not_mem_nil, or_false] at ht
    rcases ht with rfl; exact ⟨by kernel_rfl, of_decide_eq_true (by kernel_rfl)⟩
  · rw [Tryd.params4] at hds
    match ds, hds with
    | [d1], _ => rfl
  · intro W b0 args ds p hval hA hlt hsz hL hsh
    rw [Tryd.params4] at hA hval
    obtain ⟨v0, d0, rfl, rfl, h0⟩ := trodAll_one hA
    obtain ⟨s, rfl, rfl, rfl, ws⟩ := open_string Tryd.underlying9 (hval 0 _ v0 rfl rfl) h0
    exact stateReads_any s W (powTab_of_laid hL) (maxTold_shaped hsh)

set_option maxRecDepth 100000 in
theorem stateReads_holds : Rows.StateReadsSaid :=
  OpenClaim.holds_of_wide 4 Tryd.f4 rfl rfl rfl rfl rfl rfl rfl ⟨rfl, rfl, rfl, rfl, rfl⟩ rfl rfl rfl rfl rfl (by kernel_rfl) Tryd.func4 (by kernel_rfl)
    (of_decide_eq_true (by kernel_rfl)) (by unfold Func.isWrapper; first | (rw [if_pos (by decide +kernel)]; kernel_rfl) | (rw [if_neg (by decide +kernel)]; exact ⟨rfl, rfl⟩))
    (fun os started H enc _ => stateReads_lifted os started H enc)

theorem stateReads_card : Rows.StateReadsCardSaid :=
  Claim7.holds_tied_plain_at .later [] [.data, .data, .data, .data, .sentinel, .sentinel, .pinned] true Rows.stateReadsCard.stood.harness true
    stateReads_holds (fun _ h => by cases h) (by kernel_rfl) (fun _ h => by cases h) stateReads_row_tie rfl ⟨rfl, rfl⟩ (by kernel_rfl) rfl
    (fun f fn hf hfn => by
      obtain rfl : f = 4 := Option.some.inj ((show Tryd.prog.funcNamed Rows.stateReadsRow.func = some 4 by kernel_rfl).symm.trans hf) |>.symm
      obtain rfl : fn = Tryd.f4 := (Option.some.inj (Tryd.func4.symm.trans hfn)).symm
      exact ⟨by kernel_rfl, fun j t ht => by
        rw [Tryd.params4] at ht
        have hm : t ∈ [9] := by simpa using Array.mem_of_getElem? ht
        have hall : ([9].all fun u => !Tryd.prog.wantsStandIn u) = true := by kernel_rfl
        exact (show Tryd.prog.wantsStandIn t = false by simpa using List.all_eq_true.1 hall t hm)⟩)
    (by kernel_rfl)

#print axioms stateReads_card
end Go.Proofs.YtplmcpecffjheaaDoor
