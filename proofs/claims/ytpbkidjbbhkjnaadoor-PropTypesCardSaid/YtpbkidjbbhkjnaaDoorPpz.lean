/-
  PROVED: the tied card of PropTypes: for all lists of types and of properties PropTypes returns true and turns nothing: CheckTypes and Faults compute what the reference's do. Condition: the listed variables of Go's library read as the card ties them to the program's text.
-/
import Derived.Test.YtpbkidjbbhkjnaaDoorRows
import Derived.Test.YtpbkidjbbhkjnaaDoorCards
import Derived.Test.YtpbkidjbbhkjnaaDoorTie
import Derived.Test.YtpbkidjbbhkjnaaDoorPpk
import Derived.Test.YtpbkidjbbhkjnaaDoorOpv
import Derived.Test.YtpbkidjbbhkjnaaDoorRowL
import Derived.SevenTiedAt
import Derived.ChangeMaps5
import Derived.Lay
namespace Go.Proofs.YtpbkidjbbhkjnaaDoor
open Go.ChangeShapes Go.WideShapes Go.ChangeAt Go.RowKit

set_option maxHeartbeats 3200000 in
set_option maxRecDepth 100000 in
theorem propTypes_any (ts : List TY) (l : List PR) (A B : Option Addr) (c c' : Nat) (w : World) (hA : TsAt w A ts) (hcap : ts.length ≤ c) (hB : PsAt w B l) :
    Calls Tryd.prog 3 #[.slice A ts.length c, .slice B l.length c'] w fun e w' => e = .returned (.bool true) ∧ Below w.heap.size w w' := by
  have H1 := hide (fun W (hbw : Below w.heap.size w W) => faults_any ts l A B c c' W (hA.below hbw) hcap (hB.below hbw))
  have H2 := hide (fun W (hbw : Below w.heap.size w W) => faultsOf_any ts l A B c c' W (hA.below hbw) hcap (hB.below hbw))
  have H3 := hide (fun W (hbw : Below w.heap.size w W) => checkTypes_any ts A c W (hA.below hbw) hcap)
  have H4 := hide (fun W (hbw : Below w.heap.size w W) => typesFault_any ts A c W (hA.below hbw) hcap)
  have HE := hide (fun A B c c' W hA hB => equalF_same A B c c' (resList ts l) W hA hB)
  unfold FaultsOut at H1 H2
  generalize resList ts l = R at *
  generalize resErr ts l = E at *
  generalize typesErr ts = T at *
  clear hA hB hcap
  go_enter Tryd.func3, Tryd.ntmps3
  go_wp2_with (first
    | (go_at_call 5; refine (H1.out _ ?hbw).mono ?_; (case hbw => repeat (first | exact Below.refl _ _ | refine bl_plus ?_ | refine bl_alloc ?_ _ | refine bl_drew ?_ | refine bl_drewN ?_ _)); rintro e w' ⟨A1, c1, rfl, hf1, hbl⟩; obtain ⟨os1, n1, rfl⟩ := below_plus hbl; have HF1 := hide hf1; clear hbl hf1)
    | (go_at_call 6; refine (H2.out _ ?hbw).mono ?_; (case hbw => repeat (first | exact Below.refl _ _ | refine bl_plus ?_ | refine bl_alloc ?_ _ | refine bl_drew ?_ | refine bl_drewN ?_ _)); rintro e w' ⟨A2, c2, rfl, hf2, hbl⟩; obtain ⟨os2, n2, rfl⟩ := below_plus hbl; have HF2 := hide hf2; clear hbl hf2)
    | (go_at_call 7; refine (HE.out _ _ _ _ _ (HF1.out.below (bl_plus (Below.refl _ _))) HF2.out).mono ?_; rintro e w' ⟨rfl, hbl⟩; obtain ⟨os3, n3, rfl⟩ := below_plus hbl; clear hbl)
    | (go_at_call 8; refine (H3.out _ ?hbw).mono ?_; (case hbw => repeat (first | exact Below.refl _ _ | refine bl_plus ?_ | refine bl_alloc ?_ _ | refine bl_drew ?_ | refine bl_drewN ?_ _)); rintro e w' ⟨rfl, hbl⟩; obtain ⟨os4, n4, rfl⟩ := below_plus hbl; clear hbl)
    | (go_at_call 9; refine (H4.out _ ?hbw).mono ?_; (case hbw => repeat (first | exact Below.refl _ _ | refine bl_plus ?_ | refine bl_alloc ?_ _ | refine bl_drew ?_ | refine bl_drewN ?_ _)); rintro e w' ⟨rfl, hbl⟩; obtain ⟨os5, n5, rfl⟩ := below_plus hbl; clear hbl))
  go_ret
  exact ⟨by simp, by repeat (first | exact Below.refl _ _ | refine bl_plus ?_ | refine bl_alloc ?_ _ | refine bl_drew ?_ | refine bl_drewN ?_ _)⟩

/-- A heap that is laid from the row's own data meets the condition. -/
theorem propTypes_met (os : Os) (args : Array Value) : laidMetH Tryd.prog Rows.propTypesRow.laid ((World.laidAll Tryd.prog os Rows.propTypesRow.laid).forCall (fun _ _ => 0) ⟨#[], args, []⟩).memory := by
  rw [MakeChecks.laidMetH_plain _ _ _ (by kernel_rfl)]
  exact laidMet_laidAll _ (by kernel_rfl) (by kernel_rfl)

set_option maxRecDepth 100000 in
theorem propTypes_lifted (os : Os) (started : os.Started) (H : Type) (enc : TypeId × Value → H) :
    ReturnsInHanded {} Tryd.checked os 3 .any (fun w args => (Rows.propTypesSpec.pre enc Tryd.prog Tryd.f3 [] false w args ∧ laidMetH Tryd.prog Rows.propTypesRow.laid w) ∧ sizedMet enc Tryd.prog Tryd.f3 (OpenSpec.ofChange Rows.propTypesSpec) false w args) (Rows.propTypesSpec.post enc Tryd.prog Tryd.f3 false true false false) := by
  refine law_lifted_laid Rows.propTypesRow.laid started (by kernel_rfl) Tryd.func3 rfl (by kernel_rfl) Tryd.underlying4 (fun t ht => ?_) (fun ds hds => ?_)
    (ChangeSpec.witness_shaped (enc := enc) (C := Tryd.checked) (os := os) (X := fun w _ => laidMetH Tryd.prog Rows.propTypesRow.laid w) false (World.laidAll Tryd.prog os Rows.propTypesRow.laid) #[.slice none 0 0, .slice none 0 0] 8 (World.laidAll_os _ _ _) (World.shaped_of_ZipB (by kernel_rfl) (by kernel_rfl)) (by kernel_rfl) (by kernel_rfl) (by kernel_rfl) (propTypes_met os _)) ?_
  · rw [Tryd.params3] at ht
    simp only [List.mem_cons, List.not_mem_nil, or_false] at ht
    rcases ht with rfl | rfl <;> exact ⟨by kernel_rfl, of_decide_eq_true (by kernel_rfl)⟩
  · rw [Tryd.params3] at hds
    match ds, hds with
    | [d1, d2], _ => rfl
  · intro W b0 args ds p hval hA hlt hsz hL
    rw [Tryd.params3] at hA hval
    obtain ⟨v0, v1, d0, d1, p0, p1, rfl, rfl, rfl, h0, h1⟩ := trodAll_two hA
    obtain ⟨ts, A, c, rfl, hc, hT⟩ := open_types (hval 0 _ v0 rfl rfl) h0
    obtain ⟨l, B, c', rfl, _, _, _, hP⟩ := open_props (hval 1 _ v1 rfl rfl) h1
    exact propTypes_any ts l A B c c' W hT hc hP

set_option maxRecDepth 100000 in
theorem propTypes_holds : Rows.PropTypesSaid :=
  OpenClaim.holds_of_wide 3 Tryd.f3 rfl rfl rfl rfl rfl rfl rfl ⟨rfl, rfl, rfl, rfl, rfl⟩ rfl rfl rfl rfl rfl (by kernel_rfl) Tryd.func3 (by kernel_rfl)
    (of_decide_eq_true (by kernel_rfl)) (by unfold Func.isWrapper; first | (rw [if_pos (by decide +kernel)]; kernel_rfl) | (rw [if_neg (by decide +kernel)]; exact ⟨rfl, rfl⟩))
    (fun os started H enc _ => propTypes_lifted os started H enc)

theorem propTypes_card : Rows.PropTypesCardSaid :=
  Claim7.holds_tied_plain_at .later [] [.data, .pinned] true Rows.propTypesCard.stood.harness true
    propTypes_holds (fun _ h => by cases h) (by kernel_rfl) (fun _ h => by cases h) propTypes_row_tie rfl ⟨rfl, rfl⟩ (by kernel_rfl) rfl
    (fun f fn hf hfn => by
      obtain rfl : f = 3 := Option.some.inj ((show Tryd.prog.funcNamed Rows.propTypesRow.func = some 3 by kernel_rfl).symm.trans hf) |>.symm
      obtain rfl : fn = Tryd.f3 := (Option.some.inj (Tryd.func3.symm.trans hfn)).symm
      exact ⟨by kernel_rfl, fun j t ht => by
        rw [Tryd.params3] at ht
        have hm : t ∈ [22, 23] := by simpa using Array.mem_of_getElem? ht
        have hall : ([22, 23].all fun u => !Tryd.prog.wantsStandIn u) = true := by kernel_rfl
        exact (show Tryd.prog.wantsStandIn t = false by simpa using List.all_eq_true.1 hall t hm)⟩)
    (by kernel_rfl)

#print axioms propTypes_card
end Go.Proofs.YtpbkidjbbhkjnaaDoor
