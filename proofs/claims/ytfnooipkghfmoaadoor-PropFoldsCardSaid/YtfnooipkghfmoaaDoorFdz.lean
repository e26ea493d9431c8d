/-
  PROVED: the tied card of PropFolds: for all numbers and lists of values PropFolds returns true and turns nothing: Fold computes what the reference's does. Condition: the listed variables of Go's library read as the card ties them to the program's text.
-/
import Derived.Test.YtfnooipkghfmoaaDoorRows
import Derived.Test.YtfnooipkghfmoaaDoorCards
import Derived.Test.YtfnooipkghfmoaaDoorTie
import Derived.Test.YtfnooipkghfmoaaDoorFde
import Derived.Test.YtfnooipkghfmoaaDoorAlv
import Derived.Test.YtfnooipkghfmoaaDoorOpf
import Derived.Test.YtfnooipkghfmoaaDoorRowL
import Derived.SevenTiedAt
import Derived.ChangeMaps5
import Derived.Lay
set_option linter.all false
namespace Go.Proofs.YtfnooipkghfmoaaDoor
open Go.ChangeShapes Go.WideShapes Go.ChangeAt Go.RowKit

set_option maxRecDepth 100000 in
/-- A list of values that comes in. -/
theorem open_valuesF {H : Type} {enc : TypeId × Value → H} {w : World} {base : Nat} {held : Bool} {v : Value} {d : DataW H} {ps : List MemPlace} {r : Reach} {b0 : Nat} (hv : Value.okWide Tryd.prog w r b0 22 v) (h : DataW.Trod enc Tryd.prog w base (fun _ => true) held 22 v d ps) (hw : ∀ m ∈ d.weights Tryd.prog 22, m ≤ reachBytes) :
    ∃ (l : List V) (A : Option Addr) (c : Nat), v = .slice A l.length c ∧ LAt w A l ∧ ∀ j (h : j < l.length), (l[j]).fits := by
  obtain ⟨A0, len0, cap0, rfl⟩ := okWide_slice Tryd.underlying22 hv
  obtain ⟨fuel, hf⟩ := h
  obtain ⟨l, A, c, e, hl, _, _, hfit⟩ := open_itemsF (fun m _ cs x h => open_valueF m cs x h) hf hw
  have e : [Value.slice A0 len0 cap0] = [.slice A l.length c] := e
  simp only [List.cons.injEq, and_true] at e
  exact ⟨l, A, c, e, hl, hfit⟩

set_option maxHeartbeats 3200000 in
set_option maxRecDepth 100000 in
theorem propFolds_any (how : Int) (h1 : -9223372036854775808 ≤ how) (h2 : how ≤ 9223372036854775807) (w : World) (A : Option Addr) (c : Nat) (zs : List (In0 w)) (hA : VsC w A zs) (hfit : ∀ q ∈ zs, q.v.fits) :
    Calls Tryd.prog 3 #[.int .i64 how, .slice A zs.length c] w fun e w' => e = .returned (.bool true) ∧ Below w.heap.size w w' := by
  have H1 := hide (fun W (hbw : Below w.heap.size w W) => foldP_any how h1 h2 A c zs W hbw (hA.below hbw) hfit)
  have H2 := hide (fun W (hbw : Below w.heap.size w W) => foldR_any how h1 h2 A c zs W hbw (hA.below hbw))
  unfold FoldOut at H1 H2
  generalize foldAll how zs = R at *
  obtain ⟨⟨k, i, t, s, l⟩, r⟩ := R
  have HAV := hide (fun A B c d w hA hB => alike_value (.mk k i t s l) A B c d w hA hB)
  simp only [V.arg, V.k, V.i, V.t, V.s, V.l] at *
  clear hA hfit
  go_enter Tryd.func3, Tryd.ntmps3
  go_wp2_with (first | (go_at_call 5; refine (H1.out _ ?hbw).mono ?_; (case hbw => exact (by repeat (first | with_reducible exact Below.refl _ _ | with_reducible refine bl_plus ?_ | with_reducible refine bl_alloc ?_ _ | with_reducible refine bl_drew ?_ | with_reducible refine bl_drewN ?_ _))); rintro e w' ⟨A1, c1, rfl, hp, hbl⟩; have HP1 := hide hp; obtain ⟨os1, n1, rfl⟩ := below_plus hbl; clear hbl hp) | (go_at_call 6; refine (H2.out _ ?hbw).mono ?_; (case hbw => exact (by repeat (first | with_reducible exact Below.refl _ _ | with_reducible refine bl_plus ?_ | with_reducible refine bl_alloc ?_ _ | with_reducible refine bl_drew ?_ | with_reducible refine bl_drewN ?_ _))); rintro e w' ⟨A2, c2, rfl, hp, hbl⟩; have HP2 := hide hp; obtain ⟨os2, n2, rfl⟩ := below_plus hbl; clear hbl hp) | (go_at_call 7; with_reducible refine Calls.mono (HAV.out A1 A2 c1 c2 _ ?h1 ?h2) ?_; (case h1 => exact LAt.below HP1.out (by repeat (first | with_reducible exact Below.refl _ _ | with_reducible refine bl_plus ?_ | with_reducible refine bl_alloc ?_ _ | with_reducible refine bl_drew ?_ | with_reducible refine bl_drewN ?_ _))); (case h2 => exact LAt.below HP2.out (by repeat (first | with_reducible exact Below.refl _ _ | with_reducible refine bl_plus ?_ | with_reducible refine bl_alloc ?_ _ | with_reducible refine bl_drew ?_ | with_reducible refine bl_drewN ?_ _))); rintro e w' ⟨rfl, hbl⟩; obtain ⟨os7, n7, rfl⟩ := below_plus hbl; clear hbl))
  go_ret
  exact ⟨by simp, (by repeat (first | with_reducible exact Below.refl _ _ | with_reducible refine bl_plus ?_ | with_reducible refine bl_alloc ?_ _ | with_reducible refine bl_drew ?_ | with_reducible refine bl_drewN ?_ _))⟩

/-- A heap that is laid from the row's own data meets the condition. -/
theorem propFolds_met (os : Os) (args : Array Value) : laidMetH Tryd.prog Rows.propFoldsRow.laid ((World.laidAll Tryd.prog os Rows.propFoldsRow.laid).forCall (fun _ _ => 0) ⟨#[], args, []⟩).memory := by
  rw [MakeChecks.laidMetH_plain _ _ _ (by kernel_rfl)]
  exact laidMet_laidAll _ (by kernel_rfl) (by kernel_rfl)

set_option maxRecDepth 100000 in
theorem propFolds_lifted (os : Os) (started : os.Started) (H : Type) (enc : TypeId × Value → H) :
    ReturnsInHanded {} Tryd.checked os 3 .any (fun w args => (Rows.propFoldsSpec.pre enc Tryd.prog Tryd.f3 [] false w args ∧ laidMetH Tryd.prog Rows.propFoldsRow.laid w) ∧ sizedMet enc Tryd.prog Tryd.f3 (OpenSpec.ofChange Rows.propFoldsSpec) false w args) (Rows.propFoldsSpec.post enc Tryd.prog Tryd.f3 false true false false) := by
  refine law_lifted_laid Rows.propFoldsRow.laid started (by kernel_rfl) Tryd.func3 rfl (by kernel_rfl) Tryd.underlying4 (fun t ht => ?_) (fun ds hds => ?_)
    (ChangeSpec.witness_shaped (enc := enc) (C := Tryd.checked) (os := os) (X := fun w _ => laidMetH Tryd.prog Rows.propFoldsRow.laid w) false (World.laidAll Tryd.prog os Rows.propFoldsRow.laid) #[.int .i64 0, .slice none 0 0] 8 (World.laidAll_os _ _ _) (World.shaped_of_ZipB (by kernel_rfl) (by kernel_rfl)) (by kernel_rfl) (by kernel_rfl) (by kernel_rfl) (propFolds_met os _)) ?_
  · rw [Tryd.params3] at ht
    simp only [List.mem_cons, List.not_mem_nil, or_false] at ht
    rcases ht with rfl | rfl <;> exact ⟨by kernel_rfl, of_decide_eq_true (by kernel_rfl)⟩
  · rw [Tryd.params3] at hds
    match ds, hds with
    | [d1, d2], _ => rfl
  · intro W b0 args ds p hval hA hlt hsz hL
    rw [Tryd.params3] at hA hval
    rw [Tryd.params3] at hsz
    obtain ⟨v0, v1, d0, d1, p0, p1, rfl, rfl, rfl, h0, h1⟩ := trodAll_two hA
    have hws := List.all_eq_true.1 hsz
    obtain ⟨how, rfl, rfl, rfl, hin⟩ := open_int Tryd.underlying3 (hval 0 _ v0 rfl rfl) h0
    obtain ⟨l, A, c, rfl, hP, hfit⟩ := open_valuesF (hval 1 _ v1 rfl rfl) h1 (fun m hm => of_decide_eq_true (hws m (DataW.weights_mem_each (j := 1) (d := d1) rfl rfl m hm)))
    obtain ⟨zs, rfl, hC⟩ := hP.in0
    rw [List.length_map]
    have hwf : -9223372036854775808 ≤ how ∧ how ≤ 9223372036854775807 := by
      simp only [Lit.wf, IntKind.min, IntKind.max, IntKind.signed, IntKind.bits, Bool.and_eq_true, decide_eq_true_eq, if_true] at hin
      omega
    refine propFolds_any how hwf.1 hwf.2 W A c zs hC (fun q hq => ?_)
    obtain ⟨j, hj, rfl⟩ := List.mem_iff_getElem.1 hq
    have := hfit j (by rw [List.length_map]; exact hj)
    rw [List.getElem_map] at this
    exact this

set_option maxRecDepth 100000 in
theorem propFolds_holds : Rows.PropFoldsSaid :=
  OpenClaim.holds_of_wide 3 Tryd.f3 rfl rfl rfl rfl rfl rfl rfl ⟨rfl, rfl, rfl, rfl, rfl⟩ rfl rfl rfl rfl rfl (by kernel_rfl) Tryd.func3 (by kernel_rfl)
    (of_decide_eq_true (by kernel_rfl)) (by unfold Func.isWrapper; first | (rw [if_pos (by decide +kernel)]; kernel_rfl) | (rw [if_neg (by decide +kernel)]; exact ⟨rfl, rfl⟩))
    (fun os started H enc _ => propFolds_lifted os started H enc)

theorem propFolds_card : Rows.PropFoldsCardSaid :=
  Claim7.holds_tied_plain_at .later [] [.data, .pinned] true Rows.propFoldsCard.stood.harness true
    propFolds_holds (fun _ h => by cases h) (by kernel_rfl) (fun _ h => by cases h) propFolds_row_tie rfl ⟨rfl, rfl⟩ (by kernel_rfl) rfl
    (fun f fn hf hfn => by
      obtain rfl : f = 3 := Option.some.inj ((show Tryd.prog.funcNamed Rows.propFoldsRow.func = some 3 by kernel_rfl).symm.trans hf) |>.symm
      obtain rfl : fn = Tryd.f3 := (Option.some.inj (Tryd.func3.symm.trans hfn)).symm
      exact ⟨by kernel_rfl, fun j t ht => by
        rw [Tryd.params3] at ht
        have hm : t ∈ [3, 22] := by simpa using Array.mem_of_getElem? ht
        have hall : ([3, 22].all fun u => !Tryd.prog.wantsStandIn u) = true := by kernel_rfl
        exact (show Tryd.prog.wantsStandIn t = false by simpa using List.all_eq_true.1 hall t hm)⟩)
    (by kernel_rfl)

#print axioms propFolds_card
end Go.Proofs.YtfnooipkghfmoaaDoor
