/-
  PROVED: the tied card of ValueChecks: for every value ValueChecks returns true and turns nothing: CheckValue and Text compute what the reference's do. Condition: the listed variables of Go's library read as the card ties them to the program's text.
-/
import Derived.Test.YtfpcfpjnafnjiaaGreatDoorRows
import Derived.Test.YtfpcfpjnafnjiaaGreatDoorCards
import Derived.Test.YtfpcfpjnafnjiaaGreatDoorTie
import Derived.Test.YtfpcfpjnafnjiaaGreatDoorVtl
import Derived.Test.YtfpcfpjnafnjiaaGreatDoorOpv
import Derived.Test.YtfpcfpjnafnjiaaGreatDoorRowL
import Derived.SevenTiedAt
import Derived.ChangeMaps5
import Derived.Lay
set_option linter.all false
namespace Go.Proofs.YtfpcfpjnafnjiaaGreatDoor
open Go.ChangeShapes Go.WideShapes Go.ChangeAt Go.RowKit

section
variable {H : Type} {enc : TypeId × Value → H} {w : World} {base : Nat} {held : Bool}
set_option maxRecDepth 100000 in
theorem open_val1 {v : Value} {d : DataW H} {ps : List MemPlace} {r : Reach} {b0 : Nat} (hv : Value.okWide Tryz.prog w r b0 24 v) (h : DataW.Trod enc Tryz.prog w base (fun _ => true) held 24 v d ps) :
    ∃ (x : V) (A : Option Addr) (c : Nat), v = x.arg A c ∧ LAt w A x.l := by
  obtain ⟨cs, rfl, _⟩ := okWide_struct Tryz.underlying24 hv
  obtain ⟨fuel, hf⟩ := h
  obtain ⟨x, A, c, hx, hl⟩ := open_value fuel _ _ hf
  refine ⟨x, A, c, ?_, hl⟩
  obtain ⟨cs⟩ := cs
  have hx' : cs = _ := hx
  rw [hx']
  rfl
end

/-- A heap that is laid from the row's own data meets the condition. -/
theorem valueChecks_met (os : Os) (args : Array Value) : laidMetH Tryz.prog Rows.valueChecksRow.laid ((World.laidAll Tryz.prog os Rows.valueChecksRow.laid).forCall (fun _ _ => 0) ⟨#[], args, []⟩).memory := by
  rw [MakeChecks.laidMetH_plain _ _ _ (by kernel_rfl)]
  exact laidMet_laidAll _ (by kernel_rfl) (by kernel_rfl)
theorem tPow : (Tryz.prog.globals[5]?).map (·.type) = some 350 := by kernel_rfl
/-- What the condition gives the walks. -/
theorem powTab_of_laid {W : World} (h : laidMetH Tryz.prog Rows.valueChecksRow.laid W) : PowTab W := by
  rw [MakeChecks.laidMetH_plain _ _ _ (by kernel_rfl)] at h
  exact Lib.tabIs_of_head gPow tPow Tryz.underlying350 Tryz.underlying290 (by kernel_rfl) (by kernel_rfl) h.tail.tail

set_option maxRecDepth 100000 in
theorem valueChecks_lifted (os : Os) (started : os.Started) (H : Type) (enc : TypeId × Value → H) :
    ReturnsInHanded {} Tryz.checked os 3 .any (fun w args => (Rows.valueChecksSpec.pre enc Tryz.prog Tryz.f3 [] false w args ∧ laidMetH Tryz.prog Rows.valueChecksRow.laid w) ∧ sizedMet enc Tryz.prog Tryz.f3 (OpenSpec.ofChange Rows.valueChecksSpec) false w args) (Rows.valueChecksSpec.post enc Tryz.prog Tryz.f3 false true false false) := by
  refine law_lifted_laid Rows.valueChecksRow.laid started (by kernel_rfl) Tryz.func3 rfl (by kernel_rfl) Tryz.underlying4 (fun t ht => ?_) (fun ds hds => ?_)
    (ChangeSpec.witness_shaped (enc := enc) (C := Tryz.checked) (os := os) (X := fun w _ => laidMetH Tryz.prog Rows.valueChecksRow.laid w) false (World.laidAll Tryz.prog os Rows.valueChecksRow.laid) #[.agg #[.int .i64 0, .int .i64 0, .int .i64 0, .string ByteArray.empty, .slice none 0 0]] 8 (World.laidAll_os _ _ _) (World.shaped_of_ZipB (by kernel_rfl) (by kernel_rfl)) (by kernel_rfl) (by kernel_rfl) (by kernel_rfl) (valueChecks_met os _)) ?_
  · rw [Tryz.params3] at ht
    simp only [List.mem_cons, List.not_mem_nil, or_false] at ht
    rcases ht with rfl; exact ⟨by kernel_rfl, of_decide_eq_true (by kernel_rfl)⟩
  · rw [Tryz.params3] at hds
    match ds, hds with
    | [d1], _ => rfl
  · intro W b0 args ds p hval hA hlt hsz hL
    rw [Tryz.params3] at hA hval
    obtain ⟨v0, d0, rfl, rfl, h0⟩ := trodAll_one hA
    obtain ⟨x, A, c, rfl, hl⟩ := open_val1 (hval 0 _ v0 rfl rfl) h0
    exact valueChecks_any x A c W (powTab_of_laid hL) hl

set_option maxHeartbeats 6400000 in
set_option maxRecDepth 100000 in
theorem valueChecks_holds : Rows.ValueChecksSaid :=
  OpenClaim.holds_of_wide 3 Tryz.f3 rfl rfl rfl rfl rfl rfl rfl ⟨rfl, rfl, rfl, rfl, rfl⟩ rfl rfl rfl rfl rfl (by as_aux_lemma => kernel_rfl) Tryz.func3 (by as_aux_lemma => kernel_rfl)
    (of_decide_eq_true (by as_aux_lemma => kernel_rfl)) (by unfold Func.isWrapper; first | (rw [if_pos (by decide +kernel)]; kernel_rfl) | (rw [if_neg (by decide +kernel)]; exact ⟨rfl, rfl⟩))
    (fun os started H enc _ => valueChecks_lifted os started H enc)

set_option maxHeartbeats 6400000 in
theorem valueChecks_card : Rows.ValueChecksCardSaid :=
  Claim7.holds_tied_plain_at .later [] [.data, .data, .data, .data, .pinned] true Rows.valueChecksCard.stood.harness true
    valueChecks_holds (fun _ h => by cases h) (by as_aux_lemma => kernel_rfl) (fun _ h => by cases h) valueChecks_row_tie rfl ⟨rfl, rfl⟩ (by as_aux_lemma => kernel_rfl) rfl
    (fun f fn hf hfn => by
      obtain rfl : f = 3 := Option.some.inj ((show Tryz.prog.funcNamed Rows.valueChecksRow.func = some 3 by as_aux_lemma => kernel_rfl).symm.trans hf) |>.symm
      obtain rfl : fn = Tryz.f3 := (Option.some.inj (Tryz.func3.symm.trans hfn)).symm
      exact ⟨by as_aux_lemma => kernel_rfl, fun j t ht => by
        rw [Tryz.params3] at ht
        have hm : t ∈ [24] := by simpa using Array.mem_of_getElem? ht
        have hall : ([24].all fun u => !Tryz.prog.wantsStandIn u) = true := by as_aux_lemma => kernel_rfl
        exact (show Tryz.prog.wantsStandIn t = false by simpa using List.all_eq_true.1 hall t hm)⟩)
    (by as_aux_lemma => kernel_rfl)

#print axioms valueChecks_card
end Go.Proofs.YtfpcfpjnafnjiaaGreatDoor
