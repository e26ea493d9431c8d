/-
  PROVED: StateGrades returns true for every state, grade and day, and turns nothing: Grade and Chances compute what the reference's do. No condition.
-/
import Derived.Test.YtokghdcfbbogdaaRows
import Derived.Test.YtokghdcfbbogdaaWalkK
import Derived.Test.YtokghdcfbbogdaaRow
import Derived.Test.YtokghdcfbbogdaaOpenb
namespace Go.Proofs.Ytokghdcfbbogdaa
open Go.ChangeShapes Go.WideShapes Go.ChangeAt Go.Deep Go.RowKit

set_option maxHeartbeats 1600000 in
set_option maxRecDepth 100000 in
theorem stateGrades_any (x : St) (g d : Int) (w : World) :
    Calls Try.prog 4 #[x.val, .int .i64 g, .int .i64 d] w fun e w' => e = .returned (.bool true) ∧ Below w.heap.size w w' := by
  have h1 := fun w => grade_any x g d w
  have h2 := fun w => gradeOf_any x g d w
  have h3 := fun w => chances_any x d w
  have h4 := fun w => chancesOf_any x d w
  have hl : (chances x d).1.length ≤ maxLen := by
    unfold chances maxLen; split
    · split <;> simp [dues_len]
    · simp
  generalize x.grade g d = p at h1 h2
  obtain ⟨y, r⟩ := p
  generalize chances x d = q at h3 h4 hl
  obtain ⟨ns, r2⟩ := q
  simp only [St.val] at h1 h2 h3 h4 hl ⊢
  have H1 := hide h1
  have H2 := hide h2
  have H3 := hide h3
  have H4 := hide h4
  have HL := hide hl
  clear h1 h2 h3 h4 hl
  go_enter Try.func4, Try.ntmps4
  go_wp2_with (first
    | (go_at_call 15; refine (H1.out _).mono ?_; rintro e w' ⟨rfl, hb⟩; obtain ⟨os1, n1, rfl⟩ := below_plus hb; clear hb)
    | (go_at_call 16; refine (H2.out _).mono ?_; rintro e w' ⟨rfl, hb⟩; obtain ⟨os2, n2, rfl⟩ := below_plus hb; clear hb)
    | (go_at_call 17; refine (H3.out _).mono ?_; rintro e w' ⟨A, c, rfl, hI, hb⟩; obtain ⟨os3, n3, rfl⟩ := below_plus hb; clear hb; have HI := hide hI; clear hI)
    | (go_at_call 18; refine (H4.out _).mono ?_; rintro e w' ⟨A', c', rfl, hI', hb⟩; obtain ⟨os4, n4, rfl⟩ := below_plus hb; clear hb; have HI' := hide hI'; clear hI')
    | (go_at_call 19; refine (equalInts_same _ _ _ _ ns _ (HI.out.plus _ _) HI'.out HL.out).mono ?_; rintro e w' ⟨rfl, hb⟩; obtain ⟨os5, n5, rfl⟩ := below_plus hb; clear hb))
  go_ret
  exact ⟨rfl, by repeat (first | exact Below.refl _ _ | refine bl_plus ?_ | refine bl_alloc ?_ _ | refine bl_drew ?_)⟩

section
variable {H : Type} {enc : TypeId × Value → H} {w : World} {base : Nat} {spare : Nat → Bool} {held : Bool}
set_option maxRecDepth 100000 in
/-- A state that comes in by value. -/
theorem open_state {v : Value} {d : DataW H} {ps : List MemPlace} {r : Reach} {b0 : Nat} (hv : Value.okWide Try.prog w r b0 24 v) (h : DataW.Trod enc Try.prog w base spare held 24 v d ps) : ∃ x : St, v = x.val := by
  obtain ⟨cs, rfl, hsz⟩ := okWide_struct Try.underlying24 hv
  obtain ⟨fuel, hf⟩ := h
  have hone := open_int_agg Try.underlying24 (by kernel_rfl) (by kernel_rfl) (K := 9) rfl (by kernel_rfl) hf hsz
  obtain ⟨l⟩ := cs
  obtain ⟨ns, hl, hns⟩ := hone
  simp only at hl
  subst hl
  match ns, hns with
  | [a0, a1, a2, a3, a4, a5, a6, a7, a8], _ => exact ⟨⟨a0, a1, a2, a3, a4, a5, a6, a7, a8⟩, rfl⟩
end

set_option maxRecDepth 100000 in
theorem stateGrades_lifted (os : Os) (started : os.Started) (H : Type) (enc : TypeId × Value → H) :
    ReturnsInHanded {} Try.checked os 4 .any (Rows.stateGradesSpec.pre6 enc Try.prog Try.f4 [] false) (Rows.stateGradesSpec.post enc Try.prog Try.f4 false true false false) := by
  refine law_lifted started (by kernel_rfl) Try.func4 rfl (by kernel_rfl) Try.underlying4 (fun t ht => ?_) (fun ds hds => ?_)
    (ChangeSpec.witness6 (enc := enc) (C := Try.checked) false ⟨#[], #[.agg #[.int .i64 0, .int .i64 0, .int .i64 0, .int .i64 0, .int .i64 0, .int .i64 0, .int .i64 0, .int .i64 0, .int .i64 0], .int .i64 0, .int .i64 0], []⟩ 8 (by kernel_rfl) (by kernel_rfl) (by kernel_rfl) (by kernel_rfl)) ?_
  · rw [Try.params4] at ht
    simp only [List.mem_cons, List.not_mem_nil, or_false] at ht
    rcases ht with rfl | rfl | rfl <;> exact ⟨by kernel_rfl, of_decide_eq_true (by kernel_rfl)⟩
  · rw [Try.params4] at hds
    match ds, hds with
    | [d1, d2, d3], _ => rfl
  · intro W b0 args ds p hval hA hlt hsz
    rw [Try.params4] at hA hval
    obtain ⟨v0, v1, v2, d0, d1, d2, p0, p1, p2, rfl, rfl, rfl, h0, h1, h2⟩ := trodAll_three hA
    obtain ⟨x, rfl⟩ := open_state (hval 0 _ v0 rfl rfl) h0
    obtain ⟨a, rfl, rfl, rfl, wa⟩ := open_int Try.underlying3 (hval 1 _ v1 rfl rfl) h1
    obtain ⟨b, rfl, rfl, rfl, wb⟩ := open_int Try.underlying3 (hval 2 _ v2 rfl rfl) h2
    exact stateGrades_any x a b W

theorem stateGrades_holds : Rows.StateGradesSaid :=
  OpenClaim.holds_of_wide 4 Try.f4 rfl rfl rfl rfl rfl rfl rfl ⟨rfl, rfl, rfl, rfl, rfl⟩ rfl rfl rfl rfl rfl (by kernel_rfl) Try.func4 (by kernel_rfl)
    (of_decide_eq_true (by kernel_rfl)) (by unfold Func.isWrapper; first | (rw [if_pos (by decide +kernel)]; kernel_rfl) | (rw [if_neg (by decide +kernel)]; exact ⟨rfl, rfl⟩))
    (fun os started H enc _ => stateGrades_lifted os started H enc)

#print axioms stateGrades_holds
end Go.Proofs.Ytokghdcfbbogdaa
