/-
  PROVED: TopCards returns true for every state, day and list of reviews, and turns nothing: a better grade never gives an earlier day, and a replay of one card's reviews is grading one by one. No condition.
-/
import Derived.Test.YtokghdcfbbogdaaRows
import Derived.Test.YtokghdcfbbogdaaTopC
import Derived.Test.YtokghdcfbbogdaaRow
import Derived.Test.YtokghdcfbbogdaaGrades
import Derived.Test.YtokghdcfbbogdaaReplays
namespace Go.Proofs.Ytokghdcfbbogdaa
open Go.ChangeShapes Go.WideShapes Go.ChangeAt Go.Deep Go.RowKit

set_option maxRecDepth 100000 in
theorem topCards_lifted (os : Os) (started : os.Started) (H : Type) (enc : TypeId × Value → H) :
    ReturnsInHanded {} Try.checked os 10 .any (Rows.topCardsSpec.pre6 enc Try.prog Try.f10 [] false) (Rows.topCardsSpec.post enc Try.prog Try.f10 false true false false) := by
  refine law_lifted started (by kernel_rfl) Try.func10 rfl (by kernel_rfl) Try.underlying4 (fun t ht => ?_) (fun ds hds => ?_)
    (ChangeSpec.witness6 (enc := enc) (C := Try.checked) false ⟨#[], #[.agg #[.int .i64 0, .int .i64 0, .int .i64 0, .int .i64 0, .int .i64 0, .int .i64 0, .int .i64 0, .int .i64 0, .int .i64 0], .int .i64 0, .slice none 0 0], []⟩ 8 (by kernel_rfl) (by kernel_rfl) (by kernel_rfl) (by kernel_rfl)) ?_
  · rw [Try.params10] at ht
    simp only [List.mem_cons, List.not_mem_nil, or_false] at ht
    rcases ht with rfl | rfl | rfl <;> exact ⟨by kernel_rfl, of_decide_eq_true (by kernel_rfl)⟩
  · rw [Try.params10] at hds
    match ds, hds with
    | [d1, d2, d3], _ => rfl
  · intro W b0 args ds p hval hA hlt hsz
    rw [Try.params10] at hA hval
    obtain ⟨v0, v1, v2, d0, d1, d2, p0, p1, p2, rfl, rfl, rfl, h0, h1, h2⟩ := trodAll_three hA
    obtain ⟨x, rfl⟩ := open_state (hval 0 _ v0 rfl rfl) h0
    obtain ⟨a, rfl, rfl, rfl, wa⟩ := open_int Try.underlying3 (hval 1 _ v1 rfl rfl) h1
    obtain ⟨B, rs, cap2, rfl, _, _, hnil, hB'⟩ := open_reviews (hval 2 _ v2 rfl rfl) h2
    exact topCards_any x a B cap2 rs W hB' hnil

theorem topCards_holds : Rows.TopCardsSaid :=
  OpenClaim.holds_of_wide 10 Try.f10 rfl rfl rfl rfl rfl rfl rfl ⟨rfl, rfl, rfl, rfl, rfl⟩ rfl rfl rfl rfl rfl (by kernel_rfl) Try.func10 (by kernel_rfl)
    (of_decide_eq_true (by kernel_rfl)) (by unfold Func.isWrapper; first | (rw [if_pos (by decide +kernel)]; kernel_rfl) | (rw [if_neg (by decide +kernel)]; exact ⟨rfl, rfl⟩))
    (fun os started H enc _ => topCards_lifted os started H enc)

#print axioms topCards_holds
end Go.Proofs.Ytokghdcfbbogdaa
