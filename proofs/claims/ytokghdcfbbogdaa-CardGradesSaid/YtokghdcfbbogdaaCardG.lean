/-
  PROVED: CardGrades returns true for every list of states, place, grade and day, and turns nothing: GradeAt and Bury compute what the reference's do. No condition.
-/
import Derived.Test.YtokghdcfbbogdaaRows
import Derived.Test.YtokghdcfbbogdaaWalkO
import Derived.Test.YtokghdcfbbogdaaWalkP
import Derived.Test.YtokghdcfbbogdaaWalkQ
import Derived.Test.YtokghdcfbbogdaaWalkR
import Derived.Test.YtokghdcfbbogdaaRow
import Derived.Test.YtokghdcfbbogdaaOpenc
namespace Go.Proofs.Ytokghdcfbbogdaa
open Go.ChangeShapes Go.WideShapes Go.ChangeAt Go.Deep Go.RowKit

set_option maxHeartbeats 1600000 in
set_option maxRecDepth 100000 in
theorem cardGrades_any (A : Option Addr) (c : Nat) (xs : List St) (p g d : Int) (w : World) (hA : StsAt w A xs) (hm : xs.length ≤ maxLen) :
    Calls Try.prog 5 #[.slice A xs.length c, .int .i64 p, .int .i64 g, .int .i64 d] w fun e w' => e = .returned (.bool true) ∧ Below w.heap.size w w' := by
  have h1 := fun w h => gradeAt_any A c xs p g d w h
  have h2 := fun w h => gradeAtOf_any A c xs p g d w h
  have h3 := fun w h => bury_any A c xs p d w h
  have h4 := fun w h => buryOf_any A c xs p d w h
  have hl1 := gradeAt_len xs p g d hm
  have hl2 := bury_len xs p d hm
  generalize gradeAt xs p g d = q1 at h1 h2 hl1
  obtain ⟨ys, r1⟩ := q1
  generalize bury xs p d = q2 at h3 h4 hl2
  obtain ⟨zs, r2⟩ := q2
  simp only at hl1 hl2
  have H1 := hide h1
  have H2 := hide h2
  have H3 := hide h3
  have H4 := hide h4
  have HL1 := hide hl1
  have HL2 := hide hl2
  have HA := hide hA
  clear h1 h2 h3 h4 hl1 hl2 hA hm
  go_enter Try.func5, Try.ntmps5
  go_wp2_with (first
    | (go_at_call 20; refine (H1.out _ HA.out).mono ?_; rintro e w' ⟨A1, c1, rfl, _, hI, hb⟩; obtain ⟨os1, n1, rfl⟩ := below_plus hb; clear hb; have HI1 := hide hI; clear hI)
    | (go_at_call 21; refine (H2.out _ (HA.out.plus _ _)).mono ?_; rintro e w' ⟨A2, c2, rfl, _, hI, hb⟩; obtain ⟨os2, n2, rfl⟩ := below_plus hb; clear hb; have HI2 := hide hI; clear hI)
    | (go_at_call 22; refine (H3.out _ ((HA.out.plus _ _).plus _ _)).mono ?_; rintro e w' ⟨A3, c3, rfl, _, hI, hb⟩; obtain ⟨os3, n3, rfl⟩ := below_plus hb; clear hb; have HI3 := hide hI; clear hI)
    | (go_at_call 23; refine (H4.out _ (((HA.out.plus _ _).plus _ _).plus _ _)).mono ?_; rintro e w' ⟨A4, c4, rfl, _, hI, hb⟩; obtain ⟨os4, n4, rfl⟩ := below_plus hb; clear hb; have HI4 := hide hI; clear hI)
    | (go_at_call 24; refine (equalSts_same _ _ _ _ _ _ (by first | with_reducible exact ((HI1.out.plus _ _).plus _ _).plus _ _ | with_reducible exact (((HI3.out.plus _ _).plus _ _))) (by first | with_reducible exact (HI2.out.plus _ _).plus _ _ | with_reducible exact (HI4.out.plus _ _)) (by first | with_reducible exact HL1.out | with_reducible exact HL2.out)).mono ?_; rintro e w' ⟨rfl, hb⟩; obtain ⟨os5, n5, rfl⟩ := below_plus hb; clear hb))
  go_ret
  exact ⟨rfl, by repeat (first | exact Below.refl _ _ | refine bl_plus ?_ | refine bl_alloc ?_ _ | refine bl_drew ?_)⟩

set_option maxRecDepth 100000 in
theorem cardGrades_lifted (os : Os) (started : os.Started) (H : Type) (enc : TypeId × Value → H) :
    ReturnsInHanded {} Try.checked os 5 .any (Rows.cardGradesSpec.pre6 enc Try.prog Try.f5 [] false) (Rows.cardGradesSpec.post enc Try.prog Try.f5 false true false false) := by
  refine law_lifted started (by kernel_rfl) Try.func5 rfl (by kernel_rfl) Try.underlying4 (fun t ht => ?_) (fun ds hds => ?_)
    (ChangeSpec.witness6 (enc := enc) (C := Try.checked) false ⟨#[], #[.slice none 0 0, .int .i64 0, .int .i64 0, .int .i64 0], []⟩ 8 (by kernel_rfl) (by kernel_rfl) (by kernel_rfl) (by kernel_rfl)) ?_
  · rw [Try.params5] at ht
    simp only [List.mem_cons, List.not_mem_nil, or_false] at ht
    rcases ht with rfl | rfl | rfl | rfl <;> exact ⟨by kernel_rfl, of_decide_eq_true (by kernel_rfl)⟩
  · rw [Try.params5] at hds
    match ds, hds with
    | [d1, d2, d3, d4], _ => rfl
  · intro W b0 args ds p hval hA hlt hsz
    rw [Try.params5] at hA hval
    obtain ⟨v0, v1, v2, v3, d0, d1, d2, d3, p0, p1, p2, p3, rfl, rfl, rfl, h0, h1, h2, h3⟩ := trodAll_four hA
    obtain ⟨A, xs, cap, rfl, hle, hm, _, hA'⟩ := open_states (hval 0 _ v0 rfl rfl) h0
    obtain ⟨a, rfl, rfl, rfl, wa⟩ := open_int Try.underlying3 (hval 1 _ v1 rfl rfl) h1
    obtain ⟨b, rfl, rfl, rfl, wb⟩ := open_int Try.underlying3 (hval 2 _ v2 rfl rfl) h2
    obtain ⟨c, rfl, rfl, rfl, wc⟩ := open_int Try.underlying3 (hval 3 _ v3 rfl rfl) h3
    exact cardGrades_any A cap xs a b c W hA' (Nat.le_trans hle hm)

theorem cardGrades_holds : Rows.CardGradesSaid :=
  OpenClaim.holds_of_wide 5 Try.f5 rfl rfl rfl rfl rfl rfl rfl ⟨rfl, rfl, rfl, rfl, rfl⟩ rfl rfl rfl rfl rfl (by kernel_rfl) Try.func5 (by kernel_rfl)
    (of_decide_eq_true (by kernel_rfl)) (by unfold Func.isWrapper; first | (rw [if_pos (by decide +kernel)]; kernel_rfl) | (rw [if_neg (by decide +kernel)]; exact ⟨rfl, rfl⟩))
    (fun os started H enc _ => cardGrades_lifted os started H enc)

#print axioms cardGrades_holds
end Go.Proofs.Ytokghdcfbbogdaa
