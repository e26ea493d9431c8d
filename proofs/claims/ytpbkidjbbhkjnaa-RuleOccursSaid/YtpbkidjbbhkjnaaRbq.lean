/-
  PROVED: the law RuleOccurs: for every rule and every day it returns true and turns nothing that was there: Occurs, Next, Before and Number compute what the reference's do. No condition.
-/
import Derived.Test.YtpbkidjbbhkjnaaRows
import Derived.Test.YtpbkidjbbhkjnaaRbp
import Derived.Test.YtpbkidjbbhkjnaaOpr
namespace Go.Proofs.Ytpbkidjbbhkjnaa
open Go.ChangeShapes Go.WideShapes Go.ChangeAt Go.RowKit

set_option maxHeartbeats 6400000 in
set_option maxRecDepth 100000 in
theorem ruleOccurs_any (r : Rul) (v : Value) (d : Int) (w : World) (hr : RulAt w r v) :
    Calls Try.prog 5 #[v, .int .i64 d] w fun e w' => e = .returned (.bool true) ∧ Below w.heap.size w w' := by
  have HR := hide hr
  obtain ⟨A, B, C, a, b, c, rfl, h1, h2, h3, h4, h5, h6⟩ := hr.ex
  unfold maxLen at h4 h5 h6
  have H0 := hide (fun w' hb => occurs_any r _ d w' (HR.out.below hb))
  have H1 := hide (fun w' hb => occursOf_any r _ d w' (HR.out.below hb))
  have H2 := hide (fun w' hb => nextP_any r _ d w' (HR.out.below hb))
  have H3 := hide (fun w' hb => nextOfR_any r _ d w' (HR.out.below hb))
  have H4 := hide (fun w' hb => beforeP_any r _ d w' (HR.out.below hb))
  have H5 := hide (fun w' hb => beforeOf_any r _ d w' (HR.out.below hb))
  have H6 := hide (fun w' hb => number_any r _ d w' (HR.out.below hb))
  have H7 := hide (fun w' hb => numberOf_any r _ d w' (HR.out.below hb))
  clear h1 h2 h3 hr
  generalize occR r d = x0 at *
  generalize nxR r d = x1 at *
  generalize befR r d = x2 at *
  generalize numR r d = x3 at *
  obtain ⟨x0, y0⟩ := x0
  obtain ⟨x1, y1⟩ := x1
  obtain ⟨x2, y2⟩ := x2
  obtain ⟨x3, y3⟩ := x3
  dsimp only at *
  cases x0
  all_goals (
    go_enter Try.func5, Try.ntmps5
    go_wp2_with (first | (go_at_call 14; (with_reducible refine (H0.out _ (by repeat (first | exact Below.refl _ _ | refine bl_plus ?_ | refine bl_alloc ?_ _ | refine bl_drew ?_ | refine bl_drewN ?_ _))).mono ?_); rintro e w' ⟨rfl, hbl⟩; obtain ⟨os0, n0, rfl⟩ := below_plus hbl; clear hbl) | (go_at_call 15; (with_reducible refine (H1.out _ (by repeat (first | exact Below.refl _ _ | refine bl_plus ?_ | refine bl_alloc ?_ _ | refine bl_drew ?_ | refine bl_drewN ?_ _))).mono ?_); rintro e w' ⟨rfl, hbl⟩; obtain ⟨os1, n1, rfl⟩ := below_plus hbl; clear hbl) | (go_at_call 16; (with_reducible refine (H2.out _ (by repeat (first | exact Below.refl _ _ | refine bl_plus ?_ | refine bl_alloc ?_ _ | refine bl_drew ?_ | refine bl_drewN ?_ _))).mono ?_); rintro e w' ⟨rfl, hbl⟩; obtain ⟨os2, n2, rfl⟩ := below_plus hbl; clear hbl) | (go_at_call 17; (with_reducible refine (H3.out _ (by repeat (first | exact Below.refl _ _ | refine bl_plus ?_ | refine bl_alloc ?_ _ | refine bl_drew ?_ | refine bl_drewN ?_ _))).mono ?_); rintro e w' ⟨rfl, hbl⟩; obtain ⟨os3, n3, rfl⟩ := below_plus hbl; clear hbl) | (go_at_call 18; (with_reducible refine (H4.out _ (by repeat (first | exact Below.refl _ _ | refine bl_plus ?_ | refine bl_alloc ?_ _ | refine bl_drew ?_ | refine bl_drewN ?_ _))).mono ?_); rintro e w' ⟨rfl, hbl⟩; obtain ⟨os4, n4, rfl⟩ := below_plus hbl; clear hbl) | (go_at_call 19; (with_reducible refine (H5.out _ (by repeat (first | exact Below.refl _ _ | refine bl_plus ?_ | refine bl_alloc ?_ _ | refine bl_drew ?_ | refine bl_drewN ?_ _))).mono ?_); rintro e w' ⟨rfl, hbl⟩; obtain ⟨os5, n5, rfl⟩ := below_plus hbl; clear hbl) | (go_at_call 20; (with_reducible refine (H6.out _ (by repeat (first | exact Below.refl _ _ | refine bl_plus ?_ | refine bl_alloc ?_ _ | refine bl_drew ?_ | refine bl_drewN ?_ _))).mono ?_); rintro e w' ⟨rfl, hbl⟩; obtain ⟨os6, n6, rfl⟩ := below_plus hbl; clear hbl) | (go_at_call 21; (with_reducible refine (H7.out _ (by repeat (first | exact Below.refl _ _ | refine bl_plus ?_ | refine bl_alloc ?_ _ | refine bl_drew ?_ | refine bl_drewN ?_ _))).mono ?_); rintro e w' ⟨rfl, hbl⟩; obtain ⟨os7, n7, rfl⟩ := below_plus hbl; clear hbl))
    go_ret
    exact ⟨rfl, (by repeat (first | exact Below.refl _ _ | refine bl_plus ?_ | refine bl_alloc ?_ _ | refine bl_drew ?_ | refine bl_drewN ?_ _))⟩)

set_option maxRecDepth 100000 in
theorem ruleOccurs_lifted (os : Os) (started : os.Started) (H : Type) (enc : TypeId × Value → H) :
    ReturnsInHanded {} Try.checked os 5 .any (Rows.ruleOccursSpec.pre6 enc Try.prog Try.f5 [] false) (Rows.ruleOccursSpec.post enc Try.prog Try.f5 false true false false) := by
  refine law_lifted started (by kernel_rfl) Try.func5 rfl (by kernel_rfl) Try.underlying4 (fun t ht => ?_) (fun ds hds => ?_)
    (ChangeSpec.witness6 (enc := enc) (C := Try.checked) false ⟨#[], #[.agg #[.int .i64 0, .int .i64 0, .int .i64 0, .int .i64 0, .int .i64 0, .slice none 0 0, .slice none 0 0, .int .i64 0, .slice none 0 0], .int .i64 0], []⟩ 8 (by kernel_rfl) (by kernel_rfl) (by kernel_rfl) (by kernel_rfl)) ?_
  · rw [Try.params5] at ht
    simp only [List.mem_cons, List.not_mem_nil, or_false] at ht
    rcases ht with rfl | rfl
    · exact ⟨by kernel_rfl, of_decide_eq_true (by kernel_rfl)⟩
    · exact ⟨by kernel_rfl, of_decide_eq_true (by kernel_rfl)⟩
  · rw [Try.params5] at hds
    match ds, hds with
    | [d1, d2], _ => rfl
  · intro W b0 args ds p hval hA hlt hsz
    rw [Try.params5] at hA hval
    obtain ⟨v0, v1, d0, d1, p0, p1, rfl, rfl, rfl, h0, h1⟩ := trodAll_two hA
    obtain ⟨r, hr⟩ := open_rule (hval 0 _ v0 rfl rfl) h0
    obtain ⟨d, rfl, rfl, rfl, wd⟩ := open_int Try.underlying3 (hval 1 _ v1 rfl rfl) h1
    exact ruleOccurs_any r v0 d W hr

set_option maxRecDepth 100000 in
theorem ruleOccurs_holds : Rows.RuleOccursSaid :=
  OpenClaim.holds_of_wide 5 Try.f5 rfl rfl rfl rfl rfl rfl rfl ⟨rfl, rfl, rfl, rfl, rfl⟩ rfl rfl rfl rfl rfl (by kernel_rfl) Try.func5 (by kernel_rfl)
    (of_decide_eq_true (by kernel_rfl)) (by unfold Func.isWrapper; first | (rw [if_pos (by decide +kernel)]; kernel_rfl) | (rw [if_neg (by decide +kernel)]; exact ⟨rfl, rfl⟩))
    (fun os started H enc _ => ruleOccurs_lifted os started H enc)

#print axioms ruleOccurs_holds
end Go.Proofs.Ytpbkidjbbhkjnaa
