/-
  PROVED: the law RuleBetween: for every rule and every two days it returns true and turns nothing that was there: Between computes what the reference's does. No condition.
-/
import Derived.Test.YtpbkidjbbhkjnaaRows
import Derived.Test.YtpbkidjbbhkjnaaRbr
import Derived.Test.YtpbkidjbbhkjnaaOpr
namespace Go.Proofs.Ytpbkidjbbhkjnaa
open Go.ChangeShapes Go.WideShapes Go.ChangeAt Go.RowKit

theorem wf_bd {n : Int} (h : (Lit.int .i64 n).wf = true) : -9223372036854775808 ≤ n ∧ n ≤ 9223372036854775807 := by
  simp only [Lit.wf, IntKind.min, IntKind.max, IntKind.signed, IntKind.bits, Bool.and_eq_true, decide_eq_true_eq, if_true] at h
  omega
theorem btwR_max (r : Rul) (f t : Int) : (btwR r f t).1.length ≤ maxLen := by
  unfold btwR maxLen
  split
  · rename_i hE
    split
    · have := btwR_len r (Rul.ok hE) f t
      simp only
      omega
    · simp
  · simp

set_option maxHeartbeats 6400000 in
set_option maxRecDepth 100000 in
theorem ruleBetween_any (r : Rul) (v : Value) (f t : Int) (w : World) (hr : RulAt w r v) (hf : -9223372036854775808 ≤ f ∧ f ≤ 9223372036854775807) (ht : -9223372036854775808 ≤ t ∧ t ≤ 9223372036854775807) :
    Calls Try.prog 4 #[v, .int .i64 f, .int .i64 t] w fun e w' => e = .returned (.bool true) ∧ Below w.heap.size w w' := by
  have HR := hide hr
  obtain ⟨A, B, C, a, b, c, rfl, h1, h2, h3, h4, h5, h6⟩ := hr.ex
  unfold maxLen at h4 h5 h6
  have H1 := hide (fun w' hb => betweenP_any r _ f t w' (HR.out.below hb) hf ht)
  have H2 := hide (fun w' hb => betweenOf_any r _ f t w' (HR.out.below hb) hf ht)
  have hm := btwR_max r f t
  unfold BtwOut at H1 H2
  have HM := hide hm
  clear h1 h2 h3 hr hm
  generalize btwR r f t = X at *
  obtain ⟨L, E⟩ := X
  dsimp only at *
  go_enter Try.func4, Try.ntmps4
  go_wp2_with (first
    | (go_at_call 11; (with_reducible refine (H1.out _ (by repeat (first | exact Below.refl _ _ | refine bl_plus ?_ | refine bl_alloc ?_ _ | refine bl_drew ?_ | refine bl_drewN ?_ _))).mono ?_); rintro e w' ⟨hbl, A1, c1, rfl, hi1⟩; obtain ⟨os1, n1, rfl⟩ := below_plus hbl; have HI1 := hide hi1; clear hbl hi1)
    | (go_at_call 12; (with_reducible refine (H2.out _ (by repeat (first | exact Below.refl _ _ | refine bl_plus ?_ | refine bl_alloc ?_ _ | refine bl_drew ?_ | refine bl_drewN ?_ _))).mono ?_); rintro e w' ⟨hbl, A2, c2, rfl, hi2⟩; obtain ⟨os2, n2, rfl⟩ := below_plus hbl; have HI2 := hide hi2; have HI3 := hide (HI1.out.plus os2 n2); clear hbl hi2)
    | (go_at_call 13; (with_reducible refine (equalInts_same _ _ _ _ L _ HI3.out HI2.out HM.out).mono ?_); rintro e w' ⟨rfl, hbl⟩; obtain ⟨os3, n3, rfl⟩ := below_plus hbl; clear hbl))
  go_ret
  exact ⟨rfl, (by repeat (first | exact Below.refl _ _ | refine bl_plus ?_ | refine bl_alloc ?_ _ | refine bl_drew ?_ | refine bl_drewN ?_ _))⟩

set_option maxRecDepth 100000 in
theorem ruleBetween_lifted (os : Os) (started : os.Started) (H : Type) (enc : TypeId × Value → H) :
    ReturnsInHanded {} Try.checked os 4 .any (Rows.ruleBetweenSpec.pre6 enc Try.prog Try.f4 [] false) (Rows.ruleBetweenSpec.post enc Try.prog Try.f4 false true false false) := by
  refine law_lifted started (by kernel_rfl) Try.func4 rfl (by kernel_rfl) Try.underlying4 (fun t ht => ?_) (fun ds hds => ?_)
    (ChangeSpec.witness6 (enc := enc) (C := Try.checked) false ⟨#[], #[.agg #[.int .i64 0, .int .i64 0, .int .i64 0, .int .i64 0, .int .i64 0, .slice none 0 0, .slice none 0 0, .int .i64 0, .slice none 0 0], .int .i64 0, .int .i64 0], []⟩ 8 (by kernel_rfl) (by kernel_rfl) (by kernel_rfl) (by kernel_rfl)) ?_
  · rw [Try.params4] at ht
    simp only [List.mem_cons, List.not_mem_nil, or_false] at ht
    rcases ht with rfl | rfl | rfl
    · exact ⟨by kernel_rfl, of_decide_eq_true (by kernel_rfl)⟩
    · exact ⟨by kernel_rfl, of_decide_eq_true (by kernel_rfl)⟩
    · exact ⟨by kernel_rfl, of_decide_eq_true (by kernel_rfl)⟩
  · rw [Try.params4] at hds
    match ds, hds with
    | [d1, d2, d3], _ => rfl
  · intro W b0 args ds p hval hA hlt hsz
    rw [Try.params4] at hA hval
    obtain ⟨v0, v1, v2, d0, d1, d2, p0, p1, p2, rfl, rfl, rfl, h0, h1, h2⟩ := trodAll_three hA
    obtain ⟨r, hr⟩ := open_rule (hval 0 _ v0 rfl rfl) h0
    obtain ⟨f, rfl, rfl, rfl, wf⟩ := open_int Try.underlying3 (hval 1 _ v1 rfl rfl) h1
    obtain ⟨t, rfl, rfl, rfl, wt⟩ := open_int Try.underlying3 (hval 2 _ v2 rfl rfl) h2
    exact ruleBetween_any r v0 f t W hr (wf_bd wf) (wf_bd wt)

set_option maxRecDepth 100000 in
theorem ruleBetween_holds : Rows.RuleBetweenSaid :=
  OpenClaim.holds_of_wide 4 Try.f4 rfl rfl rfl rfl rfl rfl rfl ⟨rfl, rfl, rfl, rfl, rfl⟩ rfl rfl rfl rfl rfl (by kernel_rfl) Try.func4 (by kernel_rfl)
    (of_decide_eq_true (by kernel_rfl)) (by unfold Func.isWrapper; first | (rw [if_pos (by decide +kernel)]; kernel_rfl) | (rw [if_neg (by decide +kernel)]; exact ⟨rfl, rfl⟩))
    (fun os started H enc _ => ruleBetween_lifted os started H enc)

#print axioms ruleBetween_holds
end Go.Proofs.Ytpbkidjbbhkjnaa
