/-
  PROVED: CardAsks returns true for every list of states, list of reviews, day and bounds, and turns nothing: Due and Today compute what the reference's do. No condition.
-/
import Derived.Test.YtokghdcfbbogdaaRows
import Derived.Test.YtokghdcfbbogdaaTodayE
import Derived.Test.YtokghdcfbbogdaaRow
import Derived.Test.YtokghdcfbbogdaaOpenb
import Derived.Test.YtokghdcfbbogdaaOpenc
import Derived.Test.YtokghdcfbbogdaaReplays
namespace Go.Proofs.Ytokghdcfbbogdaa
open Go.ChangeShapes Go.WideShapes Go.ChangeAt Go.Deep Go.RowKit

theorem dueR_len (xs : List St) (d : Int) : (dueR xs d).1.length ≤ maxLen := by
  unfold dueR
  split
  · rename_i h
    have hl := len_of_statesErr (onErr_zero h).1
    have := dueList_le xs d
    unfold maxLen; simp only []; omega
  · simp [maxLen]
theorem todayR_len (xs : List St) (rs : List Rv) (d bn ba : Int) : (todayR xs rs d bn ba).1.length ≤ maxLen := by
  unfold todayR
  split
  · rename_i h
    have hl := len_of_statesErr (onErr_zero h).1
    split
    · split
      · simp [maxLen]
      · have := tdTo_len xs d (cntFirst rs d rs.length) (cntAll rs d rs.length) bn ba xs.length
        unfold todayList maxLen; simp only []; omega
    · simp [maxLen]
  · simp [maxLen]

set_option maxHeartbeats 3200000 in
set_option maxRecDepth 100000 in
theorem cardAsks_any (A B : Option Addr) (c c2 : Nat) (xs : List St) (rs : List Rv) (d bn ba : Int) (w : World) (hA : StsAt w A xs) (hB : RvsAt w B rs) :
    Calls Try.prog 6 #[.slice A xs.length c, .slice B rs.length c2, .int .i64 d, .agg #[.int .i64 bn, .int .i64 ba]] w fun e w' => e = .returned (.bool true) ∧ Below w.heap.size w w' := by
  have h1 := fun w h => dueF_any A c xs d w h
  have h2 := fun w h => dueOf_any A c xs d w h
  have h3 := fun w h h' => todayF_any A B c c2 xs rs d bn ba w h h'
  have h4 := fun w h h' => todayOf_any A B c c2 xs rs d bn ba w h h'
  have hl1 := dueR_len xs d
  have hl2 := todayR_len xs rs d bn ba
  generalize dueR xs d = q1 at h1 h2 hl1
  generalize todayR xs rs d bn ba = q2 at h3 h4 hl2
  obtain ⟨l1, r1⟩ := q1
  obtain ⟨l2, r2⟩ := q2
  simp only at hl1 hl2
  have H1 := hide h1
  have H2 := hide h2
  have H3 := hide h3
  have H4 := hide h4
  have HL1 := hide hl1
  have HL2 := hide hl2
  have HA := hide hA
  have HB := hide hB
  clear h1 h2 h3 h4 hl1 hl2 hA hB
  go_enter Try.func6, Try.ntmps6
  go_wp2_with (first
    | (go_at_call 25; refine (H1.out _ (HA.out.alloc _)).mono ?_; rintro e w' ⟨A1, c1, rfl, _, hI, hb⟩; obtain ⟨os1, n1, rfl⟩ := below_plus hb; clear hb; have HI1 := hide hI; clear hI)
    | (go_at_call 26; refine (H2.out _ ((HA.out.alloc _).plus _ _)).mono ?_; rintro e w' ⟨A2, c2, rfl, _, hI, hb⟩; obtain ⟨os2, n2, rfl⟩ := below_plus hb; clear hb; have HI2 := hide hI; clear hI)
    | (go_at_call 27; refine (H3.out _ (((HA.out.alloc _).plus _ _).plus _ _) (((HB.out.alloc _).plus _ _).plus _ _)).mono ?_; rintro e w' ⟨A3, c3, rfl, _, hI, hb⟩; obtain ⟨os3, n3, rfl⟩ := below_plus hb; clear hb; have HI3 := hide hI; clear hI)
    | (go_at_call 28; refine (H4.out _ ((((HA.out.alloc _).plus _ _).plus _ _).plus _ _) ((((HB.out.alloc _).plus _ _).plus _ _).plus _ _)).mono ?_; rintro e w' ⟨A4, c4, rfl, _, hI, hb⟩; obtain ⟨os4, n4, rfl⟩ := below_plus hb; clear hb; have HI4 := hide hI; clear hI)
    | (go_at_call_of 19 (Value.slice A1 l1.length c1); refine (equalInts_same _ _ _ _ _ _ (((HI1.out.plus _ _).plus _ _).plus _ _) ((HI2.out.plus _ _).plus _ _) HL1.out).mono ?_; rintro e w' ⟨rfl, hb⟩; obtain ⟨os9, n9, rfl⟩ := below_plus hb; clear hb)
    | (go_at_call_of 19 (Value.slice A3 l2.length c3); refine (equalInts_same _ _ _ _ _ _ ((HI3.out.plus _ _).plus _ _) (HI4.out.plus _ _) HL2.out).mono ?_; rintro e w' ⟨rfl, hb⟩; obtain ⟨os10, n10, rfl⟩ := below_plus hb; clear hb))
  go_ret
  exact ⟨rfl, by repeat (first | exact Below.refl _ _ | refine bl_plus ?_ | refine bl_alloc ?_ _ | refine bl_drew ?_)⟩

section
variable {H : Type} {enc : TypeId × Value → H} {w : World} {base : Nat} {spare : Nat → Bool} {held : Bool}
set_option maxRecDepth 100000 in
/-- Bounds that come in by value. -/
theorem open_bounds {v : Value} {d : DataW H} {ps : List MemPlace} {r : Reach} {b0 : Nat} (hv : Value.okWide Try.prog w r b0 43 v) (h : DataW.Trod enc Try.prog w base spare held 43 v d ps) : ∃ a b : Int, v = .agg #[.int .i64 a, .int .i64 b] := by
  obtain ⟨cs, rfl, hsz⟩ := okWide_struct Try.underlying43 hv
  obtain ⟨fuel, hf⟩ := h
  have hone := open_int_agg Try.underlying43 (by kernel_rfl) (by kernel_rfl) (K := 2) rfl (by kernel_rfl) hf hsz
  obtain ⟨l⟩ := cs
  obtain ⟨ns, hl, hns⟩ := hone
  simp only at hl
  subst hl
  match ns, hns with
  | [a0, a1], _ => exact ⟨a0, a1, rfl⟩
end

set_option maxRecDepth 100000 in
theorem cardAsks_lifted (os : Os) (started : os.Started) (H : Type) (enc : TypeId × Value → H) :
    ReturnsInHanded {} Try.checked os 6 .any (Rows.cardAsksSpec.pre6 enc Try.prog Try.f6 [] false) (Rows.cardAsksSpec.post enc Try.prog Try.f6 false true false false) := by
  refine law_lifted started (by kernel_rfl) Try.func6 rfl (by kernel_rfl) Try.underlying4 (fun t ht => ?_) (fun ds hds => ?_)
    (ChangeSpec.witness6 (enc := enc) (C := Try.checked) false ⟨#[], #[.slice none 0 0, .slice none 0 0, .int .i64 0, .agg #[.int .i64 0, .int .i64 0]], []⟩ 8 (by kernel_rfl) (by kernel_rfl) (by kernel_rfl) (by kernel_rfl)) ?_
  · rw [Try.params6] at ht
    simp only [List.mem_cons, List.not_mem_nil, or_false] at ht
    rcases ht with rfl | rfl | rfl | rfl <;> exact ⟨by kernel_rfl, of_decide_eq_true (by kernel_rfl)⟩
  · rw [Try.params6] at hds
    match ds, hds with
    | [d1, d2, d3, d4], _ => rfl
  · intro W b0 args ds p hval hA hlt hsz
    rw [Try.params6] at hA hval
    obtain ⟨v0, v1, v2, v3, d0, d1, d2, d3, p0, p1, p2, p3, rfl, rfl, rfl, h0, h1, h2, h3⟩ := trodAll_four hA
    obtain ⟨A, xs, cap, rfl, hle, hm, _, hA'⟩ := open_states (hval 0 _ v0 rfl rfl) h0
    obtain ⟨B, rs, cap2, rfl, _, _, _, hB'⟩ := open_reviews (hval 1 _ v1 rfl rfl) h1
    obtain ⟨a, rfl, rfl, rfl, wa⟩ := open_int Try.underlying3 (hval 2 _ v2 rfl rfl) h2
    obtain ⟨bn, ba, rfl⟩ := open_bounds (hval 3 _ v3 rfl rfl) h3
    exact cardAsks_any A B cap cap2 xs rs a bn ba W hA' hB'

theorem cardAsks_holds : Rows.CardAsksSaid :=
  OpenClaim.holds_of_wide 6 Try.f6 rfl rfl rfl rfl rfl rfl rfl ⟨rfl, rfl, rfl, rfl, rfl⟩ rfl rfl rfl rfl rfl (by kernel_rfl) Try.func6 (by kernel_rfl)
    (of_decide_eq_true (by kernel_rfl)) (by unfold Func.isWrapper; first | (rw [if_pos (by decide +kernel)]; kernel_rfl) | (rw [if_neg (by decide +kernel)]; exact ⟨rfl, rfl⟩))
    (fun os started H enc _ => cardAsks_lifted os started H enc)

#print axioms cardAsks_holds
end Go.Proofs.Ytokghdcfbbogdaa
