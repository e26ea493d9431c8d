/-
  PROVED: CardCounts returns true for every list of states, list of reviews, day, number of days and number of lapses, and turns nothing: Loads, Leeches, Counts and Kept compute what the reference's do. No condition.
-/
import Derived.Test.YtokghdcfbbogdaaRows
import Derived.Test.YtokghdcfbbogdaaLoadsW
import Derived.Test.YtokghdcfbbogdaaWalkT
import Derived.Test.YtokghdcfbbogdaaWalkU
import Derived.Test.YtokghdcfbbogdaaTrod
import Derived.Test.YtokghdcfbbogdaaOpenc
import Derived.Test.YtokghdcfbbogdaaReplays
namespace Go.Proofs.Ytokghdcfbbogdaa
open Go.ChangeShapes Go.WideShapes Go.ChangeAt Go.Deep Go.RowKit

theorem loads_len (xs : List St) (fr d : Int) : (loads xs fr d).1.length ≤ maxLen := by
  unfold loads
  split
  · split
    · simp [maxLen]
    · simp only [tally_len]; unfold maxLen; omega
  · simp [maxLen]
theorem leeches_len (xs : List St) (m : Int) : (leeches xs m).1.length ≤ maxLen := by
  unfold leeches
  split
  · rename_i h
    have hl := len_of_statesErr h
    split
    · simp [maxLen]
    · have := pick_le (fun x => decide (m ≤ x.lp)) xs xs.length
      simp only []; unfold maxLen; omega
  · simp [maxLen]
theorem run_eql_cnt (a b c d e : Int) (w : World) : (binOp .eql 49 (.agg #[.int .i64 a, .int .i64 b, .int .i64 c, .int .i64 d, .int .i64 e]) (.agg #[.int .i64 a, .int .i64 b, .int .i64 c, .int .i64 d, .int .i64 e])).run Try.prog w = .ok (.bool true) w := by
  simp [go_sem]
attribute [local go_sem ↓] run_eql_cnt

set_option maxHeartbeats 3200000 in
set_option maxRecDepth 100000 in
theorem cardCounts_any (A B : Option Addr) (c c2 : Nat) (xs : List St) (rs : List Rv) (fr d lp : Int) (w : World) (hA : StsAt w A xs) (hB : RvsAt w B rs) :
    Calls Try.prog 7 #[.slice A xs.length c, .slice B rs.length c2, .int .i64 fr, .int .i64 d, .int .i64 lp] w fun e w' => e = .returned (.bool true) ∧ Below w.heap.size w w' := by
  have h1 := fun w h => loads_any A c xs fr d w h
  have h2 := fun w h => loadsOf_any A c xs fr d w h
  have h3 := fun w h => leeches_any A c xs lp w h
  have h4 := fun w h => leechesOf_any A c xs lp w h
  have h5 := fun w h => counts_any A c xs fr w h
  have h6 := fun w h => countsOf_any A c xs fr w h
  have h7 := fun w h => kept_any B c2 rs fr d w h
  have h8 := fun w h => keptOf_any B c2 rs fr d w h
  have hl1 := loads_len xs fr d
  have hl2 := leeches_len xs lp
  generalize loads xs fr d = q1 at h1 h2 hl1
  generalize leeches xs lp = q2 at h3 h4 hl2
  generalize counts xs fr = q3 at h5 h6
  generalize kept fr d rs = q4 at h7 h8
  obtain ⟨l1, r1⟩ := q1
  obtain ⟨l2, r2⟩ := q2
  obtain ⟨⟨n0, n1, n2, n3, n4⟩, r3⟩ := q3
  obtain ⟨k1, k2, r4⟩ := q4
  simp only [countVal] at h5 h6 hl1 hl2 h7 h8
  have H1 := hide h1
  have H2 := hide h2
  have H3 := hide h3
  have H4 := hide h4
  have H5 := hide h5
  have H6 := hide h6
  have H7 := hide h7
  have H8 := hide h8
  have HL1 := hide hl1
  have HL2 := hide hl2
  have HA := hide hA
  have HB := hide hB
  clear h1 h2 h3 h4 h5 h6 h7 h8 hl1 hl2 hA hB
  go_enter Try.func7, Try.ntmps7
  go_wp2_with (first
    | (go_at_call 29; refine (H1.out _ HA.out).mono ?_; rintro e w' ⟨A1, c1, rfl, _, hI, hb⟩; obtain ⟨os1, n1, rfl⟩ := below_plus hb; clear hb; have HI1 := hide hI; clear hI)
    | (go_at_call 30; refine (H2.out _ (HA.out.below (by repeat (first | exact Below.refl _ _ | refine bl_plus ?_ | refine bl_alloc ?_ _ | refine bl_drew ?_)))).mono ?_; rintro e w' ⟨A2, c2, rfl, _, hI, hb⟩; obtain ⟨os2, n2, rfl⟩ := below_plus hb; clear hb; have HI2 := hide hI; clear hI)
    | (go_at_call 31; refine (H3.out _ (HA.out.below (by repeat (first | exact Below.refl _ _ | refine bl_plus ?_ | refine bl_alloc ?_ _ | refine bl_drew ?_)))).mono ?_; rintro e w' ⟨A3, c3, rfl, _, hI, hb⟩; obtain ⟨os3, n3, rfl⟩ := below_plus hb; clear hb; have HI3 := hide hI; clear hI)
    | (go_at_call 32; refine (H4.out _ (HA.out.below (by repeat (first | exact Below.refl _ _ | refine bl_plus ?_ | refine bl_alloc ?_ _ | refine bl_drew ?_)))).mono ?_; rintro e w' ⟨A4, c4, rfl, _, hI, hb⟩; obtain ⟨os4, n4, rfl⟩ := below_plus hb; clear hb; have HI4 := hide hI; clear hI)
    | (go_at_call 33; refine (H5.out _ (HA.out.below (by repeat (first | exact Below.refl _ _ | refine bl_plus ?_ | refine bl_alloc ?_ _ | refine bl_drew ?_)))).mono ?_; rintro e w' ⟨rfl, hb⟩; obtain ⟨os5, n5, rfl⟩ := below_plus hb; clear hb)
    | (go_at_call 34; refine (H6.out _ (HA.out.below (by repeat (first | exact Below.refl _ _ | refine bl_plus ?_ | refine bl_alloc ?_ _ | refine bl_drew ?_)))).mono ?_; rintro e w' ⟨rfl, hb⟩; obtain ⟨os6, n6, rfl⟩ := below_plus hb; clear hb)
    | (go_at_call 35; refine (H7.out _ ((((((((HB.out.plus _ _).plus _ _).plus _ _).plus _ _).plus _ _).alloc _).plus _ _).alloc _)).mono ?_; rintro e w' ⟨rfl, hb⟩; obtain ⟨os7, n7, rfl⟩ := below_plus hb; clear hb)
    | (go_at_call 36; refine (H8.out _ (((((((((HB.out.plus _ _).plus _ _).plus _ _).plus _ _).plus _ _).alloc _).plus _ _).alloc _).plus _ _)).mono ?_; rintro e w' ⟨rfl, hb⟩; obtain ⟨os8, n8, rfl⟩ := below_plus hb; clear hb)
    | (go_at_call_of 19 (Value.slice A1 l1.length c1); refine (equalInts_same _ _ _ _ _ _ (HI1.out.below (by repeat (first | exact Below.refl _ _ | refine bl_plus ?_ | refine bl_alloc ?_ _ | refine bl_drew ?_))) (HI2.out.below (by repeat (first | exact Below.refl _ _ | refine bl_plus ?_ | refine bl_alloc ?_ _ | refine bl_drew ?_))) HL1.out).mono ?_; rintro e w' ⟨rfl, hb⟩; obtain ⟨os9, n9, rfl⟩ := below_plus hb; clear hb)
    | (go_at_call_of 19 (Value.slice A3 l2.length c3); refine (equalInts_same _ _ _ _ _ _ (HI3.out.below (by repeat (first | exact Below.refl _ _ | refine bl_plus ?_ | refine bl_alloc ?_ _ | refine bl_drew ?_))) (HI4.out.below (by repeat (first | exact Below.refl _ _ | refine bl_plus ?_ | refine bl_alloc ?_ _ | refine bl_drew ?_))) HL2.out).mono ?_; rintro e w' ⟨rfl, hb⟩; obtain ⟨os10, n10, rfl⟩ := below_plus hb; clear hb))
  go_ret
  exact ⟨rfl, by repeat (first | exact Below.refl _ _ | refine bl_plus ?_ | refine bl_alloc ?_ _ | refine bl_drew ?_)⟩

set_option maxRecDepth 100000 in
theorem cardCounts_lifted (os : Os) (started : os.Started) (H : Type) (enc : TypeId × Value → H) :
    ReturnsInHanded {} Try.checked os 7 .any (Rows.cardCountsSpec.pre6 enc Try.prog Try.f7 [] false) (Rows.cardCountsSpec.post enc Try.prog Try.f7 false true false false) := by
  refine law_lifted started (by kernel_rfl) Try.func7 rfl (by kernel_rfl) Try.underlying4 (fun t ht => ?_) (fun ds hds => ?_)
    (ChangeSpec.witness6 (enc := enc) (C := Try.checked) false ⟨#[], #[.slice none 0 0, .slice none 0 0, .int .i64 0, .int .i64 0, .int .i64 0], []⟩ 8 (by kernel_rfl) (by kernel_rfl) (by kernel_rfl) (by kernel_rfl)) ?_
  · rw [Try.params7] at ht
    simp only [List.mem_cons, List.not_mem_nil, or_false] at ht
    rcases ht with rfl | rfl | rfl | rfl | rfl <;> exact ⟨by kernel_rfl, of_decide_eq_true (by kernel_rfl)⟩
  · rw [Try.params7] at hds
    match ds, hds with
    | [d1, d2, d3, d4, d5], _ => rfl
  · intro W b0 args ds p hval hA hlt hsz
    rw [Try.params7] at hA hval
    obtain ⟨v0, v1, v2, v3, v4, d0, d1, d2, d3, d4, p0, p1, p2, p3, p4, rfl, rfl, rfl, h0, h1, h2, h3, h4⟩ := trodAll_five hA
    obtain ⟨A, xs, cap, rfl, hle, hm, _, hA'⟩ := open_states (hval 0 _ v0 rfl rfl) h0
    obtain ⟨B, rs, cap2, rfl, _, _, _, hB'⟩ := open_reviews (hval 1 _ v1 rfl rfl) h1
    obtain ⟨a, rfl, rfl, rfl, wa⟩ := open_int Try.underlying3 (hval 2 _ v2 rfl rfl) h2
    obtain ⟨b, rfl, rfl, rfl, wb⟩ := open_int Try.underlying3 (hval 3 _ v3 rfl rfl) h3
    obtain ⟨c, rfl, rfl, rfl, wc⟩ := open_int Try.underlying3 (hval 4 _ v4 rfl rfl) h4
    exact cardCounts_any A B cap cap2 xs rs a b c W hA' hB'

theorem cardCounts_holds : Rows.CardCountsSaid :=
  OpenClaim.holds_of_wide 7 Try.f7 rfl rfl rfl rfl rfl rfl rfl ⟨rfl, rfl, rfl, rfl, rfl⟩ rfl rfl rfl rfl rfl (by kernel_rfl) Try.func7 (by kernel_rfl)
    (of_decide_eq_true (by kernel_rfl)) (by unfold Func.isWrapper; first | (rw [if_pos (by decide +kernel)]; kernel_rfl) | (rw [if_neg (by decide +kernel)]; exact ⟨rfl, rfl⟩))
    (fun os started H enc _ => cardCounts_lifted os started H enc)

#print axioms cardCounts_holds
end Go.Proofs.Ytokghdcfbbogdaa
