/-
  PROVED: CardJoins returns true for every two lists of states, and turns nothing: Join computes what the reference's does. No condition.
-/
import Derived.Test.YtokghdcfbbogdaaRows
import Derived.Test.YtokghdcfbbogdaaJoinE
import Derived.Test.YtokghdcfbbogdaaOpenc
namespace Go.Proofs.Ytokghdcfbbogdaa
open Go.ChangeShapes Go.WideShapes Go.ChangeAt Go.Deep Go.RowKit

set_option maxHeartbeats 3200000 in
set_option maxRecDepth 100000 in
theorem joinF_bada (A B : Option Addr) (c c2 : Nat) (xs bs : List St) (w : World) (hA : StsAt w A xs) (h : statesErr xs ≠ 0) :
    Calls Try.prog 39 #[.slice A xs.length c, .slice B bs.length c2] w (JoinOut (join xs bs) w) := by
  have hR : join xs bs = ([], statesErr xs) := by unfold join; rw [if_neg h]
  rw [hR]
  have hck := fun w h => checkStates_any A c xs w h
  generalize statesErr xs = r at hck h ⊢
  have hr : (r == 0) = false := by simp [h]
  have H1 := hide hck
  have HA := hide hA
  clear hck h hA hR
  go_enter Try.func39, Try.ntmps39
  go_wp2
  refine wp_loop_rounds 1 ?_
  rw [rounds_succ]
  go_wp2_with (go_at_call 48; refine (H1.out _ (HA.out.alloc _)).mono ?_; rintro e w' ⟨rfl, hb⟩; obtain ⟨os1, n1, rfl⟩ := below_plus hb; clear hb)
  go_returns
  exact joinOut_err (by repeat (first | exact Below.refl _ _ | refine bl_plus ?_ | refine bl_alloc ?_ _ | refine bl_drew ?_))

set_option maxHeartbeats 3200000 in
set_option maxRecDepth 100000 in
theorem joinF_badb (A B : Option Addr) (c c2 : Nat) (xs bs : List St) (w : World) (hA : StsAt w A xs) (hB : StsAt w B bs) (ha : statesErr xs = 0) (h : statesErr bs ≠ 0) :
    Calls Try.prog 39 #[.slice A xs.length c, .slice B bs.length c2] w (JoinOut (join xs bs) w) := by
  have hR : join xs bs = ([], statesErr bs) := by unfold join; rw [if_pos ha, if_neg h]
  rw [hR]
  have hck := fun w h => checkStates_any A c xs w h
  have hck2 := fun w h => checkStates_any B c2 bs w h
  rw [ha] at hck
  generalize statesErr bs = r at hck2 h ⊢
  have hr : (r == 0) = false := by simp [h]
  have H1 := hide hck
  have H2 := hide hck2
  have HA := hide hA
  have HB := hide hB
  clear hck hck2 h hA hB hR ha
  go_enter Try.func39, Try.ntmps39
  go_wp2
  refine wp_loop_rounds 2 ?_
  rw [rounds_succ]
  go_wp2_with (go_at_call 48; refine (H1.out _ (HA.out.alloc _)).mono ?_; rintro e w' ⟨rfl, hb⟩; obtain ⟨os1, n1, rfl⟩ := below_plus hb; clear hb)
  rw [rounds_succ]
  go_wp2_with (go_at_call 48; refine (H2.out _ ((HB.out.alloc _).plus _ _)).mono ?_; rintro e w' ⟨rfl, hb⟩; obtain ⟨os2, n2, rfl⟩ := below_plus hb; clear hb)
  go_returns
  exact joinOut_err (by repeat (first | exact Below.refl _ _ | refine bl_plus ?_ | refine bl_alloc ?_ _ | refine bl_drew ?_))

theorem joinF_any (A B : Option Addr) (c c2 : Nat) (xs bs : List St) (w : World) (hA : StsAt w A xs) (hB : StsAt w B bs) :
    Calls Try.prog 39 #[.slice A xs.length c, .slice B bs.length c2] w (JoinOut (join xs bs) w) := by
  by_cases ha : statesErr xs = 0
  · by_cases hb : statesErr bs = 0
    · have hR : join xs bs = joinR (joinGo xs bs) := by unfold join; rw [if_pos ha, if_pos hb]
      rw [hR]; exact joinF_ok A B c c2 xs bs w hA hB ha hb
    · exact joinF_badb A B c c2 xs bs w hA hB ha hb
  · exact joinF_bada A B c c2 xs bs w hA ha

set_option maxHeartbeats 3200000 in
set_option maxRecDepth 100000 in
theorem joinOf_bada (A B : Option Addr) (c c2 : Nat) (xs bs : List St) (w : World) (hA : StsAt w A xs) (h : statesErr xs ≠ 0) :
    Calls Try.prog 40 #[.slice A xs.length c, .slice B bs.length c2] w (JoinOut (join xs bs) w) := by
  have hR : join xs bs = ([], statesErr xs) := by unfold join; rw [if_neg h]
  rw [hR]
  have hck := fun w h => statesFault_any A c xs w h
  generalize statesErr xs = r at hck h ⊢
  have hr : (r == 0) = false := by simp [h]
  have H1 := hide hck
  have HA := hide hA
  clear hck h hA hR
  go_enter Try.func40, Try.ntmps40
  go_wp2
  refine wp_loop_rounds 1 ?_
  rw [rounds_succ]
  go_wp2_with (go_at_call 49; refine (H1.out _ (HA.out.alloc _)).mono ?_; rintro e w' ⟨rfl, hb⟩; obtain ⟨os1, n1, rfl⟩ := below_plus hb; clear hb)
  go_returns
  exact joinOut_err (by repeat (first | exact Below.refl _ _ | refine bl_plus ?_ | refine bl_alloc ?_ _ | refine bl_drew ?_))

set_option maxHeartbeats 3200000 in
set_option maxRecDepth 100000 in
theorem joinOf_badb (A B : Option Addr) (c c2 : Nat) (xs bs : List St) (w : World) (hA : StsAt w A xs) (hB : StsAt w B bs) (ha : statesErr xs = 0) (h : statesErr bs ≠ 0) :
    Calls Try.prog 40 #[.slice A xs.length c, .slice B bs.length c2] w (JoinOut (join xs bs) w) := by
  have hR : join xs bs = ([], statesErr bs) := by unfold join; rw [if_pos ha, if_neg h]
  rw [hR]
  have hck := fun w h => statesFault_any A c xs w h
  have hck2 := fun w h => statesFault_any B c2 bs w h
  rw [ha] at hck
  generalize statesErr bs = r at hck2 h ⊢
  have hr : (r == 0) = false := by simp [h]
  have H1 := hide hck
  have H2 := hide hck2
  have HA := hide hA
  have HB := hide hB
  clear hck hck2 h hA hB hR ha
  go_enter Try.func40, Try.ntmps40
  go_wp2
  refine wp_loop_rounds 2 ?_
  rw [rounds_succ]
  go_wp2_with (go_at_call 49; refine (H1.out _ (HA.out.alloc _)).mono ?_; rintro e w' ⟨rfl, hb⟩; obtain ⟨os1, n1, rfl⟩ := below_plus hb; clear hb)
  rw [rounds_succ]
  go_wp2_with (go_at_call 49; refine (H2.out _ ((HB.out.alloc _).plus _ _)).mono ?_; rintro e w' ⟨rfl, hb⟩; obtain ⟨os2, n2, rfl⟩ := below_plus hb; clear hb)
  go_returns
  exact joinOut_err (by repeat (first | exact Below.refl _ _ | refine bl_plus ?_ | refine bl_alloc ?_ _ | refine bl_drew ?_))

theorem joinOf_any (A B : Option Addr) (c c2 : Nat) (xs bs : List St) (w : World) (hA : StsAt w A xs) (hnil : A = none → xs = [] ∧ c = 0) (hB : StsAt w B bs) :
    Calls Try.prog 40 #[.slice A xs.length c, .slice B bs.length c2] w (JoinOut (join xs bs) w) := by
  by_cases ha : statesErr xs = 0
  · by_cases hb : statesErr bs = 0
    · have hR : join xs bs = joinR (joinGo xs bs) := by unfold join; rw [if_pos ha, if_pos hb]
      rw [hR]; exact joinOf_ok A B c c2 xs bs w hA hnil hB ha hb
    · exact joinOf_badb A B c c2 xs bs w hA hB ha hb
  · exact joinOf_bada A B c c2 xs bs w hA ha

theorem join_len (xs bs : List St) : (join xs bs).1.length ≤ maxLen := by
  unfold join joinR
  split
  · split
    · split
      · simp [maxLen]
      · have := sortSt_len (joinGo xs bs)
        simp only []
        unfold maxLen; omega
    · simp [maxLen]
  · simp [maxLen]

set_option maxHeartbeats 3200000 in
set_option maxRecDepth 100000 in
theorem cardJoins_any (A B : Option Addr) (c c2 : Nat) (xs bs : List St) (w : World) (hA : StsAt w A xs) (hnil : A = none → xs = [] ∧ c = 0) (hB : StsAt w B bs) :
    Calls Try.prog 9 #[.slice A xs.length c, .slice B bs.length c2] w fun e w' => e = .returned (.bool true) ∧ Below w.heap.size w w' := by
  have h1 := fun w h h' => joinF_any A B c c2 xs bs w h h'
  have h2 := fun w h h' => joinOf_any A B c c2 xs bs w h hnil h'
  have hl := join_len xs bs
  generalize join xs bs = q at h1 h2 hl
  obtain ⟨l1, r⟩ := q
  simp only at hl
  have H1 := hide h1
  have H2 := hide h2
  have HL1 := hide hl
  have HA := hide hA
  have HB := hide hB
  clear h1 h2 hl hA hB hnil
  go_enter Try.func9, Try.ntmps9
  go_wp2_with (first
    | (go_at_call 39; refine (H1.out _ HA.out HB.out).mono ?_; rintro e w' ⟨A3, c3, rfl, hS, hb⟩; obtain ⟨os1, n1, rfl⟩ := below_plus hb; clear hb; have HS1 := hide hS; clear hS)
    | (go_at_call 40; refine (H2.out _ (HA.out.below (by repeat (first | exact Below.refl _ _ | refine bl_plus ?_ | refine bl_alloc ?_ _ | refine bl_drew ?_))) (HB.out.below (by repeat (first | exact Below.refl _ _ | refine bl_plus ?_ | refine bl_alloc ?_ _ | refine bl_drew ?_)))).mono ?_; rintro e w' ⟨A4, c4, rfl, hS, hb⟩; obtain ⟨os2, n2, rfl⟩ := below_plus hb; clear hb; have HS2 := hide hS; clear hS)
    | (go_at_call 24; refine (equalSts_same _ _ _ _ _ _ (HS1.out.below (by repeat (first | exact Below.refl _ _ | refine bl_plus ?_ | refine bl_alloc ?_ _ | refine bl_drew ?_))) (HS2.out.below (by repeat (first | exact Below.refl _ _ | refine bl_plus ?_ | refine bl_alloc ?_ _ | refine bl_drew ?_))) HL1.out).mono ?_; rintro e w' ⟨rfl, hb⟩; obtain ⟨os3, n3, rfl⟩ := below_plus hb; clear hb))
  go_ret
  exact ⟨rfl, (by repeat (first | exact Below.refl _ _ | refine bl_plus ?_ | refine bl_alloc ?_ _ | refine bl_drew ?_))⟩

set_option maxRecDepth 100000 in
theorem cardJoins_lifted (os : Os) (started : os.Started) (H : Type) (enc : TypeId × Value → H) :
    ReturnsInHanded {} Try.checked os 9 .any (Rows.cardJoinsSpec.pre6 enc Try.prog Try.f9 [] false) (Rows.cardJoinsSpec.post enc Try.prog Try.f9 false true false false) := by
  refine law_lifted started (by kernel_rfl) Try.func9 rfl (by kernel_rfl) Try.underlying4 (fun t ht => ?_) (fun ds hds => ?_)
    (ChangeSpec.witness6 (enc := enc) (C := Try.checked) false ⟨#[], #[.slice none 0 0, .slice none 0 0], []⟩ 8 (by kernel_rfl) (by kernel_rfl) (by kernel_rfl) (by kernel_rfl)) ?_
  · rw [Try.params9] at ht
    simp only [List.mem_cons, List.not_mem_nil, or_false] at ht
    rcases ht with rfl | rfl <;> exact ⟨by kernel_rfl, of_decide_eq_true (by kernel_rfl)⟩
  · rw [Try.params9] at hds
    match ds, hds with
    | [d1, d2], _ => rfl
  · intro W b0 args ds p hval hA hlt hsz
    rw [Try.params9] at hA hval
    obtain ⟨v0, v1, d0, d1, p0, p1, rfl, rfl, rfl, h0, h1⟩ := trodAll_two hA
    obtain ⟨A, xs, cap, rfl, _, _, hnil, hA'⟩ := open_states (hval 0 _ v0 rfl rfl) h0
    obtain ⟨B, bs, cap2, rfl, _, _, _, hB'⟩ := open_states (hval 1 _ v1 rfl rfl) h1
    exact cardJoins_any A B cap cap2 xs bs W hA' hnil hB'

theorem cardJoins_holds : Rows.CardJoinsSaid :=
  OpenClaim.holds_of_wide 9 Try.f9 rfl rfl rfl rfl rfl rfl rfl ⟨rfl, rfl, rfl, rfl, rfl⟩ rfl rfl rfl rfl rfl (by kernel_rfl) Try.func9 (by kernel_rfl)
    (of_decide_eq_true (by kernel_rfl)) (by unfold Func.isWrapper; first | (rw [if_pos (by decide +kernel)]; kernel_rfl) | (rw [if_neg (by decide +kernel)]; exact ⟨rfl, rfl⟩))
    (fun os started H enc _ => cardJoins_lifted os started H enc)

#print axioms cardJoins_holds
end Go.Proofs.Ytokghdcfbbogdaa
