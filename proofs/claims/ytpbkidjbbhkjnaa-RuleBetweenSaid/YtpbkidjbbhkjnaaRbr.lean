/-
  WALKS: the reference's Between.
-/
import Derived.Test.YtpbkidjbbhkjnaaRbp
import Derived.Test.YtpbkidjbbhkjnaaRdf
namespace Go.Proofs.Ytpbkidjbbhkjnaa
open Go.RowKit Cal

theorem keep_btw (r : Rul) (f t : Int) : keepF f (upTo r t) = inFT f t r.occ := by
  unfold keepF upTo inFT
  rw [List.filter_filter]
  apply List.filter_congr
  intro x _
  rw [Bool.eq_iff_iff]
  simp
set_option maxHeartbeats 3200000 in
set_option maxRecDepth 100000 in
theorem betweenOf_any (r : Rul) (v : Value) (f t : Int) (w : World) (hr : RulAt w r v) (hf : -9223372036854775808 ≤ f ∧ f ≤ 9223372036854775807) (ht : -9223372036854775808 ≤ t ∧ t ≤ 9223372036854775807) :
    Calls Try.prog 12 #[v, .int .i64 f, .int .i64 t] w (BtwOut r f t w) := by
  have HR := hide hr
  obtain ⟨A, B, C, a, b, c, rfl, h1, h2, h3, h4, h5, h6⟩ := hr.ex
  unfold maxLen at h4 h5 h6
  have HCK := hide (fun w' hb => ruleFault_any r _ w' (HR.out.below hb))
  have HCF := hide (fun w => spanFault_any f t w hf ht)
  have HPO : Hid (∀ A c w', IntsAt w' A (btwR r f t).1 → Below w.heap.size w w' → BtwOut r f t w (.returned (.tuple #[.slice A (btwR r f t).1.length c, .int .i64 (btwR r f t).2])) w') := hide (fun A c w' hi hb => ⟨hb, A, c, rfl, hi⟩)
  generalize BtwOut r f t w = PO at *
  unfold btwR at HPO
  clear h1 h2 h3 hr
  by_cases hE : r.err = 0
  · rw [if_pos hE] at HPO
    have hok := Rul.ok hE
    rw [hE] at HCK
    clear hE
    by_cases hS : spanErr f t = 0
    · have hft : 0 ≤ t ∧ t ≤ 100000 := by
        unfold spanErr at hS
        split at hS
        · cases hS
        · omega
      have HOC := hide (fun w' hb => occurrencesR_any r hok _ t w' (HR.out.below hb) (by omega) hft.2)
      have hlen := upTo_len r hok t
      rw [if_pos hS] at HPO
      rw [hS] at HCF
      rw [← keep_btw] at HPO
      clear hS hok hft
      dsimp only at HPO
      generalize upTo r t = L at *
      go_enter Try.func12, Try.ntmps12
      go_wp2_with (first | (go_at_call 31; (with_reducible refine (HCK.out _ (by repeat (first | exact Below.refl _ _ | refine bl_plus ?_ | refine bl_alloc ?_ _ | refine bl_drew ?_ | refine bl_drewN ?_ _))).mono ?_); rintro e w' ⟨rfl, hbl⟩; obtain ⟨os1, n1, rfl⟩ := below_plus hbl; clear hbl) | (go_at_call 32; (with_reducible refine (HCF.out _).mono ?_); rintro e w' ⟨rfl, hbl⟩; obtain ⟨os2, n2, rfl⟩ := below_plus hbl; clear hbl) | (go_at_call 34; (with_reducible refine (HOC.out _ (by repeat (first | exact Below.refl _ _ | refine bl_plus ?_ | refine bl_alloc ?_ _ | refine bl_drew ?_ | refine bl_drewN ?_ _))).mono ?_); rintro e w' ⟨hbl, A1, c1, rfl, hown⟩; have HOW := hide hown; obtain ⟨os3, n3, rfl⟩ := below_plus hbl; clear hbl hown) | (go_at_call 33; refine (deleteOwn_any _ (w.heap.size + 1) _ _ L f _ HOW.out (by simp only [plus_size, World.size_alloc]; omega) (by omega) (by simp [go_sem])).mono ?_; rintro e w' ⟨⟨A2, c2, rfl, hin⟩, hbl⟩; have HIN := hide hin; have HBL := hide hbl; clear hin hbl))
      exact HPO.out _ _ _ HIN.out (Below.trans (by repeat (first | exact Below.refl _ _ | refine bl_plus ?_ | refine bl_alloc ?_ _ | refine bl_drew ?_ | refine bl_drewN ?_ _)) (HBL.out.mono (by simp only [plus_size, World.size_alloc]; omega)))
    · rw [if_neg hS] at HPO
      dsimp only at HPO
      generalize spanErr f t = X at *
      have hX : (X == 0) = false := by simp [hS]
      have hX2 : (X != 0) = true := by rw [bne, hX]; rfl
      clear hS hok
      go_enter Try.func12, Try.ntmps12
      go_wp2_with (first | (go_at_call 31; (with_reducible refine (HCK.out _ (by repeat (first | exact Below.refl _ _ | refine bl_plus ?_ | refine bl_alloc ?_ _ | refine bl_drew ?_ | refine bl_drewN ?_ _))).mono ?_); rintro e w' ⟨rfl, hbl⟩; obtain ⟨os1, n1, rfl⟩ := below_plus hbl; clear hbl) | (go_at_call 32; (with_reducible refine (HCF.out _).mono ?_); rintro e w' ⟨rfl, hbl⟩; obtain ⟨os2, n2, rfl⟩ := below_plus hbl; clear hbl))
      exact HPO.out none 0 _ IntsAt.nil (by repeat (first | exact Below.refl _ _ | refine bl_plus ?_ | refine bl_alloc ?_ _ | refine bl_drew ?_ | refine bl_drewN ?_ _))
  · rw [if_neg hE] at HPO
    dsimp only at HPO
    generalize r.err = X at *
    have hX : (X == 0) = false := by simp [hE]
    have hX2 : (X != 0) = true := by rw [bne, hX]; rfl
    clear hE
    go_enter Try.func12, Try.ntmps12
    go_wp2_with (first | (go_at_call 31; (with_reducible refine (HCK.out _ (by repeat (first | exact Below.refl _ _ | refine bl_plus ?_ | refine bl_alloc ?_ _ | refine bl_drew ?_ | refine bl_drewN ?_ _))).mono ?_); rintro e w' ⟨rfl, hbl⟩; obtain ⟨os1, n1, rfl⟩ := below_plus hbl; clear hbl))
    exact HPO.out none 0 _ IntsAt.nil (by repeat (first | exact Below.refl _ _ | refine bl_plus ?_ | refine bl_alloc ?_ _ | refine bl_drew ?_ | refine bl_drewN ?_ _))

end Go.Proofs.Ytpbkidjbbhkjnaa
