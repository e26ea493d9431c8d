/-
  WALKS: between two values, the reference's.
-/
import Derived.Test.YtfklaahakibljaaValD
namespace Go.Proofs.Ytfklaahakibljaa
open Go.RowKit

set_option maxHeartbeats 12800000 in
set_option maxRecDepth 100000 in
theorem inOf_any (v lo hi : V) (A B C : Option Addr) (a b c : Nat) (w : World) (hA : LAt w A v.l) (hB : LAt w B lo.l) (hC : LAt w C hi.l) :
    Calls Try.prog 14 #[v.arg A a, lo.arg B b, hi.arg C c] w (BoolOut (inV v lo hi) w) := by
  have H1 := hide (fun w (hA : LAt w A v.l) (hB : LAt w B lo.l) => compareR v lo A B a b w hA hB)
  have H2 := hide (fun w (hA : LAt w A v.l) (hB : LAt w C hi.l) => compareR v hi A C a c w hA hB)
  have L1 := hide (lo_cases v lo)
  have L2 := hide (hi_cases v hi)
  have N1 := hide (fun h => inV_no1 (v := v) (lo := lo) (hi := hi) h)
  have N2 := hide (fun h => inV_no2 (v := v) (lo := lo) (hi := hi) h)
  have N3 := hide (fun h h2 => inV_yes (v := v) (lo := lo) (hi := hi) h h2)
  generalize inV v lo hi = R at N1 N2 N3 ⊢
  generalize cmpV v lo = r1 at *
  generalize cmpV v hi = r2 at *
  generalize loOk v lo = P1 at *
  generalize hiOk v hi = P2 at *
  obtain ⟨vk, vi, vt, vs, vl⟩ := v
  obtain ⟨lk, li, lt, ls, ll⟩ := lo
  obtain ⟨hk, hi', ht, hs, hl⟩ := hi
  simp only [V.k, V.i, V.t, V.s, V.l, V.arg] at *
  have HA := hide hA
  have HB := hide hB
  have HC := hide hC
  clear hA hB hC
  go_enter Try.func14, Try.ntmps14
  go_wp2
  have H0 : Below w.heap.size w ((((w.alloc (.cells #[.int .i64 vk, .int .i64 vi, .int .i64 vt, .string vs, .slice A vl.length a] 24)).alloc (.cells #[.int .i64 lk, .int .i64 li, .int .i64 lt, .string ls, .slice B ll.length b] 24)).alloc (.cells #[.int .i64 hk, .int .i64 hi', .int .i64 ht, .string hs, .slice C hl.length c] 24)).alloc (.cells #[.int .i64 lk, .int .i64 li, .int .i64 lt, .string ls, .slice B ll.length b, .int .i64 hk, .int .i64 hi', .int .i64 ht, .string hs, .slice C hl.length c] 24)) := by repeat (first | exact Below.refl _ _ | refine bl_plus ?_ | refine bl_alloc ?_ _ | refine bl_drew ?_)
  go_loopw [13] (fun i wr => ∃ (k : Nat) (os : Array Obj) (n : Nat), (k = 0 ∨ (k = 1 ∧ P1) ∨ (k = 2 ∧ P1 ∧ P2)) ∧ i = .int .i64 k ∧ wr = plus ((((w.alloc (.cells #[.int .i64 vk, .int .i64 vi, .int .i64 vt, .string vs, .slice A vl.length a] 24)).alloc (.cells #[.int .i64 lk, .int .i64 li, .int .i64 lt, .string ls, .slice B ll.length b] 24)).alloc (.cells #[.int .i64 hk, .int .i64 hi', .int .i64 ht, .string hs, .slice C hl.length c] 24)).alloc (.cells #[.int .i64 lk, .int .i64 li, .int .i64 lt, .string ls, .slice B ll.length b, .int .i64 hk, .int .i64 hi', .int .i64 ht, .string hs, .slice C hl.length c] 24)) os n) (fun i _ => 2 - (intOf i).toNat)
  case atStart => exact ⟨0, #[], _, .inl rfl, rfl, plus_nil.symm⟩
  case round =>
    obtain ⟨k, os, n, hk3, rfl, rfl⟩ := hrel
    rcases hk3 with rfl | ⟨rfl, hp1⟩ | ⟨rfl, hp1, hp2⟩
    · rcases L1.out with ⟨h0, hok⟩ | ⟨⟨h0, h1⟩, ⟨h2, h3⟩, hok⟩ | ⟨⟨h0, h1⟩, ⟨h2, h3⟩, h4, hok⟩ | ⟨⟨h0, h1⟩, ⟨h2, h3⟩, h4, hok⟩
      · subst h0
        have HOK := hide hok
        clear hok
        go_wp2
        go_roundw
        case rel => exact ⟨1, _, _, .inr (.inl ⟨rfl, HOK.out⟩), by go_num, by rw [plus_alloc]⟩
        case measure => simp [intOf]
      · have hr := N1.out hok
        subst hr
        clear hok
        go_wp2
        go_ret
        exact ⟨rfl, by repeat (first | exact Below.refl _ _ | refine bl_plus ?_ | refine bl_alloc ?_ _ | refine bl_drew ?_)⟩
      · have hr := N1.out hok
        subst hr
        clear hok
        go_wp2_with (go_at_call 12; ((with_reducible refine (H1.out _ (HA.out.below (by repeat (first | exact Below.refl _ _ | refine bl_plus ?_ | refine bl_alloc ?_ _ | refine bl_drew ?_))) (HB.out.below (by repeat (first | exact Below.refl _ _ | refine bl_plus ?_ | refine bl_alloc ?_ _ | refine bl_drew ?_)))).mono ?_); rintro e w' ⟨rfl, hb⟩; obtain ⟨os1, n1, rfl⟩ := below_plus hb; clear hb))
        go_ret
        exact ⟨rfl, by repeat (first | exact Below.refl _ _ | refine bl_plus ?_ | refine bl_alloc ?_ _ | refine bl_drew ?_)⟩
      · have HOK := hide hok
        clear hok
        go_wp2_with (go_at_call 12; ((with_reducible refine (H1.out _ (HA.out.below (by repeat (first | exact Below.refl _ _ | refine bl_plus ?_ | refine bl_alloc ?_ _ | refine bl_drew ?_))) (HB.out.below (by repeat (first | exact Below.refl _ _ | refine bl_plus ?_ | refine bl_alloc ?_ _ | refine bl_drew ?_)))).mono ?_); rintro e w' ⟨rfl, hb⟩; obtain ⟨os1, n1, rfl⟩ := below_plus hb; clear hb))
        go_roundw
        case rel => exact ⟨1, _, _, .inr (.inl ⟨rfl, HOK.out⟩), by go_num, by rw [plus_alloc, plus_plus]⟩
        case measure => simp [intOf]
    · have HP1 := hide hp1
      clear hp1
      rcases L2.out with ⟨h0, hok⟩ | ⟨⟨h0, h1⟩, ⟨h2, h3⟩, hok⟩ | ⟨⟨h0, h1⟩, ⟨h2, h3⟩, h4, hok⟩ | ⟨⟨h0, h1⟩, ⟨h2, h3⟩, h4, hok⟩
      · subst h0
        have HOK := hide hok
        clear hok
        go_wp2
        go_roundw
        case rel => exact ⟨2, _, _, .inr (.inr ⟨rfl, HP1.out, HOK.out⟩), by go_num, by rw [plus_alloc]⟩
        case measure => simp [intOf]
      · have hr := N2.out hok
        subst hr
        clear hok
        go_wp2
        go_ret
        exact ⟨rfl, by repeat (first | exact Below.refl _ _ | refine bl_plus ?_ | refine bl_alloc ?_ _ | refine bl_drew ?_)⟩
      · have hr := N2.out hok
        subst hr
        clear hok
        go_wp2_with (go_at_call 12; ((with_reducible refine (H2.out _ (HA.out.below (by repeat (first | exact Below.refl _ _ | refine bl_plus ?_ | refine bl_alloc ?_ _ | refine bl_drew ?_))) (HC.out.below (by repeat (first | exact Below.refl _ _ | refine bl_plus ?_ | refine bl_alloc ?_ _ | refine bl_drew ?_)))).mono ?_); rintro e w' ⟨rfl, hb⟩; obtain ⟨os1, n1, rfl⟩ := below_plus hb; clear hb))
        go_ret
        exact ⟨rfl, by repeat (first | exact Below.refl _ _ | refine bl_plus ?_ | refine bl_alloc ?_ _ | refine bl_drew ?_)⟩
      · have HOK := hide hok
        clear hok
        go_wp2_with (go_at_call 12; ((with_reducible refine (H2.out _ (HA.out.below (by repeat (first | exact Below.refl _ _ | refine bl_plus ?_ | refine bl_alloc ?_ _ | refine bl_drew ?_))) (HC.out.below (by repeat (first | exact Below.refl _ _ | refine bl_plus ?_ | refine bl_alloc ?_ _ | refine bl_drew ?_)))).mono ?_); rintro e w' ⟨rfl, hb⟩; obtain ⟨os1, n1, rfl⟩ := below_plus hb; clear hb))
        go_roundw
        case rel => exact ⟨2, _, _, .inr (.inr ⟨rfl, HP1.out, HOK.out⟩), by go_num, by rw [plus_alloc, plus_plus]⟩
        case measure => simp [intOf]
    · have hr := N3.out hp1 hp2
      subst hr
      rw [show (((2 : Nat) : Int)) = 2 from rfl]
      clear hp1 hp2
      go_wp2
      go_ret
      exact ⟨rfl, by repeat (first | exact Below.refl _ _ | refine bl_plus ?_ | refine bl_alloc ?_ _ | refine bl_drew ?_)⟩

end Go.Proofs.Ytfklaahakibljaa
