/-
  WALK: a state that is read, in the reference.
-/
import Derived.Test.YtplmcpecffjheaaDoorRdb
namespace Go.Proofs.YtplmcpecffjheaaDoor
open Go.RowKit

theorem drew_as_plus (w : World) : w.drew = plus w #[] (w.drawn + 1) := by have := plus_drew (w := w) (os := #[]) (n := w.drawn); rwa [plus_nil] at this

set_option maxHeartbeats 3200000 in
set_option maxRecDepth 100000 in
theorem readStateOf_any (s : ByteArray) (w : World) (hm : MaxTold w)
    (hck : ∀ x w, Calls Tryd.prog 10 #[St.val x] w fun e w' => e = .returned (.int .i64 x.err) ∧ Below w.heap.size w w') :
    Calls Tryd.prog 12 #[.string s] w (ReadOut s w) := by
  have hz : readS s = readS s := rfl
  by_cases h1 : 2000 < s.size
  · have hr : readS s = (stZero, 4) := if_pos h1
    clear hck
    go_enter Tryd.func12, Tryd.ntmps12
    go_wp2
    go_returns
    unfold ReadOut
    rw [hr]
    exact ⟨rfl, by repeat (first | exact Below.refl _ _ | refine bl_plus ?_ | refine bl_alloc ?_ _ | refine bl_drew ?_)⟩
  · have hsp := fun w hm => Tryd.split_any s ⟨#[32]⟩ w hm (by omega) (by decide)
    have hwl := wordsOf_len s
    rw [← hwl] at hsp
    change ∀ w, MaxTold w → Calls Tryd.prog 20 #[.string s, .string ⟨#[32]⟩] w (fun e w' => e = .returned (.slice (some ⟨w.heap.size, 0, none⟩) (wordsOf s).length (wordsOf s).length) ∧ w' = w.alloc (.cells ((wordsOf s).map Value.string).toArray 9)) at hsp
    have HSP := hide hsp
    have HM := hide hm
    clear hsp hm hwl
    by_cases h2 : (wordsOf s).length = 9
    · have hws : ∀ k, k < 9 → ((wordsOf s).map Value.string).toArray[k]? = some (.string (wd s k)) := fun k hk => by
        have : k < (wordsOf s).length := by omega
        simp [wd, this]
      have HRB := hide (fun j (hj : j < 9) (hn : num (wd s j).data.toList = none) => show readS s = (stZero, 8) by unfold readS; rw [if_neg h1, if_neg (by simp [h2]), allNum_not hj hn]; rfl)
      have HRG := hide (fun (hall : allNum s = true) => show readS s = if (stOf s).err = 0 then (stOf s, 0) else (stZero, (stOf s).err) by unfold readS; rw [if_neg h1, if_neg (by simp [h2]), if_pos hall])
      have HWS := hide hws
      have HN9 := hide (show (((wordsOf s).map Value.string).toArray).size = 9 by simp [h2])
      clear hws
      rw [h2] at HSP
      generalize ((wordsOf s).map Value.string).toArray = ws at *
      have HPT := hide (fun k (hk : k < 9) => ptrs_at (w.heap.size + 1) hk)
      go_enter Tryd.func12, Tryd.ntmps12
      go_wp2_with (first | (go_at_call 20; refine (HSP.out _ (maxTold_below HM.out (by repeat (first | exact Below.refl _ _ | refine bl_plus ?_ | refine bl_alloc ?_ _ | refine bl_drew ?_)))).mono ?_; rintro e w' ⟨rfl, rfl⟩) | (go_at_call 15; refine (numbersOf_any _ _).mono ?_; rintro e w' ⟨rfl, rfl⟩))
      go_loopw [27] (fun i wr => ∃ (k : Nat) (os : Array Obj) (n : Nat), k ≤ 9 ∧ i = .int .i64 k ∧ Hid (∀ j, j < k → (num (wd s j).data.toList).isSome = true) ∧ wr = plus ((((w.alloc (.cells #[.int .i64 0, .int .i64 0, .int .i64 0, .int .i64 0, .int .i64 0, .int .i64 0, .int .i64 0, .int .i64 0, .int .i64 0] 23)).alloc (.cells (ints (fill (nv s) k)) 23)).alloc (.cells ws 9)).alloc (.cells (ptrs (w.heap.size + 1)) 40)) os n) (fun i _ => 9 - (intOf i).toNat)
      case atStart => exact ⟨0, #[], _, by omega, rfl, hide (fun j hj => by omega), by rw [fill_zero]; exact drew_as_plus _⟩
      case round =>
        obtain ⟨k, os, n, hk, rfl, HK, rfl⟩ := hrel
        by_cases hlt9 : k < 9
        · have hwk := HWS.out k hlt9
          have i1 : (k : Int) < 9 := by omega
          have HC := hide (fun w => digits_any (wd s k) w)
          have hpk := HPT.out k hlt9
          have HNV := hide (show nv s k = (num (wd s k).data.toList).getD 0 from rfl)
          have HRK := hide (HRB.out k hlt9)
          have hf9 : (ints (fill (nv s) k)).size = 9 := by rw [ints_size, fill_len]
          rcases hnum : num (wd s k).data.toList with _ | v
          · have HNM := hide hnum
            clear hnum
            go_wp2_with (go_at_call 22; refine (HC.out _).mono ?_; intro e w' hno; obtain ⟨kv, rfl, hbl⟩ := hno.no HNM.out; obtain ⟨os2, n2, rfl⟩ := below_plus hbl; clear hbl hno)
            go_returns
            unfold ReadOut
            rw [HRK.out HNM.out]
            exact ⟨rfl, by repeat (first | exact Below.refl _ _ | refine bl_plus ?_ | refine bl_alloc ?_ _ | refine bl_drew ?_)⟩
          · have HNM := hide hnum
            clear hnum
            go_wp2_with (go_at_call 22; refine (HC.out _).mono ?_; intro e w' hno; obtain ⟨rfl, hbl⟩ := hno.yes HNM.out; obtain ⟨os2, n2, rfl⟩ := below_plus hbl; clear hbl hno)
            go_roundw
            case rel =>
              refine ⟨k + 1, os ++ os2, n2, hlt9, by go_num, hide (fun j hj => ?_), ?_⟩
              · rcases Nat.lt_or_ge j k with h | h
                · exact HK.out j h
                · rw [show j = k by omega, HNM.out]; rfl
              · have hv : v = nv s k := by rw [HNV.out, HNM.out]; rfl
                rw [hv, ints_set, fill_set, plus_plus]
            case measure => simp [intOf]; omega
        · have hk9 : k = 9 := by omega
          subst hk9
          have hrg := HRG.out (allNum_at HK.out)
          have hst : (stOf s).val = .agg (ints (fill (nv s) 9)) := by rw [fill_nine]; rfl
          have hck := hck (stOf s)
          rw [hst, fill_nine] at hck
          rw [fill_nine]
          have hst2 := hst
          rw [fill_nine] at hst2
          generalize (stOf s).err = r at *
          have hrg2 : (r = 0 ∧ readS s = (stOf s, 0)) ∨ (r ≠ 0 ∧ readS s = (stZero, r)) := by
            by_cases hr : r = 0
            · exact .inl ⟨hr, by rw [hrg, if_pos hr]⟩
            · exact .inr ⟨hr, by rw [hrg, if_neg hr]⟩
          have HCK := hide hck
          have HST := hide hst2
          clear hrg hck hst hst2
          generalize nv s 0 = c0 at *
          generalize nv s 1 = c1 at *
          generalize nv s 2 = c2 at *
          generalize nv s 3 = c3 at *
          generalize nv s 4 = c4 at *
          generalize nv s 5 = c5 at *
          generalize nv s 6 = c6 at *
          generalize nv s 7 = c7 at *
          generalize nv s 8 = c8 at *
          rcases hrg2 with ⟨rfl, hr⟩ | ⟨hr0, hr⟩
          · have HR := hide hr
            clear hr
            go_wp2_with (go_at_call 10; refine (HCK.out _).mono ?_; rintro e w' ⟨rfl, hbl⟩; obtain ⟨os2, n2, rfl⟩ := below_plus hbl; clear hbl)
            go_returns
            unfold ReadOut
            rw [HR.out, HST.out]
            exact ⟨rfl, by repeat (first | exact Below.refl _ _ | refine bl_plus ?_ | refine bl_alloc ?_ _ | refine bl_drew ?_)⟩
          · have HR := hide hr
            clear hr
            have hne : (r != 0) = true := bne_iff_ne.2 hr0
            go_wp2_with (go_at_call 10; refine (HCK.out _).mono ?_; rintro e w' ⟨rfl, hbl⟩; obtain ⟨os2, n2, rfl⟩ := below_plus hbl; clear hbl)
            go_returns
            unfold ReadOut
            rw [HR.out]
            exact ⟨rfl, by repeat (first | exact Below.refl _ _ | refine bl_plus ?_ | refine bl_alloc ?_ _ | refine bl_drew ?_)⟩
    · have HR := hide (show readS s = (stZero, 8) by unfold readS; rw [if_neg h1, if_pos h2])
      have hn9 : ((wordsOf s).length : Int) ≠ 9 := by omega
      have hn9b : (((wordsOf s).length : Int) != 9) = true := bne_iff_ne.2 hn9
      generalize ((wordsOf s).map Value.string).toArray = ws at *
      generalize (wordsOf s).length = len at *
      clear hck
      go_enter Tryd.func12, Tryd.ntmps12
      go_wp2_with (first | (go_at_call 20; refine (HSP.out _ (maxTold_below HM.out (by repeat (first | exact Below.refl _ _ | refine bl_plus ?_ | refine bl_alloc ?_ _ | refine bl_drew ?_)))).mono ?_; rintro e w' ⟨rfl, rfl⟩) | (go_at_call 15; refine (numbersOf_any _ _).mono ?_; rintro e w' ⟨rfl, rfl⟩))
      go_returns
      unfold ReadOut
      rw [HR.out]
      exact ⟨rfl, by repeat (first | exact Below.refl _ _ | refine bl_plus ?_ | refine bl_alloc ?_ _ | refine bl_drew ?_)⟩

end Go.Proofs.YtplmcpecffjheaaDoor
