/-
  WALKS: the words of a string as an iterator.
-/
import Derived.RangeFuncNested
import Derived.RangeFuncBound
import Derived.RangeFuncCalls
import Derived.RangeFuncLeaves
import Derived.RangeFuncBox
import Derived.RangeFuncMany
import Derived.RangeFuncKeeps
import Derived.RangeFuncFrom
import Derived.RangeFuncWrites
import Derived.Maps.AppendAt
import Derived.Shelf.Abstract
import Derived.WalkKit
import Derived.OwnWalkIn
import Derived.TacticsInMore
import Derived.LoopNIn
import Derived.LoopIn
import Derived.Test.YtfpcfpjnafnjiaaWordB
set_option linter.all false
namespace Go.Proofs.Ytfpcfpjnafnjiaa
open Go.RowKit Go.Shelf
attribute [local go_sem] Oper.semAt_some
attribute [local go_sem high] run_max_i

def Wd.val (x : Wd) : Value := .agg #[.string x.t, .int .i64 x.f, .int .i64 x.u]

theorem fence_ok (f : FuncId) : Fence.wide.fn f := trivial
def IterOut (s : ByteArray) (J Jx : List Wd → World → Prop) (e : Ending) (W' : World) : Prop := (∃ v, e = .returned v) ∧ ((∃ ys, ys = wordsAt s 0 ∧ J ys W') ∨ (∃ pre, pre <+: wordsAt s 0 ∧ Jx pre W'))
theorem grownBy_below {w w' : World} (h : Below w.heap.size w w') : w.grownBy w' none := ⟨h.os, h.tape, h.output, h.size, fun b hb _ => h.block b hb⟩

set_option maxHeartbeats 6400000 in
set_option maxRecDepth 100000 in
theorem words1_in (n : Nat) (hn : 1 ≤ n) (l Bn n₀ : Nat) (s : ByteArray) (hs : s.size ≤ 1900000) (J Jx : List Wd → World → Prop)
    (hY : ∀ pre x W, J pre W → 2 * pre.length ≤ s.size + 1 → YieldAt Fence.wide (n - 1) Try.prog l #[x.val] W fun e W' =>
      (e = .returned (.bool true) ∧ J (pre ++ [x]) W' ∧ Below n₀ W W') ∨ (e = .returned (.bool false) ∧ Jx (pre ++ [x]) W'))
    (W : World) (hJ : AbidesFrom W.heap.size J) (hBn : W.cell? ⟨Bn, 0, none⟩ = some (.string s)) (hlt : Bn < n₀) (hn₀ : n₀ ≤ W.heap.size) (h0 : J [] W) :
    CallsIn Fence.wide n Try.prog 64 #[.func (.yield l) #[] #[], .pointer (some ⟨Bn, 0, none⟩)] W (IterOut s J Jx) := by
  have HBn := hide hBn
  have HJ := hide hJ
  have HY := hide hY
  clear hBn hJ hY
  refine callsIn_of_wp Try.func64 rfl trivial ?_ rfl
  simp only [Try.ntmps64, List.size_toArray, List.length_cons, List.length_nil, Nat.reduceAdd, Nat.reduceSub, Array.replicate_succ, Array.replicate_zero, List.push_toArray, List.append_toArray, List.nil_append, List.cons_append]
  gi_wp2
  gi_loopw [3] (fun i wr => ∃ (i0 : Nat) (pre : List Wd), i0 ≤ s.size ∧ i = .int .i64 i0 ∧ Hid (pre ++ wordsAt s i0 = wordsAt s 0 ∧ FewW s i0 pre.length ∧ J pre wr ∧ Below n₀ W wr)) (fun i _ => s.size - (intOf i).toNat)
  case atStart => exact ⟨0, [], Nat.zero_le _, rfl, hide ⟨rfl, .inl (by simp), h0, Below.refl _ _⟩⟩
  case round =>
    obtain ⟨i, pre, hi, rfl, HI⟩ := hrel
    have hcb : wr.cell? ⟨Bn, 0, none⟩ = some (.string s) := (HI.out.2.2.2.cell (p := ⟨Bn, 0, none⟩) hlt).trans HBn.out
    by_cases hlti : i < s.size
    · have i1 : (i : Int) < (s.size : Int) := by omega
      obtain ⟨E, hE⟩ : ∃ E, E = wEnd s i := ⟨_, rfl⟩
      have HE := hide hE
      clear hE
      gi_wp2
      gi_loopw [4] (fun v wx => ∃ k : Nat, i ≤ k ∧ k ≤ s.size ∧ v = .int .i64 k ∧ Hid (wEnd s k = E) ∧ wx = wr) (fun v _ => s.size - (intOf v).toNat)
      case atStart => exact ⟨i, Nat.le_refl _, by omega, rfl, hide HE.out.symm, rfl⟩
      case round =>
      rename_i wr0
      obtain ⟨k, hk1, hk2, rfl, HK, rfl⟩ := hrel
      by_cases hkl : k < s.size ∧ isWI (sb s k).toNat = true
      · obtain ⟨hks, hkw⟩ := hkl
        rw [sb_at hks] at hkw
        have hst := wEnd_step hks hkw
        rw [HK.out] at hst
        have HST := hide hst.symm
        have hbd : 0 ≤ (s[k].toNat : Int) ∧ (s[k].toNat : Int) ≤ 255 := by have := s[k].toNat_lt; omega
        have hw := fun w => isWordByte_any (s[k].toNat : Int) w hbd.1 hbd.2
        rw [hkw] at hw
        have HW := hide hw
        have k1 : (k : Int) < (s.size : Int) := by omega
        clear hst hw hkw hbd
        gi_wp2_with (refine ⟨trivial, ?_⟩; gi_at_call 65; refine (callsIn_wide.2 (HW.out _)).mono ?_; rintro e w' ⟨rfl, rfl⟩)
        go_roundw
        case rel => exact ⟨k + 1, by omega, by omega, by go_num, HST, by trivial⟩
        case measure => simp [intOf]; omega
      have hkE : k = E := by
        by_cases hks : k < s.size
        · have hkw : isWI s[k].toNat = false := by
            rw [← sb_at hks]
            cases h : isWI (sb s k).toNat with
            | false => rfl
            | true => exact absurd ⟨hks, h⟩ hkl
          rw [← HK.out, wEnd_stop hks hkw]
        · rw [← HK.out, wEnd_over (by omega)]
      have hw2 : (hks : k < s.size) → ∀ w, Calls Try.prog 65 #[.int .u8 (s[k].toNat : Int)] w fun e w' => e = .returned (.bool false) ∧ w = w' := fun hks w => by
        have hkw : isWI s[k].toNat = false := by
          rw [← sb_at hks]
          cases h : isWI (sb s k).toNat with
          | false => rfl
          | true => exact absurd ⟨hks, h⟩ hkl
        have hbd : 0 ≤ (s[k].toNat : Int) ∧ (s[k].toNat : Int) ≤ 255 := by have := s[k].toNat_lt; omega
        have := isWordByte_any (s[k].toNat : Int) w hbd.1 hbd.2
        rwa [hkw] at this
      have HW2 := hide hw2
      obtain ⟨hi1, hi2, hi3, hi4⟩ := HI.out
      rw [wordsAt_step hlti, ← HE.out] at hi1
      have hnext : max E (i + 1) ≤ s.size := by omega
      have hmx : max (k : Int) ((i : Int) + 1) = ((max E (i + 1) : Nat) : Int) := by omega
      have HMX := hide hmx
      have HKE := hide hkE
      clear hkl hw2 hmx hkE
      have hks : k < s.size ∨ (¬ k < s.size) := by omega
      by_cases hwd : i < k ∧ k ≤ i + 30
      · have hwh : wdHere s i E = [⟨lowS (s.extract i k), i, k⟩] := by unfold wdHere; rw [← HKE.out, if_pos hwd]
        rw [hwh] at hi1
        have hfew := hi2.word (by rw [← HE.out, ← HKE.out]; exact hwd.1)
        have hfl := hi2.le
        have hfew2 : FewW s (max E (i + 1)) (pre.length + 1) := by
          have hk2 := HKE.out
          rw [← HE.out] at hfew
          rw [show max E (i + 1) = E by omega]
          exact .inr ⟨hfew, by rw [← HKE.out, HK.out, HKE.out]⟩
        have HI2 := hide (And.intro hi1 (And.intro hfew2 (And.intro hi3 hi4)))
        have hlow := fun w => lower_any (s.extract i k) w (by rw [ByteArray.size_extract]; omega)
        have HLOW := hide hlow
        obtain ⟨g1, g2⟩ := hwd
        have g3 : (0 : Int) < (k : Int) - (i : Int) := by omega
        have g4 : (k : Int) - (i : Int) ≤ 30 := by omega
        have g5 : (k : Int) ≤ (s.size : Int) := by omega
        have g6 : (i : Int) ≤ (k : Int) := by omega
        have HFL := hide hfl
        clear hi1 hi2 hi3 hi4 hwh hfew hfew2 hlow HI hfl
        rcases hks with k1 | k1
        · have k2 : (k : Int) < (s.size : Int) := by omega
          gi_wp2_with (first
            | (refine ⟨trivial, ?_⟩; gi_at_call 65; refine (callsIn_wide.2 (HW2.out k1 _)).mono ?_; rintro e w' ⟨rfl, rfl⟩)
            | (refine ⟨trivial, ?_⟩; gi_at_call 8; refine (callsIn_wide.2 (HLOW.out _)).mono ?_; rintro e w' ⟨rfl, hb⟩; have HB := hide hb; clear hb; obtain ⟨fn, tmps, assign, body, hy, hR⟩ := HY.out pre ⟨lowS (s.extract i k), i, k⟩ w' (HJ.out _ _ _ none HI2.out.2.2.1 (grownBy_below HB.out) (fun r e => by cases e)) (by have := HFL.out; omega); dsimp only [Wd.val] at hy; have HR := hide hR; clear hR))
          refine HR.out.mono ?_
          rintro e W3 (⟨rfl, hJ3, hk3⟩ | ⟨rfl, hJx3⟩)
          · have hB3 : Below n₀ W W3 := (HI2.out.2.2.2.trans (HB.out.mono (by have := HI2.out.2.2.2.size; omega))).trans hk3
            have HF := hide (And.intro hJ3 hB3)
            clear hJ3 hB3 hk3 hy
            gi_wp2
            rw [HMX.out]
            go_roundw
            case rel => exact ⟨_, pre ++ [⟨lowS (s.extract i k), i, k⟩], hnext, rfl, hide (by
              obtain ⟨q1, q2, _, _⟩ := HI2.out
              exact ⟨by rw [← q1]; simp, by simpa using q2, HF.out.1, HF.out.2⟩)⟩
            case measure => simp [intOf]; omega
          · have hpf : pre ++ [⟨lowS (s.extract i k), i, k⟩] <+: wordsAt s 0 := ⟨wordsAt s (max E (i + 1)), by rw [← HI2.out.1]; simp⟩
            have HF := hide (And.intro hJx3 hpf)
            clear hJx3 hpf hy
            gi_wp2
            refine bodyPost_ret (results_none rfl _ _ _) rfl ?_
            exact ⟨⟨_, rfl⟩, .inr ⟨_, HF.out.2, HF.out.1⟩⟩
        · have k2 : ¬ (k : Int) < (s.size : Int) := by omega
          gi_wp2_with (first
            | (refine ⟨trivial, ?_⟩; gi_at_call 8; refine (callsIn_wide.2 (HLOW.out _)).mono ?_; rintro e w' ⟨rfl, hb⟩; have HB := hide hb; clear hb; obtain ⟨fn, tmps, assign, body, hy, hR⟩ := HY.out pre ⟨lowS (s.extract i k), i, k⟩ w' (HJ.out _ _ _ none HI2.out.2.2.1 (grownBy_below HB.out) (fun r e => by cases e)) (by have := HFL.out; omega); dsimp only [Wd.val] at hy; have HR := hide hR; clear hR)
            | (with_reducible refine And.intro (fence_ok _) ?_))
          refine HR.out.mono ?_
          rintro e W3 (⟨rfl, hJ3, hk3⟩ | ⟨rfl, hJx3⟩)
          · have hB3 : Below n₀ W W3 := (HI2.out.2.2.2.trans (HB.out.mono (by have := HI2.out.2.2.2.size; omega))).trans hk3
            have HF := hide (And.intro hJ3 hB3)
            clear hJ3 hB3 hk3 hy
            gi_wp2
            rw [HMX.out]
            go_roundw
            case rel => exact ⟨_, pre ++ [⟨lowS (s.extract i k), i, k⟩], hnext, rfl, hide (by
              obtain ⟨q1, q2, _, _⟩ := HI2.out
              exact ⟨by rw [← q1]; simp, by simpa using q2, HF.out.1, HF.out.2⟩)⟩
            case measure => simp [intOf]; omega
          · have hpf : pre ++ [⟨lowS (s.extract i k), i, k⟩] <+: wordsAt s 0 := ⟨wordsAt s (max E (i + 1)), by rw [← HI2.out.1]; simp⟩
            have HF := hide (And.intro hJx3 hpf)
            clear hJx3 hpf hy
            gi_wp2
            refine bodyPost_ret (results_none rfl _ _ _) rfl ?_
            exact ⟨⟨_, rfl⟩, .inr ⟨_, HF.out.2, HF.out.1⟩⟩
      · have hwh : wdHere s i E = [] := by unfold wdHere; rw [← HKE.out, if_neg hwd]
        rw [hwh, List.nil_append] at hi1
        have hfew2 : FewW s (max E (i + 1)) pre.length := by
          have := hi2.le
          by_cases hEi : i < E
          · have := hi2.word (by rw [← HE.out]; exact hEi)
            rw [← HE.out] at this
            rcases hi2 with h | ⟨_, h⟩
            · exact .inl (by omega)
            · rw [← HE.out] at h; omega
          · exact .inl (by omega)
        have HI2 := hide (And.intro hi1 (And.intro hfew2 (And.intro hi3 hi4)))
        have hnw : ¬ (0 : Int) < (k : Int) - (i : Int) ∨ ((0 : Int) < (k : Int) - (i : Int) ∧ ¬ (k : Int) - (i : Int) ≤ 30) := by omega
        clear hi1 hi2 hi3 hi4 hwh hfew2 HI hwd
        rcases hks with k1 | k1 <;> rcases hnw with g1 | ⟨g1, g2⟩
        all_goals try (exfalso; omega)
        all_goals
          have k2 := k1
          rw [← Int.ofNat_lt] at k2
          gi_wp2_with (first
            | (refine ⟨trivial, ?_⟩; gi_at_call 65; refine (callsIn_wide.2 (HW2.out k1 _)).mono ?_; rintro e w' ⟨rfl, rfl⟩)
            | (with_reducible refine And.intro (fence_ok _) ?_)
            | (with_reducible refine And.intro (fun _ h => (by cases h)) ?_))
          rw [HMX.out]
          go_roundw
          case rel => exact ⟨_, pre, hnext, rfl, HI2⟩
          case measure => simp [intOf]; omega
    · have i1 : ¬ (i : Int) < (s.size : Int) := by omega
      obtain ⟨q1, q2, q3, q4⟩ := HI.out
      rw [wordsAt_over (by omega), List.append_nil] at q1
      have HQ := hide (And.intro q1 q3)
      clear q1 q2 q3 q4
      gi_wp2
      go_end0
      exact ⟨⟨_, rfl⟩, .inl ⟨pre, HQ.out.1, HQ.out.2⟩⟩

set_option maxHeartbeats 1000000 in
theorem wordsOf_in (n : Nat) (s : ByteArray) (w : World) :
    CallsIn Fence.wide n Try.prog 49 #[.string s] w fun e w' => e = .returned (.func (.func 64) #[] #[.pointer (some ⟨w.heap.size, 0, none⟩)]) ∧ w' = w.alloc (.cells #[.string s] 9) := by
  refine callsIn_of_wp Try.func49 rfl trivial ?_ rfl
  simp only [Try.ntmps49, List.size_toArray, List.length_cons, List.length_nil, Nat.reduceAdd, Nat.reduceSub, Array.replicate_succ, Array.replicate_zero, List.push_toArray, List.append_toArray, List.nil_append, List.cons_append]
  gi_wp2
  go_ret
  exact ⟨rfl, rfl⟩

/-- The value that wordsOf hands back gives the words of the string, or a part of them. -/
theorem words_stops (n : Nat) (hn : 1 ≤ n) (Bn n₀ : Nat) (s : ByteArray) (hs : s.size ≤ 1900000) (w : World) (hlt : Bn < n₀) (hn₀ : n₀ ≤ w.heap.size) (hc : w.cell? ⟨Bn, 0, none⟩ = some (.string s)) :
    SeqStopsK Fence.wide n Try.prog 64 #[.pointer (some ⟨Bn, 0, none⟩)] (fun x : Wd => #[x.val]) (Below n₀) (fun ys => ys = wordsAt s 0) (fun pre => pre <+: wordsAt s 0) 950001 w := fun l J Jx W hW hJ _ hY h0 =>
  words1_in n hn l Bn n₀ s hs J Jx (fun pre x W1 h1 h2 => hY pre x W1 h1 (by omega)) W hJ ((hW.cell (p := ⟨Bn, 0, none⟩) (by show Bn < w.heap.size; omega)).trans hc) hlt (by have := hW.size; omega) h0

end Go.Proofs.Ytfpcfpjnafnjiaa
