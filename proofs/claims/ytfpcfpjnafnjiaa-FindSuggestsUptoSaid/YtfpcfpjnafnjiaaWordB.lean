/-
  WALKS: the reference's words.
-/
import Derived.Test.YtfpcfpjnafnjiaaWordA
import Derived.Test.YtfpcfpjnafnjiaaDistA
set_option linter.all false
namespace Go.Proofs.Ytfpcfpjnafnjiaa
open Go.RowKit
attribute [local go_sem high] run_max_i

theorem new_cells3 {w : World} {t : TypeId} {a b c : Value} {g : Nat} (hg : g = w.heap.size) : ∀ j u, [a, b, c][j]? = some u → (w.alloc (.cells #[a, b, c] t)).cell? ((⟨g, 0, none⟩ : Addr).add j) = some u := by
  subst hg
  intro j u hj
  have hadd : (⟨w.heap.size, 0, none⟩ : Addr).add j = ⟨w.heap.size, j, none⟩ := by unfold Addr.add; split <;> simp_all
  rw [hadd, (Blk.new w t _).cell j]
  simpa using hj
/-- How many words have come, by where the search stands. -/
def FewW (s : ByteArray) (i n : Nat) : Prop := 2 * n ≤ i ∨ (2 * n ≤ i + 1 ∧ wEnd s i = i)
theorem FewW.le {s : ByteArray} {i n : Nat} (h : FewW s i n) : 2 * n ≤ i + 1 := by rcases h with h | h <;> omega
theorem FewW.word {s : ByteArray} {i n : Nat} (h : FewW s i n) (hw : i < wEnd s i) : 2 * (n + 1) ≤ wEnd s i + 1 := by
  rcases h with h | ⟨_, h⟩ <;> omega

def WdsOut (l : List Wd) (w : World) (e : Ending) (w' : World) : Prop := ∃ v, e = .returned v ∧ OwnK 3 55 w' w.heap.size v l.length (flatW l) ∧ Below w.heap.size w w'

set_option maxHeartbeats 6400000 in
set_option maxRecDepth 100000 in
theorem wordsOf_any (s : ByteArray) (w : World) (hs : s.size ≤ 1900000) :
    Calls Try.prog 21 #[.string s] w (WdsOut (wordsAt s 0) w) := by
  generalize hR : wordsAt s 0 = R
  have HR := hide hR
  obtain ⟨iS, hiS, hzS0, hzS1, hzS2⟩ := info_parts info_wd
  have HIS := hide (And.intro hiS (And.intro hzS0 (And.intro hzS1 hzS2)))
  clear hR hiS hzS0 hzS1 hzS2
  go_enter Try.func21, Try.ntmps21
  go_wp2
  go_loopw [3, 4] (fun v i wr => ∃ (i0 : Nat) (out : List Wd) (os : Array Obj) (n : Nat), i0 ≤ s.size ∧ i = .int .i64 i0 ∧ Hid (out ++ wordsAt s i0 = R ∧ FewW s i0 out.length) ∧ OwnK 3 55 wr w.heap.size v out.length (flatW out) ∧ wr = plus w os n) (fun _ i _ => s.size - (intOf i).toNat)
  case atStart => exact ⟨0, [], #[], _, Nat.zero_le _, rfl, hide ⟨HR.out, .inl (by simp)⟩, OwnK.empty, plus_nil.symm⟩
  case round =>
    obtain ⟨i, out, os, n, hi, rfl, HI, ho, rfl⟩ := hrel
    obtain ⟨A5, c5, rfl, hc5⟩ := ho.form
    have HO := hide ho
    clear ho
    by_cases hlt : i < s.size
    · have i1 : (i : Int) < (s.size : Int) := by omega
      have hE : ∃ E, E = wEnd s i := ⟨_, rfl⟩
      obtain ⟨E, hE⟩ := hE
      have HE := hide hE
      clear hE
      go_upto_region 5 with (fail)
      go_loop [5] (fun v => ∃ k : Nat, i ≤ k ∧ k ≤ s.size ∧ v = .int .i64 k ∧ Hid (wEnd s k = E)) (fun v => s.size - (intOf v).toNat)
      case atStart => exact ⟨i, Nat.le_refl _, by omega, rfl, hide HE.out.symm⟩
      case round =>
      obtain ⟨k, hk1, hk2, rfl, HK⟩ := hrel
      by_cases hkl : k < s.size ∧ isWI (sb s k).toNat = true
      · obtain ⟨hks, hkw⟩ := hkl
        rw [sb_at hks] at hkw
        have hst := wEnd_step hks hkw
        rw [HK.out] at hst
        have HST := hide hst.symm
        have hbd : 0 ≤ (s[k].toNat : Int) ∧ (s[k].toNat : Int) ≤ 255 := by have := s[k].toNat_lt; omega
        have hw := fun w => isWordR_any (s[k].toNat : Int) w hbd.1 hbd.2
        rw [hkw] at hw
        have HW := hide hw
        have k1 : (k : Int) < (s.size : Int) := by omega
        clear hst hw hkw hbd
        go_wp2_with (go_at_call 41; refine (HW.out _).mono ?_; rintro e w' ⟨rfl, rfl⟩)
        go_round
        case rel => exact ⟨k + 1, by omega, by omega, by go_num, HST⟩
        case measure => simp [intOf]; omega
      have hkE : k = E := by
        by_cases hks : k < s.size
        · have hkw : isWI s[k].toNat = false := by
            rw [← sb_at hks]
            cases h : isWI (sb s k).toNat with
            | false => rfl
            | true => exact absurd ⟨hks, h⟩ hkl
          rw [← HK.out, wEnd_stop hks hkw]
        · rw [← HK.out, wEnd_over (by omega)]
      have hw2 : (hks : k < s.size) → ∀ w, Calls Try.prog 41 #[.int .u8 (s[k].toNat : Int)] w fun e w' => e = .returned (.bool false) ∧ w = w' := fun hks w => by
        have hkw : isWI s[k].toNat = false := by
          rw [← sb_at hks]
          cases h : isWI (sb s k).toNat with
          | false => rfl
          | true => exact absurd ⟨hks, h⟩ hkl
        have hbd : 0 ≤ (s[k].toNat : Int) ∧ (s[k].toNat : Int) ≤ 255 := by have := s[k].toNat_lt; omega
        have := isWordR_any (s[k].toNat : Int) w hbd.1 hbd.2
        rwa [hkw] at this
      have HW2 := hide hw2
      obtain ⟨hi1, hi2⟩ := HI.out
      rw [wordsAt_step hlt, ← HE.out] at hi1
      have hnext : max E (i + 1) ≤ s.size := by omega
      have hmx : max (k : Int) ((i : Int) + 1) = ((max E (i + 1) : Nat) : Int) := by omega
      have HMX := hide hmx
      have HKE := hide hkE
      clear hkl hw2 hmx hkE
      have hks : k < s.size ∨ (¬ k < s.size) := by omega
      by_cases hwd : i < k ∧ k ≤ i + 30
      · have hwh : wdHere s i E = [⟨lowS (s.extract i k), i, k⟩] := by unfold wdHere; rw [← HKE.out, if_pos hwd]
        rw [hwh] at hi1
        have hfew := hi2.word (by rw [← HE.out, ← HKE.out]; exact hwd.1)
        have hfl := hi2.le
        have hfew2 : FewW s (max E (i + 1)) (out.length + 1) := by
          have hk2 := HKE.out
          rw [← HE.out] at hfew
          rw [show max E (i + 1) = E by omega]
          exact .inr ⟨hfew, by rw [← HKE.out, HK.out, HKE.out]⟩
        have HI2 := hide (And.intro hi1 hfew2)
        have hlow := fun w => bytesSmall_any (s.extract i k) w (by rw [ByteArray.size_extract]; omega)
        have HLOW := hide hlow
        obtain ⟨g1, g2⟩ := hwd
        have g3 : (i : Int) < (k : Int) := by omega
        have g4 : (k : Int) - (i : Int) ≤ 30 := by omega
        have g5 : (k : Int) ≤ (s.size : Int) := by omega
        clear hi1 hi2 hwh hfew hfew2 hlow HI
        rcases hks with k1 | k1
        all_goals
          have k2 := k1
          rw [← Int.ofNat_lt] at k2
          go_wp2_with (first
            | (go_at_call 41; refine (HW2.out k1 _).mono ?_; rintro e w' ⟨rfl, rfl⟩)
            | (go_at_call 42; refine (HLOW.out _).mono ?_; rintro e w' ⟨rfl, hb⟩; obtain ⟨os1, n1, rfl⟩ := below_plus hb; clear hb)
            | (at_builtin; go_loud (refine wpList_append_k rfl (.tmp 32) (.tmp 41) rfl rfl Try.underlying52 HIS.out.1 HIS.out.2.1 HIS.out.2.2.1 (by decide) rfl (by have := HIS.out.2.2.2; omega) w.heap.size out.length _ (flatW out) (Wd.cells ⟨lowS (s.extract i k), i, k⟩) _ rfl ((HO.out.plus _ _).alloc _) rfl (by intro u hu; simp only [Wd.cells, List.mem_cons, List.not_mem_nil, or_false] at hu; rcases hu with rfl | rfl | rfl <;> rfl) rfl (new_cells3 (by simp only [plus_size])) (by omega) (by simp only [World.size_alloc, plus_size]; omega) ?_; intro v' w1 hown1 hgr1 hfr1; obtain ⟨os9, n9, rfl⟩ := grown_plus (L := w) (by repeat (first | exact Below.refl _ _ | refine bl_plus ?_ | refine bl_alloc ?_ _ | refine bl_drew ?_)) hgr1 (fun q hq => (HO.out.lt q hq).1); have HN := hide hown1; clear hown1 hgr1 hfr1)))
          rw [HMX.out]
          go_roundw
          case rel => exact ⟨_, out ++ [⟨lowS (s.extract i k), i, k⟩], _, _, hnext, rfl, hide (by
            obtain ⟨q1, q2⟩ := HI2.out
            refine ⟨by rw [← q1]; simp, by simpa using q2⟩), by rw [flatW_snoc]; simpa using HN.out, rfl⟩
          case measure => simp [intOf]; omega
      · have hwh : wdHere s i E = [] := by unfold wdHere; rw [← HKE.out, if_neg hwd]
        rw [hwh, List.nil_append] at hi1
        have hfew2 : FewW s (max E (i + 1)) out.length := by
          have := hi2.le
          by_cases hEi : i < E
          · have := hi2.word (by rw [← HE.out]; exact hEi)
            rw [← HE.out] at this
            rcases hi2 with h | ⟨_, h⟩
            · exact .inl (by omega)
            · rw [← HE.out] at h; omega
          · exact .inl (by omega)
        have HI2 := hide (And.intro hi1 hfew2)
        have hnw : ¬ (i : Int) < (k : Int) ∨ ((i : Int) < (k : Int) ∧ ¬ (k : Int) - (i : Int) ≤ 30) := by omega
        clear hi1 hi2 hwh hfew2 HI hwd
        rcases hks with k1 | k1 <;> rcases hnw with g1 | ⟨g1, g2⟩
        all_goals
          have k2 := k1
          rw [← Int.ofNat_lt] at k2
          go_wp2_with (first
            | (go_at_call 41; refine (HW2.out k1 _).mono ?_; rintro e w' ⟨rfl, rfl⟩))
          rw [HMX.out]
          go_roundw
          case rel => exact ⟨_, out, _, _, hnext, rfl, HI2, HO.out, rfl⟩
          case measure => simp [intOf]; omega
    · have i1 : ¬ (i : Int) < (s.size : Int) := by omega
      have hfin := HI.out.1
      rw [wordsAt_over (by omega), List.append_nil] at hfin
      subst hfin
      have hown := HO.out
      clear HO HI
      go_wp2
      go_ret
      exact ⟨_, rfl, hown, by repeat (first | exact Below.refl _ _ | refine bl_plus ?_ | refine bl_alloc ?_ _ | refine bl_drew ?_)⟩

end Go.Proofs.Ytfpcfpjnafnjiaa
