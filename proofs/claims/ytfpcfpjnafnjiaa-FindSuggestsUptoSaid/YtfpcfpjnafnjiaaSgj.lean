/-
  WALKS: how often a word is there, the program's and the reference's.
-/
import Derived.Test.YtfpcfpjnafnjiaaSgi
set_option linter.all false
namespace Go.Proofs.Ytfpcfpjnafnjiaa
open Go.RowKit Go.Lib

theorem timesF_take {l : List Po} {k : Nat} (h : k < l.length) : timesF (l.take (k + 1)) = IntKind.i64.wrap (timesF (l.take k) + (l[k].ns.length : Int)) := by rw [List.take_succ_eq_append_getElem h, timesF_snoc]

set_option maxHeartbeats 3200000 in
set_option maxRecDepth 100000 in
theorem times_any (t : ByteArray) (l : List Po) (A : Option Addr) (c : Nat) (w : World) (hA : PosAt w A l) :
    Calls Try.prog 13 #[.agg #[.string t, .slice A l.length c]] w fun e w' => e = .returned (.int .i64 (timesF l)) ∧ Below w.heap.size w w' := by
  have hm := hA.1
  unfold maxLen at hm
  have HA := hide hA
  clear hA
  go_enter Try.func13, Try.ntmps13
  go_wp2
  go_loopw [3, 9] (fun v i wr => ∃ (k : Nat) (os : Array Obj) (n : Nat), k ≤ l.length ∧ v = .int .i64 (timesF (l.take k)) ∧ i = .int .i64 k ∧ wr = plus (w.alloc (.cells #[.string t, .slice A l.length c] 39)) os n) (fun _ i _ => l.length - (RowKit.intOf i).toNat)
  case atStart => exact ⟨0, #[], _, Nat.zero_le _, rfl, rfl, plus_nil.symm⟩
  case round =>
    obtain ⟨k, os, n, hk, rfl, rfl, rfl⟩ := hrel
    by_cases hlt : k < l.length
    · obtain ⟨b, o, rfl, hb, hv⟩ := HA.out.2 (by omega)
      obtain ⟨c0, _, A2, e2, c1, _⟩ := hv k hlt
      have HT := hide (timesF_take hlt)
      have hl2 : (l[k].ns.length : Int) ≤ 9223372036854775807 := by have := (HA.out.2 (by omega)); obtain ⟨_, _, _, _, h⟩ := this; have h2 := (h k hlt).2.2; obtain ⟨_, _, _, h3, _⟩ := h2; unfold maxLen at h3; omega
      clear hv
      generalize l[k] = x at *
      obtain ⟨xid, xns⟩ := x
      simp only at c0 c1 HT hl2
      generalize timesF (l.take k) = n0 at *
      obtain ⟨n1, hn1⟩ : ∃ n1, n1 = IntKind.i64.wrap (n0 + (xns.length : Int)) := ⟨_, rfl⟩
      have HN1 := hide hn1
      have hn2 := hn1.symm
      clear hn1
      go_wp2
      go_roundw
      case rel => exact ⟨k + 1, _, _, hlt, by first | (rw [HT.out, ← HN1.out]) | (rw [HT.out]), by go_num, by first | rfl | (rw [plus_alloc]) | (rw [plus_alloc, plus_drewN]) | (simp only [plus_alloc, plus_plus, plus_drewN, plus_drew])⟩
      case measure => simp [RowKit.intOf]; omega
    · obtain rfl : k = l.length := by omega
      rw [List.take_length]
      go_wp2
      go_ret
      exact ⟨rfl, (by repeat (first | with_reducible exact Below.refl _ _ | with_reducible refine bl_plus ?_ | with_reducible refine bl_alloc ?_ _ | with_reducible refine bl_drew ?_ | with_reducible refine bl_drewN ?_ _ | with_reducible refine bl_set ?_ ?_ _))⟩

set_option maxHeartbeats 3200000 in
set_option maxRecDepth 100000 in
theorem often_any (t : ByteArray) (l : List Po) (A : Option Addr) (c : Nat) (w : World) (hA : PosAt w A l) :
    Calls Try.prog 23 #[.agg #[.string t, .slice A l.length c]] w fun e w' => e = .returned (.agg #[.string t, .int .i64 l.length, .int .i64 (timesF l)]) ∧ Below w.heap.size w w' := by
  have hm := hA.1
  unfold maxLen at hm
  have HA := hide hA
  clear hA
  go_enter Try.func23, Try.ntmps23
  go_wp2
  go_loopw [15] (fun i wr => ∃ (k : Nat) (os : Array Obj) (n : Nat), k ≤ l.length ∧ i = .int .i64 k ∧ wr = plus (((w.alloc (.cells #[.string t, .slice A l.length c] 39)).alloc (.cells #[.string ByteArray.empty, .int .i64 0, .int .i64 0] 59)).alloc (.cells #[.string t, .int .i64 l.length, .int .i64 (timesF (l.take k))] 59)) os n) (fun i _ => l.length - (RowKit.intOf i).toNat)
  case atStart => exact ⟨0, #[], _, Nat.zero_le _, rfl, plus_nil.symm⟩
  case round =>
    obtain ⟨k, os, n, hk, rfl, rfl⟩ := hrel
    by_cases hlt : k < l.length
    · obtain ⟨b, o, rfl, hb, hv⟩ := HA.out.2 (by omega)
      obtain ⟨c0, _, A2, e2, c1, h3, _⟩ := hv k hlt
      have HT := hide (timesF_take hlt)
      unfold maxLen at h3
      clear hv
      generalize l[k] = x at *
      obtain ⟨xid, xns⟩ := x
      simp only at c0 c1 HT h3
      generalize timesF (l.take k) = n0 at *
      obtain ⟨n1, hn1⟩ : ∃ n1, n1 = IntKind.i64.wrap (n0 + (xns.length : Int)) := ⟨_, rfl⟩
      have HN1 := hide hn1
      have hn2 := hn1.symm
      clear hn1
      go_wp2
      go_roundw
      case rel => exact ⟨k + 1, _, _, hlt, by go_num, by rw [HT.out, ← HN1.out]; first | rfl | (rw [plus_alloc])⟩
      case measure => simp [RowKit.intOf]; omega
    · obtain rfl : k = l.length := by omega
      rw [List.take_length]
      go_wp2
      refine bodyPost_ret (v := .agg #[.string t, .int .i64 l.length, .int .i64 (timesF l)]) (by simp [results, Try.results23, go_sem]) rfl ?_
      exact ⟨rfl, (by repeat (first | with_reducible exact Below.refl _ _ | with_reducible refine bl_plus ?_ | with_reducible refine bl_alloc ?_ _ | with_reducible refine bl_drew ?_ | with_reducible refine bl_drewN ?_ _ | with_reducible refine bl_set ?_ ?_ _))⟩

end Go.Proofs.Ytfpcfpjnafnjiaa
