/-
  WALKS: parts of strings that read alike are alike.
-/
import Derived.Test.YtfnooipkghfmoaaSnk
set_option linter.all false
namespace Go.Proofs.Ytfnooipkghfmoaa
open Go.RowKit Go.Lib

set_option maxHeartbeats 800000 in
set_option maxRecDepth 100000 in
theorem equalMks_same (A B : Option Addr) (c c' : Nat) (xs : List Wd) (w : World) (hA : MksAt w A xs) (hB : MksAt w B xs) (hm : xs.length ≤ 2000000) :
    Calls Try.prog 35 #[.slice A xs.length c, .slice B xs.length c'] w fun e w' => e = .returned (.bool true) ∧ Below w.heap.size w w' := by
  have HA := hide hA
  have HB := hide hB
  clear hA hB
  go_enter Try.func35, Try.ntmps35
  go_wp2
  go_loopw [13] (fun i wr => ∃ (k n : Nat), k ≤ xs.length ∧ i = .int .i64 k ∧ wr = w.drewN n) (fun i _ => xs.length - (RowKit.intOf i).toNat)
  case atStart => exact ⟨0, 0, Nat.zero_le _, rfl, rfl⟩
  case round =>
    obtain ⟨k, n, hk, rfl, rfl⟩ := hrel
    by_cases hlt : k < xs.length
    · obtain ⟨b, off, rfl, hb, hcell⟩ := HA.out (by omega)
      obtain ⟨b', off', rfl, hb', hcell'⟩ := HB.out (by omega)
      obtain ⟨c0, c1⟩ := hcell k hlt
      obtain ⟨d0, d1⟩ := hcell' k hlt
      generalize xs[k] = x at c0 c1 d0 d1
      clear hcell hcell'
      have i1 : (k : Int) < (xs.length : Int) := by omega
      go_wp2
      go_quiet (fail)
      go_wp2
      go_roundw
      case rel => exact ⟨k + 1, _, hlt, by go_num, rfl⟩
      case measure => simp [RowKit.intOf]; omega
    · have hkl : k = xs.length := by omega
      go_wp2
      go_returns
      exact ⟨rfl, bl_drewN (Below.refl _ _) _⟩

theorem as_snip_0 (v : Value) (w : World) : (Instr.typeAssert (.iface 27 v) 20 69 true).run Try.prog w = .ok (.tuple #[.agg #[.int .i64 0, .int .i64 0, .int .i64 0, .string ⟨#[]⟩, .slice none 0 0], .bool false]) w := by kernel_rfl
theorem as_snip_1 (v : Value) (w : World) : (Instr.typeAssert (.iface 27 v) 20 72 true).run Try.prog w = .ok (.tuple #[.slice none 0 0, .bool false]) w := by kernel_rfl
theorem as_snip_2 (v : Value) (w : World) : (Instr.typeAssert (.iface 27 v) 20 80 true).run Try.prog w = .ok (.tuple #[.agg #[.int .i64 0, .int .i64 0, .slice none 0 0, .string ⟨#[]⟩, .slice none 0 0], .bool false]) w := by kernel_rfl
theorem as_snip_3 (v : Value) (w : World) : (Instr.typeAssert (.iface 27 v) 20 83 true).run Try.prog w = .ok (.tuple #[.slice none 0 0, .bool false]) w := by kernel_rfl
theorem as_snip_4 (v : Value) (w : World) : (Instr.typeAssert (.iface 27 v) 20 36 true).run Try.prog w = .ok (.tuple #[.agg #[.slice none 0 0, .slice none 0 0], .bool false]) w := by kernel_rfl
theorem as_snip_5 (v : Value) (w : World) : (Instr.typeAssert (.iface 27 v) 20 24 true).run Try.prog w = .ok (.tuple #[.agg #[.slice none 0 0], .bool false]) w := by kernel_rfl
theorem as_snip_yes (v : Value) (w : World) : (Instr.typeAssert (.iface 27 v) 20 27 true).run Try.prog w = .ok (.tuple #[v, .bool true]) w := by kernel_rfl
attribute [local go_sem ↓] as_snip_0 as_snip_1 as_snip_2 as_snip_3 as_snip_4 as_snip_5 as_snip_yes

set_option maxHeartbeats 3200000 in
set_option maxRecDepth 100000 in
theorem alikeSnip_same (f u : Int) (A B : Option Addr) (c d : Nat) (xs : List Wd) (w : World) (hA : MksAt w A xs) (hB : MksAt w B xs) (hm : xs.length ≤ 2000000) :
    Calls Try.prog 7 #[.iface 27 (.agg #[.int .i64 f, .int .i64 u, .slice A xs.length c]), .iface 27 (.agg #[.int .i64 f, .int .i64 u, .slice B xs.length d])] w fun e w' => e = .returned (.bool true) ∧ Below w.heap.size w w' := by
  have H := hide (fun W (hb : Below w.heap.size w W) => equalMks_same A B c d xs W (hA.below hb) (hB.below hb) hm)
  clear hA hB
  go_enter Try.func7, Try.ntmps7
  go_wp2_with (go_at_call 35; refine (H.out _ ?hbw).mono ?_; (case hbw => repeat (first | exact Below.refl _ _ | refine bl_plus ?_ | refine bl_alloc ?_ _ | refine bl_drew ?_ | refine bl_drewN ?_ _)); rintro e w' ⟨rfl, hbl⟩; obtain ⟨os1, n1, rfl⟩ := below_plus hbl; clear hbl)
  go_ret
  exact ⟨rfl, by repeat (first | exact Below.refl _ _ | refine bl_plus ?_ | refine bl_alloc ?_ _ | refine bl_drew ?_)⟩

end Go.Proofs.Ytfnooipkghfmoaa
