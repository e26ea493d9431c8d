/-
  WALKS: Alike of two slices of rows that read alike.
-/
import Derived.Test.YtfklaahakibljaaRowI
namespace Go.Proofs.Ytfklaahakibljaa
open Go.RowKit

set_option maxHeartbeats 1600000 in
set_option maxRecDepth 100000 in
theorem equalRows_same (A B : Option Addr) (c d : Nat) (rows : List (List Int)) (w : World) (hA : RowsAt w A rows) (hB : RowsAt w B rows) (hm : rows.length ≤ 1000000) (h7 : ∀ r ∈ rows, r.length ≤ maxLen) :
    Calls Try.prog 84 #[.slice A rows.length c, .slice B rows.length d, .func (.func 40) #[] #[]] w fun e w' => e = .returned (.bool true) ∧ Below w.heap.size w w' := by
  have HA := hide hA
  have HB := hide hB
  have H7 := hide h7
  clear hA hB h7
  go_enter Try.func84, Try.ntmps84
  go_wp2
  go_loopw [17] (fun i wr => ∃ (k : Nat) (os : Array Obj) (n : Nat), k ≤ rows.length ∧ i = .int .i64 k ∧ wr = plus w os n) (fun i _ => rows.length - (intOf i).toNat)
  case atStart => exact ⟨0, #[], _, Nat.zero_le _, rfl, plus_nil.symm⟩
  case round =>
    obtain ⟨k, os, n, hk, rfl, rfl⟩ := hrel
    by_cases hlt : k < rows.length
    · obtain ⟨b, off, rfl, hb, hcell⟩ := HA.out (by omega)
      obtain ⟨b2, off2, rfl, hb2, hcell2⟩ := HB.out (by omega)
      obtain ⟨A1, c1, x0, hx⟩ := hcell k hlt
      obtain ⟨A2, c2, y0, hy⟩ := hcell2 k hlt
      have h7 := H7.out _ (List.getElem_mem hlt)
      clear hcell hcell2
      generalize rows[k] = r at *
      have HX := hide hx
      have HY := hide hy
      have HM := hide h7
      clear hx hy h7
      have i1 : (k : Int) < (rows.length : Int) := by omega
      go_wp2_with (go_at_call 40; refine (equalInts_same _ _ _ _ _ _ (HX.out.plus _ _) (HY.out.plus _ _) HM.out).mono ?_; rintro e w' ⟨rfl, hbl⟩; obtain ⟨os1, n1, rfl⟩ := below_plus hbl; clear hbl)
      go_roundw
      case rel => exact ⟨k + 1, _, _, hlt, by go_num, by rw [plus_plus]⟩
      case measure => simp [intOf]; omega
    · have hkl : k = rows.length := by omega
      subst hkl
      go_wp2
      go_ret
      exact ⟨rfl, by repeat (first | exact Below.refl _ _ | refine bl_plus ?_ | refine bl_alloc ?_ _ | refine bl_drew ?_)⟩

theorem as_rows_0 (v : Value) (w : World) : (Instr.typeAssert (.iface 46 v) 20 24 true).run Try.prog w = .ok (.tuple #[.agg #[.int .i64 0, .int .i64 0, .int .i64 0, .string ⟨#[]⟩, .slice none 0 0], .bool false]) w := by kernel_rfl
theorem as_rows_1 (v : Value) (w : World) : (Instr.typeAssert (.iface 46 v) 20 106 true).run Try.prog w = .ok (.tuple #[.slice none 0 0, .bool false]) w := by kernel_rfl
theorem as_rows_2 (v : Value) (w : World) : (Instr.typeAssert (.iface 46 v) 20 113 true).run Try.prog w = .ok (.tuple #[.agg #[.int .i64 0, .int .i64 0, .slice none 0 0, .string ⟨#[]⟩, .slice none 0 0], .bool false]) w := by kernel_rfl
theorem as_rows_3 (v : Value) (w : World) : (Instr.typeAssert (.iface 46 v) 20 116 true).run Try.prog w = .ok (.tuple #[.slice none 0 0, .bool false]) w := by kernel_rfl
theorem as_rows_4 (v : Value) (w : World) : (Instr.typeAssert (.iface 46 v) 20 122 true).run Try.prog w = .ok (.tuple #[.agg #[.slice none 0 0, .slice none 0 0], .bool false]) w := by kernel_rfl
theorem as_rows_5 (v : Value) (w : World) : (Instr.typeAssert (.iface 46 v) 20 39 true).run Try.prog w = .ok (.tuple #[.agg #[.slice none 0 0], .bool false]) w := by kernel_rfl
theorem as_rows_6 (v : Value) (w : World) : (Instr.typeAssert (.iface 46 v) 20 54 true).run Try.prog w = .ok (.tuple #[.agg #[.int .i64 0, .int .i64 0, .slice none 0 0], .bool false]) w := by kernel_rfl
theorem as_rows_7 (v : Value) (w : World) : (Instr.typeAssert (.iface 46 v) 20 67 true).run Try.prog w = .ok (.tuple #[.agg #[.int .i64 0, .int .i64 0, .int .i64 0, .int .i64 0, .int .i64 0, .slice none 0 0, .slice none 0 0, .int .i64 0, .slice none 0 0], .bool false]) w := by kernel_rfl
theorem as_rows_8 (v : Value) (w : World) : (Instr.typeAssert (.iface 46 v) 20 141 true).run Try.prog w = .ok (.tuple #[.slice none 0 0, .bool false]) w := by kernel_rfl
theorem as_rows_yes (v : Value) (w : World) : (Instr.typeAssert (.iface 46 v) 20 46 true).run Try.prog w = .ok (.tuple #[v, .bool true]) w := by kernel_rfl
attribute [local go_sem] as_rows_0 as_rows_1 as_rows_2 as_rows_3 as_rows_4 as_rows_5 as_rows_6 as_rows_7 as_rows_8 as_rows_yes

set_option maxHeartbeats 3200000 in
set_option maxRecDepth 100000 in
theorem alikeRows_same (A B : Option Addr) (c d : Nat) (rows : List (List Int)) (w : World) (hA : RowsAt w A rows) (hB : RowsAt w B rows) (hm : rows.length ≤ 1000000) (h7 : ∀ r ∈ rows, r.length ≤ maxLen) :
    Calls Try.prog 26 #[.iface 46 (.slice A rows.length c), .iface 46 (.slice B rows.length d)] w fun e w' => e = .returned (.bool true) ∧ Below w.heap.size w w' := by
  have H := hide (fun w hA hB => equalRows_same A B c d rows w hA hB hm h7)
  have HA := hide hA
  have HB := hide hB
  clear hA hB h7
  go_enter Try.func26, Try.ntmps26
  go_wp2_with (go_at_call 84; refine (H.out _ (HA.out.below (by repeat (first | exact Below.refl _ _ | refine bl_plus ?_ | refine bl_alloc ?_ _ | refine bl_drew ?_))) (HB.out.below (by repeat (first | exact Below.refl _ _ | refine bl_plus ?_ | refine bl_alloc ?_ _ | refine bl_drew ?_)))).mono ?_; rintro e w' ⟨rfl, hbl⟩; obtain ⟨os1, n1, rfl⟩ := below_plus hbl; clear hbl)
  go_ret
  exact ⟨rfl, by repeat (first | exact Below.refl _ _ | refine bl_plus ?_ | refine bl_alloc ?_ _ | refine bl_drew ?_)⟩

end Go.Proofs.Ytfklaahakibljaa
